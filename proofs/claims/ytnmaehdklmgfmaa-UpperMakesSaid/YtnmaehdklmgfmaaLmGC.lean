/- General texts of mine, merged: LmUp, LmUpPlain, LmUp2, LmUp3, LmUpS, LmUp4, LmEqS, LmLit, LmLL, LmUsed, LmMakes, LmSaid. No program in sight. -/
import Derived.Test.YtnmaehdklmgfmaaLmGB
import Derived.Test.YtnmaehdklmgfmaaLmGA
import Derived.OpenShut
/- An upper branch as a part of what is owned: its nodes, their entries. General: no program in sight. -/
namespace Go.Lm
open Go Go.RowKit

theorem nthA_mid (x : Atom) (B : List Atom) : ∀ A : List Atom, nthA (A ++ x :: B) A.length = some x
  | [] => rfl
  | _ :: A => nthA_mid x B A
theorem dropA_mid (x : Atom) (B : List Atom) : ∀ A : List Atom, dropA (A ++ x :: B) A.length = A ++ B
  | [] => rfl
  | a :: A => by
    show a :: dropA (A ++ x :: B) A.length = a :: (A ++ B)
    rw [dropA_mid x B A]
theorem setA_mid (x y : Atom) (B : List Atom) : ∀ A : List Atom, setA (A ++ x :: B) A.length y = A ++ y :: B
  | [] => rfl
  | a :: A => by
    show a :: setA (A ++ x :: B) A.length y = a :: (A ++ y :: B)
    rw [setA_mid x y B A]
section
variable {W : Base} {g w : World}
theorem SL.mid {A B : List Atom} {x : Atom} (H : SL W g w (A ++ x :: B)) : SL W g w (x :: (A ++ B)) := by
  have := H.pick A.length (nthA_mid x B A)
  rw [dropA_mid] at this; exact this
theorem SL.unmid {A B : List Atom} {x y : Atom} (H : SL W g w (y :: (A ++ B))) : SL W g w (A ++ y :: B) := by
  have h : SL W g w (y :: dropA (A ++ x :: B) A.length) := by rw [dropA_mid]; exact H
  have := h.unpick A.length (nthA_mid x B A)
  rw [setA_mid] at this; exact this
end

/-- The types' numbers: of the branch, of a node, of the maps' keys. -/
structure UTy where
  U : TypeId
  N : TypeId
  kI : TypeId
  kS : TypeId
/-- A node: its block, what stands in its fields, and what these read as. -/
structure LNode where
  blk : Nat
  kind : Int
  mode : Int
  uid : Int
  gid : Int
  vd : Value
  data : List UInt8
  target : ByteArray
  vx : Value
  xattrs : List XattrD
  opq : Bool
  vi : Value
  ents : List (ByteArray × Int)
  up : Int
  links : Int
abbrev LNode.cells (n : LNode) : Array Value := #[.slice none 0 0, .int .i64 0, .int .i64 n.kind, .int .i64 n.mode, .int .i64 n.uid, .int .i64 n.gid, n.vd, .string n.target, n.vx, .bool n.opq, n.vi, .int .i64 n.up, .int .i64 n.links]
def entsV (l : List (ByteArray × Int)) : List (ByteArray × Value) := l.map fun p => (p.1, .int .i64 p.2)
def ptrsV (L : List (Int × LNode)) : List (Int × Value) := L.map fun p => (p.1, ptr p.2.blk 0)
def setK {κ α : Type} [MKey κ] (l : List (κ × α)) (x : κ) (v : α) : List (κ × α) := l.map fun p => if p.1 = x then (p.1, v) else p

section
variable {κ : Type} [MKey κ] {α β : Type}
theorem getK_map (f : α → β) (l : List (κ × α)) (x : κ) : getK (l.map fun p => (p.1, f p.2)) x = (getK l x).map f := by
  unfold getK
  rw [List.find?_map]
  cases h : l.find? ((fun p => decide (p.1 = x)) ∘ fun p => (p.1, f p.2)) with
  | none =>
    have : l.find? (fun p => decide (p.1 = x)) = none := h
    rw [this]; rfl
  | some p =>
    have : l.find? (fun p => decide (p.1 = x)) = some p := h
    rw [this]; rfl
theorem delK_map (f : α → β) (l : List (κ × α)) (x : κ) : delK (l.map fun p => (p.1, f p.2)) x = (delK l x).map fun p => (p.1, f p.2) := by
  unfold delK
  rw [List.filter_map]; rfl
theorem putK_map (f : α → β) (l : List (κ × α)) (x : κ) (v : α) : putK (l.map fun p => (p.1, f p.2)) x (f v) = (putK l x v).map fun p => (p.1, f p.2) := by
  unfold putK
  rw [delK_map]; rfl
theorem delK_none {l : List (κ × α)} {x : κ} (h : getK l x = none) : delK l x = l := by
  unfold delK
  refine List.filter_eq_self.2 fun p hp => ?_
  have := getK_none.1 h p hp
  simp [this]
theorem setK_split {l1 l2 : List (κ × α)} {x : κ} {v u : α} (h1 : ∀ p ∈ l1, p.1 ≠ x) (h2 : ∀ p ∈ l2, p.1 ≠ x) : setK (l1 ++ (x, v) :: l2) x u = l1 ++ (x, u) :: l2 := by
  unfold setK
  have e : ∀ l : List (κ × α), (∀ p ∈ l, p.1 ≠ x) → l.map (fun p => if p.1 = x then (p.1, u) else p) = l := fun l h => by
    conv => rhs; rw [← List.map_id l]
    exact List.map_congr_left fun p hp => by simp [h p hp]
  rw [List.map_append, List.map_cons, e l1 h1, e l2 h2]
  simp
theorem getK_split {l : List (κ × α)} {x : κ} {v : α} (hn : (l.map (·.1)).Nodup) (h : getK l x = some v) : ∃ l1 l2, l = l1 ++ (x, v) :: l2 ∧ (∀ p ∈ l1, p.1 ≠ x) ∧ (∀ p ∈ l2, p.1 ≠ x) := by
  obtain ⟨l1, l2, e⟩ := List.append_of_mem (getK_mem h)
  refine ⟨l1, l2, e, fun p hp q => ?_, fun p hp q => ?_⟩
  · rw [e, List.map_append, List.map_cons] at hn
    have h1 := (List.nodup_append.1 hn).2.2 p.1 (List.mem_map.2 ⟨p, hp, rfl⟩) x (by simp)
    exact h1 q
  · rw [e, List.map_append, List.map_cons] at hn
    have h1 := (List.nodup_cons.1 (List.nodup_append.1 hn).2.1).1
    exact h1 (by rw [← q]; exact List.mem_map.2 ⟨p, hp, rfl⟩)
end
theorem ptrs_keys (L : List (Int × LNode)) : (ptrsV L).map (·.1) = L.map (·.1) := by unfold ptrsV; rw [List.map_map]; rfl
theorem getK_ptrs (L : List (Int × LNode)) (r : Int) : getK (ptrsV L) r = (getK L r).map fun n => ptr n.blk 0 := getK_map (fun n : LNode => ptr n.blk 0) L r
theorem getK_ents (l : List (ByteArray × Int)) (s : ByteArray) : getK (entsV l) s = (getK l s).map fun x => .int .i64 x := getK_map (fun x : Int => Value.int .i64 x) l s
theorem ptrs_setK {L : List (Int × LNode)} {r : Int} {n n' : LNode} (hn : (L.map (·.1)).Nodup) (h : getK L r = some n) (hb : n'.blk = n.blk) : ptrsV (setK L r n') = ptrsV L := by
  obtain ⟨l1, l2, e, h1, h2⟩ := getK_split hn h
  rw [e, setK_split h1 h2]
  unfold ptrsV
  rw [List.map_append, List.map_append, List.map_cons, List.map_cons, hb]

section
variable {P : Program} {T : UTy} {W : Base} {g w w' : World} {l : List Atom}
def nodeL (P : Program) (T : UTy) (n : LNode) : List Atom :=
  [isA n.vd n.data, isA n.vx n.xattrs, pureA (n.target.size ≤ maxLen ∧ (n.kind = 1 → ∃ b, n.vi = .map (some b))), blk n.blk n.cells T.N, mapVA P T.kS n.vi (entsV n.ents)]
def nodeA (P : Program) (T : UTy) (n : LNode) : Atom := conjA (nodeL P T n)
def upA (P : Program) (T : UTy) (u : Nat) (q1 q2 : Int) (mb : Nat) (nx : Int) (L : List (Int × LNode)) : Atom :=
  conjA (blk u #[.int .i64 q1, .int .i64 q2, .map (some mb), .int .i64 nx] T.U :: mapA P T.kI mb (ptrsV L) :: L.map fun p => nodeA P T p.2)
variable {u mb : Nat} {q1 q2 nx : Int} {L : List (Int × LNode)}
theorem SL.upO (H : SL W g w (upA P T u q1 q2 mb nx L :: l)) : SL W g w (Lm.blk u #[.int .i64 q1, .int .i64 q2, .map (some mb), .int .i64 nx] T.U :: mapA P T.kI mb (ptrsV L) :: ((L.map fun p => Lm.nodeA P T p.2) ++ l)) := H.openC
theorem SL.upI (H : SL W g w (Lm.blk u #[.int .i64 q1, .int .i64 q2, .map (some mb), .int .i64 nx] T.U :: mapA P T.kI mb (ptrsV L) :: ((L.map fun p => Lm.nodeA P T p.2) ++ l))) : SL W g w (upA P T u q1 q2 mb nx L :: l) :=
  SL.shutC (a := Lm.blk u #[.int .i64 q1, .int .i64 q2, .map (some mb), .int .i64 nx] T.U :: mapA P T.kI mb (ptrsV L) :: L.map fun p => Lm.nodeA P T p.2) H
theorem SL.nodeO {n : LNode} (H : SL W g w (Lm.nodeA P T n :: l)) : Is g n.vd n.data ∧ Is g n.vx n.xattrs ∧ n.target.size ≤ maxLen ∧ (n.kind = 1 → ∃ b, n.vi = .map (some b)) ∧ SL W g w (Lm.blk n.blk n.cells T.N :: mapVA P T.kS n.vi (entsV n.ents) :: l) := by
  have h := SL.openC H
  obtain ⟨h1, h⟩ := SL.isv h
  obtain ⟨h2, h⟩ := SL.isv h
  obtain ⟨h3, h⟩ := SL.pure h
  exact ⟨h1, h2, h3.1, h3.2, h⟩
theorem SL.nodeI {n : LNode} (h1 : Is g n.vd n.data) (h2 : Is g n.vx n.xattrs) (h3 : n.target.size ≤ maxLen) (h4 : n.kind = 1 → ∃ b, n.vi = .map (some b)) (H : SL W g w (Lm.blk n.blk n.cells T.N :: mapVA P T.kS n.vi (entsV n.ents) :: l)) : SL W g w (Lm.nodeA P T n :: l) :=
  SL.shutC (a := nodeL P T n) ((H.addPure (p := n.target.size ≤ maxLen ∧ (n.kind = 1 → ∃ b, n.vi = .map (some b))) ⟨h3, h4⟩).addIs h2 |>.addIs h1)
/-- One node, taken out; laid back in another state. -/
theorem SL.upNode (H : SL W g w (upA P T u q1 q2 mb nx L :: l)) (KI : KeyT P T.kI Int) {r : Int} {n : LNode} (h : getK L r = some n) :
    ∃ R : List Atom, SL W g w (Lm.nodeA P T n :: R) ∧ ∀ (g' w' : World) (n' : LNode), n'.blk = n.blk → SL W g' w' (Lm.nodeA P T n' :: R) → SL W g' w' (upA P T u q1 q2 mb nx (setK L r n') :: l) := by
  have H1 := H.upO
  have hn : (L.map (·.1)).Nodup := by
    have := (H1.pick 1).mapNodup KI
    rwa [ptrs_keys] at this
  obtain ⟨l1, l2, e, h1, h2⟩ := getK_split hn h
  have hs : ∀ n', setK L r n' = l1 ++ (r, n') :: l2 := fun n' => by rw [e, setK_split h1 h2]
  have hp : ∀ n' : LNode, n'.blk = n.blk → ptrsV (l1 ++ (r, n') :: l2) = ptrsV L := fun n' hb => by rw [← hs n']; exact ptrs_setK hn h hb
  refine ⟨(Lm.blk u #[.int .i64 q1, .int .i64 q2, .map (some mb), .int .i64 nx] T.U :: mapA P T.kI mb (ptrsV L) :: l1.map fun p => Lm.nodeA P T p.2) ++ ((l2.map fun p => Lm.nodeA P T p.2) ++ l), ?_, fun g' w' n' hb H2 => ?_⟩
  · refine SL.mid ?_
    refine SL.cast H1 ?_
    rw [e]
    simp
  · refine SL.upI ?_
    rw [hs n', hp n' hb]
    refine SL.cast (SL.unmid (x := Lm.nodeA P T n) H2) ?_
    simp
/-- What can be read of a node, and of the branch. -/
structure NodeR (P : Program) (T : UTy) (g w : World) (n : LNode) : Prop where
  blk : Blk w n.blk n.cells T.N
  data : Is g n.vd n.data
  xattrs : Is g n.vx n.xattrs
  target : n.target.size ≤ maxLen
  dir : n.kind = 1 → ∃ b, n.vi = .map (some b)
  ents : MapV P T.kS w n.vi (entsV n.ents)
structure UpR (P : Program) (T : UTy) (g w : World) (u : Nat) (q1 q2 : Int) (mb : Nat) (nx : Int) (L : List (Int × LNode)) : Prop where
  ublk : Blk w u #[.int .i64 q1, .int .i64 q2, .map (some mb), .int .i64 nx] T.U
  map : MapV P T.kI w (.map (some mb)) (ptrsV L)
  nodes : ∀ r n, getK L r = some n → NodeR P T g w n
theorem NodeR.le {n : LNode} (h : NodeR P T g w n) (e : Le w w') : NodeR P T g w' n := ⟨e.blk h.blk, h.data, h.xattrs, h.target, h.dir, h.ents.le e⟩
theorem UpR.le (h : UpR P T g w u q1 q2 mb nx L) (e : Le w w') : UpR P T g w' u q1 q2 mb nx L := ⟨e.blk h.ublk, h.map.le e, fun r n hr => (h.nodes r n hr).le e⟩
theorem UpR.mono {g' : World} (h : UpR P T g w u q1 q2 mb nx L) (m : Mono g g') : UpR P T g' w u q1 q2 mb nx L :=
  ⟨h.ublk, h.map, fun r n hr => ⟨(h.nodes r n hr).blk, (h.nodes r n hr).data.mono m, (h.nodes r n hr).xattrs.mono m, (h.nodes r n hr).target, (h.nodes r n hr).dir, (h.nodes r n hr).ents⟩⟩
theorem UpR.nodup (h : UpR P T g w u q1 q2 mb nx L) (KI : KeyT P T.kI Int) : (L.map (·.1)).Nodup := by
  have := h.map.nodup KI
  rwa [ptrs_keys] at this
theorem SL.upR0 (H : SL W g w (upA P T u q1 q2 mb nx L :: l)) (KI : KeyT P T.kI Int) : UpR P T g w u q1 q2 mb nx L := by
  refine ⟨H.upO.blk 0, (H.upO.pick 1).mapR, fun r n hr => ?_⟩
  obtain ⟨R, H1, _⟩ := H.upNode KI hr
  obtain ⟨h1, h2, h3, h4, H2⟩ := H1.nodeO
  exact ⟨H2.blk 0, h1, h2, h3, h4, (H2.pick 1).mapVR⟩
theorem SL.upR (i : Nat) (H : SL W g w l) (KI : KeyT P T.kI Int) (e : nthA l i = some (upA P T u q1 q2 mb nx L) := by exact rfl) : UpR P T g w u q1 q2 mb nx L := (H.pick i e).upR0 KI
/-- A node's own fields are written. -/
theorem SL.upStore {r : Int} {n n' : LNode} (H : SL W g w (upA P T u q1 q2 mb nx L :: l)) (KI : KeyT P T.kI Int) (h : getK L r = some n) (hd : Is g n'.vd n'.data) (hx : Is g n'.vx n'.xattrs) (ht : n'.target.size ≤ maxLen)
    (hb : n'.blk = n.blk) (hk : n'.kind = n.kind) (hv : n'.vi = n.vi) (he : n'.ents = n.ents) (up : Upd w n.blk n'.cells w') : SL W g w' (upA P T u q1 q2 mb nx (setK L r n') :: l) := by
  obtain ⟨R, H1, back⟩ := H.upNode KI h
  obtain ⟨_, _, _, h4, H2⟩ := H1.nodeO
  refine back g w' n' hb (SL.nodeI hd hx ht (by rw [hk, hv]; exact h4) ?_)
  rw [hb, hv, he]
  exact H2.upd 0 up
/-- An entry is laid into a directory, or taken out. -/
theorem SL.upPut {r : Int} {n : LNode} {t e : TypeId} (H : SL W g w (upA P T u q1 q2 mb nx L :: l)) (KI : KeyT P T.kI Int) (KS : KeyT P T.kS ByteArray) (h : getK L r = some n) (hk : n.kind = 1) (ht : P.underlying t = some (.map T.kS e)) (s : ByteArray) (hs : s.size ≤ maxLen) (x : Int) (hlen : n.ents.length < maxLen) :
    ∃ w', (Instr.mapUpdate t n.vi (.string s) (.int .i64 x)).run P w = .ok () w' ∧ SL W g w' (upA P T u q1 q2 mb nx (setK L r { n with ents := putK n.ents s x }) :: l) := by
  obtain ⟨R, H1, back⟩ := H.upNode KI h
  obtain ⟨h1, h2, h3, h4, H2⟩ := H1.nodeO
  obtain ⟨b, hb⟩ := h4 hk
  rcases (H2.pick 1).mapVO with ⟨hv, _⟩ | ⟨b', hv, H3⟩
  · rw [hb] at hv; cases hv
  · obtain ⟨w', hr, H4⟩ := H3.mapPut KS ht (by unfold entsV; rw [List.length_map]; exact hlen) s hs (.int .i64 x)
    refine ⟨w', by rw [hv]; exact hr, back g w' { n with ents := putK n.ents s x } rfl (SL.nodeI h1 h2 h3 h4 ?_)⟩
    have e1 : putK (entsV n.ents) s (.int .i64 x) = entsV (putK n.ents s x) := putK_map (fun x : Int => Value.int .i64 x) n.ents s x
    rw [e1] at H4
    have H5 := H4.mapVI
    rw [← hv] at H5
    exact H5.weak fun _ q => q.swap
theorem SL.upDel {r : Int} {n : LNode} {t e ty : TypeId} (H : SL W g w (upA P T u q1 q2 mb nx L :: l)) (KI : KeyT P T.kI Int) (KS : KeyT P T.kS ByteArray) (h : getK L r = some n) (hk : n.kind = 1) (ht : P.underlying t = some (.map T.kS e)) (s : ByteArray) (hs : s.size ≤ maxLen) :
    ∃ w', (Builtin.delete_ #[t, T.kS] ty #[n.vi, .string s]).run P w = .ok (.tuple #[]) w' ∧ SL W g w' (upA P T u q1 q2 mb nx (setK L r { n with ents := delK n.ents s }) :: l) := by
  obtain ⟨R, H1, back⟩ := H.upNode KI h
  obtain ⟨h1, h2, h3, h4, H2⟩ := H1.nodeO
  obtain ⟨b, hb⟩ := h4 hk
  rcases (H2.pick 1).mapVO with ⟨hv, _⟩ | ⟨b', hv, H3⟩
  · rw [hb] at hv; cases hv
  · obtain ⟨w', hr, H4⟩ := H3.mapDel KS ht s hs (ty := ty)
    refine ⟨w', by rw [hv]; exact hr, back g w' { n with ents := delK n.ents s } rfl (SL.nodeI h1 h2 h3 h4 ?_)⟩
    have e1 : delK (entsV n.ents) s = entsV (delK n.ents s) := delK_map (fun x : Int => Value.int .i64 x) n.ents s
    rw [e1] at H4
    have H5 := H4.mapVI
    rw [← hv] at H5
    exact H5.weak fun _ q => q.swap
/-- A node goes. -/
theorem SL.upDrop {r : Int} {t e ty : TypeId} (H : SL W g w (upA P T u q1 q2 mb nx L :: l)) (KI : KeyT P T.kI Int) (ht : P.underlying t = some (.map T.kI e)) (hr : (Lit.int .i64 r).wf = true) :
    ∃ w', (Builtin.delete_ #[t, T.kI] ty #[.map (some mb), .int .i64 r]).run P w = .ok (.tuple #[]) w' ∧ SL W g w' (upA P T u q1 q2 mb nx (delK L r) :: l) := by
  have H1 := H.upO
  have hn : (L.map (·.1)).Nodup := by
    have := (H1.pick 1).mapNodup KI
    rwa [ptrs_keys] at this
  obtain ⟨w', hrun, H2⟩ := (H1.pick 1).mapDel KI ht r hr (ty := ty)
  refine ⟨w', hrun, SL.upI ?_⟩
  have e1 : delK (ptrsV L) r = ptrsV (delK L r) := delK_map (fun n : LNode => ptr n.blk 0) L r
  rw [e1] at H2
  have H3 : SL W g w' (Lm.blk u #[.int .i64 q1, .int .i64 q2, .map (some mb), .int .i64 nx] T.U :: mapA P T.kI mb (ptrsV (delK L r)) :: ((L.map fun p => Lm.nodeA P T p.2) ++ l)) := H2.weak fun _ q => q.swap
  cases hg : getK L r with
  | none => rw [delK_none hg] at H3 ⊢; exact H3
  | some n =>
    obtain ⟨l1, l2, e, h1, h2⟩ := getK_split hn hg
    have hd : delK L r = l1 ++ l2 := by
      rw [e]; unfold delK
      rw [List.filter_append, List.filter_cons, List.filter_eq_self.2 fun p hp => by simp [h1 p hp], List.filter_eq_self.2 fun p hp => by simp [h2 p hp]]
      simp
    rw [hd] at H3 ⊢
    have H4 : SL W g w' ((Lm.blk u #[.int .i64 q1, .int .i64 q2, .map (some mb), .int .i64 nx] T.U :: mapA P T.kI mb (ptrsV (l1 ++ l2)) :: l1.map fun p => Lm.nodeA P T p.2) ++ Lm.nodeA P T n :: ((l2.map fun p => Lm.nodeA P T p.2) ++ l)) := by
      refine SL.cast H3 ?_
      rw [e]
      simp
    exact SL.cast H4.mid.drop (by simp)
end
end Go.Lm

/- Plain facts on an upper branch. General: no program in sight. -/
namespace Go.Lm
open Go Go.RowKit
def kindI (c n : Int) : Int := (if c < 0 then 0 - (c + 1) else c).tmod n
/-- Whether numbers are those of an owner. -/
def mayA (a : AttrD) : Bool := decide (0 ≤ a.v.1) && decide (a.v.1 ≤ 511) && decide (0 ≤ a.v.2.1) && decide (a.v.2.1 ≤ 65535) && decide (0 ≤ a.v.2.2.1) && decide (a.v.2.2.1 ≤ 65535)
def may3 (m u g : Int) : Bool := decide (0 ≤ m) && decide (m ≤ 511) && decide (0 ≤ u) && decide (u ≤ 65535) && decide (0 ≤ g) && decide (g ≤ 65535)
/-- What MayXattrs finds wrong with one attribute. -/
def badM (x : XattrD) (last : ByteArray) : Bool := leB x.v.1 last || decide ((x.v.1.size : Int) > 40) || decide (nulAt x.v.1 ≥ 0) || decide ((x.v.2.1.length : Int) > 200)
def mayGo : List XattrD → ByteArray → Bool
  | [], _ => true
  | x :: r, last => if badM x last then false else mayGo r x.v.1
def mayX (l : List XattrD) : Bool := mayGo l ⟨#[]⟩ && decide ((l.length : Int) ≤ 8)
section
variable {l : List XattrD} {k : Int} {last : ByteArray} {X : Bool}
theorem mg_bad (h0 : 0 ≤ k) (h1 : k < l.length) (hb : badM (nth l k) last = true) (hc : mayGo (l.drop k.toNat) last = X) : X = false := by
  rw [drop_nth h0 h1] at hc
  simp only [mayGo, hb, if_true] at hc; exact hc.symm
theorem mg_next (h0 : 0 ≤ k) (h1 : k < l.length) (hb : badM (nth l k) last = false) (hc : mayGo (l.drop k.toNat) last = X) : mayGo (l.drop (k + 1).toNat) (nth l k).v.1 = X := by
  rw [drop_nth h0 h1] at hc
  simp only [mayGo, hb, Bool.false_eq_true, if_false] at hc; exact hc
theorem mg_fin (h1 : ¬ k < l.length) (hc : mayGo (l.drop k.toNat) last = X) : X = true := by
  rw [drop_end h1] at hc; exact hc.symm
end
theorem is_none_nil {α : Type} [GoRep α] {g : World} {v : Value} {l : List α} (h : Is g v l) (hn : isNilV v = true) : l = [] := by
  rcases is_list.1 h with ⟨_, h⟩ | ⟨a, c, rfl, _⟩
  · exact h
  · cases hn
def noB (s : ByteArray) : Bool := s.toList == (⟨#[]⟩ : ByteArray).toList
/-- Whether a node may be made. -/
def goodN (kind m u g : Int) (data : List UInt8) (target : ByteArray) (xs : List XattrD) : Bool :=
  if kind = 1 then ((data.length : Int) == 0) && noB target && may3 m u g && mayX xs
  else if kind = 2 then decide ((data.length : Int) ≤ 4096) && noB target && may3 m u g && mayX xs
  else if kind = 3 then ((data.length : Int) == 0) && (!noB target && decide ((target.size : Int) ≤ 200) && decide (Lib.indexByte target.data.toList 0 < 0)) && may3 m u g && mayX xs
  else if kind = 4 then ((data.length : Int) == 0) && noB target && (m == 0 && u == 0 && g == 0) && ((xs.length : Int) == 0)
  else false
theorem NodeR.lens {P : Program} {T : UTy} {g w : World} {n : LNode} (h : NodeR P T g w n) : n.data.length ≤ 9223372036854775807 ∧ n.xattrs.length ≤ 9223372036854775807 ∧ n.target.size ≤ 9223372036854775807 ∧ n.ents.length ≤ 9223372036854775807 := by
  refine ⟨h.data.len_le, h.xattrs.len_le, h.target, ?_⟩
  have := h.ents.len_le
  unfold entsV at this
  rw [List.length_map] at this
  exact this
theorem one_mapV {κ : Type} [MKey κ] {P : Program} {k : TypeId} {w : World} {v : Value} {m : List (κ × Value)} (h : MapV P k w v m) : v.oneCell' = true := by
  obtain ⟨_, ⟨rfl, _⟩ | ⟨b, rfl, _⟩⟩ := h <;> rfl
theorem wf_ok {x : Int} (h : (Lit.int .i64 x).wf = true) : MKey.ok (κ := Int) x := h
theorem sz_ok {s : ByteArray} (h : s.size ≤ 9223372036854775807) : MKey.ok (κ := ByteArray) s := h
theorem beq_of_bne {a b : Int} {v : Bool} (h : (a != b) = v) : (a == b) = !v := by rw [← h]; simp [bne]
theorem beq_of_eq {a b c : Int} (h : (a == b) = true) (hn : b ≠ c) : (a == c) = false := by
  have := eq_of_beq h
  subst this
  exact beq_eq_false_iff_ne.2 hn
theorem bne_of_eq {a b c : Int} (h : (a == b) = true) (hn : b ≠ c) : (a != c) = true := by
  have := eq_of_beq h
  subst this
  exact bne_iff_ne.2 hn
theorem getK_setK {κ α : Type} [MKey κ] {l : List (κ × α)} {x : κ} {v u : α} (h : getK l x = some v) : getK (setK l x u) x = some u := by
  unfold getK setK at *
  induction l with
  | nil => simp at h
  | cons p l ih =>
    simp only [List.map_cons, List.find?_cons] at h ⊢
    by_cases e : p.1 = x
    · simp [e]
    · simp only [e, if_false, decide_false] at h ⊢
      exact ih h
theorem SL.upNext {P : Program} {T : UTy} {W : Base} {g w w' : World} {l : List Atom} {u mb : Nat} {q1 q2 nx nx' : Int} {L : List (Int × LNode)} (H : SL W g w (upA P T u q1 q2 mb nx L :: l)) (up : Upd w u #[.int .i64 q1, .int .i64 q2, .map (some mb), .int .i64 nx'] w') : SL W g w' (upA P T u q1 q2 mb nx' L :: l) :=
  SL.upI (H.upO.upd 0 up)
/-- What is wrong with a name to be added. -/
def freshE (L : List (Int × LNode)) (d : Int) (s : ByteArray) : Int := match getK L d with
  | none => 1
  | some n => if n.kind = 1 then (if validN s = 0 then (if (getK n.ents s).isSome then 21 else 0) else validN s) else 24
theorem fresh_some {L : List (Int × LNode)} {d : Int} {s : ByteArray} {n : LNode} (h : getK L d = some n) (hf : freshE L d s = 0) : n.kind = 1 ∧ validN s = 0 ∧ getK n.ents s = none := by
  unfold freshE at hf
  rw [h] at hf
  simp only at hf
  split at hf
  · rename_i h1
    split at hf
    · rename_i h2
      split at hf
      · cases hf
      · rename_i h3
        exact ⟨h1, h2, by simpa using h3⟩
    · exact absurd hf (by assumption)
  · cases hf
theorem fresh_dir {L : List (Int × LNode)} {d : Int} {s : ByteArray} (hf : freshE L d s = 0) : ∃ n, getK L d = some n := by
  cases h : getK L d with
  | none => unfold freshE at hf; rw [h] at hf; cases hf
  | some n => exact ⟨n, rfl⟩
end Go.Lm

/- An upper branch is made; a node is added. General: no program in sight. -/
namespace Go.Lm
open Go Go.RowKit Go.Maps
open Go.ChangeMaps (setBlock)
section
variable {P : Program} {T : UTy} {W : Base} {g w : World} {l : List Atom}
theorem S_makeMap (κ : Type) [MKey κ] {ops : Array Oper} {rest : List Oper} {o : Oper} {n : Nat} {s : AL} {Q : Exit → Act → World → Prop} {d : Nat} {t k : TypeId} (H : SL W g w l) (ho : o.op = .makeMap t none) (hw : wants ops s o = some true) (hd : o.dst = some d) (hn : Nat.blt d n = true)
    (kk : ∀ b w', SL W g w' (mapA P k b ([] : List (κ × Value)) :: l) → wpR P ops rest n ((d, .map (some b)) :: s) Q w') : wpR P ops (o :: rest) n s Q w :=
  R_val (v := .map (some w.heap.size)) (w' := w.alloc (.map #[] 0)) hw (by simp [knows, noSel, ho, Op.operands]) hd hn (X_makeMap ho) (kk _ _ (H.mapNew (New.mk' w _)))
theorem X_insert {ρ : Operand → Value} {o : Oper} {x y z : Operand} {t : TypeId} {mv kv vv : Value} {w' : World} (ho : o.op = .insert t x y z) (hx : ρ x = mv) (hy : ρ y = kv) (hz : ρ z = vv) (h : (Instr.mapUpdate t mv kv vv).run P w = .ok () w') :
    (execOp ρ o).run P w = .ok .skip w' := by
  simp [execOp, ho, hx, hy, hz, h]
theorem X_mapEntry {ρ : Operand → Value} {o : Oper} {x y : Operand} {t : TypeId} {mv kv r : Value} {w' : World} (ho : o.op = .mapEntry t x y) (hx : ρ x = mv) (hy : ρ y = kv) (h : (Instr.mapEntry t mv kv).run P w = .ok r w') : (execOp ρ o).run P w = .ok (.value r) w' := by
  simp [execOp, ho, hx, hy, h]
theorem X_entryStore {ρ : Operand → Value} {o : Oper} {x y z : Operand} {t : TypeId} {mv st vv : Value} {w' : World} (ho : o.op = .entryStore t x y z) (hx : ρ x = mv) (hy : ρ y = st) (hz : ρ z = vv) (h : (Instr.entryStore t mv st vv).run P w = .ok () w') : (execOp ρ o).run P w = .ok .skip w' := by
  simp [execOp, ho, hx, hy, hz, h]
theorem SL.mapEntry' {κ : Type} [MKey κ] {k : TypeId} {m : List (κ × Value)} {b : Nat} (H : SL W g w (mapA P k b m :: l)) (K : KeyT P k κ) {t e : TypeId} (ht : P.underlying t = some (.map k e)) {z : Value} (hz : (zeroValue e).run P w = .ok z w) (hlen : m.length < maxLen) (x : κ) (hx : MKey.ok x) :
    ∃ (val : Value) (st : Nat) (w' : World), (Instr.mapEntry t (.map (some b)) (MKey.val x)).run P w = .ok (.tuple #[val, goInt st]) w' ∧ SL W g w' (mapSA P k b (putK m x val) x st :: l) ∧ KeepsB w w' := by
  obtain ⟨es, clock, r, H1⟩ := H.mapO
  have hb := H1.has 0
  obtain ⟨val, st, es', clock', h1, _, _⟩ := run_mapEntry K.keyed ht hz hb r.fit (K.of x hx)
  obtain ⟨val2, st2, w2, h3, H3⟩ := H.mapEntry K ht hz hlen x hx
  rw [h1] at h3
  cases h3
  exact ⟨_, _, _, h1, H3, keeps_set hb⟩
/-- The root of a branch that was just made. -/
abbrev root0 (b ib : Nat) : LNode := { blk := b, kind := 1, mode := 493, uid := 0, gid := 0, vd := .slice none 0 0, data := [], target := ⟨#[]⟩, vx := .slice none 0 0, xattrs := [], opq := false, vi := .map (some ib), ents := [], up := 0, links := 1 }
theorem SL.mkUp {u mb b ib : Nat} {q1 q2 nx : Int} (H : SL W g w (Lm.blk u #[.int .i64 q1, .int .i64 q2, .map (some mb), .int .i64 nx] T.U :: mapA P T.kI mb [((1 : Int), ptr b 0)] :: Lm.blk b (root0 b ib).cells T.N :: mapA P T.kS ib ([] : List (ByteArray × Value)) :: l)) :
    SL W g w (upA P T u q1 q2 mb nx [(1, root0 b ib)] :: l) := by
  refine SL.upI ?_
  have H1 := (H.to [2, 2, 0, 0] : SL W g w (Lm.blk b (root0 b ib).cells T.N :: mapA P T.kS ib ([] : List (ByteArray × Value)) :: Lm.blk u #[.int .i64 q1, .int .i64 q2, .map (some mb), .int .i64 nx] T.U :: mapA P T.kI mb [((1 : Int), ptr b 0)] :: l))
  have H2 : SL W g w (mapVA P T.kS (.map (some ib)) ([] : List (ByteArray × Value)) :: Lm.blk b (root0 b ib).cells T.N :: Lm.blk u #[.int .i64 q1, .int .i64 q2, .map (some mb), .int .i64 nx] T.U :: mapA P T.kI mb [((1 : Int), ptr b 0)] :: l) := (H1.pick 1).mapVI
  have H3 : SL W g w (Lm.nodeA P T (root0 b ib) :: Lm.blk u #[.int .i64 q1, .int .i64 q2, .map (some mb), .int .i64 nx] T.U :: mapA P T.kI mb [((1 : Int), ptr b 0)] :: l) :=
    SL.nodeI (n := root0 b ib) (is_nil g) (is_nil g) (by show (0 : Nat) ≤ maxLen; decide) (fun _ => ⟨ib, rfl⟩) (H2.weak fun _ q => q.swap)
  exact H3.to [1, 1, 0]
variable {u mb : Nat} {q1 q2 nx : Int} {L : List (Int × LNode)}
def upE (P : Program) (T : UTy) (u : Nat) (q1 q2 : Int) (mb : Nat) (nx : Int) (L : List (Int × LNode)) (r : Int) (val : Value) (st : Nat) : Atom :=
  conjA (blk u #[.int .i64 q1, .int .i64 q2, .map (some mb), .int .i64 nx] T.U :: mapSA P T.kI mb (putK (ptrsV L) r val) r st :: L.map fun p => nodeA P T p.2)
theorem SL.upEntry {t e : TypeId} (H : SL W g w (upA P T u q1 q2 mb nx L :: l)) (KI : KeyT P T.kI Int) (ht : P.underlying t = some (.map T.kI e)) {z : Value} (hz : (zeroValue e).run P w = .ok z w) (hlen : L.length < maxLen) (r : Int) (hr : (Lit.int .i64 r).wf = true) :
    ∃ (val : Value) (st : Nat) (w' : World), (Instr.mapEntry t (.map (some mb)) (.int .i64 r)).run P w = .ok (.tuple #[val, goInt st]) w' ∧ SL W g w' (upE P T u q1 q2 mb nx L r val st :: l) ∧ KeepsB w w' := by
  obtain ⟨val, st, w', h1, H1, hk⟩ := (H.upO.pick 1).mapEntry' KI ht hz (by unfold ptrsV; rw [List.length_map]; exact hlen) r hr
  refine ⟨val, st, w', h1, ?_, hk⟩
  exact SL.shutC (a := Lm.blk u #[.int .i64 q1, .int .i64 q2, .map (some mb), .int .i64 nx] T.U :: mapSA P T.kI mb (putK (ptrsV L) r val) r st :: L.map fun p => Lm.nodeA P T p.2) (H1.weak fun _ q => q.swap)
theorem SL.upAdd {r : Int} {val : Value} {st : Nat} {n : LNode} {t : TypeId} (H : SL W g w (upE P T u q1 q2 mb nx L r val st :: Lm.blk n.blk n.cells T.N :: mapVA P T.kS n.vi (entsV n.ents) :: l)) (KI : KeyT P T.kI Int) (hr : (Lit.int .i64 r).wf = true) (h : getK L r = none)
    (h1 : Is g n.vd n.data) (h2 : Is g n.vx n.xattrs) (h3 : n.target.size ≤ maxLen) (h4 : n.kind = 1 → ∃ b, n.vi = .map (some b)) :
    ∃ w', (Instr.entryStore t (.map (some mb)) (goInt st) (ptr n.blk 0)).run P w = .ok () w' ∧ SL W g w' (upA P T u q1 q2 mb nx ((r, n) :: L) :: l) ∧ KeepsB w w' := by
  have H0 := SL.openC H
  obtain ⟨w', hrun, H1, hk⟩ := (SL.pick 1 H0).entryStore KI hr t (ptr n.blk 0)
  refine ⟨w', hrun, SL.upI ?_, hk⟩
  have hp : putK (ptrsV L) r (ptr n.blk 0) = ptrsV ((r, n) :: L) := by
    unfold putK
    rw [delK_none (by rw [getK_ptrs, h]; rfl)]; rfl
  rw [hp] at H1
  have H2 : SL W g w' (Lm.blk u #[.int .i64 q1, .int .i64 q2, .map (some mb), .int .i64 nx] T.U :: mapA P T.kI mb (ptrsV ((r, n) :: L)) :: ((L.map fun p => Lm.nodeA P T p.2) ++ (Lm.blk n.blk n.cells T.N :: mapVA P T.kS n.vi (entsV n.ents) :: l))) := H1.weak fun _ q => q.swap
  have H3 : SL W g w' ((Lm.blk u #[.int .i64 q1, .int .i64 q2, .map (some mb), .int .i64 nx] T.U :: mapA P T.kI mb (ptrsV ((r, n) :: L)) :: L.map fun p => Lm.nodeA P T p.2) ++ (Lm.blk n.blk n.cells T.N :: mapVA P T.kS n.vi (entsV n.ents) :: l)) := H2.cast (by simp)
  have H4 := H3.mid
  have H5 : SL W g w' ((Lm.blk n.blk n.cells T.N :: Lm.blk u #[.int .i64 q1, .int .i64 q2, .map (some mb), .int .i64 nx] T.U :: mapA P T.kI mb (ptrsV ((r, n) :: L)) :: L.map fun p => Lm.nodeA P T p.2) ++ (mapVA P T.kS n.vi (entsV n.ents) :: l)) := H4.cast (by simp)
  have H6 := H5.mid
  have H7 : SL W g w' (Lm.blk n.blk n.cells T.N :: mapVA P T.kS n.vi (entsV n.ents) :: ((Lm.blk u #[.int .i64 q1, .int .i64 q2, .map (some mb), .int .i64 nx] T.U :: mapA P T.kI mb (ptrsV ((r, n) :: L)) :: L.map fun p => Lm.nodeA P T p.2) ++ l)) := (H6.cast (by simp) : SL W g w' (mapVA P T.kS n.vi (entsV n.ents) :: Lm.blk n.blk n.cells T.N :: ((Lm.blk u #[.int .i64 q1, .int .i64 q2, .map (some mb), .int .i64 nx] T.U :: mapA P T.kI mb (ptrsV ((r, n) :: L)) :: L.map fun p => Lm.nodeA P T p.2) ++ l))).weak fun _ q => q.swap
  have H8 := SL.nodeI h1 h2 h3 h4 H7
  have H9 : SL W g w' (Lm.blk u #[.int .i64 q1, .int .i64 q2, .map (some mb), .int .i64 nx] T.U :: Lm.nodeA P T n :: mapA P T.kI mb (ptrsV ((r, n) :: L)) :: ((L.map fun p => Lm.nodeA P T p.2) ++ l)) := H8.weak fun _ q => q.swap
  exact (H9.under fun _ q => q.swap).cast (by simp)
/-- An entry of a directory, in two steps. -/
theorem SL.entEntry {r : Int} {n : LNode} {t e : TypeId} (H : SL W g w (upA P T u q1 q2 mb nx L :: l)) (KI : KeyT P T.kI Int) (KS : KeyT P T.kS ByteArray) (h : getK L r = some n) (hk : n.kind = 1) (ht : P.underlying t = some (.map T.kS e)) {z : Value} (hz : (zeroValue e).run P w = .ok z w) (s : ByteArray) (hs : s.size ≤ maxLen) (hlen : n.ents.length < maxLen) :
    ∃ (ib : Nat) (val : Value) (st : Nat) (w' : World) (R : List Atom), n.vi = .map (some ib) ∧ (Instr.mapEntry t n.vi (.string s)).run P w = .ok (.tuple #[val, goInt st]) w' ∧ SL W g w' (mapSA P T.kS ib (putK (entsV n.ents) s val) s st :: R) ∧ KeepsB w w' ∧
      ∀ (w'' : World) (x : Int), SL W g w'' (mapA P T.kS ib (putK (entsV n.ents) s (.int .i64 x)) :: R) → SL W g w'' (upA P T u q1 q2 mb nx (setK L r { n with ents := putK n.ents s x }) :: l) := by
  obtain ⟨R, H1, back⟩ := H.upNode KI h
  obtain ⟨h1, h2, h3, h4, H2⟩ := H1.nodeO
  obtain ⟨b, hb⟩ := h4 hk
  rcases (H2.pick 1).mapVO with ⟨hv, _⟩ | ⟨b', hv, H3⟩
  · rw [hb] at hv; cases hv
  · obtain ⟨val, st, w', hr, H4, hkp⟩ := H3.mapEntry' KS ht hz (by unfold entsV; rw [List.length_map]; exact hlen) s hs
    refine ⟨b', val, st, w', _, hv, by rw [hv]; exact hr, H4, hkp, fun w'' x H5 => back g w'' { n with ents := putK n.ents s x } rfl (SL.nodeI h1 h2 h3 h4 ?_)⟩
    have e1 : putK (entsV n.ents) s (.int .i64 x) = entsV (putK n.ents s x) := putK_map (fun x : Int => Value.int .i64 x) n.ents s x
    rw [e1] at H5
    have H6 := H5.mapVI
    rw [← hv] at H6
    exact H6.weak fun _ q => q.swap
/-- One node, taken out of the branch beside what else is owned. -/
theorem SL.upNode2 (H : SL W g w (upA P T u q1 q2 mb nx L :: l)) (KI : KeyT P T.kI Int) {r : Int} {n : LNode} (h : getK L r = some n) :
    ∃ B : Atom, SL W g w (Lm.nodeA P T n :: B :: l) ∧ ∀ (g' w' : World) (n' : LNode) (l' : List Atom), n'.blk = n.blk → SL W g' w' (Lm.nodeA P T n' :: B :: l') → SL W g' w' (upA P T u q1 q2 mb nx (setK L r n') :: l') := by
  have H1 := H.upO
  have hn : (L.map (·.1)).Nodup := by
    have := (H1.pick 1).mapNodup KI
    rwa [ptrs_keys] at this
  obtain ⟨l1, l2, e, h1, h2⟩ := getK_split hn h
  have hs : ∀ n', setK L r n' = l1 ++ (r, n') :: l2 := fun n' => by rw [e, setK_split h1 h2]
  have hp : ∀ n' : LNode, n'.blk = n.blk → ptrsV (l1 ++ (r, n') :: l2) = ptrsV L := fun n' hb => by rw [← hs n']; exact ptrs_setK hn h hb
  refine ⟨conjA ((Lm.blk u #[.int .i64 q1, .int .i64 q2, .map (some mb), .int .i64 nx] T.U :: mapA P T.kI mb (ptrsV L) :: l1.map fun p => Lm.nodeA P T p.2) ++ (l2.map fun p => Lm.nodeA P T p.2)), ?_, fun g' w' n' l' hb H2 => ?_⟩
  · have H3 : SL W g w ((Lm.blk u #[.int .i64 q1, .int .i64 q2, .map (some mb), .int .i64 nx] T.U :: mapA P T.kI mb (ptrsV L) :: l1.map fun p => Lm.nodeA P T p.2) ++ Lm.nodeA P T n :: ((l2.map fun p => Lm.nodeA P T p.2) ++ l)) := H1.cast (by rw [e]; simp)
    have H4 := H3.mid
    refine (H4.under fun h s => ?_)
    rw [← List.append_assoc] at s
    obtain ⟨k1, k2, ap, rfl, s1, s2⟩ := s.unapp
    exact ⟨k1, k2, ap, rfl, s1, s2⟩
  · refine SL.upI ?_
    rw [hs n', hp n' hb]
    have H3 : SL W g' w' (Lm.nodeA P T n' :: ((Lm.blk u #[.int .i64 q1, .int .i64 q2, .map (some mb), .int .i64 nx] T.U :: mapA P T.kI mb (ptrsV L) :: l1.map fun p => Lm.nodeA P T p.2) ++ ((l2.map fun p => Lm.nodeA P T p.2) ++ l'))) := H2.under fun h ⟨k1, k2, ap, q, s1, s2⟩ => by
      rw [← List.append_assoc, q]
      exact s1.app ap s2
    refine SL.cast (SL.unmid (x := Lm.nodeA P T n) H3) ?_
    simp
end
end Go.Lm

/- What an upper branch is, without its places: what its calls come to. Plain. General: no program in sight. -/
namespace Go.Lm
open Go Go.RowKit
structure UNode where
  kind : Int
  mode : Int
  uid : Int
  gid : Int
  data : List UInt8
  target : ByteArray
  xattrs : List XattrD
  opq : Bool
  ents : List (ByteArray × Int)
  up : Int
  links : Int
abbrev UL := List (Int × UNode)
abbrev LNode.er (n : LNode) : UNode := ⟨n.kind, n.mode, n.uid, n.gid, n.data, n.target, n.xattrs, n.opq, n.ents, n.up, n.links⟩
def er (L : List (Int × LNode)) : UL := L.map fun p => (p.1, p.2.er)
theorem getK_er (L : List (Int × LNode)) (r : Int) : getK (er L) r = (getK L r).map LNode.er := getK_map LNode.er L r
theorem getK_er_some {L : List (Int × LNode)} {r : Int} {n : LNode} (h : getK L r = some n) : getK (er L) r = some n.er := by rw [getK_er, h]; rfl
theorem getK_er_none {L : List (Int × LNode)} {r : Int} (h : getK L r = none) : getK (er L) r = none := by rw [getK_er, h]; rfl
theorem er_setK (L : List (Int × LNode)) (r : Int) (n : LNode) : er (setK L r n) = setK (er L) r n.er := by
  unfold er setK
  rw [List.map_map, List.map_map]
  apply List.map_congr_left
  intro p _
  simp only [Function.comp]
  by_cases h : p.1 = r <;> simp [h]
theorem er_delK (L : List (Int × LNode)) (r : Int) : er (delK L r) = delK (er L) r := (delK_map LNode.er L r).symm
theorem er_cons (r : Int) (n : LNode) (L : List (Int × LNode)) : er ((r, n) :: L) = (r, n.er) :: er L := rfl
theorem er_len (L : List (Int × LNode)) : (er L).length = L.length := by unfold er; rw [List.length_map]
theorem er_get {L : List (Int × LNode)} {r : Int} {m : UNode} (h : getK (er L) r = some m) : ∃ n, getK L r = some n ∧ n.er = m := by
  rw [getK_er] at h
  cases hq : getK L r with
  | none => rw [hq] at h; cases h
  | some n => rw [hq] at h; exact ⟨n, rfl, Option.some.inj h⟩
def freshU (U : UL) (d : Int) (s : ByteArray) : Int := match getK U d with
  | none => 1
  | some n => if n.kind = 1 then (if validN s = 0 then (if (getK n.ents s).isSome then 21 else 0) else validN s) else 24
theorem freshE_er (L : List (Int × LNode)) (d : Int) (s : ByteArray) : freshE L d s = freshU (er L) d s := by
  unfold freshE freshU
  rw [getK_er]
  cases getK L d <;> rfl
def fileE (U : UL) (r : Int) : Int := match getK U r with | none => 1 | some n => if n.kind = 1 then 25 else if n.kind = 2 then 0 else 1
def dirE (U : UL) (r : Int) : Int := match getK U r with | none => 1 | some n => if n.kind = 1 then 0 else 24
def sizedL (d : List UInt8) (n : Int) : List UInt8 := copyL (List.replicate n.toNat 0) 0 d
def writeL (d : List UInt8) (off : Int) (b : List UInt8) : List UInt8 := copyL (sizedL d (max (d.length : Int) (off + b.length))) off.toNat b
def writeE (U : UL) (r off : Int) (b : List UInt8) : Int := if fileE U r = 0 then (if off < 0 then 1 else if off > 4096 ∨ (b.length : Int) > 4096 - off then 3 else 0) else fileE U r
def writeU (U : UL) (r off : Int) (b : List UInt8) : UL := if writeE U r off b = 0 ∧ (b.length : Int) ≠ 0 then (match getK U r with | some n => setK U r { n with data := writeL n.data off b } | none => U) else U
def resizeE (U : UL) (r n : Int) : Int := if fileE U r = 0 then (if n < 0 then 1 else if n > 4096 then 3 else 0) else fileE U r
def resizeU (U : UL) (r k : Int) : UL := if resizeE U r k = 0 then (match getK U r with | some n => setK U r { n with data := sizedL n.data k } | none => U) else U
def readE (U : UL) (r off n : Int) : Int := if fileE U r = 0 then (if off < 0 ∨ n < 0 then 1 else 0) else fileE U r
def readU (U : UL) (r off k : Int) : List UInt8 := if readE U r off k = 0 then (match getK U r with | some n => if off ≥ n.data.length then [] else (n.data.drop off.toNat).take ((off + min k ((n.data.length : Int) - off)).toNat - off.toNat) | none => []) else []
structure MkN where
  kind : Int
  mode : Int
  uid : Int
  gid : Int
  data : List UInt8
  target : ByteArray
  xattrs : List XattrD
def goodM (m : MkN) : Bool := goodN m.kind m.mode m.uid m.gid m.data m.target m.xattrs
def newU (m : MkN) (d : Int) : UNode := ⟨m.kind, m.mode, m.uid, m.gid, m.data, m.target, m.xattrs, false, [], if m.kind = 1 then d else 0, 1⟩
def makeE (U : UL) (d : Int) (s : ByteArray) (m : MkN) : Int := if freshU U d s = 0 then (if goodM m then 0 else 1) else freshU U d s
def makeU (U : UL) (nx d : Int) (s : ByteArray) (m : MkN) : UL := if makeE U d s m = 0 then (match getK U d with | some n => setK ((nx, newU m d) :: U) d { n with ents := putK n.ents s nx } | none => U) else U
theorem sizedL_length (d : List UInt8) (n : Int) : (sizedL d n).length = n.toNat := by unfold sizedL; rw [copyL_length _ _ _ (by simp)]; simp
theorem SL.keep1 (k : Nat) {W : Base} {g w : World} {a : Atom} {l : List Atom} (H : SL W g w (a :: l)) : SL W g w (a :: Lm.dropN k l) := H.under fun h s => by
  have key : ∀ (k : Nat) (l : List Atom) (h : Hp), sats g l h → sats g (Lm.dropN k l) h := by
    intro k
    induction k with
    | zero => exact fun _ _ s => s
    | succ k ih =>
      intro l h s
      cases l with
      | nil => exact s
      | cons x l =>
        obtain ⟨h1, h2, ap, e, _, s2⟩ := s
        have h3 := ih l h2 s2
        rw [e]
        have := sats.app (a := []) (l := Lm.dropN k l) ap trivial h3
        exact this
  exact key k l h s
theorem mayGo_all : ∀ {l : List XattrD} {last : ByteArray}, mayGo l last = true → ∀ x ∈ l, x.v.2.1.length ≤ 200 ∧ x.v.1.size ≤ 40
  | [], _, _, x, h => by cases h
  | y :: r, last, h, x, hx => by
    unfold mayGo at h
    split at h
    · cases h
    · rename_i hb
      rcases List.mem_cons.1 hx with rfl | hx
      · unfold badM at hb
        simp at hb
        exact ⟨by omega, by omega⟩
      · exact mayGo_all h x hx
theorem good_lens {kind m u g : Int} {data : List UInt8} {target : ByteArray} {xs : List XattrD} (h : goodN kind m u g data target xs = true) : data.length ≤ 4096 ∧ xs.length ≤ 8 ∧ target.size ≤ 200 ∧ (∀ x ∈ xs, x.v.2.1.length ≤ 200 ∧ x.v.1.size ≤ 40) ∧ (kind = 1 ∨ kind = 2 ∨ kind = 3 ∨ kind = 4) := by
  have hno : ∀ s : ByteArray, noB s = true → s.size = 0 := fun s hs => by
    unfold noB at hs
    have := eq_of_beq hs
    have h2 := congrArg List.length this
    rw [Lib.toList_data, Lib.toList_data] at h2
    rw [size_list]; exact h2
  have hm : mayX xs = true → xs.length ≤ 8 ∧ ∀ x ∈ xs, x.v.2.1.length ≤ 200 ∧ x.v.1.size ≤ 40 := fun hx => by
    unfold mayX at hx
    simp only [Bool.and_eq_true, decide_eq_true_eq] at hx
    exact ⟨by omega, mayGo_all hx.1⟩
  unfold goodN at h
  split at h
  · simp only [Bool.and_eq_true] at h
    have h1 := eq_of_beq h.1.1.1
    have h2 := hno _ h.1.1.2
    have h3 := hm h.2
    exact ⟨by omega, h3.1, by omega, h3.2, by omega⟩
  · split at h
    · simp only [Bool.and_eq_true, decide_eq_true_eq] at h
      have h2 := hno _ h.1.1.2
      have h3 := hm h.2
      exact ⟨by omega, h3.1, by omega, h3.2, by omega⟩
    · split at h
      · simp only [Bool.and_eq_true, decide_eq_true_eq] at h
        have h1 := eq_of_beq h.1.1.1
        have h3 := hm h.2
        exact ⟨by omega, h3.1, by omega, h3.2, by omega⟩
      · split at h
        · simp only [Bool.and_eq_true] at h
          have h1 := eq_of_beq h.1.1.1
          have h2 := hno _ h.1.1.2
          have h3 := eq_of_beq h.2
          have h4 : xs = [] := List.eq_nil_of_length_eq_zero (by omega)
          subst h4
          exact ⟨by omega, by simp, by omega, by simp, by omega⟩
        · cases h
theorem getK_cons_ne {κ α : Type} [MKey κ] {l : List (κ × α)} {x y : κ} {v : α} (h : y ≠ x) : getK ((y, v) :: l) x = getK l x := by
  unfold getK
  rw [List.find?_cons]
  simp [h]
theorem ref_ne {α : Type} {L : List (Int × α)} {a b : Int} {n : α} (h1 : getK L a = none) (h2 : getK L b = some n) : a ≠ b := fun e => by
  subst e; rw [h1] at h2; cases h2
theorem Is.cast {α : Type} [GoRep α] {g : World} {v : Value} {a b : α} (h : Is g v a) (e : a = b) : Is g v b := e ▸ h
theorem tup_ii {a b c d : Int} (h : a = b) (k : c = d) : Value.tuple #[.int .i64 a, .int .i64 c] = Value.tuple #[.int .i64 b, .int .i64 d] := by rw [h, k]
theorem getK_setK_ne {κ α : Type} [MKey κ] {l : List (κ × α)} {x y : κ} {u : α} (h : x ≠ y) : getK (setK l x u) y = getK l y := by
  unfold getK setK
  induction l with
  | nil => rfl
  | cons p l ih =>
    simp only [List.map_cons, List.find?_cons]
    by_cases e : p.1 = x
    · have e2 : ¬ p.1 = y := fun q => h (e.symm.trans q)
      rw [if_pos e]
      simp only [e2, decide_false]
      exact ih
    · rw [if_neg e]
      by_cases e2 : p.1 = y
      · simp only [e2, decide_true]
      · simp only [e2, decide_false]
        exact ih
theorem getK_delK_ne {κ α : Type} [MKey κ] {l : List (κ × α)} {x y : κ} (h : x ≠ y) : getK (delK l x) y = getK l y := by
  unfold getK delK
  induction l with
  | nil => rfl
  | cons p l ih =>
    by_cases e : p.1 = x
    · have e2 : ¬ p.1 = y := fun q => h (e.symm.trans q)
      rw [List.filter_cons, List.find?_cons]
      simp only [e, decide_true, Bool.not_true, Bool.false_eq_true, if_false]
      rw [← e]
      simp only [e2, decide_false]
      rw [e]
      exact ih
    · rw [List.filter_cons]
      simp only [e, decide_false, Bool.not_false, if_true, List.find?_cons]
      by_cases e2 : p.1 = y
      · simp only [e2, decide_true]
      · simp only [e2, decide_false]
        exact ih
theorem ne_of_kind {L : List (Int × LNode)} {a b : Int} {n m : LNode} (ha : getK L a = some n) (hb : getK L b = some m) (h : n.kind ≠ m.kind) : a ≠ b := fun e => by
  subst e
  rw [ha] at hb
  exact h (by rw [Option.some.inj hb])
theorem ne_of_ents {L : List (Int × LNode)} {a b : Int} {n m : LNode} {s : ByteArray} {x : Int} (ha : getK L a = some n) (hb : getK L b = some m) (h : getK n.ents s = some x) (h0 : m.ents = []) : a ≠ b := fun e => by
  subst e
  rw [ha] at hb
  have : n = m := Option.some.inj hb
  subst this
  rw [h0] at h
  cases h
def statE (U : UL) (r : Int) : Int := match getK U r with | none => 1 | some _ => 0
def lookE (U : UL) (r : Int) (s : ByteArray) : Int := match getK U r with | none => 1 | some n => if n.kind = 1 then (match getK n.ents s with | none => 20 | some _ => 0) else 24
def linkE (U : UL) (d : Int) (s : ByteArray) (r : Int) : Int := match getK U r, getK U d with
  | some n, some _ => if freshU U d s = 0 then (if n.kind = 1 then 25 else 0) else freshU U d s
  | _, _ => 1
def linkU (U : UL) (d : Int) (s : ByteArray) (r : Int) : UL := if linkE U d s r = 0 then (match getK U d, getK U r with
  | some m, some n => setK (setK U d { m with ents := putK m.ents s r }) r { n with links := n.links + 1 }
  | _, _ => U) else U
/-- A name less, of a node that has nothing in it. -/
def letS (U : UL) (r : Int) : UL := match getK U r with
  | none => U
  | some n => if n.links - 1 > 0 then setK U r { n with links := n.links - 1 } else delK U r
def removeE (U : UL) (d : Int) (s : ByteArray) : Int := lookE U d s
def removeS (U : UL) (d : Int) (s : ByteArray) : UL := match getK U d with
  | none => U
  | some n => if n.kind = 1 then (match getK n.ents s with | none => U | some r => letS (setK U d { n with ents := delK n.ents s }) r) else U
section
variable {P : Program} {T : UTy} {W : Base} {g w : World} {l : List Atom} {u mb : Nat} {q1 q2 nx : Int} {L : List (Int × LNode)}
/-- A node goes; what it has is still there. -/
theorem SL.upDrop2 {r : Int} {n : LNode} {t e ty : TypeId} (H : SL W g w (upA P T u q1 q2 mb nx L :: l)) (KI : KeyT P T.kI Int) (h : getK L r = some n) (ht : P.underlying t = some (.map T.kI e)) (hr : (Lit.int .i64 r).wf = true) :
    ∃ w', (Builtin.delete_ #[t, T.kI] ty #[.map (some mb), .int .i64 r]).run P w = .ok (.tuple #[]) w' ∧ SL W g w' (Lm.blk n.blk n.cells T.N :: mapVA P T.kS n.vi (entsV n.ents) :: upA P T u q1 q2 mb nx (delK L r) :: l) := by
  have H1 := H.upO
  have hn : (L.map (·.1)).Nodup := by
    have := (H1.pick 1).mapNodup KI
    rwa [ptrs_keys] at this
  obtain ⟨w', hrun, H2⟩ := (H1.pick 1).mapDel KI ht r hr (ty := ty)
  refine ⟨w', hrun, ?_⟩
  have e1 : delK (ptrsV L) r = ptrsV (delK L r) := delK_map (fun n : LNode => ptr n.blk 0) L r
  rw [e1] at H2
  have H3 : SL W g w' (Lm.blk u #[.int .i64 q1, .int .i64 q2, .map (some mb), .int .i64 nx] T.U :: mapA P T.kI mb (ptrsV (delK L r)) :: ((L.map fun p => Lm.nodeA P T p.2) ++ l)) := H2.weak fun _ q => q.swap
  obtain ⟨l1, l2, e, h1, h2⟩ := getK_split hn h
  have hd : delK L r = l1 ++ l2 := by
    rw [e]; unfold delK
    rw [List.filter_append, List.filter_cons, List.filter_eq_self.2 fun p hp => by simp [h1 p hp], List.filter_eq_self.2 fun p hp => by simp [h2 p hp]]
    simp
  rw [hd] at H3 ⊢
  have H4 : SL W g w' ((Lm.blk u #[.int .i64 q1, .int .i64 q2, .map (some mb), .int .i64 nx] T.U :: mapA P T.kI mb (ptrsV (l1 ++ l2)) :: l1.map fun p => Lm.nodeA P T p.2) ++ Lm.nodeA P T n :: ((l2.map fun p => Lm.nodeA P T p.2) ++ l)) := by
    refine SL.cast H3 ?_
    rw [e]
    simp
  obtain ⟨_, _, _, _, H5⟩ := H4.mid.nodeO
  refine (H5.under fun h s => ?_)
  obtain ⟨k1, k2, ap, q, s1, s2⟩ := s
  refine ⟨k1, k2, ap, q, s1, ?_⟩
  have s3 : sats g ((Lm.blk u #[.int .i64 q1, .int .i64 q2, .map (some mb), .int .i64 nx] T.U :: mapA P T.kI mb (ptrsV (l1 ++ l2)) :: (l1 ++ l2).map fun p => Lm.nodeA P T p.2) ++ l) k2 := by
    simpa using s2
  obtain ⟨m1, m2, ap2, q2', s4, s5⟩ := s3.unapp
  exact ⟨m1, m2, ap2, q2', s4, s5⟩
end
theorem delK_setK {κ α : Type} [MKey κ] (l : List (κ × α)) (x : κ) (u : α) : delK (setK l x u) x = delK l x := by
  unfold delK setK
  induction l with
  | nil => rfl
  | cons p l ih =>
    by_cases e : p.1 = x
    · rw [List.map_cons, if_pos e, List.filter_cons, List.filter_cons]
      simp only [e, decide_true, Bool.not_true, Bool.false_eq_true, if_false]
      exact ih
    · rw [List.map_cons, if_neg e, List.filter_cons, List.filter_cons]
      simp only [e, decide_false, Bool.not_false, if_true]
      rw [ih]
end Go.Lm

/- An upper branch as a part of what is owned, its places hidden. General: no program in sight. -/
namespace Go.Lm
open Go Go.RowKit
def rootU (ents : List (ByteArray × Int)) : UNode := ⟨1, 493, 0, 0, [], ⟨#[]⟩, [], false, ents, 0, 1⟩
section
variable {P : Program} {T : UTy} {W : Base} {g w w' : World} {l : List Atom} {u : Nat} {q1 q2 nx : Int} {S : UL}
def upS (P : Program) (T : UTy) (u : Nat) (q1 q2 nx : Int) (S : UL) : Atom := exA fun x : Nat × List (Int × LNode) => [pureA (er x.2 = S), upA P T u q1 q2 x.1 nx x.2]
theorem SL.upSO (H : SL W g w (upS P T u q1 q2 nx S :: l)) : ∃ mb L, er L = S ∧ SL W g w (upA P T u q1 q2 mb nx L :: l) := by
  obtain ⟨⟨mb, L⟩, H1⟩ := SL.openE H
  obtain ⟨h, H2⟩ := SL.pure H1
  exact ⟨mb, L, h, H2⟩
theorem SL.upSI {mb : Nat} {L : List (Int × LNode)} (h : er L = S) (H : SL W g w (upA P T u q1 q2 mb nx L :: l)) : SL W g w (upS P T u q1 q2 nx S :: l) :=
  SL.shutE (f := fun x : Nat × List (Int × LNode) => [pureA (er x.2 = S), upA P T u q1 q2 x.1 nx x.2]) (mb, L) (H.addPure h)
theorem er_none {L : List (Int × LNode)} {r : Int} (h : getK (er L) r = none) : getK L r = none := by
  rw [getK_er] at h
  cases hq : getK L r with
  | none => rfl
  | some n => rw [hq] at h; cases h
/-- A literal becomes a slice of its own. -/
theorem SL.litSl {α : Type} [GoRep α] {b n : Nat} {cs : Array Value} {e : TypeId} {ds : List (List Value)} {xs : List α} (H : SL W g w (Lm.blk b cs e :: l)) (r : RelL g ds xs) (hc : cs.toList = ds.flatten) (hn : xs.length = n) (hm : n ≤ maxLen) : SL W g w (slA e (.slice (some ⟨b, 0, none⟩) n n) xs :: l) := by
  subst hn
  have hl := (RelL.length r).2
  have hs : cs.size = xs.length * GoRep.size α := by rw [← Array.length_toList, hc, hl]
  have h := SL.toRow (size := GoRep.size α) (cap := xs.length) xs.length H (Nat.le_refl _) hm hs
  refine SL.slI (cs := ds) r ?_
  have e1 : cs.toList.take (xs.length * GoRep.size α) = ds.flatten := by rw [hc, List.take_of_length_le (by rw [hl]; exact Nat.le_refl _)]
  rw [e1] at h
  exact h
end
end Go.Lm

/- Some few states of an upper branch. Plain. General: no program in sight. -/
namespace Go.Lm
open Go Go.RowKit
theorem validN_list (s : ByteArray) : validN s = if (s.data.toList.length : Int) > 255 then 23 else if (s.data.toList == [] || (s.data.toList == [46] || s.data.toList == [46, 46])) || s.data.toList.any badC then 22 else 0 := by
  unfold validN dots badB
  simp only [Lib.toList_data, List.drop_zero, size_list]
def fileN (d : List UInt8) (lk : Int) : UNode := ⟨2, 0, 0, 0, d, ⟨#[]⟩, [], false, [], 0, lk⟩
theorem ofGet {κ α : Type} [MKey κ] {S : List (κ × α)} {r : κ} {m : α} {Q : α → Prop} (h : getK S r = some m) (hq : Q m) : ∀ n, getK S r = some n → Q n := fun n hn => by
  rw [h] at hn; cases hn; exact hq
theorem ofGet2 {S : UL} {d : Int} {s : ByteArray} {n m : UNode} {x : Int} (h1 : getK S d = some n) (h2 : getK n.ents s = some x) (h3 : getK S x = some m) (h4 : m.ents = []) (h5 : 0 ≤ m.links) (h6 : m.links < 1000000000) (h7 : (Lit.int .i64 x).wf = true) :
    ∀ n x, getK S d = some n → getK n.ents s = some x → ∃ m, getK S x = some m ∧ m.ents = [] ∧ 0 ≤ m.links ∧ m.links < 1000000000 ∧ (Lit.int .i64 x).wf = true := fun n' x' hn hx => by
  rw [h1] at hn; cases hn
  rw [h2] at hx; cases hx
  exact ⟨m, h3, h4, h5, h6, h7⟩
example : validN ⟨#[97]⟩ = 0 := by rw [validN_list]; rfl
example : getK [((⟨#[97]⟩ : ByteArray), (2 : Int)), ((⟨#[98]⟩ : ByteArray), (3 : Int))] ⟨#[98]⟩ = some 3 := by rfl
example : getK [((⟨#[97]⟩ : ByteArray), (2 : Int)), ((⟨#[98]⟩ : ByteArray), (3 : Int))] ⟨#[98]⟩ = some 3 := by decide
example : putK [((⟨#[97]⟩ : ByteArray), (2 : Int))] ⟨#[98]⟩ 2 = [((⟨#[98]⟩ : ByteArray), (2 : Int)), ((⟨#[97]⟩ : ByteArray), (2 : Int))] := by rfl
def abA : ByteArray := ⟨#[97]⟩
theorem mk1 (d : List UInt8) (s : ByteArray) (hs : validN s = 0) (hd : d.length ≤ 4096) : makeE [(1, rootU [])] 1 s ⟨2, 0, 0, 0, d, ⟨#[]⟩, []⟩ = 0 := by
  have hd' : (d.length : Int) ≤ 4096 := by omega
  simp [makeE, freshU, getK, rootU, hs, goodM, goodN, noB, may3, mayX, mayGo, hd']
theorem mk1U (d : List UInt8) (s : ByteArray) (hs : validN s = 0) (hd : d.length ≤ 4096) : makeU [(1, rootU [])] 2 1 s ⟨2, 0, 0, 0, d, ⟨#[]⟩, []⟩ = [(2, fileN d 1), (1, rootU [(s, 2)])] := by
  unfold makeU
  rw [if_pos (mk1 d s hs hd)]
  rfl
theorem lk1 (d : List UInt8) (s t : ByteArray) (hs : validN t = 0) (hd : s ≠ t) : linkE [(2, fileN d 1), (1, rootU [(s, 2)])] 1 t 2 = 0 := by
  simp [linkE, freshU, getK, rootU, fileN, hs, hd]
theorem lk1U (d : List UInt8) (s t : ByteArray) (hs : validN t = 0) (hd : s ≠ t) : linkU [(2, fileN d 1), (1, rootU [(s, 2)])] 1 t 2 = [(2, fileN d 2), (1, rootU [(t, 2), (s, 2)])] := by
  unfold linkU
  rw [if_pos (lk1 d s t hs hd)]
  simp [getK, rootU, fileN, setK, putK, delK, hd]
theorem rm1 (d : List UInt8) (s t : ByteArray) (hd : s ≠ t) : removeE [(2, fileN d 2), (1, rootU [(t, 2), (s, 2)])] 1 s = 0 := by
  simp [removeE, lookE, getK, rootU, Ne.symm hd]
theorem rm1S (d : List UInt8) (s t : ByteArray) (hd : s ≠ t) : removeS [(2, fileN d 2), (1, rootU [(t, 2), (s, 2)])] 1 s = [(2, fileN d 1), (1, rootU [(t, 2)])] := by
  simp [removeS, letS, getK, rootU, fileN, setK, delK, Ne.symm hd]
theorem wr1 (d c : List UInt8) (lk : Int) (e : List (ByteArray × Int)) (off : Int) : writeE [(2, fileN d lk), (1, rootU e)] 2 off c = if off < 0 then 1 else if off > 4096 ∨ (c.length : Int) > 4096 - off then 3 else 0 := by
  simp [writeE, fileE, getK, fileN]
theorem wr1U (d c : List UInt8) (lk : Int) (e : List (ByteArray × Int)) (off : Int) : writeU [(2, fileN d lk), (1, rootU e)] 2 off c = [(2, fileN (if writeE [(2, fileN d lk), (1, rootU e)] 2 off c = 0 ∧ (c.length : Int) ≠ 0 then writeL d off c else d) lk), (1, rootU e)] := by
  unfold writeU
  split
  · simp [getK, setK, fileN]
  · rfl
theorem rs1 (d : List UInt8) (lk : Int) (e : List (ByteArray × Int)) (k : Int) : resizeE [(2, fileN d lk), (1, rootU e)] 2 k = if k < 0 then 1 else if k > 4096 then 3 else 0 := by
  simp [resizeE, fileE, getK, fileN]
theorem rs1U (d : List UInt8) (lk : Int) (e : List (ByteArray × Int)) (k : Int) : resizeU [(2, fileN d lk), (1, rootU e)] 2 k = [(2, fileN (if resizeE [(2, fileN d lk), (1, rootU e)] 2 k = 0 then sizedL d k else d) lk), (1, rootU e)] := by
  unfold resizeU
  split
  · simp [getK, setK, fileN]
  · rfl
theorem rd1 (d : List UInt8) (lk : Int) (e : List (ByteArray × Int)) : readE [(2, fileN d lk), (1, rootU e)] 2 0 4096 = 0 := by
  simp [readE, fileE, getK, fileN]
theorem rd1U (d : List UInt8) (lk : Int) (e : List (ByteArray × Int)) (hd : d.length ≤ 4096) : readU [(2, fileN d lk), (1, rootU e)] 2 0 4096 = d := by
  unfold readU
  rw [if_pos (rd1 d lk e)]
  have h1 : getK [(2, fileN d lk), (1, rootU e)] (2 : Int) = some (fileN d lk) := rfl
  rw [h1]
  show (if (0 : Int) ≥ d.length then [] else (d.drop (0 : Int).toNat).take ((0 + min (4096 : Int) ((d.length : Int) - 0)).toNat - (0 : Int).toNat)) = d
  split
  · rename_i h
    have : d = [] := List.eq_nil_of_length_eq_zero (by omega)
    rw [this]
  · have e1 : ((0 + min (4096 : Int) ((d.length : Int) - 0)).toNat - (0 : Int).toNat) = d.length := by omega
    rw [e1]
    simp
end Go.Lm
namespace Go.Lm
open Go Go.RowKit
theorem sizedL_same (d : List UInt8) (n : Int) (h : n = d.length) : sizedL d n = d := by
  subst h
  unfold sizedL copyL
  simp
theorem sizedL_more (d : List UInt8) (n : Int) (h : (d.length : Int) ≤ n) : sizedL d n = d ++ List.replicate (n.toNat - d.length) 0 := by
  unfold sizedL copyL
  have : d.length ≤ n.toNat := by omega
  simp only [List.length_replicate, Nat.sub_zero, List.take_zero, List.nil_append, Nat.zero_add, Nat.min_eq_left this, List.drop_replicate]
  rw [List.take_of_length_le this]
theorem writeL_end (d c : List UInt8) : writeL d (d.length : Int) c = d ++ c := by
  unfold writeL
  rw [sizedL_more d _ (by omega)]
  unfold copyL
  have e1 : (max (d.length : Int) (d.length + c.length)).toNat - d.length = c.length := by omega
  rw [e1]
  have e2 : (d.length : Int).toNat = d.length := by omega
  rw [e2]
  simp
theorem wrEnd (d c : List UInt8) (lk : Int) (e : List (ByteArray × Int)) (off : Int) (ho : off = d.length) (h : d.length + c.length ≤ 4096) : writeE [(2, fileN d lk), (1, rootU e)] 2 off c = 0 := by
  subst ho
  rw [wr1, if_neg (by omega), if_neg (by omega)]
theorem wrEndU (d c : List UInt8) (lk : Int) (e : List (ByteArray × Int)) (off : Int) (ho : off = d.length) (h : d.length + c.length ≤ 4096) : writeU [(2, fileN d lk), (1, rootU e)] 2 off c = [(2, fileN (d ++ c) lk), (1, rootU e)] := by
  rw [wr1U, wrEnd d c lk e off ho h]
  subst ho
  by_cases hc : (c.length : Int) = 0
  · have : c = [] := List.eq_nil_of_length_eq_zero (by omega)
    subst this
    simp
  · rw [if_pos ⟨rfl, hc⟩, writeL_end]
theorem bstr_app (a b : List UInt8) : bstr (a ++ b) = bstr a ++ bstr b := by
  unfold bstr
  apply ByteArray.ext
  simp
theorem bstr_app_eq (a b : List UInt8) : ((bstr (a ++ b)).toList == (bstr a ++ bstr b).toList) = true := by rw [bstr_app]; simp
end Go.Lm
namespace Go.Lm
theorem bstr_size (l : List UInt8) : (bstr l).size = l.length := by unfold bstr; simp [ByteArray.size]
end Go.Lm

/- Equality of structs with a struct within, and of strings as fields. General: no program in sight. -/
namespace Go.Lm
open Go Go.RowKit
theorem eqF_struct {P : Program} {w : World} {d n : Nat} {xs ys : Array Value} {f : Field} {fs : List Field} {gs : Array Field} {a b : Bool} (hn : (f.name != "_") = true) (hu : P.underlying f.type = some (.struct gs)) (hi : ((P.info? f.type).map (·.size)) = some n) (hp : P.stoodInHeld f.type = false)
    (hx : (Op.eqFields d (xs.extract f.offset (f.offset + n)) (ys.extract f.offset (f.offset + n)) gs.toList).run P w = .ok a w) (hr : (Op.eqFields (d + 1) xs ys fs).run P w = .ok b w) : (Op.eqFields (d + 1) xs ys (f :: fs)).run P w = .ok (a && b) w := by
  have hp1 : ∀ cs : Array Value, (part f.type cs f.offset).run P w = .ok (.agg (cs.extract f.offset (f.offset + n))) w := fun cs => by
    cases hq : P.info? f.type with
    | none => simp [hq] at hi
    | some i =>
      simp [hq] at hi
      subst hi
      simp [part, isAgg, sizeOf, typeInfo, run_underlying hu, go_sem, hq]
  have hne : f.name ≠ "_" := by simpa using hn
  have hfs : P.fieldsOf f.type = gs := by unfold Program.fieldsOf; rw [hu]
  have he := run_equalIn_struct (P := P) w d f.type (xs.extract f.offset (f.offset + n)) (ys.extract f.offset (f.offset + n)) (by rw [hfs]; exact hu) hp
  rw [hfs, hx] at he
  simp only [Op.eqFields, if_pos hne, Sem.run_bind, hp1, Result.andThen_ok, he]
  cases a
  · simp [go_sem]
  · simp [hr]
theorem eqF_str {P : Program} {w : World} {d : Nat} {xs ys : Array Value} {f : Field} {fs : List Field} {m n : ByteArray} {b : Bool} (hn : (f.name != "_") = true) (hu : P.underlying f.type = some .string) (hi : ((P.info? f.type).map (·.size)) = some 1)
    (hx : xs[f.offset]? = some (.string m)) (hy : ys[f.offset]? = some (.string n)) (hr : (Op.eqFields (d + 1) xs ys fs).run P w = .ok b w) : (Op.eqFields (d + 1) xs ys (f :: fs)).run P w = .ok ((m.toList == n.toList) && b) w := by
  have hpx : (part f.type xs f.offset).run P w = .ok (.string m) w := by
    cases hq : P.info? f.type with
    | none => simp [hq] at hi
    | some i => simp [part, isAgg, run_underlying hu, go_sem, hx]
  have hpy : (part f.type ys f.offset).run P w = .ok (.string n) w := by
    cases hq : P.info? f.type with
    | none => simp [hq] at hi
    | some i => simp [part, isAgg, run_underlying hu, go_sem, hy]
  have hne : f.name ≠ "_" := by simpa using hn
  have he : (Op.equalIn (d + 1) f.type (.string m) (.string n)).run P w = .ok (m.toList == n.toList) w := by
    simp [Op.equalIn, run_underlying hu, go_sem, beq_toListBytes]
  simp only [Op.eqFields, if_pos hne, Sem.run_bind, hpx, hpy, Result.andThen_ok, he]
  cases hb : m.toList == n.toList
  · simp [go_sem]
  · simp [hr]
end Go.Lm

/- '[]byte("..")': the literal's row, marked and held from then on. General: no program in sight. -/
namespace Go.Lm
open Go Go.RowKit
variable {P : Program} {W : Base} {g w w' : World} {l : List Atom}
theorem SL.hold0R {b : Nat} {cs : Array Value} {t : TypeId} {r : Nat × Nat} (H : SL W g w (obj b (.cells cs t r) :: l)) : ∃ g', Mono g g' ∧ SL W g' w l ∧ (∀ i, g'.cell? ⟨b, i, none⟩ = cs[i]?) := by
  obtain ⟨hW, hw, hn⟩ := H.has0
  obtain ⟨h, be, s, o, h1, h2, ap, rfl, s1, s2⟩ := H
  have hlt : b < w.heap.size := (Array.getElem?_eq_some_iff.1 hw).1
  have m : Mono g (withB g w.heap.size b (.cells cs t r)) := fun a v hv => by
    have hne : a.block ≠ b := fun e => by rw [hn a e] at hv; cases hv
    rw [withB_cell s.size a hne]; exact hv
  have hc : ∀ (i : Nat) (sp), (withB g w.heap.size b (.cells cs t r)).cell? ⟨b, i, sp⟩ = w.cell? ⟨b, i, sp⟩ := fun i sp => by
    unfold World.cell? withB
    rw [hw]
    simp [hlt]
  refine ⟨withB g w.heap.size b (.cells cs t r), m, ⟨h2, be, ⟨⟨by simp [withB], fun a v hv => ?_⟩, fun a ha => ?_⟩, fun k x hx => ?_, s2.mono m⟩, fun i => ?_⟩
  · by_cases e : a.block = b
    · have : a = ⟨b, a.off, a.spot⟩ := by cases a; simp_all
      rw [this] at hv ⊢
      rw [hc] at hv; exact hv
    · rw [withB_cell s.size a e] at hv; exact s.mono a v hv
  · have hne : a.block ≠ b := fun e => by
      have h1 : W.n ≤ b := hW
      unfold Base.n at h1
      omega
    rw [withB_cell s.size a hne]; exact s.agr a ha
  · have h1k : h1 k = none := by
      rcases ap k with e | e
      · exact e
      · rw [e] at hx; cases hx
    obtain ⟨o1, o2, o3⟩ := o k x (by rw [Hp.join_right h1k]; exact hx)
    refine ⟨o1, o2, fun a ha => ?_⟩
    have hkb : k ≠ b := fun e => by
      subst e
      rw [show h1 k = some _ from s1] at h1k; cases h1k
    rw [withB_cell s.size a (by rw [ha]; exact hkb)]
    exact o3 a ha
  · rw [hc]
    unfold World.cell?
    rw [hw]
    simp
theorem run_convert_lit {b n c : Nat} {cs : Array Value} {t e : TypeId} (hb : Blk w b cs e) (ht : P.underlying t = some (.slice e)) (he : P.underlying e = some (.int .u8)) :
    ∃ w', (convert t t (.slice (some ⟨b, 0, none⟩) n c)).run P w = .ok (.slice (some ⟨b, 0, none⟩) n c) w' ∧ UpdO w b (.cells cs e (cs.size, cs.size + 1)) w' := by
  have hlt : b < w.heap.size := (Array.getElem?_eq_some_iff.1 hb).1
  have hg : w.heap[b] = .cells cs e (0, 0) := (Array.getElem?_eq_some_iff.1 hb).2
  have hsh : w.shape? b = some (e, cs.size) := by
    unfold World.shape?
    rw [show w.heap[b]? = some (.cells cs e (0, 0)) from hb]
  refine ⟨w.freeze ⟨b, cs.size, none⟩ 1, ?_, ?_, hlt⟩
  · simp [convert, run_underlying ht, run_underlying he, markStringish, hsh]
  · unfold World.freeze
    rw [if_neg (by decide)]
    congr 1
    apply Array.ext
    · simp
    · intro i h1 h2
      rw [Array.getElem_modify]
      by_cases h : b = i
      · subst h
        simp [hg]
      · rw [if_neg h, Array.getElem_setIfInBounds_ne _ h]
theorem S_convert_lit {α : Type} [GoRep α] {ops : Array Oper} {rest : List Oper} {n : Nat} {s : AL} {Q : Exit → Act → World → Prop} {o : Oper} {x : Operand} {d b k : Nat} {t e : TypeId} {cs : Array Value} {ds : List (List Value)} {xs : List α}
    (H : SL W g w (blk b cs e :: l)) (r : RelL g ds xs) (hc : cs.toList = ds.flatten) (hn : xs.length = k) (hm : k ≤ maxLen) (ht : P.underlying t = some (.slice e)) (he : P.underlying e = some (.int .u8))
    (ho : o.op = .convert t t x) (hx : ev s x = some (.slice (some ⟨b, 0, none⟩) k k)) (hw : wants ops s o = some true) (hdd : o.dst = some d) (hnn : Nat.blt d n = true)
    (q : ∀ w' g', Mono g g' → SL W g' w' l → Is g' (.slice (some ⟨b, 0, none⟩) k k) xs → wpR P ops rest n ((d, .slice (some ⟨b, 0, none⟩) k k) :: s) Q w') : wpR P ops (o :: rest) n s Q w := by
  obtain ⟨w', hr, u⟩ := run_convert_lit (n := k) (c := k) (H.blk 0) ht he
  obtain ⟨g', m, H2, hcell⟩ := (H.updO 0 u).hold0R
  subst hn
  refine R_val hw (by unfold knows noSel; rw [ho]; simp [Op.operands, hx]) hdd hnn (v := .slice (some ⟨b, 0, none⟩) xs.length xs.length) (w' := w') (X_conv ho (show rho s x = _ by simp [rho, hx]) hr) (q w' g' m H2 ?_)
  refine is_list.2 (.inr ⟨⟨b, 0, none⟩, xs.length, rfl, Nat.le_refl _, hm, fun i x hx => ?_⟩)
  obtain ⟨c, hr, hcc⟩ := r.get i x hx
  refine ⟨c, fun j v hj => ?_, GoRep.mono m hr⟩
  rw [Addr.add_mid, hcell]
  have h5 := hcc j v hj
  rw [← hc] at h5
  simpa using h5
end Go.Lm

/- Slices of slices of bytes; ints of a slice are ints. General: no program in sight. -/
namespace Go.Lm
open Go Go.RowKit
section
variable {P : Program} {g w : World} {v : Value} {i : Int}
theorem bytes_at {xs : List (List UInt8)} (h : Is g v xs) (h0 : 0 ≤ i) (h1 : i < xs.length) : ∃ u, ElemAt g 1 v i [u] ∧ Is g u (nth xs i) := by
  obtain ⟨cs, h2, h3⟩ := elem_at h h0 h1
  rw [← nth_eq (by omega)] at h3
  obtain ⟨u, rfl, hu⟩ := h3
  exact ⟨u, h2, is_list.2 hu⟩
theorem run_elem_one {k : Nat} {c : Value} {t : TypeId} {d : TypeDesc} (h : ElemAt g k v i [c]) (m : Mono g w) (hu : P.underlying t = some d) (hd : d.isRow = false) : (Instr.loadAt t (elemP k v i)).run P w = .ok c w := by
  have := run_elem_field (P := P) (off := 0) h m hu hd rfl
  obtain ⟨a, ha, _⟩ := h w m
  rw [ha] at this ⊢
  simpa [addP, Addr.add] using this
theorem wf_bounds {x : Int} (h : (Lit.int .i64 x).wf = true) : -9223372036854775808 ≤ x ∧ x ≤ 9223372036854775807 := by
  simp [Lit.wf, IntKind.min, IntKind.max, IntKind.signed, IntKind.bits] at h
  omega
theorem int_at {xs : List Int} (h : Is g v xs) (h0 : 0 ≤ i) (h1 : i < xs.length) : -9223372036854775808 ≤ nth xs i ∧ nth xs i ≤ 9223372036854775807 := by
  obtain ⟨cs, h2, h3⟩ := elem_at h h0 h1
  rw [← nth_eq (by omega)] at h3
  exact wf_bounds h3.2
end
theorem kindI_range {c n : Int} (h0 : -9223372036854775808 ≤ c) (h1 : c ≤ 9223372036854775807) (hn : 0 < n) : 0 ≤ kindI c n ∧ kindI c n < n := by
  unfold kindI
  split
  · exact ⟨Int.tmod_nonneg _ (by omega), Int.tmod_lt_of_pos _ hn⟩
  · exact ⟨Int.tmod_nonneg _ (by omega), Int.tmod_lt_of_pos _ hn⟩
theorem rsOk {d : List UInt8} {lk : Int} {e : List (ByteArray × Int)} {k : Int} (h0 : 0 ≤ k) (h1 : k ≤ 4096) : resizeE [(2, fileN d lk), (1, rootU e)] 2 k = 0 := by
  rw [rs1, if_neg (by omega), if_neg (by omega)]
theorem rsOkU {d : List UInt8} {lk : Int} {e : List (ByteArray × Int)} {k : Int} (h0 : 0 ≤ k) (h1 : k ≤ 4096) : resizeU [(2, fileN d lk), (1, rootU e)] 2 k = [(2, fileN (sizedL d k) lk), (1, rootU e)] := by
  rw [rs1U, rsOk h0 h1]; rfl
theorem rsNo {d : List UInt8} {lk : Int} {e : List (ByteArray × Int)} {k : Int} (h0 : 0 ≤ k) (h1 : ¬ k ≤ 4096) : resizeE [(2, fileN d lk), (1, rootU e)] 2 k = 3 := by
  rw [rs1, if_neg (by omega), if_pos (by omega)]
theorem rsNoU {d : List UInt8} {lk : Int} {e : List (ByteArray × Int)} {k : Int} (h0 : 0 ≤ k) (h1 : ¬ k ≤ 4096) : resizeU [(2, fileN d lk), (1, rootU e)] 2 k = [(2, fileN d lk), (1, rootU e)] := by
  rw [rs1U, rsNo h0 h1]; rfl
theorem wrOk {d c : List UInt8} {lk : Int} {e : List (ByteArray × Int)} {k : Int} (h0 : 0 ≤ k) (h1 : k + c.length ≤ 4096) : writeE [(2, fileN d lk), (1, rootU e)] 2 k c = 0 := by
  rw [wr1, if_neg (by omega), if_neg (by omega)]
theorem wrOkU {d c : List UInt8} {lk : Int} {e : List (ByteArray × Int)} {k : Int} (h0 : 0 ≤ k) (h1 : k + c.length ≤ 4096) (h2 : (c.length : Int) > 0) : writeU [(2, fileN d lk), (1, rootU e)] 2 k c = [(2, fileN (writeL d k c) lk), (1, rootU e)] := by
  rw [wr1U, wrOk h0 h1, if_pos ⟨rfl, by omega⟩]
theorem wrZeroU {d c : List UInt8} {lk : Int} {e : List (ByteArray × Int)} {k : Int} (h2 : ¬ (c.length : Int) > 0) : writeU [(2, fileN d lk), (1, rootU e)] 2 k c = [(2, fileN d lk), (1, rootU e)] := by
  rw [wr1U, if_neg (by omega)]
theorem wrNo {d c : List UInt8} {lk : Int} {e : List (ByteArray × Int)} {k : Int} (h0 : 0 ≤ k) (h1 : ¬ k + c.length ≤ 4096) : writeE [(2, fileN d lk), (1, rootU e)] 2 k c = 3 := by
  rw [wr1, if_neg (by omega), if_pos (by omega)]
theorem wrNoU {d c : List UInt8} {lk : Int} {e : List (ByteArray × Int)} {k : Int} (h0 : 0 ≤ k) (h1 : ¬ k + c.length ≤ 4096) : writeU [(2, fileN d lk), (1, rootU e)] 2 k c = [(2, fileN d lk), (1, rootU e)] := by
  rw [wr1U, wrNo h0 h1, if_neg (by omega)]
theorem writeL_length (d c : List UInt8) (k : Int) (h0 : 0 ≤ k) : (writeL d k c).length = (max (d.length : Int) (k + c.length)).toNat := by
  unfold writeL
  rw [copyL_length _ _ _ (by rw [sizedL_length]; omega), sizedL_length]
end Go.Lm

/- What an upper branch takes. Plain. General: no program in sight. -/
namespace Go.Lm
open Go Go.RowKit
def sumX : List XattrD → Int
  | [] => 0
  | x :: r => ((x.v.1.size : Int) + x.v.2.1.length) + sumX r
def sumS {α : Type} : List (ByteArray × α) → Int
  | [] => 0
  | x :: r => (x.1.size : Int) + sumS r
def nodeB (n : UNode) : Int := 64 + (n.data.length : Int) + (n.target.size : Int) + sumX n.xattrs + sumS n.ents
def usedB : UL → Int
  | [] => 0
  | p :: r => nodeB p.2 + usedB r
def sumK {κ α : Type} (f : κ → Int) : List (κ × α) → Int
  | [] => 0
  | p :: r => f p.1 + sumK f r
theorem sumX_nn : ∀ l : List XattrD, 0 ≤ sumX l
  | [] => Int.le_refl _
  | x :: r => by have := sumX_nn r; show 0 ≤ ((x.v.1.size : Int) + x.v.2.1.length) + sumX r; omega
theorem sumS_nn {α : Type} : ∀ l : List (ByteArray × α), 0 ≤ sumS l
  | [] => Int.le_refl _
  | x :: r => by have := sumS_nn r; show 0 ≤ (x.1.size : Int) + sumS r; omega
theorem nodeB_nn (n : UNode) : 0 ≤ nodeB n := by
  have := sumX_nn n.xattrs; have := sumS_nn n.ents; unfold nodeB; omega
theorem sumK_nn {κ α : Type} {f : κ → Int} (hf : ∀ x, 0 ≤ f x) : ∀ l : List (κ × α), 0 ≤ sumK f l
  | [] => Int.le_refl _
  | x :: r => by have := sumK_nn hf r; have := hf x.1; show 0 ≤ f x.1 + sumK f r; omega
theorem sumK_perm {κ α : Type} (f : κ → Int) {l m : List (κ × α)} (h : l.Perm m) : sumK f l = sumK f m := by
  induction h with
  | nil => rfl
  | cons x _ ih => show f x.1 + _ = f x.1 + _; rw [ih]
  | swap x y l => show f y.1 + (f x.1 + sumK f l) = f x.1 + (f y.1 + sumK f l); omega
  | trans _ _ h1 h2 => rw [h1, h2]
theorem sumX_drop {l : List XattrD} {k : Int} (h0 : 0 ≤ k) (h1 : k < l.length) : sumX (l.drop k.toNat) = (((nth l k).v.1.size : Int) + (nth l k).v.2.1.length) + sumX (l.drop (k + 1).toNat) := by
  rw [drop_nth h0 h1]; rfl
theorem sumX_end {l : List XattrD} {k : Int} (h1 : ¬ k < l.length) : sumX (l.drop k.toNat) = 0 := by
  rw [drop_end h1]; rfl
def szF (s : ByteArray) : Int := s.size
theorem szF_nn (s : ByteArray) : 0 ≤ szF s := by unfold szF; omega
theorem sumK_ents (l : List (ByteArray × Int)) : sumK szF (entsV l) = sumS l := by
  induction l with
  | nil => rfl
  | cons p r ih =>
    show szF p.1 + sumK szF (entsV r) = (p.1.size : Int) + sumS r
    rw [ih]; rfl
def nodeAt (L : List (Int × LNode)) (r : Int) : Int := match getK L r with | some n => nodeB n.er | none => 0
theorem nodeAt_nn (L : List (Int × LNode)) (r : Int) : 0 ≤ nodeAt L r := by
  unfold nodeAt
  split
  · exact nodeB_nn _
  · exact Int.le_refl _
theorem nodeAt_some {L : List (Int × LNode)} {r : Int} {n : LNode} (h : getK L r = some n) : nodeAt L r = 64 + (n.data.length : Int) + (n.target.size : Int) + sumX n.xattrs + sumS n.ents := by
  unfold nodeAt; rw [h]; rfl
theorem sumK_ptrs (L : List (Int × LNode)) (hn : (L.map (·.1)).Nodup) : sumK (nodeAt L) (ptrsV L) = usedB (er L) := by
  have key : ∀ (M : List (Int × LNode)), (∀ p ∈ M, getK L p.1 = some p.2) → sumK (nodeAt L) (ptrsV M) = usedB (er M) := by
    intro M
    induction M with
    | nil => intro _; rfl
    | cons p r ih =>
      intro h
      show nodeAt L p.1 + sumK (nodeAt L) (ptrsV r) = nodeB p.2.er + usedB (er r)
      rw [ih fun q hq => h q (List.mem_cons_of_mem _ hq)]
      have : nodeAt L p.1 = nodeB p.2.er := by unfold nodeAt; rw [h p (List.mem_cons_self ..)]
      rw [this]
  refine key L fun p hp => ?_
  exact getK_of_mem hn hp
theorem ptrs_mem {L : List (Int × LNode)} {x : Int} {y : Value} (hn : (L.map (·.1)).Nodup) (h : (x, y) ∈ ptrsV L) : ∃ n, getK L x = some n ∧ y = ptr n.blk 0 := by
  unfold ptrsV at h
  obtain ⟨p, hp, e⟩ := List.mem_map.1 h
  cases e
  exact ⟨p.2, getK_of_mem hn hp, rfl⟩
end Go.Lm
namespace Go.Lm
open Go Go.RowKit
theorem ents_mem {l : List (ByteArray × Int)} {x : ByteArray} {y : Value} (h : (x, y) ∈ entsV l) : ∃ v, y = .int .i64 v := by
  unfold entsV at h
  obtain ⟨p, _, e⟩ := List.mem_map.1 h
  cases e
  exact ⟨p.2, rfl⟩
end Go.Lm
namespace Go.Lm
open Go
theorem tup_agg2 {a b c d : Int} (h : a = b) (k : c = d) : Value.agg #[.int .i64 a, .int .i64 c] = Value.agg #[.int .i64 b, .int .i64 d] := by rw [h, k]
end Go.Lm

/- The states of the law on what is made and has more names. Plain. General: no program in sight. -/
namespace Go.Lm
open Go Go.RowKit
def sameX : List XattrD → List XattrD → Bool
  | [], [] => true
  | x :: r, y :: t => (x.v.1.toList == y.v.1.toList && (bstr x.v.2.1).toList == (bstr y.v.2.1).toList) && sameX r t
  | _, _ => false
theorem sameX_refl : ∀ l : List XattrD, sameX l l = true
  | [] => rfl
  | x :: r => by simp [sameX, sameX_refl r]
theorem sameX_len : ∀ {a b : List XattrD}, a.length ≠ b.length → sameX a b = false
  | [], [], h => absurd rfl h
  | [], _ :: _, _ => rfl
  | _ :: _, [], _ => rfl
  | x :: r, y :: t, h => by
    have : r.length ≠ t.length := fun e => h (by simp [e])
    simp [sameX, sameX_len this]
theorem sameX_step {a b : List XattrD} {k : Int} (h0 : 0 ≤ k) (h1 : k < a.length) (h2 : k < b.length) : sameX (a.drop k.toNat) (b.drop k.toNat) = (((nth a k).v.1.toList == (nth b k).v.1.toList && (bstr (nth a k).v.2.1).toList == (bstr (nth b k).v.2.1).toList) && sameX (a.drop (k + 1).toNat) (b.drop (k + 1).toNat)) := by
  rw [drop_nth h0 h1, drop_nth h0 h2]; rfl
theorem sameX_end {a b : List XattrD} {k : Int} (h1 : ¬ k < a.length) (h2 : a.length = b.length) : sameX (a.drop k.toNat) (b.drop k.toNat) = true := by
  rw [drop_end h1, drop_end (by omega)]; rfl
def NM : List ByteArray := [⟨#[49]⟩, ⟨#[50]⟩, ⟨#[51]⟩, ⟨#[52]⟩, ⟨#[53]⟩]
theorem nm_cases {i : Int} (h0 : 0 ≤ i) (h1 : i < 5) : i = 0 ∨ i = 1 ∨ i = 2 ∨ i = 3 ∨ i = 4 := by omega
theorem nm_valid {i : Int} (h0 : 0 ≤ i) (h1 : i < 5) : validN (nth NM i) = 0 := by
  rcases nm_cases h0 h1 with rfl | rfl | rfl | rfl | rfl <;> (rw [validN_list]; rfl)
theorem nm_size {i : Int} (h0 : 0 ≤ i) (h1 : i < 5) : (nth NM i).size ≤ 9223372036854775807 := by
  rcases nm_cases h0 h1 with rfl | rfl | rfl | rfl | rfl <;> decide
theorem nm_inj {i j : Int} (h0 : 0 ≤ i) (h1 : i < 5) (k0 : 0 ≤ j) (k1 : j < 5) (h : nth NM i = nth NM j) : i = j := by
  rcases nm_cases h0 h1 with rfl | rfl | rfl | rfl | rfl <;> rcases nm_cases k0 k1 with rfl | rfl | rfl | rfl | rfl <;> first | rfl | exact absurd h (by decide)
def S00 : UL := [(1, rootU [])]
theorem mkYes {s : ByteArray} {M : MkN} (h : makeE [(1, rootU [])] 1 s M = 0) : makeU [(1, rootU [])] 2 1 s M = [(2, newU M 1), (1, rootU [(s, 2)])] := by
  unfold makeU; rw [if_pos h]; rfl
theorem mkNo {s : ByteArray} {M : MkN} (h : ¬ makeE [(1, rootU [])] 1 s M = 0) : makeU [(1, rootU [])] 2 1 s M = [(1, rootU [])] := by
  unfold makeU; rw [if_neg h]
theorem mkGood {s : ByteArray} {M : MkN} (h : makeE [(1, rootU [])] 1 s M = 0) : validN s = 0 ∧ goodM M = true := by
  have hf : freshU [(1, rootU [])] 1 s = if validN s = 0 then 0 else validN s := rfl
  unfold makeE at h
  rw [hf] at h
  by_cases hv : validN s = 0
  · rw [if_pos hv, if_pos rfl] at h
    by_cases hg : goodM M = true
    · exact ⟨hv, hg⟩
    · rw [if_neg hg] at h; cases h
  · rw [if_neg hv, if_neg hv] at h
    exact absurd h hv
/-- With so many entries. -/
def stL (M : MkN) (E : List (ByteArray × Int)) : UL := [(2, { newU M 1 with links := E.length }), (1, rootU E)]
def stR (M : MkN) (E : List (ByteArray × Int)) : UL := if E = [] then [(1, rootU [])] else stL M E
theorem stR_pos {M : MkN} {E : List (ByteArray × Int)} (h : E ≠ []) : stR M E = stL M E := if_neg h
theorem usedL (M : MkN) (s : ByteArray) : usedB [(2, newU M 1), (1, rootU [(s, 2)])] = 128 + (M.data.length : Int) + (M.target.size : Int) + sumX M.xattrs + (s.size : Int) := by
  show (64 + (M.data.length : Int) + (M.target.size : Int) + sumX M.xattrs + 0) + ((64 + ((0 : Nat) : Int) + ((0 : Nat) : Int) + 0 + ((s.size : Int) + 0)) + 0) = _
  omega
/-- What the entries are while names are added: up to i. -/
structure In2 (s : ByteArray) (i : Int) (E : List (ByteArray × Int)) : Prop where
  all : ∀ p ∈ E, p.2 = 2 ∧ (p.1 = s ∨ ∃ k, 0 ≤ k ∧ k < i ∧ p.1 = nth NM k ∧ nth NM k ≠ s)
  nodup : (E.map (·.1)).Nodup
  get : getK E s = some 2
theorem In2.start (s : ByteArray) : In2 s 0 [(s, 2)] := ⟨by simp, by simp, by simp [getK]⟩
theorem In2.skip {s : ByteArray} {i : Int} {E : List (ByteArray × Int)} (h : In2 s i E) : In2 s (i + 1) E :=
  ⟨fun p hp => ⟨(h.all p hp).1, (h.all p hp).2.imp id fun ⟨k, a, b, c⟩ => ⟨k, a, by omega, c⟩⟩, h.nodup, h.get⟩
theorem In2.none {s : ByteArray} {i : Int} {E : List (ByteArray × Int)} (h : In2 s i E) (h0 : 0 ≤ i) (h1 : i < 5) (hn : nth NM i ≠ s) : getK E (nth NM i) = none := by
  rw [getK_none]
  intro p hp e
  rcases (h.all p hp).2 with h2 | ⟨k, a, b, c, d⟩
  · exact hn (e.symm.trans h2)
  · have := nm_inj h0 h1 a (by omega) (e.symm.trans c)
    omega
theorem In2.put {s : ByteArray} {i : Int} {E : List (ByteArray × Int)} (h : In2 s i E) (h0 : 0 ≤ i) (h1 : i < 5) (hn : nth NM i ≠ s) : In2 s (i + 1) ((nth NM i, 2) :: E) := by
  have hno := h.none h0 h1 hn
  refine ⟨fun p hp => ?_, ?_, ?_⟩
  · rcases List.mem_cons.1 hp with rfl | hp
    · exact ⟨rfl, .inr ⟨i, h0, by omega, rfl, hn⟩⟩
    · exact h.skip.all p hp
  · rw [List.map_cons, List.nodup_cons]
    refine ⟨fun hm => ?_, h.nodup⟩
    obtain ⟨p, hp, e⟩ := List.mem_map.1 hm
    exact getK_none.1 hno p hp e
  · rw [getK_cons_ne hn]; exact h.get
theorem In2.ne {s : ByteArray} {i : Int} {E : List (ByteArray × Int)} (h : In2 s i E) : E ≠ [] := fun e => by
  have := h.get; rw [e] at this; cases this
/-- .. while they are taken away: from j on. -/
structure In3 (s : ByteArray) (j : Int) (R : List (ByteArray × Int)) : Prop where
  all : ∀ p ∈ R, p.2 = 2 ∧ ∃ k, j ≤ k ∧ k < 5 ∧ p.1 = nth NM k ∧ nth NM k ≠ s
  nodup : (R.map (·.1)).Nodup
theorem delK_nodup {α : Type} {l : List (ByteArray × α)} {x : ByteArray} (h : (l.map (·.1)).Nodup) : ((delK l x).map (·.1)).Nodup := by
  unfold delK
  exact List.Nodup.sublist (List.Sublist.map _ (List.filter_sublist)) h
theorem delK_mem {α : Type} {l : List (ByteArray × α)} {x : ByteArray} {p : ByteArray × α} (h : p ∈ delK l x) : p ∈ l ∧ p.1 ≠ x := by
  unfold delK at h
  simpa using List.mem_filter.1 h
theorem delK_len {α : Type} {l : List (ByteArray × α)} {x : ByteArray} {v : α} (hn : (l.map (·.1)).Nodup) (h : getK l x = some v) : (delK l x).length + 1 = l.length := by
  obtain ⟨l1, l2, e, h1, h2⟩ := getK_split hn h
  subst e
  unfold delK
  rw [List.filter_append, List.filter_cons, List.filter_eq_self.2 fun p hp => by simp [h1 p hp], List.filter_eq_self.2 fun p hp => by simp [h2 p hp]]
  simp; omega
theorem In2.del {s : ByteArray} {i : Int} {E : List (ByteArray × Int)} (h : In2 s i E) (h1 : i ≤ 5) : In3 s 0 (delK E s) := by
  refine ⟨fun p hp => ?_, delK_nodup h.nodup⟩
  obtain ⟨hp, hne⟩ := delK_mem hp
  refine ⟨(h.all p hp).1, ?_⟩
  rcases (h.all p hp).2 with e | ⟨k, a, b, c, d⟩
  · exact absurd e hne
  · exact ⟨k, a, by omega, c, d⟩
theorem In3.skip {s : ByteArray} {j : Int} {R : List (ByteArray × Int)} (h : In3 s j R) (hn : nth NM j = s ∨ getK R (nth NM j) = none) : In3 s (j + 1) R := by
  refine ⟨fun p hp => ?_, h.nodup⟩
  obtain ⟨h1, k, a, b, c, d⟩ := h.all p hp
  refine ⟨h1, k, ?_, b, c, d⟩
  have : k ≠ j := fun e => by
    subst e
    rcases hn with hn | hn
    · exact d hn
    · exact getK_none.1 hn p hp c
  omega
theorem In3.take {s : ByteArray} {j : Int} {R : List (ByteArray × Int)} (h : In3 s j R) : In3 s (j + 1) (delK R (nth NM j)) := by
  refine ⟨fun p hp => ?_, delK_nodup h.nodup⟩
  obtain ⟨hp, hne⟩ := delK_mem hp
  obtain ⟨h1, k, a, b, c, d⟩ := h.all p hp
  refine ⟨h1, k, ?_, b, c, d⟩
  have : k ≠ j := fun e => by subst e; exact hne c
  omega
theorem In3.fin {s : ByteArray} {j : Int} {R : List (ByteArray × Int)} (h : In3 s j R) (hj : 5 ≤ j ∨ ¬ (R.length : Int) > 0) : R = [] := by
  rcases hj with hj | hj
  · cases R with
    | nil => rfl
    | cons p r =>
      obtain ⟨_, k, a, b, _⟩ := h.all p (List.mem_cons_self ..)
      omega
  · exact List.eq_nil_of_length_eq_zero (by omega)
theorem In3.get2 {s : ByteArray} {j : Int} {R : List (ByteArray × Int)} {x : ByteArray} {v : Int} (h : In3 s j R) (hg : getK R x = some v) : v = 2 := (h.all _ (getK_mem hg)).1
section
variable {M : MkN} {E : List (ByteArray × Int)} {x : ByteArray}
theorem getL1 : getK (stL M E) (1 : Int) = some (rootU E) := rfl
theorem getL2 : getK (stL M E) (2 : Int) = some { newU M 1 with links := E.length } := rfl
theorem lkL (hv : validN x = 0) (hn : getK E x = none) (hk : M.kind ≠ 1) : linkE (stL M E) 1 x 2 = 0 := by
  simp [linkE, getL1, getL2, freshU, rootU, newU, hv, hn, hk]
theorem lkLU (hv : validN x = 0) (hn : getK E x = none) (hk : M.kind ≠ 1) : linkU (stL M E) 1 x 2 = stL M ((x, 2) :: E) := by
  have hd : delK E x = E := by
    unfold delK
    refine List.filter_eq_self.2 fun p hp => ?_
    have := getK_none.1 hn p hp
    simp [this]
  unfold linkU
  rw [if_pos (lkL hv hn hk), getL1, getL2]
  simp [stL, setK, rootU, newU, putK, hd]
theorem rmL (hg : getK E x = some 2) : removeE (stL M E) 1 x = 0 := by
  simp [removeE, lookE, getL1, rootU, hg]
theorem rmNoL (hg : getK E x = none) : removeE (stL M E) 1 x = 20 := by
  simp [removeE, lookE, getL1, rootU, hg]
theorem rmNoLS (hg : getK E x = none) : removeS (stL M E) 1 x = stL M E := by
  simp [removeS, getL1, rootU, hg]
theorem rmLS (hn : (E.map (·.1)).Nodup) (hg : getK E x = some 2) : removeS (stL M E) 1 x = stR M (delK E x) := by
  have hl := delK_len hn hg
  have h0 : removeS (stL M E) 1 x = letS [(2, { newU M 1 with links := E.length }), (1, rootU (delK E x))] 2 := by
    unfold removeS
    rw [getL1]
    show (if (1 : Int) = 1 then (match getK E x with | none => stL M E | some r => letS (setK (stL M E) 1 { rootU E with ents := delK E x }) r) else stL M E) = _
    rw [if_pos rfl, hg]
    rfl
  rw [h0]
  unfold letS
  have h2 : getK [((2 : Int), ({ newU M 1 with links := E.length } : UNode)), (1, rootU (delK E x))] (2 : Int) = some { newU M 1 with links := E.length } := rfl
  rw [h2]
  unfold stR
  by_cases hq : delK E x = []
  · rw [if_pos hq]
    have : E.length = 1 := by rw [hq] at hl; simpa using hl.symm
    simp [this, delK, hq]
    exact congrArg rootU hq
  · rw [if_neg hq]
    have h3 : (delK E x).length ≠ 0 := fun e => hq (List.eq_nil_of_length_eq_zero e)
    have h4 : ({ newU M 1 with links := (E.length : Int) } : UNode).links - 1 > 0 := by show (E.length : Int) - 1 > 0; omega
    simp only [h4, if_true]
    have h5 : (E.length : Int) - 1 = (delK E x).length := by omega
    simp [setK, stL, h5]
theorem hexL (hl : E.length < 1000000) (h2 : ∀ v, getK E x = some v → v = 2) : ∀ n y, getK (stL M E) 1 = some n → getK n.ents x = some y → ∃ m, getK (stL M E) y = some m ∧ m.ents = [] ∧ 0 ≤ m.links ∧ m.links < 1000000000 ∧ (Lit.int .i64 y).wf = true := fun n y hn hy => by
  rw [getL1] at hn; cases hn
  have := h2 y hy
  subst this
  exact ⟨_, getL2, rfl, by show (0 : Int) ≤ E.length; omega, by show (E.length : Int) < _; omega, by decide⟩
end
end Go.Lm
namespace Go.Lm
open Go Go.RowKit
theorem valid_size {s : ByteArray} (h : validN s = 0) : s.size ≤ 255 := by
  unfold validN at h
  split at h
  · cases h
  · omega
theorem sumX_le : ∀ (l : List XattrD), (∀ x ∈ l, x.v.2.1.length ≤ 200 ∧ x.v.1.size ≤ 40) → sumX l ≤ 240 * l.length
  | [], _ => by simp [sumX]
  | x :: r, h => by
    have h1 := h x (List.mem_cons_self ..)
    have h2 := sumX_le r fun y hy => h y (List.mem_cons_of_mem _ hy)
    show ((x.v.1.size : Int) + x.v.2.1.length) + sumX r ≤ 240 * ((r.length + 1 : Nat) : Int)
    omega
theorem ne_of_list {a b : ByteArray} (h : (!(a.toList == b.toList)) = true) : a ≠ b := fun e => by subst e; simp at h
theorem eq_of_list {a b : ByteArray} (h : (!(a.toList == b.toList)) = false) : a = b := by
  have h2 : a.toList = b.toList := by simpa using h
  rw [Lib.toList_data, Lib.toList_data] at h2
  apply ByteArray.ext
  exact Array.toList_inj.1 h2
end Go.Lm

/- The cells of an argument of one cell. General: no program in sight. -/
namespace Go.Lm
open Go Go.RowKit
theorem cells_str1 {P : Program} {w : World} {r : Reach} {base : Nat} {t : TypeId} {v : Value} (ht : P.underlying t = some .string) (h : Value.okWide P w r base t v) : v.cells = #[v] := by
  obtain ⟨s, rfl⟩ := WideShapes.okWide_string ht h; rfl
theorem cells_slice1 {P : Program} {w : World} {r : Reach} {base : Nat} {t e : TypeId} {v : Value} (ht : P.underlying t = some (.slice e)) (h : Value.okWide P w r base t v) : v.cells = #[v] := by
  obtain ⟨a, l, c, rfl⟩ := WideShapes.okWide_slice ht h; rfl
end Go.Lm
namespace Go.Lm
open Go Go.RowKit
theorem okWide_int_wf {P : Program} {w : World} {r : Reach} {base base2 : Nat} {t : TypeId} {v : Value} {H : Type} {enc : TypeId × Value → H} {spare : Nat → Bool} {held : Bool} {d : DataW H} {ps : List MemPlace} (ht : P.underlying t = some (.int .i64)) (h : Value.okWide P w r base t v) (k : DataW.Trod enc P w base2 spare held t v d ps) :
    ∃ n, v = .int .i64 n ∧ (Lit.int .i64 n).wf = true := by
  obtain ⟨i, rfl⟩ := WideShapes.okWide_int ht h
  obtain ⟨x, hx⟩ := open_one (opens_int ht) rfl rfl k
  have e : GoRep.rel w [Value.int .i64 i] x := by
    unfold Is at hx
    rw [if_neg (by simp [GoRep.agg])] at hx; exact hx
  obtain ⟨e1, e2⟩ := e
  cases e1
  exact ⟨i, rfl, e2⟩
end Go.Lm
