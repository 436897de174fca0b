/- An upper branch as a part of what is owned: its nodes, their entries. General: no program in sight. -/
import Derived.Test.YtnmaehdklmgfmaaLmMore
import Derived.Test.YtnmaehdklmgfmaaLmMapV
import Derived.Test.YtnmaehdklmgfmaaLmEntry
namespace Go.Lm
open Go Go.RowKit

theorem nthA_mid (x : Atom) (B : List Atom) : ∀ A : List Atom, nthA (A ++ x :: B) A.length = some x
  | [] => rfl
  | _ :: A => nthA_mid x B A
theorem dropA_mid (x : Atom) (B : List Atom) : ∀ A : List Atom, dropA (A ++ x :: B) A.length = A ++ B
  | [] => rfl
  | a :: A => by
    show a :: dropA (A ++ x :: B) A.length = a :: (A ++ B)
    rw [dropA_mid x B A]
theorem setA_mid (x y : Atom) (B : List Atom) : ∀ A : List Atom, setA (A ++ x :: B) A.length y = A ++ y :: B
  | [] => rfl
  | a :: A => by
    show a :: setA (A ++ x :: B) A.length y = a :: (A ++ y :: B)
    rw [setA_mid x y B A]
section
variable {W : Base} {g w : World}
theorem SL.mid {A B : List Atom} {x : Atom} (H : SL W g w (A ++ x :: B)) : SL W g w (x :: (A ++ B)) := by
  have := H.pick A.length (nthA_mid x B A)
  rw [dropA_mid] at this; exact this
theorem SL.unmid {A B : List Atom} {x y : Atom} (H : SL W g w (y :: (A ++ B))) : SL W g w (A ++ y :: B) := by
  have h : SL W g w (y :: dropA (A ++ x :: B) A.length) := by rw [dropA_mid]; exact H
  have := h.unpick A.length (nthA_mid x B A)
  rw [setA_mid] at this; exact this
end

/-- The types' numbers: of the branch, of a node, of the maps' keys. -/
structure UTy where
  U : TypeId
  N : TypeId
  kI : TypeId
  kS : TypeId
/-- A node: its block, what stands in its fields, and what these read as. -/
structure LNode where
  blk : Nat
  kind : Int
  mode : Int
  uid : Int
  gid : Int
  vd : Value
  data : List UInt8
  target : ByteArray
  vx : Value
  xattrs : List XattrD
  opq : Bool
  vi : Value
  ents : List (ByteArray × Int)
  up : Int
  links : Int
abbrev LNode.cells (n : LNode) : Array Value := #[.slice none 0 0, .int .i64 0, .int .i64 n.kind, .int .i64 n.mode, .int .i64 n.uid, .int .i64 n.gid, n.vd, .string n.target, n.vx, .bool n.opq, n.vi, .int .i64 n.up, .int .i64 n.links]
def entsV (l : List (ByteArray × Int)) : List (ByteArray × Value) := l.map fun p => (p.1, .int .i64 p.2)
def ptrsV (L : List (Int × LNode)) : List (Int × Value) := L.map fun p => (p.1, ptr p.2.blk 0)
def setK {κ α : Type} [MKey κ] (l : List (κ × α)) (x : κ) (v : α) : List (κ × α) := l.map fun p => if p.1 = x then (p.1, v) else p

section
variable {κ : Type} [MKey κ] {α β : Type}
theorem getK_map (f : α → β) (l : List (κ × α)) (x : κ) : getK (l.map fun p => (p.1, f p.2)) x = (getK l x).map f := by
  unfold getK
  rw [List.find?_map]
  cases h : l.find? ((fun p => decide (p.1 = x)) ∘ fun p => (p.1, f p.2)) with
  | none =>
    have : l.find? (fun p => decide (p.1 = x)) = none := h
    rw [this]; rfl
  | some p =>
    have : l.find? (fun p => decide (p.1 = x)) = some p := h
    rw [this]; rfl
theorem delK_map (f : α → β) (l : List (κ × α)) (x : κ) : delK (l.map fun p => (p.1, f p.2)) x = (delK l x).map fun p => (p.1, f p.2) := by
  unfold delK
  rw [List.filter_map]; rfl
theorem putK_map (f : α → β) (l : List (κ × α)) (x : κ) (v : α) : putK (l.map fun p => (p.1, f p.2)) x (f v) = (putK l x v).map fun p => (p.1, f p.2) := by
  unfold putK
  rw [delK_map]; rfl
theorem delK_none {l : List (κ × α)} {x : κ} (h : getK l x = none) : delK l x = l := by
  unfold delK
  refine List.filter_eq_self.2 fun p hp => ?_
  have := getK_none.1 h p hp
  simp [this]
theorem setK_split {l1 l2 : List (κ × α)} {x : κ} {v u : α} (h1 : ∀ p ∈ l1, p.1 ≠ x) (h2 : ∀ p ∈ l2, p.1 ≠ x) : setK (l1 ++ (x, v) :: l2) x u = l1 ++ (x, u) :: l2 := by
  unfold setK
  have e : ∀ l : List (κ × α), (∀ p ∈ l, p.1 ≠ x) → l.map (fun p => if p.1 = x then (p.1, u) else p) = l := fun l h => by
    conv => rhs; rw [← List.map_id l]
    exact List.map_congr_left fun p hp => by simp [h p hp]
  rw [List.map_append, List.map_cons, e l1 h1, e l2 h2]
  simp
theorem getK_split {l : List (κ × α)} {x : κ} {v : α} (hn : (l.map (·.1)).Nodup) (h : getK l x = some v) : ∃ l1 l2, l = l1 ++ (x, v) :: l2 ∧ (∀ p ∈ l1, p.1 ≠ x) ∧ (∀ p ∈ l2, p.1 ≠ x) := by
  obtain ⟨l1, l2, e⟩ := List.append_of_mem (getK_mem h)
  refine ⟨l1, l2, e, fun p hp q => ?_, fun p hp q => ?_⟩
  · rw [e, List.map_append, List.map_cons] at hn
    have h1 := (List.nodup_append.1 hn).2.2 p.1 (List.mem_map.2 ⟨p, hp, rfl⟩) x (by simp)
    exact h1 q
  · rw [e, List.map_append, List.map_cons] at hn
    have h1 := (List.nodup_cons.1 (List.nodup_append.1 hn).2.1).1
    exact h1 (by rw [← q]; exact List.mem_map.2 ⟨p, hp, rfl⟩)
end
theorem ptrs_keys (L : List (Int × LNode)) : (ptrsV L).map (·.1) = L.map (·.1) := by unfold ptrsV; rw [List.map_map]; rfl
theorem getK_ptrs (L : List (Int × LNode)) (r : Int) : getK (ptrsV L) r = (getK L r).map fun n => ptr n.blk 0 := getK_map (fun n : LNode => ptr n.blk 0) L r
theorem getK_ents (l : List (ByteArray × Int)) (s : ByteArray) : getK (entsV l) s = (getK l s).map fun x => .int .i64 x := getK_map (fun x : Int => Value.int .i64 x) l s
theorem ptrs_setK {L : List (Int × LNode)} {r : Int} {n n' : LNode} (hn : (L.map (·.1)).Nodup) (h : getK L r = some n) (hb : n'.blk = n.blk) : ptrsV (setK L r n') = ptrsV L := by
  obtain ⟨l1, l2, e, h1, h2⟩ := getK_split hn h
  rw [e, setK_split h1 h2]
  unfold ptrsV
  rw [List.map_append, List.map_append, List.map_cons, List.map_cons, hb]

section
variable {P : Program} {T : UTy} {W : Base} {g w w' : World} {l : List Atom}
def nodeL (P : Program) (T : UTy) (n : LNode) : List Atom :=
  [isA n.vd n.data, isA n.vx n.xattrs, pureA (n.target.size ≤ maxLen ∧ (n.kind = 1 → ∃ b, n.vi = .map (some b))), blk n.blk n.cells T.N, mapVA P T.kS n.vi (entsV n.ents)]
def nodeA (P : Program) (T : UTy) (n : LNode) : Atom := conjA (nodeL P T n)
def upA (P : Program) (T : UTy) (u : Nat) (q1 q2 : Int) (mb : Nat) (nx : Int) (L : List (Int × LNode)) : Atom :=
  conjA (blk u #[.int .i64 q1, .int .i64 q2, .map (some mb), .int .i64 nx] T.U :: mapA P T.kI mb (ptrsV L) :: L.map fun p => nodeA P T p.2)
variable {u mb : Nat} {q1 q2 nx : Int} {L : List (Int × LNode)}
theorem SL.upO (H : SL W g w (upA P T u q1 q2 mb nx L :: l)) : SL W g w (Lm.blk u #[.int .i64 q1, .int .i64 q2, .map (some mb), .int .i64 nx] T.U :: mapA P T.kI mb (ptrsV L) :: ((L.map fun p => Lm.nodeA P T p.2) ++ l)) := H.openC
theorem SL.upI (H : SL W g w (Lm.blk u #[.int .i64 q1, .int .i64 q2, .map (some mb), .int .i64 nx] T.U :: mapA P T.kI mb (ptrsV L) :: ((L.map fun p => Lm.nodeA P T p.2) ++ l))) : SL W g w (upA P T u q1 q2 mb nx L :: l) :=
  SL.shutC (a := Lm.blk u #[.int .i64 q1, .int .i64 q2, .map (some mb), .int .i64 nx] T.U :: mapA P T.kI mb (ptrsV L) :: L.map fun p => Lm.nodeA P T p.2) H
theorem SL.nodeO {n : LNode} (H : SL W g w (Lm.nodeA P T n :: l)) : Is g n.vd n.data ∧ Is g n.vx n.xattrs ∧ n.target.size ≤ maxLen ∧ (n.kind = 1 → ∃ b, n.vi = .map (some b)) ∧ SL W g w (Lm.blk n.blk n.cells T.N :: mapVA P T.kS n.vi (entsV n.ents) :: l) := by
  have h := SL.openC H
  obtain ⟨h1, h⟩ := SL.isv h
  obtain ⟨h2, h⟩ := SL.isv h
  obtain ⟨h3, h⟩ := SL.pure h
  exact ⟨h1, h2, h3.1, h3.2, h⟩
theorem SL.nodeI {n : LNode} (h1 : Is g n.vd n.data) (h2 : Is g n.vx n.xattrs) (h3 : n.target.size ≤ maxLen) (h4 : n.kind = 1 → ∃ b, n.vi = .map (some b)) (H : SL W g w (Lm.blk n.blk n.cells T.N :: mapVA P T.kS n.vi (entsV n.ents) :: l)) : SL W g w (Lm.nodeA P T n :: l) :=
  SL.shutC (a := nodeL P T n) ((H.addPure (p := n.target.size ≤ maxLen ∧ (n.kind = 1 → ∃ b, n.vi = .map (some b))) ⟨h3, h4⟩).addIs h2 |>.addIs h1)
/-- One node, taken out; laid back in another state. -/
theorem SL.upNode (H : SL W g w (upA P T u q1 q2 mb nx L :: l)) (KI : KeyT P T.kI Int) {r : Int} {n : LNode} (h : getK L r = some n) :
    ∃ R : List Atom, SL W g w (Lm.nodeA P T n :: R) ∧ ∀ (g' w' : World) (n' : LNode), n'.blk = n.blk → SL W g' w' (Lm.nodeA P T n' :: R) → SL W g' w' (upA P T u q1 q2 mb nx (setK L r n') :: l) := by
  have H1 := H.upO
  have hn : (L.map (·.1)).Nodup := by
    have := (H1.pick 1).mapNodup KI
    rwa [ptrs_keys] at this
  obtain ⟨l1, l2, e, h1, h2⟩ := getK_split hn h
  have hs : ∀ n', setK L r n' = l1 ++ (r, n') :: l2 := fun n' => by rw [e, setK_split h1 h2]
  have hp : ∀ n' : LNode, n'.blk = n.blk → ptrsV (l1 ++ (r, n') :: l2) = ptrsV L := fun n' hb => by rw [← hs n']; exact ptrs_setK hn h hb
  refine ⟨(Lm.blk u #[.int .i64 q1, .int .i64 q2, .map (some mb), .int .i64 nx] T.U :: mapA P T.kI mb (ptrsV L) :: l1.map fun p => Lm.nodeA P T p.2) ++ ((l2.map fun p => Lm.nodeA P T p.2) ++ l), ?_, fun g' w' n' hb H2 => ?_⟩
  · refine SL.mid ?_
    refine SL.cast H1 ?_
    rw [e]
    simp
  · refine SL.upI ?_
    rw [hs n', hp n' hb]
    refine SL.cast (SL.unmid (x := Lm.nodeA P T n) H2) ?_
    simp
/-- What can be read of a node, and of the branch. -/
structure NodeR (P : Program) (T : UTy) (g w : World) (n : LNode) : Prop where
  blk : Blk w n.blk n.cells T.N
  data : Is g n.vd n.data
  xattrs : Is g n.vx n.xattrs
  target : n.target.size ≤ maxLen
  dir : n.kind = 1 → ∃ b, n.vi = .map (some b)
  ents : MapV P T.kS w n.vi (entsV n.ents)
structure UpR (P : Program) (T : UTy) (g w : World) (u : Nat) (q1 q2 : Int) (mb : Nat) (nx : Int) (L : List (Int × LNode)) : Prop where
  ublk : Blk w u #[.int .i64 q1, .int .i64 q2, .map (some mb), .int .i64 nx] T.U
  map : MapV P T.kI w (.map (some mb)) (ptrsV L)
  nodes : ∀ r n, getK L r = some n → NodeR P T g w n
theorem NodeR.le {n : LNode} (h : NodeR P T g w n) (e : Le w w') : NodeR P T g w' n := ⟨e.blk h.blk, h.data, h.xattrs, h.target, h.dir, h.ents.le e⟩
theorem UpR.le (h : UpR P T g w u q1 q2 mb nx L) (e : Le w w') : UpR P T g w' u q1 q2 mb nx L := ⟨e.blk h.ublk, h.map.le e, fun r n hr => (h.nodes r n hr).le e⟩
theorem UpR.mono {g' : World} (h : UpR P T g w u q1 q2 mb nx L) (m : Mono g g') : UpR P T g' w u q1 q2 mb nx L :=
  ⟨h.ublk, h.map, fun r n hr => ⟨(h.nodes r n hr).blk, (h.nodes r n hr).data.mono m, (h.nodes r n hr).xattrs.mono m, (h.nodes r n hr).target, (h.nodes r n hr).dir, (h.nodes r n hr).ents⟩⟩
theorem UpR.nodup (h : UpR P T g w u q1 q2 mb nx L) (KI : KeyT P T.kI Int) : (L.map (·.1)).Nodup := by
  have := h.map.nodup KI
  rwa [ptrs_keys] at this
theorem SL.upR0 (H : SL W g w (upA P T u q1 q2 mb nx L :: l)) (KI : KeyT P T.kI Int) : UpR P T g w u q1 q2 mb nx L := by
  refine ⟨H.upO.blk 0, (H.upO.pick 1).mapR, fun r n hr => ?_⟩
  obtain ⟨R, H1, _⟩ := H.upNode KI hr
  obtain ⟨h1, h2, h3, h4, H2⟩ := H1.nodeO
  exact ⟨H2.blk 0, h1, h2, h3, h4, (H2.pick 1).mapVR⟩
theorem SL.upR (i : Nat) (H : SL W g w l) (KI : KeyT P T.kI Int) (e : nthA l i = some (upA P T u q1 q2 mb nx L) := by exact rfl) : UpR P T g w u q1 q2 mb nx L := (H.pick i e).upR0 KI
/-- A node's own fields are written. -/
theorem SL.upStore {r : Int} {n n' : LNode} (H : SL W g w (upA P T u q1 q2 mb nx L :: l)) (KI : KeyT P T.kI Int) (h : getK L r = some n) (hd : Is g n'.vd n'.data) (hx : Is g n'.vx n'.xattrs) (ht : n'.target.size ≤ maxLen)
    (hb : n'.blk = n.blk) (hk : n'.kind = n.kind) (hv : n'.vi = n.vi) (he : n'.ents = n.ents) (up : Upd w n.blk n'.cells w') : SL W g w' (upA P T u q1 q2 mb nx (setK L r n') :: l) := by
  obtain ⟨R, H1, back⟩ := H.upNode KI h
  obtain ⟨_, _, _, h4, H2⟩ := H1.nodeO
  refine back g w' n' hb (SL.nodeI hd hx ht (by rw [hk, hv]; exact h4) ?_)
  rw [hb, hv, he]
  exact H2.upd 0 up
/-- An entry is laid into a directory, or taken out. -/
theorem SL.upPut {r : Int} {n : LNode} {t e : TypeId} (H : SL W g w (upA P T u q1 q2 mb nx L :: l)) (KI : KeyT P T.kI Int) (KS : KeyT P T.kS ByteArray) (h : getK L r = some n) (hk : n.kind = 1) (ht : P.underlying t = some (.map T.kS e)) (s : ByteArray) (hs : s.size ≤ maxLen) (x : Int) (hlen : n.ents.length < maxLen) :
    ∃ w', (Instr.mapUpdate t n.vi (.string s) (.int .i64 x)).run P w = .ok () w' ∧ SL W g w' (upA P T u q1 q2 mb nx (setK L r { n with ents := putK n.ents s x }) :: l) := by
  obtain ⟨R, H1, back⟩ := H.upNode KI h
  obtain ⟨h1, h2, h3, h4, H2⟩ := H1.nodeO
  obtain ⟨b, hb⟩ := h4 hk
  rcases (H2.pick 1).mapVO with ⟨hv, _⟩ | ⟨b', hv, H3⟩
  · rw [hb] at hv; cases hv
  · obtain ⟨w', hr, H4⟩ := H3.mapPut KS ht (by unfold entsV; rw [List.length_map]; exact hlen) s hs (.int .i64 x)
    refine ⟨w', by rw [hv]; exact hr, back g w' { n with ents := putK n.ents s x } rfl (SL.nodeI h1 h2 h3 h4 ?_)⟩
    have e1 : putK (entsV n.ents) s (.int .i64 x) = entsV (putK n.ents s x) := putK_map (fun x : Int => Value.int .i64 x) n.ents s x
    rw [e1] at H4
    have H5 := H4.mapVI
    rw [← hv] at H5
    exact H5.weak fun _ q => q.swap
theorem SL.upDel {r : Int} {n : LNode} {t e ty : TypeId} (H : SL W g w (upA P T u q1 q2 mb nx L :: l)) (KI : KeyT P T.kI Int) (KS : KeyT P T.kS ByteArray) (h : getK L r = some n) (hk : n.kind = 1) (ht : P.underlying t = some (.map T.kS e)) (s : ByteArray) (hs : s.size ≤ maxLen) :
    ∃ w', (Builtin.delete_ #[t, T.kS] ty #[n.vi, .string s]).run P w = .ok (.tuple #[]) w' ∧ SL W g w' (upA P T u q1 q2 mb nx (setK L r { n with ents := delK n.ents s }) :: l) := by
  obtain ⟨R, H1, back⟩ := H.upNode KI h
  obtain ⟨h1, h2, h3, h4, H2⟩ := H1.nodeO
  obtain ⟨b, hb⟩ := h4 hk
  rcases (H2.pick 1).mapVO with ⟨hv, _⟩ | ⟨b', hv, H3⟩
  · rw [hb] at hv; cases hv
  · obtain ⟨w', hr, H4⟩ := H3.mapDel KS ht s hs (ty := ty)
    refine ⟨w', by rw [hv]; exact hr, back g w' { n with ents := delK n.ents s } rfl (SL.nodeI h1 h2 h3 h4 ?_)⟩
    have e1 : delK (entsV n.ents) s = entsV (delK n.ents s) := delK_map (fun x : Int => Value.int .i64 x) n.ents s
    rw [e1] at H4
    have H5 := H4.mapVI
    rw [← hv] at H5
    exact H5.weak fun _ q => q.swap
/-- A node goes. -/
theorem SL.upDrop {r : Int} {t e ty : TypeId} (H : SL W g w (upA P T u q1 q2 mb nx L :: l)) (KI : KeyT P T.kI Int) (ht : P.underlying t = some (.map T.kI e)) (hr : (Lit.int .i64 r).wf = true) :
    ∃ w', (Builtin.delete_ #[t, T.kI] ty #[.map (some mb), .int .i64 r]).run P w = .ok (.tuple #[]) w' ∧ SL W g w' (upA P T u q1 q2 mb nx (delK L r) :: l) := by
  have H1 := H.upO
  have hn : (L.map (·.1)).Nodup := by
    have := (H1.pick 1).mapNodup KI
    rwa [ptrs_keys] at this
  obtain ⟨w', hrun, H2⟩ := (H1.pick 1).mapDel KI ht r hr (ty := ty)
  refine ⟨w', hrun, SL.upI ?_⟩
  have e1 : delK (ptrsV L) r = ptrsV (delK L r) := delK_map (fun n : LNode => ptr n.blk 0) L r
  rw [e1] at H2
  have H3 : SL W g w' (Lm.blk u #[.int .i64 q1, .int .i64 q2, .map (some mb), .int .i64 nx] T.U :: mapA P T.kI mb (ptrsV (delK L r)) :: ((L.map fun p => Lm.nodeA P T p.2) ++ l)) := H2.weak fun _ q => q.swap
  cases hg : getK L r with
  | none => rw [delK_none hg] at H3 ⊢; exact H3
  | some n =>
    obtain ⟨l1, l2, e, h1, h2⟩ := getK_split hn hg
    have hd : delK L r = l1 ++ l2 := by
      rw [e]; unfold delK
      rw [List.filter_append, List.filter_cons, List.filter_eq_self.2 fun p hp => by simp [h1 p hp], List.filter_eq_self.2 fun p hp => by simp [h2 p hp]]
      simp
    rw [hd] at H3 ⊢
    have H4 : SL W g w' ((Lm.blk u #[.int .i64 q1, .int .i64 q2, .map (some mb), .int .i64 nx] T.U :: mapA P T.kI mb (ptrsV (l1 ++ l2)) :: l1.map fun p => Lm.nodeA P T p.2) ++ Lm.nodeA P T n :: ((l2.map fun p => Lm.nodeA P T p.2) ++ l)) := by
      refine SL.cast H3 ?_
      rw [e]
      simp
    exact SL.cast H4.mid.drop (by simp)
end
end Go.Lm
