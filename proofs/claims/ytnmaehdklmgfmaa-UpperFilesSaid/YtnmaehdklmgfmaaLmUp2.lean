/- An upper branch is made; a node is added. General: no program in sight. -/
import Derived.Test.YtnmaehdklmgfmaaLmUpPlain
import Derived.Test.YtnmaehdklmgfmaaLmCopy
namespace Go.Lm
open Go Go.RowKit Go.Maps
open Go.ChangeMaps (setBlock)
section
variable {P : Program} {T : UTy} {W : Base} {g w : World} {l : List Atom}
theorem S_makeMap (κ : Type) [MKey κ] {ops : Array Oper} {rest : List Oper} {o : Oper} {n : Nat} {s : AL} {Q : Exit → Act → World → Prop} {d : Nat} {t k : TypeId} (H : SL W g w l) (ho : o.op = .makeMap t none) (hw : wants ops s o = some true) (hd : o.dst = some d) (hn : Nat.blt d n = true)
    (kk : ∀ b w', SL W g w' (mapA P k b ([] : List (κ × Value)) :: l) → wpR P ops rest n ((d, .map (some b)) :: s) Q w') : wpR P ops (o :: rest) n s Q w :=
  R_val (v := .map (some w.heap.size)) (w' := w.alloc (.map #[] 0)) hw (by simp [knows, noSel, ho, Op.operands]) hd hn (X_makeMap ho) (kk _ _ (H.mapNew (New.mk' w _)))
theorem X_insert {ρ : Operand → Value} {o : Oper} {x y z : Operand} {t : TypeId} {mv kv vv : Value} {w' : World} (ho : o.op = .insert t x y z) (hx : ρ x = mv) (hy : ρ y = kv) (hz : ρ z = vv) (h : (Instr.mapUpdate t mv kv vv).run P w = .ok () w') :
    (execOp ρ o).run P w = .ok .skip w' := by
  simp [execOp, ho, hx, hy, hz, h]
theorem X_mapEntry {ρ : Operand → Value} {o : Oper} {x y : Operand} {t : TypeId} {mv kv r : Value} {w' : World} (ho : o.op = .mapEntry t x y) (hx : ρ x = mv) (hy : ρ y = kv) (h : (Instr.mapEntry t mv kv).run P w = .ok r w') : (execOp ρ o).run P w = .ok (.value r) w' := by
  simp [execOp, ho, hx, hy, h]
theorem X_entryStore {ρ : Operand → Value} {o : Oper} {x y z : Operand} {t : TypeId} {mv st vv : Value} {w' : World} (ho : o.op = .entryStore t x y z) (hx : ρ x = mv) (hy : ρ y = st) (hz : ρ z = vv) (h : (Instr.entryStore t mv st vv).run P w = .ok () w') : (execOp ρ o).run P w = .ok .skip w' := by
  simp [execOp, ho, hx, hy, hz, h]
theorem SL.mapEntry' {κ : Type} [MKey κ] {k : TypeId} {m : List (κ × Value)} {b : Nat} (H : SL W g w (mapA P k b m :: l)) (K : KeyT P k κ) {t e : TypeId} (ht : P.underlying t = some (.map k e)) {z : Value} (hz : (zeroValue e).run P w = .ok z w) (hlen : m.length < maxLen) (x : κ) (hx : MKey.ok x) :
    ∃ (val : Value) (st : Nat) (w' : World), (Instr.mapEntry t (.map (some b)) (MKey.val x)).run P w = .ok (.tuple #[val, goInt st]) w' ∧ SL W g w' (mapSA P k b (putK m x val) x st :: l) ∧ KeepsB w w' := by
  obtain ⟨es, clock, r, H1⟩ := H.mapO
  have hb := H1.has 0
  obtain ⟨val, st, es', clock', h1, _, _⟩ := run_mapEntry K.keyed ht hz hb r.fit (K.of x hx)
  obtain ⟨val2, st2, w2, h3, H3⟩ := H.mapEntry K ht hz hlen x hx
  rw [h1] at h3
  cases h3
  exact ⟨_, _, _, h1, H3, keeps_set hb⟩
/-- The root of a branch that was just made. -/
abbrev root0 (b ib : Nat) : LNode := { blk := b, kind := 1, mode := 493, uid := 0, gid := 0, vd := .slice none 0 0, data := [], target := ⟨#[]⟩, vx := .slice none 0 0, xattrs := [], opq := false, vi := .map (some ib), ents := [], up := 0, links := 1 }
theorem SL.mkUp {u mb b ib : Nat} {q1 q2 nx : Int} (H : SL W g w (Lm.blk u #[.int .i64 q1, .int .i64 q2, .map (some mb), .int .i64 nx] T.U :: mapA P T.kI mb [((1 : Int), ptr b 0)] :: Lm.blk b (root0 b ib).cells T.N :: mapA P T.kS ib ([] : List (ByteArray × Value)) :: l)) :
    SL W g w (upA P T u q1 q2 mb nx [(1, root0 b ib)] :: l) := by
  refine SL.upI ?_
  have H1 := (H.to [2, 2, 0, 0] : SL W g w (Lm.blk b (root0 b ib).cells T.N :: mapA P T.kS ib ([] : List (ByteArray × Value)) :: Lm.blk u #[.int .i64 q1, .int .i64 q2, .map (some mb), .int .i64 nx] T.U :: mapA P T.kI mb [((1 : Int), ptr b 0)] :: l))
  have H2 : SL W g w (mapVA P T.kS (.map (some ib)) ([] : List (ByteArray × Value)) :: Lm.blk b (root0 b ib).cells T.N :: Lm.blk u #[.int .i64 q1, .int .i64 q2, .map (some mb), .int .i64 nx] T.U :: mapA P T.kI mb [((1 : Int), ptr b 0)] :: l) := (H1.pick 1).mapVI
  have H3 : SL W g w (Lm.nodeA P T (root0 b ib) :: Lm.blk u #[.int .i64 q1, .int .i64 q2, .map (some mb), .int .i64 nx] T.U :: mapA P T.kI mb [((1 : Int), ptr b 0)] :: l) :=
    SL.nodeI (n := root0 b ib) (is_nil g) (is_nil g) (by show (0 : Nat) ≤ maxLen; decide) (fun _ => ⟨ib, rfl⟩) (H2.weak fun _ q => q.swap)
  exact H3.to [1, 1, 0]
variable {u mb : Nat} {q1 q2 nx : Int} {L : List (Int × LNode)}
def upE (P : Program) (T : UTy) (u : Nat) (q1 q2 : Int) (mb : Nat) (nx : Int) (L : List (Int × LNode)) (r : Int) (val : Value) (st : Nat) : Atom :=
  conjA (blk u #[.int .i64 q1, .int .i64 q2, .map (some mb), .int .i64 nx] T.U :: mapSA P T.kI mb (putK (ptrsV L) r val) r st :: L.map fun p => nodeA P T p.2)
theorem SL.upEntry {t e : TypeId} (H : SL W g w (upA P T u q1 q2 mb nx L :: l)) (KI : KeyT P T.kI Int) (ht : P.underlying t = some (.map T.kI e)) {z : Value} (hz : (zeroValue e).run P w = .ok z w) (hlen : L.length < maxLen) (r : Int) (hr : (Lit.int .i64 r).wf = true) :
    ∃ (val : Value) (st : Nat) (w' : World), (Instr.mapEntry t (.map (some mb)) (.int .i64 r)).run P w = .ok (.tuple #[val, goInt st]) w' ∧ SL W g w' (upE P T u q1 q2 mb nx L r val st :: l) ∧ KeepsB w w' := by
  obtain ⟨val, st, w', h1, H1, hk⟩ := (H.upO.pick 1).mapEntry' KI ht hz (by unfold ptrsV; rw [List.length_map]; exact hlen) r hr
  refine ⟨val, st, w', h1, ?_, hk⟩
  exact SL.shutC (a := Lm.blk u #[.int .i64 q1, .int .i64 q2, .map (some mb), .int .i64 nx] T.U :: mapSA P T.kI mb (putK (ptrsV L) r val) r st :: L.map fun p => Lm.nodeA P T p.2) (H1.weak fun _ q => q.swap)
theorem SL.upAdd {r : Int} {val : Value} {st : Nat} {n : LNode} {t : TypeId} (H : SL W g w (upE P T u q1 q2 mb nx L r val st :: Lm.blk n.blk n.cells T.N :: mapVA P T.kS n.vi (entsV n.ents) :: l)) (KI : KeyT P T.kI Int) (hr : (Lit.int .i64 r).wf = true) (h : getK L r = none)
    (h1 : Is g n.vd n.data) (h2 : Is g n.vx n.xattrs) (h3 : n.target.size ≤ maxLen) (h4 : n.kind = 1 → ∃ b, n.vi = .map (some b)) :
    ∃ w', (Instr.entryStore t (.map (some mb)) (goInt st) (ptr n.blk 0)).run P w = .ok () w' ∧ SL W g w' (upA P T u q1 q2 mb nx ((r, n) :: L) :: l) ∧ KeepsB w w' := by
  have H0 := SL.openC H
  obtain ⟨w', hrun, H1, hk⟩ := (SL.pick 1 H0).entryStore KI hr t (ptr n.blk 0)
  refine ⟨w', hrun, SL.upI ?_, hk⟩
  have hp : putK (ptrsV L) r (ptr n.blk 0) = ptrsV ((r, n) :: L) := by
    unfold putK
    rw [delK_none (by rw [getK_ptrs, h]; rfl)]; rfl
  rw [hp] at H1
  have H2 : SL W g w' (Lm.blk u #[.int .i64 q1, .int .i64 q2, .map (some mb), .int .i64 nx] T.U :: mapA P T.kI mb (ptrsV ((r, n) :: L)) :: ((L.map fun p => Lm.nodeA P T p.2) ++ (Lm.blk n.blk n.cells T.N :: mapVA P T.kS n.vi (entsV n.ents) :: l))) := H1.weak fun _ q => q.swap
  have H3 : SL W g w' ((Lm.blk u #[.int .i64 q1, .int .i64 q2, .map (some mb), .int .i64 nx] T.U :: mapA P T.kI mb (ptrsV ((r, n) :: L)) :: L.map fun p => Lm.nodeA P T p.2) ++ (Lm.blk n.blk n.cells T.N :: mapVA P T.kS n.vi (entsV n.ents) :: l)) := H2.cast (by simp)
  have H4 := H3.mid
  have H5 : SL W g w' ((Lm.blk n.blk n.cells T.N :: Lm.blk u #[.int .i64 q1, .int .i64 q2, .map (some mb), .int .i64 nx] T.U :: mapA P T.kI mb (ptrsV ((r, n) :: L)) :: L.map fun p => Lm.nodeA P T p.2) ++ (mapVA P T.kS n.vi (entsV n.ents) :: l)) := H4.cast (by simp)
  have H6 := H5.mid
  have H7 : SL W g w' (Lm.blk n.blk n.cells T.N :: mapVA P T.kS n.vi (entsV n.ents) :: ((Lm.blk u #[.int .i64 q1, .int .i64 q2, .map (some mb), .int .i64 nx] T.U :: mapA P T.kI mb (ptrsV ((r, n) :: L)) :: L.map fun p => Lm.nodeA P T p.2) ++ l)) := (H6.cast (by simp) : SL W g w' (mapVA P T.kS n.vi (entsV n.ents) :: Lm.blk n.blk n.cells T.N :: ((Lm.blk u #[.int .i64 q1, .int .i64 q2, .map (some mb), .int .i64 nx] T.U :: mapA P T.kI mb (ptrsV ((r, n) :: L)) :: L.map fun p => Lm.nodeA P T p.2) ++ l))).weak fun _ q => q.swap
  have H8 := SL.nodeI h1 h2 h3 h4 H7
  have H9 : SL W g w' (Lm.blk u #[.int .i64 q1, .int .i64 q2, .map (some mb), .int .i64 nx] T.U :: Lm.nodeA P T n :: mapA P T.kI mb (ptrsV ((r, n) :: L)) :: ((L.map fun p => Lm.nodeA P T p.2) ++ l)) := H8.weak fun _ q => q.swap
  exact (H9.under fun _ q => q.swap).cast (by simp)
/-- An entry of a directory, in two steps. -/
theorem SL.entEntry {r : Int} {n : LNode} {t e : TypeId} (H : SL W g w (upA P T u q1 q2 mb nx L :: l)) (KI : KeyT P T.kI Int) (KS : KeyT P T.kS ByteArray) (h : getK L r = some n) (hk : n.kind = 1) (ht : P.underlying t = some (.map T.kS e)) {z : Value} (hz : (zeroValue e).run P w = .ok z w) (s : ByteArray) (hs : s.size ≤ maxLen) (hlen : n.ents.length < maxLen) :
    ∃ (ib : Nat) (val : Value) (st : Nat) (w' : World) (R : List Atom), n.vi = .map (some ib) ∧ (Instr.mapEntry t n.vi (.string s)).run P w = .ok (.tuple #[val, goInt st]) w' ∧ SL W g w' (mapSA P T.kS ib (putK (entsV n.ents) s val) s st :: R) ∧ KeepsB w w' ∧
      ∀ (w'' : World) (x : Int), SL W g w'' (mapA P T.kS ib (putK (entsV n.ents) s (.int .i64 x)) :: R) → SL W g w'' (upA P T u q1 q2 mb nx (setK L r { n with ents := putK n.ents s x }) :: l) := by
  obtain ⟨R, H1, back⟩ := H.upNode KI h
  obtain ⟨h1, h2, h3, h4, H2⟩ := H1.nodeO
  obtain ⟨b, hb⟩ := h4 hk
  rcases (H2.pick 1).mapVO with ⟨hv, _⟩ | ⟨b', hv, H3⟩
  · rw [hb] at hv; cases hv
  · obtain ⟨val, st, w', hr, H4, hkp⟩ := H3.mapEntry' KS ht hz (by unfold entsV; rw [List.length_map]; exact hlen) s hs
    refine ⟨b', val, st, w', _, hv, by rw [hv]; exact hr, H4, hkp, fun w'' x H5 => back g w'' { n with ents := putK n.ents s x } rfl (SL.nodeI h1 h2 h3 h4 ?_)⟩
    have e1 : putK (entsV n.ents) s (.int .i64 x) = entsV (putK n.ents s x) := putK_map (fun x : Int => Value.int .i64 x) n.ents s x
    rw [e1] at H5
    have H6 := H5.mapVI
    rw [← hv] at H6
    exact H6.weak fun _ q => q.swap
/-- One node, taken out of the branch beside what else is owned. -/
theorem SL.upNode2 (H : SL W g w (upA P T u q1 q2 mb nx L :: l)) (KI : KeyT P T.kI Int) {r : Int} {n : LNode} (h : getK L r = some n) :
    ∃ B : Atom, SL W g w (Lm.nodeA P T n :: B :: l) ∧ ∀ (g' w' : World) (n' : LNode) (l' : List Atom), n'.blk = n.blk → SL W g' w' (Lm.nodeA P T n' :: B :: l') → SL W g' w' (upA P T u q1 q2 mb nx (setK L r n') :: l') := by
  have H1 := H.upO
  have hn : (L.map (·.1)).Nodup := by
    have := (H1.pick 1).mapNodup KI
    rwa [ptrs_keys] at this
  obtain ⟨l1, l2, e, h1, h2⟩ := getK_split hn h
  have hs : ∀ n', setK L r n' = l1 ++ (r, n') :: l2 := fun n' => by rw [e, setK_split h1 h2]
  have hp : ∀ n' : LNode, n'.blk = n.blk → ptrsV (l1 ++ (r, n') :: l2) = ptrsV L := fun n' hb => by rw [← hs n']; exact ptrs_setK hn h hb
  refine ⟨conjA ((Lm.blk u #[.int .i64 q1, .int .i64 q2, .map (some mb), .int .i64 nx] T.U :: mapA P T.kI mb (ptrsV L) :: l1.map fun p => Lm.nodeA P T p.2) ++ (l2.map fun p => Lm.nodeA P T p.2)), ?_, fun g' w' n' l' hb H2 => ?_⟩
  · have H3 : SL W g w ((Lm.blk u #[.int .i64 q1, .int .i64 q2, .map (some mb), .int .i64 nx] T.U :: mapA P T.kI mb (ptrsV L) :: l1.map fun p => Lm.nodeA P T p.2) ++ Lm.nodeA P T n :: ((l2.map fun p => Lm.nodeA P T p.2) ++ l)) := H1.cast (by rw [e]; simp)
    have H4 := H3.mid
    refine (H4.under fun h s => ?_)
    rw [← List.append_assoc] at s
    obtain ⟨k1, k2, ap, rfl, s1, s2⟩ := s.unapp
    exact ⟨k1, k2, ap, rfl, s1, s2⟩
  · refine SL.upI ?_
    rw [hs n', hp n' hb]
    have H3 : SL W g' w' (Lm.nodeA P T n' :: ((Lm.blk u #[.int .i64 q1, .int .i64 q2, .map (some mb), .int .i64 nx] T.U :: mapA P T.kI mb (ptrsV L) :: l1.map fun p => Lm.nodeA P T p.2) ++ ((l2.map fun p => Lm.nodeA P T p.2) ++ l'))) := H2.under fun h ⟨k1, k2, ap, q, s1, s2⟩ => by
      rw [← List.append_assoc, q]
      exact s1.app ap s2
    refine SL.cast (SL.unmid (x := Lm.nodeA P T n) H3) ?_
    simp
end
end Go.Lm
