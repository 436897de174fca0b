/- Slices of the call's own, as steps of a walk. General: no program in sight. -/
import Derived.Test.YtnmaehdklmgfmaaLmElem
namespace Go.Lm
open Go Go.RowKit
class OneRow (ρ : Type) [RowRep ρ] : Prop where
  one : ∀ {g : World} {cs : List Value} {x : ρ}, RowRep.rrel g cs x → ∀ u ∈ cs, u.oneCell' = true
instance : OneRow PUnit := ⟨fun h u hu => by rw [show _ = _ from h] at hu; cases hu⟩
instance {α ρ : Type} [GoRep α] [RowRep ρ] [OneCells α] [OneRow ρ] : OneRow (α × ρ) := ⟨fun h u hu => by
  obtain ⟨c1, c2, rfl, h1, h2⟩ := h
  rcases List.mem_append.1 hu with hu | hu
  · exact OneCells.one h1 u hu
  · exact OneRow.one h2 u hu⟩
instance {ρ : Type} [RowRep ρ] [OneRow ρ] : OneCells (St ρ) := ⟨fun h u hu => OneRow.one h u hu⟩
def OneAll : List Value → Prop
  | [] => True
  | c :: cs => c.oneCell' = true ∧ OneAll cs
theorem one_all : ∀ {l : List Value}, OneAll l → l.all (·.oneCell') = true
  | [], _ => rfl
  | c :: cs, h => by rw [List.all_cons, h.1, one_all h.2]; rfl
theorem one_is {α : Type} [GoRep α] {g : World} {v : Value} {l : List α} (h : Is g v l) : v.oneCell' = true := by
  rcases is_list.1 h with ⟨rfl, _⟩ | ⟨a, c, rfl, _⟩ <;> rfl
section
variable {P : Program} {W : Base} {g w : World} {l : List Atom}
theorem E_sub {n : Nat} {s : AL} {Q : Exit → Act → World → Prop} {e : Exit} (s' : AL) (hs : Sub s s') (h : okE e n s' Q w) : okE e n s Q w := fun a ha => h a (ha.sub hs)
theorem SL.slEmpty (α : Type) [GoRep α] {b : Nat} {e : TypeId} (H : SL W g w (Lm.blk b #[] e :: l)) : SL W g w (slA (α := α) e (.slice (some ⟨b, 0, none⟩) 0 0) [] :: l) := by
  have h := SL.toRow (size := GoRep.size α) (cap := 0) 0 H (Nat.le_refl _) (by simp [maxLen]) (by simp)
  refine SL.slI (cs := []) trivial ?_
  have e1 : ((#[] : Array Value).toList.take (0 * GoRep.size α)) = ([] : List (List Value)).flatten := by simp
  rw [e1] at h
  exact h
theorem S_app {α : Type} [GoRep α] [OneCells α] {ops : Array Oper} {rest : List Oper} {o : Oper} {n : Nat} {s : AL} {Q : Exit → Act → World → Prop} {d : Nat} {x y : Operand} {t e : TypeId} {v yv : Value} {xs ys : List α} {bytes : Nat} (H : SL W g w (slA e v xs :: l)) (hy : Rd g w yv ys)
    (ht : P.underlying t = some (.slice e)) (hi : (P.info? e).map (fun i => (i.size, i.bytes, i.zero.isSome)) = some (GoRep.size α, bytes, true)) (hz : ((P.info? e).bind (·.zero)).map (·.cells.size) = some (GoRep.size α)) (hpos : 0 < GoRep.size α)
    (hlen : (xs.length + ys.length) * bytes ≤ 140737488355328) (hmax : xs.length + ys.length ≤ 9223372036854775807)
    (ho : o.op = .call { callee := .builtin .append, args := #[x, y], argTypes := #[t, t] }) (hx : ev s x = some v) (hyv : ev s y = some yv) (hw : wants ops s o = some true) (hd : o.dst = some d) (hn : Nat.blt d n = true)
    (k : ∀ v' w', SL W g w' (slA e v' (xs ++ ys) :: l) → (v' = .slice none 0 0 → v = .slice none 0 0 ∧ ys = []) → wpR P ops rest n ((d, v') :: s) Q w') : wpR P ops (o :: rest) n s Q w := by
  obtain ⟨v', w', hr, H', h0⟩ := H.append (ty := o.type) hy ht hi hz hpos hlen hmax
  exact R_val hw (by simp [knows, noSel, ho, Op.operands, Call.operands, hx, hyv]) hd hn (by simp [execOp, ho, resolve, invoke, builtin, rho, hx, hyv, hr]) (k v' w' H' h0)
/-- A literal's elements can be read. -/
theorem SL.litRd {α : Type} [GoRep α] (i : Nat) (H : SL W g w l) {b : Nat} {cs : Array Value} {t : TypeId} {ds : List (List Value)} {xs : List α} (r : RelL g ds xs) (e : nthA l i = some (Lm.blk b cs t) := by exact rfl) (hc : cs.toList = ds.flatten := by exact rfl) (hm : xs.length ≤ maxLen := by (unfold maxLen; decide)) :
    Rd g w (.slice (some ⟨b, 0, none⟩) xs.length xs.length) xs := .inr ⟨⟨b, 0, none⟩, xs.length, rfl, Nat.le_refl _, hm, ds, r, fun j u hj => by
    rw [Addr.add_mid, (H.blk i e).cell, ← Array.getElem?_toList, hc]
    simpa using hj⟩
/-- '== nil' of a slice. -/
def isNilV : Value → Bool
  | .slice none _ _ => true
  | _ => false
theorem X_nil_sl {α : Type} [GoRep α] {ρ : Operand → Value} {o : Oper} {x y : Operand} {t u e : TypeId} {v : Value} {xs : List α} (h : Is w v xs) (ho : o.op = .binOp .eql t x y u) (hx : ρ x = v) (hy : ρ y = .slice none 0 0) (ht : P.underlying t = some (.slice e)) : (execOp ρ o).run P w = .ok (.value (.bool (isNilV v))) w := by
  rcases is_list.1 h with ⟨rfl, rfl⟩ | ⟨a, cap, rfl, _⟩
  · have := Lib.run_eql_slice_nil (P := P) w t e none 0 0 0 0 ht
    simp [execOp, ho, hx, hy, eqGuard, this, isNilV]
  · have := Lib.run_eql_slice_nil (P := P) w t e (some a) xs.length cap 0 0 ht
    simp [execOp, ho, hx, hy, eqGuard, this, isNilV]
/-! ### An element of its own slice, read and written -/
theorem own_elem {α : Type} [GoRep α] {e : TypeId} {v : Value} {xs : List α} {i : Int} (H : SL W g w (slA e v xs :: l)) (h0 : 0 ≤ i) (h1 : i < xs.length) : ∃ cs, ElemAt w (GoRep.size α) v i cs ∧ GoRep.rel g cs (xs[i.toNat]'(by omega)) := by
  obtain ⟨cs, r, H1⟩ := H.slO
  have hrow := H1.row
  rcases hrow.2 with ⟨rfl, h⟩ | ⟨k, cap, cur, rfl, _⟩
  · omega
  · obtain ⟨c, hr, hc⟩ := r.get i.toNat _ (List.getElem?_eq_getElem (by omega))
    refine ⟨c, fun w2 m => ⟨(⟨k, 0, none⟩ : Addr).add (i.toNat * GoRep.size α), rfl, fun j u hj => ?_⟩, hr⟩
    rw [Go.Deep.add_add]
    exact m _ _ (hrow.cells (g := k) rfl _ u (hc j u hj))
theorem own_xattr {e : TypeId} {v : Value} {xs : List XattrD} {i : Int} (H : SL W g w (slA e v xs :: l)) (h0 : 0 ≤ i) (h1 : i < xs.length) : ∃ u, ElemAt w 2 v i [.string (nth xs i).v.1, u] ∧ Is g u (nth xs i).v.2.1 ∧ (nth xs i).v.1.size ≤ maxLen := by
  obtain ⟨cs, h2, h3⟩ := own_elem H h0 h1
  rw [← nth_eq (by omega)] at h3
  obtain ⟨u, e, hs, hu⟩ := xattr_row.1 (is_st.2 ⟨cs.toArray, rfl, h3⟩ : Is g (.agg cs.toArray) (nth xs i))
  have : cs = [.string (nth xs i).v.1, u] := by
    have := congrArg (fun v => match v with | Value.agg x => x.toList | _ => []) e
    simpa using this
  rw [this] at h2
  exact ⟨u, h2, hu, hs⟩
theorem own_node {e : TypeId} {v : Value} {xs : List NodeD} {i : Int} (H : SL W g w (slA e v xs :: l)) (h0 : 0 ≤ i) (h1 : i < xs.length) : ∃ vn vd vx, ElemAt w 10 v i [vn, .int .i64 (nth xs i).ino, .int .i64 (nth xs i).kind, .int .i64 (nth xs i).mode, .int .i64 (nth xs i).uid, .int .i64 (nth xs i).gid, vd, .string (nth xs i).target, vx, .bool (nth xs i).opq] ∧
    Is g vn (nth xs i).names ∧ Is g vd (nth xs i).data ∧ Is g vx (nth xs i).xattrs ∧ (nth xs i).target.size ≤ maxLen := by
  obtain ⟨cs, h2, h3⟩ := own_elem H h0 h1
  rw [← nth_eq (by omega)] at h3
  obtain ⟨vn, vd, vx, e, q1, q2, q3, q4, _⟩ := node_row.1 (is_st.2 ⟨cs.toArray, rfl, h3⟩ : Is g (.agg cs.toArray) (nth xs i))
  have : cs = [vn, .int .i64 (nth xs i).ino, .int .i64 (nth xs i).kind, .int .i64 (nth xs i).mode, .int .i64 (nth xs i).uid, .int .i64 (nth xs i).gid, vd, .string (nth xs i).target, vx, .bool (nth xs i).opq] := by
    have := congrArg (fun v => match v with | Value.agg x => x.toList | _ => []) e
    simpa using this
  rw [this] at h2
  exact ⟨vn, vd, vx, h2, q1, q2, q3, q4⟩
theorem flatten_set {size : Nat} {c : Value} : ∀ (cs : List (List Value)) (i off : Nat), (∀ x ∈ cs, x.length = size) → off < size → ∀ (hi : i < cs.length), (cs.set i ((cs[i]).set off c)).flatten = cs.flatten.set (i * size + off) c
  | [], i, off, _, _, hi => by simp at hi
  | x :: cs, 0, off, h, ho, _ => by
    have hx := h x (by simp)
    simp only [List.set_cons_zero, List.getElem_cons_zero, List.flatten_cons, Nat.zero_mul, Nat.zero_add]
    rw [List.set_append_left _ _ (by omega)]
  | x :: cs, i + 1, off, h, ho, hi => by
    have hx := h x (by simp)
    simp only [List.set_cons_succ, List.getElem_cons_succ, List.flatten_cons]
    rw [flatten_set cs i off (fun y hy => h y (by simp [hy])) ho (by simpa using hi)]
    rw [List.set_append_right _ _ (by rw [hx, Nat.add_mul]; omega)]
    congr 2
    rw [hx, Nat.add_mul]; omega
theorem RelL.set {α : Type} [GoRep α] {x' : α} : ∀ {cs : List (List Value)} {xs : List α} (i : Nat) (c' : List Value), RelL g cs xs → GoRep.rel g c' x' → RelL g (cs.set i c') (xs.set i x')
  | [], [], i, c', _, _ => by simp [RelL]
  | c :: cs, x :: xs, 0, c', h, hr => ⟨hr, h.2⟩
  | c :: cs, x :: xs, i + 1, c', h, hr => ⟨h.1, RelL.set i c' h.2 hr⟩
theorem RelL.at {α : Type} [GoRep α] : ∀ {cs : List (List Value)} {xs : List α} (i : Nat) (hi : i < xs.length) (hc : i < cs.length), RelL g cs xs → GoRep.rel g cs[i] xs[i]
  | c :: cs, x :: xs, 0, _, _, h => h.1
  | c :: cs, x :: xs, i + 1, hi, hc, h => RelL.at i (by simpa using hi) (by simpa using hc) h.2
theorem RelL.lens {α : Type} [GoRep α] : ∀ {cs : List (List Value)} {xs : List α}, RelL g cs xs → ∀ c ∈ cs, c.length = GoRep.size α
  | [], [], _, c, hc => by cases hc
  | c :: cs, x :: xs, h, y, hy => by
    rcases List.mem_cons.1 hy with rfl | hy
    · exact GoRep.len h.1
    · exact RelL.lens h.2 y hy
/-- A cell of an element is written. -/
theorem SL.slSet {α : Type} [GoRep α] {e t : TypeId} {v c : Value} {xs : List α} {i : Int} {off : Nat} {x' : α} (H : SL W g w (slA e v xs :: l)) (h0 : 0 ≤ i) (h1 : i < xs.length) (hoff : off < GoRep.size α) (hc1 : c.oneCell' = true) (hcc : c.cells = #[c]) (hst : (P.info? t).map (·.size) = some 1)
    (hx : ∀ cs, GoRep.rel g cs (xs[i.toNat]'(by omega)) → GoRep.rel g (cs.set off c) x') :
    ∃ w', (Instr.storeAt t (addP (elemP (GoRep.size α) v i) off) c).run P w = .ok () w' ∧ SL W g w' (slA e v (xs.set i.toNat x') :: l) := by
  obtain ⟨cs, r, H1⟩ := H.slO
  have hlen := RelL.length r
  rcases H1.ofRow with ⟨rfl, hn, _, _⟩ | ⟨k, cap, cur, rfl, q1, q2, q3, q4, H2⟩
  · omega
  have hi : i.toNat < xs.length := by omega
  have hic : i.toNat < cs.length := by omega
  have hcur : i.toNat * GoRep.size α + off < xs.length * GoRep.size α := by
    have : (i.toNat + 1) * GoRep.size α ≤ xs.length * GoRep.size α := Nat.mul_le_mul_right _ hi
    rw [Nat.add_mul] at this; omega
  have hcap : xs.length * GoRep.size α ≤ cap * GoRep.size α := Nat.mul_le_mul_right _ q1
  have hrun := run_store_row (P := P) (t := t) (off := i.toNat * GoRep.size α + off) (v := c) (H2.blk 0) (by rw [hcc]; exact hst) (by rw [hcc]; simp [hc1]) (by rw [hcc]; simp; omega)
  refine ⟨w.setRow k (cur.toList.take (i.toNat * GoRep.size α + off) ++ c.cells.toList ++ cur.toList.drop (i.toNat * GoRep.size α + off + c.cells.size)).toArray, ?_, ?_⟩
  · have hp : addP (elemP (GoRep.size α) (.slice (some ⟨k, 0, none⟩) xs.length cap) i) off = ptr k (i.toNat * GoRep.size α + off) := by
      show Value.pointer (some (((⟨k, 0, none⟩ : Addr).add (i.toNat * GoRep.size α)).add off)) = _
      rw [Go.Deep.add_add, Addr.add_mid, Nat.zero_add]
    rw [hp]; exact hrun
  · have e1 : (cur.toList.take (i.toNat * GoRep.size α + off) ++ c.cells.toList ++ cur.toList.drop (i.toNat * GoRep.size α + off + c.cells.size)) = cur.toList.set (i.toNat * GoRep.size α + off) c := by
      rw [hcc]
      rw [List.set_eq_take_append_cons_drop, if_pos (by simp; omega)]
      simp
    have u : Upd w k (cur.toList.set (i.toNat * GoRep.size α + off) c).toArray (w.setRow k (cur.toList.take (i.toNat * GoRep.size α + off) ++ c.cells.toList ++ cur.toList.drop (i.toNat * GoRep.size α + off + c.cells.size)).toArray) := ⟨by rw [e1], (H2.blk 0).lt⟩
    have H3 := H2.upd 0 u
    have H4 := SL.toRow (size := GoRep.size α) (cap := cap) xs.length H3 q1 q2 (by simp; omega)
    have e2 : ((cur.toList.set (i.toNat * GoRep.size α + off) c).toArray.toList.take (xs.length * GoRep.size α)) = (cs.set i.toNat ((cs[i.toNat]).set off c)).flatten := by
      rw [flatten_set (size := GoRep.size α) cs i.toNat off (fun x hx => RelL.lens r x hx) hoff hic, ← q4]
      simp only [List.take_set]
    rw [e2] at H4
    have hlx : (xs.set i.toNat x').length = xs.length := by simp
    refine SL.slI (cs := cs.set i.toNat ((cs[i.toNat]).set off c)) (r.set i.toNat _ (hx _ (r.at i.toNat hi hic))) ?_
    rw [hlx]; exact H4
theorem S_setElem {α : Type} [GoRep α] {ops : Array Oper} {rest : List Oper} {o : Oper} {n : Nat} {s : AL} {Q : Exit → Act → World → Prop} {p y : Operand} {e t : TypeId} {v c : Value} {xs : List α} {i : Int} {off : Nat} (x' : α) (H : SL W g w (slA e v xs :: l)) (h0 : 0 ≤ i) (h1 : i < xs.length) (hoff : off < GoRep.size α) (hc1 : c.oneCell' = true) (hcc : c.cells = #[c]) (hst : (P.info? t).map (·.size) = some 1)
    (hx : ∀ cs, GoRep.rel g cs (xs[i.toNat]'(by omega)) → GoRep.rel g (cs.set off c) x')
    (ho : o.op = .store t p y) (hp : ev s p = some (addP (elemP (GoRep.size α) v i) off)) (hy : ev s y = some c) (hw : wants ops s o = some true) (hd : o.dst = none)
    (k : ∀ w', SL W g w' (slA e v (xs.set i.toNat x') :: l) → wpR P ops rest n s Q w') : wpR P ops (o :: rest) n s Q w := by
  obtain ⟨w', hr, H'⟩ := H.slSet (P := P) (t := t) h0 h1 hoff hc1 hcc hst hx
  exact R_none (v := undef) hw (by simp [knows, noSel, ho, Op.operands, hp, hy]) hd (.inr (X_store ho (by simp [rho, hp]) (by simp [rho, hy]) hr)) (k w' H')
theorem xattr_set1 {cs : List Value} {x : XattrD} {u : Value} {l : List UInt8} (h : GoRep.rel g cs x) (hu : Is g u l) : GoRep.rel (α := XattrD) g (cs.set 1 u) ⟨(x.v.1, l, ⟨⟩)⟩ := by
  obtain ⟨u0, e, hs, _⟩ := xattr_row.1 (is_st.2 ⟨cs.toArray, rfl, h⟩ : Is g (.agg cs.toArray) x)
  have : cs = [.string x.v.1, u0] := by
    have := congrArg (fun v => match v with | Value.agg x => x.toList | _ => []) e
    simpa using this
  subst this
  exact row_str.2 ⟨[u], rfl, hs, row_list.2 ⟨u, [], rfl, hu, row_nil.2 rfl⟩⟩
theorem slice_form {α : Type} [GoRep α] {v : Value} {l : List α} (h : Is g v l) : ∃ a n c, v = .slice a n c := by
  rcases is_list.1 h with ⟨rfl, _⟩ | ⟨a, c, rfl, _⟩
  · exact ⟨_, _, _, rfl⟩
  · exact ⟨_, _, _, rfl⟩
theorem set_nth_self {α : Type} [Inhabited α] {xs : List α} {i : Int} (h0 : 0 ≤ i) (h1 : i < xs.length) : xs.set i.toNat (nth xs i) = xs := by
  rw [nth_eq (by omega)]; exact List.set_getElem_self _
theorem cells_is {α : Type} [GoRep α] {v : Value} {l : List α} (h : Is g v l) : v.cells = #[v] := by
  rcases is_list.1 h with ⟨rfl, _⟩ | ⟨a, c, rfl, _⟩ <;> rfl
end
end Go.Lm
