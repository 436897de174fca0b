/- Elements of slices and their fields; conversions; loops that are gone through one round after the other. General: no program in sight. -/
import Derived.Test.YtnmaehdklmgfmaaLmMore
import Derived.Test.YtnmaehdklmgfmaaLmFloat
import Derived.Laws.BytesArg
import Derived.Laws.IdiomStrings
import Derived.Lib.ConvBytes
namespace Go.Lm
open Go Go.RowKit
section
variable {P : Program} {ops : Array Oper} {n : Nat} {s : AL} {Q Q'' : Exit → Act → World → Prop} {w : World} {c : Code}
/-! ### A loop, round by round -/
def wpIn (P : Program) (c : Code) (Q : Exit → Act → World → Prop) (a : Act) (w : World) : Prop :=
  ∀ (b : Frame) (kk : List Item) (cs : List Frame), ∃ e a' w', Q e a' w' ∧ Arrives P (lone (b.at a (.inLoop c :: kk)) cs w) b kk cs e a' w'
theorem unroll_arrives {a : Act} (h : c.wp P (Exit.then (wpIn P c Q) Q) a w) (b : Frame) (kk : List Item) (cs : List Frame) : ∃ e a' w', Q e a' w' ∧ Arrives P (lone (b.at a (.code c :: .inLoop c :: kk)) cs w) b kk cs e a' w' := by
  obtain ⟨e, a₁, w₁, hq, harr⟩ := h b (.inLoop c :: kk) cs
  cases e with
  | normal =>
    obtain ⟨e₂, a₂, w₂, hq₂, harr₂⟩ := hq b kk cs
    exact ⟨e₂, a₂, w₂, hq₂, .of_steps harr harr₂⟩
  | exit id => exact ⟨_, a₁, w₁, hq, .pass (x := .inLoop c) rfl (fun _ _ => .inl (by simp)) harr⟩
  | goto l => exact ⟨_, a₁, w₁, hq, .pass (x := .inLoop c) rfl (fun _ _ => .inl (by simp)) harr⟩
  | ret => exact ⟨_, a₁, w₁, hq, .pass (x := .inLoop c) rfl (fun _ _ => .inl (by simp)) harr⟩
  | panic ch => exact ⟨_, a₁, w₁, hq, .pass (x := .inLoop c) rfl (fun _ _ => .inl (by simp)) harr⟩
  | outgrown => exact ⟨_, a₁, w₁, hq, .pass (x := .inLoop c) rfl (fun _ _ => .inl (by simp)) harr⟩
theorem C_unroll (h : okC P c n s (Exit.then (wpIn P c Q) Q) w) : okC P (.loop c) n s Q w := fun a ha b kk cs => by
  obtain ⟨e, a', w', hq, harr⟩ := unroll_arrives (h a ha) b kk cs
  exact ⟨e, a', w', hq, .of_steps (.one step_loop) harr⟩
theorem E_unroll (h : okC P c n s (Exit.then (wpIn P c Q) Q) w) : okE .normal n s (Exit.then (wpIn P c Q) Q'') w := fun a ha b kk cs => by
  obtain ⟨e, a', w', hq, harr⟩ := unroll_arrives (h a ha) b kk cs
  exact ⟨e, a', w', hq, .of_steps (.one step_inLoop) harr⟩
end
/-! ### Elements, cell by cell -/
def addP : Value → Nat → Value
  | .pointer (some a), o => .pointer (some (a.add o))
  | v, _ => v
/-- The cells of an element, wherever what is held fixed is seen. -/
def ElemAt (g : World) (k : Nat) (v : Value) (i : Int) (cs : List Value) : Prop := ∀ w, Mono g w → ∃ a : Addr, elemP k v i = .pointer (some a) ∧ ∀ (j : Nat) (c : Value), cs[j]? = some c → w.cell? (a.add j) = some c
theorem ElemAt.mono {g g' : World} {k : Nat} {v : Value} {i : Int} {cs : List Value} (h : ElemAt g k v i cs) (m : Mono g g') : ElemAt g' k v i cs := fun w hw => h w (m.trans hw)
section
variable {P : Program} {g w : World} {v : Value} {i : Int}
theorem elem_at {α : Type} [GoRep α] {xs : List α} (h : Is g v xs) (h0 : 0 ≤ i) (h1 : i < xs.length) : ∃ cs, ElemAt g (GoRep.size α) v i cs ∧ GoRep.rel g cs (xs[i.toNat]'(by omega)) := by
  rcases is_list.1 h with ⟨rfl, rfl⟩ | ⟨a, cap, rfl, _, _, h3⟩
  · simp at h1; omega
  · obtain ⟨cs, hc, hr⟩ := h3 i.toNat _ (List.getElem?_eq_getElem (by omega))
    exact ⟨cs, fun w hw => ⟨a.add (i.toNat * GoRep.size α), rfl, fun j c hj => by rw [Go.Deep.add_add]; exact hw _ _ (hc j c hj)⟩, hr⟩
theorem xattr_at {xs : List XattrD} (h : Is g v xs) (h0 : 0 ≤ i) (h1 : i < xs.length) : ∃ u, ElemAt g 2 v i [.string (nth xs i).v.1, u] ∧ Is g u (nth xs i).v.2.1 ∧ (nth xs i).v.1.size ≤ maxLen := by
  obtain ⟨cs, h2, h3⟩ := elem_at h h0 h1
  rw [← nth_eq (by omega)] at h3
  obtain ⟨u, e, hs, hu⟩ := xattr_row.1 (is_st.2 ⟨cs.toArray, rfl, h3⟩ : Is g (.agg cs.toArray) (nth xs i))
  have : cs = [.string (nth xs i).v.1, u] := by
    have := congrArg (fun v => match v with | Value.agg x => x.toList | _ => []) e
    simpa using this
  rw [this] at h2
  exact ⟨u, h2, hu, hs⟩
theorem node_at {xs : List NodeD} (h : Is g v xs) (h0 : 0 ≤ i) (h1 : i < xs.length) : ∃ vn vd vx, ElemAt g 10 v i [vn, .int .i64 (nth xs i).ino, .int .i64 (nth xs i).kind, .int .i64 (nth xs i).mode, .int .i64 (nth xs i).uid, .int .i64 (nth xs i).gid, vd, .string (nth xs i).target, vx, .bool (nth xs i).opq] ∧
    Is g vn (nth xs i).names ∧ Is g vd (nth xs i).data ∧ Is g vx (nth xs i).xattrs ∧ (nth xs i).target.size ≤ maxLen := by
  obtain ⟨cs, h2, h3⟩ := elem_at h h0 h1
  rw [← nth_eq (by omega)] at h3
  obtain ⟨vn, vd, vx, e, q1, q2, q3, q4, _⟩ := node_row.1 (is_st.2 ⟨cs.toArray, rfl, h3⟩ : Is g (.agg cs.toArray) (nth xs i))
  have : cs = [vn, .int .i64 (nth xs i).ino, .int .i64 (nth xs i).kind, .int .i64 (nth xs i).mode, .int .i64 (nth xs i).uid, .int .i64 (nth xs i).gid, vd, .string (nth xs i).target, vx, .bool (nth xs i).opq] := by
    have := congrArg (fun v => match v with | Value.agg x => x.toList | _ => []) e
    simpa using this
  rw [this] at h2
  exact ⟨vn, vd, vx, h2, q1, q2, q3, q4⟩
theorem run_elem_row {k : Nat} {cs : List Value} {e : TypeId} {d : TypeDesc} (h : ElemAt g k v i cs) (m : Mono g w) (hu : P.underlying e = some d) (hd : d.isRow = true) (hs : (P.info? e).map (·.size) = some cs.length) :
    (Instr.loadAt e (elemP k v i)).run P w = .ok (.agg cs.toArray) w := by
  obtain ⟨a, ha, hc⟩ := h w m
  cases hq : P.info? e with
  | none => simp [hq] at hs
  | some ie =>
    have hsz : ie.size = cs.length := by simpa [hq] using hs
    have hagg : (isAgg e).run P w = .ok true w := by
      unfold isAgg
      rw [Sem.run_bind, run_underlying hu w]
      cases d <;> simp_all
    have hl := run_loadCells_list (P := P) w a cs hc
    simp [ha, Instr.loadAt, Instr.sureAddr, loadVar, hagg, sizeOf, typeInfo, hq, hsz, hl]
theorem run_elem_field {k off : Nat} {cs : List Value} {t : TypeId} {d : TypeDesc} {c : Value} (h : ElemAt g k v i cs) (m : Mono g w) (hu : P.underlying t = some d) (hd : d.isRow = false) (hc : cs[off]? = some c) :
    (Instr.loadAt t (addP (elemP k v i) off)).run P w = .ok c w := by
  obtain ⟨a, ha, hcs⟩ := h w m
  have hagg : (isAgg t).run P w = .ok false w := by
    unfold isAgg
    rw [Sem.run_bind, run_underlying hu w]
    cases d <;> simp_all
  have h2 := hcs off c hc
  simp [ha, addP, Instr.loadAt, Instr.sureAddr, loadVar, hagg, run_load, h2]
theorem run_elem_part {k off len : Nat} {cs : List Value} {t : TypeId} {d : TypeDesc} (h : ElemAt g k v i cs) (m : Mono g w) (hu : P.underlying t = some d) (hd : d.isRow = true) (hs : (P.info? t).map (·.size) = some len) (hl : off + len ≤ cs.length) :
    (Instr.loadAt t (addP (elemP k v i) off)).run P w = .ok (.agg ((cs.drop off).take len).toArray) w := by
  obtain ⟨a, ha, hc⟩ := h w m
  cases hq : P.info? t with
  | none => simp [hq] at hs
  | some ie =>
    have hll : ((cs.drop off).take len).length = len := by simp; omega
    have hsz : ie.size = len := by simpa [hq] using hs
    have hagg : (isAgg t).run P w = .ok true w := by
      unfold isAgg
      rw [Sem.run_bind, run_underlying hu w]
      cases d <;> simp_all
    have hl := run_loadCells_list (P := P) w (a.add off) ((cs.drop off).take len) (fun j c hj => by
      rw [Go.Deep.add_add]
      refine hc _ c ?_
      rw [List.getElem?_take] at hj
      split at hj
      · rw [List.getElem?_drop] at hj; exact hj
      · cases hj)
    rw [hll] at hl
    simp [ha, addP, Instr.loadAt, Instr.sureAddr, loadVar, hagg, sizeOf, typeInfo, hq, hsz, hl]
theorem X_fieldAddr_elem {ρ : Operand → Value} {o : Oper} {x : Operand} {t : TypeId} {j k off : Nat} {f : Field} {fs : Array Field} {cs : List Value} (h : ElemAt g k v i cs) (m : Mono g w) (ho : o.op = .fieldAddr t x j) (hx : ρ x = elemP k v i) (ht : P.underlying t = some (.struct fs)) (hf : fs[j]? = some f) (hoff : f.offset = off) (hs : ((P.info? f.type).map fun i => Nat.blt 0 i.size) = some true) :
    (execOp ρ o).run P w = .ok (.value (addP (elemP k v i) off)) w := by
  obtain ⟨a, ha, _⟩ := h w m
  cases hq : P.info? f.type with
  | none => simp [hq] at hs
  | some ie =>
    have hz : ¬ ie.size = 0 := by
      simp [hq] at hs; omega
    simp [execOp, ho, hx, ha, Instr.fieldAt, Instr.sureAddr, run_underlying ht, hf, hoff, addP, fieldPlace, sizeOf, typeInfo, hq, hz]
/-! ### Conversions -/
def bstr (l : List UInt8) : ByteArray := ⟨l.toArray⟩
theorem run_str_of {src dst e : TypeId} {l : List UInt8} (h : Is w v l) (hs : P.underlying src = some (.slice e)) (he : P.underlying e = some (.int .u8)) (hd : P.underlying dst = some .string) : (convert src dst v).run P w = .ok (.string (bstr l)) w := by
  rcases is_list.1 h with ⟨rfl, rfl⟩ | ⟨a, cap, rfl, _, _, h3⟩
  · exact run_convert_bytes_nil w src e hs he 0 0 dst hd
  · exact run_convert_bytes_back w src dst e a cap l hs he hd fun j hj => by
      obtain ⟨cs, hc, hr⟩ := h3 j _ (List.getElem?_eq_getElem hj)
      have hr' : cs = [.int .u8 (l[j].toNat : Int)] := hr
      have := hc 0 (.int .u8 (l[j].toNat : Int)) (by rw [hr']; rfl)
      simpa [GoRep.size] using this
theorem X_convert_str {ρ : Operand → Value} {o : Oper} {x : Operand} {src dst e : TypeId} {l : List UInt8} (h : Is w v l) (ho : o.op = .convert src dst x) (hx : ρ x = v) (hs : P.underlying src = some (.slice e)) (he : P.underlying e = some (.int .u8)) (hd : P.underlying dst = some .string) :
    (execOp ρ o).run P w = .ok (.value (.string (bstr l))) w := by
  simp [execOp, ho, hx, run_str_of h hs he hd]
theorem X_conv {ρ : Operand → Value} {o : Oper} {x : Operand} {src dst : TypeId} {u : Value} {w' : World} (ho : o.op = .convert src dst x) (hx : ρ x = v) (h : (convert src dst v).run P w = .ok u w') : (execOp ρ o).run P w = .ok (.value u) w' := by
  simp [execOp, ho, hx, h]
theorem S_convert_bytes {ops : Array Oper} {rest : List Oper} {n : Nat} {s : AL} {Q : Exit → Act → World → Prop} {o : Oper} {x : Operand} {d : Nat} {src dst e : TypeId} {z : ByteArray} (sees : Sees g w) (hs : P.underlying src = some .string) (hd : P.underlying dst = some (.slice e)) (he : P.underlying e = some (.int .u8)) (hz : z.size ≤ 9223372036854775807)
    (ho : o.op = .convert src dst x) (hx : ev s x = some (.string z)) (hw : wants ops s o = some true) (hdd : o.dst = some d) (hn : Nat.blt d n = true)
    (k : ∀ v w', Is (graft g w w') v z.data.toList → Le w w' → wpR P ops rest n ((d, v) :: s) Q w') : wpR P ops (o :: rest) n s Q w := by
  have hr := run_bytes_of_string (P := P) w src dst e z hs hd he
  generalize hW : w.drew.alloc (.cells (bytesRow z (grownCap w z.size 0 e)) e ((bytesRow z (grownCap w z.size 0 e)).size, (bytesRow z (grownCap w z.size 0 e)).size + 1)) = w1 at hr
  have hle : Le w w1 := by rw [← hW]; exact (Le.drew w).trans (New.mk' w.drew _).le
  refine R_val hw (by unfold knows noSel; rw [ho]; simp [Op.operands, hx]) hdd hn (v := .slice (some ⟨w.heap.size, 0, none⟩) z.size (grownCap w z.size 0 e)) (w' := _) (X_conv ho (show rho s x = .string z by simp [rho, hx]) hr) (k _ _ ?_ hle)
  have hlen : z.data.toList.length = z.size := by rw [Array.length_toList]; rfl
  refine is_list.2 (.inr ⟨⟨w.heap.size, 0, none⟩, grownCap w z.size 0 e, by rw [hlen], by rw [hlen]; exact grownCap_ge w z.size 0 e, grownCap_le_maxLen w z.size 0 e (by unfold maxLen; omega), fun i x hx => ⟨[.int .u8 x.toNat], fun j c hj => ?_, rfl⟩⟩)
  rw [Addr.add_mid, graft_new _ (Nat.le_refl _)]
  match j, hj with
  | 0, hj =>
    obtain rfl : c = .int .u8 x.toNat := by simpa using hj.symm
    have hi : i < z.data.toList.length := (List.getElem?_eq_some_iff.1 hx).1
    have hc : (bytesRow z (grownCap w z.size 0 e))[i]? = some (.int .u8 x.toNat) := by
      unfold bytesRow
      have hi2 : i < z.data.size := by simpa using hi
      rw [Array.getElem?_append_left (by simpa using hi2), Array.getElem?_map]
      have : z.data[i]? = some x := by simpa using hx
      rw [this]; rfl
    simp only [GoRep.size, Nat.mul_one, Nat.add_zero]
    have hh : w1.heap[w.heap.size]? = some (.cells (bytesRow z (grownCap w z.size 0 e)) e ((bytesRow z (grownCap w z.size 0 e)).size, (bytesRow z (grownCap w z.size 0 e)).size + 1)) := by rw [← hW]; exact heap_alloc_new w.drew _
    unfold World.cell?
    simp only [hh]
    rw [Nat.zero_add]
    exact hc
end
end Go.Lm
