/- Maps that can be read (nil ones too), and the loop over one that does not turn. General: no program in sight. -/
import Derived.Test.YtnmaehdklmgfmaaLmMapL
namespace Go.Lm
open Go Go.RowKit Go.Maps Go.ChangeMaps
open Go.WideElems (Fit rd rg pl rd_key rd_val rg_of)
open Go.WideShapes (sorted_perm)
open Go.MapKept
section
variable {κ : Type} [MKey κ] {P : Program} {k : TypeId}
/-- A map, nil or not: its block's entries ('ob'), and what it reads as. -/
def MapO (P : Program) (k : TypeId) (w : World) (v : Value) (ob : Array MapEntry × Nat) (m : List (κ × Value)) : Prop :=
  (v = .map none ∧ m = []) ∨ ∃ b, v = .map (some b) ∧ w.heap[b]? = some (.map ob.1 ob.2) ∧ MapRep P k ob.1 ob.2 m
def MapV (P : Program) (k : TypeId) (w : World) (v : Value) (m : List (κ × Value)) : Prop := ∃ ob, MapO P k w v ob m
variable {w w' : World} {v : Value} {ob : Array MapEntry × Nat} {m : List (κ × Value)}
theorem MapO.le (h : MapO P k w v ob m) (l : Le w w') : MapO P k w' v ob m := by
  rcases h with h | ⟨b, h1, h2, h3⟩
  · exact .inl h
  · exact .inr ⟨b, h1, l.keep h2, h3⟩
theorem MapV.le (h : MapV P k w v m) (l : Le w w') : MapV P k w' v m := by obtain ⟨ob, h⟩ := h; exact ⟨ob, h.le l⟩
theorem MapV.nodup (h : MapV P k w v m) (K : KeyT P k κ) : (m.map (·.1)).Nodup := by
  obtain ⟨ob, h | ⟨b, _, _, h⟩⟩ := h
  · rw [h.2]; simp
  · exact h.nodup K.keyed
theorem MapV.len_le (h : MapV P k w v m) : m.length ≤ maxLen := by
  obtain ⟨ob, h | ⟨b, _, _, h⟩⟩ := h
  · rw [h.2]; simp
  · rw [← h.size]; exact h.fit.size
theorem MapV.len {t e : TypeId} (h : MapV P k w v m) (ht : P.underlying t = some (.map k e)) (ty : TypeId) : (Builtin.len_ #[t] ty #[v]).run P w = .ok (.int .i64 m.length) w := by
  obtain ⟨ob, ⟨rfl, rfl⟩ | ⟨b, rfl, hb, r⟩⟩ := h
  · rw [Maps.len_nil ht]; rfl
  · rw [← r.size]
    simp [Builtin.len_, run_underlying ht, MapKept.run_getObj_map hb, goInt, Result.andThen]
theorem MapV.look (c : Bool) (h : MapV P k w v m) (K : KeyT P k κ) {t e : TypeId} (ht : P.underlying t = some (.map k e)) {z : Value} (hz : (zeroValue e).run P w = .ok z w) (x : κ) (hx : MKey.ok x) :
    (Instr.lookup t v (MKey.val x) c).run P w = .ok (if c then .tuple #[(getK m x).getD z, .bool (getK m x).isSome] else (getK m x).getD z) w := by
  obtain ⟨ob, ⟨rfl, rfl⟩ | ⟨b, rfl, hb, r⟩⟩ := h
  · have := Maps.look_nil c K.keyed ht hz (K.of x hx)
    exact this
  · have hn := r.nodup K.keyed
    rcases fit_look c K.keyed ht hz hb r.fit (K.of x hx) with ⟨hr, hno, _⟩ | ⟨e0, y, he, hke, hr, hy, _⟩
    · have : getK m x = none := getK_none.2 fun p hp e => by
        have h1 : ent p ∈ ob.1.toList.map (rg P k holdV) := r.perm.mem_iff.2 (List.mem_map.2 ⟨p, hp, rfl⟩)
        obtain ⟨q, hq, hqe⟩ := List.mem_map.1 h1
        obtain ⟨kl, hk, hrg⟩ := rg_val r.fit hq
        rw [hrg] at hqe
        have : kl = MKey.lit p.1 := congrArg Prod.fst hqe
        subst this
        rw [e] at hk
        exact hno q hq (K.inv _ _ hk).1
      rw [this]; exact hr
    · have : getK m x = some e0.val := by
        refine getK_of_mem hn ?_
        obtain ⟨kl, hk, hrg⟩ := rg_val r.fit he
        have h1 : rg P k holdV e0 ∈ m.map ent := r.perm.mem_iff.1 (List.mem_map.2 ⟨e0, he, rfl⟩)
        obtain ⟨p, hp, hpe⟩ := List.mem_map.1 h1
        rw [hrg] at hpe
        have h2 : MKey.lit p.1 = kl := congrArg Prod.fst hpe
        have h3 : (DataW.held p.2 : DataW Value) = .held e0.val := congrArg Prod.snd hpe
        rw [hke, K.of x hx] at hk
        have h4 : p.1 = x := MKey.inj _ _ (h2.trans (Option.some.inj hk).symm)
        have h5 : p.2 = e0.val := DataW.held.inj h3
        rw [← h4, ← h5]; exact hp
      rw [this]; exact hr
/-! ### A map of its own, nil or not -/
def mapVA (P : Program) (k : TypeId) (v : Value) (m : List (κ × Value)) : Atom :=
  ⟨fun _ h => (v = .map none ∧ m = []) ∨ ∃ b es clock, v = .map (some b) ∧ h b = some (.map es clock) ∧ MapRep P k es clock m, fun _ s => s⟩
variable {W : Base} {g : World} {l : List Atom}
theorem SL.mapVO (H : SL W g w (mapVA P k v m :: l)) : (v = .map none ∧ m = [] ∧ SL W g w l) ∨ ∃ b, v = .map (some b) ∧ SL W g w (mapA P k b m :: l) := by
  have Hd := H.drop
  obtain ⟨h, be, s, ow, h1, h2, ap, rfl, q, s2⟩ := H
  rcases q with ⟨rfl, rfl⟩ | ⟨b, es, clock, rfl, hb, r⟩
  · exact .inl ⟨rfl, rfl, Hd⟩
  · exact .inr ⟨b, rfl, _, be, s, ow, h1, h2, ap, rfl, ⟨es, clock, hb, r⟩, s2⟩
theorem SL.mapVI {b : Nat} (H : SL W g w (mapA P k b m :: l)) : SL W g w (mapVA P k (.map (some b)) m :: l) :=
  H.weak fun _ ⟨h1, h2, ap, e, ⟨es, clock, hb, r⟩, s2⟩ => ⟨h1, h2, ap, e, .inr ⟨b, es, clock, rfl, hb, r⟩, s2⟩
theorem SL.mapVnil (κ : Type) [MKey κ] (P : Program) (k : TypeId) (H : SL W g w l) : SL W g w (mapVA P k (.map none) ([] : List (κ × Value)) :: l) :=
  H.weak fun h s => ⟨fun _ => none, h, fun _ => .inl rfl, rfl, .inl ⟨rfl, rfl⟩, s⟩
theorem SL.mapR {b : Nat} (H : SL W g w (mapA P k b m :: l)) : MapV P k w (.map (some b)) m := by
  obtain ⟨es, clock, r, H1⟩ := H.mapO
  exact ⟨(es, clock), .inr ⟨b, rfl, H1.has 0, r⟩⟩
theorem SL.mapVR (H : SL W g w (mapVA P k v m :: l)) : MapV P k w v m := by
  rcases H.mapVO with ⟨rfl, rfl, _⟩ | ⟨b, rfl, H1⟩
  · exact ⟨(#[], 0), .inl ⟨rfl, rfl⟩⟩
  · exact H1.mapR
/-! ### The loop -/
def iterA (P : Program) (k : TypeId) (v : Value) (ob : Array MapEntry × Nat) (r : Nat) (left : List (κ × Value)) : Atom :=
  ⟨fun _ h => (v = .map none ∧ left = [] ∧ ∃ a s c, h r = some (.mapIter none a s c)) ∨
    ∃ b since seen c0, v = .map (some b) ∧ h r = some (.mapIter (some b) since seen c0) ∧ (∀ x ∈ ob.1.toList, x.born < since) ∧ since ≤ c0 ∧ since ≤ ob.2 ∧ ((leftOf ob.1 seen).toList.map (rg P k holdV)).Perm (left.map ent), fun _ s => s⟩
theorem run_range {t e : TypeId} (h : MapO P k w v ob m) (ht : P.underlying t = some (.map k e)) :
    ∃ o, (Instr.range t v).run P w = .ok (.pointer (some ⟨w.heap.size, 0, none⟩)) (w.alloc o) ∧ ∀ {W : Base} {g : World} {l : List Atom}, SL W g w l → SL W g (w.alloc o) (iterA P k v ob w.heap.size m :: l) := by
  rcases h with ⟨rfl, rfl⟩ | ⟨b, rfl, hb, r⟩
  · refine ⟨_, run_range_nilMap w t k e ht, fun H => ?_⟩
    exact (H.new (New.mk' w _)).weak fun _ ⟨h1, h2, ap, e, s1, s2⟩ => ⟨h1, h2, ap, e, .inl ⟨rfl, rfl, _, _, _, s1⟩, s2⟩
  · refine ⟨_, run_range_map w t k e b ob.1 ob.2 ht hb, fun H => ?_⟩
    refine (H.new (New.mk' w _)).weak fun _ ⟨h1, h2, ap, e, s1, s2⟩ => ⟨h1, h2, ap, e, .inr ⟨b, ob.2, #[], ob.2, rfl, s1, r.fit.stamped.1, Nat.le_refl _, Nat.le_refl _, ?_⟩, s2⟩
    have : (leftOf ob.1 #[]).toList = ob.1.toList := by simp [leftOf]
    rw [this]; exact r.perm
theorem run_next_nil {w : World} {r a c : Nat} {s : Array Nat} (ty : TypeId) (hr : w.heap[r]? = some (.mapIter none a s c)) : (Instr.next (.pointer (some ⟨r, 0, none⟩)) false ty).run P w = .ok (.tuple #[.bool false]) w := by
  simp only [Instr.next, getObj, Sem.run_bind, Sem.run, hr, Result.andThen]
  rfl
/-- One step of the loop: its end, or one more entry (whichever). -/
theorem SL.iterNext {r : Nat} {left : List (κ × Value)} (H : SL W g w (iterA P k v ob r left :: l)) (hm : MapO P k w v ob m) (K : KeyT P k κ) (ty : TypeId) :
    (left = [] ∧ (Instr.next (.pointer (some ⟨r, 0, none⟩)) false ty).run P w = .ok (.tuple #[.bool false]) w) ∨
    ∃ x y left' w', left.Perm ((x, y) :: left') ∧ MKey.ok x ∧ (x, y) ∈ m ∧ (Instr.next (.pointer (some ⟨r, 0, none⟩)) false ty).run P w = .ok (.tuple #[.bool true, MKey.val x, y]) w' ∧
      (Instr.entry (.pointer (some ⟨r, 0, none⟩))).run P w' = .ok (.tuple #[MKey.val x, y]) w' ∧ SL W g w' (iterA P k v ob r left' :: l) ∧ (∀ b o, b ≠ r → w.heap[b]? = some o → w'.heap[b]? = some o) := by
  obtain ⟨h, be, s, ow, h1, h2, ap, rfl, q, s2⟩ := H
  rcases q with ⟨rfl, rfl, a, sn, c, hr⟩ | ⟨b, since, seen, c0, rfl, hr, hold, hsc, hsk, hleft⟩
  · exact .inl ⟨rfl, run_next_nil ty (ow r _ (Hp.join_left hr)).2.1⟩
  obtain ⟨hW, hrw, hrn⟩ := ow r _ (Hp.join_left hr)
  rcases hm with ⟨hm, _⟩ | ⟨b', hm, hbw, rep⟩
  · cases hm
  have : b = b' := by cases hm; rfl
  subst this
  have hne : r ≠ b := fun e => by rw [e, hbw] at hrw; cases hrw
  obtain ⟨es, clock⟩ := ob
  simp only at hbw rep hold hsk hleft
  rcases run_next_at (P := P) w ty r b since c0 seen es clock hrw hbw hold hsc with ⟨h0, hrun⟩ | ⟨e, he, w1, hal, hrun⟩
  · refine .inl ⟨?_, hrun⟩
    have : (leftOf es seen).toList = [] := by
      apply List.eq_nil_of_length_eq_zero; simpa using h0
    rw [this] at hleft
    have := hleft.length_eq
    simp at this
    exact List.eq_nil_of_length_eq_zero this.symm
  · right
    obtain ⟨hem, hes⟩ := mem_left he
    obtain ⟨kl, hk, hrg⟩ := rg_val rep.fit hem
    have hin : rg P k holdV e ∈ left.map ent := hleft.mem_iff.1 (List.mem_map.2 ⟨e, he, rfl⟩)
    have hin2 : rg P k holdV e ∈ m.map ent := rep.perm.mem_iff.1 (List.mem_map.2 ⟨e, hem, rfl⟩)
    obtain ⟨p, hp, hpe⟩ := List.mem_map.1 hin
    rw [hrg] at hpe
    have e1 : MKey.lit p.1 = kl := congrArg Prod.fst hpe
    have e2 : (DataW.held p.2 : DataW Value) = .held e.val := congrArg Prod.snd hpe
    subst e1
    have e3 : p.2 = e.val := DataW.held.inj e2
    obtain ⟨hkv, hok⟩ := K.inv _ _ hk
    obtain ⟨a, c, hac⟩ := List.append_of_mem hp
    have hwl : Le w w1 := by rcases hal with rfl | rfl; exact Le.refl _; exact Le.drew _
    have hr1 : w1.heap[r]? = some (.mapIter (some b) since seen c0) := hwl.keep hrw
    have hb1 : w1.heap[b]? = some (.map es clock) := hwl.keep hbw
    have u : UpdO w1 r (.mapIter (some b) since (seen.push e.born) clock) (setBlock w1 r (.mapIter (some b) since (seen.push e.born) clock)) := ⟨rfl, at_lt hr1⟩
    have hpe2 : p = (p.1, e.val) := by rw [← e3]
    refine ⟨p.1, e.val, a ++ c, _, ?_, hok, ?_, by rw [hkv] at hrun; exact hrun, ?_, ?_, fun q o hq ho => u.keep hq (hwl.keep ho)⟩
    · rw [hac, ← hpe2]
      exact List.perm_middle
    · obtain ⟨p2, hp2, hpe3⟩ := List.mem_map.1 hin2
      rw [hrg] at hpe3
      have q1 : MKey.lit p2.1 = MKey.lit p.1 := congrArg Prod.fst hpe3
      have q2 : (DataW.held p2.2 : DataW Value) = .held e.val := congrArg Prod.snd hpe3
      have q3 := MKey.inj _ _ q1
      have q4 := DataW.held.inj q2
      rw [← q3, ← q4]; exact hp2
    · rw [← hkv]
      exact run_entry_at _ r b since seen es clock e u.here (u.keep (Ne.symm hne) hb1) hem ((stamped_iff es clock).1 rep.fit.stamped).2.1
    · have hle := SL.le (l := []) (W := W) (g := g) ⟨fun _ => none, be, s, (fun _ _ h => by cases h), trivial⟩ hwl
      refine ⟨Hp.join (fun q => if q = r then some (.mapIter (some b) since (seen.push e.born) clock) else h1 q) h2, u.below hle.below hW, hle.seesA.updO hrn u, fun q o hq => ?_, _, h2, fun q => ?_, rfl,
        .inr ⟨b, since, seen.push e.born, clock, rfl, if_pos rfl, hold, hsk, hsk, ?_⟩, s2⟩
      · by_cases eq : q = r
        · subst eq
          have : o = .mapIter (some b) since (seen.push e.born) clock := by unfold Hp.join at hq; simp at hq; exact hq.symm
          subst this
          exact ⟨hW, u.here, hrn⟩
        · have hq' : (h1.join h2) q = some o := by unfold Hp.join at hq ⊢; simpa [eq] using hq
          obtain ⟨o1, o2, o3⟩ := ow q o hq'
          exact ⟨o1, u.keep eq (hwl.keep o2), o3⟩
      · by_cases eq : q = r
        · subst eq
          rcases ap q with z | z
          · rw [hr] at z; cases z
          · exact .inr z
        · rcases ap q with z | z
          · left; simp [eq, z]
          · exact .inr z
      · have h3 := (left_push rep.fit.stamped he).map (rg P k holdV)
        rw [List.map_cons, hrg] at h3
        have h4 : (left.map ent).Perm (ent p :: (a ++ c).map ent) := by
          rw [hac, List.map_append, List.map_cons, List.map_append]; exact List.perm_middle
        have h5 := (hleft.symm.trans h3).symm.trans h4
        have h6 : ent p = (MKey.lit p.1, .held e.val) := by unfold ent; rw [e3]
        rw [h6] at h5
        exact List.Perm.cons_inv h5
/-! ### As operations -/
theorem X_lookup {ρ : Operand → Value} {o : Oper} {x y : Operand} {t : TypeId} {c : Bool} {mv kv r : Value} (ho : o.op = .lookup t x y c) (hx : ρ x = mv) (hy : ρ y = kv) (h : (Instr.lookup t mv kv c).run P w = .ok r w) :
    (execOp ρ o).run P w = .ok (.value r) w := by
  simp [execOp, ho, hx, hy, h]
theorem X_len_map {ρ : Operand → Value} {o : Oper} {x : Operand} {t e : TypeId} {n : Nat} (h : MapV P k w v m) (hn : m.length = n) (ho : o.op = .call { callee := .builtin .len, args := #[x], argTypes := #[t] }) (ht : P.underlying t = some (.map k e)) (hx : ρ x = v) :
    (execOp ρ o).run P w = .ok (.value (.int .i64 n)) w := by
  simp [execOp, ho, resolve, invoke, builtin, hx, h.len ht, hn]
theorem S_range {n : Nat} {s : AL} {Q : Exit → Act → World → Prop} {ops : Array Oper} {rest : List Oper} {o : Oper} {d : Nat} {t e : TypeId} {x : Operand} (h : MapO P k w v ob m) (ht : P.underlying t = some (.map k e)) (H : SL W g w l)
    (ho : o.op = .range t x) (hx : ev s x = some v) (hw : wants ops s o = some true) (hd : o.dst = some d) (hn : Nat.blt d n = true)
    (k : ∀ r w', Le w w' → (∀ b o, w.heap[b]? = some o → b ≠ r) → SL W g w' (iterA P k v ob r m :: l) → wpR P ops rest n ((d, ptr r 0) :: s) Q w') : wpR P ops (o :: rest) n s Q w := by
  obtain ⟨ob', hr, hs⟩ := run_range h ht
  refine R_val (v := ptr w.heap.size 0) (w' := w.alloc ob') hw (by simp [knows, noSel, ho, Op.operands, hx]) hd hn ?_ (k _ _ (New.mk' w ob').le (fun b o hb => by have := at_lt hb; omega) (hs H))
  simp [execOp, ho, rho, hx, hr]
theorem S_next {n : Nat} {s : AL} {Q : Exit → Act → World → Prop} {ops : Array Oper} {rest : List Oper} {o : Oper} {d r : Nat} {x : Operand} {left : List (κ × Value)} (H : SL W g w (iterA P k v ob r left :: l)) (hm : MapO P k w v ob m) (K : KeyT P k κ)
    (ho : o.op = .next x false) (hx : ev s x = some (ptr r 0)) (hw : wants ops s o = some true) (hd : o.dst = some d) (hn : Nat.blt d n = true)
    (h0 : left = [] → wpR P ops rest n ((d, .tuple #[.bool false]) :: s) Q w)
    (h1 : ∀ x y left' w', left.Perm ((x, y) :: left') → MKey.ok x → (x, y) ∈ m → (Instr.entry (ptr r 0)).run P w' = .ok (.tuple #[MKey.val x, y]) w' → SL W g w' (iterA P k v ob r left' :: l) → (∀ b o, b ≠ r → w.heap[b]? = some o → w'.heap[b]? = some o) →
      wpR P ops rest n ((d, .tuple #[.bool true, MKey.val x, y]) :: s) Q w') : wpR P ops (o :: rest) n s Q w := by
  rcases H.iterNext hm K o.type with ⟨he, hr⟩ | ⟨a, y, left', w', h2, h3, h4, h5, h6, h7, h8⟩
  · exact R_val (v := .tuple #[.bool false]) (w' := w) hw (by simp [knows, noSel, ho, Op.operands, hx]) hd hn (by simp [execOp, ho, rho, hx, hr]) (h0 he)
  · exact R_val (v := .tuple #[.bool true, MKey.val a, y]) (w' := w') hw (by simp [knows, noSel, ho, Op.operands, hx]) hd hn (by simp [execOp, ho, rho, hx, h5]) (h1 a y left' w' h2 h3 h4 h6 h7 h8)
theorem X_entry {ρ : Operand → Value} {o : Oper} {x : Operand} {r : Nat} {y : Value} (ho : o.op = .entry x) (hx : ρ x = ptr r 0) (h : (Instr.entry (ptr r 0)).run P w = .ok y w) : (execOp ρ o).run P w = .ok (.value y) w := by
  simp [execOp, ho, hx, h]
theorem X_makeMap {ρ : Operand → Value} {o : Oper} {t : TypeId} (ho : o.op = .makeMap t none) : (execOp ρ o).run P w = .ok (.value (.map (some w.heap.size))) (w.alloc (.map #[] 0)) := by
  simp [execOp, ho, Instr.makeMap, go_sem]
theorem X_mapUpdate {ρ : Operand → Value} {o : Oper} {x y z : Operand} {t : TypeId} {mv kv vv : Value} {w' : World} (ho : o.op = .mapUpdate t x y z) (hx : ρ x = mv) (hy : ρ y = kv) (hz : ρ z = vv) (h : (Instr.mapUpdate t mv kv vv).run P w = .ok () w') :
    (execOp ρ o).run P w = .ok .skip w' := by
  simp [execOp, ho, hx, hy, hz, h]
theorem X_delete {ρ : Operand → Value} {o : Oper} {x y : Operand} {t k : TypeId} {mv kv : Value} {w' : World} (ho : o.op = .call { callee := .builtin .delete, args := #[x, y], argTypes := #[t, k] }) (hx : ρ x = mv) (hy : ρ y = kv) (h : (Builtin.delete_ #[t, k] o.type #[mv, kv]).run P w = .ok (.tuple #[]) w') :
    (execOp ρ o).run P w = .ok (.value (.tuple #[])) w' := by
  simp [execOp, ho, resolve, invoke, builtin, hx, hy, h]
end
end Go.Lm
