/- Rows of bytes: made, copied into; the least and the greatest of two. General: no program in sight. -/
import Derived.Test.YtnmaehdklmgfmaaLmApp
namespace Go.Lm
open Go Go.RowKit
section
variable {P : Program} {W : Base} {g w : World} {l : List Atom}
theorem X_min {ρ : Operand → Value} {o : Oper} {x y : Operand} {t u : TypeId} {a b : Int} {k : IntKind} (ho : o.op = .call { callee := .builtin .min, args := #[x, y], argTypes := #[t, u] }) (hx : ρ x = .int k a) (hy : ρ y = .int k b) : (execOp ρ o).run P w = .ok (.value (.int k (min a b))) w := by
  simp [execOp, ho, resolve, invoke, builtin, hx, hy, Builtin.min_, Builtin.min2]
  try (split <;> omega)
theorem X_max {ρ : Operand → Value} {o : Oper} {x y : Operand} {t u : TypeId} {a b : Int} {k : IntKind} (ho : o.op = .call { callee := .builtin .max, args := #[x, y], argTypes := #[t, u] }) (hx : ρ x = .int k a) (hy : ρ y = .int k b) : (execOp ρ o).run P w = .ok (.value (.int k (max a b))) w := by
  simp [execOp, ho, resolve, invoke, builtin, hx, hy, Builtin.max_, Builtin.max2]
  try (split <;> omega)
def bV (xs : List UInt8) : List Value := xs.map fun b => .int .u8 b.toNat
theorem relB : ∀ {cs : List (List Value)} {xs : List UInt8}, RelL g cs xs → cs.flatten = bV xs
  | [], [], _ => rfl
  | c :: cs, x :: xs, h => by
    have h1 : c = [.int .u8 x.toNat] := h.1
    rw [List.flatten_cons, relB h.2, h1]; rfl
theorem relB_mk : ∀ xs : List UInt8, RelL g (xs.map fun b => [Value.int .u8 b.toNat]) xs
  | [] => trivial
  | _ :: xs => ⟨rfl, relB_mk xs⟩
theorem flat_mk (xs : List UInt8) : (xs.map fun b => [Value.int .u8 b.toNat]).flatten = bV xs := by
  induction xs with
  | nil => rfl
  | cons x xs ih => rw [List.map_cons, List.flatten_cons, ih]; rfl
theorem SL.slB {e : TypeId} {v : Value} {xs : List UInt8} (H : SL W g w (rowA e 1 v xs.length (bV xs) :: l)) : SL W g w (slA e v xs :: l) := by
  refine SL.slI (cs := xs.map fun b => [Value.int .u8 b.toNat]) (relB_mk xs) ?_
  rw [flat_mk]; exact H
theorem SL.slBO {e : TypeId} {v : Value} {xs : List UInt8} (H : SL W g w (slA e v xs :: l)) : SL W g w (rowA e 1 v xs.length (bV xs) :: l) := by
  obtain ⟨cs, r, H1⟩ := H.slO
  rw [relB r] at H1
  exact H1
/-- What is copied into a row from place off on. -/
def copyL (xs : List UInt8) (off : Nat) (ys : List UInt8) : List UInt8 := xs.take off ++ ys.take (xs.length - off) ++ xs.drop (off + min ys.length (xs.length - off))
theorem copyL_length (xs : List UInt8) (off : Nat) (ys : List UInt8) (h : off ≤ xs.length) : (copyL xs off ys).length = xs.length := by
  unfold copyL; simp; omega
theorem sliceV_all (v : Value) (n : Nat) (k cap : Nat) (h : v = .slice (some ⟨k, 0, none⟩) n cap) : sliceV 1 v 0 n = v := by
  subst h
  unfold sliceV
  simp only [Int.toNat_zero, Nat.zero_mul, Nat.sub_zero, Int.toNat_natCast]
  split
  · rfl
  · simp [Addr.add]
theorem SL.copyB {e dT sT ty : TypeId} {k cap : Nat} {xs ys : List UInt8} {y : Value} {off : Int} (H : SL W g w (slA e (.slice (some ⟨k, 0, none⟩) xs.length cap) xs :: l)) (hy : Rd g w y ys) (h0 : 0 ≤ off) (h1 : off ≤ xs.length) (ht : P.underlying dT = some (.slice e)) (hs : (P.info? e).map (·.size) = some 1) :
    ∃ w', (Builtin.copy_ #[dT, sT] ty #[sliceV 1 (.slice (some ⟨k, 0, none⟩) xs.length cap) off xs.length, y]).run P w = .ok (.int .i64 (min ys.length (xs.length - off.toNat) : Nat)) w' ∧ SL W g w' (slA e (.slice (some ⟨k, 0, none⟩) xs.length cap) (copyL xs off.toNat ys) :: l) := by
  have H1 := H.slBO
  rcases H1.ofRow with ⟨h, _⟩ | ⟨k', cap', cur, hv, q1, q2, q3, q4, H2⟩
  · cases h
  cases hv
  rw [Nat.mul_one] at q4 q3
  have hlc : cur.toList.length = cap := by simpa using q3
  have hbx : (bV xs).length = xs.length := by simp [bV]
  -- the destination
  have hdst : ∃ o, sliceV 1 (.slice (some ⟨k, 0, none⟩) xs.length cap) off xs.length = .slice (some ⟨k, o, none⟩) (xs.length - off.toNat) (cap - off.toNat) ∧ (o = off.toNat ∨ (o = 0 ∧ xs.length - off.toNat = 0)) := by
    unfold sliceV
    simp only [Option.map_some, Int.toNat_natCast, Nat.mul_one]
    by_cases hc : cap = off.toNat
    · exact ⟨0, by rw [if_pos hc], .inr ⟨rfl, by omega⟩⟩
    · refine ⟨off.toNat, by rw [if_neg hc, Addr.add_mid, Nat.zero_add], .inl rfl⟩
  obtain ⟨o, hd, ho⟩ := hdst
  rw [hd]
  rcases hy with ⟨rfl, rfl⟩ | ⟨a, c, rfl, _, _, ds, hds, hcell⟩
  · have hr := run_copy_nil (P := P) w dT sT ty e ⟨k, o, none⟩ (xs.length - off.toNat) (cap - off.toNat) ht (by cases hq : P.info? e <;> simp_all)
    refine ⟨w, by rw [hr]; simp [goInt], ?_⟩
    have : copyL xs off.toNat [] = xs := by unfold copyL; simp
    rw [this]; exact H
  · have hfl := relB hds
    obtain ⟨m, hm⟩ : ∃ m, m = min ys.length (xs.length - off.toNat) := ⟨_, rfl⟩
    have hmN : Nat.min ys.length (xs.length - off.toNat) = m := hm.symm
    have hy1 : ((bV ys).take (xs.length - off.toNat)).length = m := by
      simp [bV]; omega
    have hr := run_copy_row (P := P) w dT sT ty e k o (xs.length - off.toNat) (cap - off.toNat) a ys.length c cur e ((bV ys).take (xs.length - off.toNat)) ht hs (H2.blk 0) (by rw [hmN]; exact hy1)
      (fun j u hj => by
        rw [List.getElem?_take] at hj
        split at hj
        · exact hcell j u (by rw [hfl]; exact hj)
        · cases hj)
      (by rw [hy1, ← Array.length_toList, hlc]; rcases ho with h | h <;> omega)
      (fun u hu => by
        have hu' := List.mem_of_mem_take hu
        unfold bV at hu'
        obtain ⟨b, _, rfl⟩ := List.mem_map.1 hu'
        rfl)
    rw [hy1] at hr
    rw [← hm]
    refine ⟨_, hr, ?_⟩
    have hu : Upd w k (cur.toList.take o ++ (bV ys).take (xs.length - off.toNat) ++ cur.toList.drop (o + m)).toArray (w.setRow k (cur.toList.take o ++ (bV ys).take (xs.length - off.toNat) ++ cur.toList.drop (o + m)).toArray) := ⟨rfl, (H2.blk 0).lt⟩
    have H3 := H2.upd 0 hu
    have hlen : (copyL xs off.toNat ys).length = xs.length := copyL_length _ _ _ (by omega)
    have H4 := SL.toRow (size := 1) (cap := cap) xs.length H3 q1 q2 (by
      simp only [List.size_toArray, List.length_append, List.length_drop, hlc, Nat.mul_one, hy1]
      rw [List.length_take, hlc]
      rcases ho with h | h <;> omega)
    have e1 : (cur.toList.take o ++ (bV ys).take (xs.length - off.toNat) ++ cur.toList.drop (o + m)).toArray.toList.take (xs.length * 1) = bV (copyL xs off.toNat ys) := by
      show (cur.toList.take o ++ (bV ys).take (xs.length - off.toNat) ++ cur.toList.drop (o + m)).take (xs.length * 1) = _
      rw [Nat.mul_one]
      unfold copyL
      rw [← hm]
      generalize hT : (bV ys).take (xs.length - off.toNat) = T at hy1
      have hR : bV (xs.take off.toNat ++ ys.take (xs.length - off.toNat) ++ xs.drop (off.toNat + m)) = (cur.toList.take xs.length).take off.toNat ++ T ++ (cur.toList.take xs.length).drop (off.toNat + m) := by
        rw [q4, ← hT]
        simp only [bV, List.map_append, List.map_take, List.map_drop]
      rw [hR]
      have ho' : cur.toList.take o ++ T ++ cur.toList.drop (o + m) = cur.toList.take off.toNat ++ T ++ cur.toList.drop (off.toNat + m) := by
        rcases ho with h | ⟨h, h2⟩
        · rw [h]
        · have hm0 : m = 0 := by omega
          have hT0 : T = [] := List.eq_nil_of_length_eq_zero (by omega)
          rw [hT0, h, hm0]
          simp
      rw [ho']
      rw [List.take_append, List.take_append, List.take_take, List.length_append, List.length_take, hy1, hlc]
      have m1 : min xs.length off.toNat = off.toNat := by omega
      have m2 : min off.toNat cap = off.toNat := by omega
      rw [m1, m2]
      have m3 : T.take (xs.length - off.toNat) = T := List.take_of_length_le (by omega)
      rw [m3]
      rw [List.take_take, List.drop_take]
      have m4 : min off.toNat xs.length = off.toNat := by omega
      rw [m4]
      first | done | (congr 2; done) | (congr 2; omega)
    rw [e1] at H4
    refine SL.slB ?_
    rw [hlen]; exact H4
theorem S_copyB {ops : Array Oper} {rest : List Oper} {n : Nat} {s : AL} {Q : Exit → Act → World → Prop} {o : Oper} {x z : Operand} {d : Nat} {e dT sT : TypeId} {k cap : Nat} {xs ys : List UInt8} {y v : Value} {off : Int} (H : SL W g w (slA e (.slice (some ⟨k, 0, none⟩) xs.length cap) xs :: l)) (hy : Rd g w y ys) (h0 : 0 ≤ off) (h1 : off ≤ xs.length) (ht : P.underlying dT = some (.slice e)) (hs : (P.info? e).map (·.size) = some 1)
    (hv : sliceV 1 (.slice (some ⟨k, 0, none⟩) xs.length cap) off xs.length = v)
    (ho : o.op = .call { callee := .builtin .copy, args := #[x, z], argTypes := #[dT, sT] }) (hx : ev s x = some v) (hz : ev s z = some y) (hw : wants ops s o = some true) (hd : o.dst = some d) (hn : Nat.blt d n = true)
    (kk : ∀ w', SL W g w' (slA e (.slice (some ⟨k, 0, none⟩) xs.length cap) (copyL xs off.toNat ys) :: l) → wpR P ops rest n ((d, .int .i64 (min ys.length (xs.length - off.toNat) : Nat)) :: s) Q w') : wpR P ops (o :: rest) n s Q w := by
  obtain ⟨w', hr, H'⟩ := H.copyB (P := P) (sT := sT) (ty := o.type) hy h0 h1 ht hs
  rw [hv] at hr
  exact R_val hw (by simp [knows, noSel, ho, Op.operands, Call.operands, hx, hz]) hd hn (by simp [execOp, ho, resolve, invoke, builtin, rho, hx, hz, hr]) (kk w' H')
theorem S_copyV {ops : Array Oper} {rest : List Oper} {n : Nat} {s : AL} {Q : Exit → Act → World → Prop} {o : Oper} {x z : Operand} {d : Nat} {e dT sT : TypeId} {k cap : Nat} {xs ys : List UInt8} {y v vd : Value} {off : Int} (H : SL W g w (slA e v xs :: l)) (hv0 : v = .slice (some ⟨k, 0, none⟩) xs.length cap) (hy : Rd g w y ys) (h0 : 0 ≤ off) (h1 : off ≤ xs.length) (ht : P.underlying dT = some (.slice e)) (hs : (P.info? e).map (·.size) = some 1)
    (hv : sliceV 1 v off xs.length = vd)
    (ho : o.op = .call { callee := .builtin .copy, args := #[x, z], argTypes := #[dT, sT] }) (hx : ev s x = some vd) (hz : ev s z = some y) (hw : wants ops s o = some true) (hd : o.dst = some d) (hn : Nat.blt d n = true)
    (kk : ∀ w', SL W g w' (slA e v (copyL xs off.toNat ys) :: l) → wpR P ops rest n ((d, .int .i64 (min ys.length (xs.length - off.toNat) : Nat)) :: s) Q w') : wpR P ops (o :: rest) n s Q w := by
  subst hv0
  exact S_copyB H hy h0 h1 ht hs hv ho hx hz hw hd hn kk
theorem sliceV_at {v : Value} {n k cap : Nat} (h : v = .slice (some ⟨k, 0, none⟩) n cap) : sliceV 1 v 0 n = v := sliceV_all v n k cap h
theorem S_makeB {ops : Array Oper} {rest : List Oper} {n : Nat} {s : AL} {Q : Exit → Act → World → Prop} {o : Oper} {x z : Operand} {d : Nat} {t e : TypeId} {c : Int} (H : SL W g w l) (ht : P.underlying t = some (.slice e)) (hi : (P.info? e).map (fun i => (i.size, i.bytes, i.zero)) = some (1, 1, some (.int .u8 0))) (h0 : 0 ≤ c) (h1 : c ≤ 281474976710656)
    (ho : o.op = .makeSlice t x z) (hx : ev s x = some (.int .i64 c)) (hz : ev s z = some (.int .i64 c)) (hw : wants ops s o = some true) (hd : o.dst = some d) (hn : Nat.blt d n = true)
    (kk : ∀ b w', SL W g w' (slA e (.slice (some ⟨b, 0, none⟩) c.toNat c.toNat) (List.replicate c.toNat (0 : UInt8)) :: l) → wpR P ops rest n ((d, .slice (some ⟨b, 0, none⟩) c.toNat c.toNat) :: s) Q w') : wpR P ops (o :: rest) n s Q w := by
  cases hq : P.info? e with
  | none => simp [hq] at hi
  | some i =>
    simp only [hq, Option.map_some, Option.some.injEq, Prod.mk.injEq] at hi
    obtain ⟨hs, hb, hz0⟩ := hi
    have hr := run_make (P := P) w t e i (.int .u8 0) ht hq hz0 .i64 .i64 c c h0 (Int.le_refl _) (by rw [hb]; omega) (by omega)
    have hcells : madeCells (Value.int .u8 0).cells (c.toNat * i.size) = (bV (List.replicate c.toNat 0)).toArray := by
      rw [hs, Nat.mul_one]
      apply Array.ext_getElem?
      intro j
      simp only [madeCells, bV, Value.cells, List.map_replicate]
      by_cases hj : j < c.toNat
      · simp [hj, Nat.mod_one]
      · simp [hj]
    rw [hcells] at hr
    refine R_val hw (by simp [knows, noSel, ho, Op.operands, hx, hz]) hd hn (by simp [execOp, ho, rho, hx, hz, hr]; rfl) (kk w.heap.size _ ?_)
    have H1 := H.new (New.mk' w (.cells (bV (List.replicate c.toNat (0 : UInt8))).toArray e (0, 0)))
    have H2 := SL.toRow (size := 1) (cap := c.toNat) c.toNat H1 (Nat.le_refl _) (by unfold maxLen; omega) (by simp [bV])
    have e1 : (bV (List.replicate c.toNat (0 : UInt8))).toArray.toList.take (c.toNat * 1) = bV (List.replicate c.toNat 0) := by
      show (bV (List.replicate c.toNat (0 : UInt8))).take (c.toNat * 1) = _
      exact List.take_of_length_le (by simp [bV])
    rw [e1] at H2
    refine SL.slB ?_
    rw [List.length_replicate]; exact H2
end
end Go.Lm
