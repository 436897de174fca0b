/- Texts of mine, laid together: LmVze Srt LmYh LmYi LmYp LmYo LmYq LmYr LmYs B6 B7 LmWb B8. -/
import Derived.Test.YthlmnlajmakfnaaGreatQ8
import Derived.Test.YthlmnlajmakfnaaGreatQ7
import Derived.Shelf.SlSortCmp.InsertionK
import Derived.Shelf.SlSortCmp.WholeK
import Derived.Shelf.SlSortCmp.NoneTotal
import Derived.Test.YthlmnlajmakfnaaGreatChecked
import Derived.Test.YthlmnlajmakfnaaGreatProg
import Derived.Test.YthlmnlajmakfnaaGreatQ3
import Derived.Test.YthlmnlajmakfnaaGreatQ1
set_option linter.unusedVariables false
namespace Go.Lm
open Go Go.RowKit Go.Proofs
def SortC (P : Program) (f fk k : Nat) : Prop := ∀ {α : Type} [Inhabited α] (enc : α → List Value), (∀ x, (enc x).length = k) → (∀ x, ∀ v ∈ enc x, v.oneCell' = true) → ∀ (cf : α → α → Int), Sort.SWO (ltOf cf) → ∀ (blk off cap : Nat) (d : Array α) (w : World),
  CmpLays P fk #[] enc k cf blk off d.size w → Sort.HoldsK enc k w blk off d → blk < w.heap.size → d.size < 4611686018427387904 →
  Calls P f #[.slice (some ⟨blk, off, none⟩) d.size cap, .func (.func fk) #[] #[]] w fun e w' => e = .returned (.tuple #[]) ∧ ∃ d' n os, Sort.PermIn 0 d.size d d' ∧ Sort.SortedIn (ltOf cf) 0 d.size d' ∧ w' = Go.Proofs.sortWorldK enc k w blk off n d' os
def CmpC (P : Program) (fk : Nat) : Prop := ∀ (a a2 : Option Addr) (c c2 : Nat) (xs ys : List ByteArray) (p1 p2 p3 p4 p5 p6 p7 p8 p9 q1 q2 q3 q4 q5 q6 q7 q8 q9 : Value) (w : World), xs.length ≤ 9223372036854775807 → ys.length ≤ 9223372036854775807 →
    (∀ (j : Nat) x, xs[j]? = some x → ∃ bk o, a = some ⟨bk, o, none⟩ ∧ w.cell? ⟨bk, o + j, none⟩ = some (.string x)) →
    (∀ (j : Nat) x, ys[j]? = some x → ∃ bk o, a2 = some ⟨bk, o, none⟩ ∧ w.cell? ⟨bk, o + j, none⟩ = some (.string x)) →
    Calls P fk #[.agg #[.slice a xs.length c, p1, p2, p3, p4, p5, p6, p7, p8, p9], .agg #[.slice a2 ys.length c2, q1, q2, q3, q4, q5, q6, q7, q8, q9]] w fun e w' => e = .returned (.int .i64 (cmpL xs ys)) ∧ ∃ q os', w' = Sort.grow (w.drewN q) os'
theorem flat_get {k : Nat} : ∀ {l : List (List Value)}, (∀ x ∈ l, x.length = k) → ∀ {t : Nat}, t < l.length * k → ∃ c v, l[t / k]? = some c ∧ c[t % k]? = some v ∧ l.flatten[t]? = some v
  | [], _, t, h => by simp at h
  | c :: l, hl, t, h => by
    have hc := hl c (by simp)
    by_cases ht : t < k
    · refine ⟨c, c[t]'(by omega), ?_, ?_, ?_⟩
      · rw [Nat.div_eq_of_lt ht]; rfl
      · rw [Nat.mod_eq_of_lt ht]; exact List.getElem?_eq_getElem (by omega)
      · rw [List.flatten_cons, List.getElem?_append_left (by omega)]; exact List.getElem?_eq_getElem (by omega)
    · have hk : 0 < k := by
        cases k with
        | zero => simp at h
        | succ _ => omega
      have h' : t - k < l.length * k := by
        rw [List.length_cons, Nat.add_mul] at h; omega
      obtain ⟨c', v, h1, h2, h3⟩ := flat_get (fun x hx => hl x (List.mem_cons_of_mem _ hx)) h'
      refine ⟨c', v, ?_, ?_, ?_⟩
      · rw [Nat.div_eq_sub_div hk (by omega), List.getElem?_cons_succ]; exact h1
      · rw [Nat.mod_eq_sub_mod (by omega)]; exact h2
      · rw [List.flatten_cons, List.getElem?_append_right (by omega), hc]; exact h3
theorem flatK_list {α : Type} [Inhabited α] {enc : α → List Value} {k : Nat} (hk : ∀ x, (enc x).length = k) (d : Array α) : (Sort.flatK enc k d).toList = (d.toList.map enc).flatten := by
  have hl : ∀ x ∈ d.toList.map enc, x.length = k := fun x hx => by
    obtain ⟨y, _, rfl⟩ := List.mem_map.1 hx; exact hk y
  have hlen : (d.toList.map enc).flatten.length = d.size * k := by
    rw [List.length_flatten, List.map_map]
    have : (d.toList.map (List.length ∘ enc)) = List.replicate d.size k := by
      rw [List.eq_replicate_iff]
      refine ⟨by simp, fun x hx => ?_⟩
      obtain ⟨y, _, rfl⟩ := List.mem_map.1 hx; exact hk y
    rw [this, List.sum_replicate_nat]
  refine List.ext_getElem? fun t => ?_
  by_cases ht : t < d.size * k
  · obtain ⟨c, v, h1, h2, h3⟩ := flat_get hl (t := t) (by simpa using ht)
    rw [h3]
    have hg := Sort.get_flatK enc k d t ht
    have hs : t < (Sort.flatK enc k d).size := by rw [Sort.size_flatK]; exact ht
    rw [getElem!_pos _ t hs] at hg
    have hdk : t / k < d.size := by
      rcases List.getElem?_eq_some_iff.1 h1 with ⟨q, _⟩
      simpa using q
    have hc : c = enc d[t / k] := by
      rw [List.getElem?_map] at h1
      simp only [Array.getElem?_toList, Array.getElem?_eq_getElem hdk, Option.map_some, Option.some.injEq] at h1
      exact h1.symm
    rw [Array.getElem?_toList, Array.getElem?_eq_getElem hs, hg, getElem!_pos d _ hdk, ← hc]
    obtain ⟨q, e⟩ := List.getElem?_eq_some_iff.1 h2
    rw [getElem!_pos c _ q, e]
  · rw [List.getElem?_eq_none (by simpa using Nat.le_of_not_lt ht), List.getElem?_eq_none (by omega)]
structure RowN (g : World) where
  cs : List Value
  x : NoD
  rel : noTy.rep.rel g cs x
theorem RowN.len {g : World} (r : RowN g) : r.cs.length = 10 := by
  have := noTy.rep.len r.rel; rw [Ty.rep_size] at this; exact this
theorem RowN.names {g : World} (r : RowN g) : ∃ a c p1 p2 p3 p4 p5 p6 p7 p8 p9, r.cs = [.slice a r.x.1.length c, p1, p2, p3, p4, p5, p6, p7, p8, p9] ∧ r.x.1.length ≤ 9223372036854775807 ∧ ∀ (j : Nat) s, r.x.1[j]? = some s → ∃ bk o, a = some ⟨bk, o, none⟩ ∧ g.cell? ⟨bk, o + j, none⟩ = some (.string s) := by
  have hl := r.len
  obtain ⟨cs, x, c1, c2, e, ⟨v, hc1, hs⟩, _⟩ := r
  simp only at e hl ⊢
  subst e
  subst hc1
  have hl2 : c2.length = 9 := by simpa using hl
  match c2, hl2 with
  | [p1, p2, p3, p4, p5, p6, p7, p8, p9], _ =>
    rcases hs with ⟨rfl, hx⟩ | ⟨a, cap, rfl, h1, h2, h3⟩
    · refine ⟨none, 0, p1, p2, p3, p4, p5, p6, p7, p8, p9, ?_, ?_, ?_⟩
      · rw [hx]; rfl
      · rw [hx]; simp
      · intro j s hj; rw [hx] at hj; simp at hj
    · refine ⟨some a, cap, p1, p2, p3, p4, p5, p6, p7, p8, p9, rfl, Nat.le_trans h1 h2, fun j s hj => ?_⟩
      obtain ⟨cs, hc, hr⟩ := h3 j s hj
      obtain ⟨rfl, _⟩ : cs = [.string s] ∧ _ := hr
      have h4 := hc 0 (.string s) rfl
      have h0 : ∃ s0, x.1[0]? = some s0 := ⟨x.1[0]'(by have := (List.getElem?_eq_some_iff.1 hj).1; omega), List.getElem?_eq_getElem _⟩
      obtain ⟨s0, hs0⟩ := h0
      obtain ⟨cs0, hc0, hr0⟩ := h3 0 s0 hs0
      obtain ⟨rfl, _⟩ : cs0 = [.string s0] ∧ _ := hr0
      have h5 := hc0 0 (.string s0) rfl
      obtain ⟨bk, o, sp⟩ := a
      have hsp : sp = none := by
        cases sp with
        | none => rfl
        | some z =>
          have : g.cell? ⟨bk, o, some z⟩ = some (.string s0) := by simpa [Addr.add] using h5
          unfold World.cell? at this
          split at this <;> simp at this
      subst hsp
      refine ⟨bk, o, rfl, ?_⟩
      have e : (⟨bk, o, none⟩ : Addr).add (j * GoRep.size ByteArray + 0) = ⟨bk, o + j, none⟩ := by
        have : j * GoRep.size ByteArray + 0 = j := by show j * 1 + 0 = j; omega
        rw [this]; unfold Addr.add; split
        · rename_i h; rw [h]; rfl
        · rfl
      exact e ▸ h4
theorem relRows {g : World} : ∀ {cs : List (List Value)} {xs : List NoD}, @RelL NoD noTy.rep g cs xs → ∃ rows : List (RowN g), rows.map (·.cs) = cs ∧ rows.map (·.x) = xs
  | [], [], _ => ⟨[], rfl, rfl⟩
  | c :: cs, x :: xs, h => by
    obtain ⟨rows, h1, h2⟩ := relRows (cs := cs) (xs := xs) h.2
    exact ⟨⟨c, x, h.1⟩ :: rows, by rw [List.map_cons, h1], by rw [List.map_cons, h2]⟩
  | [], _ :: _, h => h.elim
  | _ :: _, [], h => h.elim
theorem rowsRel {g : World} : ∀ (rows : List (RowN g)), @RelL NoD noTy.rep g (rows.map (·.cs)) (rows.map (·.x))
  | [] => trivial
  | r :: rows => ⟨r.rel, rowsRel rows⟩
theorem cell_grow {w : World} {os : Array Obj} {a : Addr} {v : Value} (h : w.cell? a = some v) : (Sort.grow w os).cell? a = some v := by
  unfold World.cell? at h ⊢
  split at h
  · rename_i c e z hb
    have : (Sort.grow w os).heap[a.block]? = some (.cells c e z) := by
      show (w.heap ++ os)[a.block]? = _
      rw [Array.getElem?_append_left (Array.getElem?_eq_some_iff.1 hb).1]; exact hb
    rw [this]; exact h
  · cases h
theorem swo_names {g : World} : Sort.SWO (ltOf fun x y : RowN g => cmpL x.x.1 y.x.1) where
  irrefl x := by
    unfold ltOf
    have := cmpL_self x.x.1
    simp only [this]; decide
  trans x y z h k := by
    unfold ltOf at *
    simp only [decide_eq_true_eq] at *
    exact cmpL_trans h k
  ntrans x y z h k := by
    unfold ltOf at *
    simp only [decide_eq_false_iff_not] at *
    exact cmpL_ntrans h k
theorem Wp.sortNodes {I : Base → Prop} {P : Program} {f fk : Nat} {tN : TypeId} {L : List NoD} {Q : SV → List HO → Prop} (hS : SortC P f fk 10) (hN : ∀ (p : Option Addr) (cap : Nat) (fv : Value) (w : World), Calls P f #[.slice p 0 cap, fv] w fun e w' => e = .returned (.tuple #[]) ∧ w' = w) (hC : CmpC P fk)
    (hL : L.length < 4611686018427387904) (hq : ∀ L' : List NoD, L'.Perm L → L'.Pairwise (fun x y => ¬ cmpL y.1 x.1 < 0) → Q (.tup []) [.sl tN noTy L']) :
    Wp I P f [.v (.c (.o 0)), .v (.c (.fn fk []))] [.sl tN noTy L] Q := by
  intro W hW g w E F vs S hvs
  obtain ⟨u1, r1, rfl, ⟨hE, _⟩, hv2⟩ := hvs
  obtain ⟨u2, r2, rfl, ⟨us, hus, rfl⟩, hr2⟩ := hv2
  obtain rfl : us = [] := hus
  obtain rfl : r2 = [] := hr2
  letI := noTy.rep
  have H1 : SL W g w (slO noTy tN u1 L :: F) := S.sl.weak fun h ⟨k1, k2, ap, q, ⟨v, hv, s1⟩, s2⟩ => by
    rw [hE] at hv
    obtain rfl := Option.some.inj hv
    exact ⟨k1, k2, ap, q, s1, s2⟩
  obtain ⟨cs, rel, H2⟩ := H1.slO
  obtain ⟨rows, hcs, hxs⟩ := relRows rel
  have hln : rows.length = L.length := by rw [← hxs, List.length_map]
  have same : L = [] → Q (.tup []) [.sl tN noTy L] := fun e => by
    subst e
    exact hq [] (List.Perm.refl _) List.Pairwise.nil
  have nil : ∀ (p : Option Addr) (cap : Nat), u1 = .slice p 0 cap → L = [] → Ret P f #[u1, .func (.func fk) #[] [].toArray] w fun v w' => ∃ E' g' sv H', EnvLe E E' ∧ Mono g g' ∧ Sat W E' g' w' H' F ∧ RelV E' g' sv v ∧ Q sv H' := fun p cap hu he => by
    subst hu
    refine (Ret.of (hN p cap _ w)).mono fun v w' ⟨h1, h2⟩ => ?_
    subst h1; subst h2
    exact ⟨E, g, .tup [], _, EnvLe.refl E, Mono.refl g, S, ⟨[], rfl, rfl⟩, same he⟩
  rcases H2.row.2 with ⟨rfl, h0⟩ | ⟨k, cap, cur, rfl, hbk, hcell, hn, hcap, hcur, htake⟩
  · exact nil none 0 rfl (List.eq_nil_of_length_eq_zero h0)
  by_cases hz : L = []
  · subst hz; exact nil _ _ rfl rfl
  obtain ⟨r0, hr0⟩ : ∃ r, r ∈ rows := List.exists_mem_of_ne_nil rows fun e => hz (by rw [← hxs, e]; rfl)
  letI : Inhabited (RowN g) := ⟨r0⟩
  have hk : ∀ x : RowN g, x.cs.length = 10 := fun x => x.len
  have hno : NotIn g k := by
    obtain ⟨h, be, s, ow, h1, h2, ap, rfl, ⟨hl, hv⟩, s2⟩ := H2
    rcases hv with ⟨hv, _⟩ | ⟨k', cap', cur', hv, hk', _⟩
    · cases hv
    · have : k = k' := by
        injection hv with e1 _ _
        injection e1 with e1
        injection e1
      subst this
      exact (ow k _ (Hp.join_left hk')).2.2
  have hF : (Sort.flatK (fun x : RowN g => x.cs) 10 rows.toArray).toList = cur.toList.take (L.length * 10) := by
    rw [flatK_list hk]
    show (rows.map (·.cs)).flatten = _
    rw [hcs, ← htake]; rfl
  have hHolds : Sort.HoldsK (fun x : RowN g => x.cs) 10 w k 0 rows.toArray := fun j hj => by
    have hj' : j < (cur.toList.take (L.length * 10)).length := by rw [← hF]; simpa using hj
    have e1 : (Sort.flatK (fun x : RowN g => x.cs) 10 rows.toArray)[j]? = cur[j]? := by
      rw [← Array.getElem?_toList, hF, List.getElem?_take, if_pos (by simp at hj'; omega), Array.getElem?_toList]
    have e2 : (Sort.flatK (fun x : RowN g => x.cs) 10 rows.toArray)[j]? = some (Sort.flatK (fun x : RowN g => x.cs) 10 rows.toArray)[j]! := by
      rw [getElem!_pos _ j hj]; exact Array.getElem?_eq_getElem hj
    refine ⟨?_, ?_⟩
    · simp only [World.cell?, hcell, Nat.zero_add]
      rw [← e1, e2]; rfl
    · simp [World.frozen?, hcell]
  have hcmp : CmpLays P fk #[] (fun x : RowN g => x.cs) 10 (fun x y => cmpL x.x.1 y.x.1) k 0 rows.toArray.size w := fun m os dk _ x y => by
    obtain ⟨a, c, p1, p2, p3, p4, p5, p6, p7, p8, p9, ex, lx, hx⟩ := x.names
    obtain ⟨a2, c2, q1, q2, q3, q4, q5, q6, q7, q8, q9, ey, ly, hy⟩ := y.names
    have seen : ∀ bk o s, g.cell? ⟨bk, o, none⟩ = some (.string s) → (Go.Proofs.sortWorldK (fun x : RowN g => x.cs) 10 w k 0 m dk os).cell? ⟨bk, o, none⟩ = some (.string s) := fun bk o s hg => by
      refine cell_grow ?_
      have hne : bk ≠ k := fun e => by
        have := hno ⟨bk, o, none⟩ e
        rw [this] at hg; cases hg
      rw [Sort.cell?_putRowK_other (h := hne), Sort.cell?_ahead]
      exact S.sl.m _ _ hg
    have := hC a a2 c c2 x.x.1 y.x.1 p1 p2 p3 p4 p5 p6 p7 p8 p9 q1 q2 q3 q4 q5 q6 q7 q8 q9 (Go.Proofs.sortWorldK (fun x : RowN g => x.cs) 10 w k 0 m dk os) lx ly
      (fun j s hj => by obtain ⟨bk, o, e, h⟩ := hx j s hj; exact ⟨bk, o, e, seen _ _ _ h⟩) (fun j s hj => by obtain ⟨bk, o, e, h⟩ := hy j s hj; exact ⟨bk, o, e, seen _ _ _ h⟩)
    have e : (#[Value.agg x.cs.toArray, Value.agg y.cs.toArray] ++ #[] : Array Value) = #[.agg #[.slice a x.x.1.length c, p1, p2, p3, p4, p5, p6, p7, p8, p9], .agg #[.slice a2 y.x.1.length c2, q1, q2, q3, q4, q5, q6, q7, q8, q9]] := by rw [ex, ey]; rfl
    show Calls P fk (#[Value.agg x.cs.toArray, Value.agg y.cs.toArray] ++ #[]) _ _
    rw [e]; exact this
  have hrun := hS (fun x : RowN g => x.cs) hk (fun x v hv => (oneCellsTy noTy).one x.rel v hv) (fun x y => cmpL x.x.1 y.x.1) swo_names k 0 cap rows.toArray w hcmp hHolds (at_lt hcell) (by simpa [hln] using hL)
  have hsz : rows.toArray.size = L.length := by simpa using hln
  rw [hsz] at hrun
  refine (Ret.of hrun).mono fun v w' ⟨hv, d', n, os, hp, hso, hw'⟩ => ?_
  subst hv
  have hd : d'.size = L.length := hp.1.trans hsz
  have hperm : d'.toList.Perm rows := by
    have := hp.2.2
    rw [← hd] at this
    rw [show d'.extract 0 d'.size = d' by simp, show rows.toArray.extract 0 d'.size = rows.toArray by rw [hd, ← hsz]; simp] at this
    simpa using this
  have hb : w'.heap[k]? = some (.cells (Sort.putCells id 0 (Sort.flatK (fun x : RowN g => x.cs) 10 d') cur) tN (0, 0)) := by
    rw [hw']
    show ((w.heap.modify k (Sort.onCells (Sort.putCells id 0 (Sort.flatK (fun x : RowN g => x.cs) 10 d')))) ++ os)[k]? = _
    rw [Array.getElem?_append_left (by rw [Array.size_modify]; exact at_lt hcell), Array.getElem?_modify, if_pos rfl, hcell]
    rfl
  have hFs : (Sort.flatK (fun x : RowN g => x.cs) 10 d').size = L.length * 10 := by rw [Sort.size_flatK, hd]
  have hcs' : (Sort.putCells id 0 (Sort.flatK (fun x : RowN g => x.cs) 10 d') cur).size = cur.size := by unfold Sort.putCells; simp
  have hle : L.length * 10 ≤ cur.size := by rw [hcur]; exact Nat.mul_le_mul_right _ hn
  have htk : (Sort.putCells id 0 (Sort.flatK (fun x : RowN g => x.cs) 10 d') cur).toList.take (L.length * 10) = (d'.toList.map (·.cs)).flatten := by
    rw [← flatK_list hk]
    refine List.ext_getElem? fun j => ?_
    by_cases hj : j < L.length * 10
    · rw [List.getElem?_take, if_pos hj, Array.getElem?_toList, Array.getElem?_toList]
      unfold Sort.putCells
      rw [Array.getElem?_mapIdx, Array.getElem?_eq_getElem (by omega : j < cur.size), Option.map_some, if_pos ⟨Nat.zero_le _, by rw [hFs]; omega⟩, Nat.sub_zero, getElem!_pos _ j (by rw [hFs]; exact hj), Array.getElem?_eq_getElem (by rw [hFs]; exact hj)]
      rfl
    · rw [List.getElem?_eq_none (by rw [List.length_take]; omega), List.getElem?_eq_none (by rw [Array.length_toList, hFs]; omega)]
  have hgrow : w.grownBy w' (some k) := by
    rw [hw']
    refine ⟨rfl, rfl, rfl, ?_, fun j hj hne => ?_⟩
    · show w.heap.size ≤ ((w.heap.modify k _) ++ os).size
      rw [Array.size_append, Array.size_modify]; omega
    · show ((w.heap.modify k _) ++ os)[j]? = _
      rw [Array.getElem?_append_left (by rw [Array.size_modify]; exact hj), Array.getElem?_modify, if_neg (fun e => hne (by rw [e]))]
  have hlen : ((d'.toList.map (·.cs)).flatten).length = L.length * 10 := by rw [← flatK_list hk, Array.length_toList, hFs]
  have H3 := H2.grown (v' := .slice (some ⟨k, 0, none⟩) L.length cap) (n' := L.length) (xs' := (d'.toList.map (·.cs)).flatten) (w' := w') ⟨hlen, .inr ⟨k, cap, _, rfl, hbk, hb, hn, hcap, by rw [hcs']; exact hcur, htk⟩⟩ hgrow (fun q hq => .inl hq)
  have hxl : (d'.toList.map (·.x)).length = L.length := by rw [List.length_map, Array.length_toList, hd]
  have H4 : SL W g w' (slO noTy tN (.slice (some ⟨k, 0, none⟩) L.length cap) (d'.toList.map (·.x)) :: F) := by
    refine SL.slI (cs := d'.toList.map (·.cs)) (rowsRel _) ?_
    rw [hxl]; exact H3
  have hpL : (d'.toList.map (·.x)).Perm L := by rw [← hxs]; exact hperm.map _
  refine ⟨E, g, .tup [], [.sl tN noTy (d'.toList.map (·.x))], EnvLe.refl E, Mono.refl g, ⟨H4.weak fun h ⟨k1, k2, ap, q, s1, s2⟩ => ⟨k1, k2, ap, q, ⟨_, hE, s1⟩, s2⟩, S.len⟩, ⟨[], rfl, rfl⟩, hq _ hpL ?_⟩
  rw [List.pairwise_map, List.pairwise_iff_getElem]
  intro i j hi hj hij
  have hi' : i < d'.size := by simpa using hi
  have hj' : j < d'.size := by simpa using hj
  have := hso i j (Nat.zero_le _) hij (by omega)
  rw [getElem!_pos d' i hi', getElem!_pos d' j hj'] at this
  unfold ltOf at this
  simpa using this
end Go.Lm

namespace Go.Proofs
open Go Go.Shelf Go.Lm
set_option maxRecDepth 1000000
def Tryz.sortN_ren : Go.Shelf.Ren := ⟨fun | 6 => 63 | 15 => 110 | 14 => 109 | 28 => 143 | 29 => 144 | 20 => 135 | 21 => 136 | 22 => 137 | 23 => 138 | 24 => 139 | 25 => 140 | 26 => 141 | 27 => 142 | 46 => 158 | 47 => 159 | 48 => 160 | 49 => 161 | 50 => 162 | 57 => 172 | n => n, fun | 22 => 48 | 24 => 36 | 25 => 106 | 3 => 3 | 39 => 139 | 0 => 0 | 53 => 174 | 55 => 176 | 4 => 4 | 46 => 168 | 45 => 167 | 50 => 101 | 5 => 5 | 9 => 9 | 66 => 185 | 70 => 189 | 76 => 204 | 77 => 205 | n => n, fun  | n => n⟩
theorem Tryz.sortN : Go.Proofs.SlLaysF0.n6 Tryz.prog Tryz.sortN_ren := {
  mixed := by kernel_rfl
  f6 := ⟨"slices.SortFunc[[]lamella/api.Node,lamella/api.Node]", by kernel_rfl, Tryz.func63.trans (congrArg some (by kernel_rfl))⟩
  f14 := ⟨"slices.pdqsortCmpFunc[lamella/api.Node]", by kernel_rfl, Tryz.func109.trans (congrArg some (by kernel_rfl))⟩
  f15 := Tryz.func110.trans (congrArg some (by kernel_rfl))
  f20 := ⟨"slices.insertionSortCmpFunc[lamella/api.Node]", by kernel_rfl, Tryz.func135.trans (congrArg some (by kernel_rfl))⟩
  f21 := ⟨"slices.heapSortCmpFunc[lamella/api.Node]", by kernel_rfl, Tryz.func136.trans (congrArg some (by kernel_rfl))⟩
  f22 := ⟨"slices.breakPatternsCmpFunc[lamella/api.Node]", by kernel_rfl, Tryz.func137.trans (congrArg some (by kernel_rfl))⟩
  f23 := ⟨"slices.choosePivotCmpFunc[lamella/api.Node]", by kernel_rfl, Tryz.func138.trans (congrArg some (by kernel_rfl))⟩
  f24 := ⟨"slices.reverseRangeCmpFunc[lamella/api.Node]", by kernel_rfl, Tryz.func139.trans (congrArg some (by kernel_rfl))⟩
  f25 := ⟨"slices.partialInsertionSortCmpFunc[lamella/api.Node]", by kernel_rfl, Tryz.func140.trans (congrArg some (by kernel_rfl))⟩
  f26 := ⟨"slices.partitionEqualCmpFunc[lamella/api.Node]", by kernel_rfl, Tryz.func141.trans (congrArg some (by kernel_rfl))⟩
  f27 := ⟨"slices.partitionCmpFunc[lamella/api.Node]", by kernel_rfl, Tryz.func142.trans (congrArg some (by kernel_rfl))⟩
  f28 := Tryz.func143.trans (congrArg some (by kernel_rfl))
  f29 := Tryz.func144.trans (congrArg some (by kernel_rfl))
  f46 := ⟨"slices.siftDownCmpFunc[lamella/api.Node]", by kernel_rfl, Tryz.func158.trans (congrArg some (by kernel_rfl))⟩
  f47 := Tryz.func159.trans (congrArg some (by kernel_rfl))
  f48 := Tryz.func160.trans (congrArg some (by kernel_rfl))
  f49 := ⟨"slices.medianAdjacentCmpFunc[lamella/api.Node]", by kernel_rfl, Tryz.func161.trans (congrArg some (by kernel_rfl))⟩
  f50 := ⟨"slices.medianCmpFunc[lamella/api.Node]", by kernel_rfl, Tryz.func162.trans (congrArg some (by kernel_rfl))⟩
  f57 := ⟨"slices.order2CmpFunc[lamella/api.Node]", by kernel_rfl, Tryz.func172.trans (congrArg some (by kernel_rfl))⟩
  t0 := Tryz.underlying0
  a0 := Tryz.isAgg0
  z0 := Tryz.sizeOf0
  v0 := Tryz.zeroValue0
  t3 := Tryz.underlying3
  a3 := Tryz.isAgg3
  z3 := Tryz.sizeOf3
  v3 := Tryz.zeroValue3
  t4 := Tryz.underlying4
  a4 := Tryz.isAgg4
  z4 := Tryz.sizeOf4
  v4 := Tryz.zeroValue4
  t5 := Tryz.underlying5
  a5 := Tryz.isAgg5
  z5 := Tryz.sizeOf5
  v5 := Tryz.zeroValue5
  t9 := Tryz.underlying9
  a9 := Tryz.isAgg9
  z9 := Tryz.sizeOf9
  v9 := Tryz.zeroValue9
  t22 := Tryz.underlying48
  a22 := Tryz.isAgg48
  z22 := Tryz.sizeOf48
  v22 := Tryz.zeroValue48
  t25 := Tryz.underlying106
  a25 := Tryz.isAgg106
  z25 := Tryz.sizeOf106
  v25 := Tryz.zeroValue106
  t39 := Tryz.underlying139
  a39 := Tryz.isAgg139
  z39 := Tryz.sizeOf139
  v39 := Tryz.zeroValue139
  t45 := Tryz.underlying167
  a45 := Tryz.isAgg167
  z45 := Tryz.sizeOf167
  v45 := Tryz.zeroValue167
  t46 := Tryz.underlying168
  a46 := Tryz.isAgg168
  z46 := Tryz.sizeOf168
  v46 := Tryz.zeroValue168
  t50 := Tryz.underlying101
  a50 := Tryz.isAgg101
  z50 := Tryz.sizeOf101
  v50 := Tryz.zeroValue101
  t53 := Tryz.underlying174
  a53 := Tryz.isAgg174
  z53 := Tryz.sizeOf174
  v53 := Tryz.zeroValue174
  t55 := Tryz.underlying176
  a55 := Tryz.isAgg176
  z55 := Tryz.sizeOf176
  v55 := Tryz.zeroValue176
  t66 := Tryz.underlying185
  a66 := Tryz.isAgg185
  z66 := Tryz.sizeOf185
  v66 := Tryz.zeroValue185
  t70 := Tryz.underlying189
  a70 := Tryz.isAgg189
  z70 := Tryz.sizeOf189
  v70 := Tryz.zeroValue189
  t76 := Tryz.underlying204
  a76 := Tryz.isAgg204
  z76 := Tryz.sizeOf204
  v76 := Tryz.zeroValue204
  t77 := Tryz.underlying205
  a77 := Tryz.isAgg205
  z77 := Tryz.sizeOf205
  v77 := Tryz.zeroValue205
}
theorem Tryz.sortC : SortC Tryz.prog 63 64 10 := fun enc hk h1 cf hO blk off cap d w hcmp hH hblk hsz =>
  AnyQ.slices_SortFunc Tryz.sortN 10 Tryz.isAgg36 Tryz.sizeOf36 enc hk h1 cf hO 64 #[] blk off cap d w (enters_of Tryz.func64 (by kernel_rfl) rfl) hcmp hH hblk hsz
theorem Tryz.sort0 (p : Option Addr) (cap : Nat) (fv : Value) (w : World) : Calls Tryz.prog 63 #[.slice p 0 cap, fv] w fun e w' => e = .returned (.tuple #[]) ∧ w' = w := AnyF.slices_SortFunc_none { Tryz.sortN with } p cap fv w
theorem Tryz.cmpC : CmpC Tryz.prog 64 := Tryz.fill1
end Go.Proofs

namespace Go.Lm
open Go Go.RowKit
section
variable {α : Type}
end
end Go.Lm

namespace Go.Lm
open Go Go.RowKit
section
variable {Y : UpY}
def goodN (n : NoD) : Prop := n.1 = [] ∧ ((n.2.2.1 = 1 ∨ n.2.2.2.2.2.2.2.1 = false) ∧ mayN n = true)
theorem dirE_setN {r : Int} {f : NoD → NoD} (hf : ∀ n, (f n).2.1 = n.2.1) (hk : ∀ n, (f n).2.2.1 = n.2.2.1) (x : Int) : ({ Y with L := setN Y.L r f } : UpY).dirE x = Y.dirE x := by
  unfold UpY.dirE
  rw [at_setN hf]
  cases Y.at x with
  | none => rfl
  | some n =>
    simp only [Option.map_some]
    cases isI r n <;> simp [hk]
theorem atE_setN {r : Int} {f : NoD → NoD} (hf : ∀ n, (f n).2.1 = n.2.1) (x : Int) : ({ Y with L := setN Y.L r f } : UpY).atE x = Y.atE x := by
  unfold UpY.atE
  rw [at_setN hf]
  cases Y.at x <;> rfl
theorem setN_mem {r : Int} {f : NoD → NoD} {L : List NoD} {n : NoD} (h : n ∈ setN L r f) : ∃ n0 ∈ L, (n0.2.1 = r ∧ n = f n0) ∨ n = n0 := by
  unfold setN at h
  obtain ⟨n0, h0, rfl⟩ := List.mem_map.1 h
  refine ⟨n0, h0, ?_⟩
  cases q : isI r n0 with
  | true => exact .inl ⟨by simpa [isI] using q, rfl⟩
  | false => exact .inr rfl
theorem UpY.Wf.setN (w : Y.Wf) {r : Int} {f : NoD → NoD} (hf : ∀ n, (f n).2.1 = n.2.1) (hk : ∀ n, (f n).2.2.1 = n.2.2.1) (hg : ∀ n ∈ Y.L, n.2.1 = r → goodN (f n)) : ({ Y with L := Lm.setN Y.L r f } : UpY).Wf where
  nd := by
    show ((Lm.setN Y.L r f).map (·.2.1)).Nodup
    rw [setN_inos hf]; exact w.nd
  lo := fun n hn => by
    obtain ⟨n0, h0, ⟨_, rfl⟩ | rfl⟩ := setN_mem hn
    · rw [hf]; exact w.lo n0 h0
    · exact w.lo n h0
  root := by rw [dirE_setN hf hk]; exact w.root
  nm := fun n hn => by
    obtain ⟨n0, h0, ⟨h1, rfl⟩ | rfl⟩ := setN_mem hn
    · exact hg n0 h0 h1
    · exact w.nm n h0
  ne := w.ne
  dir := fun e he => by rw [dirE_setN hf hk]; exact w.dir e he
  ref := fun e he => by rw [atE_setN hf]; exact w.ref e he
  has := fun n hn h1 => by
    obtain ⟨n0, h0, ⟨_, rfl⟩ | rfl⟩ := setN_mem hn
    · rw [hf] at h1 ⊢; exact w.has n0 h0 h1
    · exact w.has n h0 h1
  one := fun e he h => by
    rw [dirE_setN hf hk] at h; exact w.one e he h
  dep := by
    obtain ⟨d, hd⟩ := w.dep
    exact ⟨d, fun e he h => by rw [dirE_setN hf hk] at h; exact hd e he h⟩
theorem mayN_setA {n : NoD} {a : AtD} (hn : mayN n = true) (hk : n.2.2.1 ≠ 4) (ha : mayA a = true) : mayN (n.setA a) = true := by
  unfold mayN at hn ⊢
  rw [if_neg hk] at hn
  rw [if_neg (show ¬ (n.setA a).2.2.1 = 4 from hk)]
  unfold mayT NoD.setO NoD.setA at *
  simp only at hn ⊢
  have ha : may3 a.1 a.2.1 a.2.2.1 = true := ha
  by_cases h1 : n.2.2.1 = 1
  · simp only [h1, if_true, Bool.and_eq_true] at hn ⊢
    exact ⟨⟨hn.1.1, ha⟩, hn.2⟩
  · by_cases h2 : n.2.2.1 = 2
    · simp only [h2, show ¬ (2 : Int) = 1 by decide, if_true, if_false, Bool.and_eq_true] at hn ⊢
      exact ⟨⟨hn.1.1, ha⟩, hn.2⟩
    · by_cases h3 : n.2.2.1 = 3
      · simp only [h3, show ¬ (3 : Int) = 1 by decide, show ¬ (3 : Int) = 2 by decide, if_true, if_false, Bool.and_eq_true] at hn ⊢
        exact ⟨⟨hn.1.1, ha⟩, hn.2⟩
      · simp only [h1, h2, h3, if_false] at hn
        cases hn
theorem mayN_setX {n : NoD} {x : List XaD} (hn : mayN n = true) (hk : n.2.2.1 ≠ 4) (hx : xattrsB x = true) : mayN (n.setX x) = true := by
  unfold mayN at hn ⊢
  rw [if_neg hk] at hn
  rw [if_neg (show ¬ (n.setX x).2.2.1 = 4 from hk)]
  unfold mayT NoD.setO NoD.setX at *
  simp only at hn ⊢
  by_cases h1 : n.2.2.1 = 1
  · simp only [h1, if_true, Bool.and_eq_true] at hn ⊢
    exact ⟨hn.1, hx⟩
  · by_cases h2 : n.2.2.1 = 2
    · simp only [h2, show ¬ (2 : Int) = 1 by decide, if_true, if_false, Bool.and_eq_true] at hn ⊢
      exact ⟨hn.1, hx⟩
    · by_cases h3 : n.2.2.1 = 3
      · simp only [h3, show ¬ (3 : Int) = 1 by decide, show ¬ (3 : Int) = 2 by decide, if_true, if_false, Bool.and_eq_true] at hn ⊢
        exact ⟨hn.1, hx⟩
      · simp only [h1, h2, h3, if_false] at hn
        cases hn
structure UpY.OkN (Y : UpY) (n : Nat) : Prop where
  wf : Y.Wf
  en : Y.E.length ≤ n
  nb : Y.nx ≤ n + 2
theorem UpY.OkN.ok {n : Nat} (h : Y.OkN n) (hn : n ≤ 1000000) : Y.Ok := ⟨h.wf, by have := h.en; omega, by have := h.nb; omega⟩
theorem UpY.OkN.le {n m : Nat} (h : Y.OkN n) (hn : n ≤ m) : Y.OkN m := ⟨h.wf, by have := h.en; omega, by have := h.nb; omega⟩
theorem new_okN (a b : Int) : (UpY.new a b).OkN 0 := ⟨new_wf a b, Nat.le_refl _, by show (2 : Int) ≤ _; omega⟩
theorem UpY.OkN.setN {n : Nat} (h : Y.OkN n) {r : Int} {f : NoD → NoD} (hf : ∀ n, (f n).2.1 = n.2.1) (hk : ∀ n, (f n).2.2.1 = n.2.2.1) (hg : ∀ n ∈ Y.L, n.2.1 = r → goodN (f n)) : ({ Y with L := Lm.setN Y.L r f } : UpY).OkN n := ⟨h.wf.setN hf hk hg, h.en, h.nb⟩
theorem okN_setAttr {n : Nat} (h : Y.OkN n) (r : Int) (a : AtD) : (Y.setAttrY r a).OkN n := by
  unfold UpY.setAttrY
  split
  · rename_i h0
    refine h.setN (fun _ => rfl) (fun _ => rfl) fun y hy hr => ?_
    have hat : Y.at r = some y := by rw [← hr]; exact at_of_mem h.wf hy
    unfold UpY.setAttrE at h0
    rw [hat] at h0
    simp only at h0
    split at h0
    · cases h0
    · rename_i h1
      obtain ⟨g1, g2, g3⟩ := h.wf.nm y hy
      refine ⟨g1, g2, mayN_setA g3 (fun q => h1 (.inl q)) ?_⟩
      cases hm : mayA a with
      | true => rfl
      | false => exact absurd (.inr hm) h1
  · exact h
theorem okN_setXattrs {n : Nat} (h : Y.OkN n) (r : Int) (x : List XaD) : (Y.setXattrsY r x).OkN n := by
  unfold UpY.setXattrsY
  split
  · rename_i h0
    refine h.setN (fun _ => rfl) (fun _ => rfl) fun y hy hr => ?_
    have hat : Y.at r = some y := by rw [← hr]; exact at_of_mem h.wf hy
    unfold UpY.setXattrsE at h0
    rw [hat] at h0
    simp only at h0
    split at h0
    · cases h0
    · rename_i h1
      obtain ⟨g1, g2, g3⟩ := h.wf.nm y hy
      refine ⟨g1, g2, mayN_setX g3 (fun q => h1 (.inl q)) ?_⟩
      cases hm : xattrsB x with
      | true => rfl
      | false => exact absurd (.inr hm) h1
  · exact h
theorem okN_setOpaque {n : Nat} (h : Y.OkN n) (r : Int) (q : Bool) : (Y.setOpaqueY r q).OkN n := by
  unfold UpY.setOpaqueY
  split
  · rename_i h0
    refine h.setN (fun _ => rfl) (fun _ => rfl) fun y hy hr => ?_
    have hat : Y.at r = some y := by rw [← hr]; exact at_of_mem h.wf hy
    obtain ⟨y', hy', hk⟩ := dirE_zero.1 h0
    rw [hat] at hy'
    obtain rfl := Option.some.inj hy'
    obtain ⟨g1, g2, g3⟩ := h.wf.nm y hy
    exact ⟨g1, .inl hk, g3⟩
  · exact h
theorem freshE_zero {d : Int} {s : ByteArray} (h : Y.freshE d s = 0) : Y.dirE d = 0 ∧ validN s = 0 ∧ Y.ent d s = none := by
  unfold UpY.freshE at h
  split at h
  · rename_i h1
    split at h
    · rename_i h2
      cases hx : Y.ent d s with
      | none => exact ⟨h1, h2, rfl⟩
      | some e => rw [hx] at h; cases h
    · rename_i h2; exact absurd h h2
  · rename_i h1; exact absurd h h1
theorem ne_app {E : List EnD} (h : (E.map fun e => (e.1, e.2.1)).Nodup) {d : Int} {s : ByteArray} {r : Int} (hn : ∀ e ∈ E, ¬ (e.1 = d ∧ e.2.1 = s)) : ((E ++ [(d, s, r, ())]).map fun e => (e.1, e.2.1)).Nodup := by
  rw [List.map_append]
  refine List.nodup_append.2 ⟨h, by simp, fun a ha b hb => ?_⟩
  have hb : b = (d, s) := by simpa using hb
  subst hb
  obtain ⟨e, he, rfl⟩ := List.mem_map.1 ha
  exact fun q => hn e he ⟨congrArg Prod.fst q, congrArg Prod.snd q⟩
theorem atE_zero {r : Int} : Y.atE r = 0 ↔ ∃ y, Y.at r = some y := by
  unfold UpY.atE
  cases Y.at r <;> simp
theorem UpY.Wf.make (w : Y.Wf) {d : Int} {s : ByteArray} {x : NoD} (hd : Y.dirE d = 0) (hs : validN s = 0) (hn : Y.ent d s = none) (hm : mayN x = true) : ({ Y with L := Y.L ++ [Y.newN x], E := Y.E ++ [(d, s, Y.nx, ())], nx := Y.nx + 1 } : UpY).Wf := by
  have hnx := nx_none w
  have hp := nx_pos w
  have old : ∀ {z y}, Y.at z = some y → ({ Y with L := Y.L ++ [Y.newN x], E := Y.E ++ [(d, s, Y.nx, ())], nx := Y.nx + 1 } : UpY).at z = some y := fun h => at_app_old h _ _
  have dold : ∀ {z}, Y.dirE z = 0 → ({ Y with L := Y.L ++ [Y.newN x], E := Y.E ++ [(d, s, Y.nx, ())], nx := Y.nx + 1 } : UpY).dirE z = 0 := fun h => by
    obtain ⟨y, hy, hk⟩ := dirE_zero.1 h
    exact dirE_zero.2 ⟨y, old hy, hk⟩
  have dback : ∀ {e}, e ∈ Y.E → ({ Y with L := Y.L ++ [Y.newN x], E := Y.E ++ [(d, s, Y.nx, ())], nx := Y.nx + 1 } : UpY).dirE e.2.2.1 = 0 → Y.dirE e.2.2.1 = 0 := fun he h => by
    obtain ⟨y, hy⟩ := at_ref w he
    obtain ⟨y', hy', hk⟩ := dirE_zero.1 h
    rw [old hy] at hy'
    obtain rfl := Option.some.inj hy'
    exact dirE_zero.2 ⟨y, hy, hk⟩
  have noref : ∀ e ∈ Y.E, e.2.2.1 ≠ Y.nx := fun e he q => by
    obtain ⟨y1, h1⟩ := at_ref w he
    rw [q, hnx] at h1; cases h1
  have nodir : ∀ e ∈ Y.E, e.1 ≠ Y.nx := fun e he q => by
    obtain ⟨y1, h1, _⟩ := at_dir w he
    rw [q, hnx] at h1; cases h1
  have hdn : d ≠ Y.nx := fun q => by
    obtain ⟨y, hy, _⟩ := dirE_zero.1 hd
    rw [q, hnx] at hy; cases hy
  refine ⟨?_, ?_, dold w.root, ?_, ne_app w.ne (ent_none.1 hn), ?_, ?_, ?_, ?_, ?_⟩
  · show ((Y.L ++ [Y.newN x]).map (·.2.1)).Nodup
    rw [List.map_append]
    refine List.nodup_append.2 ⟨w.nd, by simp, fun a ha b hb => ?_⟩
    have hb : b = Y.nx := List.mem_singleton.1 hb
    obtain ⟨n, hn, rfl⟩ := List.mem_map.1 ha
    have := (w.lo n hn).2
    omega
  · intro n hn
    show 1 ≤ n.2.1 ∧ n.2.1 < Y.nx + 1
    rcases List.mem_append.1 hn with hn | hn
    · have := w.lo n hn; omega
    · have : n = Y.newN x := by simpa using hn
      subst this
      show 1 ≤ Y.nx ∧ Y.nx < Y.nx + 1
      omega
  · intro n hn
    rcases List.mem_append.1 hn with hn | hn
    · exact w.nm n hn
    · have : n = Y.newN x := by simpa using hn
      subst this
      exact ⟨rfl, .inr rfl, hm⟩
  · intro e he
    rcases List.mem_append.1 he with he | he
    · exact ⟨dold (w.dir e he).1, (w.dir e he).2⟩
    · have : e = (d, s, Y.nx, ()) := by simpa using he
      subst this
      exact ⟨dold hd, hs⟩
  · intro e he
    rcases List.mem_append.1 he with he | he
    · obtain ⟨h1, h2⟩ := w.ref e he
      obtain ⟨y, hy⟩ := atE_zero.1 h2
      exact ⟨h1, atE_zero.2 ⟨y, old hy⟩⟩
    · have : e = (d, s, Y.nx, ()) := by simpa using he
      subst this
      exact ⟨by show Y.nx ≠ 1; omega, atE_zero.2 ⟨_, at_app_new hnx rfl _ _⟩⟩
  · intro n hn h1
    show (Y.E ++ [(d, s, Y.nx, ())]).any (toR n.2.1) = true
    rw [List.any_append]
    rcases List.mem_append.1 hn with hn | hn
    · rw [w.has n hn h1]; rfl
    · have : n = Y.newN x := by simpa using hn
      subst this
      have : toR (Y.newN x).2.1 (d, s, Y.nx, ()) = true := by unfold toR; exact beq_self_eq_true _
      simp [this]
  · intro e he h
    show (Y.E ++ [(d, s, Y.nx, ())]).countP (toR e.2.2.1) = 1
    rw [cnt_app]
    rcases List.mem_append.1 he with he | he
    · rw [if_neg (Ne.symm (noref e he)), w.one e he (dback he h)]
    · have : e = (d, s, Y.nx, ()) := by simpa using he
      subst this
      rw [if_pos rfl, List.countP_eq_zero.2 fun e he => by simpa [toR] using noref e he]
  · obtain ⟨dp, hdp⟩ := w.dep
    refine ⟨fun z => if z = Y.nx then dp d + 1 else dp z, fun e he h => ?_⟩
    rcases List.mem_append.1 he with he | he
    · simp only [if_neg (nodir e he), if_neg (noref e he)]
      exact hdp e he (dback he h)
    · have : e = (d, s, Y.nx, ()) := by simpa using he
      subst this
      simp only [if_neg hdn, if_pos]
      omega
theorem okN_make {n : Nat} (h : Y.OkN n) (d : Int) (s : ByteArray) (x : NoD) : (Y.makeY d s x).OkN (n + 1) := by
  unfold UpY.makeY
  split
  · rename_i h0
    unfold UpY.makeE at h0
    split at h0
    · rename_i hf
      obtain ⟨h1, h2, h3⟩ := freshE_zero hf
      split at h0
      · rename_i hm
        refine ⟨h.wf.make h1 h2 h3 hm, ?_, ?_⟩
        · show (Y.E ++ [_]).length ≤ _
          have := h.en
          simp; omega
        · show Y.nx + 1 ≤ _
          have := h.nb
          omega
      · cases h0
    · rename_i hf; exact absurd h0 hf
  · exact h.le (Nat.le_succ n)
theorem UpY.Wf.link (w : Y.Wf) {d r : Int} {s : ByteArray} {y : NoD} (hd : Y.dirE d = 0) (hs : validN s = 0) (hn : Y.ent d s = none) (hy : Y.at r = some y) (hk : y.2.2.1 ≠ 1) : ({ Y with E := Y.E ++ [(d, s, r, ())] } : UpY).Wf := by
  have hnd : Y.dirE r ≠ 0 := fun q => by
    obtain ⟨y', hy', hk'⟩ := dirE_zero.1 q
    rw [hy] at hy'
    obtain rfl := Option.some.inj hy'
    exact hk hk'
  have hr1 : r ≠ 1 := fun q => hnd (by rw [q]; exact w.root)
  refine ⟨w.nd, w.lo, w.root, w.nm, ne_app w.ne (ent_none.1 hn), fun e he => ?_, fun e he => ?_, fun n hn h1 => ?_, fun e he h => ?_, ?_⟩
  · rcases List.mem_append.1 he with he | he
    · exact w.dir e he
    · have : e = (d, s, r, ()) := by simpa using he
      subst this
      exact ⟨hd, hs⟩
  · rcases List.mem_append.1 he with he | he
    · exact w.ref e he
    · have : e = (d, s, r, ()) := by simpa using he
      subst this
      exact ⟨hr1, atE_zero.2 ⟨y, hy⟩⟩
  · show (Y.E ++ [(d, s, r, ())]).any (toR n.2.1) = true
    rw [List.any_append, w.has n hn h1]; rfl
  · have h : Y.dirE e.2.2.1 = 0 := h
    show (Y.E ++ [(d, s, r, ())]).countP (toR e.2.2.1) = 1
    rcases List.mem_append.1 he with he | he
    · rw [cnt_app, if_neg (fun q => hnd (by rw [q]; exact h)), w.one e he h]
    · have : e = (d, s, r, ()) := by simpa using he
      subst this
      exact absurd h hnd
  · obtain ⟨dp, hdp⟩ := w.dep
    refine ⟨dp, fun e he h => ?_⟩
    have h : Y.dirE e.2.2.1 = 0 := h
    rcases List.mem_append.1 he with he | he
    · exact hdp e he h
    · have : e = (d, s, r, ()) := by simpa using he
      subst this
      exact absurd h hnd
theorem linkE_zero {d r : Int} {s : ByteArray} (h : Y.linkE d s r = 0) : ∃ y, Y.at r = some y ∧ y.2.2.1 ≠ 1 ∧ Y.freshE d s = 0 := by
  unfold UpY.linkE at h
  split at h
  · rename_i y _ h1 _
    split at h
    · rename_i hf
      split at h
      · cases h
      · rename_i hk; exact ⟨y, h1, hk, hf⟩
    · rename_i hf; exact absurd h hf
  · cases h
theorem okN_link {n : Nat} (h : Y.OkN n) (d : Int) (s : ByteArray) (r : Int) : (Y.linkY d s r).OkN (n + 1) := by
  unfold UpY.linkY
  split
  · rename_i h0
    obtain ⟨y, hy, hk, hf⟩ := linkE_zero h0
    obtain ⟨h1, h2, h3⟩ := freshE_zero hf
    refine ⟨h.wf.link h1 h2 h3 hy hk, ?_, ?_⟩
    · show (Y.E ++ [_]).length ≤ _
      have := h.en
      simp; omega
    · show Y.nx ≤ _
      have := h.nb
      omega
  · exact h.le (Nat.le_succ n)
theorem at_gone {E' : List EnD} {z : Int} {y : NoD} (h : ({ Y with L := Y.L.filter fun n => isI 1 n || E'.any (toR n.2.1), E := E' } : UpY).at z = some y) (w : Y.Wf) : Y.at z = some y := by
  obtain ⟨h1, h2⟩ := at_mem h
  rw [← h2]
  exact at_of_mem w (List.mem_filter.1 h1).1
theorem goneE_sub {d : Int} {s : ByteArray} {r : Int} {e : EnD} (h : e ∈ Y.goneE d s r) : e ∈ Y.E := by
  unfold UpY.goneE at h
  simp only at h
  split at h
  · exact (List.mem_filter.1 h).1
  · exact (List.mem_filter.1 (List.mem_filter.1 h).1).1
theorem goneE_sl (d : Int) (s : ByteArray) (r : Int) : (Y.goneE d s r).Sublist Y.E := by
  unfold UpY.goneE
  simp only
  split
  · exact List.filter_sublist
  · exact List.filter_sublist.trans List.filter_sublist
theorem UpY.Wf.remove (w : Y.Wf) {d : Int} {s : ByteArray} {e : EnD} (he : Y.ent d s = some e) (hw : Y.whites e.2.2.1 = true) : ({ Y with L := Y.goneL d s e.2.2.1, E := Y.goneE d s e.2.2.1 } : UpY).Wf := by
  obtain ⟨he1, he2, he3⟩ := ent_mem he
  have sub : ∀ {e'}, e' ∈ Y.goneE d s e.2.2.1 → e' ∈ Y.E := goneE_sub
  have keep : ∀ {z y}, Y.at z = some y → (z = 1 ∨ (Y.goneE d s e.2.2.1).any (toR z) = true) → ({ Y with L := Y.goneL d s e.2.2.1, E := Y.goneE d s e.2.2.1 } : UpY).at z = some y := fun h1 h2 => at_less h1 h2
  have back : ∀ {z}, ({ Y with L := Y.goneL d s e.2.2.1, E := Y.goneE d s e.2.2.1 } : UpY).dirE z = 0 → Y.dirE z = 0 := fun h => by
    obtain ⟨y, hy, hk⟩ := dirE_zero.1 h
    exact dirE_zero.2 ⟨y, at_gone hy w, hk⟩
  have toSelf : ∀ {e'}, e' ∈ Y.goneE d s e.2.2.1 → (Y.goneE d s e.2.2.1).any (toR e'.2.2.1) = true := fun h => List.any_eq_true.2 ⟨_, h, by unfold toR; exact beq_self_eq_true _⟩
  -- a directory that still has something in it is still there
  have hdir : ∀ {e'}, e' ∈ Y.goneE d s e.2.2.1 → e'.1 = 1 ∨ (Y.goneE d s e.2.2.1).any (toR e'.1) = true := fun {e'} h' => by
    by_cases h1 : e'.1 = 1
    · exact .inl h1
    right
    obtain ⟨y, hy, hk⟩ := at_dir w (sub h')
    have hh := w.has y (at_mem hy).1 (by rw [(at_mem hy).2]; exact h1)
    rw [(at_mem hy).2] at hh
    obtain ⟨ep, hep, hpr⟩ := List.any_eq_true.1 hh
    have hpr' : ep.2.2.1 = e'.1 := by simpa [toR] using hpr
    have hdp : Y.dirE ep.2.2.1 = 0 := by rw [hpr']; exact dirE_zero.2 ⟨y, hy, hk⟩
    have notX : ofD e.2.2.1 ep = false := by
      cases hq : ofD e.2.2.1 ep with
      | false => rfl
      | true =>
        have := List.all_eq_true.1 hw ep hep
        rw [hq] at this
        have h4 : Y.kindOf ep.2.2.1 = 4 := by simpa using this
        unfold UpY.kindOf at h4
        rw [hpr', hy] at h4
        simp only at h4
        rw [hk] at h4; cases h4
    unfold UpY.goneE at h' ⊢
    simp only at h' ⊢
    by_cases hx : ep = e
    · subst hx
      have c0 := cnt_del w he ep.2.2.1
      rw [if_pos rfl, w.one ep hep hdp] at c0
      have hno : ((Y.E.filter fun e => !isE d s e).any (toR ep.2.2.1)) = false := by
        cases hq : (Y.E.filter fun e => !isE d s e).any (toR ep.2.2.1) with
        | false => rfl
        | true => have := any_cnt.1 hq; omega
      rw [if_neg (by rw [hno]; decide)] at h'
      have := (List.mem_filter.1 h').2
      unfold ofD at this
      rw [hpr'] at this
      simp at this
    · have hin : ep ∈ Y.E.filter fun e => !isE d s e := by
        refine List.mem_filter.2 ⟨hep, ?_⟩
        cases hq : isE d s ep with
        | false => rfl
        | true =>
          obtain ⟨E1, E2, g1, g2⟩ := del_split w he
          have : ep ∈ Y.E.filter fun e => !isE d s e := by
            rw [g2]
            rw [g1] at hep
            rcases List.mem_append.1 hep with h | h
            · exact List.mem_append_left _ h
            · rcases List.mem_cons.1 h with h | h
              · exact absurd h hx
              · exact List.mem_append_right _ h
          have := (List.mem_filter.1 this).2
          rw [hq] at this; exact this
      split
      · exact List.any_eq_true.2 ⟨ep, hin, hpr⟩
      · exact List.any_eq_true.2 ⟨ep, List.mem_filter.2 ⟨hin, by rw [notX]; rfl⟩, hpr⟩
  refine ⟨(List.filter_sublist.map _).nodup w.nd, fun n hn => w.lo n (List.mem_filter.1 hn).1, ?_, fun n hn => w.nm n (List.mem_filter.1 hn).1, ((goneE_sl d s e.2.2.1).map _).nodup w.ne, fun e' h' => ?_, fun e' h' => ?_, fun n hn h1 => ?_, fun e' h' h => ?_, ?_⟩
  · obtain ⟨y, hy, hk⟩ := dirE_zero.1 w.root
    exact dirE_zero.2 ⟨y, keep hy (.inl rfl), hk⟩
  · obtain ⟨y, hy, hk⟩ := at_dir w (sub h')
    exact ⟨dirE_zero.2 ⟨y, keep hy (hdir h'), hk⟩, (w.dir e' (sub h')).2⟩
  · obtain ⟨y, hy⟩ := at_ref w (sub h')
    exact ⟨(w.ref e' (sub h')).1, atE_zero.2 ⟨y, keep hy (.inr (toSelf h'))⟩⟩
  · have h2 := (List.mem_filter.1 hn).2
    have : isI 1 n = false := by simpa [isI] using h1
    rw [this] at h2
    simpa using h2
  · have h1 := w.one e' (sub h') (back h)
    have h2 : (Y.goneE d s e.2.2.1).countP (toR e'.2.2.1) ≤ Y.E.countP (toR e'.2.2.1) := (goneE_sl d s e.2.2.1).countP_le
    have h3 := any_cnt.1 (toSelf h')
    show (Y.goneE d s e.2.2.1).countP (toR e'.2.2.1) = 1
    omega
  · obtain ⟨dp, hdp⟩ := w.dep
    exact ⟨dp, fun e' h' h => hdp e' (sub h') (back h)⟩
theorem removeE_zero {d : Int} {s : ByteArray} (h : Y.removeE d s = 0) : ∃ e, Y.ent d s = some e ∧ Y.dirE d = 0 ∧ Y.whites e.2.2.1 = true := by
  unfold UpY.removeE at h
  split at h
  · rename_i h1
    unfold UpY.lookE at h1
    split at h1
    · rename_i hd
      cases he : Y.ent d s with
      | none => rw [he] at h1; cases h1
      | some e =>
        rw [he] at h
        simp only at h
        split at h
        · rename_i hw; exact ⟨e, rfl, hd, hw⟩
        · cases h
    · rename_i hd; exact absurd h1 hd
  · rename_i h1; exact absurd h h1
theorem okN_remove {n : Nat} (h : Y.OkN n) (d : Int) (s : ByteArray) : (Y.removeY d s).OkN n := by
  unfold UpY.removeY
  split
  · rename_i h0
    obtain ⟨e, he, _, hw⟩ := removeE_zero h0
    rw [he]
    refine ⟨h.wf.remove he hw, ?_, h.nb⟩
    have := (goneE_sl (Y := Y) d s e.2.2.1).length_le
    have := h.en
    show (Y.goneE d s e.2.2.1).length ≤ n
    omega
  · exact h
end
end Go.Lm

namespace Go.Lm
open Go
variable {Y : UpY}
abbrev newF : NoD := ([], 0, 2, (0, 0, 0, ()), [110, 101, 119], ⟨#[]⟩, [], false, ())
theorem goes_there (w : Y.Wf) {s : ByteArray} (h : Y.lookE 1 s = 0) (x : NoD) : Y.makeE 1 s x = 21 := by
  have hr := w.root
  unfold UpY.lookE at h
  rw [if_pos hr] at h
  unfold UpY.makeE UpY.freshE
  rw [if_pos hr]
  cases he : Y.ent 1 s with
  | none => rw [he] at h; cases h
  | some e =>
    have hm : e ∈ Y.E := List.mem_of_find?_eq_some he
    have hi := List.find?_some he
    have hs : e.2.1 = s := by
      unfold isE at hi
      simp at hi
      exact hi.2
    have hv := (w.dir e hm).2
    rw [hs] at hv
    simp [hv]
theorem makeY_not {d : Int} {s : ByteArray} {x : NoD} (h : ¬ Y.makeE d s x = 0) : Y.makeY d s x = Y ∧ Y.makeR d s x = 0 := by
  unfold UpY.makeY UpY.makeR
  rw [if_neg h, if_neg h]
  exact ⟨rfl, rfl⟩
theorem make_ent {s : ByteArray} {x : NoD} (h : Y.makeE 1 s x = 0) : Y.dirE 1 = 0 ∧ validN s = 0 ∧ Y.ent 1 s = none ∧ mayN x = true := by
  unfold UpY.makeE at h
  split at h
  · rename_i hf
    unfold UpY.freshE at hf
    split at hf
    · rename_i hd
      split at hf
      · rename_i hv
        split at hf
        · rename_i he
          refine ⟨hd, hv, he, ?_⟩
          split at h
          · assumption
          · cases h
        · cases hf
      · rename_i hv; exact absurd hf hv
    · rename_i hd; exact absurd hf hd
  · rename_i hf; exact absurd h hf
theorem at_new (w : Y.Wf) {s : ByteArray} {x : NoD} (h : Y.makeE 1 s x = 0) : (Y.makeY 1 s x).at Y.nx = some (Y.newN x) := by
  unfold UpY.makeY
  rw [if_pos h]
  unfold UpY.at
  simp only
  rw [List.find?_append, List.find?_eq_none.2]
  · simp [isI, UpY.newN]
  · intro n hn
    have := (w.lo n hn).2
    simp [isI]; omega
theorem ref_lt (w : Y.Wf) {e : EnD} (he : e ∈ Y.E) : e.2.2.1 < Y.nx := by
  have h := (w.ref e he).2
  unfold UpY.atE at h
  cases hy : Y.at e.2.2.1 with
  | none => rw [hy] at h; cases h
  | some y =>
    obtain ⟨hm, hr⟩ := at_mem hy
    rw [← hr]; exact (w.lo y hm).2
theorem dir_lt (w : Y.Wf) {e : EnD} (he : e ∈ Y.E) : e.1 < Y.nx := by
  have h := (w.dir e he).1
  unfold UpY.dirE at h
  cases hy : Y.at e.1 with
  | none => rw [hy] at h; cases h
  | some y =>
    obtain ⟨hm, hr⟩ := at_mem hy
    rw [← hr]; exact (w.lo y hm).2
theorem goes_back (w : Y.Wf) (hn : 2 ≤ Y.nx) {s : ByteArray} {x : NoD} (h : Y.makeE 1 s x = 0) :
    (Y.makeY 1 s x).removeE 1 s = 0 ∧ ((Y.makeY 1 s x).removeY 1 s).L = Y.L ∧ ((Y.makeY 1 s x).removeY 1 s).E = Y.E := by
  have hr := (okN_make (n := Y.E.length + Y.nx.toNat) ⟨w, by omega, by omega⟩ 1 s x).wf.root
  obtain ⟨_, _, he, _⟩ := make_ent h
  have e1 : Y.makeY 1 s x = { Y with L := Y.L ++ [Y.newN x], E := Y.E ++ [(1, s, Y.nx, ())], nx := Y.nx + 1 } := by unfold UpY.makeY; rw [if_pos h]
  have hno : ∀ e ∈ Y.E, isE 1 s e = false := fun e hm => by
    have := List.find?_eq_none.1 he e hm
    simpa using this
  have hent : (Y.makeY 1 s x).ent 1 s = some (1, s, Y.nx, ()) := by
    rw [e1]
    unfold UpY.ent
    simp only
    rw [List.find?_append, List.find?_eq_none.2 (fun e hm => by rw [hno e hm]; simp)]
    simp [isE]
  have hw : (Y.makeY 1 s x).whites Y.nx = true := by
    unfold UpY.whites
    rw [List.all_eq_true]
    intro e hm
    have hne : e.1 ≠ Y.nx := by
      rw [e1] at hm
      rcases List.mem_append.1 hm with hm | hm
      · have := dir_lt w hm; omega
      · obtain rfl : e = (1, s, Y.nx, ()) := by simpa using hm
        show (1 : Int) ≠ _; omega
    have : ofD Y.nx e = false := by unfold ofD; simpa using hne
    rw [this]; rfl
  have hrem : (Y.makeY 1 s x).removeE 1 s = 0 := by
    unfold UpY.removeE UpY.lookE
    rw [if_pos hr, hent]
    simp [hw]
  have hgE : (Y.makeY 1 s x).goneE 1 s Y.nx = Y.E := by
    unfold UpY.goneE
    have f1 : (Y.makeY 1 s x).E.filter (fun e => !isE 1 s e) = Y.E := by
      rw [e1]
      simp only
      rw [List.filter_append, List.filter_eq_self.2 (fun e hm => by rw [hno e hm]; rfl)]
      simp [isE]
    simp only [f1]
    have f2 : Y.E.any (toR Y.nx) = false := by
      rw [List.any_eq_false]
      intro e hm
      have := ref_lt w hm
      unfold toR
      simp; omega
    rw [f2]
    simp only [Bool.false_eq_true, if_false]
    refine List.filter_eq_self.2 fun e hm => ?_
    have := dir_lt w hm
    unfold ofD
    simp; omega
  have hgL : (Y.makeY 1 s x).goneL 1 s Y.nx = Y.L := by
    unfold UpY.goneL
    rw [hgE, e1]
    simp only
    rw [List.filter_append, List.filter_eq_self.2, List.filter_eq_nil_iff.2, List.append_nil]
    · intro n hm
      obtain rfl : n = Y.newN x := by simpa using hm
      have f2 : Y.E.any (toR Y.nx) = false := by
        rw [List.any_eq_false]
        intro e hm
        have := ref_lt w hm
        unfold toR
        simp; omega
      have : isI 1 (Y.newN x) = false := by unfold isI UpY.newN; simp; omega
      rw [this]
      show ¬ (false || Y.E.any (toR Y.nx)) = true
      rw [f2]; simp
    · intro n hm
      by_cases h1 : n.2.1 = 1
      · have : isI 1 n = true := by unfold isI; simpa using h1
        rw [this]; rfl
      · rw [w.has n hm h1, Bool.or_true]
  refine ⟨hrem, ?_⟩
  unfold UpY.removeY
  rw [if_pos hrem, hent]
  exact ⟨hgL, hgE⟩
theorem goes_read (w : Y.Wf) {s : ByteArray} (h : Y.makeE 1 s newF = 0) : (Y.makeY 1 s newF).readE Y.nx 0 9 = 0 ∧ (Y.makeY 1 s newF).readD Y.nx 0 9 = [110, 101, 119] ∧ (Y.makeY 1 s newF).atE Y.nx = 0 ∧ (Y.makeY 1 s newF).xattrsD Y.nx = [] := by
  have ha := at_new w h
  have hf : (Y.makeY 1 s newF).fileE Y.nx = 0 := by unfold UpY.fileE; rw [ha]; rfl
  have hr : (Y.makeY 1 s newF).readE Y.nx 0 9 = 0 := by unfold UpY.readE; rw [if_pos hf]; rfl
  refine ⟨hr, ?_, ?_, ?_⟩
  · unfold UpY.readD
    rw [if_pos hr, ha]; rfl
  · unfold UpY.atE; rw [ha]
  · unfold UpY.xattrsD; rw [ha]; rfl
theorem goes_used (w : Y.Wf) (hn : 2 ≤ Y.nx) {s : ByteArray} {x : NoD} (h : Y.makeE 1 s x = 0) : ((Y.makeY 1 s x).removeY 1 s).usedB = Y.usedB ∧ ((Y.makeY 1 s x).removeY 1 s).L.length = Y.L.length := by
  obtain ⟨_, h1, h2⟩ := goes_back w hn h
  unfold UpY.usedB
  rw [h1, h2]
  exact ⟨rfl, rfl⟩
end Go.Lm

namespace Go.Lm
open Go
def UpY.findGo (Y : UpY) : List ByteArray → Int → Int × Int
  | [], r => (r, 0)
  | s :: l, r => if Y.lookE r s = 0 then Y.findGo l (Y.lookD r s).2.2.1 else (0, Y.lookE r s)
def fillR (Y : UpY) (m : List (Int × Int)) (x : NoD) : Int × UpY :=
  if x.1.length = 0 then (1, (Y.setAttrY 1 x.2.2.2.1).setXattrsY 1 x.2.2.2.2.2.2.1)
  else match Kk.get .int m x.2.1 with
    | some r => (r, Y.linkY (Y.findGo (x.1.take (x.1.length - 1)) 1).1 (ixD .str x.1 ((x.1.length : Int) - 1)) r)
    | none => (Y.makeR (Y.findGo (x.1.take (x.1.length - 1)) 1).1 (ixD .str x.1 ((x.1.length : Int) - 1)) x, Y.makeY (Y.findGo (x.1.take (x.1.length - 1)) 1).1 (ixD .str x.1 ((x.1.length : Int) - 1)) x)
def fillY (Y : UpY) (m : List (Int × Int)) (x : NoD) : UpY := if x.2.2.2.2.2.2.2.1 then (fillR Y m x).2.setOpaqueY (fillR Y m x).1 true else (fillR Y m x).2
def fillGo : List NoD → List (Int × Int) → UpY → UpY
  | [], _, Y => Y
  | x :: r, m, Y => fillGo r (Kk.put .int m x.2.1 (fillR Y m x).1) (fillY Y m x)
theorem okN_fillR {Y : UpY} {n : Nat} (h : Y.OkN n) (m : List (Int × Int)) (x : NoD) : (fillR Y m x).2.OkN (n + 1) := by
  unfold fillR
  split
  · exact (okN_setXattrs (okN_setAttr h _ _) _ _).le (Nat.le_succ n)
  · split
    · exact okN_link h _ _ _
    · exact okN_make h _ _ _
theorem okN_fillY {Y : UpY} {n : Nat} (h : Y.OkN n) (m : List (Int × Int)) (x : NoD) : (fillY Y m x).OkN (n + 1) := by
  unfold fillY
  split
  · exact okN_setOpaque (okN_fillR h m x) _ _
  · exact okN_fillR h m x
theorem okN_fill : ∀ (l : List NoD) {Y : UpY} {n : Nat} (m : List (Int × Int)), Y.OkN n → (fillGo l m Y).OkN (n + l.length)
  | [], _, _, _, h => h
  | x :: r, Y, n, m, h => by
    have := okN_fill r (Kk.put .int m x.2.1 (fillR Y m x).1) (okN_fillY h m x)
    rw [List.length_cons]
    exact this.le (by omega)
end Go.Lm

namespace Go.Lm
open Go
variable {Y : UpY}
theorem findGo_cons (s : ByteArray) (l : List ByteArray) (r : Int) : Y.findGo (s :: l) r = if Y.lookE r s = 0 then Y.findGo l (Y.lookD r s).2.2.1 else (0, Y.lookE r s) := rfl
theorem findGo_nil (r : Int) : Y.findGo [] r = (r, 0) := rfl
theorem findGo_append : ∀ (p q : List ByteArray) (r : Int), Y.findGo (p ++ q) r = if (Y.findGo p r).2 = 0 then Y.findGo q (Y.findGo p r).1 else (0, (Y.findGo p r).2)
  | [], q, r => by simp [UpY.findGo]
  | s :: p, q, r => by
    rw [List.cons_append, findGo_cons, findGo_cons]
    by_cases h : Y.lookE r s = 0
    · rw [if_pos h, if_pos h]; exact findGo_append p q _
    · rw [if_neg h, if_neg h, if_neg h]
theorem look_zero {d : Int} {s : ByteArray} : Y.lookE d s = 0 ↔ Y.dirE d = 0 ∧ ∃ e, Y.ent d s = some e := by
  unfold UpY.lookE
  constructor
  · intro h
    split at h
    · rename_i hd
      refine ⟨hd, ?_⟩
      cases he : Y.ent d s with
      | none => rw [he] at h; cases h
      | some e => exact ⟨e, rfl⟩
    · rename_i hd; exact absurd h hd
  · rintro ⟨hd, e, he⟩
    rw [if_pos hd, he]
theorem look_ref {d : Int} {s : ByteArray} {e : EnD} (hd : Y.dirE d = 0) (he : Y.ent d s = some e) : (Y.lookD d s).2.2.1 = e.2.2.1 := by
  unfold UpY.lookD
  rw [if_pos hd, he]
theorem ent_of (w : Y.Wf) {e : EnD} (he : e ∈ Y.E) : Y.ent e.1 e.2.1 = some e := by
  cases hf : Y.ent e.1 e.2.1 with
  | none => exact absurd ⟨rfl, rfl⟩ (ent_none.1 hf e he)
  | some x =>
    obtain ⟨h1, h2, h3⟩ := ent_mem hf
    have : ∀ {l : List EnD}, (l.map fun e => (e.1, e.2.1)).Nodup → x ∈ l → e ∈ l → x = e := by
      intro l
      induction l with
      | nil => intro _ h; cases h
      | cons a l ih =>
        intro hn hx hy
        rw [List.map_cons, List.nodup_cons] at hn
        rcases List.mem_cons.1 hx with e1 | hx
        · rcases List.mem_cons.1 hy with e2 | hy
          · rw [e1, e2]
          · exact absurd (List.mem_map.2 ⟨e, hy, by rw [← e1, h2, h3]⟩) hn.1
        · rcases List.mem_cons.1 hy with e2 | hy
          · exact absurd (List.mem_map.2 ⟨x, hx, by rw [← e2, h2, h3]⟩) hn.1
          · exact ih hn.2 hx hy
    rw [this w.ne h1 he]
theorem findGo_one (w : Y.Wf) {p : List ByteArray} {s : ByteArray} {r z : Int} : Y.findGo (p ++ [s]) r = (z, 0) ↔ ∃ d, Y.findGo p r = (d, 0) ∧ Y.dirE d = 0 ∧ (d, s, z, ()) ∈ Y.E := by
  rw [findGo_append]
  constructor
  · intro h
    split at h
    · rename_i h0
      refine ⟨(Y.findGo p r).1, by rw [← h0], ?_⟩
      generalize (Y.findGo p r).1 = d at *
      unfold UpY.findGo at h
      split at h
      · rename_i hl
        obtain ⟨hd, e, he⟩ := look_zero.1 hl
        rw [look_ref hd he] at h
        unfold UpY.findGo at h
        obtain ⟨h1, h2, h3⟩ := ent_mem he
        have : e = (d, s, z, ()) := by
          obtain ⟨a, b, c, u⟩ := e
          simp only at h2 h3 h
          have hc : c = z := congrArg Prod.fst h
          rw [h2, h3, hc]
        exact ⟨hd, this ▸ h1⟩
      · rename_i hl; exact absurd (congrArg Prod.snd h) hl
    · rename_i h0; exact absurd (congrArg Prod.snd h) h0
  · rintro ⟨d, h1, hd, he⟩
    have := ent_of w he
    simp only at this
    rw [h1, if_pos rfl, findGo_cons, if_pos (look_zero.2 ⟨hd, _, this⟩), look_ref hd this]
    rfl
theorem listD_perm {r : Int} (hd : Y.dirE r = 0) : (Y.listD r).Perm ((Y.E.filter (ofD r)).map Y.xe) := by
  unfold UpY.listD
  rw [if_pos hd]
  have := (fold_insX Y.xe (Y.E.filter (ofD r)) [] List.Pairwise.nil).1
  rwa [List.append_nil] at this
theorem listD_mem {r : Int} {x : XeD} : x ∈ Y.listD r ↔ Y.dirE r = 0 ∧ ∃ e ∈ Y.E, e.1 = r ∧ x = Y.xe e := by
  by_cases hd : Y.dirE r = 0
  · rw [(listD_perm hd).mem_iff, List.mem_map]
    constructor
    · rintro ⟨e, he, rfl⟩
      obtain ⟨h1, h2⟩ := List.mem_filter.1 he
      exact ⟨hd, e, h1, by simpa [ofD] using h2, rfl⟩
    · rintro ⟨_, e, he, h1, rfl⟩
      exact ⟨e, List.mem_filter.2 ⟨he, by simp [ofD, h1]⟩, rfl⟩
  · have : Y.listD r = [] := if_neg hd
    rw [this]
    simp [hd]
theorem toList_ext {a b : ByteArray} (h : a.data.toList = b.data.toList) : a = b := by
  obtain ⟨x⟩ := a
  obtain ⟨y⟩ := b
  have : x = y := Array.ext' h
  rw [this]
theorem cmpS_lt {a b : ByteArray} (h : a.data.toList ≤ b.data.toList) (hn : a ≠ b) : cmpS a b < 0 := by
  rcases cmpS_cases a b with ⟨_, e⟩ | ⟨h1, _⟩ | ⟨h1, _⟩
  · rw [e]; decide
  · rw [Lib.toList_data, Lib.toList_data] at h1
    exact absurd (toList_ext h1) hn
  · have := sLt_iff b a
    unfold sLt at this
    rw [h1] at this
    exact absurd (of_decide_eq_true this.symm) (List.not_lt.2 h)
theorem listD_sorted (w : Y.Wf) (r : Int) : (Y.listD r).Pairwise fun x y => cmpS x.1 y.1 < 0 := by
  by_cases hd : Y.dirE r = 0
  · have hs : (Y.listD r).Pairwise leX := by
      unfold UpY.listD
      rw [if_pos hd]
      exact (fold_insX Y.xe (Y.E.filter (ofD r)) [] List.Pairwise.nil).2
    have hn : (Y.listD r).Pairwise fun x y => x.1 ≠ y.1 := by
      refine (listD_perm hd).symm.pairwise ?_ (fun h => Ne.symm h)
      rw [List.pairwise_map]
      have h1 : (Y.E.filter (ofD r)).Pairwise fun a b => (a.1, a.2.1) ≠ (b.1, b.2.1) := List.pairwise_map.1 (((List.filter_sublist (p := ofD r) (l := Y.E)).map _).nodup w.ne)
      refine List.Pairwise.imp_of_mem (fun {a b} ha hb hab e => hab ?_) h1
      have e1 : a.1 = r := by have := (List.mem_filter.1 ha).2; simpa [ofD] using this
      have e2 : b.1 = r := by have := (List.mem_filter.1 hb).2; simpa [ofD] using this
      rw [e1, e2]
      exact congrArg (Prod.mk r) e
    exact hs.imp₂ (fun a b h1 h2 => cmpS_lt h1 h2) hn
  · have : Y.listD r = [] := if_neg hd
    rw [this]; exact List.Pairwise.nil
def UpY.walk (Y : UpY) : Nat → Int → List ByteArray → List (List ByteArray × Int)
  | 0, _, _ => []
  | n + 1, r, p => (p, r) :: (Y.listD r).flatMap fun x => Y.walk n x.2.2.1 (p ++ [x.1])
theorem walk_mem (w : Y.Wf) : ∀ {n : Nat} {r z : Int} {p q : List ByteArray}, (q, z) ∈ Y.walk n r p ↔ ∃ t, t.length < n ∧ q = p ++ t ∧ Y.findGo t r = (z, 0)
  | 0, r, z, p, q => by simp [UpY.walk]
  | n + 1, r, z, p, q => by
    unfold UpY.walk
    rw [List.mem_cons, List.mem_flatMap]
    constructor
    · rintro (h | ⟨x, hx, h⟩)
      · cases h
        exact ⟨[], by simp, by simp, rfl⟩
      · obtain ⟨t, h1, h2, h3⟩ := (walk_mem w).1 h
        obtain ⟨hd, e, he, h4, rfl⟩ := listD_mem.1 hx
        have hq := ent_of w he
        rw [h4] at hq
        refine ⟨e.2.1 :: t, by simpa using h1, by rw [h2]; simp [UpY.xe], ?_⟩
        unfold UpY.findGo
        rw [if_pos (look_zero.2 ⟨hd, e, hq⟩), look_ref hd hq]
        exact h3
    · rintro ⟨t, h1, h2, h3⟩
      cases t with
      | nil =>
        unfold UpY.findGo at h3
        cases h3
        exact .inl (by rw [h2, List.append_nil])
      | cons s t =>
        unfold UpY.findGo at h3
        split at h3
        · rename_i hl
          obtain ⟨hd, e, he⟩ := look_zero.1 hl
          rw [look_ref hd he] at h3
          obtain ⟨e1, e2, e3⟩ := ent_mem he
          refine .inr ⟨Y.xe e, listD_mem.2 ⟨hd, e, e1, e2, rfl⟩, (walk_mem w).2 ⟨t, by simpa using h1, ?_, h3⟩⟩
          rw [h2]
          simp [UpY.xe, e3]
        · rename_i hl; exact absurd (congrArg Prod.snd h3) hl
theorem cmpL_app : ∀ (p a b : List ByteArray), cmpL (p ++ a) (p ++ b) = cmpL a b
  | [], _, _ => rfl
  | s :: p, a, b => by
    have : cmpL (s :: (p ++ a)) (s :: (p ++ b)) = if cmpS s s = 0 then cmpL (p ++ a) (p ++ b) else cmpS s s := rfl
    rw [List.cons_append, List.cons_append, this, cmpS_self, if_pos rfl]
    exact cmpL_app p a b
theorem cmpL_ext (p : List ByteArray) (s : ByteArray) (t : List ByteArray) : cmpL p (p ++ s :: t) < 0 := by
  have := cmpL_app p [] (s :: t)
  rw [List.append_nil] at this
  rw [this]
  unfold cmpL; decide
theorem walk_sorted (w : Y.Wf) : ∀ (n : Nat) (r : Int) (p : List ByteArray), (Y.walk n r p).Pairwise fun a b => cmpL a.1 b.1 < 0
  | 0, _, _ => List.Pairwise.nil
  | n + 1, r, p => by
    unfold UpY.walk
    rw [List.pairwise_cons]
    constructor
    · rintro ⟨q, z⟩ h
      obtain ⟨x, hx, h⟩ := List.mem_flatMap.1 h
      obtain ⟨t, _, h2, _⟩ := (walk_mem w).1 h
      simp only
      rw [h2, List.append_assoc]
      exact cmpL_ext p x.1 t
    · rw [List.pairwise_flatMap]
      refine ⟨fun x _ => walk_sorted w n _ _, (listD_sorted w r).imp fun {x y} hxy => ?_⟩
      rintro ⟨q, z⟩ h ⟨q', z'⟩ h'
      obtain ⟨t, _, h2, _⟩ := (walk_mem w).1 h
      obtain ⟨t', _, h2', _⟩ := (walk_mem w).1 h'
      simp only
      rw [h2, h2', List.append_assoc, List.append_assoc, cmpL_app]
      show cmpL (x.1 :: t) (y.1 :: t') < 0
      unfold cmpL
      rw [if_neg (by omega)]
      exact hxy
theorem sorted_eq {α : Type} {R : α → α → Prop} (ha : ∀ a b, R a b → ¬ R b a) : ∀ {l k : List α}, l.Pairwise R → k.Pairwise R → (∀ x, x ∈ l ↔ x ∈ k) → l = k
  | [], [], _, _, _ => rfl
  | [], y :: k, _, _, h => by have := (h y).2 List.mem_cons_self; cases this
  | x :: l, [], _, _, h => by have := (h x).1 List.mem_cons_self; cases this
  | x :: l, y :: k, h1, h2, h => by
    obtain ⟨a1, a2⟩ := List.pairwise_cons.1 h1
    obtain ⟨b1, b2⟩ := List.pairwise_cons.1 h2
    have e : x = y := by
      rcases List.mem_cons.1 ((h x).1 List.mem_cons_self) with e | hx
      · exact e
      · rcases List.mem_cons.1 ((h y).2 List.mem_cons_self) with e | hy
        · exact e.symm
        · exact absurd (a1 y hy) (ha _ _ (b1 x hx))
    subst e
    refine congrArg (x :: ·) (sorted_eq ha a2 b2 fun z => ?_)
    constructor
    · intro hz
      rcases List.mem_cons.1 ((h z).1 (List.mem_cons_of_mem _ hz)) with e | hz'
      · subst e; exact absurd (a1 z hz) (fun q => ha _ _ q q)
      · exact hz'
    · intro hz
      rcases List.mem_cons.1 ((h z).2 (List.mem_cons_of_mem _ hz)) with e | hz'
      · subst e; exact absurd (b1 z hz) (fun q => ha _ _ q q)
      · exact hz'
end Go.Lm

namespace Go.Lm
open Go
variable {Y : UpY}
def NoD.bare (x : NoD) : NoD := ([], x.2)
def lastN (l : List ByteArray) : ByteArray := ixD .str l ((l.length : Int) - 1)
def lastZ (c : NoD) : Int := if c.1.length = 0 then 0 else ((lastN c.1).size : Int)
theorem split_last {l : List ByteArray} (h : l.length ≠ 0) : l = l.take (l.length - 1) ++ [lastN l] := by
  have := take_ixD (e := .str) (l := l) (k := (l.length : Int) - 1) (by omega) (by omega)
  rw [show ((l.length : Int) - 1 + 1).toNat = l.length by omega, show ((l.length : Int) - 1).toNat = l.length - 1 by omega, List.take_length] at this
  exact this
theorem lastN_app (p : List ByteArray) (s : ByteArray) : lastN (p ++ [s]) = s := by
  have h := split_last (l := p ++ [s]) (by simp)
  have h2 := congrArg List.getLast? h
  simpa using h2.symm
def addN (acc : List NoD) (c : NoD) : List NoD := if acc.any (isI c.2.1) then acc else acc ++ [c.bare]
def nodesOf (C : List NoD) : List NoD := C.foldl addN []
theorem nodesOf_snoc (C : List NoD) (c : NoD) : nodesOf (C ++ [c]) = addN (nodesOf C) c := by unfold nodesOf; rw [List.foldl_append]; rfl
structure IsB (Y : UpY) (C : List NoD) : Prop where
  wf : Y.Wf
  L : Y.L = nodesOf C
  get : ∀ c ∈ C, Y.at c.2.1 = some c.bare
  ent : ∀ e, e ∈ Y.E ↔ ∃ c ∈ C, ∃ y ∈ C, y.2.2.1 = 1 ∧ ∃ s, c.1 = y.1 ++ [s] ∧ e = (y.2.1, s, c.2.1, ())
  sum : (Y.E.map fun e => (e.2.1.size : Int)).sum = (C.map lastZ).sum
  root : ∀ c ∈ C, c.1 = [] → c.2.1 = 1
  has : ∃ c ∈ C, c.1 = []
  dirs : ∀ c ∈ C, ∀ d ∈ C, c.2.2.1 = 1 ∨ c.2.2.1 = 4 → d.2.1 = c.2.1 → d = c
  par : ∀ c ∈ C, c.1 ≠ [] → ∃ y ∈ C, y.2.2.1 = 1 ∧ ∃ s, c.1 = y.1 ++ [s]
  nm : C.Pairwise fun a b => a.1 ≠ b.1
theorem nm_inj {C : List NoD} (h : C.Pairwise fun a b => a.1 ≠ b.1) {a b : NoD} (ha : a ∈ C) (hb : b ∈ C) (e : a.1 = b.1) : a = b := by
  induction C with
  | nil => cases ha
  | cons x C ih =>
    obtain ⟨h1, h2⟩ := List.pairwise_cons.1 h
    rcases List.mem_cons.1 ha with ea | ha
    · rcases List.mem_cons.1 hb with eb | hb
      · rw [ea, eb]
      · exact absurd (ea ▸ e) (h1 b hb)
    · rcases List.mem_cons.1 hb with eb | hb
      · exact absurd (eb ▸ e).symm (h1 a ha)
      · exact ih h2 ha hb
namespace IsB
variable {C : List NoD}
theorem dir (h : IsB Y C) {y : NoD} (hy : y ∈ C) (hk : y.2.2.1 = 1) : Y.dirE y.2.1 = 0 := dirE_zero.2 ⟨y.bare, h.get y hy, hk⟩
theorem findC (h : IsB Y C) : ∀ (n : Nat) (c : NoD), c ∈ C → c.1.length ≤ n → Y.findGo c.1 1 = (c.2.1, 0)
  | 0, c, hc, hn => by
    have e : c.1 = [] := List.eq_nil_of_length_eq_zero (by omega)
    rw [e, h.root c hc e]; rfl
  | n + 1, c, hc, hn => by
    by_cases e : c.1 = []
    · rw [e, h.root c hc e]; rfl
    · obtain ⟨y, hy, hk, s, hs⟩ := h.par c hc e
      have ih := h.findC n y hy (by rw [hs] at hn; simp at hn; omega)
      rw [hs]
      exact (findGo_one h.wf).2 ⟨y.2.1, ih, h.dir hy hk, (h.ent _).2 ⟨c, hc, y, hy, hk, s, hs, rfl⟩⟩
theorem found (h : IsB Y C) : ∀ (n : Nat) (q : List ByteArray) (z : Int), q.length ≤ n → Y.findGo q 1 = (z, 0) → ∃ c ∈ C, c.1 = q ∧ c.2.1 = z
  | 0, q, z, hn, hf => by
    obtain rfl : q = [] := List.eq_nil_of_length_eq_zero (by omega)
    obtain ⟨c, hc, e⟩ := h.has
    unfold UpY.findGo at hf
    exact ⟨c, hc, e, by rw [h.root c hc e]; exact congrArg Prod.fst hf⟩
  | n + 1, q, z, hn, hf => by
    by_cases e : q.length = 0
    · exact h.found n q z (by omega) hf
    · rw [split_last e] at hf ⊢
      obtain ⟨d, h1, h2, h3⟩ := (findGo_one h.wf).1 hf
      obtain ⟨c, hc, y, hy, hk, s, hs, he⟩ := (h.ent _).1 h3
      obtain ⟨y', hy', e1, e2⟩ := h.found n _ d (by rw [List.length_take]; omega) h1
      have ed : d = y.2.1 := congrArg Prod.fst he
      have es : lastN q = s := congrArg (fun e : EnD => e.2.1) he
      have ez : z = c.2.1 := congrArg (fun e : EnD => e.2.2.1) he
      have := h.dirs y hy y' hy' (.inl hk) (e2.trans ed)
      subst this
      exact ⟨c, hc, by rw [hs, e1, es], ez.symm⟩
theorem walk (h : IsB Y C) (hs : C.Pairwise fun a b => cmpL a.1 b.1 < 0) {n : Nat} (hn : ∀ c ∈ C, c.1.length < n) : Y.walk n 1 [] = C.map fun c => (c.1, c.2.1) := by
  refine sorted_eq (R := fun a b : List ByteArray × Int => cmpL a.1 b.1 < 0) (fun a b h1 h2 => by have := cmpL_swap a.1 b.1; omega) (walk_sorted h.wf _ _ _) (List.pairwise_map.2 hs) ?_
  rintro ⟨q, z⟩
  rw [walk_mem h.wf, List.mem_map]
  constructor
  · rintro ⟨t, _, h2, h3⟩
    obtain ⟨c, hc, e1, e2⟩ := h.found _ t z (Nat.le_refl _) h3
    exact ⟨c, hc, by rw [e1, e2, h2]; rfl⟩
  · rintro ⟨c, hc, e⟩
    cases e
    exact ⟨c.1, hn c hc, rfl, h.findC _ c hc (Nat.le_refl _)⟩
theorem lt (h : IsB Y C) {c : NoD} (hc : c ∈ C) : c.2.1 < Y.nx := by
  obtain ⟨h1, h2⟩ := at_mem (h.get c hc)
  have := (h.wf.lo _ h1).2
  rw [h2] at this
  exact this
theorem more (h : IsB Y C) {Y' : UpY} {x y : NoD} {s : ByteArray} (hy : y ∈ C) (hk : y.2.2.1 = 1) (hx : x.1 = y.1 ++ [s]) (hno : ∀ c ∈ C, c.1 ≠ x.1) (w : Y'.Wf) (hL : Y'.L = addN (nodesOf C) x) (hE : Y'.E = Y.E ++ [(y.2.1, s, x.2.1, ())])
    (hget : Y'.at x.2.1 = Option.some x.bare) (hold : ∀ c ∈ C, Y'.at c.2.1 = Y.at c.2.1) (hd1 : x.2.2.1 = 1 ∨ x.2.2.1 = 4 → ∀ c ∈ C, c.2.1 ≠ x.2.1) (hd2 : ∀ c ∈ C, c.2.2.1 = 1 ∨ c.2.2.1 = 4 → x.2.1 ≠ c.2.1) : IsB Y' (C ++ [x]) where
  wf := w
  L := by rw [nodesOf_snoc]; exact hL
  get := fun c hc => by
    rcases List.mem_append.1 hc with hc | hc
    · rw [hold c hc]; exact h.get c hc
    · obtain rfl : c = x := by simpa using hc
      exact hget
  ent := fun e => by
    rw [hE, List.mem_append]
    constructor
    · rintro (he | he)
      · obtain ⟨c, hc, y', hy', r⟩ := (h.ent e).1 he
        exact ⟨c, by simp [hc], y', by simp [hy'], r⟩
      · obtain rfl : e = _ := by simpa using he
        exact ⟨x, by simp, y, by simp [hy], hk, s, hx, rfl⟩
    · rintro ⟨c, hc, y', hy', hk', s', hs, rfl⟩
      rcases List.mem_append.1 hy' with hyC | hyC
      · rcases List.mem_append.1 hc with hcC | hcC
        · exact .inl ((h.ent _).2 ⟨c, hcC, y', hyC, hk', s', hs, rfl⟩)
        · have ec : c = x := by simpa using hcC
          rw [ec] at hs ⊢
          have e := List.append_inj' (hx.symm.trans hs) rfl
          have := nm_inj h.nm hy hyC e.1
          subst this
          have es : s = s' := by simpa using e.2
          subst es
          exact .inr (by simp)
      · have ey : y' = x := by simpa using hyC
        rw [ey] at hs
        rcases List.mem_append.1 hc with hcC | hcC
        · obtain ⟨y2, hy2, _, s2, hs2⟩ := h.par c hcC (by rw [hs]; simp)
          exact absurd (List.append_inj' (hs2.symm.trans hs) rfl).1 (hno y2 hy2)
        · have ec : c = x := by simpa using hcC
          rw [ec] at hs
          have := congrArg List.length hs
          simp at this
  sum := by
    rw [hE, List.map_append, List.sum_append, h.sum, List.map_append, List.sum_append]
    congr 1
    have : lastZ x = (s.size : Int) := by
      unfold lastZ
      rw [hx, if_neg (by simp), lastN_app]
    simp [this]
  root := fun c hc e => by
    rcases List.mem_append.1 hc with hc | hc
    · exact h.root c hc e
    · obtain rfl : c = x := by simpa using hc
      rw [hx] at e
      exact absurd e (by simp)
  has := by
    obtain ⟨c, hc, e⟩ := h.has
    exact ⟨c, by simp [hc], e⟩
  dirs := fun c hc d hd hk' e => by
    rcases List.mem_append.1 hc with hcC | hcC
    · rcases List.mem_append.1 hd with hdC | hdC
      · exact h.dirs c hcC d hdC hk' e
      · have ed : d = x := by simpa using hdC
        rw [ed] at e
        exact absurd e (hd2 c hcC hk')
    · have ec : c = x := by simpa using hcC
      rw [ec] at hk' e ⊢
      rcases List.mem_append.1 hd with hdC | hdC
      · exact absurd e (hd1 hk' d hdC)
      · simpa using hdC
  par := fun c hc e => by
    rcases List.mem_append.1 hc with hc | hc
    · obtain ⟨y', hy', r⟩ := h.par c hc e
      exact ⟨y', by simp [hy'], r⟩
    · obtain rfl : c = x := by simpa using hc
      exact ⟨y, by simp [hy], hk, s, hx⟩
  nm := by
    rw [List.pairwise_append]
    refine ⟨h.nm, by simp, fun a ha b hb => ?_⟩
    obtain rfl : b = x := by simpa using hb
    exact hno a ha
end IsB
namespace IsB
variable {C : List NoD}
end IsB
end Go.Lm

namespace Go.Lm
open Go
variable {Y : UpY}
end Go.Lm

namespace Go.Proofs
open Go Go.Lm Go.RowKit
set_option maxRecDepth 1000000
def c_find : Ct
  | [.v (.c (.ifc 26 (.p 0 0))), .v (.c cl)], [.ab (.upr ⟨84, 81, 3, 9⟩ Y)], Q => (match (Ty.sl Ty.str).of [cl] with
    | some (l, []) => Y.Ok ∧ Q (.tup [.c (.k (.int .i64 (Y.findGo l 1).1)), .c (.k (.int .i64 (Y.findGo l 1).2))]) [.ab (.upr ⟨84, 81, 3, 9⟩ Y)]
    | _ => False)
  | _, _, _ => False
noncomputable def XB666 : Vx := { P := Tryz.prog, ct := (51, c_root) :: (22, c_look) :: XB565.ct, ty := tyTab, hold := [] }
theorem XB666_ok : CtOk Inv Tryz.prog XB666.ct := CtOk.cons w_root (CtOk.cons w_look (XB565_ok))
def vc_find : (List (Ty.str).den) → (UpY) → (SV → List HO → Prop) → Prop :=
 fun l Y Q => List.length l ≤ 9223372036854775807 → True ∧ (inK .i64 1 → List.length l ≤ 9223372036854775807 → LoopP (fun i again => br (decide (i.1.2.1 < (l.length : Int))) (0 ≤ i.1.2.1 ∧ i.1.2.1 < (l.length : Int) ∧ (Ty.ok Ty.str (ixD 
 Ty.str l i.1.2.1) → UpY.Ok i.2.1 ∧ (ByteArray.size (UpY.lookD i.2.1 i.1.1 (ixD Ty.str l i.1.2.1)).1 ≤ 9223372036854775807 → inK .i64 (UpY.lookD i.2.1 i.1.1 (ixD Ty.str l i.1.2.1)).2.1 → inK .i64 (UpY.lookD i.2.1 i.1.1 (ixD Ty.str l 
 i.1.2.1)).2.2.1 → inK .i64 (UpY.lookE i.2.1 i.1.1 (ixD Ty.str l i.1.2.1)) → br (UpY.lookE i.2.1 i.1.1 (ixD Ty.str l i.1.2.1) != 0) (Q (.tup [.c (.k (.int .i64 0)), .c (.k (.int .i64 (UpY.lookE i.2.1 i.1.1 (ixD Ty.str l i.1.2.1))))]) [.ab 
 (.upr ⟨84, 81, 3, 9⟩ i.2.1)]) (inK .i64 (i.1.2.1 + 1) ∧ again (((UpY.lookD i.2.1 i.1.1 (ixD Ty.str l i.1.2.1)).2.2.1, i.1.2.1 + 1, ()), i.2))))) (Q (.tup [.c (.k (.int .i64 i.1.1)), .c (.k (.int .i64 0))]) [.ab (.upr ⟨84, 81, 3, 9⟩ 
 i.2.1)])) (((1 : Int), (0 : Int), ()), Y, ()))
theorem vc_find_eq (l : List (Ty.str).den) (Y : UpY) (Q : SV → List HO → Prop) : vFun XB666 ⟨[(4, ⟨[(6, .int .i64), (15, .int .i64)], [(0, .ab (.upr ⟨84, 81, 3, 9⟩))]⟩)], []⟩ Tryz.f66 [.c (.ifc 26 (.p 0 0)), .c (.d Ty.str l)] [.ab (.upr ⟨84, 81, 3, 9⟩ Y)] Q = vc_find l Y Q := by kernel_rfl
theorem w_find : ∀ args H Q, c_find args H Q → Wp Inv Tryz.prog 66 args H Q := by
  intro args H Q h
  unfold c_find at h
  split at h
  rotate_left
  · exact h.elim
  rename_i cl Y
  split at h
  rotate_left
  · exact h.elim
  rename_i l hl
  refine Wp.said (args' := [.c (.ifc 26 (.p 0 0)), .c (.d Ty.str l)]) (fun E g => RelVs.cons1 (fun _ h => h) (RelVs.cons1 (of_list hl) (fun _ h => h))) ?_
  clear hl
  refine Wp.enter (X := XB666) XB666_ok ⟨[(4, ⟨[(6, .int .i64), (15, .int .i64)], [(0, .ab (.upr ⟨84, 81, 3, 9⟩))]⟩)], []⟩ (fn := Tryz.f66) (by kernel_rfl) ?_
  have hv := vc_find_eq l Y Q
  rw [show vFun _ _ _ _ _ _ = _ from hv]
  unfold vc_find
  obtain ⟨hp, hq⟩ := h
  intro _
  refine ⟨trivial, fun _ hl => ?_⟩
  refine LoopP.intro (fun i => 0 ≤ i.1.2.1 ∧ i.1.2.1 ≤ l.length ∧ i.2.1 = Y ∧ Y.findGo l 1 = Y.findGo (l.drop i.1.2.1.toNat) i.1.1) (fun i => l.length - i.1.2.1.toNat) ⟨by simp, by simp, rfl, by simp⟩ ?_
  rintro ⟨⟨r, i, _⟩, _, _⟩ ⟨h0, h1, rfl, h2⟩
  simp only at h0 h1 h2 ⊢
  refine br_of (fun hc => ?_) (fun hc => ?_)
  · have hc : i < (l.length : Int) := of_decide_eq_true hc
    rw [ixD_drop (e := .str) h0 hc, findGo_cons] at h2
    refine ⟨h0, hc, fun _ => ⟨hp, fun _ _ _ _ => br_of (fun hd => ?_) (fun hd => ?_)⟩⟩
    · rw [if_neg (by simpa using hd)] at h2
      rw [h2] at hq
      exact hq
    · rw [if_pos (by simpa using hd)] at h2
      exact ⟨by unfold inK; omega, ⟨by omega, by omega, trivial, h2⟩, by omega⟩
  · have hc : ¬ i < (l.length : Int) := of_decide_eq_false hc
    rw [drop_all hc, findGo_nil] at h2
    rw [h2] at hq
    exact hq
def c_nsort : Ct
  | [.v (.c (.o 0)), .v (.c (.fn 64 []))], [.sl tN e xs], Q => (match asD noTy xs with
    | some L => (L.length : Int) ≤ 1000 ∧ ∀ L' : List NoD, L'.Perm L → L'.Pairwise (fun x y => ¬ cmpL y.1 x.1 < 0) → Q (.tup []) [.sl tN noTy L']
    | none => False)
  | _, _, _ => False
theorem sl_asD {e e' : Ty} {xs : List e.den} {L : List e'.den} (h : asD e' xs = some L) (t : TypeId) : HO.sl t e xs = HO.sl t e' L := by
  obtain ⟨q, hy⟩ := asD_some h
  subst q; subst hy; rfl
theorem w_nsort : ∀ args H Q, c_nsort args H Q → Wp Inv Tryz.prog 63 args H Q := by
  intro args H Q h
  unfold c_nsort at h
  split at h
  · split at h
    · rename_i tN e xs x_ L hL
      rw [sl_asD hL]
      exact Wp.sortNodes Tryz.sortC Tryz.sort0 Tryz.cmpC (by have := h.1; omega) h.2
    · exact h.elim
  · exact h.elim
end Go.Proofs

namespace Go.Proofs
open Go Go.Lm Go.RowKit
set_option maxRecDepth 1000000
def c_fill : Ct
  | [.v (.agg cq), .v (.c cl)], [], Q => (match (quTy).of cq with
    | some (q, []) => (match (Ty.sl noTy).of [cl] with
    | some (l, []) => (l.length : Int) ≤ 1000 ∧ br (checkU l != 0) (Q (.tup [.c (.k (.pointer none)), .c (.k (.int .i64 (checkU l)))]) []) (∀ L' : List NoD, L'.Perm l → L'.Pairwise (fun x y => ¬ cmpL y.1 x.1 < 0) → Q (.tup [.c (.p 0 0), .c (.k (.int .i64 0))]) [.ab (.upr ⟨84, 81, 3, 9⟩ (fillGo L' [] (UpY.new q.1 q.2.1)))])
    | _ => False)
    | _ => False)
  | _, _, _ => False
noncomputable def XB767 : Vx := { P := Tryz.prog, ct := [(61, c_kcheckU), (62, c_nclone), (63, c_nsort), (51, c_root), (66, c_find), (9, c_newu), (43, c_setattr), (45, c_setx), (32, c_link), (23, c_make), (47, c_setopq)], ty := tyTab, hold := [] }
theorem XB767_ok : CtOk Inv Tryz.prog XB767.ct := CtOk.cons w_kcheckU (CtOk.cons w_nclone (CtOk.cons w_nsort (CtOk.cons w_root (CtOk.cons w_find (CtOk.cons w_newu (CtOk.cons w_setattr (CtOk.cons w_setx (CtOk.cons w_link (CtOk.cons w_make (CtOk.cons w_setopq (CtOk.nil _ _)))))))))))
def vc_fill : ((quTy).den) → (List (noTy).den) → (SV → List HO → Prop) → Prop :=
 fun q l Q => inK .i64 q.1 → inK .i64 q.2.1 → List.length l ≤ 9223372036854775807 → (l.length : Int) ≤ (1000 : Int) ∧ (inK .i64 (checkU l) → br (checkU l != 0) (Q (.tup [.c (.k (.pointer none)), .c (.k (.int .i64 (checkU l)))]) []) 
 (List.length l ≤ 1000 ∧ (l.length : Int) ≤ (1000 : Int) ∧ ∀ (L' : List NoD), List.Perm L' l → List.Pairwise (fun x y => ¬cmpL y.1 x.1 < 0) L' → List.length L' ≤ 9223372036854775807 → LoopP (fun i again => br (decide (i.1.1 < (↑(List.length 
 L') : Int))) (0 ≤ i.1.1 ∧ i.1.1 < (↑(List.length L') : Int) ∧ 0 ≤ i.1.1 ∧ i.1.1 < (↑(List.length L') : Int) ∧ (Ty.ok noTy (ixD noTy L' i.1.1) → Ty.ok (Ty.int IntKind.i64) (Option.getD (Kk.get Kk.int i.2.2.1 (ixD noTy L' i.1.1).2.1) (0 : 
 Int)) → List.length (ixD noTy L' i.1.1).1 ≤ 9223372036854775807 → inK .i64 ((↑(List.length (ixD noTy L' i.1.1).1) : Int) - 1) ∧ JoinP (fun k => br (decide ((↑(List.length (ixD noTy L' i.1.1).1) : Int) - 1 < (0 : Int))) (True ∧ (inK .i64 1 → 
 UpY.Ok i.2.1 ∧ (inK .i64 (UpY.setAttrE i.2.1 (1 : Int) (ixD noTy L' i.1.1).2.2.2.1) → UpY.Ok (UpY.setAttrY i.2.1 (1 : Int) (ixD noTy L' i.1.1).2.2.2.1) ∧ (inK .i64 (UpY.setXattrsE (UpY.setAttrY i.2.1 (1 : Int) (ixD noTy L' i.1.1).2.2.2.1) 
 (1 : Int) (ixD noTy L' i.1.1).2.2.2.2.2.2.1) → k (((1 : Int), ()), UpY.setXattrsY (UpY.setAttrY i.2.1 (1 : Int) (ixD noTy L' i.1.1).2.2.2.1) (1 : Int) (ixD noTy L' i.1.1).2.2.2.2.2.2.1, ()))))) (br (Option.isSome (Kk.get Kk.int i.2.2.1 (ixD 
 noTy L' i.1.1).2.1)) (0 ≤ boundV none 0 ∧ boundV none 0 ≤ boundV (some ((↑(List.length (ixD noTy L' i.1.1).1) : Int) - 1)) (↑(List.length (ixD noTy L' i.1.1).1) : Int) ∧ boundV (some ((↑(List.length (ixD noTy L' i.1.1).1) : Int) - 1)) 
 (↑(List.length (ixD noTy L' i.1.1).1) : Int) ≤ (↑(List.length (ixD noTy L' i.1.1).1) : Int) ∧ UpY.Ok i.2.1 ∧ (inK .i64 (UpY.findGo i.2.1 (List.take (Int.toNat (boundV (some ((↑(List.length (ixD noTy L' i.1.1).1) : Int) - 1)) (↑(List.length 
 (ixD noTy L' i.1.1).1) : Int)) - 0) (List.drop 0 (ixD noTy L' i.1.1).1)) (1 : Int)).1 → inK .i64 (UpY.findGo i.2.1 (List.take (Int.toNat (boundV (some ((↑(List.length (ixD noTy L' i.1.1).1) : Int) - 1)) (↑(List.length (ixD noTy L' i.1.1).1) 
 : Int)) - 0) (List.drop 0 (ixD noTy L' i.1.1).1)) (1 : Int)).2 → (0 : Int) ≤ (↑(List.length (ixD noTy L' i.1.1).1) : Int) - 1 ∧ (↑(List.length (ixD noTy L' i.1.1).1) : Int) - 1 < (↑(List.length (ixD noTy L' i.1.1).1) : Int) ∧ (Ty.ok Ty.str 
 (ixD Ty.str (ixD noTy L' i.1.1).1 ((↑(List.length (ixD noTy L' i.1.1).1) : Int) - 1)) → UpY.Ok i.2.1 ∧ (inK .i64 (UpY.linkE i.2.1 (UpY.findGo i.2.1 (List.take (Int.toNat (boundV (some ((↑(List.length (ixD noTy L' i.1.1).1) : Int) - 1)) 
 (↑(List.length (ixD noTy L' i.1.1).1) : Int)) - 0) (List.drop 0 (ixD noTy L' i.1.1).1)) (1 : Int)).1 (ixD Ty.str (ixD noTy L' i.1.1).1 ((↑(List.length (ixD noTy L' i.1.1).1) : Int) - 1)) (Option.getD (Kk.get Kk.int i.2.2.1 (ixD noTy L' 
 i.1.1).2.1) (0 : Int))) → k ((Option.getD (Kk.get Kk.int i.2.2.1 (ixD noTy L' i.1.1).2.1) (0 : Int), ()), UpY.linkY i.2.1 (UpY.findGo i.2.1 (List.take (Int.toNat (boundV (some ((↑(List.length (ixD noTy L' i.1.1).1) : Int) - 1)) 
 (↑(List.length (ixD noTy L' i.1.1).1) : Int)) - 0) (List.drop 0 (ixD noTy L' i.1.1).1)) (1 : Int)).1 (ixD Ty.str (ixD noTy L' i.1.1).1 ((↑(List.length (ixD noTy L' i.1.1).1) : Int) - 1)) (Option.getD (Kk.get Kk.int i.2.2.1 (ixD noTy L' 
 i.1.1).2.1) (0 : Int)), ()))))) (0 ≤ boundV none 0 ∧ boundV none 0 ≤ boundV (some ((↑(List.length (ixD noTy L' i.1.1).1) : Int) - 1)) (↑(List.length (ixD noTy L' i.1.1).1) : Int) ∧ boundV (some ((↑(List.length (ixD noTy L' i.1.1).1) : Int) 
 - 1)) (↑(List.length (ixD noTy L' i.1.1).1) : Int) ≤ (↑(List.length (ixD noTy L' i.1.1).1) : Int) ∧ UpY.Ok i.2.1 ∧ (inK .i64 (UpY.findGo i.2.1 (List.take (Int.toNat (boundV (some ((↑(List.length (ixD noTy L' i.1.1).1) : Int) - 1)) 
 (↑(List.length (ixD noTy L' i.1.1).1) : Int)) - 0) (List.drop 0 (ixD noTy L' i.1.1).1)) (1 : Int)).1 → inK .i64 (UpY.findGo i.2.1 (List.take (Int.toNat (boundV (some ((↑(List.length (ixD noTy L' i.1.1).1) : Int) - 1)) (↑(List.length (ixD 
 noTy L' i.1.1).1) : Int)) - 0) (List.drop 0 (ixD noTy L' i.1.1).1)) (1 : Int)).2 → (0 : Int) ≤ (↑(List.length (ixD noTy L' i.1.1).1) : Int) - 1 ∧ (↑(List.length (ixD noTy L' i.1.1).1) : Int) - 1 < (↑(List.length (ixD noTy L' i.1.1).1) : 
 Int) ∧ (Ty.ok Ty.str (ixD Ty.str (ixD noTy L' i.1.1).1 ((↑(List.length (ixD noTy L' i.1.1).1) : Int) - 1)) → UpY.Ok i.2.1 ∧ (inK .i64 (UpY.makeR i.2.1 (UpY.findGo i.2.1 (List.take (Int.toNat (boundV (some ((↑(List.length (ixD noTy L' 
 i.1.1).1) : Int) - 1)) (↑(List.length (ixD noTy L' i.1.1).1) : Int)) - 0) (List.drop 0 (ixD noTy L' i.1.1).1)) (1 : Int)).1 (ixD Ty.str (ixD noTy L' i.1.1).1 ((↑(List.length (ixD noTy L' i.1.1).1) : Int) - 1)) (ixD noTy L' i.1.1)) → inK 
 .i64 (UpY.makeE i.2.1 (UpY.findGo i.2.1 (List.take (Int.toNat (boundV (some ((↑(List.length (ixD noTy L' i.1.1).1) : Int) - 1)) (↑(List.length (ixD noTy L' i.1.1).1) : Int)) - 0) (List.drop 0 (ixD noTy L' i.1.1).1)) (1 : Int)).1 (ixD Ty.str 
 (ixD noTy L' i.1.1).1 ((↑(List.length (ixD noTy L' i.1.1).1) : Int) - 1)) (ixD noTy L' i.1.1)) → k ((UpY.makeR i.2.1 (UpY.findGo i.2.1 (List.take (Int.toNat (boundV (some ((↑(List.length (ixD noTy L' i.1.1).1) : Int) - 1)) (↑(List.length 
 (ixD noTy L' i.1.1).1) : Int)) - 0) (List.drop 0 (ixD noTy L' i.1.1).1)) (1 : Int)).1 (ixD Ty.str (ixD noTy L' i.1.1).1 ((↑(List.length (ixD noTy L' i.1.1).1) : Int) - 1)) (ixD noTy L' i.1.1), ()), UpY.makeY i.2.1 (UpY.findGo i.2.1 
 (List.take (Int.toNat (boundV (some ((↑(List.length (ixD noTy L' i.1.1).1) : Int) - 1)) (↑(List.length (ixD noTy L' i.1.1).1) : Int)) - 0) (List.drop 0 (ixD noTy L' i.1.1).1)) (1 : Int)).1 (ixD Ty.str (ixD noTy L' i.1.1).1 ((↑(List.length 
 (ixD noTy L' i.1.1).1) : Int) - 1)) (ixD noTy L' i.1.1), ()))))))) fun i_1 => List.length i.2.2.1 < 9223372036854775807 ∧ br (ixD noTy L' i.1.1).2.2.2.2.2.2.2.1 (UpY.Ok i_1.2.1 ∧ (inK .i64 (UpY.dirE i_1.2.1 i_1.1.1) → inK .i64 (i.1.1 + 1) ∧ 
 again ((i.1.1 + 1, ()), UpY.setOpaqueY i_1.2.1 i_1.1.1 true, Kk.put Kk.int i.2.2.1 (ixD noTy L' i.1.1).2.1 i_1.1.1, ()))) (inK .i64 (i.1.1 + 1) ∧ again ((i.1.1 + 1, ()), i_1.2.1, Kk.put Kk.int i.2.2.1 (ixD noTy L' i.1.1).2.1 i_1.1.1, ())))) 
 (Q (SV.tup [S1.c (.p 0 0), .c (.k (.int .i64 0))]) [.ab (.upr ⟨84, 81, 3, 9⟩ i.2.1)])) (((0 : Int), ()), UpY.new q.1 q.2.1, [], ())))
theorem vc_fill_eq (q : (quTy).den) (l : List (noTy).den) (Q : SV → List HO → Prop) : vFun XB767 ⟨[(10, ⟨[(32, .int .i64)], [(2, .ab (.upr ⟨84, 81, 3, 9⟩)), (3, .map 3 .int (.int .i64))]⟩)], [(23, ⟨[(11, .int .i64)], [(2, .ab (.upr ⟨84, 81, 3, 9⟩))]⟩)]⟩ Tryz.f20 [.v (.agg (Ty.cells quTy q)), .c (.d noTy l)] [] Q = vc_fill q l Q := by kernel_rfl
theorem w_fill : ∀ args H Q, c_fill args H Q → Wp Inv Tryz.prog 20 args H Q := by
  intro args H Q h
  unfold c_fill at h
  split at h
  rotate_left
  · exact h.elim
  rename_i cq cl
  split at h
  rotate_left
  · exact h.elim
  rename_i q hq
  split at h
  rotate_left
  · exact h.elim
  rename_i l hl
  refine Wp.said (args' := [.v (.agg (Ty.cells quTy q)), .c (.d noTy l)]) (fun E g => RelVs.cons1 (of_row hq) (RelVs.cons1 (of_list hl) (fun _ h => h))) ?_
  clear hq hl
  refine Wp.enter (X := XB767) XB767_ok ⟨[(10, ⟨[(32, .int .i64)], [(2, .ab (.upr ⟨84, 81, 3, 9⟩)), (3, .map 3 .int (.int .i64))]⟩)], [(23, ⟨[(11, .int .i64)], [(2, .ab (.upr ⟨84, 81, 3, 9⟩))]⟩)]⟩ (fn := Tryz.f20) (by kernel_rfl) ?_
  have hv := vc_fill_eq q l Q
  rw [show vFun _ _ _ _ _ _ = _ from hv]
  unfold vc_fill
  obtain ⟨hl, h⟩ := h
  intro _ _ _
  refine ⟨hl, fun _ => br_of (fun hc => ?_) (fun hc => ?_)⟩
  · rw [hc] at h; exact h
  rw [hc] at h
  clear hv hc
  refine ⟨by omega, hl, fun L' hp ho _ => ?_⟩
  have hq := h L' hp ho
  have hlen : L'.length = l.length := hp.length_eq
  clear h hp ho
  refine LoopP.intro (fun i => 0 ≤ i.1.1 ∧ i.1.1 ≤ L'.length ∧ i.2.1.OkN i.1.1.toNat ∧ i.2.2.1.length ≤ i.1.1.toNat ∧ fillGo (L'.drop i.1.1.toNat) i.2.2.1 i.2.1 = fillGo L' [] (UpY.new q.1 q.2.1)) (fun i => L'.length - i.1.1.toNat) ⟨by simp, by simp, new_okN _ _, by simp, by simp⟩ ?_
  rintro ⟨⟨i, _⟩, Y, m, _⟩ ⟨h0, h1, h2, h3, h4⟩
  simp only at h0 h1 h2 h3 h4 ⊢
  refine br_of (fun hc => ?_) (fun hc => ?_)
  · have hc : i < (L'.length : Int) := of_decide_eq_true hc
    rw [ixD_drop (e := noTy) h0 hc] at h4
    generalize ixD noTy L' i = x at *
    have ok := h2.ok (by omega)
    refine ⟨h0, hc, h0, hc, fun _ _ hx => ⟨by unfold inK; omega, ?_⟩⟩
    have e1 : boundV (some ((x.1.length : Int) - 1)) (x.1.length : Int) = (x.1.length : Int) - 1 := rfl
    have e2 : boundV none 0 = 0 := rfl
    refine JoinP.intro (fun k => k.1.1 = (fillR Y m x).1 ∧ k.2.1 = (fillR Y m x).2) ?_ ?_
    · refine br_of (fun hd => ?_) (fun hd => ?_)
      · have hd := of_decide_eq_true hd
        have e : fillR Y m x = (1, (Y.setAttrY 1 x.2.2.2.1).setXattrsY 1 x.2.2.2.2.2.2.1) := by unfold fillR; rw [if_pos (by omega)]
        rw [e]
        exact ⟨trivial, fun _ => ⟨ok, fun _ => ⟨(okN_setAttr h2 1 _).ok (by omega), fun _ => ⟨rfl, rfl⟩⟩⟩⟩
      have hd := of_decide_eq_false hd
      have e3 : List.take (((x.1.length : Int) - 1).toNat - 0) (List.drop 0 x.1) = x.1.take (x.1.length - 1) := by rw [List.drop_zero]; congr 1; omega
      simp only [e1, e2, e3]
      refine br_of (fun he => ?_) (fun he => ?_)
      · obtain ⟨r, hr⟩ := Option.isSome_iff_exists.1 he
        have e : fillR Y m x = (r, Y.linkY (Y.findGo (x.1.take (x.1.length - 1)) 1).1 (ixD .str x.1 ((x.1.length : Int) - 1)) r) := by
          unfold fillR
          rw [if_neg (by omega), hr]
        rw [e, hr]
        exact ⟨Int.le_refl _, by omega, by omega, ok, fun _ _ => ⟨by omega, by omega, fun _ => ⟨ok, fun _ => ⟨rfl, rfl⟩⟩⟩⟩
      · have hr : Kk.get .int m x.2.1 = none := by simpa using he
        have e : fillR Y m x = (Y.makeR (Y.findGo (x.1.take (x.1.length - 1)) 1).1 (ixD .str x.1 ((x.1.length : Int) - 1)) x, Y.makeY (Y.findGo (x.1.take (x.1.length - 1)) 1).1 (ixD .str x.1 ((x.1.length : Int) - 1)) x) := by
          unfold fillR
          rw [if_neg (by omega), hr]
        rw [e]
        exact ⟨Int.le_refl _, by omega, by omega, ok, fun _ _ => ⟨by omega, by omega, fun _ => ⟨ok, fun _ _ => ⟨rfl, rfl⟩⟩⟩⟩
    · rintro ⟨⟨r, _⟩, Y1, _⟩ ⟨hr, hY⟩
      simp only at hr hY
      subst hr hY
      have okR := okN_fillR h2 m x
      have hpl := put_len (k := .int) (l := m) (x := x.2.1) (v := (fillR Y m x).1)
      have okY := okN_fillY h2 m x
      rw [show i.toNat + 1 = (i + 1).toNat by omega] at okY
      have h4 : fillGo (L'.drop (i + 1).toNat) (Kk.put .int m x.2.1 (fillR Y m x).1) (fillY Y m x) = _ := h4
      simp only
      refine ⟨by omega, br_of (fun ho => ?_) (fun ho => ?_)⟩
      · have ey : fillY Y m x = (fillR Y m x).2.setOpaqueY (fillR Y m x).1 true := by unfold fillY; rw [if_pos ho]
        rw [ey] at okY h4
        exact ⟨okR.ok (by omega), fun _ => ⟨by unfold inK; omega, ⟨by omega, by omega, okY, by omega, h4⟩, by omega⟩⟩
      · have ey : fillY Y m x = (fillR Y m x).2 := by unfold fillY; rw [ho]; rfl
        rw [ey] at okY h4
        exact ⟨by unfold inK; omega, ⟨by omega, by omega, okY, by omega, h4⟩, by omega⟩
  · have hc : ¬ i < (L'.length : Int) := of_decide_eq_false hc
    rw [drop_all hc] at h4
    have h4 : Y = _ := h4
    rw [h4]
    exact hq
end Go.Proofs

namespace Go.Lm
open Go Go.RowKit
section
variable {P : Program}
def OpensD (P : Program) (t : TypeId) (e : Ty) : Prop := @Opens P t e.den e.rep
def OpensF (P : Program) (fs : List Field) (off : Nat) (e : Ty) : Prop :=
  ∀ {H : Type} (enc : TypeId × Value → H) (w : World) (base : Nat) (spare : Nat → Bool) (held : Bool) (fuel : Nat) (cs : List Value), cs.length = off + e.size →
    (∀ f ∈ fs, ∃ y, DataW.trod enc P w base spare held fuel f.type ((cs.drop f.offset).take (P.cellsOf f.type)) = some y) → ∃ x : e.den, e.rep.rel w (cs.drop off) x
theorem opensF_nil {off : Nat} : OpensF P [] off .unit := fun _ _ _ _ _ _ cs hl _ => ⟨(), by
  show cs.drop off = []
  exact List.drop_eq_nil_of_le (by rw [hl]; exact Nat.le_refl _)⟩
theorem opensF_cons {a b : Ty} {f : Field} {fs : List Field} {off : Nat} (ho : f.offset = off) (hs : P.cellsOf f.type = a.size) (h1 : OpensD P f.type a) (h2 : OpensF P fs (off + a.size) b) : OpensF P (f :: fs) off (.pair a b) := fun enc w base spare held fuel cs hl h => by
  obtain ⟨y, hy⟩ := h f (by simp)
  obtain ⟨x, hx⟩ := h1 enc w base spare held fuel _ y hy
  have hl' : cs.length = off + (a.size + b.size) := hl
  obtain ⟨r, hr⟩ := h2 enc w base spare held fuel cs (by omega) fun g hg => h g (List.mem_cons_of_mem _ hg)
  rw [ho, hs] at hx
  refine ⟨(x, r), _, _, ?_, hx, hr⟩
  rw [← List.drop_drop, List.take_append_drop]
theorem opensD_struct {t : TypeId} {e : Ty} {fs : Array Field} (ht : P.underlying t = some (.struct fs)) (hs : P.cellsOf t = e.size) (h : OpensF P fs.toList 0 e) : OpensD P t e := fun enc w base spare held fuel cs y hy => by
  obtain ⟨xs, n, _, _, hlen, hxl, hf⟩ := DataW.trod_struct ht hy
  obtain ⟨x, hx⟩ := h enc w base spare held n cs (by rw [hlen, hs]; omega) fun f hm => by
    obtain ⟨i, hi⟩ := List.getElem?_of_mem hm
    have hi' : fs[i]? = some f := by simpa using hi
    have hlt : i < xs.length := by rw [hxl]; exact (Array.getElem?_eq_some_iff.1 hi').1
    exact ⟨xs[i], by rw [hf i f hi', List.getElem?_eq_getElem hlt]⟩
  rw [List.drop_zero] at hx
  exact ⟨x, hx⟩
theorem opensD_int {k : IntKind} {t : TypeId} (ht : P.underlying t = some (.int k)) : OpensD P t (.int k) := fun _ _ _ _ _ _ _ _ h => by
  obtain ⟨n, hc, _, hw⟩ := DataW.trod_int ht h
  exact ⟨n, hc, hw⟩
def fit (P : Program) : Ty → TypeId ⊕ (List Field × Nat) → Bool
  | .int k, .inl t => match P.underlying t with
    | some (.int k') => IntKind.beq k k'
    | _ => false
  | .u8, .inl t => match P.underlying t with
    | some (.int .u8) => true
    | _ => false
  | .str, .inl t => match P.underlying t with
    | some .string => true
    | _ => false
  | .bool, .inl t => match P.underlying t with
    | some .bool => true
    | _ => false
  | .sl e, .inl t => match P.underlying t with
    | some (.slice et) => Nat.beq (P.cellsOf et) e.size && fit P e (.inl et)
    | _ => false
  | .unit, .inr ([], _) => true
  | .pair a b, .inr (f :: fs, off) => Nat.beq f.offset off && (Nat.beq (P.cellsOf f.type) a.size && (fit P a (.inl f.type) && fit P b (.inr (fs, off + a.size))))
  | .pair a b, .inl t => match P.underlying t with
    | some (.struct fs) => match fs.toList with
      | f :: r => Nat.beq (P.cellsOf t) (a.size + b.size) && (Nat.beq f.offset 0 && (Nat.beq (P.cellsOf f.type) a.size && (fit P a (.inl f.type) && fit P b (.inr (r, a.size)))))
      | [] => false
    | _ => false
  | _, _ => false
theorem fit_ok : ∀ (e : Ty), (∀ t, fit P e (.inl t) = true → OpensD P t e) ∧ ∀ fs off, fit P e (.inr (fs, off)) = true → OpensF P fs off e
  | .int k => by
    refine ⟨fun t h => ?_, fun fs off h => by simp [fit] at h⟩
    unfold fit at h
    split at h
    · rename_i k' hk
      rw [IntKind.eq_of_beq h]
      exact opensD_int hk
    · cases h
  | .u8 => by
    refine ⟨fun t h => ?_, fun fs off h => by simp [fit] at h⟩
    unfold fit at h
    split at h
    · rename_i hk; exact opens_byte hk
    · cases h
  | .str => by
    refine ⟨fun t h => ?_, fun fs off h => by simp [fit] at h⟩
    unfold fit at h
    split at h
    · rename_i hk; exact opens_str hk
    · cases h
  | .bool => by
    refine ⟨fun t h => ?_, fun fs off h => by simp [fit] at h⟩
    unfold fit at h
    split at h
    · rename_i hk; exact opens_bool hk
    · cases h
  | .unit => by
    refine ⟨fun t h => by simp [fit] at h, fun fs off h => ?_⟩
    cases fs with
    | nil => exact opensF_nil
    | cons f r => simp [fit] at h
  | .sl e => by
    refine ⟨fun t h => ?_, fun fs off h => by simp [fit] at h⟩
    unfold fit at h
    split at h
    · rename_i et hk
      rw [Bool.and_eq_true] at h
      exact @opens_list P t et e.den e.rep hk ((Nat.eq_of_beq_eq_true h.1).trans e.rep_size.symm) ((fit_ok e).1 et h.2)
    · cases h
  | .pair a b => by
    refine ⟨fun t h => ?_, fun fs off h => ?_⟩
    · unfold fit at h
      split at h
      · rename_i fs hk
        split at h
        · rename_i f r hf
          simp only [Bool.and_eq_true] at h
          obtain ⟨h1, h2, h3, h4, h5⟩ := h
          refine opensD_struct (e := .pair a b) hk (Nat.eq_of_beq_eq_true h1) ?_
          rw [hf]
          refine opensF_cons (Nat.eq_of_beq_eq_true h2) (Nat.eq_of_beq_eq_true h3) ((fit_ok a).1 _ h4) ?_
          rw [Nat.zero_add]
          exact (fit_ok b).2 _ _ h5
        · cases h
      · cases h
    · cases fs with
      | nil => simp [fit] at h
      | cons f r =>
        unfold fit at h
        simp only [Bool.and_eq_true] at h
        obtain ⟨h2, h3, h4, h5⟩ := h
        exact opensF_cons (Nat.eq_of_beq_eq_true h2) (Nat.eq_of_beq_eq_true h3) ((fit_ok a).1 _ h4) ((fit_ok b).2 _ _ h5)
theorem open_sl {t : TypeId} {e : Ty} (hf : fit P (.sl e) (.inl t) = true) {H : Type} {enc : TypeId × Value → H} {w : World} {base : Nat} {spare : Nat → Bool} {held : Bool} {v : Value} {d : DataW H} {ps : List MemPlace}
    (hv : v.cells = #[v]) (h : DataW.Trod enc P w base spare held t v d ps) : ∃ x : List e.den, IsD e w v x :=
  @open_one P t (List e.den) (listRep e.den e.rep) ((fit_ok (.sl e)).1 t hf) rfl H enc w base spare held v d ps hv h
theorem Wp.run {I : Base → Prop} {f : FuncId} {args : List SV} {vs : List Value} {w : World} {b : Bool} (hI : I ⟨w, w⟩) (h : Wp I P f args [] fun v _ => v = SV.bool b) (hv : RelVs [] w args vs) : Ret P f vs.toArray w fun v w' => v = .bool b ∧ Le w w' := by
  have S : SL ⟨w, w⟩ w w [] := SL.start (Sees.refl w)
  refine (h ⟨w, w⟩ hI w w [] [] vs ⟨S, rfl⟩ hv).mono fun v w' ⟨E', g', sv, H', _, _, S', r, q⟩ => ?_
  subst q
  exact ⟨r.1, S'.sl.toLe⟩
end
end Go.Lm

namespace Go.Proofs
open Go Go.Lm Go.RowKit
set_option maxRecDepth 1000000
def c_same11 : Ct
  | [.v (.c ca), .v (.c cb)], [], Q => (match (Ty.sl xaTy).of [ca] with
    | some (a, []) => (match (Ty.sl xaTy).of [cb] with
    | some (b, []) => a = b ∧ Q (.bool true) []
    | _ => False)
    | _ => False)
  | _, _, _ => False
noncomputable def XB868 : Vx := { P := Tryz.prog, ct := [], ty := tyTab, hold := [] }
theorem XB868_ok : CtOk Inv Tryz.prog XB868.ct := CtOk.nil _ _
def vc_same11 : (List (xaTy).den) → (List (xaTy).den) → (SV → List HO → Prop) → Prop :=
 fun a b Q => List.length a ≤ 9223372036854775807 → List.length b ≤ 9223372036854775807 → List.length a ≤ 9223372036854775807 → List.length b ≤ 9223372036854775807 → br ((a.length : Int) != (b.length : Int)) (Q (.v (.c (.k (.bool false)))) 
 []) (LoopP (fun i again => List.length a ≤ 9223372036854775807 → br (decide (i.1.1 < (a.length : Int))) (0 ≤ i.1.1 ∧ i.1.1 < (a.length : Int) ∧ (Ty.ok xaTy (ixD xaTy a i.1.1) → 0 ≤ i.1.1 ∧ i.1.1 < (b.length : Int) ∧ (Ty.ok xaTy (ixD xaTy b 
 i.1.1) → br (!sEq (ixD xaTy a i.1.1).1 (ixD xaTy b i.1.1).1) (Q (.v (.c (.k (.bool false)))) []) (0 ≤ i.1.1 ∧ i.1.1 < (a.length : Int) ∧ (Ty.ok xaTy (ixD xaTy a i.1.1) → 0 ≤ i.1.1 ∧ i.1.1 < (b.length : Int) ∧ (Ty.ok xaTy (ixD xaTy b i.1.1) 
 → br (!sEq (bstr (ixD xaTy a i.1.1).2.1) (bstr (ixD xaTy b i.1.1).2.1)) (Q (.v (.c (.k (.bool false)))) []) (inK .i64 (i.1.1 + 1) ∧ again ((i.1.1 + 1, ()), ())))))))) (Q (.v (.c (.k (.bool true)))) [])) (((0 : Int), ()), ()))
theorem vc_same11_eq (a : List (xaTy).den) (b : List (xaTy).den) (Q : SV → List HO → Prop) : vFun XB868 ⟨[(5, ⟨[(5, .int .i64)], []⟩)], []⟩ Tryz.f72 [.c (.d xaTy a), .c (.d xaTy b)] [] Q = vc_same11 a b Q := by kernel_rfl
theorem w_same11 : ∀ args H Q, c_same11 args H Q → Wp Inv Tryz.prog 72 args H Q := by
  intro args H Q h
  unfold c_same11 at h
  split at h
  rotate_left
  · exact h.elim
  rename_i ca cb
  split at h
  rotate_left
  · exact h.elim
  rename_i a ha
  split at h
  rotate_left
  · exact h.elim
  rename_i b hb
  refine Wp.said (args' := [.c (.d xaTy a), .c (.d xaTy b)]) (fun E g => RelVs.cons1 (of_list ha) (RelVs.cons1 (of_list hb) (fun _ h => h))) ?_
  clear ha hb
  refine Wp.enter (X := XB868) XB868_ok ⟨[(5, ⟨[(5, .int .i64)], []⟩)], []⟩ (fn := Tryz.f72) (by kernel_rfl) ?_
  have hv := vc_same11_eq a b Q
  rw [show vFun _ _ _ _ _ _ = _ from hv]
  unfold vc_same11
  obtain ⟨rfl, h⟩ := h
  intro _ _ _ _
  refine br_of (fun h1 => by simp at h1) (fun _ => ?_)
  refine LoopP.intro (fun i => 0 ≤ i.1.1) (fun i => a.length - i.1.1.toNat) (Int.le_refl _) ?_
  rintro ⟨⟨k, _⟩, _⟩ k0
  simp only at k0 ⊢
  intro _
  refine br_of (fun hc => ?_) (fun _ => h)
  have hc : k < (a.length : Int) := of_decide_eq_true hc
  refine ⟨k0, hc, fun _ => ⟨k0, hc, fun _ => br_of (fun h1 => ?_) (fun _ => ⟨k0, hc, fun _ => ⟨k0, hc, fun _ => br_of (fun h1 => ?_) (fun _ => ⟨by unfold inK; omega, by omega, by omega⟩)⟩⟩)⟩⟩
  all_goals (rw [sEq_iff.2 rfl] at h1; cases h1)
def c_same17 : Ct
  | [.v (.c ca), .v (.c cb)], [], Q => (match (Ty.sl xaTy).of [ca] with
    | some (a, []) => (match (Ty.sl xaTy).of [cb] with
    | some (b, []) => a = b ∧ Q (.bool true) []
    | _ => False)
    | _ => False)
  | _, _, _ => False
noncomputable def XB869 : Vx := { P := Tryz.prog, ct := (72, c_same11) :: XB868.ct, ty := tyTab, hold := [] }
theorem XB869_ok : CtOk Inv Tryz.prog XB869.ct := CtOk.cons w_same11 (XB868_ok)
def vc_same17 : (List (xaTy).den) → (List (xaTy).den) → (SV → List HO → Prop) → Prop :=
 fun a b Q => List.length a ≤ 9223372036854775807 → List.length b ≤ 9223372036854775807 → a = b ∧ Q (.v (.c (.k (.bool true)))) []
theorem vc_same17_eq (a : List (xaTy).den) (b : List (xaTy).den) (Q : SV → List HO → Prop) : vFun XB869 ⟨[], []⟩ Tryz.f26 [.c (.d xaTy a), .c (.d xaTy b)] [] Q = vc_same17 a b Q := by kernel_rfl
theorem w_same17 : ∀ args H Q, c_same17 args H Q → Wp Inv Tryz.prog 26 args H Q := by
  intro args H Q h
  unfold c_same17 at h
  split at h
  rotate_left
  · exact h.elim
  rename_i ca cb
  split at h
  rotate_left
  · exact h.elim
  rename_i a ha
  split at h
  rotate_left
  · exact h.elim
  rename_i b hb
  refine Wp.said (args' := [.c (.d xaTy a), .c (.d xaTy b)]) (fun E g => RelVs.cons1 (of_list ha) (RelVs.cons1 (of_list hb) (fun _ h => h))) ?_
  clear ha hb
  refine Wp.enter (X := XB869) XB869_ok ⟨[], []⟩ (fn := Tryz.f26) (by kernel_rfl) ?_
  have hv := vc_same17_eq a b Q
  rw [show vFun _ _ _ _ _ _ = _ from hv]
  unfold vc_same17
  intro _ _
  exact h
def c_lgoes : Ct
  | [.v (.c cl), .v (.c (.k (.string s)))], [], Q => (match (Ty.sl noTy).of [cl] with
    | some (l, []) => Q (.bool true) []
    | _ => False)
  | _, _, _ => False
noncomputable def XB870 : Vx := { P := Tryz.prog, ct := [(18, c_shown), (19, c_kfew), (20, c_fill), (26, c_same17), (21, c_used), (22, c_look), (23, c_make), (24, c_read), (25, c_xattrs), (17, c_remove)], ty := tyTab, hold := [20, 26] }
theorem XB870_ok : CtOk Inv Tryz.prog XB870.ct := CtOk.cons w_shown (CtOk.cons w_kfew (CtOk.cons w_fill (CtOk.cons w_same17 (CtOk.cons w_used (CtOk.cons w_look (CtOk.cons w_make (CtOk.cons w_read (CtOk.cons w_xattrs (CtOk.cons w_remove (CtOk.nil _ _))))))))))
def vc_lgoes : (List (noTy).den) → (ByteArray) → (SV → List HO → Prop) → Prop :=
 fun l s Q => List.length l ≤ 9223372036854775807 → ByteArray.size s ≤ 9223372036854775807 → (↑(List.length (List.map clipN (List.take (40 : Nat) l))) : Int) ≤ (1000 : Int) ∧ br (checkU (List.map clipN (List.take (40 : Nat) l)) != 0) (inK 
 .i64 (checkU (List.map clipN (List.take (40 : Nat) l))) → br (checkU (List.map clipN (List.take (40 : Nat) l)) != 0) (br (checkU (List.map clipN (List.take (40 : Nat) l)) != 0) (Q (.v (.c (.k (.bool true)))) []) (Q (.v (.c (.k (.bool 
 false)))) [])) (br (checkU (List.map clipN (List.take (40 : Nat) l)) != 0) (Q (.v (.c (.k (.bool true)))) []) (Q (.v (.c (.k (.bool false)))) []))) (∀ (L' : List NoD), List.Perm L' (List.map clipN (List.take (40 : Nat) l)) → List.Pairwise 
 (fun x y => ¬cmpL y.1 x.1 < 0) L' → inK .i64 0 → UpY.Ok (fillGo L' [] (UpY.new (0 : Int) (0 : Int))) ∧ (inK .i64 (↑(List.length (fillGo L' [] (UpY.new (0 : Int) (0 : Int))).L) : Int) → inK .i64 (UpY.usedB (fillGo L' [] (UpY.new (0 : Int) (0 
 : Int)))) → UpY.Ok (fillGo L' [] (UpY.new (0 : Int) (0 : Int))) ∧ (ByteArray.size (UpY.lookD (fillGo L' [] (UpY.new (0 : Int) (0 : Int))) (1 : Int) s).1 ≤ 9223372036854775807 → inK .i64 (UpY.lookD (fillGo L' [] (UpY.new (0 : Int) (0 : 
 Int))) (1 : Int) s).2.1 → inK .i64 (UpY.lookD (fillGo L' [] (UpY.new (0 : Int) (0 : Int))) (1 : Int) s).2.2.1 → inK .i64 (UpY.lookE (fillGo L' [] (UpY.new (0 : Int) (0 : Int))) (1 : Int) s) → [UInt8.ofNat 110, UInt8.ofNat 101, UInt8.ofNat 
 119] ≠ [] ∧ UpY.Ok (fillGo L' [] (UpY.new (0 : Int) (0 : Int))) ∧ (inK .i64 (UpY.makeR (fillGo L' [] (UpY.new (0 : Int) (0 : Int))) (1 : Int) s ([], (0 : Int), (2 : Int), ((0 : Int), (0 : Int), (0 : Int), ()), [UInt8.ofNat 110, UInt8.ofNat 
 101, UInt8.ofNat 119], ByteArray.mk #[], [], false, ())) → inK .i64 (UpY.makeE (fillGo L' [] (UpY.new (0 : Int) (0 : Int))) (1 : Int) s ([], (0 : Int), (2 : Int), ((0 : Int), (0 : Int), (0 : Int), ()), [UInt8.ofNat 110, UInt8.ofNat 101, 
 UInt8.ofNat 119], ByteArray.mk #[], [], false, ())) → br (UpY.lookE (fillGo L' [] (UpY.new (0 : Int) (0 : Int))) (1 : Int) s == 0) (br (UpY.makeE (fillGo L' [] (UpY.new (0 : Int) (0 : Int))) (1 : Int) s ([], (0 : Int), (2 : Int), ((0 : 
 Int), (0 : Int), (0 : Int), ()), [UInt8.ofNat 110, UInt8.ofNat 101, UInt8.ofNat 119], ByteArray.mk #[], [], false, ()) == 21) (UpY.Ok (UpY.makeY (fillGo L' [] (UpY.new (0 : Int) (0 : Int))) (1 : Int) s ([], (0 : Int), (2 : Int), ((0 : Int), 
 (0 : Int), (0 : Int), ()), [UInt8.ofNat 110, UInt8.ofNat 101, UInt8.ofNat 119], ByteArray.mk #[], [], false, ())) ∧ (inK .i64 (↑(List.length (UpY.makeY (fillGo L' [] (UpY.new (0 : Int) (0 : Int))) (1 : Int) s ([], (0 : Int), (2 : Int), ((0 
 : Int), (0 : Int), (0 : Int), ()), [UInt8.ofNat 110, UInt8.ofNat 101, UInt8.ofNat 119], ByteArray.mk #[], [], false, ())).L) : Int) → inK .i64 (UpY.usedB (UpY.makeY (fillGo L' [] (UpY.new (0 : Int) (0 : Int))) (1 : Int) s ([], (0 : Int), (2 
 : Int), ((0 : Int), (0 : Int), (0 : Int), ()), [UInt8.ofNat 110, UInt8.ofNat 101, UInt8.ofNat 119], ByteArray.mk #[], [], false, ()))) → Q (.v (.c (.k (.bool ((↑(List.length (UpY.makeY (fillGo L' [] (UpY.new (0 : Int) (0 : Int))) (1 : Int) 
 s ([], (0 : Int), (2 : Int), ((0 : Int), (0 : Int), (0 : Int), ()), [UInt8.ofNat 110, UInt8.ofNat 101, UInt8.ofNat 119], ByteArray.mk #[], [], false, ())).L) : Int) == (↑(List.length (fillGo L' [] (UpY.new (0 : Int) (0 : Int))).L) : Int) && 
 (UpY.usedB (UpY.makeY (fillGo L' [] (UpY.new (0 : Int) (0 : Int))) (1 : Int) s ([], (0 : Int), (2 : Int), ((0 : Int), (0 : Int), (0 : Int), ()), [UInt8.ofNat 110, UInt8.ofNat 101, UInt8.ofNat 119], ByteArray.mk #[], [], false, ())) == 
 UpY.usedB (fillGo L' [] (UpY.new (0 : Int) (0 : Int))) && true)))))) [])) (Q (.v (.c (.k (.bool false)))) [])) (br (UpY.makeE (fillGo L' [] (UpY.new (0 : Int) (0 : Int))) (1 : Int) s ([], (0 : Int), (2 : Int), ((0 : Int), (0 : Int), (0 : 
 Int), ()), [UInt8.ofNat 110, UInt8.ofNat 101, UInt8.ofNat 119], ByteArray.mk #[], [], false, ()) != 0) (br (UpY.makeR (fillGo L' [] (UpY.new (0 : Int) (0 : Int))) (1 : Int) s ([], (0 : Int), (2 : Int), ((0 : Int), (0 : Int), (0 : Int), ()), 
 [UInt8.ofNat 110, UInt8.ofNat 101, UInt8.ofNat 119], ByteArray.mk #[], [], false, ()) == 0) (UpY.Ok (UpY.makeY (fillGo L' [] (UpY.new (0 : Int) (0 : Int))) (1 : Int) s ([], (0 : Int), (2 : Int), ((0 : Int), (0 : Int), (0 : Int), ()), 
 [UInt8.ofNat 110, UInt8.ofNat 101, UInt8.ofNat 119], ByteArray.mk #[], [], false, ())) ∧ (inK .i64 (↑(List.length (UpY.makeY (fillGo L' [] (UpY.new (0 : Int) (0 : Int))) (1 : Int) s ([], (0 : Int), (2 : Int), ((0 : Int), (0 : Int), (0 : 
 Int), ()), [UInt8.ofNat 110, UInt8.ofNat 101, UInt8.ofNat 119], ByteArray.mk #[], [], false, ())).L) : Int) → inK .i64 (UpY.usedB (UpY.makeY (fillGo L' [] (UpY.new (0 : Int) (0 : Int))) (1 : Int) s ([], (0 : Int), (2 : Int), ((0 : Int), (0 
 : Int), (0 : Int), ()), [UInt8.ofNat 110, UInt8.ofNat 101, UInt8.ofNat 119], ByteArray.mk #[], [], false, ()))) → Q (.v (.c (.k (.bool ((↑(List.length (UpY.makeY (fillGo L' [] (UpY.new (0 : Int) (0 : Int))) (1 : Int) s ([], (0 : Int), (2 : 
 Int), ((0 : Int), (0 : Int), (0 : Int), ()), [UInt8.ofNat 110, UInt8.ofNat 101, UInt8.ofNat 119], ByteArray.mk #[], [], false, ())).L) : Int) == (↑(List.length (fillGo L' [] (UpY.new (0 : Int) (0 : Int))).L) : Int) && (UpY.usedB (UpY.makeY 
 (fillGo L' [] (UpY.new (0 : Int) (0 : Int))) (1 : Int) s ([], (0 : Int), (2 : Int), ((0 : Int), (0 : Int), (0 : Int), ()), [UInt8.ofNat 110, UInt8.ofNat 101, UInt8.ofNat 119], ByteArray.mk #[], [], false, ())) == UpY.usedB (fillGo L' [] 
 (UpY.new (0 : Int) (0 : Int))) && true)))))) [])) (Q (.v (.c (.k (.bool false)))) [])) (UpY.Ok (UpY.makeY (fillGo L' [] (UpY.new (0 : Int) (0 : Int))) (1 : Int) s ([], (0 : Int), (2 : Int), ((0 : Int), (0 : Int), (0 : Int), ()), 
 [UInt8.ofNat 110, UInt8.ofNat 101, UInt8.ofNat 119], ByteArray.mk #[], [], false, ())) ∧ (inK .i64 (UpY.readE (UpY.makeY (fillGo L' [] (UpY.new (0 : Int) (0 : Int))) (1 : Int) s ([], (0 : Int), (2 : Int), ((0 : Int), (0 : Int), (0 : Int), 
 ()), [UInt8.ofNat 110, UInt8.ofNat 101, UInt8.ofNat 119], ByteArray.mk #[], [], false, ())) (UpY.makeR (fillGo L' [] (UpY.new (0 : Int) (0 : Int))) (1 : Int) s ([], (0 : Int), (2 : Int), ((0 : Int), (0 : Int), (0 : Int), ()), [UInt8.ofNat 
 110, UInt8.ofNat 101, UInt8.ofNat 119], ByteArray.mk #[], [], false, ())) (0 : Int) (9 : Int)) → UpY.Ok (UpY.makeY (fillGo L' [] (UpY.new (0 : Int) (0 : Int))) (1 : Int) s ([], (0 : Int), (2 : Int), ((0 : Int), (0 : Int), (0 : Int), ()), 
 [UInt8.ofNat 110, UInt8.ofNat 101, UInt8.ofNat 119], ByteArray.mk #[], [], false, ())) ∧ (inK .i64 (UpY.atE (UpY.makeY (fillGo L' [] (UpY.new (0 : Int) (0 : Int))) (1 : Int) s ([], (0 : Int), (2 : Int), ((0 : Int), (0 : Int), (0 : Int), 
 ()), [UInt8.ofNat 110, UInt8.ofNat 101, UInt8.ofNat 119], ByteArray.mk #[], [], false, ())) (UpY.makeR (fillGo L' [] (UpY.new (0 : Int) (0 : Int))) (1 : Int) s ([], (0 : Int), (2 : Int), ((0 : Int), (0 : Int), (0 : Int), ()), [UInt8.ofNat 
 110, UInt8.ofNat 101, UInt8.ofNat 119], ByteArray.mk #[], [], false, ()))) → UpY.xattrsD (UpY.makeY (fillGo L' [] (UpY.new (0 : Int) (0 : Int))) (1 : Int) s ([], (0 : Int), (2 : Int), ((0 : Int), (0 : Int), (0 : Int), ()), [UInt8.ofNat 110, 
 UInt8.ofNat 101, UInt8.ofNat 119], ByteArray.mk #[], [], false, ())) (UpY.makeR (fillGo L' [] (UpY.new (0 : Int) (0 : Int))) (1 : Int) s ([], (0 : Int), (2 : Int), ((0 : Int), (0 : Int), (0 : Int), ()), [UInt8.ofNat 110, UInt8.ofNat 101, 
 UInt8.ofNat 119], ByteArray.mk #[], [], false, ())) = [] ∧ br (UpY.readE (UpY.makeY (fillGo L' [] (UpY.new (0 : Int) (0 : Int))) (1 : Int) s ([], (0 : Int), (2 : Int), ((0 : Int), (0 : Int), (0 : Int), ()), [UInt8.ofNat 110, UInt8.ofNat 
 101, UInt8.ofNat 119], ByteArray.mk #[], [], false, ())) (UpY.makeR (fillGo L' [] (UpY.new (0 : Int) (0 : Int))) (1 : Int) s ([], (0 : Int), (2 : Int), ((0 : Int), (0 : Int), (0 : Int), ()), [UInt8.ofNat 110, UInt8.ofNat 101, UInt8.ofNat 
 119], ByteArray.mk #[], [], false, ())) (0 : Int) (9 : Int) == 0) (br (sEq (bstr (UpY.readD (UpY.makeY (fillGo L' [] (UpY.new (0 : Int) (0 : Int))) (1 : Int) s ([], (0 : Int), (2 : Int), ((0 : Int), (0 : Int), (0 : Int), ()), [UInt8.ofNat 
 110, UInt8.ofNat 101, UInt8.ofNat 119], ByteArray.mk #[], [], false, ())) (UpY.makeR (fillGo L' [] (UpY.new (0 : Int) (0 : Int))) (1 : Int) s ([], (0 : Int), (2 : Int), ((0 : Int), (0 : Int), (0 : Int), ()), [UInt8.ofNat 110, UInt8.ofNat 
 101, UInt8.ofNat 119], ByteArray.mk #[], [], false, ())) (0 : Int) (9 : Int))) (ByteArray.mk #[(110 : UInt8), (101 : UInt8), (119 : UInt8)])) (br (UpY.atE (UpY.makeY (fillGo L' [] (UpY.new (0 : Int) (0 : Int))) (1 : Int) s ([], (0 : Int), 
 (2 : Int), ((0 : Int), (0 : Int), (0 : Int), ()), [UInt8.ofNat 110, UInt8.ofNat 101, UInt8.ofNat 119], ByteArray.mk #[], [], false, ())) (UpY.makeR (fillGo L' [] (UpY.new (0 : Int) (0 : Int))) (1 : Int) s ([], (0 : Int), (2 : Int), ((0 : 
 Int), (0 : Int), (0 : Int), ()), [UInt8.ofNat 110, UInt8.ofNat 101, UInt8.ofNat 119], ByteArray.mk #[], [], false, ())) == 0) (UpY.Ok (UpY.makeY (fillGo L' [] (UpY.new (0 : Int) (0 : Int))) (1 : Int) s ([], (0 : Int), (2 : Int), ((0 : Int), 
 (0 : Int), (0 : Int), ()), [UInt8.ofNat 110, UInt8.ofNat 101, UInt8.ofNat 119], ByteArray.mk #[], [], false, ())) ∧ (inK .i64 (UpY.removeE (UpY.makeY (fillGo L' [] (UpY.new (0 : Int) (0 : Int))) (1 : Int) s ([], (0 : Int), (2 : Int), ((0 : 
 Int), (0 : Int), (0 : Int), ()), [UInt8.ofNat 110, UInt8.ofNat 101, UInt8.ofNat 119], ByteArray.mk #[], [], false, ())) (1 : Int) s) → br (UpY.removeE (UpY.makeY (fillGo L' [] (UpY.new (0 : Int) (0 : Int))) (1 : Int) s ([], (0 : Int), (2 : 
 Int), ((0 : Int), (0 : Int), (0 : Int), ()), [UInt8.ofNat 110, UInt8.ofNat 101, UInt8.ofNat 119], ByteArray.mk #[], [], false, ())) (1 : Int) s == 0) (UpY.Ok (UpY.removeY (UpY.makeY (fillGo L' [] (UpY.new (0 : Int) (0 : Int))) (1 : Int) s 
 ([], (0 : Int), (2 : Int), ((0 : Int), (0 : Int), (0 : Int), ()), [UInt8.ofNat 110, UInt8.ofNat 101, UInt8.ofNat 119], ByteArray.mk #[], [], false, ())) (1 : Int) s) ∧ (inK .i64 (↑(List.length (UpY.removeY (UpY.makeY (fillGo L' [] (UpY.new 
 (0 : Int) (0 : Int))) (1 : Int) s ([], (0 : Int), (2 : Int), ((0 : Int), (0 : Int), (0 : Int), ()), [UInt8.ofNat 110, UInt8.ofNat 101, UInt8.ofNat 119], ByteArray.mk #[], [], false, ())) (1 : Int) s).L) : Int) → inK .i64 (UpY.usedB 
 (UpY.removeY (UpY.makeY (fillGo L' [] (UpY.new (0 : Int) (0 : Int))) (1 : Int) s ([], (0 : Int), (2 : Int), ((0 : Int), (0 : Int), (0 : Int), ()), [UInt8.ofNat 110, UInt8.ofNat 101, UInt8.ofNat 119], ByteArray.mk #[], [], false, ())) (1 : 
 Int) s)) → Q (.v (.c (.k (.bool ((↑(List.length (UpY.removeY (UpY.makeY (fillGo L' [] (UpY.new (0 : Int) (0 : Int))) (1 : Int) s ([], (0 : Int), (2 : Int), ((0 : Int), (0 : Int), (0 : Int), ()), [UInt8.ofNat 110, UInt8.ofNat 101, 
 UInt8.ofNat 119], ByteArray.mk #[], [], false, ())) (1 : Int) s).L) : Int) == (↑(List.length (fillGo L' [] (UpY.new (0 : Int) (0 : Int))).L) : Int) && (UpY.usedB (UpY.removeY (UpY.makeY (fillGo L' [] (UpY.new (0 : Int) (0 : Int))) (1 : Int) 
 s ([], (0 : Int), (2 : Int), ((0 : Int), (0 : Int), (0 : Int), ()), [UInt8.ofNat 110, UInt8.ofNat 101, UInt8.ofNat 119], ByteArray.mk #[], [], false, ())) (1 : Int) s) == UpY.usedB (fillGo L' [] (UpY.new (0 : Int) (0 : Int))) && true)))))) 
 [])) (Q (.v (.c (.k (.bool false)))) []))) (Q (.v (.c (.k (.bool false)))) [])) (Q (.v (.c (.k (.bool false)))) [])) (Q (.v (.c (.k (.bool false)))) [])))))))))
theorem vc_lgoes_eq (l : List (noTy).den) (s : ByteArray) (Q : SV → List HO → Prop) : vFun XB870 ⟨[], []⟩ Tryz.f5 [.c (.d noTy l), .str s] [] Q = vc_lgoes l s Q := by kernel_rfl
theorem w_lgoes : ∀ args H Q, c_lgoes args H Q → Wp Inv Tryz.prog 5 args H Q := by
  intro args H Q h
  unfold c_lgoes at h
  split at h
  rotate_left
  · exact h.elim
  rename_i cl s
  split at h
  rotate_left
  · exact h.elim
  rename_i l hl
  refine Wp.said (args' := [.c (.d noTy l), .str s]) (fun E g => RelVs.cons1 (of_list hl) (RelVs.cons1 (fun _ h => h) (fun _ h => h))) ?_
  clear hl
  refine Wp.enter (X := XB870) XB870_ok ⟨[], []⟩ (fn := Tryz.f5) (by kernel_rfl) ?_
  have hv := vc_lgoes_eq l s Q
  rw [show vFun _ _ _ _ _ _ = _ from hv]
  unfold vc_lgoes
  clear hv
  intro _ _
  refine ⟨by rw [List.length_map, List.length_take]; omega, br_of (fun hc => fun _ => ?_) (fun hc => fun L' hp _ _ => ?_)⟩
  · rw [hc]; exact h
  have hn : L'.length ≤ 40 := by rw [hp.length_eq, List.length_map, List.length_take]; omega
  have hN := okN_fill L' [] (new_okN 0 0)
  clear hp hc
  generalize fillGo L' [] (UpY.new 0 0) = Y at *
  generalize hx : (([], (0 : Int), (2 : Int), ((0 : Int), (0 : Int), (0 : Int), ()), [UInt8.ofNat (110 : Nat), UInt8.ofNat (101 : Nat), UInt8.ofNat (119 : Nat)], ByteArray.mk #[], [], false, ()) : NoD) = x at *
  obtain rfl : x = newF := hx.symm
  clear hx
  have ok := hN.ok (by omega)
  have w := hN.wf
  have n2 : 2 ≤ Y.nx := by
    obtain ⟨y, hy, _⟩ := dirE_zero.1 w.root
    obtain ⟨q1, q2⟩ := at_mem hy
    have := (w.lo y q1).2
    omega
  have hM := okN_make hN 1 s newF
  have ok2 := hM.ok (by omega)
  have ok3 := (okN_remove hM 1 s).ok (by omega)
  have fin : ∀ a b : Int, Q (.bool (a == a && (b == b && true))) [] := fun a b => by rw [beq_self_eq_true, beq_self_eq_true]; exact h
  refine ⟨ok, fun _ _ => ⟨ok, fun _ _ _ _ => ⟨by simp, ok, fun _ _ => br_of (fun ha => ?_) (fun _ => br_of (fun hm => ?_) (fun hm => ?_))⟩⟩⟩
  · have hE := goes_there w (eq_of_beq ha) newF
    obtain ⟨hY, _⟩ := makeY_not (Y := Y) (d := 1) (s := s) (x := newF) (by rw [hE]; decide)
    rw [hE, hY]
    exact br_of (fun _ => ⟨ok, fun _ _ => fin _ _⟩) (fun q => absurd q (by decide))
  · have hm : ¬ Y.makeE 1 s newF = 0 := by simpa using hm
    obtain ⟨hY, hR⟩ := makeY_not hm
    rw [hY, hR]
    exact br_of (fun _ => ⟨ok, fun _ _ => fin _ _⟩) (fun q => absurd q (by decide))
  · have hm : Y.makeE 1 s newF = 0 := by simpa using hm
    obtain ⟨r1, r2, r3, r4⟩ := goes_read w hm
    have eR : Y.makeR 1 s newF = Y.nx := by unfold UpY.makeR; rw [if_pos hm]
    obtain ⟨b1, _, _⟩ := goes_back w n2 hm
    obtain ⟨u1, u2⟩ := goes_used w n2 hm
    rw [eR, r1, r2, r3, r4, b1, u1, u2]
    have e1 : sEq (bstr [110, 101, 119]) (ByteArray.mk #[110, 101, 119]) = true := sEq_iff.2 rfl
    refine ⟨ok2, fun _ => ⟨ok2, fun _ => ⟨(by first | exact True.intro | rfl), br_of (fun _ => br_of (fun _ => br_of (fun _ => ⟨ok2, fun _ => br_of (fun _ => ⟨ok3, fun _ _ => fin _ _⟩) (fun q => absurd q (by decide))⟩) (fun q => absurd q (by decide))) (fun q => ?_)) (fun q => absurd q (by decide))⟩⟩⟩
    rw [e1] at q; cases q
theorem goes_any (l : List NoD) (s : ByteArray) (v : Value) (W : World) (h0 : IsD noTy W v l) (h1 : s.size ≤ 9223372036854775807) : Ret Tryz.prog 5 #[v, .string s] W fun v w' => v = .bool true ∧ Le W w' :=
  Wp.run trivial (w_lgoes [.v (.c (.d noTy l)), .v (.c (.k (.string s)))] [] _ (by
    have e : (Ty.sl noTy).of [.d noTy l] = some (l, []) := by kernel_rfl
    unfold c_lgoes
    simp only [e])) ⟨v, [.string s], rfl, h0, .string s, [], rfl, ⟨rfl, h1⟩, rfl⟩
end Go.Proofs

