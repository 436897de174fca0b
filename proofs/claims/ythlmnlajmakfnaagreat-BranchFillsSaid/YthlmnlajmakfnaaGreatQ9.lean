/- Texts of mine, laid together: LmVze Srt LmYh LmYi LmYp LmYo LmYq LmYr LmYs B6 B7 LmWb B8 LmVzf LmYt B9 B9b LmYu B10 B12 B13 B14 B15. -/
import Derived.Test.YthlmnlajmakfnaaGreatQ8
import Derived.Test.YthlmnlajmakfnaaGreatQ7
import Derived.Shelf.SlSortCmp.InsertionK
import Derived.Shelf.SlSortCmp.WholeK
import Derived.Shelf.SlSortCmp.NoneTotal
import Derived.Test.YthlmnlajmakfnaaGreatChecked
import Derived.Test.YthlmnlajmakfnaaGreatProg
import Derived.Test.YthlmnlajmakfnaaGreatQ3
import Derived.Test.YthlmnlajmakfnaaGreatQ1
import Derived.Test.YthlmnlajmakfnaaGreatQ4
set_option linter.unusedVariables false
namespace Go.Lm
open Go Go.RowKit Go.Proofs
def SortC (P : Program) (f fk k : Nat) : Prop := ∀ {α : Type} [Inhabited α] (enc : α → List Value), (∀ x, (enc x).length = k) → (∀ x, ∀ v ∈ enc x, v.oneCell' = true) → ∀ (cf : α → α → Int), Sort.SWO (ltOf cf) → ∀ (blk off cap : Nat) (d : Array α) (w : World),
 CmpLays P fk #[] enc k cf blk off d.size w → Sort.HoldsK enc k w blk off d → blk < w.heap.size → d.size < 4611686018427387904 →
 Calls P f #[.slice (some ⟨blk, off, none⟩) d.size cap, .func (.func fk) #[] #[]] w fun e w' => e = .returned (.tuple #[]) ∧ ∃ d' n os, Sort.PermIn 0 d.size d d' ∧ Sort.SortedIn (ltOf cf) 0 d.size d' ∧ w' = Go.Proofs.sortWorldK enc k w blk off n d' os
def CmpC (P : Program) (fk : Nat) : Prop := ∀ (a a2 : Option Addr) (c c2 : Nat) (xs ys : List ByteArray) (p1 p2 p3 p4 p5 p6 p7 p8 p9 q1 q2 q3 q4 q5 q6 q7 q8 q9 : Value) (w : World), xs.length ≤ 9223372036854775807 → ys.length ≤ 9223372036854775807 →
  (∀ (j : Nat) x, xs[j]? = some x → ∃ bk o, a = some ⟨bk, o, none⟩ ∧ w.cell? ⟨bk, o + j, none⟩ = some (.string x)) →
  (∀ (j : Nat) x, ys[j]? = some x → ∃ bk o, a2 = some ⟨bk, o, none⟩ ∧ w.cell? ⟨bk, o + j, none⟩ = some (.string x)) →
  Calls P fk #[.agg #[.slice a xs.length c, p1, p2, p3, p4, p5, p6, p7, p8, p9], .agg #[.slice a2 ys.length c2, q1, q2, q3, q4, q5, q6, q7, q8, q9]] w fun e w' => e = .returned (.int .i64 (cmpL xs ys)) ∧ ∃ q os', w' = Sort.grow (w.drewN q) os'
theorem flat_get {k : Nat} : ∀ {l : List (List Value)}, (∀ x ∈ l, x.length = k) → ∀ {t : Nat}, t < l.length * k → ∃ c v, l[t / k]? = some c ∧ c[t % k]? = some v ∧ l.flatten[t]? = some v
 | [], _, t, h => by simp at h
 | c :: l, hl, t, h => by
  have hc := hl c (by simp)
  by_cases ht : t < k
  ·refine ⟨c, c[t]'(by omega), ?_, ?_, ?_⟩
   ·rw [Nat.div_eq_of_lt ht]; rfl
   ·rw [Nat.mod_eq_of_lt ht]; exact List.getElem?_eq_getElem (by omega)
   ·rw [List.flatten_cons, List.getElem?_append_left (by omega)]; exact List.getElem?_eq_getElem (by omega)
  ·have hk : 0 < k := by
    cases k with
    | zero => simp at h
    | succ _ => omega
   have h' : t - k < l.length * k := by
    rw [List.length_cons, Nat.add_mul] at h; omega
   obtain ⟨c', v, h1, h2, h3⟩ := flat_get (fun x hx => hl x (List.mem_cons_of_mem _ hx)) h'
   refine ⟨c', v, ?_, ?_, ?_⟩
   ·rw [Nat.div_eq_sub_div hk (by omega), List.getElem?_cons_succ]; exact h1
   ·rw [Nat.mod_eq_sub_mod (by omega)]; exact h2
   ·rw [List.flatten_cons, List.getElem?_append_right (by omega), hc]; exact h3
theorem flatK_list {α : Type} [Inhabited α] {enc : α → List Value} {k : Nat} (hk : ∀ x, (enc x).length = k) (d : Array α) : (Sort.flatK enc k d).toList = (d.toList.map enc).flatten := by
 have hl : ∀ x ∈ d.toList.map enc, x.length = k := fun x hx => by
  obtain ⟨y, _, rfl⟩ := List.mem_map.1 hx; exact hk y
 have hlen : (d.toList.map enc).flatten.length = d.size * k := by
  rw [List.length_flatten, List.map_map]
  have : (d.toList.map (List.length ∘ enc)) = List.replicate d.size k := by
   rw [List.eq_replicate_iff]
   refine ⟨by simp, fun x hx => ?_⟩
   obtain ⟨y, _, rfl⟩ := List.mem_map.1 hx; exact hk y
  rw [this, List.sum_replicate_nat]
 refine List.ext_getElem? fun t => ?_
 by_cases ht : t < d.size * k
 ·obtain ⟨c, v, h1, h2, h3⟩ := flat_get hl (t := t) (by simpa using ht)
  rw [h3]
  have hg := Sort.get_flatK enc k d t ht
  have hs : t < (Sort.flatK enc k d).size := by rw [Sort.size_flatK]; exact ht
  rw [getElem!_pos _ t hs] at hg
  have hdk : t / k < d.size := by
   rcases List.getElem?_eq_some_iff.1 h1 with ⟨q, _⟩
   simpa using q
  have hc : c = enc d[t / k] := by
   rw [List.getElem?_map] at h1
   simp only [Array.getElem?_toList, Array.getElem?_eq_getElem hdk, Option.map_some, Option.some.injEq] at h1
   exact h1.symm
  rw [Array.getElem?_toList, Array.getElem?_eq_getElem hs, hg, getElem!_pos d _ hdk, ← hc]
  obtain ⟨q, e⟩ := List.getElem?_eq_some_iff.1 h2
  rw [getElem!_pos c _ q, e]
 ·rw [List.getElem?_eq_none (by simpa using Nat.le_of_not_lt ht), List.getElem?_eq_none (by omega)]
structure RowN (g : World) where
 cs : List Value
 x : NoD
 rel : noTy.rep.rel g cs x
theorem RowN.len {g : World} (r : RowN g) : r.cs.length = 10 := by
 have := noTy.rep.len r.rel; rw [Ty.rep_size] at this; exact this
theorem RowN.names {g : World} (r : RowN g) : ∃ a c p1 p2 p3 p4 p5 p6 p7 p8 p9, r.cs = [.slice a r.x.1.length c, p1, p2, p3, p4, p5, p6, p7, p8, p9] ∧ r.x.1.length ≤ 9223372036854775807 ∧ ∀ (j : Nat) s, r.x.1[j]? = some s → ∃ bk o, a = some ⟨bk, o, none⟩ ∧ g.cell? ⟨bk, o + j, none⟩ = some (.string s) := by
 have hl := r.len
 obtain ⟨cs, x, c1, c2, e, ⟨v, hc1, hs⟩, _⟩ := r
 simp only at e hl ⊢
 subst e
 subst hc1
 have hl2 : c2.length = 9 := by simpa using hl
 match c2, hl2 with
 | [p1, p2, p3, p4, p5, p6, p7, p8, p9], _ =>
  rcases hs with ⟨rfl, hx⟩ | ⟨a, cap, rfl, h1, h2, h3⟩
  ·refine ⟨none, 0, p1, p2, p3, p4, p5, p6, p7, p8, p9, ?_, ?_, ?_⟩
   ·rw [hx]; rfl
   ·rw [hx]; simp
   ·intro j s hj; rw [hx] at hj; simp at hj
  ·refine ⟨some a, cap, p1, p2, p3, p4, p5, p6, p7, p8, p9, rfl, Nat.le_trans h1 h2, fun j s hj => ?_⟩
   obtain ⟨cs, hc, hr⟩ := h3 j s hj
   obtain ⟨rfl, _⟩ : cs = [.string s] ∧ _ := hr
   have h4 := hc 0 (.string s) rfl
   have h0 : ∃ s0, x.1[0]? = some s0 := ⟨x.1[0]'(by have := (List.getElem?_eq_some_iff.1 hj).1; omega), List.getElem?_eq_getElem _⟩
   obtain ⟨s0, hs0⟩ := h0
   obtain ⟨cs0, hc0, hr0⟩ := h3 0 s0 hs0
   obtain ⟨rfl, _⟩ : cs0 = [.string s0] ∧ _ := hr0
   have h5 := hc0 0 (.string s0) rfl
   obtain ⟨bk, o, sp⟩ := a
   have hsp : sp = none := by
    cases sp with
    | none => rfl
    | some z =>
     have : g.cell? ⟨bk, o, some z⟩ = some (.string s0) := by simpa [Addr.add] using h5
     unfold World.cell? at this
     split at this <;> simp at this
   subst hsp
   refine ⟨bk, o, rfl, ?_⟩
   have e : (⟨bk, o, none⟩ : Addr).add (j * GoRep.size ByteArray + 0) = ⟨bk, o + j, none⟩ := by
    have : j * GoRep.size ByteArray + 0 = j := by show j * 1 + 0 = j; omega
    rw [this]; unfold Addr.add; split
    ·rename_i h; rw [h]; rfl
    ·rfl
   exact e ▸ h4
theorem relRows {g : World} : ∀ {cs : List (List Value)} {xs : List NoD}, @RelL NoD noTy.rep g cs xs → ∃ rows : List (RowN g), rows.map (·.cs) = cs ∧ rows.map (·.x) = xs
 | [], [], _ => ⟨[], rfl, rfl⟩
 | c :: cs, x :: xs, h => by
  obtain ⟨rows, h1, h2⟩ := relRows (cs := cs) (xs := xs) h.2
  exact ⟨⟨c, x, h.1⟩ :: rows, by rw [List.map_cons, h1], by rw [List.map_cons, h2]⟩
 | [], _ :: _, h => h.elim
 | _ :: _, [], h => h.elim
theorem rowsRel {g : World} : ∀ (rows : List (RowN g)), @RelL NoD noTy.rep g (rows.map (·.cs)) (rows.map (·.x))
 | [] => trivial
 | r :: rows => ⟨r.rel, rowsRel rows⟩
theorem cell_grow {w : World} {os : Array Obj} {a : Addr} {v : Value} (h : w.cell? a = some v) : (Sort.grow w os).cell? a = some v := by
 unfold World.cell? at h ⊢
 split at h
 ·rename_i c e z hb
  have : (Sort.grow w os).heap[a.block]? = some (.cells c e z) := by
   show (w.heap ++ os)[a.block]? = _
   rw [Array.getElem?_append_left (Array.getElem?_eq_some_iff.1 hb).1]; exact hb
  rw [this]; exact h
 ·cases h
theorem swo_names {g : World} : Sort.SWO (ltOf fun x y : RowN g => cmpL x.x.1 y.x.1) where
 irrefl x := by
  unfold ltOf
  have := cmpL_self x.x.1
  simp only [this]; decide
 trans x y z h k := by
  unfold ltOf at *
  simp only [decide_eq_true_eq] at *
  exact cmpL_trans h k
 ntrans x y z h k := by
  unfold ltOf at *
  simp only [decide_eq_false_iff_not] at *
  exact cmpL_ntrans h k
theorem Wp.sortNodes {I : Base → Prop} {P : Program} {f fk : Nat} {tN : TypeId} {L : List NoD} {Q : SV → List HO → Prop} (hS : SortC P f fk 10) (hN : ∀ (p : Option Addr) (cap : Nat) (fv : Value) (w : World), Calls P f #[.slice p 0 cap, fv] w fun e w' => e = .returned (.tuple #[]) ∧ w' = w) (hC : CmpC P fk)
  (hL : L.length < 4611686018427387904) (hq : ∀ L' : List NoD, L'.Perm L → L'.Pairwise (fun x y => ¬ cmpL y.1 x.1 < 0) → Q (.tup []) [.sl tN noTy L']) :
  Wp I P f [.v (.c (.o 0)), .v (.c (.fn fk []))] [.sl tN noTy L] Q := by
 intro W hW g w E F vs S hvs
 obtain ⟨u1, r1, rfl, ⟨hE, _⟩, hv2⟩ := hvs
 obtain ⟨u2, r2, rfl, ⟨us, hus, rfl⟩, hr2⟩ := hv2
 obtain rfl : us = [] := hus
 obtain rfl : r2 = [] := hr2
 letI := noTy.rep
 have H1 : SL W g w (slO noTy tN u1 L :: F) := S.sl.weak fun h ⟨k1, k2, ap, q, ⟨v, hv, s1⟩, s2⟩ => by
  rw [hE] at hv
  obtain rfl := Option.some.inj hv
  exact ⟨k1, k2, ap, q, s1, s2⟩
 obtain ⟨cs, rel, H2⟩ := H1.slO
 obtain ⟨rows, hcs, hxs⟩ := relRows rel
 have hln : rows.length = L.length := by rw [← hxs, List.length_map]
 have same : L = [] → Q (.tup []) [.sl tN noTy L] := fun e => by
  subst e
  exact hq [] (List.Perm.refl _) List.Pairwise.nil
 have nil : ∀ (p : Option Addr) (cap : Nat), u1 = .slice p 0 cap → L = [] → Ret P f #[u1, .func (.func fk) #[] [].toArray] w fun v w' => ∃ E' g' sv H', EnvLe E E' ∧ Mono g g' ∧ Sat W E' g' w' H' F ∧ RelV E' g' sv v ∧ Q sv H' := fun p cap hu he => by
  subst hu
  refine (Ret.of (hN p cap _ w)).mono fun v w' ⟨h1, h2⟩ => ?_
  subst h1; subst h2
  exact ⟨E, g, .tup [], _, EnvLe.refl E, Mono.refl g, S, ⟨[], rfl, rfl⟩, same he⟩
 rcases H2.row.2 with ⟨rfl, h0⟩ | ⟨k, cap, cur, rfl, hbk, hcell, hn, hcap, hcur, htake⟩
 ·exact nil none 0 rfl (List.eq_nil_of_length_eq_zero h0)
 by_cases hz : L = []
 ·subst hz; exact nil _ _ rfl rfl
 obtain ⟨r0, hr0⟩ : ∃ r, r ∈ rows := List.exists_mem_of_ne_nil rows fun e => hz (by rw [← hxs, e]; rfl)
 letI : Inhabited (RowN g) := ⟨r0⟩
 have hk : ∀ x : RowN g, x.cs.length = 10 := fun x => x.len
 have hno : NotIn g k := by
  obtain ⟨h, be, s, ow, h1, h2, ap, rfl, ⟨hl, hv⟩, s2⟩ := H2
  rcases hv with ⟨hv, _⟩ | ⟨k', cap', cur', hv, hk', _⟩
  ·cases hv
  ·have : k = k' := by
    injection hv with e1 _ _
    injection e1 with e1
    injection e1
   subst this
   exact (ow k _ (Hp.join_left hk')).2.2
 have hF : (Sort.flatK (fun x : RowN g => x.cs) 10 rows.toArray).toList = cur.toList.take (L.length * 10) := by
  rw [flatK_list hk]
  show (rows.map (·.cs)).flatten = _
  rw [hcs, ← htake]; rfl
 have hHolds : Sort.HoldsK (fun x : RowN g => x.cs) 10 w k 0 rows.toArray := fun j hj => by
  have hj' : j < (cur.toList.take (L.length * 10)).length := by rw [← hF]; simpa using hj
  have e1 : (Sort.flatK (fun x : RowN g => x.cs) 10 rows.toArray)[j]? = cur[j]? := by
   rw [← Array.getElem?_toList, hF, List.getElem?_take, if_pos (by simp at hj'; omega), Array.getElem?_toList]
  have e2 : (Sort.flatK (fun x : RowN g => x.cs) 10 rows.toArray)[j]? = some (Sort.flatK (fun x : RowN g => x.cs) 10 rows.toArray)[j]! := by
   rw [getElem!_pos _ j hj]; exact Array.getElem?_eq_getElem hj
  refine ⟨?_, ?_⟩
  ·simp only [World.cell?, hcell, Nat.zero_add]
   rw [← e1, e2]; rfl
  ·simp [World.frozen?, hcell]
 have hcmp : CmpLays P fk #[] (fun x : RowN g => x.cs) 10 (fun x y => cmpL x.x.1 y.x.1) k 0 rows.toArray.size w := fun m os dk _ x y => by
  obtain ⟨a, c, p1, p2, p3, p4, p5, p6, p7, p8, p9, ex, lx, hx⟩ := x.names
  obtain ⟨a2, c2, q1, q2, q3, q4, q5, q6, q7, q8, q9, ey, ly, hy⟩ := y.names
  have seen : ∀ bk o s, g.cell? ⟨bk, o, none⟩ = some (.string s) → (Go.Proofs.sortWorldK (fun x : RowN g => x.cs) 10 w k 0 m dk os).cell? ⟨bk, o, none⟩ = some (.string s) := fun bk o s hg => by
   refine cell_grow ?_
   have hne : bk ≠ k := fun e => by
    have := hno ⟨bk, o, none⟩ e
    rw [this] at hg; cases hg
   rw [Sort.cell?_putRowK_other (h := hne), Sort.cell?_ahead]
   exact S.sl.m _ _ hg
  have := hC a a2 c c2 x.x.1 y.x.1 p1 p2 p3 p4 p5 p6 p7 p8 p9 q1 q2 q3 q4 q5 q6 q7 q8 q9 (Go.Proofs.sortWorldK (fun x : RowN g => x.cs) 10 w k 0 m dk os) lx ly
   (fun j s hj => by obtain ⟨bk, o, e, h⟩ := hx j s hj; exact ⟨bk, o, e, seen _ _ _ h⟩) (fun j s hj => by obtain ⟨bk, o, e, h⟩ := hy j s hj; exact ⟨bk, o, e, seen _ _ _ h⟩)
  have e : (#[Value.agg x.cs.toArray, Value.agg y.cs.toArray] ++ #[] : Array Value) = #[.agg #[.slice a x.x.1.length c, p1, p2, p3, p4, p5, p6, p7, p8, p9], .agg #[.slice a2 y.x.1.length c2, q1, q2, q3, q4, q5, q6, q7, q8, q9]] := by rw [ex, ey]; rfl
  show Calls P fk (#[Value.agg x.cs.toArray, Value.agg y.cs.toArray] ++ #[]) _ _
  rw [e]; exact this
 have hrun := hS (fun x : RowN g => x.cs) hk (fun x v hv => (oneCellsTy noTy).one x.rel v hv) (fun x y => cmpL x.x.1 y.x.1) swo_names k 0 cap rows.toArray w hcmp hHolds (at_lt hcell) (by simpa [hln] using hL)
 have hsz : rows.toArray.size = L.length := by simpa using hln
 rw [hsz] at hrun
 refine (Ret.of hrun).mono fun v w' ⟨hv, d', n, os, hp, hso, hw'⟩ => ?_
 subst hv
 have hd : d'.size = L.length := hp.1.trans hsz
 have hperm : d'.toList.Perm rows := by
  have := hp.2.2
  rw [← hd] at this
  rw [show d'.extract 0 d'.size = d' by simp, show rows.toArray.extract 0 d'.size = rows.toArray by rw [hd, ← hsz]; simp] at this
  simpa using this
 have hb : w'.heap[k]? = some (.cells (Sort.putCells id 0 (Sort.flatK (fun x : RowN g => x.cs) 10 d') cur) tN (0, 0)) := by
  rw [hw']
  show ((w.heap.modify k (Sort.onCells (Sort.putCells id 0 (Sort.flatK (fun x : RowN g => x.cs) 10 d')))) ++ os)[k]? = _
  rw [Array.getElem?_append_left (by rw [Array.size_modify]; exact at_lt hcell), Array.getElem?_modify, if_pos rfl, hcell]
  rfl
 have hFs : (Sort.flatK (fun x : RowN g => x.cs) 10 d').size = L.length * 10 := by rw [Sort.size_flatK, hd]
 have hcs' : (Sort.putCells id 0 (Sort.flatK (fun x : RowN g => x.cs) 10 d') cur).size = cur.size := by unfold Sort.putCells; simp
 have hle : L.length * 10 ≤ cur.size := by rw [hcur]; exact Nat.mul_le_mul_right _ hn
 have htk : (Sort.putCells id 0 (Sort.flatK (fun x : RowN g => x.cs) 10 d') cur).toList.take (L.length * 10) = (d'.toList.map (·.cs)).flatten := by
  rw [← flatK_list hk]
  refine List.ext_getElem? fun j => ?_
  by_cases hj : j < L.length * 10
  ·rw [List.getElem?_take, if_pos hj, Array.getElem?_toList, Array.getElem?_toList]
   unfold Sort.putCells
   rw [Array.getElem?_mapIdx, Array.getElem?_eq_getElem (by omega : j < cur.size), Option.map_some, if_pos ⟨Nat.zero_le _, by rw [hFs]; omega⟩, Nat.sub_zero, getElem!_pos _ j (by rw [hFs]; exact hj), Array.getElem?_eq_getElem (by rw [hFs]; exact hj)]
   rfl
  ·rw [List.getElem?_eq_none (by rw [List.length_take]; omega), List.getElem?_eq_none (by rw [Array.length_toList, hFs]; omega)]
 have hgrow : w.grownBy w' (some k) := by
  rw [hw']
  refine ⟨rfl, rfl, rfl, ?_, fun j hj hne => ?_⟩
  ·show w.heap.size ≤ ((w.heap.modify k _) ++ os).size
   rw [Array.size_append, Array.size_modify]; omega
  ·show ((w.heap.modify k _) ++ os)[j]? = _
   rw [Array.getElem?_append_left (by rw [Array.size_modify]; exact hj), Array.getElem?_modify, if_neg (fun e => hne (by rw [e]))]
 have hlen : ((d'.toList.map (·.cs)).flatten).length = L.length * 10 := by rw [← flatK_list hk, Array.length_toList, hFs]
 have H3 := H2.grown (v' := .slice (some ⟨k, 0, none⟩) L.length cap) (n' := L.length) (xs' := (d'.toList.map (·.cs)).flatten) (w' := w') ⟨hlen, .inr ⟨k, cap, _, rfl, hbk, hb, hn, hcap, by rw [hcs']; exact hcur, htk⟩⟩ hgrow (fun q hq => .inl hq)
 have hxl : (d'.toList.map (·.x)).length = L.length := by rw [List.length_map, Array.length_toList, hd]
 have H4 : SL W g w' (slO noTy tN (.slice (some ⟨k, 0, none⟩) L.length cap) (d'.toList.map (·.x)) :: F) := by
  refine SL.slI (cs := d'.toList.map (·.cs)) (rowsRel _) ?_
  rw [hxl]; exact H3
 have hpL : (d'.toList.map (·.x)).Perm L := by rw [← hxs]; exact hperm.map _
 refine ⟨E, g, .tup [], [.sl tN noTy (d'.toList.map (·.x))], EnvLe.refl E, Mono.refl g, ⟨H4.weak fun h ⟨k1, k2, ap, q, s1, s2⟩ => ⟨k1, k2, ap, q, ⟨_, hE, s1⟩, s2⟩, S.len⟩, ⟨[], rfl, rfl⟩, hq _ hpL ?_⟩
 rw [List.pairwise_map, List.pairwise_iff_getElem]
 intro i j hi hj hij
 have hi' : i < d'.size := by simpa using hi
 have hj' : j < d'.size := by simpa using hj
 have := hso i j (Nat.zero_le _) hij (by omega)
 rw [getElem!_pos d' i hi', getElem!_pos d' j hj'] at this
 unfold ltOf at this
 simpa using this
end Go.Lm

namespace Go.Proofs
open Go Go.Shelf Go.Lm
set_option maxRecDepth 1000000
def Tryz.sortN_ren : Go.Shelf.Ren := ⟨fun | 6 => 63 | 15 => 110 | 14 => 109 | 28 => 143 | 29 => 144 | 20 => 135 | 21 => 136 | 22 => 137 | 23 => 138 | 24 => 139 | 25 => 140 | 26 => 141 | 27 => 142 | 46 => 158 | 47 => 159 | 48 => 160 | 49 => 161 | 50 => 162 | 57 => 172 | n => n, fun | 22 => 48 | 24 => 36 | 25 => 106 | 3 => 3 | 39 => 139 | 0 => 0 | 53 => 174 | 55 => 176 | 4 => 4 | 46 => 168 | 45 => 167 | 50 => 101 | 5 => 5 | 9 => 9 | 66 => 185 | 70 => 189 | 76 => 204 | 77 => 205 | n => n, fun  | n => n⟩
theorem Tryz.sortN : Go.Proofs.SlLaysF0.n6 Tryz.prog Tryz.sortN_ren := {
 mixed := by kernel_rfl
 f6 := ⟨"slices.SortFunc[[]lamella/api.Node,lamella/api.Node]", by kernel_rfl, Tryz.func63.trans (congrArg some (by kernel_rfl))⟩
 f14 := ⟨"slices.pdqsortCmpFunc[lamella/api.Node]", by kernel_rfl, Tryz.func109.trans (congrArg some (by kernel_rfl))⟩
 f15 := Tryz.func110.trans (congrArg some (by kernel_rfl))
 f20 := ⟨"slices.insertionSortCmpFunc[lamella/api.Node]", by kernel_rfl, Tryz.func135.trans (congrArg some (by kernel_rfl))⟩
 f21 := ⟨"slices.heapSortCmpFunc[lamella/api.Node]", by kernel_rfl, Tryz.func136.trans (congrArg some (by kernel_rfl))⟩
 f22 := ⟨"slices.breakPatternsCmpFunc[lamella/api.Node]", by kernel_rfl, Tryz.func137.trans (congrArg some (by kernel_rfl))⟩
 f23 := ⟨"slices.choosePivotCmpFunc[lamella/api.Node]", by kernel_rfl, Tryz.func138.trans (congrArg some (by kernel_rfl))⟩
 f24 := ⟨"slices.reverseRangeCmpFunc[lamella/api.Node]", by kernel_rfl, Tryz.func139.trans (congrArg some (by kernel_rfl))⟩
 f25 := ⟨"slices.partialInsertionSortCmpFunc[lamella/api.Node]", by kernel_rfl, Tryz.func140.trans (congrArg some (by kernel_rfl))⟩
 f26 := ⟨"slices.partitionEqualCmpFunc[lamella/api.Node]", by kernel_rfl, Tryz.func141.trans (congrArg some (by kernel_rfl))⟩
 f27 := ⟨"slices.partitionCmpFunc[lamella/api.Node]", by kernel_rfl, Tryz.func142.trans (congrArg some (by kernel_rfl))⟩
 f28 := Tryz.func143.trans (congrArg some (by kernel_rfl))
 f29 := Tryz.func144.trans (congrArg some (by kernel_rfl))
 f46 := ⟨"slices.siftDownCmpFunc[lamella/api.Node]", by kernel_rfl, Tryz.func158.trans (congrArg some (by kernel_rfl))⟩
 f47 := Tryz.func159.trans (congrArg some (by kernel_rfl))
 f48 := Tryz.func160.trans (congrArg some (by kernel_rfl))
 f49 := ⟨"slices.medianAdjacentCmpFunc[lamella/api.Node]", by kernel_rfl, Tryz.func161.trans (congrArg some (by kernel_rfl))⟩
 f50 := ⟨"slices.medianCmpFunc[lamella/api.Node]", by kernel_rfl, Tryz.func162.trans (congrArg some (by kernel_rfl))⟩
 f57 := ⟨"slices.order2CmpFunc[lamella/api.Node]", by kernel_rfl, Tryz.func172.trans (congrArg some (by kernel_rfl))⟩
 t0 := Tryz.underlying0
 a0 := Tryz.isAgg0
 z0 := Tryz.sizeOf0
 v0 := Tryz.zeroValue0
 t3 := Tryz.underlying3
 a3 := Tryz.isAgg3
 z3 := Tryz.sizeOf3
 v3 := Tryz.zeroValue3
 t4 := Tryz.underlying4
 a4 := Tryz.isAgg4
 z4 := Tryz.sizeOf4
 v4 := Tryz.zeroValue4
 t5 := Tryz.underlying5
 a5 := Tryz.isAgg5
 z5 := Tryz.sizeOf5
 v5 := Tryz.zeroValue5
 t9 := Tryz.underlying9
 a9 := Tryz.isAgg9
 z9 := Tryz.sizeOf9
 v9 := Tryz.zeroValue9
 t22 := Tryz.underlying48
 a22 := Tryz.isAgg48
 z22 := Tryz.sizeOf48
 v22 := Tryz.zeroValue48
 t25 := Tryz.underlying106
 a25 := Tryz.isAgg106
 z25 := Tryz.sizeOf106
 v25 := Tryz.zeroValue106
 t39 := Tryz.underlying139
 a39 := Tryz.isAgg139
 z39 := Tryz.sizeOf139
 v39 := Tryz.zeroValue139
 t45 := Tryz.underlying167
 a45 := Tryz.isAgg167
 z45 := Tryz.sizeOf167
 v45 := Tryz.zeroValue167
 t46 := Tryz.underlying168
 a46 := Tryz.isAgg168
 z46 := Tryz.sizeOf168
 v46 := Tryz.zeroValue168
 t50 := Tryz.underlying101
 a50 := Tryz.isAgg101
 z50 := Tryz.sizeOf101
 v50 := Tryz.zeroValue101
 t53 := Tryz.underlying174
 a53 := Tryz.isAgg174
 z53 := Tryz.sizeOf174
 v53 := Tryz.zeroValue174
 t55 := Tryz.underlying176
 a55 := Tryz.isAgg176
 z55 := Tryz.sizeOf176
 v55 := Tryz.zeroValue176
 t66 := Tryz.underlying185
 a66 := Tryz.isAgg185
 z66 := Tryz.sizeOf185
 v66 := Tryz.zeroValue185
 t70 := Tryz.underlying189
 a70 := Tryz.isAgg189
 z70 := Tryz.sizeOf189
 v70 := Tryz.zeroValue189
 t76 := Tryz.underlying204
 a76 := Tryz.isAgg204
 z76 := Tryz.sizeOf204
 v76 := Tryz.zeroValue204
 t77 := Tryz.underlying205
 a77 := Tryz.isAgg205
 z77 := Tryz.sizeOf205
 v77 := Tryz.zeroValue205
}
theorem Tryz.sortC : SortC Tryz.prog 63 64 10 := fun enc hk h1 cf hO blk off cap d w hcmp hH hblk hsz =>
 AnyQ.slices_SortFunc Tryz.sortN 10 Tryz.isAgg36 Tryz.sizeOf36 enc hk h1 cf hO 64 #[] blk off cap d w (enters_of Tryz.func64 (by kernel_rfl) rfl) hcmp hH hblk hsz
theorem Tryz.sort0 (p : Option Addr) (cap : Nat) (fv : Value) (w : World) : Calls Tryz.prog 63 #[.slice p 0 cap, fv] w fun e w' => e = .returned (.tuple #[]) ∧ w' = w := AnyF.slices_SortFunc_none { Tryz.sortN with } p cap fv w
theorem Tryz.cmpC : CmpC Tryz.prog 64 := Tryz.fill1
end Go.Proofs

namespace Go.Lm
open Go Go.RowKit
section
variable {α : Type}
end
end Go.Lm

namespace Go.Lm
open Go Go.RowKit
section
variable {Y : UpY}
def goodN (n : NoD) : Prop := n.1 = [] ∧ ((n.2.2.1 = 1 ∨ n.2.2.2.2.2.2.2.1 = false) ∧ mayN n = true)
theorem dirE_setN {r : Int} {f : NoD → NoD} (hf : ∀ n, (f n).2.1 = n.2.1) (hk : ∀ n, (f n).2.2.1 = n.2.2.1) (x : Int) : ({ Y with L := setN Y.L r f } : UpY).dirE x = Y.dirE x := by
 unfold UpY.dirE
 rw [at_setN hf]
 cases Y.at x with
 | none => rfl
 | some n =>
  simp only [Option.map_some]
  cases isI r n <;> simp [hk]
theorem atE_setN {r : Int} {f : NoD → NoD} (hf : ∀ n, (f n).2.1 = n.2.1) (x : Int) : ({ Y with L := setN Y.L r f } : UpY).atE x = Y.atE x := by
 unfold UpY.atE
 rw [at_setN hf]
 cases Y.at x <;> rfl
theorem setN_mem {r : Int} {f : NoD → NoD} {L : List NoD} {n : NoD} (h : n ∈ setN L r f) : ∃ n0 ∈ L, (n0.2.1 = r ∧ n = f n0) ∨ n = n0 := by
 unfold setN at h
 obtain ⟨n0, h0, rfl⟩ := List.mem_map.1 h
 refine ⟨n0, h0, ?_⟩
 cases q : isI r n0 with
 | true => exact .inl ⟨by simpa [isI] using q, rfl⟩
 | false => exact .inr rfl
theorem UpY.Wf.setN (w : Y.Wf) {r : Int} {f : NoD → NoD} (hf : ∀ n, (f n).2.1 = n.2.1) (hk : ∀ n, (f n).2.2.1 = n.2.2.1) (hg : ∀ n ∈ Y.L, n.2.1 = r → goodN (f n)) : ({ Y with L := Lm.setN Y.L r f } : UpY).Wf where
 nd := by
  show ((Lm.setN Y.L r f).map (·.2.1)).Nodup
  rw [setN_inos hf]; exact w.nd
 lo := fun n hn => by
  obtain ⟨n0, h0, ⟨_, rfl⟩ | rfl⟩ := setN_mem hn
  ·rw [hf]; exact w.lo n0 h0
  ·exact w.lo n h0
 root := by rw [dirE_setN hf hk]; exact w.root
 nm := fun n hn => by
  obtain ⟨n0, h0, ⟨h1, rfl⟩ | rfl⟩ := setN_mem hn
  ·exact hg n0 h0 h1
  ·exact w.nm n h0
 ne := w.ne
 dir := fun e he => by rw [dirE_setN hf hk]; exact w.dir e he
 ref := fun e he => by rw [atE_setN hf]; exact w.ref e he
 has := fun n hn h1 => by
  obtain ⟨n0, h0, ⟨_, rfl⟩ | rfl⟩ := setN_mem hn
  ·rw [hf] at h1 ⊢; exact w.has n0 h0 h1
  ·exact w.has n h0 h1
 one := fun e he h => by
  rw [dirE_setN hf hk] at h; exact w.one e he h
 dep := by
  obtain ⟨d, hd⟩ := w.dep
  exact ⟨d, fun e he h => by rw [dirE_setN hf hk] at h; exact hd e he h⟩
theorem mayN_setA {n : NoD} {a : AtD} (hn : mayN n = true) (hk : n.2.2.1 ≠ 4) (ha : mayA a = true) : mayN (n.setA a) = true := by
 unfold mayN at hn ⊢
 rw [if_neg hk] at hn
 rw [if_neg (show ¬ (n.setA a).2.2.1 = 4 from hk)]
 unfold mayT NoD.setO NoD.setA at *
 simp only at hn ⊢
 have ha : may3 a.1 a.2.1 a.2.2.1 = true := ha
 by_cases h1 : n.2.2.1 = 1
 ·simp only [h1, if_true, Bool.and_eq_true] at hn ⊢
  exact ⟨⟨hn.1.1, ha⟩, hn.2⟩
 ·by_cases h2 : n.2.2.1 = 2
  ·simp only [h2, show ¬ (2 : Int) = 1 by decide, if_true, if_false, Bool.and_eq_true] at hn ⊢
   exact ⟨⟨hn.1.1, ha⟩, hn.2⟩
  ·by_cases h3 : n.2.2.1 = 3
   ·simp only [h3, show ¬ (3 : Int) = 1 by decide, show ¬ (3 : Int) = 2 by decide, if_true, if_false, Bool.and_eq_true] at hn ⊢
    exact ⟨⟨hn.1.1, ha⟩, hn.2⟩
   ·simp only [h1, h2, h3, if_false] at hn
    cases hn
theorem mayN_setX {n : NoD} {x : List XaD} (hn : mayN n = true) (hk : n.2.2.1 ≠ 4) (hx : xattrsB x = true) : mayN (n.setX x) = true := by
 unfold mayN at hn ⊢
 rw [if_neg hk] at hn
 rw [if_neg (show ¬ (n.setX x).2.2.1 = 4 from hk)]
 unfold mayT NoD.setO NoD.setX at *
 simp only at hn ⊢
 by_cases h1 : n.2.2.1 = 1
 ·simp only [h1, if_true, Bool.and_eq_true] at hn ⊢
  exact ⟨hn.1, hx⟩
 ·by_cases h2 : n.2.2.1 = 2
  ·simp only [h2, show ¬ (2 : Int) = 1 by decide, if_true, if_false, Bool.and_eq_true] at hn ⊢
   exact ⟨hn.1, hx⟩
  ·by_cases h3 : n.2.2.1 = 3
   ·simp only [h3, show ¬ (3 : Int) = 1 by decide, show ¬ (3 : Int) = 2 by decide, if_true, if_false, Bool.and_eq_true] at hn ⊢
    exact ⟨hn.1, hx⟩
   ·simp only [h1, h2, h3, if_false] at hn
    cases hn
structure UpY.OkN (Y : UpY) (n : Nat) : Prop where
 wf : Y.Wf
 en : Y.E.length ≤ n
 nb : Y.nx ≤ n + 2
theorem UpY.OkN.ok {n : Nat} (h : Y.OkN n) (hn : n ≤ 1000000) : Y.Ok := ⟨h.wf, by have := h.en; omega, by have := h.nb; omega⟩
theorem UpY.OkN.le {n m : Nat} (h : Y.OkN n) (hn : n ≤ m) : Y.OkN m := ⟨h.wf, by have := h.en; omega, by have := h.nb; omega⟩
theorem new_okN (a b : Int) : (UpY.new a b).OkN 0 := ⟨new_wf a b, Nat.le_refl _, by show (2 : Int) ≤ _; omega⟩
theorem UpY.OkN.setN {n : Nat} (h : Y.OkN n) {r : Int} {f : NoD → NoD} (hf : ∀ n, (f n).2.1 = n.2.1) (hk : ∀ n, (f n).2.2.1 = n.2.2.1) (hg : ∀ n ∈ Y.L, n.2.1 = r → goodN (f n)) : ({ Y with L := Lm.setN Y.L r f } : UpY).OkN n := ⟨h.wf.setN hf hk hg, h.en, h.nb⟩
theorem okN_setAttr {n : Nat} (h : Y.OkN n) (r : Int) (a : AtD) : (Y.setAttrY r a).OkN n := by
 unfold UpY.setAttrY
 split
 ·rename_i h0
  refine h.setN (fun _ => rfl) (fun _ => rfl) fun y hy hr => ?_
  have hat : Y.at r = some y := by rw [← hr]; exact at_of_mem h.wf hy
  unfold UpY.setAttrE at h0
  rw [hat] at h0
  simp only at h0
  split at h0
  ·cases h0
  ·rename_i h1
   obtain ⟨g1, g2, g3⟩ := h.wf.nm y hy
   refine ⟨g1, g2, mayN_setA g3 (fun q => h1 (.inl q)) ?_⟩
   cases hm : mayA a with
   | true => rfl
   | false => exact absurd (.inr hm) h1
 ·exact h
theorem okN_setXattrs {n : Nat} (h : Y.OkN n) (r : Int) (x : List XaD) : (Y.setXattrsY r x).OkN n := by
 unfold UpY.setXattrsY
 split
 ·rename_i h0
  refine h.setN (fun _ => rfl) (fun _ => rfl) fun y hy hr => ?_
  have hat : Y.at r = some y := by rw [← hr]; exact at_of_mem h.wf hy
  unfold UpY.setXattrsE at h0
  rw [hat] at h0
  simp only at h0
  split at h0
  ·cases h0
  ·rename_i h1
   obtain ⟨g1, g2, g3⟩ := h.wf.nm y hy
   refine ⟨g1, g2, mayN_setX g3 (fun q => h1 (.inl q)) ?_⟩
   cases hm : xattrsB x with
   | true => rfl
   | false => exact absurd (.inr hm) h1
 ·exact h
theorem okN_setOpaque {n : Nat} (h : Y.OkN n) (r : Int) (q : Bool) : (Y.setOpaqueY r q).OkN n := by
 unfold UpY.setOpaqueY
 split
 ·rename_i h0
  refine h.setN (fun _ => rfl) (fun _ => rfl) fun y hy hr => ?_
  have hat : Y.at r = some y := by rw [← hr]; exact at_of_mem h.wf hy
  obtain ⟨y', hy', hk⟩ := dirE_zero.1 h0
  rw [hat] at hy'
  obtain rfl := Option.some.inj hy'
  obtain ⟨g1, g2, g3⟩ := h.wf.nm y hy
  exact ⟨g1, .inl hk, g3⟩
 ·exact h
theorem freshE_zero {d : Int} {s : ByteArray} (h : Y.freshE d s = 0) : Y.dirE d = 0 ∧ validN s = 0 ∧ Y.ent d s = none := by
 unfold UpY.freshE at h
 split at h
 ·rename_i h1
  split at h
  ·rename_i h2
   cases hx : Y.ent d s with
   | none => exact ⟨h1, h2, rfl⟩
   | some e => rw [hx] at h; cases h
  ·rename_i h2; exact absurd h h2
 ·rename_i h1; exact absurd h h1
theorem ne_app {E : List EnD} (h : (E.map fun e => (e.1, e.2.1)).Nodup) {d : Int} {s : ByteArray} {r : Int} (hn : ∀ e ∈ E, ¬ (e.1 = d ∧ e.2.1 = s)) : ((E ++ [(d, s, r, ())]).map fun e => (e.1, e.2.1)).Nodup := by
 rw [List.map_append]
 refine List.nodup_append.2 ⟨h, by simp, fun a ha b hb => ?_⟩
 have hb : b = (d, s) := by simpa using hb
 subst hb
 obtain ⟨e, he, rfl⟩ := List.mem_map.1 ha
 exact fun q => hn e he ⟨congrArg Prod.fst q, congrArg Prod.snd q⟩
theorem atE_zero {r : Int} : Y.atE r = 0 ↔ ∃ y, Y.at r = some y := by
 unfold UpY.atE
 cases Y.at r <;> simp
theorem UpY.Wf.make (w : Y.Wf) {d : Int} {s : ByteArray} {x : NoD} (hd : Y.dirE d = 0) (hs : validN s = 0) (hn : Y.ent d s = none) (hm : mayN x = true) : ({ Y with L := Y.L ++ [Y.newN x], E := Y.E ++ [(d, s, Y.nx, ())], nx := Y.nx + 1 } : UpY).Wf := by
 have hnx := nx_none w
 have hp := nx_pos w
 have old : ∀ {z y}, Y.at z = some y → ({ Y with L := Y.L ++ [Y.newN x], E := Y.E ++ [(d, s, Y.nx, ())], nx := Y.nx + 1 } : UpY).at z = some y := fun h => at_app_old h _ _
 have dold : ∀ {z}, Y.dirE z = 0 → ({ Y with L := Y.L ++ [Y.newN x], E := Y.E ++ [(d, s, Y.nx, ())], nx := Y.nx + 1 } : UpY).dirE z = 0 := fun h => by
  obtain ⟨y, hy, hk⟩ := dirE_zero.1 h
  exact dirE_zero.2 ⟨y, old hy, hk⟩
 have dback : ∀ {e}, e ∈ Y.E → ({ Y with L := Y.L ++ [Y.newN x], E := Y.E ++ [(d, s, Y.nx, ())], nx := Y.nx + 1 } : UpY).dirE e.2.2.1 = 0 → Y.dirE e.2.2.1 = 0 := fun he h => by
  obtain ⟨y, hy⟩ := at_ref w he
  obtain ⟨y', hy', hk⟩ := dirE_zero.1 h
  rw [old hy] at hy'
  obtain rfl := Option.some.inj hy'
  exact dirE_zero.2 ⟨y, hy, hk⟩
 have noref : ∀ e ∈ Y.E, e.2.2.1 ≠ Y.nx := fun e he q => by
  obtain ⟨y1, h1⟩ := at_ref w he
  rw [q, hnx] at h1; cases h1
 have nodir : ∀ e ∈ Y.E, e.1 ≠ Y.nx := fun e he q => by
  obtain ⟨y1, h1, _⟩ := at_dir w he
  rw [q, hnx] at h1; cases h1
 have hdn : d ≠ Y.nx := fun q => by
  obtain ⟨y, hy, _⟩ := dirE_zero.1 hd
  rw [q, hnx] at hy; cases hy
 refine ⟨?_, ?_, dold w.root, ?_, ne_app w.ne (ent_none.1 hn), ?_, ?_, ?_, ?_, ?_⟩
 ·show ((Y.L ++ [Y.newN x]).map (·.2.1)).Nodup
  rw [List.map_append]
  refine List.nodup_append.2 ⟨w.nd, by simp, fun a ha b hb => ?_⟩
  have hb : b = Y.nx := List.mem_singleton.1 hb
  obtain ⟨n, hn, rfl⟩ := List.mem_map.1 ha
  have := (w.lo n hn).2
  omega
 ·intro n hn
  show 1 ≤ n.2.1 ∧ n.2.1 < Y.nx + 1
  rcases List.mem_append.1 hn with hn | hn
  ·have := w.lo n hn; omega
  ·have : n = Y.newN x := by simpa using hn
   subst this
   show 1 ≤ Y.nx ∧ Y.nx < Y.nx + 1
   omega
 ·intro n hn
  rcases List.mem_append.1 hn with hn | hn
  ·exact w.nm n hn
  ·have : n = Y.newN x := by simpa using hn
   subst this
   exact ⟨rfl, .inr rfl, hm⟩
 ·intro e he
  rcases List.mem_append.1 he with he | he
  ·exact ⟨dold (w.dir e he).1, (w.dir e he).2⟩
  ·have : e = (d, s, Y.nx, ()) := by simpa using he
   subst this
   exact ⟨dold hd, hs⟩
 ·intro e he
  rcases List.mem_append.1 he with he | he
  ·obtain ⟨h1, h2⟩ := w.ref e he
   obtain ⟨y, hy⟩ := atE_zero.1 h2
   exact ⟨h1, atE_zero.2 ⟨y, old hy⟩⟩
  ·have : e = (d, s, Y.nx, ()) := by simpa using he
   subst this
   exact ⟨by show Y.nx ≠ 1; omega, atE_zero.2 ⟨_, at_app_new hnx rfl _ _⟩⟩
 ·intro n hn h1
  show (Y.E ++ [(d, s, Y.nx, ())]).any (toR n.2.1) = true
  rw [List.any_append]
  rcases List.mem_append.1 hn with hn | hn
  ·rw [w.has n hn h1]; rfl
  ·have : n = Y.newN x := by simpa using hn
   subst this
   have : toR (Y.newN x).2.1 (d, s, Y.nx, ()) = true := by unfold toR; exact beq_self_eq_true _
   simp [this]
 ·intro e he h
  show (Y.E ++ [(d, s, Y.nx, ())]).countP (toR e.2.2.1) = 1
  rw [cnt_app]
  rcases List.mem_append.1 he with he | he
  ·rw [if_neg (Ne.symm (noref e he)), w.one e he (dback he h)]
  ·have : e = (d, s, Y.nx, ()) := by simpa using he
   subst this
   rw [if_pos rfl, List.countP_eq_zero.2 fun e he => by simpa [toR] using noref e he]
 ·obtain ⟨dp, hdp⟩ := w.dep
  refine ⟨fun z => if z = Y.nx then dp d + 1 else dp z, fun e he h => ?_⟩
  rcases List.mem_append.1 he with he | he
  ·simp only [if_neg (nodir e he), if_neg (noref e he)]
   exact hdp e he (dback he h)
  ·have : e = (d, s, Y.nx, ()) := by simpa using he
   subst this
   simp only [if_neg hdn, if_pos]
   omega
theorem okN_make {n : Nat} (h : Y.OkN n) (d : Int) (s : ByteArray) (x : NoD) : (Y.makeY d s x).OkN (n + 1) := by
 unfold UpY.makeY
 split
 ·rename_i h0
  unfold UpY.makeE at h0
  split at h0
  ·rename_i hf
   obtain ⟨h1, h2, h3⟩ := freshE_zero hf
   split at h0
   ·rename_i hm
    refine ⟨h.wf.make h1 h2 h3 hm, ?_, ?_⟩
    ·show (Y.E ++ [_]).length ≤ _
     have := h.en
     simp; omega
    ·show Y.nx + 1 ≤ _
     have := h.nb
     omega
   ·cases h0
  ·rename_i hf; exact absurd h0 hf
 ·exact h.le (Nat.le_succ n)
theorem UpY.Wf.link (w : Y.Wf) {d r : Int} {s : ByteArray} {y : NoD} (hd : Y.dirE d = 0) (hs : validN s = 0) (hn : Y.ent d s = none) (hy : Y.at r = some y) (hk : y.2.2.1 ≠ 1) : ({ Y with E := Y.E ++ [(d, s, r, ())] } : UpY).Wf := by
 have hnd : Y.dirE r ≠ 0 := fun q => by
  obtain ⟨y', hy', hk'⟩ := dirE_zero.1 q
  rw [hy] at hy'
  obtain rfl := Option.some.inj hy'
  exact hk hk'
 have hr1 : r ≠ 1 := fun q => hnd (by rw [q]; exact w.root)
 refine ⟨w.nd, w.lo, w.root, w.nm, ne_app w.ne (ent_none.1 hn), fun e he => ?_, fun e he => ?_, fun n hn h1 => ?_, fun e he h => ?_, ?_⟩
 ·rcases List.mem_append.1 he with he | he
  ·exact w.dir e he
  ·have : e = (d, s, r, ()) := by simpa using he
   subst this
   exact ⟨hd, hs⟩
 ·rcases List.mem_append.1 he with he | he
  ·exact w.ref e he
  ·have : e = (d, s, r, ()) := by simpa using he
   subst this
   exact ⟨hr1, atE_zero.2 ⟨y, hy⟩⟩
 ·show (Y.E ++ [(d, s, r, ())]).any (toR n.2.1) = true
  rw [List.any_append, w.has n hn h1]; rfl
 ·have h : Y.dirE e.2.2.1 = 0 := h
  show (Y.E ++ [(d, s, r, ())]).countP (toR e.2.2.1) = 1
  rcases List.mem_append.1 he with he | he
  ·rw [cnt_app, if_neg (fun q => hnd (by rw [q]; exact h)), w.one e he h]
  ·have : e = (d, s, r, ()) := by simpa using he
   subst this
   exact absurd h hnd
 ·obtain ⟨dp, hdp⟩ := w.dep
  refine ⟨dp, fun e he h => ?_⟩
  have h : Y.dirE e.2.2.1 = 0 := h
  rcases List.mem_append.1 he with he | he
  ·exact hdp e he h
  ·have : e = (d, s, r, ()) := by simpa using he
   subst this
   exact absurd h hnd
theorem linkE_zero {d r : Int} {s : ByteArray} (h : Y.linkE d s r = 0) : ∃ y, Y.at r = some y ∧ y.2.2.1 ≠ 1 ∧ Y.freshE d s = 0 := by
 unfold UpY.linkE at h
 split at h
 ·rename_i y _ h1 _
  split at h
  ·rename_i hf
   split at h
   ·cases h
   ·rename_i hk; exact ⟨y, h1, hk, hf⟩
  ·rename_i hf; exact absurd h hf
 ·cases h
theorem okN_link {n : Nat} (h : Y.OkN n) (d : Int) (s : ByteArray) (r : Int) : (Y.linkY d s r).OkN (n + 1) := by
 unfold UpY.linkY
 split
 ·rename_i h0
  obtain ⟨y, hy, hk, hf⟩ := linkE_zero h0
  obtain ⟨h1, h2, h3⟩ := freshE_zero hf
  refine ⟨h.wf.link h1 h2 h3 hy hk, ?_, ?_⟩
  ·show (Y.E ++ [_]).length ≤ _
   have := h.en
   simp; omega
  ·show Y.nx ≤ _
   have := h.nb
   omega
 ·exact h.le (Nat.le_succ n)
theorem qs_make (d : Int) (s : ByteArray) (x : NoD) : (Y.makeY d s x).q1 = Y.q1 ∧ (Y.makeY d s x).q2 = Y.q2 := by unfold UpY.makeY; split <;> exact ⟨rfl, rfl⟩
theorem qs_link (d : Int) (s : ByteArray) (r : Int) : (Y.linkY d s r).q1 = Y.q1 ∧ (Y.linkY d s r).q2 = Y.q2 := by unfold UpY.linkY; split <;> exact ⟨rfl, rfl⟩
theorem qs_setattr (r : Int) (a : AtD) : (Y.setAttrY r a).q1 = Y.q1 ∧ (Y.setAttrY r a).q2 = Y.q2 := by unfold UpY.setAttrY; split <;> exact ⟨rfl, rfl⟩
theorem qs_setx (r : Int) (x : List XaD) : (Y.setXattrsY r x).q1 = Y.q1 ∧ (Y.setXattrsY r x).q2 = Y.q2 := by unfold UpY.setXattrsY; split <;> exact ⟨rfl, rfl⟩
theorem qs_setopq (r : Int) (q : Bool) : (Y.setOpaqueY r q).q1 = Y.q1 ∧ (Y.setOpaqueY r q).q2 = Y.q2 := by unfold UpY.setOpaqueY; split <;> exact ⟨rfl, rfl⟩
end
end Go.Lm

namespace Go.Lm
open Go
variable {Y : UpY}
end Go.Lm

namespace Go.Lm
open Go
def UpY.findGo (Y : UpY) : List ByteArray → Int → Int × Int
 | [], r => (r, 0)
 | s :: l, r => if Y.lookE r s = 0 then Y.findGo l (Y.lookD r s).2.2.1 else (0, Y.lookE r s)
def fillR (Y : UpY) (m : List (Int × Int)) (x : NoD) : Int × UpY :=
 if x.1.length = 0 then (1, (Y.setAttrY 1 x.2.2.2.1).setXattrsY 1 x.2.2.2.2.2.2.1)
 else match Kk.get .int m x.2.1 with
  | some r => (r, Y.linkY (Y.findGo (x.1.take (x.1.length - 1)) 1).1 (ixD .str x.1 ((x.1.length : Int) - 1)) r)
  | none => (Y.makeR (Y.findGo (x.1.take (x.1.length - 1)) 1).1 (ixD .str x.1 ((x.1.length : Int) - 1)) x, Y.makeY (Y.findGo (x.1.take (x.1.length - 1)) 1).1 (ixD .str x.1 ((x.1.length : Int) - 1)) x)
def fillY (Y : UpY) (m : List (Int × Int)) (x : NoD) : UpY := if x.2.2.2.2.2.2.2.1 then (fillR Y m x).2.setOpaqueY (fillR Y m x).1 true else (fillR Y m x).2
def fillGo : List NoD → List (Int × Int) → UpY → UpY
 | [], _, Y => Y
 | x :: r, m, Y => fillGo r (Kk.put .int m x.2.1 (fillR Y m x).1) (fillY Y m x)
theorem okN_fillR {Y : UpY} {n : Nat} (h : Y.OkN n) (m : List (Int × Int)) (x : NoD) : (fillR Y m x).2.OkN (n + 1) := by
 unfold fillR
 split
 ·exact (okN_setXattrs (okN_setAttr h _ _) _ _).le (Nat.le_succ n)
 ·split
  ·exact okN_link h _ _ _
  ·exact okN_make h _ _ _
theorem okN_fillY {Y : UpY} {n : Nat} (h : Y.OkN n) (m : List (Int × Int)) (x : NoD) : (fillY Y m x).OkN (n + 1) := by
 unfold fillY
 split
 ·exact okN_setOpaque (okN_fillR h m x) _ _
 ·exact okN_fillR h m x
theorem okN_fill : ∀ (l : List NoD) {Y : UpY} {n : Nat} (m : List (Int × Int)), Y.OkN n → (fillGo l m Y).OkN (n + l.length)
 | [], _, _, _, h => h
 | x :: r, Y, n, m, h => by
  have := okN_fill r (Kk.put .int m x.2.1 (fillR Y m x).1) (okN_fillY h m x)
  rw [List.length_cons]
  exact this.le (by omega)
end Go.Lm

namespace Go.Lm
open Go
variable {Y : UpY}
theorem findGo_cons (s : ByteArray) (l : List ByteArray) (r : Int) : Y.findGo (s :: l) r = if Y.lookE r s = 0 then Y.findGo l (Y.lookD r s).2.2.1 else (0, Y.lookE r s) := rfl
theorem findGo_nil (r : Int) : Y.findGo [] r = (r, 0) := rfl
theorem findGo_append : ∀ (p q : List ByteArray) (r : Int), Y.findGo (p ++ q) r = if (Y.findGo p r).2 = 0 then Y.findGo q (Y.findGo p r).1 else (0, (Y.findGo p r).2)
 | [], q, r => by simp [UpY.findGo]
 | s :: p, q, r => by
  rw [List.cons_append, findGo_cons, findGo_cons]
  by_cases h : Y.lookE r s = 0
  ·rw [if_pos h, if_pos h]; exact findGo_append p q _
  ·rw [if_neg h, if_neg h, if_neg h]
theorem look_zero {d : Int} {s : ByteArray} : Y.lookE d s = 0 ↔ Y.dirE d = 0 ∧ ∃ e, Y.ent d s = some e := by
 unfold UpY.lookE
 constructor
 ·intro h
  split at h
  ·rename_i hd
   refine ⟨hd, ?_⟩
   cases he : Y.ent d s with
   | none => rw [he] at h; cases h
   | some e => exact ⟨e, rfl⟩
  ·rename_i hd; exact absurd h hd
 ·rintro ⟨hd, e, he⟩
  rw [if_pos hd, he]
theorem look_ref {d : Int} {s : ByteArray} {e : EnD} (hd : Y.dirE d = 0) (he : Y.ent d s = some e) : (Y.lookD d s).2.2.1 = e.2.2.1 := by
 unfold UpY.lookD
 rw [if_pos hd, he]
theorem ent_of (w : Y.Wf) {e : EnD} (he : e ∈ Y.E) : Y.ent e.1 e.2.1 = some e := by
 cases hf : Y.ent e.1 e.2.1 with
 | none => exact absurd ⟨rfl, rfl⟩ (ent_none.1 hf e he)
 | some x =>
  obtain ⟨h1, h2, h3⟩ := ent_mem hf
  have : ∀ {l : List EnD}, (l.map fun e => (e.1, e.2.1)).Nodup → x ∈ l → e ∈ l → x = e := by
   intro l
   induction l with
   | nil => intro _ h; cases h
   | cons a l ih =>
    intro hn hx hy
    rw [List.map_cons, List.nodup_cons] at hn
    rcases List.mem_cons.1 hx with e1 | hx
    ·rcases List.mem_cons.1 hy with e2 | hy
     ·rw [e1, e2]
     ·exact absurd (List.mem_map.2 ⟨e, hy, by rw [← e1, h2, h3]⟩) hn.1
    ·rcases List.mem_cons.1 hy with e2 | hy
     ·exact absurd (List.mem_map.2 ⟨x, hx, by rw [← e2, h2, h3]⟩) hn.1
     ·exact ih hn.2 hx hy
  rw [this w.ne h1 he]
theorem findGo_one (w : Y.Wf) {p : List ByteArray} {s : ByteArray} {r z : Int} : Y.findGo (p ++ [s]) r = (z, 0) ↔ ∃ d, Y.findGo p r = (d, 0) ∧ Y.dirE d = 0 ∧ (d, s, z, ()) ∈ Y.E := by
 rw [findGo_append]
 constructor
 ·intro h
  split at h
  ·rename_i h0
   refine ⟨(Y.findGo p r).1, by rw [← h0], ?_⟩
   generalize (Y.findGo p r).1 = d at *
   unfold UpY.findGo at h
   split at h
   ·rename_i hl
    obtain ⟨hd, e, he⟩ := look_zero.1 hl
    rw [look_ref hd he] at h
    unfold UpY.findGo at h
    obtain ⟨h1, h2, h3⟩ := ent_mem he
    have : e = (d, s, z, ()) := by
     obtain ⟨a, b, c, u⟩ := e
     simp only at h2 h3 h
     have hc : c = z := congrArg Prod.fst h
     rw [h2, h3, hc]
    exact ⟨hd, this ▸ h1⟩
   ·rename_i hl; exact absurd (congrArg Prod.snd h) hl
  ·rename_i h0; exact absurd (congrArg Prod.snd h) h0
 ·rintro ⟨d, h1, hd, he⟩
  have := ent_of w he
  simp only at this
  rw [h1, if_pos rfl, findGo_cons, if_pos (look_zero.2 ⟨hd, _, this⟩), look_ref hd this]
  rfl
theorem listD_perm {r : Int} (hd : Y.dirE r = 0) : (Y.listD r).Perm ((Y.E.filter (ofD r)).map Y.xe) := by
 unfold UpY.listD
 rw [if_pos hd]
 have := (fold_insX Y.xe (Y.E.filter (ofD r)) [] List.Pairwise.nil).1
 rwa [List.append_nil] at this
theorem listD_mem {r : Int} {x : XeD} : x ∈ Y.listD r ↔ Y.dirE r = 0 ∧ ∃ e ∈ Y.E, e.1 = r ∧ x = Y.xe e := by
 by_cases hd : Y.dirE r = 0
 ·rw [(listD_perm hd).mem_iff, List.mem_map]
  constructor
  ·rintro ⟨e, he, rfl⟩
   obtain ⟨h1, h2⟩ := List.mem_filter.1 he
   exact ⟨hd, e, h1, by simpa [ofD] using h2, rfl⟩
  ·rintro ⟨_, e, he, h1, rfl⟩
   exact ⟨e, List.mem_filter.2 ⟨he, by simp [ofD, h1]⟩, rfl⟩
 ·have : Y.listD r = [] := if_neg hd
  rw [this]
  simp [hd]
theorem toList_ext {a b : ByteArray} (h : a.data.toList = b.data.toList) : a = b := by
 obtain ⟨x⟩ := a
 obtain ⟨y⟩ := b
 have : x = y := Array.ext' h
 rw [this]
theorem cmpS_lt {a b : ByteArray} (h : a.data.toList ≤ b.data.toList) (hn : a ≠ b) : cmpS a b < 0 := by
 rcases cmpS_cases a b with ⟨_, e⟩ | ⟨h1, _⟩ | ⟨h1, _⟩
 ·rw [e]; decide
 ·rw [Lib.toList_data, Lib.toList_data] at h1
  exact absurd (toList_ext h1) hn
 ·have := sLt_iff b a
  unfold sLt at this
  rw [h1] at this
  exact absurd (of_decide_eq_true this.symm) (List.not_lt.2 h)
theorem listD_sorted (w : Y.Wf) (r : Int) : (Y.listD r).Pairwise fun x y => cmpS x.1 y.1 < 0 := by
 by_cases hd : Y.dirE r = 0
 ·have hs : (Y.listD r).Pairwise leX := by
   unfold UpY.listD
   rw [if_pos hd]
   exact (fold_insX Y.xe (Y.E.filter (ofD r)) [] List.Pairwise.nil).2
  have hn : (Y.listD r).Pairwise fun x y => x.1 ≠ y.1 := by
   refine (listD_perm hd).symm.pairwise ?_ (fun h => Ne.symm h)
   rw [List.pairwise_map]
   have h1 : (Y.E.filter (ofD r)).Pairwise fun a b => (a.1, a.2.1) ≠ (b.1, b.2.1) := List.pairwise_map.1 (((List.filter_sublist (p := ofD r) (l := Y.E)).map _).nodup w.ne)
   refine List.Pairwise.imp_of_mem (fun {a b} ha hb hab e => hab ?_) h1
   have e1 : a.1 = r := by have := (List.mem_filter.1 ha).2; simpa [ofD] using this
   have e2 : b.1 = r := by have := (List.mem_filter.1 hb).2; simpa [ofD] using this
   rw [e1, e2]
   exact congrArg (Prod.mk r) e
  exact hs.imp₂ (fun a b h1 h2 => cmpS_lt h1 h2) hn
 ·have : Y.listD r = [] := if_neg hd
  rw [this]; exact List.Pairwise.nil
def UpY.walk (Y : UpY) : Nat → Int → List ByteArray → List (List ByteArray × Int)
 | 0, _, _ => []
 | n + 1, r, p => (p, r) :: (Y.listD r).flatMap fun x => Y.walk n x.2.2.1 (p ++ [x.1])
theorem walk_mem (w : Y.Wf) : ∀ {n : Nat} {r z : Int} {p q : List ByteArray}, (q, z) ∈ Y.walk n r p ↔ ∃ t, t.length < n ∧ q = p ++ t ∧ Y.findGo t r = (z, 0)
 | 0, r, z, p, q => by simp [UpY.walk]
 | n + 1, r, z, p, q => by
  unfold UpY.walk
  rw [List.mem_cons, List.mem_flatMap]
  constructor
  ·rintro (h | ⟨x, hx, h⟩)
   ·cases h
    exact ⟨[], by simp, by simp, rfl⟩
   ·obtain ⟨t, h1, h2, h3⟩ := (walk_mem w).1 h
    obtain ⟨hd, e, he, h4, rfl⟩ := listD_mem.1 hx
    have hq := ent_of w he
    rw [h4] at hq
    refine ⟨e.2.1 :: t, by simpa using h1, by rw [h2]; simp [UpY.xe], ?_⟩
    unfold UpY.findGo
    rw [if_pos (look_zero.2 ⟨hd, e, hq⟩), look_ref hd hq]
    exact h3
  ·rintro ⟨t, h1, h2, h3⟩
   cases t with
   | nil =>
    unfold UpY.findGo at h3
    cases h3
    exact .inl (by rw [h2, List.append_nil])
   | cons s t =>
    unfold UpY.findGo at h3
    split at h3
    ·rename_i hl
     obtain ⟨hd, e, he⟩ := look_zero.1 hl
     rw [look_ref hd he] at h3
     obtain ⟨e1, e2, e3⟩ := ent_mem he
     refine .inr ⟨Y.xe e, listD_mem.2 ⟨hd, e, e1, e2, rfl⟩, (walk_mem w).2 ⟨t, by simpa using h1, ?_, h3⟩⟩
     rw [h2]
     simp [UpY.xe, e3]
    ·rename_i hl; exact absurd (congrArg Prod.snd h3) hl
theorem cmpL_app : ∀ (p a b : List ByteArray), cmpL (p ++ a) (p ++ b) = cmpL a b
 | [], _, _ => rfl
 | s :: p, a, b => by
  have : cmpL (s :: (p ++ a)) (s :: (p ++ b)) = if cmpS s s = 0 then cmpL (p ++ a) (p ++ b) else cmpS s s := rfl
  rw [List.cons_append, List.cons_append, this, cmpS_self, if_pos rfl]
  exact cmpL_app p a b
theorem cmpL_ext (p : List ByteArray) (s : ByteArray) (t : List ByteArray) : cmpL p (p ++ s :: t) < 0 := by
 have := cmpL_app p [] (s :: t)
 rw [List.append_nil] at this
 rw [this]
 unfold cmpL; decide
theorem walk_sorted (w : Y.Wf) : ∀ (n : Nat) (r : Int) (p : List ByteArray), (Y.walk n r p).Pairwise fun a b => cmpL a.1 b.1 < 0
 | 0, _, _ => List.Pairwise.nil
 | n + 1, r, p => by
  unfold UpY.walk
  rw [List.pairwise_cons]
  constructor
  ·rintro ⟨q, z⟩ h
   obtain ⟨x, hx, h⟩ := List.mem_flatMap.1 h
   obtain ⟨t, _, h2, _⟩ := (walk_mem w).1 h
   simp only
   rw [h2, List.append_assoc]
   exact cmpL_ext p x.1 t
  ·rw [List.pairwise_flatMap]
   refine ⟨fun x _ => walk_sorted w n _ _, (listD_sorted w r).imp fun {x y} hxy => ?_⟩
   rintro ⟨q, z⟩ h ⟨q', z'⟩ h'
   obtain ⟨t, _, h2, _⟩ := (walk_mem w).1 h
   obtain ⟨t', _, h2', _⟩ := (walk_mem w).1 h'
   simp only
   rw [h2, h2', List.append_assoc, List.append_assoc, cmpL_app]
   show cmpL (x.1 :: t) (y.1 :: t') < 0
   unfold cmpL
   rw [if_neg (by omega)]
   exact hxy
theorem sorted_eq {α : Type} {R : α → α → Prop} (ha : ∀ a b, R a b → ¬ R b a) : ∀ {l k : List α}, l.Pairwise R → k.Pairwise R → (∀ x, x ∈ l ↔ x ∈ k) → l = k
 | [], [], _, _, _ => rfl
 | [], y :: k, _, _, h => by have := (h y).2 List.mem_cons_self; cases this
 | x :: l, [], _, _, h => by have := (h x).1 List.mem_cons_self; cases this
 | x :: l, y :: k, h1, h2, h => by
  obtain ⟨a1, a2⟩ := List.pairwise_cons.1 h1
  obtain ⟨b1, b2⟩ := List.pairwise_cons.1 h2
  have e : x = y := by
   rcases List.mem_cons.1 ((h x).1 List.mem_cons_self) with e | hx
   ·exact e
   ·rcases List.mem_cons.1 ((h y).2 List.mem_cons_self) with e | hy
    ·exact e.symm
    ·exact absurd (a1 y hy) (ha _ _ (b1 x hx))
  subst e
  refine congrArg (x :: ·) (sorted_eq ha a2 b2 fun z => ?_)
  constructor
  ·intro hz
   rcases List.mem_cons.1 ((h z).1 (List.mem_cons_of_mem _ hz)) with e | hz'
   ·subst e; exact absurd (a1 z hz) (fun q => ha _ _ q q)
   ·exact hz'
  ·intro hz
   rcases List.mem_cons.1 ((h z).2 (List.mem_cons_of_mem _ hz)) with e | hz'
   ·subst e; exact absurd (b1 z hz) (fun q => ha _ _ q q)
   ·exact hz'
end Go.Lm

namespace Go.Lm
open Go
variable {Y : UpY}
def NoD.setI (x : NoD) (k : Int) : NoD := (x.1, k, x.2.2)
def NoD.bare (x : NoD) : NoD := ([], x.2)
def lastN (l : List ByteArray) : ByteArray := ixD .str l ((l.length : Int) - 1)
def lastZ (c : NoD) : Int := if c.1.length = 0 then 0 else ((lastN c.1).size : Int)
theorem split_last {l : List ByteArray} (h : l.length ≠ 0) : l = l.take (l.length - 1) ++ [lastN l] := by
 have := take_ixD (e := .str) (l := l) (k := (l.length : Int) - 1) (by omega) (by omega)
 rw [show ((l.length : Int) - 1 + 1).toNat = l.length by omega, show ((l.length : Int) - 1).toNat = l.length - 1 by omega, List.take_length] at this
 exact this
theorem lastN_app (p : List ByteArray) (s : ByteArray) : lastN (p ++ [s]) = s := by
 have h := split_last (l := p ++ [s]) (by simp)
 have h2 := congrArg List.getLast? h
 simpa using h2.symm
def addN (acc : List NoD) (c : NoD) : List NoD := if acc.any (isI c.2.1) then acc else acc ++ [c.bare]
def nodesOf (C : List NoD) : List NoD := C.foldl addN []
theorem nodesOf_snoc (C : List NoD) (c : NoD) : nodesOf (C ++ [c]) = addN (nodesOf C) c := by unfold nodesOf; rw [List.foldl_append]; rfl
structure IsB (Y : UpY) (C : List NoD) : Prop where
 wf : Y.Wf
 L : Y.L = nodesOf C
 get : ∀ c ∈ C, Y.at c.2.1 = some c.bare
 ent : ∀ e, e ∈ Y.E ↔ ∃ c ∈ C, ∃ y ∈ C, y.2.2.1 = 1 ∧ ∃ s, c.1 = y.1 ++ [s] ∧ e = (y.2.1, s, c.2.1, ())
 sum : (Y.E.map fun e => (e.2.1.size : Int)).sum = (C.map lastZ).sum
 root : ∀ c ∈ C, c.1 = [] → c.2.1 = 1
 has : ∃ c ∈ C, c.1 = []
 dirs : ∀ c ∈ C, ∀ d ∈ C, c.2.2.1 = 1 ∨ c.2.2.1 = 4 → d.2.1 = c.2.1 → d = c
 par : ∀ c ∈ C, c.1 ≠ [] → ∃ y ∈ C, y.2.2.1 = 1 ∧ ∃ s, c.1 = y.1 ++ [s]
 nm : C.Pairwise fun a b => a.1 ≠ b.1
theorem nm_inj {C : List NoD} (h : C.Pairwise fun a b => a.1 ≠ b.1) {a b : NoD} (ha : a ∈ C) (hb : b ∈ C) (e : a.1 = b.1) : a = b := by
 induction C with
 | nil => cases ha
 | cons x C ih =>
  obtain ⟨h1, h2⟩ := List.pairwise_cons.1 h
  rcases List.mem_cons.1 ha with ea | ha
  ·rcases List.mem_cons.1 hb with eb | hb
   ·rw [ea, eb]
   ·exact absurd (ea ▸ e) (h1 b hb)
  ·rcases List.mem_cons.1 hb with eb | hb
   ·exact absurd (eb ▸ e).symm (h1 a ha)
   ·exact ih h2 ha hb
namespace IsB
variable {C : List NoD}
theorem dir (h : IsB Y C) {y : NoD} (hy : y ∈ C) (hk : y.2.2.1 = 1) : Y.dirE y.2.1 = 0 := dirE_zero.2 ⟨y.bare, h.get y hy, hk⟩
theorem findC (h : IsB Y C) : ∀ (n : Nat) (c : NoD), c ∈ C → c.1.length ≤ n → Y.findGo c.1 1 = (c.2.1, 0)
 | 0, c, hc, hn => by
  have e : c.1 = [] := List.eq_nil_of_length_eq_zero (by omega)
  rw [e, h.root c hc e]; rfl
 | n + 1, c, hc, hn => by
  by_cases e : c.1 = []
  ·rw [e, h.root c hc e]; rfl
  ·obtain ⟨y, hy, hk, s, hs⟩ := h.par c hc e
   have ih := h.findC n y hy (by rw [hs] at hn; simp at hn; omega)
   rw [hs]
   exact (findGo_one h.wf).2 ⟨y.2.1, ih, h.dir hy hk, (h.ent _).2 ⟨c, hc, y, hy, hk, s, hs, rfl⟩⟩
theorem found (h : IsB Y C) : ∀ (n : Nat) (q : List ByteArray) (z : Int), q.length ≤ n → Y.findGo q 1 = (z, 0) → ∃ c ∈ C, c.1 = q ∧ c.2.1 = z
 | 0, q, z, hn, hf => by
  obtain rfl : q = [] := List.eq_nil_of_length_eq_zero (by omega)
  obtain ⟨c, hc, e⟩ := h.has
  unfold UpY.findGo at hf
  exact ⟨c, hc, e, by rw [h.root c hc e]; exact congrArg Prod.fst hf⟩
 | n + 1, q, z, hn, hf => by
  by_cases e : q.length = 0
  ·exact h.found n q z (by omega) hf
  ·rw [split_last e] at hf ⊢
   obtain ⟨d, h1, h2, h3⟩ := (findGo_one h.wf).1 hf
   obtain ⟨c, hc, y, hy, hk, s, hs, he⟩ := (h.ent _).1 h3
   obtain ⟨y', hy', e1, e2⟩ := h.found n _ d (by rw [List.length_take]; omega) h1
   have ed : d = y.2.1 := congrArg Prod.fst he
   have es : lastN q = s := congrArg (fun e : EnD => e.2.1) he
   have ez : z = c.2.1 := congrArg (fun e : EnD => e.2.2.1) he
   have := h.dirs y hy y' hy' (.inl hk) (e2.trans ed)
   subst this
   exact ⟨c, hc, by rw [hs, e1, es], ez.symm⟩
theorem walk (h : IsB Y C) (hs : C.Pairwise fun a b => cmpL a.1 b.1 < 0) {n : Nat} (hn : ∀ c ∈ C, c.1.length < n) : Y.walk n 1 [] = C.map fun c => (c.1, c.2.1) := by
 refine sorted_eq (R := fun a b : List ByteArray × Int => cmpL a.1 b.1 < 0) (fun a b h1 h2 => by have := cmpL_swap a.1 b.1; omega) (walk_sorted h.wf _ _ _) (List.pairwise_map.2 hs) ?_
 rintro ⟨q, z⟩
 rw [walk_mem h.wf, List.mem_map]
 constructor
 ·rintro ⟨t, _, h2, h3⟩
  obtain ⟨c, hc, e1, e2⟩ := h.found _ t z (Nat.le_refl _) h3
  exact ⟨c, hc, by rw [e1, e2, h2]; rfl⟩
 ·rintro ⟨c, hc, e⟩
  cases e
  exact ⟨c.1, hn c hc, rfl, h.findC _ c hc (Nat.le_refl _)⟩
theorem fresh (h : IsB Y C) {y : NoD} {s : ByteArray} (hy : y ∈ C) (hk : y.2.2.1 = 1) (hv : validN s = 0) (hno : ∀ c ∈ C, c.1 ≠ y.1 ++ [s]) : Y.freshE y.2.1 s = 0 ∧ Y.ent y.2.1 s = none := by
 have he : Y.ent y.2.1 s = none := ent_none.2 fun e he => by
  rintro ⟨h1, h2⟩
  obtain ⟨c, hc, y', hy', hk', s', hs, rfl⟩ := (h.ent e).1 he
  simp only at h1 h2
  have := h.dirs y hy y' hy' (.inl hk) h1
  subst this
  subst h2
  exact hno c hc hs
 refine ⟨?_, he⟩
 unfold UpY.freshE
 rw [if_pos (h.dir hy hk), if_pos hv, he]
theorem lt (h : IsB Y C) {c : NoD} (hc : c ∈ C) : c.2.1 < Y.nx := by
 obtain ⟨h1, h2⟩ := at_mem (h.get c hc)
 have := (h.wf.lo _ h1).2
 rw [h2] at this
 exact this
theorem noneI (h : IsB Y C) : (nodesOf C).any (isI Y.nx) = false := by
 rw [← h.L, List.any_eq_false]
 intro n hn
 have := (h.wf.lo n hn).2
 unfold isI
 simp; omega
theorem someI (h : IsB Y C) {c : NoD} (hc : c ∈ C) : (nodesOf C).any (isI c.2.1) = true := by
 rw [← h.L, List.any_eq_true]
 obtain ⟨h1, h2⟩ := at_mem (h.get c hc)
 exact ⟨_, h1, by unfold isI; simp only [beq_iff_eq]; exact h2⟩
theorem more (h : IsB Y C) {Y' : UpY} {x y : NoD} {s : ByteArray} (hy : y ∈ C) (hk : y.2.2.1 = 1) (hx : x.1 = y.1 ++ [s]) (hno : ∀ c ∈ C, c.1 ≠ x.1) (w : Y'.Wf) (hL : Y'.L = addN (nodesOf C) x) (hE : Y'.E = Y.E ++ [(y.2.1, s, x.2.1, ())])
  (hget : Y'.at x.2.1 = Option.some x.bare) (hold : ∀ c ∈ C, Y'.at c.2.1 = Y.at c.2.1) (hd1 : x.2.2.1 = 1 ∨ x.2.2.1 = 4 → ∀ c ∈ C, c.2.1 ≠ x.2.1) (hd2 : ∀ c ∈ C, c.2.2.1 = 1 ∨ c.2.2.1 = 4 → x.2.1 ≠ c.2.1) : IsB Y' (C ++ [x]) where
 wf := w
 L := by rw [nodesOf_snoc]; exact hL
 get := fun c hc => by
  rcases List.mem_append.1 hc with hc | hc
  ·rw [hold c hc]; exact h.get c hc
  ·obtain rfl : c = x := by simpa using hc
   exact hget
 ent := fun e => by
  rw [hE, List.mem_append]
  constructor
  ·rintro (he | he)
   ·obtain ⟨c, hc, y', hy', r⟩ := (h.ent e).1 he
    exact ⟨c, by simp [hc], y', by simp [hy'], r⟩
   ·obtain rfl : e = _ := by simpa using he
    exact ⟨x, by simp, y, by simp [hy], hk, s, hx, rfl⟩
  ·rintro ⟨c, hc, y', hy', hk', s', hs, rfl⟩
   rcases List.mem_append.1 hy' with hyC | hyC
   ·rcases List.mem_append.1 hc with hcC | hcC
    ·exact .inl ((h.ent _).2 ⟨c, hcC, y', hyC, hk', s', hs, rfl⟩)
    ·have ec : c = x := by simpa using hcC
     rw [ec] at hs ⊢
     have e := List.append_inj' (hx.symm.trans hs) rfl
     have := nm_inj h.nm hy hyC e.1
     subst this
     have es : s = s' := by simpa using e.2
     subst es
     exact .inr (by simp)
   ·have ey : y' = x := by simpa using hyC
    rw [ey] at hs
    rcases List.mem_append.1 hc with hcC | hcC
    ·obtain ⟨y2, hy2, _, s2, hs2⟩ := h.par c hcC (by rw [hs]; simp)
     exact absurd (List.append_inj' (hs2.symm.trans hs) rfl).1 (hno y2 hy2)
    ·have ec : c = x := by simpa using hcC
     rw [ec] at hs
     have := congrArg List.length hs
     simp at this
 sum := by
  rw [hE, List.map_append, List.sum_append, h.sum, List.map_append, List.sum_append]
  congr 1
  have : lastZ x = (s.size : Int) := by
   unfold lastZ
   rw [hx, if_neg (by simp), lastN_app]
  simp [this]
 root := fun c hc e => by
  rcases List.mem_append.1 hc with hc | hc
  ·exact h.root c hc e
  ·obtain rfl : c = x := by simpa using hc
   rw [hx] at e
   exact absurd e (by simp)
 has := by
  obtain ⟨c, hc, e⟩ := h.has
  exact ⟨c, by simp [hc], e⟩
 dirs := fun c hc d hd hk' e => by
  rcases List.mem_append.1 hc with hcC | hcC
  ·rcases List.mem_append.1 hd with hdC | hdC
   ·exact h.dirs c hcC d hdC hk' e
   ·have ed : d = x := by simpa using hdC
    rw [ed] at e
    exact absurd e (hd2 c hcC hk')
  ·have ec : c = x := by simpa using hcC
   rw [ec] at hk' e ⊢
   rcases List.mem_append.1 hd with hdC | hdC
   ·exact absurd e (hd1 hk' d hdC)
   ·simpa using hdC
 par := fun c hc e => by
  rcases List.mem_append.1 hc with hc | hc
  ·obtain ⟨y', hy', r⟩ := h.par c hc e
   exact ⟨y', by simp [hy'], r⟩
  ·obtain rfl : c = x := by simpa using hc
   exact ⟨y, by simp [hy], hk, s, hx⟩
 nm := by
  rw [List.pairwise_append]
  refine ⟨h.nm, by simp, fun a ha b hb => ?_⟩
  obtain rfl : b = x := by simpa using hb
  exact hno a ha
end IsB
theorem mayU_mayN {x : NoD} (h : mayU x = true) : mayN x = true ∧ (x.2.2.2.2.2.2.2.1 = true → x.2.2.1 = 1) := by
 unfold mayU at h
 by_cases h4 : x.2.2.1 = 4
 ·rw [if_pos h4] at h
  have h' : x.2.2.2.2.2.2.2.1 = false := by
   unfold badM at h
   rw [h4] at h
   simp only [beq_self_eq_true, Bool.true_and, Bool.not_eq_true', Bool.or_eq_false_iff] at h
   exact h.2
  refine ⟨?_, fun e => by rw [h'] at e; cases e⟩
  unfold mayN
  rw [if_pos h4]
  unfold NoD.setO
  have e : (x.1, x.2.1, x.2.2.1, x.2.2.2.1, x.2.2.2.2.1, x.2.2.2.2.2.1, x.2.2.2.2.2.2.1, false, ()) = x := by rw [← h']
  rw [e]; exact h
 ·rw [if_neg h4] at h
  unfold mayN
  rw [if_neg h4]
  by_cases h1 : x.2.2.1 = 1
  ·rw [if_pos h1] at h
   exact ⟨h, fun _ => h1⟩
  ·rw [if_neg h1] at h
   have h' : x.2.2.2.2.2.2.2.1 = false := by
    unfold mayT at h
    simp only [h1, if_false] at h
    split at h
    ·simp only [Bool.and_eq_true, Bool.not_eq_true'] at h; exact h.1.1.2
    ·split at h
     ·simp only [Bool.and_eq_true, Bool.not_eq_true'] at h; exact h.1.1.2
     ·cases h
   refine ⟨?_, fun e => by rw [h'] at e; cases e⟩
   unfold NoD.setO
   rw [h'] at h
   exact h
namespace IsB
variable {C : List NoD}
theorem make (h : IsB Y C) {x y : NoD} {s : ByteArray} (hy : y ∈ C) (hk : y.2.2.1 = 1) (hx : x.1 = y.1 ++ [s]) (hv : validN s = 0) (hno : ∀ c ∈ C, c.1 ≠ x.1) (hm : mayU x = true) :
  Y.makeR y.2.1 s x = Y.nx ∧ IsB (if x.2.2.2.2.2.2.2.1 then (Y.makeY y.2.1 s x).setOpaqueY Y.nx true else Y.makeY y.2.1 s x) (C ++ [x.setI Y.nx]) ∧ (if x.2.2.2.2.2.2.2.1 then (Y.makeY y.2.1 s x).setOpaqueY Y.nx true else Y.makeY y.2.1 s x).nx = Y.nx + 1 := by
 obtain ⟨hm1, hm2⟩ := mayU_mayN hm
 have hE : Y.makeE y.2.1 s x = 0 := by
  unfold UpY.makeE
  rw [if_pos (h.fresh hy hk hv (fun c hc => by rw [← hx]; exact hno c hc)).1, if_pos hm1]
 have e1 : Y.makeY y.2.1 s x = { Y with L := Y.L ++ [Y.newN x], E := Y.E ++ [(y.2.1, s, Y.nx, ())], nx := Y.nx + 1 } := by unfold UpY.makeY; rw [if_pos hE]
 have hlo : ∀ n ∈ Y.L, isI Y.nx n = false := fun n hn => by
  have := (h.wf.lo n hn).2
  unfold isI; simp; omega
 have hat : (Y.makeY y.2.1 s x).at Y.nx = Option.some (Y.newN x) := by
  rw [e1]
  unfold UpY.at
  simp only
  rw [List.find?_append, List.find?_eq_none.2 fun n hn => by rw [hlo n hn]; simp]
  simp [isI, UpY.newN]
 have ok1 := okN_make (n := Y.E.length + Y.nx.toNat) ⟨h.wf, by omega, by omega⟩ y.2.1 s x
 have hset : setN (Y.L ++ [Y.newN x]) Y.nx (·.setO true) = Y.L ++ [(Y.newN x).setO true] := by
  unfold setN
  rw [List.map_append]
  congr 1
  ·conv => rhs; rw [← List.map_id Y.L]
   exact List.map_congr_left fun n hn => by rw [hlo n hn]; rfl
  ·simp [isI, UpY.newN]
 have e2 : (if x.2.2.2.2.2.2.2.1 then (Y.makeY y.2.1 s x).setOpaqueY Y.nx true else Y.makeY y.2.1 s x) = { Y with L := Y.L ++ [(x.setI Y.nx).bare], E := Y.E ++ [(y.2.1, s, Y.nx, ())], nx := Y.nx + 1 } := by
  cases ho : x.2.2.2.2.2.2.2.1 with
  | true =>
   rw [if_pos rfl]
   unfold UpY.setOpaqueY
   rw [if_pos (dirE_zero.2 ⟨_, hat, hm2 ho⟩), e1]
   simp only
   rw [hset]
   have : (Y.newN x).setO true = (x.setI Y.nx).bare := by unfold UpY.newN NoD.setO NoD.setI NoD.bare; rw [← ho]
   rw [this]
  | false =>
   rw [if_neg (by simp), e1]
   have : Y.newN x = (x.setI Y.nx).bare := by unfold UpY.newN NoD.setI NoD.bare; rw [← ho]
   rw [this]
 have hw : ({ Y with L := Y.L ++ [(x.setI Y.nx).bare], E := Y.E ++ [(y.2.1, s, Y.nx, ())], nx := Y.nx + 1 } : UpY).Wf := by
  rw [← e2]
  split
  ·exact (okN_setOpaque ok1 _ _).wf
  ·exact ok1.wf
 refine ⟨by unfold UpY.makeR; rw [if_pos hE], ?_, by rw [e2]⟩
 rw [e2]
 refine h.more (y := y) (s := s) hy hk hx hno hw ?_ rfl ?_ (fun c hc => ?_) (fun _ c hc => ?_) (fun c hc _ => ?_)
 ·unfold addN
  rw [show (x.setI Y.nx).2.1 = Y.nx from rfl, h.noneI, ← h.L]; rfl
 ·unfold UpY.at
  simp only
  rw [List.find?_append, List.find?_eq_none.2 fun n hn => by rw [show (x.setI Y.nx).2.1 = Y.nx from rfl, hlo n hn]; simp]
  simp [isI, NoD.bare, NoD.setI]
 ·have hg := h.get c hc
  unfold UpY.at at hg ⊢
  simp only
  rw [List.find?_append, hg]; rfl
 ·have := h.lt hc
  show c.2.1 ≠ Y.nx
  omega
 ·have := h.lt hc
  show Y.nx ≠ c.2.1
  omega
theorem link (h : IsB Y C) {x y c0 : NoD} {s : ByteArray} (hy : y ∈ C) (hk : y.2.2.1 = 1) (hx : x.1 = y.1 ++ [s]) (hv : validN s = 0) (hno : ∀ c ∈ C, c.1 ≠ x.1) (hc0 : c0 ∈ C) (ha : x.2.2 = c0.2.2) (hk1 : x.2.2.1 ≠ 1) (hk4 : x.2.2.1 ≠ 4) :
  IsB (Y.linkY y.2.1 s c0.2.1) (C ++ [x.setI c0.2.1]) ∧ (Y.linkY y.2.1 s c0.2.1).nx = Y.nx := by
 have hg := h.get c0 hc0
 have hk0 : c0.2.2.1 ≠ 1 := by rw [← ha]; exact hk1
 have hE : Y.linkE y.2.1 s c0.2.1 = 0 := by
  unfold UpY.linkE
  rw [hg, h.get y hy]
  simp only
  rw [if_pos (h.fresh hy hk hv (fun c hc => by rw [← hx]; exact hno c hc)).1]
  exact if_neg hk0
 have e1 : Y.linkY y.2.1 s c0.2.1 = { Y with E := Y.E ++ [(y.2.1, s, c0.2.1, ())] } := by unfold UpY.linkY; rw [if_pos hE]
 have ok1 := (okN_link (n := Y.E.length + Y.nx.toNat) ⟨h.wf, by omega, by omega⟩ y.2.1 s c0.2.1).wf
 rw [e1] at ok1 ⊢
 refine ⟨h.more (x := x.setI c0.2.1) (y := y) (s := s) hy hk hx hno ok1 ?_ rfl ?_ (fun _ _ => rfl) (fun e => absurd e (fun q => q.elim hk1 hk4)) (fun c hc hkc e => ?_), rfl⟩
 ·unfold addN
  rw [show (x.setI c0.2.1).2.1 = c0.2.1 from rfl, if_pos (h.someI hc0)]; exact h.L
 ·show Y.at c0.2.1 = _
  rw [hg]
  unfold NoD.bare NoD.setI
  rw [ha]
 ·have := h.dirs c hc c0 hc0 hkc e
  subst this
  rw [← ha] at hkc
  exact hkc.elim hk1 hk4
end IsB
end Go.Lm

namespace Go.Lm
open Go
variable {Y : UpY}
theorem kk_same {k : Kk} {α : Type} {l : List (k.den × α)} {x : k.den} {v : α} : Kk.get k (Kk.put k l x v) x = some v := by
 unfold Kk.get Kk.put getK putK
 simp
theorem kk_ne {k : Kk} {α : Type} {l : List (k.den × α)} {x y : k.den} {v : α} (h : y ≠ x) : Kk.get k (Kk.put k l x v) y = Kk.get k l y := by
 unfold Kk.get Kk.put getK putK delK
 have h' : ¬ x = y := fun e => h e.symm
 rw [List.find?_cons]
 simp only [h', decide_false, List.find?_filter]
 congr 2
 funext p
 by_cases h2 : p.1 = y
 ·simp [h2, h]
 ·simp [h2]
theorem kk_len {k : Kk} {α : Type} {l : List (k.den × α)} {x : k.den} {v : α} (h : Kk.get k l x = none) : (Kk.put k l x v).length = l.length + 1 := by
 unfold Kk.put putK delK
 rw [List.length_cons, List.filter_eq_self.2]
 intro p hp
 unfold Kk.get getK at h
 rw [Option.map_eq_none_iff, List.find?_eq_none] at h
 have := h p hp
 simpa using this
def numGo : List NoD → List (Int × Int) → List NoD
 | [], _ => []
 | x :: r, m => match Kk.get .int m x.2.1 with
  | some k => x.setI k :: numGo r m
  | none => x.setI ((m.length : Int) + 1) :: numGo r (Kk.put .int m x.2.1 ((m.length : Int) + 1))
theorem numGo_some {x : NoD} {r : List NoD} {m : List (Int × Int)} {k : Int} (h : Kk.get .int m x.2.1 = some k) : numGo (x :: r) m = x.setI k :: numGo r m := by
 conv => lhs; unfold numGo
 rw [h]
theorem numGo_none {x : NoD} {r : List NoD} {m : List (Int × Int)} (h : Kk.get .int m x.2.1 = none) : numGo (x :: r) m = x.setI ((m.length : Int) + 1) :: numGo r (Kk.put .int m x.2.1 ((m.length : Int) + 1)) := by
 conv => lhs; unfold numGo
 rw [h]
theorem setI_self (x : NoD) : x.setI x.2.1 = x := rfl
theorem numGo_idem (f : NoD → NoD) (hf : ∀ x, (f x).2.1 = x.2.1) : ∀ (R : List NoD) (m m2 : List (Int × Int)), (∀ i k, Kk.get .int m i = some k → Kk.get .int m2 k = some k) → m2.length = m.length → (∀ k : Int, Kk.get .int m2 k ≠ none → k ≤ m.length) → numGo ((numGo R m).map f) m2 = (numGo R m).map f
 | [], _, _, _, _, _ => rfl
 | x :: R, m, m2, h1, h2, h3 => by
  cases hg : Kk.get .int m x.2.1 with
  | some k =>
   have e : (f (x.setI k)).2.1 = k := hf _
   rw [numGo_some hg, List.map_cons, numGo_some (show Kk.get .int m2 (f (x.setI k)).2.1 = some k by rw [e]; exact h1 _ _ hg), numGo_idem f hf R m m2 h1 h2 h3]
   have := setI_self (f (x.setI k))
   rw [e] at this
   rw [this]
  | none =>
   have e : (f (x.setI ((m.length : Int) + 1))).2.1 = (m.length : Int) + 1 := hf _
   have hn : Kk.get .int m2 ((m.length : Int) + 1) = none := by
    cases hq : Kk.get .int m2 ((m.length : Int) + 1) with
    | none => rfl
    | some z =>
     have := h3 ((m.length : Int) + 1) (by rw [hq]; simp)
     omega
   rw [numGo_none hg, List.map_cons, numGo_none (show Kk.get .int m2 (f (x.setI ((m.length : Int) + 1))).2.1 = none by rw [e]; exact hn), e, h2, numGo_idem f hf R (Kk.put .int m x.2.1 ((m.length : Int) + 1)) (Kk.put .int m2 ((m.length : Int) + 1) ((m.length : Int) + 1)) ?_ ?_ ?_]
   ·have := setI_self (f (x.setI ((m.length : Int) + 1)))
    rw [e] at this
    rw [this]
   ·intro i k hk
    by_cases hi : i = x.2.1
    ·subst hi
     rw [kk_same] at hk
     obtain rfl := Option.some.inj hk
     exact kk_same
    ·rw [kk_ne hi] at hk
     have := h1 i k hk
     have hkn : k ≠ (m.length : Int) + 1 := fun q => by rw [q, hn] at this; cases this
     rw [kk_ne hkn]; exact this
   ·rw [kk_len hn, kk_len hg, h2]
   ·intro k hk
    rw [kk_len hg]
    by_cases hi : k = (m.length : Int) + 1
    ·rw [hi]; simp
    ·rw [kk_ne hi] at hk
     have := h3 k hk
     omega
def cntGo : List NoD → Int → Int → Int × Int
 | [], n, b => (n, b)
 | c :: r, n, b => if c.2.1 ≤ n then cntGo r n (b + lastZ c) else cntGo r c.2.1 (b + lastZ c + UpY.costN c)
theorem cnt_num : ∀ (R : List NoD) (m : List (Int × Int)) (A : List NoD) (b : Int), (∀ i k, Kk.get .int m i = some k → A.any (isI k) = true) → (∀ n ∈ A, n.2.1 ≤ (m.length : Int)) → A.length = m.length →
  cntGo (numGo R m) (m.length : Int) b = ((((numGo R m).foldl addN A).length : Int), b + ((numGo R m).map lastZ).sum + (((numGo R m).foldl addN A).map UpY.costN).sum - (A.map UpY.costN).sum)
 | [], m, A, b, _, _, h3 => by
  simp only [numGo, cntGo, List.foldl_nil, List.map_nil, List.sum_nil]
  rw [h3]
  congr 1
  omega
 | x :: R, m, A, b, h1, h2, h3 => by
  cases hg : Kk.get .int m x.2.1 with
  | some k =>
   rw [numGo_some hg]
   have ha := h1 _ _ hg
   obtain ⟨n, hn, hk⟩ := List.any_eq_true.1 ha
   have hk : n.2.1 = k := by simpa [isI] using hk
   have hle := h2 n hn
   rw [hk] at hle
   simp only [cntGo, List.foldl_cons, List.map_cons, List.sum_cons]
   rw [if_pos (show (x.setI k).2.1 ≤ (m.length : Int) from hle), cnt_num R m A _ h1 h2 h3]
   have : addN A (x.setI k) = A := if_pos ha
   rw [this]
   congr 1
   omega
  | none =>
   rw [numGo_none hg]
   have hno : A.any (isI ((m.length : Int) + 1)) = false := by
    rw [List.any_eq_false]
    intro n hn
    have := h2 n hn
    unfold isI
    simp; omega
   have hadd : addN A (x.setI ((m.length : Int) + 1)) = A ++ [(x.setI ((m.length : Int) + 1)).bare] := by
    unfold addN
    rw [show (x.setI ((m.length : Int) + 1)).2.1 = (m.length : Int) + 1 from rfl, hno]; rfl
   simp only [cntGo, List.foldl_cons, List.map_cons, List.sum_cons]
   rw [if_neg (show ¬ (x.setI ((m.length : Int) + 1)).2.1 ≤ (m.length : Int) by show ¬ (m.length : Int) + 1 ≤ _; omega), hadd]
   have hl : ((Kk.put .int m x.2.1 ((m.length : Int) + 1)).length : Int) = (m.length : Int) + 1 := by rw [kk_len hg]; simp
   have ih := cnt_num R (Kk.put .int m x.2.1 ((m.length : Int) + 1)) (A ++ [(x.setI ((m.length : Int) + 1)).bare]) (b + lastZ (x.setI ((m.length : Int) + 1)) + UpY.costN (x.setI ((m.length : Int) + 1))) ?_ ?_ ?_
   ·rw [hl] at ih
    rw [show (x.setI ((m.length : Int) + 1)).2.1 = (m.length : Int) + 1 from rfl, ih]
    congr 1
    rw [List.map_append, List.sum_append]
    have : (List.map UpY.costN [(x.setI ((m.length : Int) + 1)).bare]).sum = UpY.costN (x.setI ((m.length : Int) + 1)) := by simp [UpY.costN, NoD.bare]
    rw [this]
    omega
   ·intro i k hk
    rw [List.any_append, Bool.or_eq_true]
    by_cases hi : i = x.2.1
    ·subst hi
     rw [kk_same] at hk
     obtain rfl := Option.some.inj hk
     right; simp [isI, NoD.bare, NoD.setI]
    ·rw [kk_ne hi] at hk
     exact .inl (h1 i k hk)
   ·intro n hn
    rw [hl]
    rcases List.mem_append.1 hn with hn | hn
    ·have := h2 n hn; omega
    ·obtain rfl := List.mem_singleton.1 hn
     show (m.length : Int) + 1 ≤ _
     omega
   ·rw [List.length_append, kk_len hg, h3]; rfl
theorem cnt_used {Y : UpY} {C L : List NoD} (h : IsB Y C) (e : C = numGo L []) : cntGo C 0 0 = ((Y.L.length : Int), Y.usedB) := by
 have h1 := cnt_num L [] [] 0 (fun i k q => by cases q) (fun n hn => by cases hn) rfl
 rw [← e] at h1
 simp only [List.length_nil] at h1
 have h2 : cntGo C 0 0 = _ := h1
 rw [h2]
 unfold UpY.usedB
 rw [h.sum, h.L]
 unfold nodesOf
 congr 1
 simp only [List.map_nil, List.sum_nil]
 omega
theorem isB_first (a b : Int) {x : NoD} (hx : x.1 = []) (hk : x.2.2.1 = 1) (hm : mayU x = true) :
  IsB (if x.2.2.2.2.2.2.2.1 then (((UpY.new a b).setAttrY 1 x.2.2.2.1).setXattrsY 1 x.2.2.2.2.2.2.1).setOpaqueY 1 true else ((UpY.new a b).setAttrY 1 x.2.2.2.1).setXattrsY 1 x.2.2.2.2.2.2.1) [x.setI 1]
  ∧ (if x.2.2.2.2.2.2.2.1 then (((UpY.new a b).setAttrY 1 x.2.2.2.1).setXattrsY 1 x.2.2.2.2.2.2.1).setOpaqueY 1 true else ((UpY.new a b).setAttrY 1 x.2.2.2.1).setXattrsY 1 x.2.2.2.2.2.2.1).nx = 2 := by
 obtain ⟨hm1, _⟩ := mayU_mayN hm
 obtain ⟨p, i, k, at', dt, tg, xs, op, u⟩ := x
 simp only at hx hk
 subst hx hk
 unfold mayN NoD.setO mayT at hm1
 simp only [show ¬ (1 : Int) = 4 by decide, if_false, if_true, Bool.and_eq_true, beq_iff_eq, Bool.not_false, and_true] at hm1
 obtain ⟨⟨⟨h1, h2⟩, h3⟩, h4⟩ := hm1
 have hdt : dt = [] := List.eq_nil_of_length_eq_zero (by omega)
 unfold noB at h2
 have htg := sEq_iff.1 h2
 subst hdt htg
 have e1 : (UpY.new a b).setAttrY 1 at' = ⟨a, b, [([], 1, 1, at', [], ⟨#[]⟩, [], false, ())], [], 2⟩ := by
  have : (UpY.new a b).setAttrE 1 at' = 0 := by
   have hma : mayA at' = true := h3
   show (if (1 : Int) = 4 ∨ mayA at' = false then (1 : Int) else 0) = 0
   rw [hma]; rfl
  unfold UpY.setAttrY
  rw [if_pos this]; rfl
 have e2 : ((UpY.new a b).setAttrY 1 at').setXattrsY 1 xs = ⟨a, b, [([], 1, 1, at', [], ⟨#[]⟩, xs, false, ())], [], 2⟩ := by
  rw [e1]
  have : (⟨a, b, [([], 1, 1, at', [], ⟨#[]⟩, [], false, ())], [], 2⟩ : UpY).setXattrsE 1 xs = 0 := by
   show (if (1 : Int) = 4 ∨ xattrsB xs = false then (1 : Int) else 0) = 0
   rw [h4]; rfl
  unfold UpY.setXattrsY
  rw [if_pos this]; rfl
 have ok := okN_setXattrs (okN_setAttr (new_okN a b) 1 at') 1 xs
 have e3 : (if op then (((UpY.new a b).setAttrY 1 at').setXattrsY 1 xs).setOpaqueY 1 true else ((UpY.new a b).setAttrY 1 at').setXattrsY 1 xs) = ⟨a, b, [([], 1, 1, at', [], ⟨#[]⟩, xs, op, ())], [], 2⟩ := by
  cases op with
  | true =>
   rw [if_pos rfl, e2]
   unfold UpY.setOpaqueY
   rw [if_pos (show (⟨a, b, [([], 1, 1, at', [], ⟨#[]⟩, xs, false, ())], [], 2⟩ : UpY).dirE 1 = 0 from rfl)]; rfl
  | false => rw [if_neg (by simp), e2]
 have hw : (⟨a, b, [([], 1, 1, at', [], ⟨#[]⟩, xs, op, ())], [], 2⟩ : UpY).Wf := by
  rw [← e3]
  split
  ·exact (okN_setOpaque ok _ _).wf
  ·exact ok.wf
 simp only
 rw [e3]
 refine ⟨⟨hw, rfl, fun c hc => ?_, fun e => ⟨fun he => (by cases he), ?_⟩, rfl, fun c hc _ => ?_, ⟨_, List.mem_singleton.2 rfl, rfl⟩, fun c hc d hd _ _ => ?_, fun c hc e => ?_, by simp⟩, rfl⟩
 ·obtain rfl := List.mem_singleton.1 hc
  rfl
 ·rintro ⟨c, hc, y, hy, _, s, hs, _⟩
  obtain rfl := List.mem_singleton.1 hc
  have := congrArg List.length hs
  simp [NoD.setI] at this
 ·obtain rfl := List.mem_singleton.1 hc
  rfl
 ·obtain rfl := List.mem_singleton.1 hc
  exact List.mem_singleton.1 hd
 ·obtain rfl := List.mem_singleton.1 hc
  exact absurd rfl e
structure GoodT (L : List NoD) : Prop where
 nm : ∀ x ∈ L, ∀ s ∈ x.1, validN s = 0
 ord : L.Pairwise fun a b => cmpL a.1 b.1 < 0
 root : ∃ x ∈ L, x.1 = []
 rootd : ∀ x ∈ L, x.1 = [] → x.2.2.1 = 1
 par : ∀ x ∈ L, x.1.length ≠ 0 → ∃ y ∈ L, y.2.2.1 = 1 ∧ y.1 = x.1.take (x.1.length - 1)
 may : ∀ x ∈ L, mayU x = true
 one : L.Pairwise fun a b => a.2.1 = b.2.1 → b.2.2.1 ≠ 1 ∧ b.2.2.1 ≠ 4 ∧ b.2.2 = a.2.2
structure FilSt (Y : UpY) (C D : List NoD) (m mm : List (Int × Int)) : Prop where
 b : IsB Y C
 get : ∀ i, Kk.get .int m i = Kk.get .int mm i
 C_eq : C = D.map fun y => y.setI ((Kk.get .int mm y.2.1).getD 0)
 key : ∀ i, (Kk.get .int mm i).isSome = true ↔ ∃ y ∈ D, y.2.1 = i
 len : (mm.length : Int) + 1 = Y.nx
theorem cmpL_nil (a : List ByteArray) : ¬ cmpL a [] < 0 := by cases a <;> (unfold cmpL; decide)
theorem fill_is : ∀ (R D : List NoD) {Y : UpY} {C : List NoD} {m mm : List (Int × Int)}, GoodT (D ++ R) → D ≠ [] → FilSt Y C D m mm → IsB (fillGo R m Y) (C ++ numGo R mm)
 | [], D, Y, C, m, mm, _, _, h => by
  rw [show numGo [] mm = [] from rfl, List.append_nil]; exact h.b
 | x :: R, D, Y, C, m, mm, g, hD, h => by
  have hxm : x ∈ D ++ x :: R := by simp
  have ord := List.pairwise_append.1 g.ord
  have hDx : ∀ d ∈ D, cmpL d.1 x.1 < 0 := fun d hd => ord.2.2 d hd x List.mem_cons_self
  have hx0 : x.1.length ≠ 0 := fun e => by
   obtain ⟨d, hd⟩ := List.exists_mem_of_ne_nil D hD
   have := hDx d hd
   rw [List.eq_nil_of_length_eq_zero e] at this
   exact cmpL_nil _ this
  obtain ⟨y, hy, hyk, hyn⟩ := g.par x hxm hx0
  have hsp := split_last hx0
  rw [← hyn] at hsp
  have hyx : cmpL y.1 x.1 < 0 := by rw [hsp]; exact cmpL_ext _ _ _
  have hyD : y ∈ D := by
   rcases List.mem_append.1 hy with h1 | h1
   ·exact h1
   ·rcases List.mem_cons.1 h1 with h1 | h1
    ·rw [h1, cmpL_self] at hyx; omega
    ·have := (List.pairwise_cons.1 ord.2.1).1 y h1
     have := cmpL_swap x.1 y.1
     omega
  have hC : ∀ d ∈ D, d.setI ((Kk.get .int mm d.2.1).getD 0) ∈ C := fun d hd => by rw [h.C_eq]; exact List.mem_map.2 ⟨d, hd, rfl⟩
  have hcy := hC y hyD
  generalize hcyd : y.setI ((Kk.get .int mm y.2.1).getD 0) = cy at hcy
  have hcy1 : cy.1 = y.1 := by rw [← hcyd]; rfl
  have hcyk : cy.2.2.1 = 1 := by rw [← hcyd]; exact hyk
  have hxs : x.1 = cy.1 ++ [lastN x.1] := by rw [hcy1]; exact hsp
  have hno : ∀ c ∈ C, c.1 ≠ x.1 := fun c hc e => by
   rw [h.C_eq] at hc
   obtain ⟨d, hd, rfl⟩ := List.mem_map.1 hc
   have := hDx d hd
   rw [show d.1 = x.1 from e, cmpL_self] at this
   omega
  have hv : validN (lastN x.1) = 0 := g.nm x hxm _ (by rw [hxs, lastN_app]; simp)
  have hmay := g.may x hxm
  have hf : (Y.findGo (x.1.take (x.1.length - 1)) 1).1 = cy.2.1 := by
   rw [← hyn, ← hcy1, h.b.findC _ cy hcy (Nat.le_refl _)]
  have g' : GoodT ((D ++ [x]) ++ R) := by rw [List.append_assoc]; exact g
  have hD' : D ++ [x] ≠ [] := by simp
  have hfr : fillR Y m x = match Kk.get .int m x.2.1 with
   | some r => (r, Y.linkY cy.2.1 (lastN x.1) r)
   | none => (Y.makeR cy.2.1 (lastN x.1) x, Y.makeY cy.2.1 (lastN x.1) x) := by
   unfold fillR
   rw [if_neg hx0, hf]; rfl
  unfold fillGo
  have hmg := h.get x.2.1
  cases hg : Kk.get .int mm x.2.1 with
  | some r =>
   rw [numGo_some hg]
   rw [hg] at hmg
   rw [hmg] at hfr
   simp only at hfr
   obtain ⟨d, hd, hdi⟩ := (h.key x.2.1).1 (by rw [hg]; rfl)
   have hc0 := hC d hd
   rw [hdi, hg] at hc0
   have hone := (List.pairwise_append.1 g.one).2.2 d hd x List.mem_cons_self hdi
   obtain ⟨l1, l2⟩ := h.b.link (x := x) hcy hcyk hxs hv hno hc0 hone.2.2 hone.1 hone.2.1
   have l1 : IsB (Y.linkY cy.2.1 (lastN x.1) r) (C ++ [x.setI r]) := l1
   have l2 : (Y.linkY cy.2.1 (lastN x.1) r).nx = Y.nx := l2
   have hop : x.2.2.2.2.2.2.2.1 = false := by
    cases ho : x.2.2.2.2.2.2.2.1 with
    | false => rfl
    | true => exact absurd ((mayU_mayN hmay).2 ho) hone.1
   have hfy : fillY Y m x = Y.linkY cy.2.1 (lastN x.1) r := by
    unfold fillY
    rw [hop, hfr]; rfl
   rw [hfy, hfr]
   simp only
   have st : FilSt (Y.linkY cy.2.1 (lastN x.1) r) (C ++ [x.setI r]) (D ++ [x]) (Kk.put .int m x.2.1 r) mm := by
    refine ⟨l1, fun i => ?_, ?_, fun i => ?_, by rw [l2]; exact h.len⟩
    ·by_cases hi : i = x.2.1
     ·rw [hi, kk_same, hg]
     ·rw [kk_ne hi, h.get i]
    ·rw [List.map_append, ← h.C_eq]
     simp [hg]
    ·rw [h.key i]
     constructor
     ·rintro ⟨z, hz, e⟩; exact ⟨z, by simp [hz], e⟩
     ·rintro ⟨z, hz, e⟩
      rcases List.mem_append.1 hz with hz | hz
      ·exact ⟨z, hz, e⟩
      ·obtain rfl := List.mem_singleton.1 hz
       exact ⟨d, hd, hdi.trans e⟩
   have := fill_is R (D ++ [x]) g' hD' st
   rwa [List.append_assoc] at this
  | none =>
   rw [numGo_none hg]
   rw [hg] at hmg
   rw [hmg] at hfr
   simp only at hfr
   obtain ⟨k1, k2, k3⟩ := h.b.make (x := x) hcy hcyk hxs hv hno hmay
   rw [k1] at hfr
   have hfy : fillY Y m x = if x.2.2.2.2.2.2.2.1 then (Y.makeY cy.2.1 (lastN x.1) x).setOpaqueY Y.nx true else Y.makeY cy.2.1 (lastN x.1) x := by
    unfold fillY
    rw [hfr]
   rw [← hfy] at k2 k3
   rw [hfr]
   simp only
   rw [h.len]
   have st : FilSt (fillY Y m x) (C ++ [x.setI Y.nx]) (D ++ [x]) (Kk.put .int m x.2.1 Y.nx) (Kk.put .int mm x.2.1 Y.nx) := by
    refine ⟨k2, fun i => ?_, ?_, fun i => ?_, ?_⟩
    ·by_cases hi : i = x.2.1
     ·rw [hi, kk_same, kk_same]
     ·rw [kk_ne hi, kk_ne hi, h.get i]
    ·rw [List.map_append]
     congr 1
     ·rw [h.C_eq]
      refine List.map_congr_left fun d hd => ?_
      have : d.2.1 ≠ x.2.1 := fun e => by
       have := (h.key x.2.1).2 ⟨d, hd, e⟩
       rw [hg] at this; cases this
      rw [kk_ne this]
     ·simp [kk_same]
    ·by_cases hi : i = x.2.1
     ·rw [hi, kk_same]
      exact ⟨fun _ => ⟨x, by simp, rfl⟩, fun _ => rfl⟩
     ·rw [kk_ne hi, h.key i]
      constructor
      ·rintro ⟨z, hz, e⟩; exact ⟨z, by simp [hz], e⟩
      ·rintro ⟨z, hz, e⟩
       rcases List.mem_append.1 hz with hz | hz
       ·exact ⟨z, hz, e⟩
       ·obtain rfl := List.mem_singleton.1 hz
        exact absurd e.symm hi
    ·rw [kk_len hg, k3, ← h.len]; simp
   have := fill_is R (D ++ [x]) g' hD' st
   rwa [List.append_assoc] at this
theorem fill_all (a b : Int) {L : List NoD} (g : GoodT L) : IsB (fillGo L [] (UpY.new a b)) (numGo L []) := by
 obtain ⟨ρ, hρ, e0⟩ := g.root
 cases L with
 | nil => cases hρ
 | cons x R =>
  have hx : x.1 = [] := by
   rcases List.mem_cons.1 hρ with e | h
   ·rw [← e]; exact e0
   ·have := (List.pairwise_cons.1 g.ord).1 ρ h
    rw [e0] at this
    exact absurd this (cmpL_nil _)
  obtain ⟨f1, f2⟩ := isB_first a b hx (g.rootd x List.mem_cons_self hx) (g.may x List.mem_cons_self)
  have hr : fillR (UpY.new a b) [] x = (1, ((UpY.new a b).setAttrY 1 x.2.2.2.1).setXattrsY 1 x.2.2.2.2.2.2.1) := by
   unfold fillR
   rw [hx]; rfl
  have hy : fillY (UpY.new a b) [] x = if x.2.2.2.2.2.2.2.1 then (((UpY.new a b).setAttrY 1 x.2.2.2.1).setXattrsY 1 x.2.2.2.2.2.2.1).setOpaqueY 1 true else ((UpY.new a b).setAttrY 1 x.2.2.2.1).setXattrsY 1 x.2.2.2.2.2.2.1 := by
   unfold fillY
   rw [hr]
  rw [← hy] at f1 f2
  unfold fillGo
  have e1 : Kk.get .int ([] : List (Int × Int)) x.2.1 = none := rfl
  rw [numGo_none e1, hr]
  simp only [List.length_nil]
  have st : FilSt (fillY (UpY.new a b) [] x) [x.setI 1] [x] (Kk.put .int [] x.2.1 1) (Kk.put .int [] x.2.1 1) := by
   refine ⟨f1, fun _ => rfl, by simp [kk_same], fun i => ?_, by rw [f2]; rfl⟩
   by_cases hi : i = x.2.1
   ·rw [hi, kk_same]
    exact ⟨fun _ => ⟨x, by simp, rfl⟩, fun _ => rfl⟩
   ·rw [kk_ne hi]
    constructor
    ·intro h; cases h
    ·rintro ⟨z, hz, e⟩
     obtain rfl := List.mem_singleton.1 hz
     exact absurd e.symm hi
  exact fill_is R [x] g (by simp) st
end Go.Lm

namespace Go.Proofs
open Go Go.Lm Go.RowKit
set_option maxRecDepth 1000000
def c_find : Ct
 | [.v (.c (.ifc 26 (.p 0 0))), .v (.c cl)], [.ab (.upr ⟨84, 81, 3, 9⟩ Y)], Q => (match (Ty.sl Ty.str).of [cl] with
  | some (l, []) => Y.Ok ∧ Q (.tup [.c (.k (.int .i64 (Y.findGo l 1).1)), .c (.k (.int .i64 (Y.findGo l 1).2))]) [.ab (.upr ⟨84, 81, 3, 9⟩ Y)]
  | _ => False)
 | _, _, _ => False
noncomputable def XB666 : Vx := { P := Tryz.prog, ct := (51, c_root) :: (22, c_look) :: XB565.ct, ty := tyTab, hold := [] }
theorem XB666_ok : CtOk Inv Tryz.prog XB666.ct := CtOk.cons w_root (CtOk.cons w_look (XB565_ok))
def vc_find : (List (Ty.str).den) → (UpY) → (SV → List HO → Prop) → Prop :=
 fun l Y Q => List.length l ≤ 9223372036854775807 → True ∧ (inK .i64 1 → List.length l ≤ 9223372036854775807 → LoopP (fun i again => br (decide (i.1.2.1 < (l.length : Int))) (0 ≤ i.1.2.1 ∧ i.1.2.1 < (l.length : Int) ∧ (Ty.ok Ty.str (ixD 
 Ty.str l i.1.2.1) → UpY.Ok i.2.1 ∧ (ByteArray.size (UpY.lookD i.2.1 i.1.1 (ixD Ty.str l i.1.2.1)).1 ≤ 9223372036854775807 → inK .i64 (UpY.lookD i.2.1 i.1.1 (ixD Ty.str l i.1.2.1)).2.1 → inK .i64 (UpY.lookD i.2.1 i.1.1 (ixD Ty.str l 
 i.1.2.1)).2.2.1 → inK .i64 (UpY.lookE i.2.1 i.1.1 (ixD Ty.str l i.1.2.1)) → br (UpY.lookE i.2.1 i.1.1 (ixD Ty.str l i.1.2.1) != 0) (Q (.tup [.c (.k (.int .i64 0)), .c (.k (.int .i64 (UpY.lookE i.2.1 i.1.1 (ixD Ty.str l i.1.2.1))))]) [.ab 
 (.upr ⟨84, 81, 3, 9⟩ i.2.1)]) (inK .i64 (i.1.2.1 + 1) ∧ again (((UpY.lookD i.2.1 i.1.1 (ixD Ty.str l i.1.2.1)).2.2.1, i.1.2.1 + 1, ()), i.2))))) (Q (.tup [.c (.k (.int .i64 i.1.1)), .c (.k (.int .i64 0))]) [.ab (.upr ⟨84, 81, 3, 9⟩ 
 i.2.1)])) (((1 : Int), (0 : Int), ()), Y, ()))
theorem vc_find_eq (l : List (Ty.str).den) (Y : UpY) (Q : SV → List HO → Prop) : vFun XB666 ⟨[(4, ⟨[(6, .int .i64), (15, .int .i64)], [(0, .ab (.upr ⟨84, 81, 3, 9⟩))]⟩)], []⟩ Tryz.f66 [.c (.ifc 26 (.p 0 0)), .c (.d Ty.str l)] [.ab (.upr ⟨84, 81, 3, 9⟩ Y)] Q = vc_find l Y Q := by kernel_rfl
theorem w_find : ∀ args H Q, c_find args H Q → Wp Inv Tryz.prog 66 args H Q := by
 intro args H Q h
 unfold c_find at h
 split at h
 rotate_left
 ·exact h.elim
 rename_i cl Y
 split at h
 rotate_left
 ·exact h.elim
 rename_i l hl
 refine Wp.said (args' := [.c (.ifc 26 (.p 0 0)), .c (.d Ty.str l)]) (fun E g => RelVs.cons1 (fun _ h => h) (RelVs.cons1 (of_list hl) (fun _ h => h))) ?_
 clear hl
 refine Wp.enter (X := XB666) XB666_ok ⟨[(4, ⟨[(6, .int .i64), (15, .int .i64)], [(0, .ab (.upr ⟨84, 81, 3, 9⟩))]⟩)], []⟩ (fn := Tryz.f66) (by kernel_rfl) ?_
 have hv := vc_find_eq l Y Q
 rw [show vFun _ _ _ _ _ _ = _ from hv]
 unfold vc_find
 obtain ⟨hp, hq⟩ := h
 intro _
 refine ⟨trivial, fun _ hl => ?_⟩
 refine LoopP.intro (fun i => 0 ≤ i.1.2.1 ∧ i.1.2.1 ≤ l.length ∧ i.2.1 = Y ∧ Y.findGo l 1 = Y.findGo (l.drop i.1.2.1.toNat) i.1.1) (fun i => l.length - i.1.2.1.toNat) ⟨by simp, by simp, rfl, by simp⟩ ?_
 rintro ⟨⟨r, i, _⟩, _, _⟩ ⟨h0, h1, rfl, h2⟩
 simp only at h0 h1 h2 ⊢
 refine br_of (fun hc => ?_) (fun hc => ?_)
 ·have hc : i < (l.length : Int) := of_decide_eq_true hc
  rw [ixD_drop (e := .str) h0 hc, findGo_cons] at h2
  refine ⟨h0, hc, fun _ => ⟨hp, fun _ _ _ _ => br_of (fun hd => ?_) (fun hd => ?_)⟩⟩
  ·rw [if_neg (by simpa using hd)] at h2
   rw [h2] at hq
   exact hq
  ·rw [if_pos (by simpa using hd)] at h2
   exact ⟨by unfold inK; omega, ⟨by omega, by omega, trivial, h2⟩, by omega⟩
 ·have hc : ¬ i < (l.length : Int) := of_decide_eq_false hc
  rw [drop_all hc, findGo_nil] at h2
  rw [h2] at hq
  exact hq
def c_nsort : Ct
 | [.v (.c (.o 0)), .v (.c (.fn 64 []))], [.sl tN e xs], Q => (match asD noTy xs with
  | some L => (L.length : Int) ≤ 1000 ∧ ∀ L' : List NoD, L'.Perm L → L'.Pairwise (fun x y => ¬ cmpL y.1 x.1 < 0) → Q (.tup []) [.sl tN noTy L']
  | none => False)
 | _, _, _ => False
theorem sl_asD {e e' : Ty} {xs : List e.den} {L : List e'.den} (h : asD e' xs = some L) (t : TypeId) : HO.sl t e xs = HO.sl t e' L := by
 obtain ⟨q, hy⟩ := asD_some h
 subst q; subst hy; rfl
theorem w_nsort : ∀ args H Q, c_nsort args H Q → Wp Inv Tryz.prog 63 args H Q := by
 intro args H Q h
 unfold c_nsort at h
 split at h
 ·split at h
  ·rename_i tN e xs x_ L hL
   rw [sl_asD hL]
   exact Wp.sortNodes Tryz.sortC Tryz.sort0 Tryz.cmpC (by have := h.1; omega) h.2
  ·exact h.elim
 ·exact h.elim
end Go.Proofs

namespace Go.Proofs
open Go Go.Lm Go.RowKit
set_option maxRecDepth 1000000
def c_fill : Ct
 | [.v (.agg cq), .v (.c cl)], [], Q => (match (quTy).of cq with
  | some (q, []) => (match (Ty.sl noTy).of [cl] with
  | some (l, []) => (l.length : Int) ≤ 1000 ∧ br (checkU l != 0) (Q (.tup [.c (.k (.pointer none)), .c (.k (.int .i64 (checkU l)))]) []) (∀ L' : List NoD, L'.Perm l → L'.Pairwise (fun x y => ¬ cmpL y.1 x.1 < 0) → Q (.tup [.c (.p 0 0), .c (.k (.int .i64 0))]) [.ab (.upr ⟨84, 81, 3, 9⟩ (fillGo L' [] (UpY.new q.1 q.2.1)))])
  | _ => False)
  | _ => False)
 | _, _, _ => False
noncomputable def XB767 : Vx := { P := Tryz.prog, ct := [(61, c_kcheckU), (62, c_nclone), (63, c_nsort), (51, c_root), (66, c_find), (9, c_newu), (43, c_setattr), (45, c_setx), (32, c_link), (23, c_make), (47, c_setopq)], ty := tyTab, hold := [] }
theorem XB767_ok : CtOk Inv Tryz.prog XB767.ct := CtOk.cons w_kcheckU (CtOk.cons w_nclone (CtOk.cons w_nsort (CtOk.cons w_root (CtOk.cons w_find (CtOk.cons w_newu (CtOk.cons w_setattr (CtOk.cons w_setx (CtOk.cons w_link (CtOk.cons w_make (CtOk.cons w_setopq (CtOk.nil _ _)))))))))))
def vc_fill : ((quTy).den) → (List (noTy).den) → (SV → List HO → Prop) → Prop :=
 fun q l Q => inK .i64 q.1 → inK .i64 q.2.1 → List.length l ≤ 9223372036854775807 → (l.length : Int) ≤ (1000 : Int) ∧ (inK .i64 (checkU l) → br (checkU l != 0) (Q (.tup [.c (.k (.pointer none)), .c (.k (.int .i64 (checkU l)))]) []) 
 (List.length l ≤ 1000 ∧ (l.length : Int) ≤ (1000 : Int) ∧ ∀ (L' : List NoD), List.Perm L' l → List.Pairwise (fun x y => ¬cmpL y.1 x.1 < 0) L' → List.length L' ≤ 9223372036854775807 → LoopP (fun i again => br (decide (i.1.1 < (↑(List.length 
 L') : Int))) (0 ≤ i.1.1 ∧ i.1.1 < (↑(List.length L') : Int) ∧ 0 ≤ i.1.1 ∧ i.1.1 < (↑(List.length L') : Int) ∧ (Ty.ok noTy (ixD noTy L' i.1.1) → Ty.ok (Ty.int IntKind.i64) (Option.getD (Kk.get Kk.int i.2.2.1 (ixD noTy L' i.1.1).2.1) (0 : 
 Int)) → List.length (ixD noTy L' i.1.1).1 ≤ 9223372036854775807 → inK .i64 ((↑(List.length (ixD noTy L' i.1.1).1) : Int) - 1) ∧ JoinP (fun k => br (decide ((↑(List.length (ixD noTy L' i.1.1).1) : Int) - 1 < (0 : Int))) (True ∧ (inK .i64 1 → 
 UpY.Ok i.2.1 ∧ (inK .i64 (UpY.setAttrE i.2.1 (1 : Int) (ixD noTy L' i.1.1).2.2.2.1) → UpY.Ok (UpY.setAttrY i.2.1 (1 : Int) (ixD noTy L' i.1.1).2.2.2.1) ∧ (inK .i64 (UpY.setXattrsE (UpY.setAttrY i.2.1 (1 : Int) (ixD noTy L' i.1.1).2.2.2.1) 
 (1 : Int) (ixD noTy L' i.1.1).2.2.2.2.2.2.1) → k (((1 : Int), ()), UpY.setXattrsY (UpY.setAttrY i.2.1 (1 : Int) (ixD noTy L' i.1.1).2.2.2.1) (1 : Int) (ixD noTy L' i.1.1).2.2.2.2.2.2.1, ()))))) (br (Option.isSome (Kk.get Kk.int i.2.2.1 (ixD 
 noTy L' i.1.1).2.1)) (0 ≤ boundV none 0 ∧ boundV none 0 ≤ boundV (some ((↑(List.length (ixD noTy L' i.1.1).1) : Int) - 1)) (↑(List.length (ixD noTy L' i.1.1).1) : Int) ∧ boundV (some ((↑(List.length (ixD noTy L' i.1.1).1) : Int) - 1)) 
 (↑(List.length (ixD noTy L' i.1.1).1) : Int) ≤ (↑(List.length (ixD noTy L' i.1.1).1) : Int) ∧ UpY.Ok i.2.1 ∧ (inK .i64 (UpY.findGo i.2.1 (List.take (Int.toNat (boundV (some ((↑(List.length (ixD noTy L' i.1.1).1) : Int) - 1)) (↑(List.length 
 (ixD noTy L' i.1.1).1) : Int)) - 0) (List.drop 0 (ixD noTy L' i.1.1).1)) (1 : Int)).1 → inK .i64 (UpY.findGo i.2.1 (List.take (Int.toNat (boundV (some ((↑(List.length (ixD noTy L' i.1.1).1) : Int) - 1)) (↑(List.length (ixD noTy L' i.1.1).1) 
 : Int)) - 0) (List.drop 0 (ixD noTy L' i.1.1).1)) (1 : Int)).2 → (0 : Int) ≤ (↑(List.length (ixD noTy L' i.1.1).1) : Int) - 1 ∧ (↑(List.length (ixD noTy L' i.1.1).1) : Int) - 1 < (↑(List.length (ixD noTy L' i.1.1).1) : Int) ∧ (Ty.ok Ty.str 
 (ixD Ty.str (ixD noTy L' i.1.1).1 ((↑(List.length (ixD noTy L' i.1.1).1) : Int) - 1)) → UpY.Ok i.2.1 ∧ (inK .i64 (UpY.linkE i.2.1 (UpY.findGo i.2.1 (List.take (Int.toNat (boundV (some ((↑(List.length (ixD noTy L' i.1.1).1) : Int) - 1)) 
 (↑(List.length (ixD noTy L' i.1.1).1) : Int)) - 0) (List.drop 0 (ixD noTy L' i.1.1).1)) (1 : Int)).1 (ixD Ty.str (ixD noTy L' i.1.1).1 ((↑(List.length (ixD noTy L' i.1.1).1) : Int) - 1)) (Option.getD (Kk.get Kk.int i.2.2.1 (ixD noTy L' 
 i.1.1).2.1) (0 : Int))) → k ((Option.getD (Kk.get Kk.int i.2.2.1 (ixD noTy L' i.1.1).2.1) (0 : Int), ()), UpY.linkY i.2.1 (UpY.findGo i.2.1 (List.take (Int.toNat (boundV (some ((↑(List.length (ixD noTy L' i.1.1).1) : Int) - 1)) 
 (↑(List.length (ixD noTy L' i.1.1).1) : Int)) - 0) (List.drop 0 (ixD noTy L' i.1.1).1)) (1 : Int)).1 (ixD Ty.str (ixD noTy L' i.1.1).1 ((↑(List.length (ixD noTy L' i.1.1).1) : Int) - 1)) (Option.getD (Kk.get Kk.int i.2.2.1 (ixD noTy L' 
 i.1.1).2.1) (0 : Int)), ()))))) (0 ≤ boundV none 0 ∧ boundV none 0 ≤ boundV (some ((↑(List.length (ixD noTy L' i.1.1).1) : Int) - 1)) (↑(List.length (ixD noTy L' i.1.1).1) : Int) ∧ boundV (some ((↑(List.length (ixD noTy L' i.1.1).1) : Int) 
 - 1)) (↑(List.length (ixD noTy L' i.1.1).1) : Int) ≤ (↑(List.length (ixD noTy L' i.1.1).1) : Int) ∧ UpY.Ok i.2.1 ∧ (inK .i64 (UpY.findGo i.2.1 (List.take (Int.toNat (boundV (some ((↑(List.length (ixD noTy L' i.1.1).1) : Int) - 1)) 
 (↑(List.length (ixD noTy L' i.1.1).1) : Int)) - 0) (List.drop 0 (ixD noTy L' i.1.1).1)) (1 : Int)).1 → inK .i64 (UpY.findGo i.2.1 (List.take (Int.toNat (boundV (some ((↑(List.length (ixD noTy L' i.1.1).1) : Int) - 1)) (↑(List.length (ixD 
 noTy L' i.1.1).1) : Int)) - 0) (List.drop 0 (ixD noTy L' i.1.1).1)) (1 : Int)).2 → (0 : Int) ≤ (↑(List.length (ixD noTy L' i.1.1).1) : Int) - 1 ∧ (↑(List.length (ixD noTy L' i.1.1).1) : Int) - 1 < (↑(List.length (ixD noTy L' i.1.1).1) : 
 Int) ∧ (Ty.ok Ty.str (ixD Ty.str (ixD noTy L' i.1.1).1 ((↑(List.length (ixD noTy L' i.1.1).1) : Int) - 1)) → UpY.Ok i.2.1 ∧ (inK .i64 (UpY.makeR i.2.1 (UpY.findGo i.2.1 (List.take (Int.toNat (boundV (some ((↑(List.length (ixD noTy L' 
 i.1.1).1) : Int) - 1)) (↑(List.length (ixD noTy L' i.1.1).1) : Int)) - 0) (List.drop 0 (ixD noTy L' i.1.1).1)) (1 : Int)).1 (ixD Ty.str (ixD noTy L' i.1.1).1 ((↑(List.length (ixD noTy L' i.1.1).1) : Int) - 1)) (ixD noTy L' i.1.1)) → inK 
 .i64 (UpY.makeE i.2.1 (UpY.findGo i.2.1 (List.take (Int.toNat (boundV (some ((↑(List.length (ixD noTy L' i.1.1).1) : Int) - 1)) (↑(List.length (ixD noTy L' i.1.1).1) : Int)) - 0) (List.drop 0 (ixD noTy L' i.1.1).1)) (1 : Int)).1 (ixD Ty.str 
 (ixD noTy L' i.1.1).1 ((↑(List.length (ixD noTy L' i.1.1).1) : Int) - 1)) (ixD noTy L' i.1.1)) → k ((UpY.makeR i.2.1 (UpY.findGo i.2.1 (List.take (Int.toNat (boundV (some ((↑(List.length (ixD noTy L' i.1.1).1) : Int) - 1)) (↑(List.length 
 (ixD noTy L' i.1.1).1) : Int)) - 0) (List.drop 0 (ixD noTy L' i.1.1).1)) (1 : Int)).1 (ixD Ty.str (ixD noTy L' i.1.1).1 ((↑(List.length (ixD noTy L' i.1.1).1) : Int) - 1)) (ixD noTy L' i.1.1), ()), UpY.makeY i.2.1 (UpY.findGo i.2.1 
 (List.take (Int.toNat (boundV (some ((↑(List.length (ixD noTy L' i.1.1).1) : Int) - 1)) (↑(List.length (ixD noTy L' i.1.1).1) : Int)) - 0) (List.drop 0 (ixD noTy L' i.1.1).1)) (1 : Int)).1 (ixD Ty.str (ixD noTy L' i.1.1).1 ((↑(List.length 
 (ixD noTy L' i.1.1).1) : Int) - 1)) (ixD noTy L' i.1.1), ()))))))) fun i_1 => List.length i.2.2.1 < 9223372036854775807 ∧ br (ixD noTy L' i.1.1).2.2.2.2.2.2.2.1 (UpY.Ok i_1.2.1 ∧ (inK .i64 (UpY.dirE i_1.2.1 i_1.1.1) → inK .i64 (i.1.1 + 1) ∧ 
 again ((i.1.1 + 1, ()), UpY.setOpaqueY i_1.2.1 i_1.1.1 true, Kk.put Kk.int i.2.2.1 (ixD noTy L' i.1.1).2.1 i_1.1.1, ()))) (inK .i64 (i.1.1 + 1) ∧ again ((i.1.1 + 1, ()), i_1.2.1, Kk.put Kk.int i.2.2.1 (ixD noTy L' i.1.1).2.1 i_1.1.1, ())))) 
 (Q (SV.tup [S1.c (.p 0 0), .c (.k (.int .i64 0))]) [.ab (.upr ⟨84, 81, 3, 9⟩ i.2.1)])) (((0 : Int), ()), UpY.new q.1 q.2.1, [], ())))
theorem vc_fill_eq (q : (quTy).den) (l : List (noTy).den) (Q : SV → List HO → Prop) : vFun XB767 ⟨[(10, ⟨[(32, .int .i64)], [(2, .ab (.upr ⟨84, 81, 3, 9⟩)), (3, .map 3 .int (.int .i64))]⟩)], [(23, ⟨[(11, .int .i64)], [(2, .ab (.upr ⟨84, 81, 3, 9⟩))]⟩)]⟩ Tryz.f20 [.v (.agg (Ty.cells quTy q)), .c (.d noTy l)] [] Q = vc_fill q l Q := by kernel_rfl
theorem w_fill : ∀ args H Q, c_fill args H Q → Wp Inv Tryz.prog 20 args H Q := by
 intro args H Q h
 unfold c_fill at h
 split at h
 rotate_left
 ·exact h.elim
 rename_i cq cl
 split at h
 rotate_left
 ·exact h.elim
 rename_i q hq
 split at h
 rotate_left
 ·exact h.elim
 rename_i l hl
 refine Wp.said (args' := [.v (.agg (Ty.cells quTy q)), .c (.d noTy l)]) (fun E g => RelVs.cons1 (of_row hq) (RelVs.cons1 (of_list hl) (fun _ h => h))) ?_
 clear hq hl
 refine Wp.enter (X := XB767) XB767_ok ⟨[(10, ⟨[(32, .int .i64)], [(2, .ab (.upr ⟨84, 81, 3, 9⟩)), (3, .map 3 .int (.int .i64))]⟩)], [(23, ⟨[(11, .int .i64)], [(2, .ab (.upr ⟨84, 81, 3, 9⟩))]⟩)]⟩ (fn := Tryz.f20) (by kernel_rfl) ?_
 have hv := vc_fill_eq q l Q
 rw [show vFun _ _ _ _ _ _ = _ from hv]
 unfold vc_fill
 obtain ⟨hl, h⟩ := h
 intro _ _ _
 refine ⟨hl, fun _ => br_of (fun hc => ?_) (fun hc => ?_)⟩
 ·rw [hc] at h; exact h
 rw [hc] at h
 clear hv hc
 refine ⟨by omega, hl, fun L' hp ho _ => ?_⟩
 have hq := h L' hp ho
 have hlen : L'.length = l.length := hp.length_eq
 clear h hp ho
 refine LoopP.intro (fun i => 0 ≤ i.1.1 ∧ i.1.1 ≤ L'.length ∧ i.2.1.OkN i.1.1.toNat ∧ i.2.2.1.length ≤ i.1.1.toNat ∧ fillGo (L'.drop i.1.1.toNat) i.2.2.1 i.2.1 = fillGo L' [] (UpY.new q.1 q.2.1)) (fun i => L'.length - i.1.1.toNat) ⟨by simp, by simp, new_okN _ _, by simp, by simp⟩ ?_
 rintro ⟨⟨i, _⟩, Y, m, _⟩ ⟨h0, h1, h2, h3, h4⟩
 simp only at h0 h1 h2 h3 h4 ⊢
 refine br_of (fun hc => ?_) (fun hc => ?_)
 ·have hc : i < (L'.length : Int) := of_decide_eq_true hc
  rw [ixD_drop (e := noTy) h0 hc] at h4
  generalize ixD noTy L' i = x at *
  have ok := h2.ok (by omega)
  refine ⟨h0, hc, h0, hc, fun _ _ hx => ⟨by unfold inK; omega, ?_⟩⟩
  have e1 : boundV (some ((x.1.length : Int) - 1)) (x.1.length : Int) = (x.1.length : Int) - 1 := rfl
  have e2 : boundV none 0 = 0 := rfl
  refine JoinP.intro (fun k => k.1.1 = (fillR Y m x).1 ∧ k.2.1 = (fillR Y m x).2) ?_ ?_
  ·refine br_of (fun hd => ?_) (fun hd => ?_)
   ·have hd := of_decide_eq_true hd
    have e : fillR Y m x = (1, (Y.setAttrY 1 x.2.2.2.1).setXattrsY 1 x.2.2.2.2.2.2.1) := by unfold fillR; rw [if_pos (by omega)]
    rw [e]
    exact ⟨trivial, fun _ => ⟨ok, fun _ => ⟨(okN_setAttr h2 1 _).ok (by omega), fun _ => ⟨rfl, rfl⟩⟩⟩⟩
   have hd := of_decide_eq_false hd
   have e3 : List.take (((x.1.length : Int) - 1).toNat - 0) (List.drop 0 x.1) = x.1.take (x.1.length - 1) := by rw [List.drop_zero]; congr 1; omega
   simp only [e1, e2, e3]
   refine br_of (fun he => ?_) (fun he => ?_)
   ·obtain ⟨r, hr⟩ := Option.isSome_iff_exists.1 he
    have e : fillR Y m x = (r, Y.linkY (Y.findGo (x.1.take (x.1.length - 1)) 1).1 (ixD .str x.1 ((x.1.length : Int) - 1)) r) := by
     unfold fillR
     rw [if_neg (by omega), hr]
    rw [e, hr]
    exact ⟨Int.le_refl _, by omega, by omega, ok, fun _ _ => ⟨by omega, by omega, fun _ => ⟨ok, fun _ => ⟨rfl, rfl⟩⟩⟩⟩
   ·have hr : Kk.get .int m x.2.1 = none := by simpa using he
    have e : fillR Y m x = (Y.makeR (Y.findGo (x.1.take (x.1.length - 1)) 1).1 (ixD .str x.1 ((x.1.length : Int) - 1)) x, Y.makeY (Y.findGo (x.1.take (x.1.length - 1)) 1).1 (ixD .str x.1 ((x.1.length : Int) - 1)) x) := by
     unfold fillR
     rw [if_neg (by omega), hr]
    rw [e]
    exact ⟨Int.le_refl _, by omega, by omega, ok, fun _ _ => ⟨by omega, by omega, fun _ => ⟨ok, fun _ _ => ⟨rfl, rfl⟩⟩⟩⟩
  ·rintro ⟨⟨r, _⟩, Y1, _⟩ ⟨hr, hY⟩
   simp only at hr hY
   subst hr hY
   have okR := okN_fillR h2 m x
   have hpl := put_len (k := .int) (l := m) (x := x.2.1) (v := (fillR Y m x).1)
   have okY := okN_fillY h2 m x
   rw [show i.toNat + 1 = (i + 1).toNat by omega] at okY
   have h4 : fillGo (L'.drop (i + 1).toNat) (Kk.put .int m x.2.1 (fillR Y m x).1) (fillY Y m x) = _ := h4
   simp only
   refine ⟨by omega, br_of (fun ho => ?_) (fun ho => ?_)⟩
   ·have ey : fillY Y m x = (fillR Y m x).2.setOpaqueY (fillR Y m x).1 true := by unfold fillY; rw [if_pos ho]
    rw [ey] at okY h4
    exact ⟨okR.ok (by omega), fun _ => ⟨by unfold inK; omega, ⟨by omega, by omega, okY, by omega, h4⟩, by omega⟩⟩
   ·have ey : fillY Y m x = (fillR Y m x).2 := by unfold fillY; rw [ho]; rfl
    rw [ey] at okY h4
    exact ⟨by unfold inK; omega, ⟨by omega, by omega, okY, by omega, h4⟩, by omega⟩
 ·have hc : ¬ i < (L'.length : Int) := of_decide_eq_false hc
  rw [drop_all hc] at h4
  have h4 : Y = _ := h4
  rw [h4]
  exact hq
end Go.Proofs

namespace Go.Lm
open Go Go.RowKit
section
variable {P : Program}
def OpensD (P : Program) (t : TypeId) (e : Ty) : Prop := @Opens P t e.den e.rep
def OpensF (P : Program) (fs : List Field) (off : Nat) (e : Ty) : Prop :=
 ∀ {H : Type} (enc : TypeId × Value → H) (w : World) (base : Nat) (spare : Nat → Bool) (held : Bool) (fuel : Nat) (cs : List Value), cs.length = off + e.size →
  (∀ f ∈ fs, ∃ y, DataW.trod enc P w base spare held fuel f.type ((cs.drop f.offset).take (P.cellsOf f.type)) = some y) → ∃ x : e.den, e.rep.rel w (cs.drop off) x
theorem opensF_nil {off : Nat} : OpensF P [] off .unit := fun _ _ _ _ _ _ cs hl _ => ⟨(), by
 show cs.drop off = []
 exact List.drop_eq_nil_of_le (by rw [hl]; exact Nat.le_refl _)⟩
theorem opensF_cons {a b : Ty} {f : Field} {fs : List Field} {off : Nat} (ho : f.offset = off) (hs : P.cellsOf f.type = a.size) (h1 : OpensD P f.type a) (h2 : OpensF P fs (off + a.size) b) : OpensF P (f :: fs) off (.pair a b) := fun enc w base spare held fuel cs hl h => by
 obtain ⟨y, hy⟩ := h f (by simp)
 obtain ⟨x, hx⟩ := h1 enc w base spare held fuel _ y hy
 have hl' : cs.length = off + (a.size + b.size) := hl
 obtain ⟨r, hr⟩ := h2 enc w base spare held fuel cs (by omega) fun g hg => h g (List.mem_cons_of_mem _ hg)
 rw [ho, hs] at hx
 refine ⟨(x, r), _, _, ?_, hx, hr⟩
 rw [← List.drop_drop, List.take_append_drop]
theorem opensD_struct {t : TypeId} {e : Ty} {fs : Array Field} (ht : P.underlying t = some (.struct fs)) (hs : P.cellsOf t = e.size) (h : OpensF P fs.toList 0 e) : OpensD P t e := fun enc w base spare held fuel cs y hy => by
 obtain ⟨xs, n, _, _, hlen, hxl, hf⟩ := DataW.trod_struct ht hy
 obtain ⟨x, hx⟩ := h enc w base spare held n cs (by rw [hlen, hs]; omega) fun f hm => by
  obtain ⟨i, hi⟩ := List.getElem?_of_mem hm
  have hi' : fs[i]? = some f := by simpa using hi
  have hlt : i < xs.length := by rw [hxl]; exact (Array.getElem?_eq_some_iff.1 hi').1
  exact ⟨xs[i], by rw [hf i f hi', List.getElem?_eq_getElem hlt]⟩
 rw [List.drop_zero] at hx
 exact ⟨x, hx⟩
theorem opensD_int {k : IntKind} {t : TypeId} (ht : P.underlying t = some (.int k)) : OpensD P t (.int k) := fun _ _ _ _ _ _ _ _ h => by
 obtain ⟨n, hc, _, hw⟩ := DataW.trod_int ht h
 exact ⟨n, hc, hw⟩
def fit (P : Program) : Ty → TypeId ⊕ (List Field × Nat) → Bool
 | .int k, .inl t => match P.underlying t with
  | some (.int k') => IntKind.beq k k'
  | _ => false
 | .u8, .inl t => match P.underlying t with
  | some (.int .u8) => true
  | _ => false
 | .str, .inl t => match P.underlying t with
  | some .string => true
  | _ => false
 | .bool, .inl t => match P.underlying t with
  | some .bool => true
  | _ => false
 | .sl e, .inl t => match P.underlying t with
  | some (.slice et) => Nat.beq (P.cellsOf et) e.size && fit P e (.inl et)
  | _ => false
 | .unit, .inr ([], _) => true
 | .pair a b, .inr (f :: fs, off) => Nat.beq f.offset off && (Nat.beq (P.cellsOf f.type) a.size && (fit P a (.inl f.type) && fit P b (.inr (fs, off + a.size))))
 | .pair a b, .inl t => match P.underlying t with
  | some (.struct fs) => match fs.toList with
   | f :: r => Nat.beq (P.cellsOf t) (a.size + b.size) && (Nat.beq f.offset 0 && (Nat.beq (P.cellsOf f.type) a.size && (fit P a (.inl f.type) && fit P b (.inr (r, a.size)))))
   | [] => false
  | _ => false
 | _, _ => false
theorem fit_ok : ∀ (e : Ty), (∀ t, fit P e (.inl t) = true → OpensD P t e) ∧ ∀ fs off, fit P e (.inr (fs, off)) = true → OpensF P fs off e
 | .int k => by
  refine ⟨fun t h => ?_, fun fs off h => by simp [fit] at h⟩
  unfold fit at h
  split at h
  ·rename_i k' hk
   rw [IntKind.eq_of_beq h]
   exact opensD_int hk
  ·cases h
 | .u8 => by
  refine ⟨fun t h => ?_, fun fs off h => by simp [fit] at h⟩
  unfold fit at h
  split at h
  ·rename_i hk; exact opens_byte hk
  ·cases h
 | .str => by
  refine ⟨fun t h => ?_, fun fs off h => by simp [fit] at h⟩
  unfold fit at h
  split at h
  ·rename_i hk; exact opens_str hk
  ·cases h
 | .bool => by
  refine ⟨fun t h => ?_, fun fs off h => by simp [fit] at h⟩
  unfold fit at h
  split at h
  ·rename_i hk; exact opens_bool hk
  ·cases h
 | .unit => by
  refine ⟨fun t h => by simp [fit] at h, fun fs off h => ?_⟩
  cases fs with
  | nil => exact opensF_nil
  | cons f r => simp [fit] at h
 | .sl e => by
  refine ⟨fun t h => ?_, fun fs off h => by simp [fit] at h⟩
  unfold fit at h
  split at h
  ·rename_i et hk
   rw [Bool.and_eq_true] at h
   exact @opens_list P t et e.den e.rep hk ((Nat.eq_of_beq_eq_true h.1).trans e.rep_size.symm) ((fit_ok e).1 et h.2)
  ·cases h
 | .pair a b => by
  refine ⟨fun t h => ?_, fun fs off h => ?_⟩
  ·unfold fit at h
   split at h
   ·rename_i fs hk
    split at h
    ·rename_i f r hf
     simp only [Bool.and_eq_true] at h
     obtain ⟨h1, h2, h3, h4, h5⟩ := h
     refine opensD_struct (e := .pair a b) hk (Nat.eq_of_beq_eq_true h1) ?_
     rw [hf]
     refine opensF_cons (Nat.eq_of_beq_eq_true h2) (Nat.eq_of_beq_eq_true h3) ((fit_ok a).1 _ h4) ?_
     rw [Nat.zero_add]
     exact (fit_ok b).2 _ _ h5
    ·cases h
   ·cases h
  ·cases fs with
   | nil => simp [fit] at h
   | cons f r =>
    unfold fit at h
    simp only [Bool.and_eq_true] at h
    obtain ⟨h2, h3, h4, h5⟩ := h
    exact opensF_cons (Nat.eq_of_beq_eq_true h2) (Nat.eq_of_beq_eq_true h3) ((fit_ok a).1 _ h4) ((fit_ok b).2 _ _ h5)
theorem open_sl {t : TypeId} {e : Ty} (hf : fit P (.sl e) (.inl t) = true) {H : Type} {enc : TypeId × Value → H} {w : World} {base : Nat} {spare : Nat → Bool} {held : Bool} {v : Value} {d : DataW H} {ps : List MemPlace}
  (hv : v.cells = #[v]) (h : DataW.Trod enc P w base spare held t v d ps) : ∃ x : List e.den, IsD e w v x :=
 @open_one P t (List e.den) (listRep e.den e.rep) ((fit_ok (.sl e)).1 t hf) rfl H enc w base spare held v d ps hv h
theorem open_st {t : TypeId} {e : Ty} (hf : fit P e (.inl t) = true) {H : Type} {enc : TypeId × Value → H} {w : World} {base : Nat} {spare : Nat → Bool} {held : Bool} {cs : Array Value} {d : DataW H} {ps : List MemPlace}
  (h : DataW.Trod enc P w base spare held t (.agg cs) d ps) : ∃ x : e.den, e.rep.rel w cs.toList x := by
 obtain ⟨fuel, hf2⟩ := h
 exact (fit_ok e).1 t hf enc w base spare held fuel _ _ hf2
theorem Wp.run {I : Base → Prop} {f : FuncId} {args : List SV} {vs : List Value} {w : World} {b : Bool} (hI : I ⟨w, w⟩) (h : Wp I P f args [] fun v _ => v = SV.bool b) (hv : RelVs [] w args vs) : Ret P f vs.toArray w fun v w' => v = .bool b ∧ Le w w' := by
 have S : SL ⟨w, w⟩ w w [] := SL.start (Sees.refl w)
 refine (h ⟨w, w⟩ hI w w [] [] vs ⟨S, rfl⟩ hv).mono fun v w' ⟨E', g', sv, H', _, _, S', r, q⟩ => ?_
 subst q
 exact ⟨r.1, S'.sl.toLe⟩
end
end Go.Lm

namespace Go.Proofs
open Go Go.Lm Go.RowKit
set_option maxRecDepth 1000000
end Go.Proofs

namespace Go.Lm
open Go Go.RowKit
def subC (l : Nat) (d : Cl) : Cl → Cl
 | .o k => bif Nat.beq k l then d else .o k
 | c => c
def subCs (l : Nat) (d : Cl) : List Cl → List Cl
 | [] => []
 | c :: r => subC l d c :: subCs l d r
def subS (l : Nat) (d : Cl) : S1 → S1
 | .c x => .c (subC l d x)
 | .agg cs => .agg (subCs l d cs)
def subSs (l : Nat) (d : Cl) : List S1 → List S1
 | [] => []
 | c :: r => subS l d c :: subSs l d r
def subV (l : Nat) (d : Cl) : SV → SV
 | .v x => .v (subS l d x)
 | .tup xs => .tup (subSs l d xs)
 | .any => .any
section
variable {E : Env} {g : World} {l : Nat} {d : Cl}
theorem relCs_cons {c c' : Cl} {r r' : List Cl} {us : List Value} (h1 : ∀ u, RelC E g c u → RelC E g c' u) (h2 : ∀ us, RelCs E g r us → RelCs E g r' us) (h : RelCs E g (c :: r) us) : RelCs E g (c' :: r') us := by
 obtain ⟨u, q, e, a, b⟩ := h
 exact ⟨u, q, e, h1 u a, h2 q b⟩
theorem relC_sub (hd : ∀ u, E[l]? = some u → RelC E g d u) {c : Cl} {u : Value} (h : RelC E g c u) : RelC E g (subC l d c) u := by
 unfold subC
 split
 ·rename_i k
  cases hb : Nat.beq k l with
  | true =>
   rw [Nat.eq_of_beq_eq_true hb] at h
   exact hd u h.1
  | false => exact h
 ·exact h
theorem relCs_sub (hd : ∀ u, E[l]? = some u → RelC E g d u) : ∀ {cs : List Cl} {us : List Value}, RelCs E g cs us → RelCs E g (subCs l d cs) us
 | [], _, h => h
 | _ :: _, _, ⟨u, r, e, h1, h2⟩ => ⟨u, r, e, relC_sub hd h1, relCs_sub hd h2⟩
theorem relS_sub (hd : ∀ u, E[l]? = some u → RelC E g d u) : ∀ {x : S1} {u : Value}, RelS E g x u → RelS E g (subS l d x) u
 | .c _, _, h => relC_sub hd h
 | .agg _, _, ⟨us, h1, h2⟩ => ⟨us, relCs_sub hd h1, h2⟩
theorem relSs_sub (hd : ∀ u, E[l]? = some u → RelC E g d u) : ∀ {cs : List S1} {us : List Value}, RelSs E g cs us → RelSs E g (subSs l d cs) us
 | [], _, h => h
 | _ :: _, _, ⟨u, r, e, h1, h2⟩ => ⟨u, r, e, relS_sub hd h1, relSs_sub hd h2⟩
theorem relV_sub (hd : ∀ u, E[l]? = some u → RelC E g d u) : ∀ {x : SV} {u : Value}, RelV E g x u → RelV E g (subV l d x) u
 | .v _, _, h => relS_sub hd h
 | .tup _, _, ⟨us, h1, h2⟩ => ⟨us, relSs_sub hd h1, h2⟩
 | .any, _, h => h
end
theorem relC_nil {E : Env} {g : World} {e : Ty} {u : Value} (h : RelC E g (.k (.slice none 0 0)) u) : RelC E g (.d e []) u := by
 have hu : u = .slice none 0 0 := h.1
 subst hu
 letI := e.rep
 exact (is_list (α := e.den)).2 (.inl ⟨rfl, rfl⟩)
theorem relV_agg2 {cs cs' : List Cl} {c : S1} (h : ∀ E g us, RelCs E g cs us → RelCs E g cs' us) : ∀ E g v, RelV E g (.tup [.agg cs, c]) v → RelV E g (.tup [.agg cs', c]) v := by
 rintro E g v ⟨us, ⟨u, q, e, ⟨ws, h1, e2⟩, h2⟩, e3⟩
 exact ⟨us, ⟨u, q, e, ⟨ws, h E g ws h1, e2⟩, h2⟩, e3⟩
section
variable {P : Program} {I : Base → Prop} {f : FuncId} {args : List SV} {H : List HO} {Q Q' : SV → List HO → Prop}
theorem Wp.res (h : Wp I P f args H fun sv H' => ∃ sv', (∀ E g v, RelV E g sv v → RelV E g sv' v) ∧ Q sv' H') : Wp I P f args H Q := fun W hW g w E F vs hs hv =>
 (h W hW g w E F vs hs hv).mono fun v w' ⟨E1, g1, sv, H1, e1, m1, s1, r1, sv', k, q⟩ => ⟨E1, g1, sv', H1, e1, m1, s1, k _ _ _ r1, q⟩
theorem Wp.hold1 (h : Wp I P f args H fun sv H' => Q sv H' ∨ ∃ (l : Nat) (t : TypeId) (e : Ty) (xs : List e.den), H'[l]? = some (.sl t e xs) ∧ Q (subV l (.d e xs) sv) (H'.set l .gone)) : Wp I P f args H Q := fun W hW g w E F vs hs hv =>
 (h W hW g w E F vs hs hv).mono fun v w' ⟨E1, g1, sv, H1, e1, m1, s1, r1, q⟩ => by
  rcases q with q | ⟨l, t, e, xs, hl, q⟩
  ·exact ⟨E1, g1, sv, H1, e1, m1, s1, r1, q⟩
  ·have hlt := (List.getElem?_eq_some_iff.1 hl).1
   obtain ⟨u, hE⟩ : ∃ u, E1[l]? = some u := ⟨E1[l]'(by rw [s1.len]; exact hlt), List.getElem?_eq_getElem _⟩
   letI := e.rep
   have H2 : SL W g1 w' (slO e t u xs :: dropA (atomsO E1 0 H1 ++ F) l) := (s1.pick hl).weak fun k ⟨h1, h2, ap, q, ⟨u', x1, x2⟩, x3⟩ => ⟨h1, h2, ap, q, by
    rw [hE] at x1
    obtain rfl := Option.some.inj x1
    exact x2, x3⟩
   obtain ⟨g2, m2, H3, hi⟩ := SL.slHold0 (α := e.den) H2
   have S3 : Sat W E1 g2 w' (H1.set l .gone) F := Sat.back .gone s1.len hl (H3.weak fun k s2 => ⟨fun _ => none, k, fun _ => .inl rfl, rfl, trivial, s2⟩)
   exact ⟨E1, g2, _, _, e1, m1.trans m2, S3, relV_sub (fun u' hu => by
    rw [hE] at hu
    obtain rfl := Option.some.inj hu
    exact hi) (r1.mono (EnvLe.refl _) m2), q⟩
end
end Go.Lm

namespace Go.Lm
open Go
variable {Y : UpY}
def noZ : NoD := ([], 0, 0, (0, 0, 0, ()), [], ⟨#[]⟩, [], false, ())
def UpY.nodeD (Y : UpY) (r : Int) : NoD := match Y.at r with
 | none => noZ
 | some n => ([], 0, n.2.2.1, n.2.2.2.1, (if n.2.2.1 = 2 then n.2.2.2.2.1 else []), (if n.2.2.1 = 3 then n.2.2.2.2.2.1 else ⟨#[]⟩), n.2.2.2.2.2.2.1, false, ())
def UpY.told (Y : UpY) (w : List ByteArray × Int) : NoD := (w.1, w.2, (Y.nodeD w.2).2.2)
def UpY.rows (Y : UpY) (n : Nat) (r : Int) (p : List ByteArray) : List NoD := (Y.walk n r p).map Y.told
def numM : List NoD → List (Int × Int) → List (Int × Int)
 | [], m => m
 | x :: r, m => match Kk.get .int m x.2.1 with
  | some _ => numM r m
  | none => numM r (Kk.put .int m x.2.1 ((m.length : Int) + 1))
theorem numM_some {x : NoD} {r : List NoD} {m : List (Int × Int)} {k : Int} (h : Kk.get .int m x.2.1 = some k) : numM (x :: r) m = numM r m := by
 conv => lhs; unfold numM
 rw [h]
theorem numM_none {x : NoD} {r : List NoD} {m : List (Int × Int)} (h : Kk.get .int m x.2.1 = none) : numM (x :: r) m = numM r (Kk.put .int m x.2.1 ((m.length : Int) + 1)) := by
 conv => lhs; unfold numM
 rw [h]
theorem num_app : ∀ (a b : List NoD) (m : List (Int × Int)), numGo (a ++ b) m = numGo a m ++ numGo b (numM a m) ∧ numM (a ++ b) m = numM b (numM a m)
 | [], _, _ => ⟨rfl, rfl⟩
 | x :: a, b, m => by
  rw [List.cons_append]
  cases hg : Kk.get .int m x.2.1 with
  | some k =>
   rw [numGo_some hg, numM_some hg, numGo_some hg, numM_some hg, (num_app a b m).1, (num_app a b m).2]
   exact ⟨rfl, rfl⟩
  | none =>
   rw [numGo_none hg, numM_none hg, numGo_none hg, numM_none hg, (num_app a b _).1, (num_app a b _).2]
   exact ⟨rfl, rfl⟩
theorem numGo_len : ∀ (a : List NoD) (m : List (Int × Int)), (numGo a m).length = a.length
 | [], _ => rfl
 | x :: a, m => by
  cases hg : Kk.get .int m x.2.1 with
  | some k => rw [numGo_some hg, List.length_cons, List.length_cons, numGo_len a]
  | none => rw [numGo_none hg, List.length_cons, List.length_cons, numGo_len a]
theorem numM_len : ∀ (a : List NoD) (m : List (Int × Int)), (numM a m).length ≤ m.length + a.length
 | [], _ => Nat.le_refl _
 | x :: a, m => by
  cases hg : Kk.get .int m x.2.1 with
  | some k =>
   rw [numM_some hg, List.length_cons]
   have := numM_len a m
   omega
  | none =>
   rw [numM_none hg, List.length_cons]
   have := numM_len a (Kk.put .int m x.2.1 ((m.length : Int) + 1))
   rw [kk_len hg] at this
   omega
def UpY.tall (Y : UpY) : Nat → Int → Prop
 | 0, _ => False
 | n + 1, r => ∀ x ∈ Y.listD r, Y.tall n x.2.2.1
theorem mayN_none {x : NoD} (h : mayN x = true) : (x.2.2.1 ≠ 2 → x.2.2.2.2.1 = []) ∧ (x.2.2.1 ≠ 3 → x.2.2.2.2.2.1 = ⟨#[]⟩) := by
 unfold mayN at h
 by_cases h4 : x.2.2.1 = 4
 ·rw [if_pos h4] at h
  unfold badM NoD.setO at h
  simp only [h4, beq_self_eq_true, Bool.true_and, Bool.not_eq_true', Bool.or_eq_false_iff, decide_eq_false_iff_not, Bool.not_eq_false'] at h
  have h1 := h.1.1.1.2
  have h2 := sEq_iff.1 h.1.1.2
  exact ⟨fun _ => List.eq_nil_of_length_eq_zero (by omega), fun _ => h2⟩
 ·rw [if_neg h4] at h
  unfold mayT NoD.setO at h
  simp only at h
  split at h
  ·simp only [Bool.and_eq_true, beq_iff_eq] at h
   exact ⟨fun _ => List.eq_nil_of_length_eq_zero (by have := h.1.1.1.1; omega), fun _ => sEq_iff.1 h.1.1.1.2⟩
  ·split at h
   ·rename_i h2
    simp only [Bool.and_eq_true] at h
    exact ⟨fun q => absurd h2 q, fun _ => sEq_iff.1 h.1.1.1.2⟩
   ·split at h
    ·rename_i h3
     simp only [Bool.and_eq_true, beq_iff_eq] at h
     exact ⟨fun _ => List.eq_nil_of_length_eq_zero (by have := h.1.1.1.1; omega), fun q => absurd h3 q⟩
    ·cases h
namespace IsB
variable {C : List NoD}
theorem nodeD (h : IsB Y C) {c : NoD} (hc : c ∈ C) : (Y.nodeD c.2.1).2.2 = (c.setO false).2.2 := by
 have hg := h.get c hc
 obtain ⟨h1, h2⟩ := mayN_none (h.wf.nm _ (at_mem hg).1).2.2
 unfold UpY.nodeD
 rw [hg]
 unfold NoD.setO
 simp only
 have e1 : (if c.bare.2.2.1 = 2 then c.bare.2.2.2.2.1 else []) = c.2.2.2.2.1 := by
  by_cases q : c.bare.2.2.1 = 2
  ·rw [if_pos q]; rfl
  ·rw [if_neg q]; exact (h1 q).symm
 have e2 : (if c.bare.2.2.1 = 3 then c.bare.2.2.2.2.2.1 else ⟨#[]⟩) = c.2.2.2.2.2.1 := by
  by_cases q : c.bare.2.2.1 = 3
  ·rw [if_pos q]; rfl
  ·rw [if_neg q]; exact (h2 q).symm
 rw [e1, e2]; rfl
theorem rows (h : IsB Y C) (hs : C.Pairwise fun a b => cmpL a.1 b.1 < 0) {n : Nat} (hn : ∀ c ∈ C, c.1.length < n) : Y.rows n 1 [] = C.map (·.setO false) := by
 unfold UpY.rows
 rw [h.walk hs hn, List.map_map]
 refine List.map_congr_left fun c hc => ?_
 show (c.1, c.2.1, (Y.nodeD c.2.1).2.2) = _
 rw [h.nodeD hc]; rfl
theorem tall (h : IsB Y C) {n : Nat} (hn : ∀ c ∈ C, c.1.length < n) : ∀ (k : Nat) (p : List ByteArray) (r : Int), Y.findGo p 1 = (r, 0) → n ≤ p.length + k → Y.tall k r
 | 0, p, r, hf, hk => by
  obtain ⟨c, hc, e, _⟩ := h.found _ p r (Nat.le_refl _) hf
  have := hn c hc
  rw [e] at this
  omega
 | k + 1, p, r, hf, hk => by
  unfold UpY.tall
  intro x hx
  obtain ⟨hd, e, he, h1, rfl⟩ := listD_mem.1 hx
  refine h.tall hn k (p ++ [e.2.1]) _ ((findGo_one h.wf).2 ⟨r, hf, hd, ?_⟩) (by simp; omega)
  have : e = (r, e.2.1, e.2.2.1, ()) := by rw [← h1]
  show (r, e.2.1, e.2.2.1, ()) ∈ Y.E
  rw [← this]; exact he
theorem tree (h : IsB Y C) (hs : C.Pairwise fun a b => cmpL a.1 b.1 < 0) {n : Nat} (hn : ∀ c ∈ C, c.1.length < n) {L : List NoD} (e : C = numGo L []) : numGo (Y.rows n 1 []) [] = C.map (·.setO false) := by
 rw [h.rows hs hn, e]
 exact numGo_idem (·.setO false) (fun _ => rfl) L [] [] (fun i k q => by cases q) rfl (fun k q => absurd rfl q)
theorem opq (h : IsB Y C) {c : NoD} (hc : c ∈ C) : Y.opqD c.2.1 = c.2.2.2.2.2.2.2.1 := by
 unfold UpY.opqD
 rw [h.get c hc]; rfl
end IsB
theorem num_names : ∀ (L : List NoD) (m : List (Int × Int)), (numGo L m).map (fun c => (c.1, c.2.2)) = L.map fun c => (c.1, c.2.2)
 | [], _ => rfl
 | x :: L, m => by
  cases hg : Kk.get .int m x.2.1 with
  | some k => rw [numGo_some hg, List.map_cons, List.map_cons, num_names L]; rfl
  | none => rw [numGo_none hg, List.map_cons, List.map_cons, num_names L]; rfl
theorem num_ord {L : List NoD} {m : List (Int × Int)} (h : L.Pairwise fun a b => cmpL a.1 b.1 < 0) : (numGo L m).Pairwise fun a b => cmpL a.1 b.1 < 0 := by
 have e := num_names L m
 have h1 : (L.map fun c => (c.1, c.2.2)).Pairwise fun a b => cmpL a.1 b.1 < 0 := List.pairwise_map.2 h
 rw [← e] at h1
 exact List.pairwise_map.1 h1
theorem num_mem {L : List NoD} {m : List (Int × Int)} {c : NoD} (h : c ∈ numGo L m) : ∃ x ∈ L, x.1 = c.1 ∧ x.2.2 = c.2.2 := by
 have e := num_names L m
 have h1 : (c.1, c.2.2) ∈ (numGo L m).map fun c => (c.1, c.2.2) := List.mem_map.2 ⟨c, h, rfl⟩
 rw [e] at h1
 obtain ⟨x, hx, e2⟩ := List.mem_map.1 h1
 exact ⟨x, hx, (Prod.mk.inj e2).1, (Prod.mk.inj e2).2⟩
end Go.Lm

namespace Go.Proofs
open Go Go.Lm Go.RowKit
set_option maxRecDepth 1000000
def c_knul : Ct
 | [.v (.c (.k (.string s)))], [], Q => Q (.bool (nulB s 0)) []
 | _, _, _ => False
noncomputable def XB971 : Vx := { P := Tryz.prog, ct := [], ty := tyTab, hold := [] }
theorem XB971_ok : CtOk Inv Tryz.prog XB971.ct := CtOk.nil _ _
def vc_knul : (ByteArray) → (SV → List HO → Prop) → Prop :=
 fun s Q => ByteArray.size s ≤ 9223372036854775807 → LoopP (fun i again => br (decide (i.1.1 < (↑(ByteArray.size s) : Int))) (0 ≤ i.1.1 ∧ i.1.1 < (↑(ByteArray.size s) : Int) ∧ br ((↑(UInt8.toNat (byteAt s i.1.1)) : Int) == 0) (Q (.v (.c (.k 
 (.bool true)))) []) (inK .i64 (i.1.1 + 1) ∧ again ((i.1.1 + 1, ()), ()))) (Q (.v (.c (.k (.bool false)))) [])) (((0 : Int), ()), ())
theorem vc_knul_eq (s : ByteArray) (Q : SV → List HO → Prop) : vFun XB971 ⟨[(3, ⟨[(3, .int .i64)], []⟩)], []⟩ Tryz.f124 [.str s] [] Q = vc_knul s Q := by kernel_rfl
theorem w_knul : ∀ args H Q, c_knul args H Q → Wp Inv Tryz.prog 124 args H Q := by
 intro args H Q h
 unfold c_knul at h
 split at h
 rotate_left
 ·exact h.elim
 rename_i s
 refine Wp.enter (X := XB971) XB971_ok ⟨[(3, ⟨[(3, .int .i64)], []⟩)], []⟩ (fn := Tryz.f124) (by kernel_rfl) ?_
 have hv := vc_knul_eq s Q
 rw [show vFun _ _ _ _ _ _ = _ from hv]
 unfold vc_knul
 intro hs
 refine LoopP.intro (fun i => 0 ≤ i.1.1 ∧ i.1.1 ≤ s.size ∧ nulB s i.1.1.toNat = nulB s 0) (fun i => s.size - i.1.1.toNat) ⟨by simp, by simp, rfl⟩ ?_
 rintro ⟨⟨i, _⟩, _⟩ ⟨h0, h1, h2⟩
 simp only at h0 h1 h2 ⊢
 refine br_of (fun hc => ?_) (fun hc => ?_)
 ·have hc : i < s.size := by simpa using hc
  have hst := nulB_step h0 hc
  refine ⟨h0, hc, br_of (fun hb => ?_) (fun hb => ?_)⟩
  ·rw [hb, Bool.true_or] at hst
   rw [← h2, hst] at h
   exact h
  ·rw [hb, Bool.false_or] at hst
   refine ⟨by unfold inK; omega, ⟨by omega, by omega, by rw [← hst, h2]⟩, by omega⟩
 ·have hc : ¬ i < s.size := by simpa using hc
  rw [← h2, nulB_end hc h0] at h
  exact h
def c_kxattrsR : Ct
 | [.v (.c cl)], [], Q => (match (Ty.sl xaTy).of [cl] with
  | some (l, []) => Q (.bool (xattrsB l)) []
  | _ => False)
 | _, _, _ => False
noncomputable def XB972 : Vx := { P := Tryz.prog, ct := (124, c_knul) :: XB971.ct, ty := tyTab, hold := [] }
theorem XB972_ok : CtOk Inv Tryz.prog XB972.ct := CtOk.cons w_knul (XB971_ok)
def vc_kxattrsR : (List (xaTy).den) → (SV → List HO → Prop) → Prop :=
 fun l Q => List.length l ≤ 9223372036854775807 → LoopP (fun i again => List.length l ≤ 9223372036854775807 → br (decide (i.1.1 < (l.length : Int))) (0 ≤ i.1.1 ∧ i.1.1 < (l.length : Int) ∧ (Ty.ok xaTy (ixD xaTy l i.1.1) → br (decide 
 ((↑(ByteArray.size (ixD xaTy l i.1.1).1) : Int) < (1 : Int))) (Q (.v (.c (.k (.bool false)))) []) (br (decide ((↑(ByteArray.size (ixD xaTy l i.1.1).1) : Int) > (40 : Int))) (Q (.v (.c (.k (.bool false)))) []) (br (nulB (ixD xaTy l i.1.1).1 
 (0 : Nat)) (Q (.v (.c (.k (.bool false)))) []) (List.length (ixD xaTy l i.1.1).2.1 ≤ 9223372036854775807 → br (decide ((↑(List.length (ixD xaTy l i.1.1).2.1) : Int) > (200 : Int))) (Q (.v (.c (.k (.bool false)))) []) (br (decide (i.1.1 > 
 0)) (inK .i64 (i.1.1 - 1) ∧ 0 ≤ i.1.1 - 1 ∧ i.1.1 - 1 < (l.length : Int) ∧ (Ty.ok xaTy (ixD xaTy l (i.1.1 - 1)) → br (!sLt (ixD xaTy l (i.1.1 - 1)).1 (ixD xaTy l i.1.1).1) (Q (.v (.c (.k (.bool false)))) []) (inK .i64 (i.1.1 + 1) ∧ again 
 ((i.1.1 + 1, ()), ())))) (inK .i64 (i.1.1 + 1) ∧ again ((i.1.1 + 1, ()), ())))))))) (List.length l ≤ 9223372036854775807 → Q (.v (.c (.k (.bool (decide ((l.length : Int) ≤ (8 : Int))))))) [])) (((0 : Int), ()), ())
theorem vc_kxattrsR_eq (l : List (xaTy).den) (Q : SV → List HO → Prop) : vFun XB972 ⟨[(3, ⟨[(3, .int .i64)], []⟩)], []⟩ Tryz.f94 [.c (.d xaTy l)] [] Q = vc_kxattrsR l Q := by kernel_rfl
theorem w_kxattrsR : ∀ args H Q, c_kxattrsR args H Q → Wp Inv Tryz.prog 94 args H Q := by
 intro args H Q h
 unfold c_kxattrsR at h
 split at h
 rotate_left
 ·exact h.elim
 rename_i cl
 split at h
 rotate_left
 ·exact h.elim
 rename_i l hl
 refine Wp.said (args' := [.c (.d xaTy l)]) (fun E g => RelVs.cons1 (of_list hl) (fun _ h => h)) ?_
 clear hl
 refine Wp.enter (X := XB972) XB972_ok ⟨[(3, ⟨[(3, .int .i64)], []⟩)], []⟩ (fn := Tryz.f94) (by kernel_rfl) ?_
 have hv := vc_kxattrsR_eq l Q
 rw [show vFun _ _ _ _ _ _ = _ from hv]
 unfold vc_kxattrsR
 intro hl0
 refine LoopP.intro (fun i => 0 ≤ i.1.1 ∧ i.1.1 ≤ l.length ∧ xattrsGo l ⟨#[]⟩ = xattrsGo (l.drop i.1.1.toNat) (prevN l i.1.1)) (fun i => l.length - i.1.1.toNat) ⟨by simp, by simp, by simp [prevN]⟩ ?_
 rintro ⟨⟨i, _⟩, _⟩ ⟨h0, h1, h2⟩
 simp only at h0 h1 h2 ⊢
 intro _
 refine br_of (fun hc => ?_) (fun hc => ?_)
 ·have hc : i < l.length := by simpa using hc
  refine ⟨h0, hc, fun _ => ?_⟩
  rw [ixD_drop (e := xaTy) h0 hc] at h2
  have bad : badX (ixD xaTy l i) (prevN l i) = true → Q (.bool false) [] := fun hb => by
   simp only [xattrsGo, hb, if_true] at h2
   unfold xattrsB at h
   rw [h2, Bool.false_and] at h
   exact h
  have good : badX (ixD xaTy l i) (prevN l i) = false → inK .i64 (i + 1) ∧ (0 ≤ i + 1 ∧ i + 1 ≤ l.length ∧ xattrsGo l ⟨#[]⟩ = xattrsGo (l.drop (i + 1).toNat) (prevN l (i + 1))) ∧ l.length - (i + 1).toNat < l.length - i.toNat := fun hb => by
   simp only [xattrsGo, hb, Bool.false_eq_true, if_false] at h2
   have hp : prevN l (i + 1) = (ixD xaTy l i).1 := by
    unfold prevN
    rw [if_pos (by omega), show i + 1 - 1 = i by omega]; rfl
   rw [hp]
   exact ⟨by unfold inK; omega, ⟨by omega, by omega, h2⟩, by omega⟩
  rw [badX_ref] at bad good
  refine br_of (fun h3 => bad (by rw [h3]; rfl)) (fun h3 => br_of (fun h4 => bad (by rw [h4]; simp)) (fun h4 => br_of (fun h5 => bad (by rw [h5]; simp)) (fun h5 => fun _ => br_of (fun h6 => bad (by rw [h6]; simp)) (fun h6 => ?_))))
  refine br_of (fun h7 => ?_) (fun h7 => ?_)
  ·have h7 : i > 0 := by simpa using h7
   have hp : prevN l i = (ixD xaTy l (i - 1)).1 := by
    unfold prevN
    rw [if_pos h7]; rfl
   refine ⟨by unfold inK; omega, by omega, by omega, fun _ => ?_⟩
   rw [hp] at bad good
   exact br_of (fun h8 => bad (by rw [h8]; simp)) (fun h8 => good (by rw [h3, h4, h5, h6, h8]; rfl))
  ·have hp : prevN l i = ⟨#[]⟩ := by
    unfold prevN
    rw [if_neg (by simpa using h7)]
   have h9 : sLt ⟨#[]⟩ (ixD xaTy l i).1 = true := nil_lt (by
    have : ¬ ((ixD xaTy l i).1.size : Int) < 1 := by simpa using h3
    omega)
   exact good (by rw [h3, h4, h5, h6, hp, h9]; rfl)
 ·have hc : ¬ i < l.length := by simpa using hc
  rw [drop_all hc] at h2
  intro _
  unfold xattrsB at h
  rw [h2] at h
  exact h
def c_kmayR : Ct
 | [.v (.agg cx)], [], Q => (match (noTy).of cx with
  | some (x, []) => Q (.bool (mayT x)) []
  | _ => False)
 | _, _, _ => False
noncomputable def XB973 : Vx := { P := Tryz.prog, ct := (94, c_kxattrsR) :: XB972.ct, ty := tyTab, hold := [] }
theorem XB973_ok : CtOk Inv Tryz.prog XB973.ct := CtOk.cons w_kxattrsR (XB972_ok)
def vc_kmayR : ((noTy).den) → (SV → List HO → Prop) → Prop :=
 fun x Q => List.length x.1 ≤ 9223372036854775807 → inK .i64 x.2.1 → inK .i64 x.2.2.1 → inK .i64 x.2.2.2.1.1 → inK .i64 x.2.2.2.1.2.1 → inK .i64 x.2.2.2.1.2.2.1 → List.length x.2.2.2.2.1 ≤ 9223372036854775807 → ByteArray.size x.2.2.2.2.2.1 ≤ 
 9223372036854775807 → List.length x.2.2.2.2.2.2.1 ≤ 9223372036854775807 → br (decide (x.2.2.1 < 1)) (Q (.v (.c (.k (.bool false)))) []) (br (decide (x.2.2.1 > 3)) (Q (.v (.c (.k (.bool false)))) []) (br x.2.2.2.2.2.2.2.1 (Q (.v (.c (.k 
 (.bool false)))) []) (br (decide (x.2.2.2.1.1 < 0)) (Q (.v (.c (.k (.bool false)))) []) (br (decide (x.2.2.2.1.1 > 511)) (Q (.v (.c (.k (.bool false)))) []) (br (decide (x.2.2.2.1.2.1 < 0)) (Q (.v (.c (.k (.bool false)))) []) (br (decide 
 (x.2.2.2.1.2.1 > 65535)) (Q (.v (.c (.k (.bool false)))) []) (br (decide (x.2.2.2.1.2.2.1 < 0)) (Q (.v (.c (.k (.bool false)))) []) (br (decide (x.2.2.2.1.2.2.1 > 65535)) (Q (.v (.c (.k (.bool false)))) []) (br (x.2.2.1 != 2) (List.length 
 x.2.2.2.2.1 ≤ 9223372036854775807 → br (decide ((↑(List.length x.2.2.2.2.1) : Int) > (0 : Int))) (Q (.v (.c (.k (.bool false)))) []) (List.length x.2.2.2.2.1 ≤ 9223372036854775807 → br (decide ((↑(List.length x.2.2.2.2.1) : Int) > (4096 : 
 Int))) (Q (.v (.c (.k (.bool false)))) []) (br (x.2.2.1 != 3) (br (!sEq x.2.2.2.2.2.1 (ByteArray.mk #[])) (Q (.v (.c (.k (.bool false)))) []) (br (x.2.2.1 == 3) (br (sEq x.2.2.2.2.2.1 (ByteArray.mk #[])) (Q (.v (.c (.k (.bool false)))) []) 
 (br (decide ((↑(ByteArray.size x.2.2.2.2.2.1) : Int) > (200 : Int))) (Q (.v (.c (.k (.bool false)))) []) (br (nulB x.2.2.2.2.2.1 (0 : Nat)) (Q (.v (.c (.k (.bool false)))) []) (Q (.v (.c (.k (.bool (xattrsB x.2.2.2.2.2.2.1))))) [])))) (Q 
 (.v (.c (.k (.bool (xattrsB x.2.2.2.2.2.2.1))))) []))) (br (x.2.2.1 == 3) (br (sEq x.2.2.2.2.2.1 (ByteArray.mk #[])) (Q (.v (.c (.k (.bool false)))) []) (br (decide ((↑(ByteArray.size x.2.2.2.2.2.1) : Int) > (200 : Int))) (Q (.v (.c (.k 
 (.bool false)))) []) (br (nulB x.2.2.2.2.2.1 (0 : Nat)) (Q (.v (.c (.k (.bool false)))) []) (Q (.v (.c (.k (.bool (xattrsB x.2.2.2.2.2.2.1))))) [])))) (Q (.v (.c (.k (.bool (xattrsB x.2.2.2.2.2.2.1))))) []))))) (List.length x.2.2.2.2.1 ≤ 
 9223372036854775807 → br (decide ((↑(List.length x.2.2.2.2.1) : Int) > (4096 : Int))) (Q (.v (.c (.k (.bool false)))) []) (br (x.2.2.1 != 3) (br (!sEq x.2.2.2.2.2.1 (ByteArray.mk #[])) (Q (.v (.c (.k (.bool false)))) []) (br (x.2.2.1 == 3) 
 (br (sEq x.2.2.2.2.2.1 (ByteArray.mk #[])) (Q (.v (.c (.k (.bool false)))) []) (br (decide ((↑(ByteArray.size x.2.2.2.2.2.1) : Int) > (200 : Int))) (Q (.v (.c (.k (.bool false)))) []) (br (nulB x.2.2.2.2.2.1 (0 : Nat)) (Q (.v (.c (.k (.bool 
 false)))) []) (Q (.v (.c (.k (.bool (xattrsB x.2.2.2.2.2.2.1))))) [])))) (Q (.v (.c (.k (.bool (xattrsB x.2.2.2.2.2.2.1))))) []))) (br (x.2.2.1 == 3) (br (sEq x.2.2.2.2.2.1 (ByteArray.mk #[])) (Q (.v (.c (.k (.bool false)))) []) (br (decide 
 ((↑(ByteArray.size x.2.2.2.2.2.1) : Int) > (200 : Int))) (Q (.v (.c (.k (.bool false)))) []) (br (nulB x.2.2.2.2.2.1 (0 : Nat)) (Q (.v (.c (.k (.bool false)))) []) (Q (.v (.c (.k (.bool (xattrsB x.2.2.2.2.2.2.1))))) [])))) (Q (.v (.c (.k 
 (.bool (xattrsB x.2.2.2.2.2.2.1))))) [])))))))))))))
theorem vc_kmayR_eq (x : (noTy).den) (Q : SV → List HO → Prop) : vFun XB973 ⟨[], []⟩ Tryz.f92 [.v (.agg (Ty.cells noTy x))] [] Q = vc_kmayR x Q := by kernel_rfl
theorem w_kmayR : ∀ args H Q, c_kmayR args H Q → Wp Inv Tryz.prog 92 args H Q := by
 intro args H Q h
 unfold c_kmayR at h
 split at h
 rotate_left
 ·exact h.elim
 rename_i cx
 split at h
 rotate_left
 ·exact h.elim
 rename_i x hx
 refine Wp.said (args' := [.v (.agg (Ty.cells noTy x))]) (fun E g => RelVs.cons1 (of_row hx) (fun _ h => h)) ?_
 clear hx
 refine Wp.enter (X := XB973) XB973_ok ⟨[], []⟩ (fn := Tryz.f92) (by kernel_rfl) ?_
 have hv := vc_kmayR_eq x Q
 rw [show vFun _ _ _ _ _ _ = _ from hv]
 unfold vc_kmayR
 intro _ _ _ _ _ _ _ _ _
 repeat' (first | refine br_of (fun _ => ?_) (fun _ => ?_) | intro _)
 all_goals refine Eq.mp (congrArg (fun z => Q (SV.bool z) []) ?_) h
 all_goals rw [← refMay_eq]
 all_goals unfold refMay
 all_goals clear hv h
 all_goals simp only [*, Bool.true_or, Bool.or_true, Bool.false_or, Bool.or_false, Bool.and_true, Bool.true_and, Bool.and_false, Bool.false_and, if_true, if_false, Bool.false_eq_true]
 all_goals (exfalso; simp_all; done)
def c_kmay18 : Ct
 | [.v (.agg cx)], [], Q => (match (noTy).of cx with
  | some (x, []) => Q (.bool (mayU x)) []
  | _ => False)
 | _, _, _ => False
noncomputable def XB974 : Vx := { P := Tryz.prog, ct := (92, c_kmayR) :: XB973.ct, ty := tyTab, hold := [] }
theorem XB974_ok : CtOk Inv Tryz.prog XB974.ct := CtOk.cons w_kmayR (XB973_ok)
def vc_kmay18 : ((noTy).den) → (SV → List HO → Prop) → Prop :=
 fun x Q => List.length x.1 ≤ 9223372036854775807 → inK .i64 x.2.1 → inK .i64 x.2.2.1 → inK .i64 x.2.2.2.1.1 → inK .i64 x.2.2.2.1.2.1 → inK .i64 x.2.2.2.1.2.2.1 → List.length x.2.2.2.2.1 ≤ 9223372036854775807 → ByteArray.size x.2.2.2.2.2.1 ≤ 
 9223372036854775807 → List.length x.2.2.2.2.2.2.1 ≤ 9223372036854775807 → br (x.2.2.1 == 4) (br (x.2.2.2.1.1 == 0 && (x.2.2.2.1.2.1 == 0 && (x.2.2.2.1.2.2.1 == 0 && true))) (List.length x.2.2.2.2.1 ≤ 9223372036854775807 → br ((↑(List.length 
 x.2.2.2.2.1) : Int) == 0) (br (sEq x.2.2.2.2.2.1 (ByteArray.mk #[])) (List.length x.2.2.2.2.2.2.1 ≤ 9223372036854775807 → br ((↑(List.length x.2.2.2.2.2.2.1) : Int) == 0) (Q (.v (.c (.k (.bool !x.2.2.2.2.2.2.2.1)))) []) (Q (.v (.c (.k 
 (.bool false)))) [])) (Q (.v (.c (.k (.bool false)))) [])) (Q (.v (.c (.k (.bool false)))) [])) (Q (.v (.c (.k (.bool false)))) [])) (br (x.2.2.1 == 1) (Q (.v (.c (.k (.bool (mayT (x.1, x.2.1, x.2.2.1, (x.2.2.2.1.1, x.2.2.2.1.2.1, 
 x.2.2.2.1.2.2.1, ()), x.2.2.2.2.1, x.2.2.2.2.2.1, x.2.2.2.2.2.2.1, false, ())))))) []) (Q (.v (.c (.k (.bool (mayT (x.1, x.2.1, x.2.2.1, (x.2.2.2.1.1, x.2.2.2.1.2.1, x.2.2.2.1.2.2.1, ()), x.2.2.2.2.1, x.2.2.2.2.2.1, x.2.2.2.2.2.2.1, 
 x.2.2.2.2.2.2.2.1, ())))))) []))
theorem vc_kmay18_eq (x : (noTy).den) (Q : SV → List HO → Prop) : vFun XB974 ⟨[], []⟩ Tryz.f78 [.v (.agg (Ty.cells noTy x))] [] Q = vc_kmay18 x Q := by kernel_rfl
theorem w_kmay18 : ∀ args H Q, c_kmay18 args H Q → Wp Inv Tryz.prog 78 args H Q := by
 intro args H Q h
 unfold c_kmay18 at h
 split at h
 rotate_left
 ·exact h.elim
 rename_i cx
 split at h
 rotate_left
 ·exact h.elim
 rename_i x hx
 refine Wp.said (args' := [.v (.agg (Ty.cells noTy x))]) (fun E g => RelVs.cons1 (of_row hx) (fun _ h => h)) ?_
 clear hx
 refine Wp.enter (X := XB974) XB974_ok ⟨[], []⟩ (fn := Tryz.f78) (by kernel_rfl) ?_
 have hv := vc_kmay18_eq x Q
 rw [show vFun _ _ _ _ _ _ = _ from hv]
 unfold vc_kmay18
 intro _ _ _ _ _ _ _ _ _
 repeat' (first | refine br_of (fun _ => ?_) (fun _ => ?_) | intro _)
 all_goals refine Eq.mp (congrArg (fun z => Q (SV.bool z) []) ?_) h
 all_goals unfold mayU badM
 all_goals clear hv h
 all_goals simp_all
def c_kvalidR : Ct
 | [.v (.c (.k (.string s)))], [], Q => Q (.int (validN s)) []
 | _, _, _ => False
noncomputable def XB975 : Vx := { P := Tryz.prog, ct := (78, c_kmay18) :: XB974.ct, ty := tyTab, hold := [] }
theorem XB975_ok : CtOk Inv Tryz.prog XB975.ct := CtOk.cons w_kmay18 (XB974_ok)
def vc_kvalidR : (ByteArray) → (SV → List HO → Prop) → Prop :=
 fun s Q => ByteArray.size s ≤ 9223372036854775807 → br (decide ((↑(ByteArray.size s) : Int) > (255 : Int))) (Q (.v (.c (.k (.int .i64 23)))) []) (LoopP (fun i again => br (decide (i.1.1 < (↑(ByteArray.size s) : Int))) (0 ≤ i.1.1 ∧ i.1.1 < 
 (↑(ByteArray.size s) : Int) ∧ br ((↑(UInt8.toNat (byteAt s i.1.1)) : Int) == 0) (Q (.v (.c (.k (.int .i64 22)))) []) (0 ≤ i.1.1 ∧ i.1.1 < (↑(ByteArray.size s) : Int) ∧ br ((↑(UInt8.toNat (byteAt s i.1.1)) : Int) == 47) (Q (.v (.c (.k (.int 
 .i64 22)))) []) (inK .i64 (i.1.1 + 1) ∧ again ((i.1.1 + 1, ()), ())))) (br (sEq s (ByteArray.mk #[])) (Q (.v (.c (.k (.int .i64 22)))) []) (br (sEq s (ByteArray.mk #[(46 : UInt8)])) (Q (.v (.c (.k (.int .i64 22)))) []) (br (sEq s 
 (ByteArray.mk #[(46 : UInt8), (46 : UInt8)])) (Q (.v (.c (.k (.int .i64 22)))) []) (Q (.v (.c (.k (.int .i64 0)))) []))))) (((0 : Int), ()), ()))
theorem vc_kvalidR_eq (s : ByteArray) (Q : SV → List HO → Prop) : vFun XB975 ⟨[(5, ⟨[(3, .int .i64)], []⟩)], []⟩ Tryz.f122 [.str s] [] Q = vc_kvalidR s Q := by kernel_rfl
theorem w_kvalidR : ∀ args H Q, c_kvalidR args H Q → Wp Inv Tryz.prog 122 args H Q := by
 intro args H Q h
 unfold c_kvalidR at h
 split at h
 rotate_left
 ·exact h.elim
 rename_i s
 refine Wp.enter (X := XB975) XB975_ok ⟨[(5, ⟨[(3, .int .i64)], []⟩)], []⟩ (fn := Tryz.f122) (by kernel_rfl) ?_
 have hv := vc_kvalidR_eq s Q
 rw [show vFun _ _ _ _ _ _ = _ from hv]
 unfold vc_kvalidR
 intro hs
 unfold validN at h
 refine br_of (fun h1 => ?_) (fun h1 => ?_)
 ·rw [if_pos (by simpa using h1)] at h; exact h
 ·rw [if_neg (by simpa using h1)] at h
  refine LoopP.intro (fun i => 0 ≤ i.1.1 ∧ i.1.1 ≤ s.size ∧ slashB s i.1.1.toNat = slashB s 0) (fun i => s.size - i.1.1.toNat) ⟨by simp, by simp, rfl⟩ ?_
  rintro ⟨⟨i, _⟩, _⟩ ⟨h0, h2, h3⟩
  simp only at h0 h2 h3 ⊢
  refine br_of (fun hc => ?_) (fun hc => ?_)
  ·have hc : i < s.size := by simpa using hc
   have hst := slashB_step h0 hc
   refine ⟨h0, hc, br_of (fun hb => ?_) (fun hb => ⟨h0, hc, br_of (fun hd => ?_) (fun hd => ?_)⟩)⟩
   ·rw [hb, Bool.true_or] at hst
    rw [← h3, hst] at h
    exact h
   ·rw [hb, hd] at hst
    rw [← h3, hst] at h
    exact h
   ·rw [hb, hd, Bool.false_or, Bool.false_or] at hst
    exact ⟨by unfold inK; omega, ⟨by omega, by omega, by rw [← hst, h3]⟩, by omega⟩
  ·have hc : ¬ i < s.size := by simpa using hc
   rw [← h3, slashB_end hc h0, Bool.false_or] at h
   unfold dotsB at h
   refine br_of (fun h5 => ?_) (fun h5 => br_of (fun h6 => ?_) (fun h6 => br_of (fun h7 => ?_) (fun h7 => ?_)))
   ·rw [h5] at h; exact h
   ·rw [h5, h6] at h; exact h
   ·rw [h5, h6, h7] at h; exact h
   ·rw [h5, h6, h7] at h; exact h
def c_ksameR : Ct
 | [.v (.c ca), .v (.c cb)], [], Q => (match (Ty.sl Ty.str).of [ca] with
  | some (a, []) => (match (Ty.sl Ty.str).of [cb] with
  | some (b, []) => Q (.bool (sameN a b)) []
  | _ => False)
  | _ => False)
 | _, _, _ => False
noncomputable def XB976 : Vx := { P := Tryz.prog, ct := (122, c_kvalidR) :: XB975.ct, ty := tyTab, hold := [] }
theorem XB976_ok : CtOk Inv Tryz.prog XB976.ct := CtOk.cons w_kvalidR (XB975_ok)
def vc_ksameR : (List (Ty.str).den) → (List (Ty.str).den) → (SV → List HO → Prop) → Prop :=
 fun a b Q => List.length a ≤ 9223372036854775807 → List.length b ≤ 9223372036854775807 → List.length a ≤ 9223372036854775807 → List.length b ≤ 9223372036854775807 → br ((a.length : Int) != (b.length : Int)) (Q (.v (.c (.k (.bool false)))) 
 []) (LoopP (fun i again => List.length a ≤ 9223372036854775807 → br (decide (i.1.1 < (a.length : Int))) (0 ≤ i.1.1 ∧ i.1.1 < (a.length : Int) ∧ (Ty.ok Ty.str (ixD Ty.str a i.1.1) → 0 ≤ i.1.1 ∧ i.1.1 < (b.length : Int) ∧ (Ty.ok Ty.str (ixD 
 Ty.str b i.1.1) → br (!sEq (ixD Ty.str a i.1.1) (ixD Ty.str b i.1.1)) (Q (.v (.c (.k (.bool false)))) []) (inK .i64 (i.1.1 + 1) ∧ again ((i.1.1 + 1, ()), ()))))) (Q (.v (.c (.k (.bool true)))) [])) (((0 : Int), ()), ()))
theorem vc_ksameR_eq (a : List (Ty.str).den) (b : List (Ty.str).den) (Q : SV → List HO → Prop) : vFun XB976 ⟨[(5, ⟨[(5, .int .i64)], []⟩)], []⟩ Tryz.f75 [.c (.d Ty.str a), .c (.d Ty.str b)] [] Q = vc_ksameR a b Q := by kernel_rfl
theorem w_ksameR : ∀ args H Q, c_ksameR args H Q → Wp Inv Tryz.prog 75 args H Q := by
 intro args H Q h
 unfold c_ksameR at h
 split at h
 rotate_left
 ·exact h.elim
 rename_i ca cb
 split at h
 rotate_left
 ·exact h.elim
 rename_i a ha
 split at h
 rotate_left
 ·exact h.elim
 rename_i b hb
 refine Wp.said (args' := [.c (.d Ty.str a), .c (.d Ty.str b)]) (fun E g => RelVs.cons1 (of_list ha) (RelVs.cons1 (of_list hb) (fun _ h => h))) ?_
 clear ha hb
 refine Wp.enter (X := XB976) XB976_ok ⟨[(5, ⟨[(5, .int .i64)], []⟩)], []⟩ (fn := Tryz.f75) (by kernel_rfl) ?_
 have hv := vc_ksameR_eq a b Q
 rw [show vFun _ _ _ _ _ _ = _ from hv]
 unfold vc_ksameR
 intro _ _ _ _
 refine br_of (fun h1 => ?_) (fun h1 => ?_)
 ·rw [sameN_len (by intro e; rw [e] at h1; simp at h1)] at h
  exact h
 ·have hl : a.length = b.length := by
   have : ((a.length : Int) = b.length) := by simpa using h1
   omega
  refine LoopP.intro (fun i => 0 ≤ i.1.1 ∧ i.1.1 ≤ a.length ∧ sameN (a.drop i.1.1.toNat) (b.drop i.1.1.toNat) = sameN a b) (fun i => a.length - i.1.1.toNat) ⟨by simp, by simp, by simp⟩ ?_
  rintro ⟨⟨i, _⟩, _⟩ ⟨h0, h2, h3⟩
  simp only at h0 h2 h3 ⊢
  intro _
  refine br_of (fun hc => ?_) (fun hc => ?_)
  ·have hc : i < a.length := by simpa using hc
   have hc2 : i < b.length := by omega
   rw [ixD_drop (e := .str) h0 hc, ixD_drop (e := .str) h0 hc2] at h3
   simp only [sameN] at h3
   refine ⟨h0, hc, fun _ => ⟨h0, hc2, fun _ => br_of (fun h4 => ?_) (fun h4 => ?_)⟩⟩
   ·have h4 : sEq (ixD .str a i) (ixD .str b i) = false := by simpa using h4
    rw [h4, Bool.false_and] at h3
    rw [← h3] at h; exact h
   ·have h4 : sEq (ixD .str a i) (ixD .str b i) = true := by simpa using h4
    rw [h4, Bool.true_and] at h3
    exact ⟨by unfold inK; omega, ⟨by omega, by omega, h3⟩, by omega⟩
  ·have hc : ¬ i < a.length := by simpa using hc
   rw [drop_all hc, drop_all (by omega)] at h3
   simp only [sameN] at h3
   rw [← h3] at h; exact h
def c_kfind : Ct
 | [.v (.c cl), .v (.c ca)], [], Q => (match (Ty.sl noTy).of [cl] with
  | some (l, []) => (match (Ty.sl Ty.str).of [ca] with
  | some (a, []) => Q (.int (idxF (isNm a) l 0)) []
  | _ => False)
  | _ => False)
 | _, _, _ => False
noncomputable def XB977 : Vx := { P := Tryz.prog, ct := (75, c_ksameR) :: XB976.ct, ty := tyTab, hold := [] }
theorem XB977_ok : CtOk Inv Tryz.prog XB977.ct := CtOk.cons w_ksameR (XB976_ok)
def vc_kfind : (List (noTy).den) → (List (Ty.str).den) → (SV → List HO → Prop) → Prop :=
 fun l a Q => List.length l ≤ 9223372036854775807 → List.length a ≤ 9223372036854775807 → LoopP (fun i again => List.length l ≤ 9223372036854775807 → br (decide (i.1.1 < (l.length : Int))) (0 ≤ i.1.1 ∧ i.1.1 < (l.length : Int) ∧ (Ty.ok noTy 
 (ixD noTy l i.1.1) → br (sameN (ixD noTy l i.1.1).1 a) (Q (.v (.c (.k (.int .i64 i.1.1)))) []) (inK .i64 (i.1.1 + 1) ∧ again ((i.1.1 + 1, ()), ())))) (Q (.v (.c (.k (.int .i64 (-1 : Int))))) [])) (((0 : Int), ()), ())
theorem vc_kfind_eq (l : List (noTy).den) (a : List (Ty.str).den) (Q : SV → List HO → Prop) : vFun XB977 ⟨[(3, ⟨[(5, .int .i64)], []⟩)], []⟩ Tryz.f147 [.c (.d noTy l), .c (.d Ty.str a)] [] Q = vc_kfind l a Q := by kernel_rfl
theorem w_kfind : ∀ args H Q, c_kfind args H Q → Wp Inv Tryz.prog 147 args H Q := by
 intro args H Q h
 unfold c_kfind at h
 split at h
 rotate_left
 ·exact h.elim
 rename_i cl ca
 split at h
 rotate_left
 ·exact h.elim
 rename_i l hl
 split at h
 rotate_left
 ·exact h.elim
 rename_i a ha
 refine Wp.said (args' := [.c (.d noTy l), .c (.d Ty.str a)]) (fun E g => RelVs.cons1 (of_list hl) (RelVs.cons1 (of_list ha) (fun _ h => h))) ?_
 clear hl ha
 refine Wp.enter (X := XB977) XB977_ok ⟨[(3, ⟨[(5, .int .i64)], []⟩)], []⟩ (fn := Tryz.f147) (by kernel_rfl) ?_
 have hv := vc_kfind_eq l a Q
 rw [show vFun _ _ _ _ _ _ = _ from hv]
 unfold vc_kfind
 intro hl _
 refine LoopP.intro (fun i => 0 ≤ i.1.1 ∧ i.1.1 ≤ l.length ∧ idxF (isNm a) (l.drop i.1.1.toNat) i.1.1 = idxF (isNm a) l 0) (fun i => l.length - i.1.1.toNat) ⟨by simp, by simp, by simp⟩ ?_
 rintro ⟨⟨i, _⟩, _⟩ ⟨h0, h1, h2⟩
 simp only at h0 h1 h2 ⊢
 intro _
 refine br_of (fun hc => ?_) (fun hc => ?_)
 ·have hc : i < l.length := by simpa using hc
  rw [ixD_drop (e := noTy) h0 hc] at h2
  refine ⟨h0, hc, fun _ => br_of (fun h3 => ?_) (fun h3 => ?_)⟩
  ·have h3 : isNm a (ixD noTy l i) = true := h3
   simp only [idxF, h3, if_true] at h2
   rw [h2]; exact h
  ·have h3 : isNm a (ixD noTy l i) = false := h3
   simp only [idxF, h3, Bool.false_eq_true, if_false] at h2
   exact ⟨by unfold inK; omega, ⟨by omega, by omega, h2⟩, by omega⟩
 ·have hc : ¬ i < l.length := by simpa using hc
  rw [drop_all hc] at h2
  simp only [idxF] at h2
  rw [h2]; exact h
def c_kisDir : Ct
 | [.v (.c cl), .v (.c ca)], [], Q => (match (Ty.sl noTy).of [cl] with
  | some (l, []) => (match (Ty.sl Ty.str).of [ca] with
  | some (a, []) => Q (.bool (isDirB l a)) []
  | _ => False)
  | _ => False)
 | _, _, _ => False
noncomputable def XB978 : Vx := { P := Tryz.prog, ct := (147, c_kfind) :: XB977.ct, ty := tyTab, hold := [] }
theorem XB978_ok : CtOk Inv Tryz.prog XB978.ct := CtOk.cons w_kfind (XB977_ok)
def vc_kisDir : (List (noTy).den) → (List (Ty.str).den) → (SV → List HO → Prop) → Prop :=
 fun l a Q => List.length l ≤ 9223372036854775807 → List.length a ≤ 9223372036854775807 → inK .i64 (idxF (isNm a) l (0 : Int)) → br (decide (idxF (isNm a) l (0 : Int) ≥ (0 : Int))) (0 ≤ idxF (isNm a) l (0 : Int) ∧ idxF (isNm a) l (0 : Int) < 
 (l.length : Int) ∧ (Ty.ok noTy (ixD noTy l (idxF (isNm a) l (0 : Int))) → Q (.v (.c (.k (.bool ((ixD noTy l (idxF (isNm a) l (0 : Int))).2.2.1 == 1))))) [])) (Q (.v (.c (.k (.bool false)))) [])
theorem vc_kisDir_eq (l : List (noTy).den) (a : List (Ty.str).den) (Q : SV → List HO → Prop) : vFun XB978 ⟨[], []⟩ Tryz.f120 [.c (.d noTy l), .c (.d Ty.str a)] [] Q = vc_kisDir l a Q := by kernel_rfl
theorem w_kisDir : ∀ args H Q, c_kisDir args H Q → Wp Inv Tryz.prog 120 args H Q := by
 intro args H Q h
 unfold c_kisDir at h
 split at h
 rotate_left
 ·exact h.elim
 rename_i cl ca
 split at h
 rotate_left
 ·exact h.elim
 rename_i l hl
 split at h
 rotate_left
 ·exact h.elim
 rename_i a ha
 refine Wp.said (args' := [.c (.d noTy l), .c (.d Ty.str a)]) (fun E g => RelVs.cons1 (of_list hl) (RelVs.cons1 (of_list ha) (fun _ h => h))) ?_
 clear hl ha
 refine Wp.enter (X := XB978) XB978_ok ⟨[], []⟩ (fn := Tryz.f120) (by kernel_rfl) ?_
 have hv := vc_kisDir_eq l a Q
 rw [show vFun _ _ _ _ _ _ = _ from hv]
 unfold vc_kisDir
 intro _ _ _
 unfold isDirB at h
 rcases idxF_spec (p := isNm a) (l := l) (k := 0) with ⟨h1, h2⟩ | ⟨j, h1, h2, h3⟩
 ·rw [h1]
  rw [h2] at h
  exact br_of (fun hc => by simp at hc) (fun _ => h)
 ·rw [h1]
  rw [h3, List.getElem?_eq_getElem h2] at h
  refine br_of (fun hc => ⟨by omega, by omega, fun _ => ?_⟩) (fun hc => by simp at hc)
  have e : ixD noTy l (0 + (j : Int)) = l[j] := by
   unfold ixD
   rw [List.getD_eq_getElem?_getD, show (0 + (j : Int)).toNat = j by omega, List.getElem?_eq_getElem h2]; rfl
  rw [e]
  exact h
def c_kalikeR : Ct
 | [.v (.agg cx), .v (.agg cy)], [], Q => (match (noTy).of cx with
  | some (x, []) => (match (noTy).of cy with
  | some (y, []) => Q (.bool (alikeN x y)) []
  | _ => False)
  | _ => False)
 | _, _, _ => False
noncomputable def XB979 : Vx := { P := Tryz.prog, ct := (120, c_kisDir) :: XB978.ct, ty := tyTab, hold := [] }
theorem XB979_ok : CtOk Inv Tryz.prog XB979.ct := CtOk.cons w_kisDir (XB978_ok)
def vc_kalikeR : ((noTy).den) → ((noTy).den) → (SV → List HO → Prop) → Prop :=
 fun x y Q => List.length x.1 ≤ 9223372036854775807 → inK .i64 x.2.1 → inK .i64 x.2.2.1 → inK .i64 x.2.2.2.1.1 → inK .i64 x.2.2.2.1.2.1 → inK .i64 x.2.2.2.1.2.2.1 → List.length x.2.2.2.2.1 ≤ 9223372036854775807 → ByteArray.size x.2.2.2.2.2.1 
 ≤ 9223372036854775807 → List.length x.2.2.2.2.2.2.1 ≤ 9223372036854775807 → List.length y.1 ≤ 9223372036854775807 → inK .i64 y.2.1 → inK .i64 y.2.2.1 → inK .i64 y.2.2.2.1.1 → inK .i64 y.2.2.2.1.2.1 → inK .i64 y.2.2.2.1.2.2.1 → List.length 
 y.2.2.2.2.1 ≤ 9223372036854775807 → ByteArray.size y.2.2.2.2.2.1 ≤ 9223372036854775807 → List.length y.2.2.2.2.2.2.1 ≤ 9223372036854775807 → br (x.2.2.1 != y.2.2.1) (Q (.v (.c (.k (.bool false)))) []) (br (!(x.2.2.2.1.1 == y.2.2.2.1.1 && 
 (x.2.2.2.1.2.1 == y.2.2.2.1.2.1 && (x.2.2.2.1.2.2.1 == y.2.2.2.1.2.2.1 && true)))) (Q (.v (.c (.k (.bool false)))) []) (br (!sEq (bstr x.2.2.2.2.1) (bstr y.2.2.2.2.1)) (Q (.v (.c (.k (.bool false)))) []) (br (!sEq x.2.2.2.2.2.1 
 y.2.2.2.2.2.1) (Q (.v (.c (.k (.bool false)))) []) (br (!x.2.2.2.2.2.2.2.1 == y.2.2.2.2.2.2.2.1) (Q (.v (.c (.k (.bool false)))) []) (List.length x.2.2.2.2.2.2.1 ≤ 9223372036854775807 → List.length y.2.2.2.2.2.2.1 ≤ 9223372036854775807 → br 
 ((↑(List.length x.2.2.2.2.2.2.1) : Int) != (↑(List.length y.2.2.2.2.2.2.1) : Int)) (Q (.v (.c (.k (.bool false)))) []) (LoopP (fun i again => List.length x.2.2.2.2.2.2.1 ≤ 9223372036854775807 → br (decide (i.1.1 < (↑(List.length 
 x.2.2.2.2.2.2.1) : Int))) (0 ≤ i.1.1 ∧ i.1.1 < (↑(List.length x.2.2.2.2.2.2.1) : Int) ∧ (Ty.ok xaTy (ixD xaTy x.2.2.2.2.2.2.1 i.1.1) → 0 ≤ i.1.1 ∧ i.1.1 < (↑(List.length y.2.2.2.2.2.2.1) : Int) ∧ (Ty.ok xaTy (ixD xaTy y.2.2.2.2.2.2.1 i.1.1) 
 → br (!sEq (ixD xaTy x.2.2.2.2.2.2.1 i.1.1).1 (ixD xaTy y.2.2.2.2.2.2.1 i.1.1).1) (Q (.v (.c (.k (.bool false)))) []) (0 ≤ i.1.1 ∧ i.1.1 < (↑(List.length x.2.2.2.2.2.2.1) : Int) ∧ (Ty.ok xaTy (ixD xaTy x.2.2.2.2.2.2.1 i.1.1) → 0 ≤ i.1.1 ∧ 
 i.1.1 < (↑(List.length y.2.2.2.2.2.2.1) : Int) ∧ (Ty.ok xaTy (ixD xaTy y.2.2.2.2.2.2.1 i.1.1) → br (!sEq (bstr (ixD xaTy x.2.2.2.2.2.2.1 i.1.1).2.1) (bstr (ixD xaTy y.2.2.2.2.2.2.1 i.1.1).2.1)) (Q (.v (.c (.k (.bool false)))) []) (inK .i64 
 (i.1.1 + 1) ∧ again ((i.1.1 + 1, ()), ())))))))) (Q (.v (.c (.k (.bool true)))) [])) (((0 : Int), ()), ())))))))
theorem vc_kalikeR_eq (x : (noTy).den) (y : (noTy).den) (Q : SV → List HO → Prop) : vFun XB979 ⟨[(5, ⟨[(5, .int .i64)], []⟩)], []⟩ Tryz.f76 [.v (.agg (Ty.cells noTy x)), .v (.agg (Ty.cells noTy y))] [] Q = vc_kalikeR x y Q := by kernel_rfl
theorem w_kalikeR : ∀ args H Q, c_kalikeR args H Q → Wp Inv Tryz.prog 76 args H Q := by
 intro args H Q h
 unfold c_kalikeR at h
 split at h
 rotate_left
 ·exact h.elim
 rename_i cx cy
 split at h
 rotate_left
 ·exact h.elim
 rename_i x hx
 split at h
 rotate_left
 ·exact h.elim
 rename_i y hy
 refine Wp.said (args' := [.v (.agg (Ty.cells noTy x)), .v (.agg (Ty.cells noTy y))]) (fun E g => RelVs.cons1 (of_row hx) (RelVs.cons1 (of_row hy) (fun _ h => h))) ?_
 clear hx hy
 refine Wp.enter (X := XB979) XB979_ok ⟨[(5, ⟨[(5, .int .i64)], []⟩)], []⟩ (fn := Tryz.f76) (by kernel_rfl) ?_
 have hv := vc_kalikeR_eq x y Q
 rw [show vFun _ _ _ _ _ _ = _ from hv]
 unfold vc_kalikeR
 intro _ _ _ _ _ _ _ _ _ _ _ _ _ _ _ _ _ _
 refine br_of (fun h1 => ?_) (fun h1 => br_of (fun h2 => ?_) (fun h2 => br_of (fun h3 => ?_) (fun h3 => br_of (fun h4 => ?_) (fun h4 => br_of (fun h5 => ?_) (fun h5 => ?_)))))
 iterate 5
  ·refine Eq.mp (congrArg (fun z => Q (SV.bool z) []) ?_) h
   clear hv h
   unfold alikeN eqB
   simp only [bne, Bool.not_eq_true', Bool.not_eq_false'] at *
   simp only [*, Bool.true_and, Bool.false_and, Bool.and_false]
 have hk : alikeN x y = alikeXs x.2.2.2.2.2.2.1 y.2.2.2.2.2.2.1 := by
  clear hv h
  unfold alikeN eqB
  simp only [bne, Bool.not_eq_false'] at *
  simp only [*, Bool.true_and]
 rw [hk] at h
 clear h1 h2 h3 h4 h5 hk
 generalize x.2.2.2.2.2.2.1 = a at *
 generalize y.2.2.2.2.2.2.1 = b at *
 intro _ _
 refine br_of (fun h1 => ?_) (fun h1 => ?_)
 ·rw [alikeXs_len (by intro e; rw [e] at h1; simp at h1)] at h
  exact h
 have hl : a.length = b.length := by
  have : (a.length : Int) = (b.length : Int) := by simpa only [bne_eq_false_iff_eq] using h1
  omega
 refine LoopP.intro (fun i => 0 ≤ i.1.1 ∧ i.1.1 ≤ a.length ∧ alikeXs (a.drop i.1.1.toNat) (b.drop i.1.1.toNat) = alikeXs a b) (fun i => a.length - i.1.1.toNat) ⟨by simp, by simp, by simp⟩ ?_
 rintro ⟨⟨i, _⟩, _⟩ ⟨h0, h2, h3⟩
 simp only at h0 h2 h3 ⊢
 intro _
 refine br_of (fun hc => ?_) (fun hc => ?_)
 ·have hc : i < a.length := by simpa using hc
  have hc2 : i < b.length := by omega
  rw [ixD_drop (e := xaTy) h0 hc, ixD_drop (e := xaTy) h0 hc2] at h3
  simp only [alikeXs, alikeX, eqB] at h3
  refine ⟨h0, hc, fun _ => ⟨h0, hc2, fun _ => br_of (fun h4 => ?_) (fun h4 => ⟨h0, hc, fun _ => ⟨h0, hc2, fun _ => br_of (fun h5 => ?_) (fun h5 => ?_)⟩⟩)⟩⟩
  ·simp only [Bool.not_eq_true'] at h4
   rw [h4, Bool.false_and, Bool.false_and] at h3
   rw [← h3] at h; exact h
  ·simp only [Bool.not_eq_true', Bool.not_eq_false'] at h4 h5
   rw [h4, h5, Bool.true_and, Bool.false_and] at h3
   rw [← h3] at h; exact h
  ·simp only [Bool.not_eq_false'] at h4 h5
   rw [h4, h5, Bool.true_and, Bool.true_and] at h3
   exact ⟨by unfold inK; omega, ⟨by omega, by omega, h3⟩, by omega⟩
 ·have hc : ¬ i < a.length := by simpa using hc
  rw [drop_all hc, drop_all (by omega)] at h3
  simp only [alikeXs] at h3
  rw [← h3] at h; exact h
def c_knamedR : Ct
 | [.v (.c cl)], [], Q => (match (Ty.sl noTy).of [cl] with
  | some (l, []) => Q (.int (namedR l)) []
  | _ => False)
 | _, _, _ => False
noncomputable def XB980 : Vx := { P := Tryz.prog, ct := (76, c_kalikeR) :: XB979.ct, ty := tyTab, hold := [] }
theorem XB980_ok : CtOk Inv Tryz.prog XB980.ct := CtOk.cons w_kalikeR (XB979_ok)
def vc_knamedR : (List (noTy).den) → (SV → List HO → Prop) → Prop :=
 fun l Q => List.length l ≤ 9223372036854775807 → LoopP (fun i again => List.length l ≤ 9223372036854775807 → br (decide (i.1.1 < (l.length : Int))) (LoopP (fun i_1 again_1 => 0 ≤ i.1.1 ∧ i.1.1 < (l.length : Int) ∧ (Ty.ok noTy (ixD noTy l 
 i.1.1) → List.length (ixD noTy l i.1.1).1 ≤ 9223372036854775807 → br (decide (i_1.1.1 < (↑(List.length (ixD noTy l i.1.1).1) : Int))) (0 ≤ i.1.1 ∧ i.1.1 < (l.length : Int) ∧ (Ty.ok noTy (ixD noTy l i.1.1) → 0 ≤ i_1.1.1 ∧ i_1.1.1 < 
 (↑(List.length (ixD noTy l i.1.1).1) : Int) ∧ (Ty.ok Ty.str (ixD Ty.str (ixD noTy l i.1.1).1 i_1.1.1) → inK .i64 (validN (ixD Ty.str (ixD noTy l i.1.1).1 i_1.1.1)) → br (validN (ixD Ty.str (ixD noTy l i.1.1).1 i_1.1.1) != 0) (Q (.v (.c (.k 
 (.int .i64 (validN (ixD Ty.str (ixD noTy l i.1.1).1 i_1.1.1)))))) []) (inK .i64 (i_1.1.1 + 1) ∧ again_1 ((i_1.1.1 + 1, ()), ()))))) (inK .i64 (i.1.1 + 1) ∧ again ((i.1.1 + 1, ()), ())))) (((0 : Int), ()), ())) (LoopP (fun i again => 
 List.length l ≤ 9223372036854775807 → br (decide (i.1.1 < (l.length : Int))) (0 ≤ i.1.1 ∧ i.1.1 < (l.length : Int) ∧ (Ty.ok noTy (ixD noTy l i.1.1) → List.length (ixD noTy l i.1.1).1 ≤ 9223372036854775807 → br (decide ((↑(List.length (ixD 
 noTy l i.1.1).1) : Int) > (16 : Int))) (Q (.v (.c (.k (.int .i64 9)))) []) (inK .i64 (i.1.1 + 1) ∧ again ((i.1.1 + 1, ()), ())))) (LoopP (fun i again => List.length l ≤ 9223372036854775807 → br (decide (i.1.1 < (l.length : Int))) (0 ≤ i.1.1 
 ∧ i.1.1 < (l.length : Int) ∧ (Ty.ok noTy (ixD noTy l i.1.1) → inK .i64 (idxF (isNm (ixD noTy l i.1.1).1) l (0 : Int)) → br (decide (idxF (isNm (ixD noTy l i.1.1).1) l 0 < i.1.1)) (Q (.v (.c (.k (.int .i64 6)))) []) (inK .i64 (i.1.1 + 1) ∧ 
 again ((i.1.1 + 1, ()), ())))) (Q (.v (.c (.k (.int .i64 0)))) [])) (((0 : Int), ()), ()))) (((0 : Int), ()), ()))) (((0 : Int), ()), ())
theorem vc_knamedR_eq (l : List (noTy).den) (Q : SV → List HO → Prop) : vFun XB980 ⟨[(3, ⟨[(3, .int .i64)], []⟩), (6, ⟨[(4, .int .i64)], []⟩), (12, ⟨[(6, .int .i64)], []⟩), (17, ⟨[(7, .int .i64)], []⟩)], []⟩ Tryz.f119 [.c (.d noTy l)] [] Q = vc_knamedR l Q := by kernel_rfl
theorem w_knamedR : ∀ args H Q, c_knamedR args H Q → Wp Inv Tryz.prog 119 args H Q := by
 intro args H Q h
 unfold c_knamedR at h
 split at h
 rotate_left
 ·exact h.elim
 rename_i cl
 split at h
 rotate_left
 ·exact h.elim
 rename_i l hl
 refine Wp.said (args' := [.c (.d noTy l)]) (fun E g => RelVs.cons1 (of_list hl) (fun _ h => h)) ?_
 clear hl
 refine Wp.enter (X := XB980) XB980_ok ⟨[(3, ⟨[(3, .int .i64)], []⟩), (6, ⟨[(4, .int .i64)], []⟩), (12, ⟨[(6, .int .i64)], []⟩), (17, ⟨[(7, .int .i64)], []⟩)], []⟩ (fn := Tryz.f119) (by kernel_rfl) ?_
 have hv := vc_knamedR_eq l Q
 rw [show vFun _ _ _ _ _ _ = _ from hv]
 unfold vc_knamedR
 clear hv
 intro _
 refine LoopP.intro (fun i => 0 ≤ i.1.1 ∧ i.1.1 ≤ l.length ∧ namesGo (l.drop i.1.1.toNat) = namesGo l) (fun i => l.length - i.1.1.toNat) ⟨by simp, by simp, by simp⟩ ?_
 rintro ⟨⟨i, _⟩, _⟩ ⟨h0, h1, h2⟩
 simp only at h0 h1 h2 ⊢
 intro _
 refine br_of (fun hc => ?_) (fun hc => ?_)
 ·have hc : i < l.length := by simpa using hc
  rw [ixD_drop (e := noTy) h0 hc] at h2
  simp only [namesGo] at h2
  generalize ixD noTy l i = x at *
  refine LoopP.intro (fun k => 0 ≤ k.1.1 ∧ k.1.1 ≤ x.1.length ∧ validsGo (x.1.drop k.1.1.toNat) = validsGo x.1) (fun k => x.1.length - k.1.1.toNat) ⟨by simp, by simp, by simp⟩ ?_
  rintro ⟨⟨k, _⟩, _⟩ ⟨k0, k1, k2⟩
  simp only at k0 k1 k2 ⊢
  refine ⟨h0, hc, fun _ _ => br_of (fun hk => ?_) (fun hk => ?_)⟩
  ·have hk : k < x.1.length := by simpa using hk
   rw [ixD_drop (e := Ty.str) k0 hk] at k2
   simp only [validsGo] at k2
   refine ⟨h0, hc, fun _ => ⟨k0, hk, fun _ _ => br_of (fun hb => ?_) (fun hb => ?_)⟩⟩
   ·rw [if_pos hb] at k2
    rw [k2] at hb
    rw [if_pos hb] at h2
    rw [h2] at hb
    unfold namedR at h
    rw [if_pos hb, ← h2, ← k2] at h
    exact h
   ·rw [if_neg (by rw [hb]; simp)] at k2
    exact ⟨by unfold inK; omega, ⟨by omega, by omega, k2⟩, by omega⟩
  ·have hk : ¬ k < x.1.length := by simpa using hk
   rw [drop_all hk] at k2
   simp only [validsGo] at k2
   rw [← k2, if_neg (by simp)] at h2
   exact ⟨by unfold inK; omega, ⟨by omega, by omega, h2⟩, by omega⟩
 ·have hc : ¬ i < l.length := by simpa using hc
  rw [drop_all hc] at h2
  simp only [namesGo] at h2
  unfold namedR at h
  rw [← h2, if_neg (by simp)] at h
  clear h0 h1 h2 hc
  refine LoopP.intro (fun i => 0 ≤ i.1.1 ∧ i.1.1 ≤ l.length ∧ deepB (l.drop i.1.1.toNat) = deepB l) (fun i => l.length - i.1.1.toNat) ⟨by simp, by simp, by simp⟩ ?_
  rintro ⟨⟨i, _⟩, _⟩ ⟨h0, h1, h2⟩
  simp only at h0 h1 h2 ⊢
  intro _
  refine br_of (fun hc => ?_) (fun hc => ?_)
  ·have hc : i < l.length := by simpa using hc
   rw [ixD_drop (e := noTy) h0 hc] at h2
   unfold deepB at h2
   rw [List.any_cons] at h2
   refine ⟨h0, hc, fun _ _ => br_of (fun hb => ?_) (fun hb => ?_)⟩
   ·rw [hb, Bool.true_or] at h2
    unfold deepB at h
    rw [← h2, if_pos rfl] at h
    exact h
   ·rw [hb, Bool.false_or] at h2
    exact ⟨by unfold inK; omega, ⟨by omega, by omega, h2⟩, by omega⟩
  ·have hc : ¬ i < l.length := by simpa using hc
   rw [drop_all hc] at h2
   rw [← h2, if_neg (by decide)] at h
   clear h0 h1 h2 hc
   refine LoopP.intro (fun i => 0 ≤ i.1.1 ∧ i.1.1 ≤ l.length ∧ twiceGo l (l.drop i.1.1.toNat) i.1.1 = twiceGo l l 0) (fun i => l.length - i.1.1.toNat) ⟨by simp, by simp, by simp⟩ ?_
   rintro ⟨⟨i, _⟩, _⟩ ⟨h0, h1, h2⟩
   simp only at h0 h1 h2 ⊢
   intro _
   refine br_of (fun hc => ?_) (fun hc => ?_)
   ·have hc : i < l.length := by simpa using hc
    rw [ixD_drop (e := noTy) h0 hc] at h2
    simp only [twiceGo] at h2
    refine ⟨h0, hc, fun _ _ => br_of (fun hb => ?_) (fun hb => ?_)⟩
    ·rw [hb, Bool.true_or] at h2
     rw [← h2, if_pos rfl] at h
     exact h
    ·rw [hb, Bool.false_or] at h2
     exact ⟨by unfold inK; omega, ⟨by omega, by omega, h2⟩, by omega⟩
   ·have hc : ¬ i < l.length := by simpa using hc
    rw [drop_all hc] at h2
    simp only [twiceGo] at h2
    rw [← h2, if_neg (by decide)] at h
    exact h
def upB (l : List NoD) : Bool := l.any fun x => decide ((x.1.length : Int) > 0) && !isDirB l (x.1.take (x.1.length - 1))
def placedR (l : List NoD) : Int := if (l.length : Int) > 1024 then 3 else if namedR l != 0 then namedR l else if !isDirB l [] then 4 else if upB l then 5 else 0
theorem upB_step {l r : List NoD} {x : NoD} : ((x :: r).any fun x => decide ((x.1.length : Int) > 0) && !isDirB l (x.1.take (x.1.length - 1))) = ((decide ((x.1.length : Int) > 0) && !isDirB l (x.1.take (x.1.length - 1))) || r.any fun x => decide ((x.1.length : Int) > 0) && !isDirB l (x.1.take (x.1.length - 1))) := rfl
def c_kplaced : Ct
 | [.v (.c cl)], [], Q => (match (Ty.sl noTy).of [cl] with
  | some (l, []) => Q (.int (placedR l)) []
  | _ => False)
 | _, _, _ => False
noncomputable def XB981 : Vx := { P := Tryz.prog, ct := (119, c_knamedR) :: XB980.ct, ty := tyTab, hold := [] }
theorem XB981_ok : CtOk Inv Tryz.prog XB981.ct := CtOk.cons w_knamedR (XB980_ok)
def vc_kplaced : (List (noTy).den) → (SV → List HO → Prop) → Prop :=
 fun l Q => List.length l ≤ 9223372036854775807 → List.length l ≤ 9223372036854775807 → br (decide ((l.length : Int) > (1024 : Int))) (Q (.v (.c (.k (.int .i64 3)))) []) (inK .i64 (namedR l) → br (namedR l != 0) (Q (.v (.c (.k (.int .i64 
 (namedR l))))) []) (br (!isDirB l []) (Q (.v (.c (.k (.int .i64 4)))) []) (LoopP (fun i again => List.length l ≤ 9223372036854775807 → br (decide (i.1.1 < (l.length : Int))) (0 ≤ i.1.1 ∧ i.1.1 < (l.length : Int) ∧ (Ty.ok noTy (ixD noTy l 
 i.1.1) → List.length (ixD noTy l i.1.1).1 ≤ 9223372036854775807 → br (decide ((↑(List.length (ixD noTy l i.1.1).1) : Int) > (0 : Int))) (List.length (ixD noTy l i.1.1).1 ≤ 9223372036854775807 → inK .i64 ((↑(List.length (ixD noTy l i.1.1).1) 
 : Int) - 1) ∧ 0 ≤ boundV none 0 ∧ boundV none 0 ≤ boundV (some ((↑(List.length (ixD noTy l i.1.1).1) : Int) - 1)) (↑(List.length (ixD noTy l i.1.1).1) : Int) ∧ boundV (some ((↑(List.length (ixD noTy l i.1.1).1) : Int) - 1)) (↑(List.length 
 (ixD noTy l i.1.1).1) : Int) ≤ (↑(List.length (ixD noTy l i.1.1).1) : Int) ∧ br (!isDirB l (List.take (Int.toNat (boundV (some ((↑(List.length (ixD noTy l i.1.1).1) : Int) - 1)) (↑(List.length (ixD noTy l i.1.1).1) : Int)) - 0) (List.drop 0 
 (ixD noTy l i.1.1).1))) (Q (.v (.c (.k (.int .i64 5)))) []) (inK .i64 (i.1.1 + 1) ∧ again ((i.1.1 + 1, ()), ()))) (inK .i64 (i.1.1 + 1) ∧ again ((i.1.1 + 1, ()), ())))) (Q (.v (.c (.k (.int .i64 0)))) [])) (((0 : Int), ()), ()))))
theorem vc_kplaced_eq (l : List (noTy).den) (Q : SV → List HO → Prop) : vFun XB981 ⟨[(11, ⟨[(5, .int .i64)], []⟩)], []⟩ Tryz.f77 [.c (.d noTy l)] [] Q = vc_kplaced l Q := by kernel_rfl
theorem w_kplaced : ∀ args H Q, c_kplaced args H Q → Wp Inv Tryz.prog 77 args H Q := by
 intro args H Q h
 unfold c_kplaced at h
 split at h
 rotate_left
 ·exact h.elim
 rename_i cl
 split at h
 rotate_left
 ·exact h.elim
 rename_i l hl
 refine Wp.said (args' := [.c (.d noTy l)]) (fun E g => RelVs.cons1 (of_list hl) (fun _ h => h)) ?_
 clear hl
 refine Wp.enter (X := XB981) XB981_ok ⟨[(11, ⟨[(5, .int .i64)], []⟩)], []⟩ (fn := Tryz.f77) (by kernel_rfl) ?_
 have hv := vc_kplaced_eq l Q
 rw [show vFun _ _ _ _ _ _ = _ from hv]
 unfold vc_kplaced
 clear hv
 intro _ _
 unfold placedR at h
 refine br_of (fun hc => ?_) (fun hc => ?_)
 ·rw [if_pos (by simpa using hc)] at h; exact h
 rw [if_neg (by simpa using hc)] at h
 intro _
 refine br_of (fun hc => ?_) (fun hc => ?_)
 ·rw [if_pos hc] at h; exact h
 rw [if_neg (by rw [hc]; simp)] at h
 refine br_of (fun hc => ?_) (fun hc => ?_)
 ·rw [if_pos hc] at h; exact h
 rw [if_neg (by rw [hc]; simp)] at h
 refine LoopP.intro (fun i => 0 ≤ i.1.1 ∧ i.1.1 ≤ l.length ∧ ((l.drop i.1.1.toNat).any fun x => decide ((x.1.length : Int) > 0) && !isDirB l (x.1.take (x.1.length - 1))) = upB l) (fun i => l.length - i.1.1.toNat) ⟨by simp, by simp, by simp [upB]⟩ ?_
 rintro ⟨⟨i, _⟩, _⟩ ⟨h0, h1, h2⟩
 simp only at h0 h1 h2 ⊢
 intro _
 refine br_of (fun hc => ?_) (fun hc => ?_)
 ·have hc : i < l.length := by simpa using hc
  rw [ixD_drop (e := noTy) h0 hc, upB_step] at h2
  generalize ixD noTy l i = x at *
  refine ⟨h0, hc, fun _ _ => br_of (fun hb => fun _ => ?_) (fun hb => ?_)⟩
  ·rw [hb, Bool.true_and] at h2
   have hb : (x.1.length : Int) > 0 := by simpa using hb
   have e1 : boundV (some ((x.1.length : Int) - 1)) (x.1.length : Int) = (x.1.length : Int) - 1 := rfl
   have e2 : boundV none 0 = 0 := rfl
   rw [e1, e2]
   refine ⟨by unfold inK; omega, by omega, by omega, by omega, ?_⟩
   rw [show ((x.1.length : Int) - 1).toNat - 0 = x.1.length - 1 by omega, List.drop_zero]
   refine br_of (fun hd => ?_) (fun hd => ?_)
   ·rw [hd, Bool.true_or] at h2
    rw [← h2, if_pos rfl] at h; exact h
   ·rw [hd, Bool.false_or] at h2
    exact ⟨by unfold inK; omega, ⟨by omega, by omega, h2⟩, by omega⟩
  ·rw [hb, Bool.false_and, Bool.false_or] at h2
   exact ⟨by unfold inK; omega, ⟨by omega, by omega, h2⟩, by omega⟩
 ·have hc : ¬ i < l.length := by simpa using hc
  rw [drop_all hc, List.any_nil] at h2
  rw [← h2, if_neg (by decide)] at h
  exact h
end Go.Proofs

namespace Go.Proofs
open Go Go.Lm Go.RowKit
set_option maxRecDepth 1000000
def badL (x y : NoD) : Bool := x.2.1 == y.2.1 && (x.2.2.1 == 1 || (x.2.2.1 == 4 || !alikeN x y))
def linksGo : List NoD → List NoD → Bool
 | _, [] => false
 | pre, x :: r => pre.any (badL x) || linksGo (pre ++ [x]) r
def checkR (l : List NoD) : Int := if placedR l != 0 then placedR l else if l.any (fun x => !mayU x) then 7 else if linksGo [] l then 8 else 0
theorem ixD_take {e : Ty} {l : List e.den} {k i : Int} (h0 : 0 ≤ k) (h1 : k < i) : ixD e (l.take i.toNat) k = ixD e l k := by
 unfold ixD
 rw [List.getD_eq_getElem?_getD, List.getD_eq_getElem?_getD, List.getElem?_take, if_pos (by omega)]
theorem badL_any {x y : NoD} {r : List NoD} : (y :: r).any (badL x) = (badL x y || r.any (badL x)) := rfl
def c_kcheckR : Ct
 | [.v (.c cl)], [], Q => (match (Ty.sl noTy).of [cl] with
  | some (l, []) => Q (.int (checkR l)) []
  | _ => False)
 | _, _, _ => False
noncomputable def XB9b82 : Vx := { P := Tryz.prog, ct := (77, c_kplaced) :: XB981.ct, ty := tyTab, hold := [] }
theorem XB9b82_ok : CtOk Inv Tryz.prog XB9b82.ct := CtOk.cons w_kplaced (XB981_ok)
def vc_kcheckR : (List (noTy).den) → (SV → List HO → Prop) → Prop :=
 fun l Q => List.length l ≤ 9223372036854775807 → inK .i64 (placedR l) → br (placedR l != 0) (Q (.v (.c (.k (.int .i64 (placedR l))))) []) (LoopP (fun i again => List.length l ≤ 9223372036854775807 → br (decide (i.1.1 < (l.length : Int))) (0 
 ≤ i.1.1 ∧ i.1.1 < (l.length : Int) ∧ (Ty.ok noTy (ixD noTy l i.1.1) → br (!mayU ((ixD noTy l i.1.1).1, (ixD noTy l i.1.1).2.1, (ixD noTy l i.1.1).2.2.1, ((ixD noTy l i.1.1).2.2.2.1.1, (ixD noTy l i.1.1).2.2.2.1.2.1, (ixD noTy l 
 i.1.1).2.2.2.1.2.2.1, ()), (ixD noTy l i.1.1).2.2.2.2.1, (ixD noTy l i.1.1).2.2.2.2.2.1, (ixD noTy l i.1.1).2.2.2.2.2.2.1, (ixD noTy l i.1.1).2.2.2.2.2.2.2.1, ())) (Q (.v (.c (.k (.int .i64 7)))) []) (inK .i64 (i.1.1 + 1) ∧ again ((i.1.1 + 
 1, ()), ())))) (LoopP (fun i again => List.length l ≤ 9223372036854775807 → br (decide (i.1.1 < (l.length : Int))) (LoopP (fun i_1 again_1 => br (decide (i_1.1.1 < i.1.1)) (0 ≤ i.1.1 ∧ i.1.1 < (l.length : Int) ∧ (Ty.ok noTy (ixD noTy l 
 i.1.1) → 0 ≤ i_1.1.1 ∧ i_1.1.1 < (l.length : Int) ∧ (Ty.ok noTy (ixD noTy l i_1.1.1) → br ((ixD noTy l i.1.1).2.1 == (ixD noTy l i_1.1.1).2.1) (0 ≤ i.1.1 ∧ i.1.1 < (l.length : Int) ∧ (Ty.ok noTy (ixD noTy l i.1.1) → br ((ixD noTy l 
 i.1.1).2.2.1 == 1) (Q (.v (.c (.k (.int .i64 8)))) []) (0 ≤ i.1.1 ∧ i.1.1 < (l.length : Int) ∧ (Ty.ok noTy (ixD noTy l i.1.1) → br ((ixD noTy l i.1.1).2.2.1 == 4) (Q (.v (.c (.k (.int .i64 8)))) []) (0 ≤ i.1.1 ∧ i.1.1 < (l.length : Int) ∧ 
 (Ty.ok noTy (ixD noTy l i.1.1) → 0 ≤ i_1.1.1 ∧ i_1.1.1 < (l.length : Int) ∧ (Ty.ok noTy (ixD noTy l i_1.1.1) → br (!alikeN ((ixD noTy l i.1.1).1, (ixD noTy l i.1.1).2.1, (ixD noTy l i.1.1).2.2.1, ((ixD noTy l i.1.1).2.2.2.1.1, (ixD noTy l 
 i.1.1).2.2.2.1.2.1, (ixD noTy l i.1.1).2.2.2.1.2.2.1, ()), (ixD noTy l i.1.1).2.2.2.2.1, (ixD noTy l i.1.1).2.2.2.2.2.1, (ixD noTy l i.1.1).2.2.2.2.2.2.1, (ixD noTy l i.1.1).2.2.2.2.2.2.2.1, ()) ((ixD noTy l i_1.1.1).1, (ixD noTy l 
 i_1.1.1).2.1, (ixD noTy l i_1.1.1).2.2.1, ((ixD noTy l i_1.1.1).2.2.2.1.1, (ixD noTy l i_1.1.1).2.2.2.1.2.1, (ixD noTy l i_1.1.1).2.2.2.1.2.2.1, ()), (ixD noTy l i_1.1.1).2.2.2.2.1, (ixD noTy l i_1.1.1).2.2.2.2.2.1, (ixD noTy l 
 i_1.1.1).2.2.2.2.2.2.1, (ixD noTy l i_1.1.1).2.2.2.2.2.2.2.1, ())) (Q (.v (.c (.k (.int .i64 8)))) []) (inK .i64 (i_1.1.1 + 1) ∧ again_1 ((i_1.1.1 + 1, ()), ()))))))))) (inK .i64 (i_1.1.1 + 1) ∧ again_1 ((i_1.1.1 + 1, ()), ()))))) (inK .i64 
 (i.1.1 + 1) ∧ again ((i.1.1 + 1, ()), ()))) (((0 : Int), ()), ())) (Q (.v (.c (.k (.int .i64 0)))) [])) (((0 : Int), ()), ()))) (((0 : Int), ()), ()))
theorem vc_kcheckR_eq (l : List (noTy).den) (Q : SV → List HO → Prop) : vFun XB9b82 ⟨[(6, ⟨[(4, .int .i64)], []⟩),(12, ⟨[(6, .int .i64)], []⟩),(15, ⟨[(7, .int .i64)], []⟩)], []⟩ Tryz.f29 [.c (.d noTy l)] [] Q = vc_kcheckR l Q := by kernel_rfl
theorem w_kcheckR : ∀ args H Q, c_kcheckR args H Q → Wp Inv Tryz.prog 29 args H Q := by
 intro args H Q h
 unfold c_kcheckR at h
 split at h
 rotate_left
 ·exact h.elim
 rename_i cl
 split at h
 rotate_left
 ·exact h.elim
 rename_i l hl
 refine Wp.said (args' := [.c (.d noTy l)]) (fun E g => RelVs.cons1 (of_list hl) (fun _ h => h)) ?_
 clear hl
 refine Wp.enter (X := XB9b82) XB9b82_ok ⟨[(6, ⟨[(4, .int .i64)], []⟩),(12, ⟨[(6, .int .i64)], []⟩),(15, ⟨[(7, .int .i64)], []⟩)], []⟩ (fn := Tryz.f29) (by kernel_rfl) ?_
 have hv := vc_kcheckR_eq l Q
 rw [show vFun _ _ _ _ _ _ = _ from hv]
 unfold vc_kcheckR
 clear hv
 intro _ _
 unfold checkR at h
 refine br_of (fun hc => ?_) (fun hc => ?_)
 ·rw [if_pos hc] at h; exact h
 rw [if_neg (by rw [hc]; simp)] at h
 refine LoopP.intro (fun i => 0 ≤ i.1.1 ∧ i.1.1 ≤ l.length ∧ ((l.drop i.1.1.toNat).any fun x => !mayU x) = l.any fun x => !mayU x) (fun i => l.length - i.1.1.toNat) ⟨by simp, by simp, by simp⟩ ?_
 rintro ⟨⟨i, _⟩, _⟩ ⟨h0, h1, h2⟩
 simp only at h0 h1 h2 ⊢
 intro _
 refine br_of (fun hc => ?_) (fun hc => ?_)
 ·have hc : i < l.length := by simpa using hc
  rw [ixD_drop (e := noTy) h0 hc, List.any_cons] at h2
  refine ⟨h0, hc, fun _ => br_of (fun hb => ?_) (fun hb => ?_)⟩
  ·have hb : (!mayU (ixD noTy l i)) = true := hb
   rw [hb, Bool.true_or] at h2
   rw [← h2, if_pos rfl] at h
   exact h
  ·have hb : (!mayU (ixD noTy l i)) = false := hb
   rw [hb, Bool.false_or] at h2
   exact ⟨by unfold inK; omega, ⟨by omega, by omega, h2⟩, by omega⟩
 have hc : ¬ i < l.length := by simpa using hc
 rw [drop_all hc, List.any_nil] at h2
 rw [← h2, if_neg (by decide)] at h
 clear h0 h1 h2 hc
 refine LoopP.intro (fun i => 0 ≤ i.1.1 ∧ i.1.1 ≤ l.length ∧ linksGo (l.take i.1.1.toNat) (l.drop i.1.1.toNat) = linksGo [] l) (fun i => l.length - i.1.1.toNat) ⟨by simp, by simp, by simp⟩ ?_
 rintro ⟨⟨i, _⟩, _⟩ ⟨h0, h1, h2⟩
 simp only at h0 h1 h2 ⊢
 intro _
 refine br_of (fun hc => ?_) (fun hc => ?_)
 ·have hc : i < l.length := by simpa using hc
  rw [ixD_drop (e := noTy) h0 hc] at h2
  simp only [linksGo] at h2
  have e1 : l.take (i + 1).toNat = l.take i.toNat ++ [ixD noTy l i] := take_ixD (e := noTy) h0 hc
  rw [← e1] at h2
  have hlen : ((l.take i.toNat).length : Int) = i := by rw [List.length_take]; omega
  refine LoopP.intro (fun k => 0 ≤ k.1.1 ∧ k.1.1 ≤ i ∧ ((l.take i.toNat).drop k.1.1.toNat).any (badL (ixD noTy l i)) = (l.take i.toNat).any (badL (ixD noTy l i))) (fun k => i.toNat - k.1.1.toNat) ⟨by simp, by omega, by simp⟩ ?_
  rintro ⟨⟨k, _⟩, _⟩ ⟨k0, k1, k2⟩
  simp only at k0 k1 k2 ⊢
  refine br_of (fun hk => ?_) (fun hk => ?_)
  ·have hk : k < i := by simpa using hk
   rw [ixD_drop (e := noTy) k0 (by omega), ixD_take (e := noTy) k0 hk, badL_any] at k2
   have fin : ∀ v, badL (ixD noTy l i) (ixD noTy l k) = v → v = true → Q (.int 8) [] := fun v e hv => by
    rw [e, hv, Bool.true_or] at k2
    rw [← k2, Bool.true_or] at h2
    rw [← h2, if_pos rfl] at h
    exact h
   have go : badL (ixD noTy l i) (ixD noTy l k) = false → ((l.take i.toNat).drop (k + 1).toNat).any (badL (ixD noTy l i)) = (l.take i.toNat).any (badL (ixD noTy l i)) := fun e => by rw [e, Bool.false_or] at k2; exact k2
   refine ⟨h0, hc, fun _ => ⟨k0, by omega, fun _ => br_of (fun a1 => ?_) (fun a1 => ?_)⟩⟩
   ·have e : badL (ixD noTy l i) (ixD noTy l k) = ((ixD noTy l i).2.2.1 == 1 || ((ixD noTy l i).2.2.1 == 4 || !alikeN (ixD noTy l i) (ixD noTy l k))) := by unfold badL; rw [a1, Bool.true_and]
    refine ⟨h0, hc, fun _ => br_of (fun a2 => ?_) (fun a2 => ⟨h0, hc, fun _ => br_of (fun a3 => ?_) (fun a3 => ⟨h0, hc, fun _ => ⟨k0, by omega, fun _ => br_of (fun a4 => ?_) (fun a4 => ?_)⟩⟩)⟩)⟩
    ·exact fin _ e (by rw [a2, Bool.true_or])
    ·exact fin _ e (by rw [a2, a3, Bool.true_or, Bool.false_or])
    ·have a4 : (!alikeN (ixD noTy l i) (ixD noTy l k)) = true := a4
     exact fin _ e (by rw [a2, a3, a4]; rfl)
    ·have a4 : (!alikeN (ixD noTy l i) (ixD noTy l k)) = false := a4
     exact ⟨by unfold inK; omega, ⟨by omega, by omega, go (by rw [e, a2, a3, a4]; rfl)⟩, by omega⟩
   ·exact ⟨by unfold inK; omega, ⟨by omega, by omega, go (by unfold badL; rw [a1, Bool.false_and])⟩, by omega⟩
  ·have hk : ¬ k < i := by simpa using hk
   rw [List.drop_eq_nil_of_le (by omega), List.any_nil] at k2
   rw [← k2, Bool.false_or] at h2
   exact ⟨by unfold inK; omega, ⟨by omega, by omega, h2⟩, by omega⟩
 ·have hc : ¬ i < l.length := by simpa using hc
  rw [drop_all hc] at h2
  simp only [linksGo] at h2
  rw [← h2, if_neg (by decide)] at h
  exact h
end Go.Proofs

namespace Go.Lm
open Go
theorem sLt_cmp (x y : ByteArray) : sLt x y = decide (cmpS x y < 0) := by
 unfold sLt
 rcases cmpS_cases x y with ⟨h, e⟩ | ⟨h, e⟩ | ⟨h, e⟩ <;> rw [e]
 ·rw [h]; rfl
 ·rw [h, bl_irr]; rfl
 ·rw [bl_asymm h]; rfl
theorem cmpS_zero {x y : ByteArray} (h : cmpS x y = 0) : x = y := by
 have := cmpS_eq h
 rw [Lib.toList_data, Lib.toList_data] at this
 exact toList_ext this
theorem cmpL_cons (x y : ByteArray) (a b : List ByteArray) : cmpL (x :: a) (y :: b) = if cmpS x y = 0 then cmpL a b else cmpS x y := rfl
theorem cmpL_endA (b : List ByteArray) : decide (cmpL [] b < 0) = decide (0 < (b.length : Int)) := by
 cases b with
 | nil => rfl
 | cons _ _ => simp [cmpL]
theorem cmpL_endB (a : List ByteArray) : decide (cmpL a [] < 0) = false := decide_eq_false (cmpL_nil a)
theorem ins_ok {out : List NoD} {x : NoD} {k : Nat} (h : out.Pairwise fun x y => ¬ cmpL y.1 x.1 < 0) (h1 : ∀ y ∈ out.drop k, cmpL x.1 y.1 < 0) (h2 : ∀ y ∈ out.take k, ¬ cmpL x.1 y.1 < 0) :
  (out.take k ++ [x] ++ out.drop k).Pairwise fun x y => ¬ cmpL y.1 x.1 < 0 := by
 have hs : (out.take k ++ out.drop k).Pairwise fun x y => ¬ cmpL y.1 x.1 < 0 := by rw [List.take_append_drop]; exact h
 obtain ⟨s1, s2, s3⟩ := List.pairwise_append.1 hs
 refine List.pairwise_append.2 ⟨List.pairwise_append.2 ⟨s1, by simp, fun y hy z hz => ?_⟩, s2, fun y hy z hz => ?_⟩
 ·obtain rfl := List.mem_singleton.1 hz
  exact h2 y hy
 ·rcases List.mem_append.1 hy with hy | hy
  ·exact s3 y hy z hz
  ·obtain rfl := List.mem_singleton.1 hy
   have := h1 z hz
   have := cmpL_swap y.1 z.1
   omega
theorem ins_perm {out L : List NoD} {x : NoD} {k : Nat} (h : out.Perm L) : (out.take k ++ [x] ++ out.drop k).Perm (L ++ [x]) := by
 rw [List.append_assoc, List.singleton_append]
 refine List.perm_middle.trans ?_
 rw [List.take_append_drop]
 exact (h.cons x).trans (List.perm_append_singleton x L).symm
theorem numM_keep : ∀ (L : List NoD) {m : List (Int × Int)} {i z : Int}, Kk.get .int m i = some z → Kk.get .int (numM L m) i = some z
 | [], _, _, _, h => h
 | x :: L, m, i, z, h => by
  cases hg : Kk.get .int m x.2.1 with
  | some k => rw [numM_some hg]; exact numM_keep L h
  | none =>
   rw [numM_none hg]
   refine numM_keep L ?_
   have : i ≠ x.2.1 := fun e => by rw [e, hg] at h; cases h
   rw [kk_ne (k := .int) this]; exact h
theorem num_key : ∀ (L : List NoD) {m : List (Int × Int)} {i : Int}, Kk.get .int (numM L m) i = none ↔ Kk.get .int m i = none ∧ ∀ y ∈ L, y.2.1 ≠ i
 | [], _, _ => by simp [numM]
 | x :: L, m, i => by
  cases hg : Kk.get .int m x.2.1 with
  | some k =>
   rw [numM_some hg, num_key L]
   constructor
   ·rintro ⟨h1, h2⟩
    refine ⟨h1, fun y hy => ?_⟩
    rcases List.mem_cons.1 hy with e | hy
    ·rw [e]; intro q; rw [q, h1] at hg; cases hg
    ·exact h2 y hy
   ·rintro ⟨h1, h2⟩
    exact ⟨h1, fun y hy => h2 y (List.mem_cons_of_mem _ hy)⟩
  | none =>
   rw [numM_none hg, num_key L]
   constructor
   ·rintro ⟨h1, h2⟩
    have hi : i ≠ x.2.1 := fun e => by rw [e, kk_same] at h1; cases h1
    rw [kk_ne (k := .int) hi] at h1
    refine ⟨h1, fun y hy => ?_⟩
    rcases List.mem_cons.1 hy with e | hy
    ·rw [e]; exact fun q => hi q.symm
    ·exact h2 y hy
   ·rintro ⟨h1, h2⟩
    have hi : i ≠ x.2.1 := fun e => h2 x List.mem_cons_self e.symm
    exact ⟨by rw [kk_ne (k := .int) hi]; exact h1, fun y hy => h2 y (List.mem_cons_of_mem _ hy)⟩
theorem num_pos : ∀ (L : List NoD) {m : List (Int × Int)}, (∀ i z, Kk.get .int m i = some z → 1 ≤ z) → ∀ i z, Kk.get .int (numM L m) i = some z → 1 ≤ z
 | [], _, h, i, z, hz => h i z hz
 | x :: L, m, h, i, z, hz => by
  cases hg : Kk.get .int m x.2.1 with
  | some k => rw [numM_some hg] at hz; exact num_pos L h i z hz
  | none =>
   rw [numM_none hg] at hz
   refine num_pos L (fun j y hy => ?_) i z hz
   by_cases hj : j = x.2.1
   ·rw [hj, kk_same] at hy
    obtain rfl := Option.some.inj hy
    omega
   ·rw [kk_ne (k := .int) hj] at hy
    exact h j y hy
theorem num_get : ∀ (L : List NoD) (m : List (Int × Int)) (j : Nat) (hj : j < L.length), Kk.get .int (numM L m) (L[j]).2.1 = some ((numGo L m)[j]'(by rw [numGo_len]; exact hj)).2.1
 | [], _, _, h => by simp at h
 | x :: L, m, j, hj => by
  cases hg : Kk.get .int m x.2.1 with
  | some k =>
   have e := numGo_some (r := L) hg
   simp only [numM_some hg, e]
   cases j with
   | zero => exact numM_keep L hg
   | succ j => exact num_get L m j (by simpa using hj)
  | none =>
   have e := numGo_none (r := L) hg
   simp only [numM_none hg, e]
   cases j with
   | zero => exact numM_keep L kk_same
   | succ j => exact num_get L _ j (by simpa using hj)
theorem num_ix {L : List NoD} {j : Int} (h0 : 0 ≤ j) (h1 : j < L.length) : Kk.get .int (numM L []) (ixD noTy L j).2.1 = some (ixD noTy (numGo L []) j).2.1 := by
 rw [ixD_get (e := noTy) h0 h1, ixD_get (e := noTy) h0 (by rw [numGo_len]; exact h1)]
 exact num_get L [] j.toNat (by omega)
theorem num_snoc {L : List NoD} {x : NoD} {v : Int} (h : Kk.get .int (numM L []) x.2.1 = some v ∨ (Kk.get .int (numM L []) x.2.1 = none ∧ v = ((numM L []).length : Int) + 1)) : numGo (L ++ [x]) [] = numGo L [] ++ [x.setI v] ∧ ((numM (L ++ [x]) []).length : Int) = if Kk.get .int (numM L []) x.2.1 = none then ((numM L []).length : Int) + 1 else (numM L []).length := by
 rw [(num_app L [x] []).1, (num_app L [x] []).2]
 rcases h with h | ⟨h, rfl⟩
 ·rw [numGo_some h, numM_some h, if_neg (by rw [h]; simp)]
  exact ⟨rfl, rfl⟩
 ·rw [numGo_none h, numM_none h, if_pos h]
  refine ⟨rfl, ?_⟩
  show ((Kk.put .int _ _ _).length : Int) = _
  rw [kk_len h]; simp
theorem strict_of {L : List NoD} (h : L.Pairwise fun x y => ¬ cmpL y.1 x.1 < 0) (hn : L.Pairwise fun a b => a.1 ≠ b.1) : L.Pairwise fun a b => cmpL a.1 b.1 < 0 := by
 refine (h.imp₂ (fun a b h1 h2 => ?_) hn)
 have s := cmpL_swap a.1 b.1
 by_cases e : cmpL a.1 b.1 = 0
 ·exact absurd (cmpL_zero e) h2
 ·omega
where
 cmpL_zero : ∀ {a b : List ByteArray}, cmpL a b = 0 → a = b
  | [], [], _ => rfl
  | [], _ :: _, h => by cases h
  | _ :: _, [], h => by cases h
  | x :: a, y :: b, h => by
   rw [cmpL_cons] at h
   split at h
   ·rename_i e
    rw [cmpS_zero e, cmpL_zero h]
   ·rename_i e; exact absurd h e
theorem strict_uniq {L K : List NoD} (hp : L.Perm K) (h : L.Pairwise fun a b => cmpL a.1 b.1 < 0) (k : K.Pairwise fun a b => cmpL a.1 b.1 < 0) : L = K :=
 sorted_eq (R := fun a b : NoD => cmpL a.1 b.1 < 0) (fun a b h1 h2 => by have := cmpL_swap a.1 b.1; omega) h k fun _ => hp.mem_iff
def UpY.opqT (Y : UpY) (c : NoD) : NoD := if (Y.findGo c.1 1).2 = 0 then c.setO (Y.opqD (Y.findGo c.1 1).1) else c
theorem qs_fillR (Y : UpY) (m : List (Int × Int)) (x : NoD) : (fillR Y m x).2.q1 = Y.q1 ∧ (fillR Y m x).2.q2 = Y.q2 := by
 unfold fillR
 split
 ·have h1 := qs_setx (Y := Y.setAttrY 1 x.2.2.2.1) 1 x.2.2.2.2.2.2.1
  have h2 := qs_setattr (Y := Y) 1 x.2.2.2.1
  exact ⟨h1.1.trans h2.1, h1.2.trans h2.2⟩
 ·split
  ·exact qs_link _ _ _
  ·exact qs_make _ _ _
theorem qs_fill : ∀ (L : List NoD) (m : List (Int × Int)) (Y : UpY), (fillGo L m Y).q1 = Y.q1 ∧ (fillGo L m Y).q2 = Y.q2
 | [], _, _ => ⟨rfl, rfl⟩
 | x :: L, m, Y => by
  have h := qs_fill L (Kk.put .int m x.2.1 (fillR Y m x).1) (fillY Y m x)
  have h1 := qs_fillR Y m x
  have h2 : (fillY Y m x).q1 = (fillR Y m x).2.q1 ∧ (fillY Y m x).q2 = (fillR Y m x).2.q2 := by
   unfold fillY
   split
   ·exact qs_setopq _ _
   ·exact ⟨rfl, rfl⟩
  exact ⟨h.1.trans (h2.1.trans h1.1), h.2.trans (h2.2.trans h1.2)⟩
theorem costX_cons (x : XaD) (l : List XaD) : UpY.costX (x :: l) = (x.1.size : Int) + x.2.1.length + UpY.costX l := by
 unfold UpY.costX
 rw [List.map_cons, List.sum_cons]
theorem cnt_le {c : NoD} {l : List NoD} {n b : Int} (h : c.2.1 ≤ n) : cntGo (c :: l) n b = cntGo l n (b + lastZ c) := if_pos h
theorem cnt_new {c : NoD} {l : List NoD} {n b : Int} (h : ¬ c.2.1 ≤ n) : cntGo (c :: l) n b = cntGo l c.2.1 (b + lastZ c + UpY.costN c) := if_neg h
theorem lastZ_nn (c : NoD) : 0 ≤ lastZ c := by unfold lastZ; split <;> omega
theorem costX_nn : ∀ l : List XaD, 0 ≤ UpY.costX l
 | [] => by decide
 | x :: l => by
  have := costX_nn l
  unfold UpY.costX at *
  rw [List.map_cons, List.sum_cons]
  omega
theorem costN_nn (c : NoD) : 0 ≤ UpY.costN c := by
 have := costX_nn c.2.2.2.2.2.2.1
 unfold UpY.costN
 omega
theorem cnt_mono : ∀ (l : List NoD) (n b : Int), b ≤ (cntGo l n b).2
 | [], _, _ => Int.le_refl _
 | c :: l, n, b => by
  have h1 := lastZ_nn c
  have h2 := costN_nn c
  unfold cntGo
  split
  ·have := cnt_mono l n (b + lastZ c); omega
  ·have := cnt_mono l c.2.1 (b + lastZ c + UpY.costN c); omega
theorem map_at {T l : List NoD} {g : NoD → NoD} {i : Int} (h0 : 0 ≤ i) (h1 : i < T.length) (hl : l = (T.take i.toNat).map g ++ T.drop i.toNat) : i < l.length ∧ ixD noTy l i = ixD noTy T i ∧ l.set i.toNat (g (ixD noTy T i)) = (T.take (i + 1).toNat).map g ++ T.drop (i + 1).toNat := by
 have e1 := ixD_drop (e := noTy) h0 h1
 have e2 := take_ixD (e := noTy) h0 h1
 generalize ixD noTy T i = x at *
 have ha : ((T.take i.toNat).map g).length = i.toNat := by rw [List.length_map, List.length_take]; omega
 rw [e1] at hl
 have hlen : i < l.length := by rw [hl, List.length_append, ha]; simp; omega
 refine ⟨hlen, ?_, ?_⟩
 ·rw [ixD_get (e := noTy) h0 hlen]
  have : l[i.toNat]? = some x := by rw [hl, List.getElem?_append_right (by omega), ha]; simp
  exact (List.getElem?_eq_some_iff.1 this).2
 ·rw [hl, e2, List.map_append, List.append_assoc, List.set_append_right _ _ (by omega), ha]
  simp
structure UpY.Tall (Y : UpY) (n : Nat) (r : Int) : Prop where
 tall : Y.tall n r
theorem rows_succ {Y : UpY} (n : Nat) (r : Int) (p : List ByteArray) : Y.rows (n + 1) r p = (p, r, (Y.nodeD r).2.2) :: (Y.listD r).flatMap fun x => Y.rows n x.2.2.1 (p ++ [x.1]) := by
 show ((p, r) :: (Y.listD r).flatMap fun x => Y.walk n x.2.2.1 (p ++ [x.1])).map Y.told = _
 rw [List.map_cons, List.map_flatMap]; rfl
theorem num_one (x : NoD) (m : List (Int × Int)) : numGo [x] m = [NoD.setI x ((Kk.get .int (numM [x] m) x.2.1).getD 0)] := by
 cases hg : Kk.get .int m x.2.1 with
 | some k => rw [numGo_some hg, numM_some hg, show numM [] m = m from rfl, hg]; rfl
 | none => rw [numGo_none hg, numM_none hg, show numM [] (Kk.put .int m x.2.1 ((m.length : Int) + 1)) = Kk.put .int m x.2.1 ((m.length : Int) + 1) from rfl, kk_same]; rfl
theorem nodeD_dir {Y : UpY} {r : Int} (h0 : Y.atE r = 0) : (Y.nodeD r).2.2.1 = 1 ↔ Y.dirE r = 0 := by
 obtain ⟨n, hn⟩ := atE_zero.1 h0
 rw [dirE_zero]
 unfold UpY.nodeD
 rw [hn]
 simp
theorem nodeD_told {Y : UpY} (w : Y.Wf) {r : Int} (h0 : Y.atE r = 0) :
  ((Y.statD r).1 = 2 → Y.readE r 0 4096 = 0 ∧ Y.nodeD r = ([], 0, (Y.statD r).1, (Y.statD r).2.1, Y.readD r 0 4096, ⟨#[]⟩, Y.xattrsD r, false, ())) ∧
  ((Y.statD r).1 = 3 → Y.targetE r = 0 ∧ Y.nodeD r = ([], 0, (Y.statD r).1, (Y.statD r).2.1, [], Y.targetD r, Y.xattrsD r, false, ())) ∧
  ((Y.statD r).1 ≠ 2 → (Y.statD r).1 ≠ 3 → Y.nodeD r = ([], 0, (Y.statD r).1, (Y.statD r).2.1, [], ⟨#[]⟩, Y.xattrsD r, false, ())) := by
 obtain ⟨n, hn⟩ := atE_zero.1 h0
 have hl := (mayN_lens (w.nm n (at_mem hn).1).2.2).1
 have e1 : (Y.statD r).1 = n.2.2.1 := by unfold UpY.statD; rw [hn]
 have e2 : (Y.statD r).2.1 = n.2.2.2.1 := by unfold UpY.statD; rw [hn]
 have e3 : Y.xattrsD r = n.2.2.2.2.2.2.1 := by unfold UpY.xattrsD; rw [hn]
 rw [e1, e2, e3]
 refine ⟨fun hk => ?_, fun hk => ?_, fun hk hk3 => ?_⟩
 ·have hf : Y.fileE r = 0 := by unfold UpY.fileE; rw [hn]; simp only; rw [hk]; rfl
  have hr : Y.readE r 0 4096 = 0 := by unfold UpY.readE; rw [if_pos hf]; rfl
  refine ⟨hr, ?_⟩
  have hd : Y.readD r 0 4096 = n.2.2.2.2.1 := by
   unfold UpY.readD
   rw [if_pos hr, hn]
   simp only
   split
   ·rename_i hz
    exact (List.eq_nil_of_length_eq_zero (by omega)).symm
   ·rw [show (0 : Int).toNat = 0 from rfl, List.drop_zero, List.take_of_length_le (by omega)]
  rw [hd]
  unfold UpY.nodeD
  rw [hn]
  simp only
  rw [if_pos hk, if_neg (by rw [hk]; decide)]
 ·have ht : Y.targetE r = 0 := by unfold UpY.targetE; rw [hn]; exact if_pos hk
  refine ⟨ht, ?_⟩
  have hd : Y.targetD r = n.2.2.2.2.2.1 := by unfold UpY.targetD; rw [hn]; exact if_pos hk
  rw [hd]
  unfold UpY.nodeD
  rw [hn]
  simp only
  rw [if_neg (by rw [hk]; decide), if_pos hk]
 ·unfold UpY.nodeD
  rw [hn]
  simp only
  rw [if_neg hk, if_neg hk3]
end Go.Lm

namespace Go.Proofs
open Go Go.Lm Go.RowKit
set_option maxRecDepth 1000000
def c_less6 : Ct
 | [.v (.c ca), .v (.c cb)], [], Q => (match (Ty.sl Ty.str).of [ca] with
  | some (a, []) => (match (Ty.sl Ty.str).of [cb] with
  | some (b, []) => Q (.bool (decide (cmpL a b < 0))) []
  | _ => False)
  | _ => False)
 | _, _, _ => False
noncomputable def XB1083 : Vx := { P := Tryz.prog, ct := [], ty := tyTab, hold := [] }
theorem XB1083_ok : CtOk Inv Tryz.prog XB1083.ct := CtOk.nil _ _
def vc_less6 : (List (Ty.str).den) → (List (Ty.str).den) → (SV → List HO → Prop) → Prop :=
 fun a b Q => List.length a ≤ 9223372036854775807 → List.length b ≤ 9223372036854775807 → LoopP (fun i again => List.length a ≤ 9223372036854775807 → br (decide (i.1.1 < (a.length : Int))) (List.length b ≤ 9223372036854775807 → br (decide 
 (i.1.1 < (b.length : Int))) (0 ≤ i.1.1 ∧ i.1.1 < (a.length : Int) ∧ (Ty.ok Ty.str (ixD Ty.str a i.1.1) → 0 ≤ i.1.1 ∧ i.1.1 < (b.length : Int) ∧ (Ty.ok Ty.str (ixD Ty.str b i.1.1) → br (!sEq (ixD Ty.str a i.1.1) (ixD Ty.str b i.1.1)) (0 ≤ 
 i.1.1 ∧ i.1.1 < (a.length : Int) ∧ (Ty.ok Ty.str (ixD Ty.str a i.1.1) → 0 ≤ i.1.1 ∧ i.1.1 < (b.length : Int) ∧ (Ty.ok Ty.str (ixD Ty.str b i.1.1) → Q (.v (.c (.k (.bool (sLt (ixD Ty.str a i.1.1) (ixD Ty.str b i.1.1)))))) []))) (inK .i64 
 (i.1.1 + 1) ∧ again ((i.1.1 + 1, ()), ()))))) (List.length a ≤ 9223372036854775807 → List.length b ≤ 9223372036854775807 → Q (.v (.c (.k (.bool (decide ((a.length : Int) < (b.length : Int))))))) [])) (List.length a ≤ 9223372036854775807 → 
 List.length b ≤ 9223372036854775807 → Q (.v (.c (.k (.bool (decide ((a.length : Int) < (b.length : Int))))))) [])) (((0 : Int), ()), ())
theorem vc_less6_eq (a : List (Ty.str).den) (b : List (Ty.str).den) (Q : SV → List HO → Prop) : vFun XB1083 ⟨[(3, ⟨[(5, .int .i64)], []⟩)], []⟩ Tryz.f121 [.c (.d Ty.str a), .c (.d Ty.str b)] [] Q = vc_less6 a b Q := by kernel_rfl
theorem w_less6 : ∀ args H Q, c_less6 args H Q → Wp Inv Tryz.prog 121 args H Q := by
 intro args H Q h
 unfold c_less6 at h
 split at h
 rotate_left
 ·exact h.elim
 rename_i ca cb
 split at h
 rotate_left
 ·exact h.elim
 rename_i a ha
 split at h
 rotate_left
 ·exact h.elim
 rename_i b hb
 refine Wp.said (args' := [.c (.d Ty.str a), .c (.d Ty.str b)]) (fun E g => RelVs.cons1 (of_list ha) (RelVs.cons1 (of_list hb) (fun _ h => h))) ?_
 clear ha hb
 refine Wp.enter (X := XB1083) XB1083_ok ⟨[(3, ⟨[(5, .int .i64)], []⟩)], []⟩ (fn := Tryz.f121) (by kernel_rfl) ?_
 have hv := vc_less6_eq a b Q
 rw [show vFun _ _ _ _ _ _ = _ from hv]
 unfold vc_less6
 clear hv
 intro _ _
 refine LoopP.intro (fun i => 0 ≤ i.1.1 ∧ i.1.1 ≤ a.length ∧ i.1.1 ≤ b.length ∧ cmpL (a.drop i.1.1.toNat) (b.drop i.1.1.toNat) = cmpL a b) (fun i => a.length - i.1.1.toNat) ⟨by simp, by simp, by simp, by simp⟩ ?_
 rintro ⟨⟨i, _⟩, _⟩ ⟨h0, h1, h2, h3⟩
 simp only at h0 h1 h2 h3 ⊢
 rw [← h3] at h
 refine fun _ => br_of (fun ha => fun _ => br_of (fun hb => ?_) (fun hb => fun _ _ => ?_)) (fun ha => fun _ _ => ?_)
 ·have ha : i < (a.length : Int) := of_decide_eq_true ha
  have hb : i < (b.length : Int) := of_decide_eq_true hb
  rw [ixD_drop (e := .str) h0 ha, ixD_drop (e := .str) h0 hb, cmpL_cons] at h h3
  refine ⟨h0, ha, fun _ => ⟨h0, hb, fun _ => br_of (fun hd => ⟨h0, ha, fun _ => ⟨h0, hb, fun _ => ?_⟩⟩) (fun hd => ?_)⟩⟩
  ·have hn : ¬ cmpS (ixD .str a i) (ixD .str b i) = 0 := fun e => by
    rw [cmpS_zero e, sEq_iff.2 rfl] at hd; cases hd
   rw [if_neg hn] at h
   rw [sLt_cmp]; exact h
  ·have e : ixD .str a i = ixD .str b i := sEq_iff.1 (by simpa using hd)
   rw [e, cmpS_self, if_pos rfl] at h3
   exact ⟨by unfold inK; omega, ⟨by omega, by omega, by omega, h3⟩, by omega⟩
 ·have hb : ¬ i < (b.length : Int) := of_decide_eq_false hb
  rw [drop_all hb, cmpL_endB] at h
  rw [show decide ((a.length : Int) < (b.length : Int)) = false from decide_eq_false (by omega)]
  exact h
 ·have ha : ¬ i < (a.length : Int) := of_decide_eq_false ha
  rw [drop_all ha, cmpL_endA, List.length_drop] at h
  rw [show decide ((a.length : Int) < (b.length : Int)) = decide (0 < ((b.length - i.toNat : Nat) : Int)) by rw [decide_eq_decide]; omega]
  exact h
def c_sorted7 : Ct
 | [.v (.c cl)], [], Q => (match (Ty.sl noTy).of [cl] with
  | some (l, []) => (l.length : Int) ≤ 1000 ∧ ∀ L' : List NoD, L'.Perm l → L'.Pairwise (fun x y => ¬ cmpL y.1 x.1 < 0) → Q (.c (.o 0)) [.sl 36 noTy L']
  | _ => False)
 | _, _, _ => False
noncomputable def XB1084 : Vx := { P := Tryz.prog, ct := (121, c_less6) :: XB1083.ct, ty := tyTab, hold := [] }
theorem XB1084_ok : CtOk Inv Tryz.prog XB1084.ct := CtOk.cons w_less6 (XB1083_ok)
def vc_sorted7 : (List (noTy).den) → (SV → List HO → Prop) → Prop :=
 fun l Q => List.length l ≤ 9223372036854775807 → LoopP (fun i again => List.length l ≤ 9223372036854775807 → br (decide (i.1.1 < (l.length : Int))) (List.length i.1.2.1 ≤ 9223372036854775807 → JoinP (fun k => LoopP (fun i_1 again => br 
 (decide (i_1.1.1 > 0)) (0 ≤ i.1.1 ∧ i.1.1 < (l.length : Int) ∧ (Ty.ok noTy (ixD noTy l i.1.1) → inK .i64 (i_1.1.1 - 1) ∧ 0 ≤ i_1.1.1 - 1 ∧ i_1.1.1 - 1 < (↑(List.length i.1.2.1) : Int) ∧ 0 ≤ i_1.1.1 - 1 ∧ i_1.1.1 - 1 < (↑(List.length 
 i.1.2.1) : Int) ∧ (Ty.ok noTy (ixD noTy i.1.2.1 (i_1.1.1 - 1)) → br (decide (cmpL (ixD noTy l i.1.1).1 (ixD noTy i.1.2.1 (i_1.1.1 - 1)).1 < 0)) (inK .i64 (i_1.1.1 - 1) ∧ again ((i_1.1.1 - 1, ()), ())) (k i_1)))) (k i_1)) (((↑(List.length 
 i.1.2.1) : Int), ()), ())) fun i_1 => 0 ≤ boundV (some i_1.1.1) (0 : Int) ∧ boundV (some i_1.1.1) 0 ≤ boundV none (↑(List.length i.1.2.1) : Int) ∧ boundV none (↑(List.length i.1.2.1) : Int) ≤ (↑(List.length i.1.2.1) : Int) ∧ 0 ≤ boundV 
 (some i_1.1.1) (0 : Int) ∧ boundV (some i_1.1.1) 0 ≤ boundV none (↑(List.length i.1.2.1) : Int) ∧ boundV none (↑(List.length i.1.2.1) : Int) ≤ (↑(List.length i.1.2.1) : Int) ∧ (0 + List.length (List.take (Int.toNat (boundV none 
 (↑(List.length i.1.2.1) : Int)) - Int.toNat (boundV (some i_1.1.1) (0 : Int))) (List.drop (Int.toNat (boundV (some i_1.1.1) (0 : Int))) i.1.2.1))) * 136 ≤ (140737488355328 : Nat) ∧ 0 + List.length (List.take (Int.toNat (boundV none 
 (↑(List.length i.1.2.1) : Int)) - Int.toNat (boundV (some i_1.1.1) (0 : Int))) (List.drop (Int.toNat (boundV (some i_1.1.1) (0 : Int))) i.1.2.1)) ≤ 9223372036854775807 ∧ 0 ≤ boundV none 0 ∧ boundV none 0 ≤ boundV (some i_1.1.1) 
 (↑(List.length i.1.2.1) : Int) ∧ boundV (some i_1.1.1) (↑(List.length i.1.2.1) : Int) ≤ (↑(List.length i.1.2.1) : Int) ∧ 0 ≤ i.1.1 ∧ i.1.1 < (l.length : Int) ∧ (Ty.ok noTy (ixD noTy l i.1.1) → ((0 ≤ boundV none 0 ∧ boundV none 0 ≤ boundV 
 (some i_1.1.1) (↑(List.length i.1.2.1) : Int) ∧ boundV (some i_1.1.1) (↑(List.length i.1.2.1) : Int) ≤ (↑(List.length i.1.2.1) : Int) ∧ (0 + List.length (List.take (Int.toNat (boundV (some i_1.1.1) (↑(List.length i.1.2.1) : Int)) - 0) 
 (List.drop 0 i.1.2.1))) * 136 ≤ (140737488355328 : Nat) ∧ 0 + List.length (List.take (Int.toNat (boundV (some i_1.1.1) (↑(List.length i.1.2.1) : Int)) - 0) (List.drop 0 i.1.2.1)) ≤ 9223372036854775807 ∧ (List.length ([] ++ List.take 
 (Int.toNat (boundV (some i_1.1.1) (↑(List.length i.1.2.1) : Int)) - 0) (List.drop 0 i.1.2.1)) + List.length [ixD noTy l i.1.1]) * 136 ≤ (140737488355328 : Nat) ∧ List.length ([] ++ List.take (Int.toNat (boundV (some i_1.1.1) (↑(List.length 
 i.1.2.1) : Int)) - 0) (List.drop 0 i.1.2.1)) + List.length [ixD noTy l i.1.1] ≤ 9223372036854775807 ∧ (List.length ([] ++ List.take (Int.toNat (boundV (some i_1.1.1) (↑(List.length i.1.2.1) : Int)) - 0) (List.drop 0 i.1.2.1) ++ [ixD noTy l 
 i.1.1]) + List.length ([] ++ List.take (Int.toNat (boundV none (↑(List.length i.1.2.1) : Int)) - Int.toNat (boundV (some i_1.1.1) (0 : Int))) (List.drop (Int.toNat (boundV (some i_1.1.1) (0 : Int))) i.1.2.1))) * 136 ≤ (140737488355328 : 
 Nat) ∧ List.length ([] ++ List.take (Int.toNat (boundV (some i_1.1.1) (↑(List.length i.1.2.1) : Int)) - 0) (List.drop 0 i.1.2.1) ++ [ixD noTy l i.1.1]) + List.length ([] ++ List.take (Int.toNat (boundV none (↑(List.length i.1.2.1) : Int)) - 
 Int.toNat (boundV (some i_1.1.1) (0 : Int))) (List.drop (Int.toNat (boundV (some i_1.1.1) (0 : Int))) i.1.2.1)) ≤ 9223372036854775807 ∧ inK .i64 (i.1.1 + 1) ∧ again ((i.1.1 + 1, [] ++ List.take (Int.toNat (boundV (some i_1.1.1) 
 (↑(List.length i.1.2.1) : Int)) - 0) (List.drop 0 i.1.2.1) ++ [ixD noTy l i.1.1] ++ ([] ++ List.take (Int.toNat (boundV none (↑(List.length i.1.2.1) : Int)) - Int.toNat (boundV (some i_1.1.1) (0 : Int))) (List.drop (Int.toNat (boundV (some 
 i_1.1.1) (0 : Int))) i.1.2.1)), ()), ())) ∧ 0 ≤ boundV none 0 ∧ boundV none 0 ≤ boundV (some i_1.1.1) (↑(List.length i.1.2.1) : Int) ∧ boundV (some i_1.1.1) (↑(List.length i.1.2.1) : Int) ≤ (↑(List.length i.1.2.1) : Int) ∧ (0 + List.length 
 (List.take (Int.toNat (boundV (some i_1.1.1) (↑(List.length i.1.2.1) : Int)) - 0) (List.drop 0 i.1.2.1))) * 136 ≤ (140737488355328 : Nat) ∧ 0 + List.length (List.take (Int.toNat (boundV (some i_1.1.1) (↑(List.length i.1.2.1) : Int)) - 0) 
 (List.drop 0 i.1.2.1)) ≤ 9223372036854775807 ∧ (List.length ([] ++ List.take (Int.toNat (boundV (some i_1.1.1) (↑(List.length i.1.2.1) : Int)) - 0) (List.drop 0 i.1.2.1)) + List.length [ixD noTy l i.1.1]) * 136 ≤ (140737488355328 : Nat) ∧ 
 List.length ([] ++ List.take (Int.toNat (boundV (some i_1.1.1) (↑(List.length i.1.2.1) : Int)) - 0) (List.drop 0 i.1.2.1)) + List.length [ixD noTy l i.1.1] ≤ 9223372036854775807 ∧ (List.length ([] ++ List.take (Int.toNat (boundV (some 
 i_1.1.1) (↑(List.length i.1.2.1) : Int)) - 0) (List.drop 0 i.1.2.1) ++ [ixD noTy l i.1.1]) + List.length ([] ++ List.take (Int.toNat (boundV none (↑(List.length i.1.2.1) : Int)) - Int.toNat (boundV (some i_1.1.1) (0 : Int))) (List.drop 
 (Int.toNat (boundV (some i_1.1.1) (0 : Int))) i.1.2.1))) * 136 ≤ (140737488355328 : Nat) ∧ List.length ([] ++ List.take (Int.toNat (boundV (some i_1.1.1) (↑(List.length i.1.2.1) : Int)) - 0) (List.drop 0 i.1.2.1) ++ [ixD noTy l i.1.1]) + 
 List.length ([] ++ List.take (Int.toNat (boundV none (↑(List.length i.1.2.1) : Int)) - Int.toNat (boundV (some i_1.1.1) (0 : Int))) (List.drop (Int.toNat (boundV (some i_1.1.1) (0 : Int))) i.1.2.1)) ≤ 9223372036854775807 ∧ inK .i64 (i.1.1 + 
 1) ∧ again ((i.1.1 + 1, [] ++ List.take (Int.toNat (boundV (some i_1.1.1) (↑(List.length i.1.2.1) : Int)) - 0) (List.drop 0 i.1.2.1) ++ [ixD noTy l i.1.1] ++ ([] ++ List.take (Int.toNat (boundV none (↑(List.length i.1.2.1) : Int)) - 
 Int.toNat (boundV (some i_1.1.1) (0 : Int))) (List.drop (Int.toNat (boundV (some i_1.1.1) (0 : Int))) i.1.2.1)), ()), ())) ∧ 0 ≤ boundV none 0 ∧ boundV none 0 ≤ boundV (some i_1.1.1) (↑(List.length i.1.2.1) : Int) ∧ boundV (some i_1.1.1) 
 (↑(List.length i.1.2.1) : Int) ≤ (↑(List.length i.1.2.1) : Int) ∧ (0 + List.length (List.take (Int.toNat (boundV (some i_1.1.1) (↑(List.length i.1.2.1) : Int)) - 0) (List.drop 0 i.1.2.1))) * 136 ≤ (140737488355328 : Nat) ∧ 0 + List.length 
 (List.take (Int.toNat (boundV (some i_1.1.1) (↑(List.length i.1.2.1) : Int)) - 0) (List.drop 0 i.1.2.1)) ≤ 9223372036854775807 ∧ (List.length ([] ++ List.take (Int.toNat (boundV (some i_1.1.1) (↑(List.length i.1.2.1) : Int)) - 0) (List.drop 
 0 i.1.2.1)) + List.length [ixD noTy l i.1.1]) * 136 ≤ (140737488355328 : Nat) ∧ List.length ([] ++ List.take (Int.toNat (boundV (some i_1.1.1) (↑(List.length i.1.2.1) : Int)) - 0) (List.drop 0 i.1.2.1)) + List.length [ixD noTy l i.1.1] ≤ 
 9223372036854775807 ∧ (List.length ([] ++ List.take (Int.toNat (boundV (some i_1.1.1) (↑(List.length i.1.2.1) : Int)) - 0) (List.drop 0 i.1.2.1) ++ [ixD noTy l i.1.1]) + List.length ([] ++ List.take (Int.toNat (boundV none (↑(List.length 
 i.1.2.1) : Int)) - Int.toNat (boundV (some i_1.1.1) (0 : Int))) (List.drop (Int.toNat (boundV (some i_1.1.1) (0 : Int))) i.1.2.1))) * 136 ≤ (140737488355328 : Nat) ∧ List.length ([] ++ List.take (Int.toNat (boundV (some i_1.1.1) 
 (↑(List.length i.1.2.1) : Int)) - 0) (List.drop 0 i.1.2.1) ++ [ixD noTy l i.1.1]) + List.length ([] ++ List.take (Int.toNat (boundV none (↑(List.length i.1.2.1) : Int)) - Int.toNat (boundV (some i_1.1.1) (0 : Int))) (List.drop (Int.toNat 
 (boundV (some i_1.1.1) (0 : Int))) i.1.2.1)) ≤ 9223372036854775807 ∧ inK .i64 (i.1.1 + 1) ∧ again ((i.1.1 + 1, [] ++ List.take (Int.toNat (boundV (some i_1.1.1) (↑(List.length i.1.2.1) : Int)) - 0) (List.drop 0 i.1.2.1) ++ [ixD noTy l 
 i.1.1] ++ ([] ++ List.take (Int.toNat (boundV none (↑(List.length i.1.2.1) : Int)) - Int.toNat (boundV (some i_1.1.1) (0 : Int))) (List.drop (Int.toNat (boundV (some i_1.1.1) (0 : Int))) i.1.2.1)), ()), ()))) (Q (SV.v (S1.c (.o 0))) [.sl 36 
 noTy i.1.2.1])) (((0 : Int), [], ()), ())
theorem vc_sorted7_eq (l : List (noTy).den) (Q : SV → List HO → Prop) : vFun XB1084 ⟨[(4, ⟨[(4, .int .i64), (3, .own 36 noTy)], []⟩), (7, ⟨[(5, .int .i64)], []⟩)], [(9, ⟨[(5, .int .i64)], []⟩)]⟩ Tryz.f80 [.c (.d noTy l)] [] Q = vc_sorted7 l Q := by kernel_rfl
theorem w_sorted7 : ∀ args H Q, c_sorted7 args H Q → Wp Inv Tryz.prog 80 args H Q := by
 intro args H Q h
 unfold c_sorted7 at h
 split at h
 rotate_left
 ·exact h.elim
 rename_i cl
 split at h
 rotate_left
 ·exact h.elim
 rename_i l hl
 refine Wp.said (args' := [.c (.d noTy l)]) (fun E g => RelVs.cons1 (of_list hl) (fun _ h => h)) ?_
 clear hl
 refine Wp.enter (X := XB1084) XB1084_ok ⟨[(4, ⟨[(4, .int .i64), (3, .own 36 noTy)], []⟩), (7, ⟨[(5, .int .i64)], []⟩)], [(9, ⟨[(5, .int .i64)], []⟩)]⟩ (fn := Tryz.f80) (by kernel_rfl) ?_
 have hv := vc_sorted7_eq l Q
 rw [show vFun _ _ _ _ _ _ = _ from hv]
 unfold vc_sorted7
 clear hv
 obtain ⟨hl, h⟩ := h
 intro _
 refine LoopP.intro (fun i => 0 ≤ i.1.1 ∧ i.1.1 ≤ l.length ∧ i.1.2.1.Perm (l.take i.1.1.toNat) ∧ i.1.2.1.Pairwise (fun x y => ¬ cmpL y.1 x.1 < 0)) (fun i => l.length - i.1.1.toNat) ⟨by simp, by simp, by simp, by simp⟩ ?_
 rintro ⟨⟨i, out, _⟩, _⟩ ⟨h0, h1, h2, h3⟩
 simp only at h0 h1 h2 h3 ⊢
 refine fun _ => br_of (fun hc => ?_) (fun hc => ?_)
 ·have hc : i < (l.length : Int) := of_decide_eq_true hc
  have hol : out.length = i.toNat := by rw [h2.length_eq, List.length_take]; omega
  have e1 : l.take (i + 1).toNat = l.take i.toNat ++ [ixD noTy l i] := take_ixD (e := noTy) h0 hc
  generalize ixD noTy l i = x at *
  intro _
  refine JoinP.intro (fun k => 0 ≤ k.1.1 ∧ k.1.1 ≤ out.length ∧ (∀ y ∈ out.drop k.1.1.toNat, cmpL x.1 y.1 < 0) ∧ ∀ y ∈ out.take k.1.1.toNat, ¬ cmpL x.1 y.1 < 0) ?_ ?_
  ·refine LoopP.intro (fun k => 0 ≤ k.1.1 ∧ k.1.1 ≤ out.length ∧ ∀ y ∈ out.drop k.1.1.toNat, cmpL x.1 y.1 < 0) (fun k => k.1.1.toNat) ⟨by simp, by simp, by simp⟩ ?_
   rintro ⟨⟨k, _⟩, _⟩ ⟨k0, k1, k2⟩
   simp only at k0 k1 k2 ⊢
   refine br_of (fun hk => ?_) (fun hk => ?_)
   ·have hk : k > 0 := of_decide_eq_true hk
    have e := ixD_drop (e := noTy) (l := out) (k := k - 1) (by omega) (by omega)
    have e3 := take_ixD (e := noTy) (l := out) (k := k - 1) (by omega) (by omega)
    rw [show k - 1 + 1 = k by omega] at e e3
    refine ⟨h0, hc, fun _ => ⟨by unfold inK; omega, by omega, by omega, by omega, by omega, fun _ => br_of (fun hd => ?_) (fun hd => ?_)⟩⟩
    ·have hd := of_decide_eq_true hd
     refine ⟨by unfold inK; omega, ⟨by omega, by omega, fun y hy => ?_⟩, by omega⟩
     rw [e] at hy
     rcases List.mem_cons.1 hy with rfl | hy
     ·exact hd
     ·exact k2 y hy
    ·have hd := of_decide_eq_false hd
     refine ⟨k0, k1, k2, fun y hy => ?_⟩
     rw [e3] at hy
     rcases List.mem_append.1 hy with hy | hy
     ·have hsp : out = out.take (k - 1).toNat ++ (ixD noTy out (k - 1) :: out.drop k.toNat) := by rw [← e, List.take_append_drop]
      rw [hsp] at h3
      exact cmpL_ntrans hd ((List.pairwise_append.1 h3).2.2 y hy _ List.mem_cons_self)
     ·obtain rfl := List.mem_singleton.1 hy
      exact hd
   ·have hk : ¬ k > 0 := of_decide_eq_false hk
    refine ⟨k0, k1, k2, fun y hy => ?_⟩
    rw [show k.toNat = 0 by omega] at hy
    cases hy
  ·rintro ⟨⟨k, _⟩, _⟩ ⟨k0, k1, k2, k3⟩
   simp only at k0 k1 k2 k3 ⊢
   have b1 : boundV (some k) 0 = k := rfl
   have b2 : boundV (some k) (out.length : Int) = k := rfl
   have b3 : boundV none (out.length : Int) = out.length := rfl
   have b4 : boundV none 0 = 0 := rfl
   have e5 : List.take (Int.toNat (out.length : Int) - k.toNat) (out.drop k.toNat) = out.drop k.toNat := List.take_of_length_le (by rw [List.length_drop]; omega)
   simp only [b1, b2, b3, b4, e5, List.drop_zero, Nat.sub_zero, List.nil_append]
   have fin : (0 ≤ i + 1 ∧ i + 1 ≤ (l.length : Int) ∧ (out.take k.toNat ++ [x] ++ out.drop k.toNat).Perm (l.take (i + 1).toNat) ∧ (out.take k.toNat ++ [x] ++ out.drop k.toNat).Pairwise (fun x y => ¬ cmpL y.1 x.1 < 0)) ∧ l.length - (i + 1).toNat < l.length - i.toNat := ⟨⟨by omega, by omega, by rw [e1]; exact ins_perm h2, ins_ok h3 k2 k3⟩, by omega⟩
   clear h k2 k3 h3 h2 e1
   repeat' (first | exact fin | apply And.intro | intro _)
   all_goals (first | omega | (unfold inK; omega) | (simp only [List.length_append, List.length_take, List.length_drop, List.length_cons, List.length_nil]; omega))
 ·have hc : ¬ i < (l.length : Int) := of_decide_eq_false hc
  rw [List.take_of_length_le (by omega)] at h2
  exact h out h2 h3
def c_numbered7 : Ct
 | [.v (.c cl)], [], Q => (match (Ty.sl noTy).of [cl] with
  | some (l, []) => (l.length : Int) ≤ 1000 ∧ Q (.c (.o 0)) [.sl 36 noTy (numGo l [])]
  | _ => False)
 | _, _, _ => False
noncomputable def XB1085 : Vx := { P := Tryz.prog, ct := [], ty := tyTab, hold := [] }
theorem XB1085_ok : CtOk Inv Tryz.prog XB1085.ct := CtOk.nil _ _
def vc_numbered7 : (List (noTy).den) → (SV → List HO → Prop) → Prop :=
 fun l Q => List.length l ≤ 9223372036854775807 → LoopP (fun i again => List.length l ≤ 9223372036854775807 → br (decide (i.1.2.1 < (l.length : Int))) (0 ≤ i.1.2.1 ∧ i.1.2.1 < (l.length : Int) ∧ (Ty.ok noTy (ixD noTy l i.1.2.1) → LoopP (fun 
 i_1 again_1 => br (decide (i_1.1.1 < i.1.2.1)) (0 ≤ i_1.1.1 ∧ i_1.1.1 < (l.length : Int) ∧ (Ty.ok noTy (ixD noTy l i_1.1.1) → 0 ≤ i.1.2.1 ∧ i.1.2.1 < (l.length : Int) ∧ (Ty.ok noTy (ixD noTy l i.1.2.1) → br ((ixD noTy l i_1.1.1).2.1 == (ixD 
 noTy l i.1.2.1).2.1) (0 ≤ i_1.1.1 ∧ i_1.1.1 < (↑(List.length i.1.2.2.1) : Int) ∧ 0 ≤ i_1.1.1 ∧ i_1.1.1 < (↑(List.length i.1.2.2.1) : Int) ∧ (Ty.ok noTy (ixD noTy i.1.2.2.1 i_1.1.1) → inK .i64 (i_1.1.1 + 1) ∧ again_1 ((i_1.1.1 + 1, ()), 
 (i_1.2.1.1, (ixD noTy i.1.2.2.1 i_1.1.1).2.1, i_1.2.1.2.2), ()))) (inK .i64 (i_1.1.1 + 1) ∧ again_1 ((i_1.1.1 + 1, ()), i_1.2))))) (br (i_1.2.1.2.1 == 0) (inK .i64 (i.1.1 + 1) ∧ (List.length i.1.2.2.1 + List.length [(i_1.2.1.1, i.1.1, 
 i_1.2.1.2.2.1, (i_1.2.1.2.2.2.1, i_1.2.1.2.2.2.2.1, i_1.2.1.2.2.2.2.2.1, ()), i_1.2.1.2.2.2.2.2.2)]) * 136 ≤ (140737488355328 : Nat) ∧ List.length i.1.2.2.1 + List.length [(i_1.2.1.1, i.1.1, i_1.2.1.2.2.1, (i_1.2.1.2.2.2.1, 
 i_1.2.1.2.2.2.2.1, i_1.2.1.2.2.2.2.2.1, ()), i_1.2.1.2.2.2.2.2.2)] ≤ 9223372036854775807 ∧ inK .i64 (i.1.2.1 + 1) ∧ again ((i.1.1 + 1, i.1.2.1 + 1, i.1.2.2.1 ++ [(i_1.2.1.1, i.1.1, i_1.2.1.2.2.1, (i_1.2.1.2.2.2.1, i_1.2.1.2.2.2.2.1, 
 i_1.2.1.2.2.2.2.2.1, ()), i_1.2.1.2.2.2.2.2.2)], ()), ())) ((List.length i.1.2.2.1 + List.length [(i_1.2.1.1, i_1.2.1.2.1, i_1.2.1.2.2.1, (i_1.2.1.2.2.2.1, i_1.2.1.2.2.2.2.1, i_1.2.1.2.2.2.2.2.1, ()), i_1.2.1.2.2.2.2.2.2)]) * 136 ≤ 
 (140737488355328 : Nat) ∧ List.length i.1.2.2.1 + List.length [(i_1.2.1.1, i_1.2.1.2.1, i_1.2.1.2.2.1, (i_1.2.1.2.2.2.1, i_1.2.1.2.2.2.2.1, i_1.2.1.2.2.2.2.2.1, ()), i_1.2.1.2.2.2.2.2.2)] ≤ 9223372036854775807 ∧ inK .i64 (i.1.2.1 + 1) ∧ 
 again ((i.1.1, i.1.2.1 + 1, i.1.2.2.1 ++ [(i_1.2.1.1, i_1.2.1.2.1, i_1.2.1.2.2.1, (i_1.2.1.2.2.2.1, i_1.2.1.2.2.2.2.1, i_1.2.1.2.2.2.2.2.1, ()), i_1.2.1.2.2.2.2.2.2)], ()), ())))) (((0 : Int), ()), ((ixD noTy l i.1.2.1).1, (0 : Int), (ixD 
 noTy l i.1.2.1).2.2.1, (ixD noTy l i.1.2.1).2.2.2.1.1, (ixD noTy l i.1.2.1).2.2.2.1.2.1, (ixD noTy l i.1.2.1).2.2.2.1.2.2.1, (ixD noTy l i.1.2.1).2.2.2.2), ()))) (Q (SV.v (S1.c (.o 0))) [.sl 36 noTy i.1.2.2.1])) (((1 : Int), (0 : Int), [], 
 ()), ())
theorem vc_numbered7_eq (l : List (noTy).den) (Q : SV → List HO → Prop) : vFun XB1085 ⟨[(5, ⟨[(4, .int .i64), (5, .int .i64), (3, .own 36 noTy)], []⟩), (10, ⟨[(7, .int .i64)], [(2, .cells 36 shNode)]⟩)], []⟩ Tryz.f79 [.c (.d noTy l)] [] Q = vc_numbered7 l Q := by kernel_rfl
theorem w_numbered7 : ∀ args H Q, c_numbered7 args H Q → Wp Inv Tryz.prog 79 args H Q := by
 intro args H Q h
 unfold c_numbered7 at h
 split at h
 rotate_left
 ·exact h.elim
 rename_i cl
 split at h
 rotate_left
 ·exact h.elim
 rename_i l hl
 refine Wp.said (args' := [.c (.d noTy l)]) (fun E g => RelVs.cons1 (of_list hl) (fun _ h => h)) ?_
 clear hl
 refine Wp.enter (X := XB1085) XB1085_ok ⟨[(5, ⟨[(4, .int .i64), (5, .int .i64), (3, .own 36 noTy)], []⟩), (10, ⟨[(7, .int .i64)], [(2, .cells 36 shNode)]⟩)], []⟩ (fn := Tryz.f79) (by kernel_rfl) ?_
 have hv := vc_numbered7_eq l Q
 rw [show vFun _ _ _ _ _ _ = _ from hv]
 unfold vc_numbered7
 clear hv
 obtain ⟨hl, h⟩ := h
 intro _
 refine LoopP.intro (fun i => 0 ≤ i.1.2.1 ∧ i.1.2.1 ≤ l.length ∧ i.1.1 = ((numM (l.take i.1.2.1.toNat) []).length : Int) + 1 ∧ i.1.2.2.1 = numGo (l.take i.1.2.1.toNat) []) (fun i => l.length - i.1.2.1.toNat) ⟨by simp, by simp, by simp [numM], by simp [numGo]⟩ ?_
 rintro ⟨⟨nx, i, out, _⟩, _⟩ ⟨h0, h1, h2, h3⟩
 simp only at h0 h1 h2 h3 ⊢
 refine fun _ => br_of (fun hc => ?_) (fun hc => ?_)
 ·have hc : i < (l.length : Int) := of_decide_eq_true hc
  have e1 : l.take (i + 1).toNat = l.take i.toNat ++ [ixD noTy l i] := take_ixD (e := noTy) h0 hc
  have hml := numM_len (l.take i.toNat) []
  rw [List.length_take, List.length_nil] at hml
  have hol : out.length = i.toNat := by rw [h3, numGo_len, List.length_take]; omega
  generalize hx : ixD noTy l i = x at *
  have fin : ∀ (v nx' : Int), (Kk.get .int (numM (l.take i.toNat) []) x.2.1 = some v ∧ nx' = nx ∨ (Kk.get .int (numM (l.take i.toNat) []) x.2.1 = none ∧ v = nx ∧ nx' = nx + 1)) → (0 ≤ i + 1 ∧ i + 1 ≤ (l.length : Int) ∧ nx' = ((numM (l.take (i + 1).toNat) []).length : Int) + 1 ∧ out ++ [NoD.setI x v] = numGo (l.take (i + 1).toNat) []) ∧ l.length - (i + 1).toNat < l.length - i.toNat := fun v nx' hv => by
   obtain ⟨n1, n2⟩ := num_snoc (L := l.take i.toNat) (x := x) (v := v) (by
    rcases hv with ⟨a, _⟩ | ⟨a, b, _⟩
    ·exact .inl a
    ·exact .inr ⟨a, by rw [b, h2]⟩)
   rw [e1, n1, n2, h3]
   refine ⟨⟨by omega, by omega, ?_, rfl⟩, by omega⟩
   rcases hv with ⟨a, b⟩ | ⟨a, _, b⟩
   ·rw [if_neg (by rw [a]; simp), b, h2]
   ·rw [if_pos a, b, h2]
  refine ⟨h0, hc, fun _ => ?_⟩
  refine LoopP.intro (fun k => 0 ≤ k.1.1 ∧ k.1.1 ≤ i ∧ ∃ v : Int, k.2.1 = (x.1, v, x.2.2.1, x.2.2.2.1.1, x.2.2.2.1.2.1, x.2.2.2.1.2.2.1, x.2.2.2.2) ∧ ((v = 0 ∧ ∀ y ∈ l.take k.1.1.toNat, y.2.1 ≠ x.2.1) ∨ Kk.get .int (numM (l.take i.toNat) []) x.2.1 = some v)) (fun k => i.toNat - k.1.1.toNat) ⟨by simp, h0, 0, rfl, .inl ⟨rfl, by simp⟩⟩ ?_
  rintro ⟨⟨k, _⟩, _, _⟩ ⟨k0, k1, v, rfl, k2⟩
  simp only at k0 k1 k2 ⊢
  refine br_of (fun hk => ?_) (fun hk => ?_)
  ·have hk : k < i := of_decide_eq_true hk
   have hkl : k < (l.length : Int) := by omega
   have hko : k < (out.length : Int) := by omega
   have e2 : l.take (k + 1).toNat = l.take k.toNat ++ [ixD noTy l k] := take_ixD (e := noTy) k0 hkl
   refine ⟨k0, hkl, fun _ => ⟨h0, hc, fun _ => br_of (fun hd => ⟨k0, hko, k0, hko, fun _ => ⟨by unfold inK; omega, ⟨by omega, by omega, (ixD noTy out k).2.1, rfl, .inr ?_⟩, by omega⟩⟩) (fun hd => ⟨by unfold inK; omega, ⟨by omega, by omega, v, rfl, ?_⟩, by omega⟩)⟩⟩
   ·have hd : (ixD noTy l k).2.1 = x.2.1 := eq_of_beq hd
    have := num_ix (L := l.take i.toNat) (j := k) k0 (by rw [List.length_take]; omega)
    rw [ixD_get (e := noTy) k0 (by rw [List.length_take]; omega), List.getElem_take, ← ixD_get (e := noTy) k0 hkl, hd] at this
    rw [this, h3]
   ·rcases k2 with ⟨k2, k3⟩ | k2
    ·refine .inl ⟨k2, fun y hy => ?_⟩
     rw [e2] at hy
     rcases List.mem_append.1 hy with hy | hy
     ·exact k3 y hy
     ·obtain rfl := List.mem_singleton.1 hy
      simpa using hd
    ·exact .inr k2
  ·have hk : ¬ k < i := of_decide_eq_false hk
   obtain rfl : k = i := by omega
   refine br_of (fun hd => ?_) (fun hd => ?_)
   ·have hd : v = 0 := eq_of_beq hd
    have hn : Kk.get .int (numM (l.take k.toNat) []) x.2.1 = none := by
     rcases k2 with ⟨_, k3⟩ | k2
     ·exact (num_key (l.take k.toNat)).2 ⟨rfl, k3⟩
     ·have := num_pos (l.take k.toNat) (m := []) (fun _ _ q => by cases q) _ _ k2
      omega
    exact ⟨by unfold inK; omega, by simp only [List.length_singleton]; omega, by simp only [List.length_singleton]; omega, by unfold inK; omega, fin nx (nx + 1) (.inr ⟨hn, rfl, rfl⟩)⟩
   ·have hd : v ≠ 0 := by simpa using hd
    exact ⟨by simp only [List.length_singleton]; omega, by simp only [List.length_singleton]; omega, by unfold inK; omega, fin v nx (.inl ⟨k2.resolve_left fun q => hd q.1, rfl⟩)⟩
 ·have hc : ¬ i < (l.length : Int) := of_decide_eq_false hc
  rw [List.take_of_length_le (by omega)] at h3
  rw [h3]; exact h
theorem sameN_self : ∀ a : List ByteArray, sameN a a = true
 | [] => rfl
 | x :: a => by unfold sameN; rw [sEq_iff.2 rfl, sameN_self a]; rfl
theorem alikeXs_self : ∀ a : List XaD, alikeXs a a = true
 | [] => rfl
 | x :: a => by unfold alikeXs alikeX eqB; rw [sEq_iff.2 rfl, sEq_iff.2 rfl, alikeXs_self a]; rfl
theorem alikeN_self (x : NoD) : alikeN x x = true := by unfold alikeN eqB; simp [sEq_iff.2, alikeXs_self]
def c_same7 : Ct
 | [.v (.c ca), .v (.c cb)], [], Q => (match (Ty.sl noTy).of [ca] with
  | some (a, []) => (match (Ty.sl noTy).of [cb] with
  | some (b, []) => a = b ∧ Q (.bool true) []
  | _ => False)
  | _ => False)
 | _, _, _ => False
noncomputable def XB1086 : Vx := { P := Tryz.prog, ct := (75, c_ksameR) :: (76, c_kalikeR) :: XB1085.ct, ty := tyTab, hold := [] }
theorem XB1086_ok : CtOk Inv Tryz.prog XB1086.ct := CtOk.cons w_ksameR (CtOk.cons w_kalikeR (XB1085_ok))
def vc_same7 : (List (noTy).den) → (List (noTy).den) → (SV → List HO → Prop) → Prop :=
 fun a b Q => List.length a ≤ 9223372036854775807 → List.length b ≤ 9223372036854775807 → List.length a ≤ 9223372036854775807 → List.length b ≤ 9223372036854775807 → br ((a.length : Int) != (b.length : Int)) (Q (.v (.c (.k (.bool false)))) 
 []) (LoopP (fun i again => List.length a ≤ 9223372036854775807 → br (decide (i.1.1 < (a.length : Int))) (0 ≤ i.1.1 ∧ i.1.1 < (a.length : Int) ∧ (Ty.ok noTy (ixD noTy a i.1.1) → 0 ≤ i.1.1 ∧ i.1.1 < (b.length : Int) ∧ (Ty.ok noTy (ixD noTy b 
 i.1.1) → 0 ≤ i.1.1 ∧ i.1.1 < (a.length : Int) ∧ (Ty.ok noTy (ixD noTy a i.1.1) → 0 ≤ i.1.1 ∧ i.1.1 < (b.length : Int) ∧ (Ty.ok noTy (ixD noTy b i.1.1) → br (!sameN (ixD noTy a i.1.1).1 (ixD noTy b i.1.1).1) (Q (.v (.c (.k (.bool false)))) 
 []) (br (!alikeN (ixD noTy a i.1.1) (ixD noTy b i.1.1)) (Q (.v (.c (.k (.bool false)))) []) (0 ≤ i.1.1 ∧ i.1.1 < (a.length : Int) ∧ (Ty.ok noTy (ixD noTy a i.1.1) → 0 ≤ i.1.1 ∧ i.1.1 < (b.length : Int) ∧ (Ty.ok noTy (ixD noTy b i.1.1) → br 
 ((ixD noTy a i.1.1).2.1 != (ixD noTy b i.1.1).2.1) (Q (.v (.c (.k (.bool false)))) []) (inK .i64 (i.1.1 + 1) ∧ again ((i.1.1 + 1, ()), ()))))))))))) (Q (.v (.c (.k (.bool true)))) [])) (((0 : Int), ()), ()))
theorem vc_same7_eq (a : List (noTy).den) (b : List (noTy).den) (Q : SV → List HO → Prop) : vFun XB1086 ⟨[(5, ⟨[(5, .int .i64)], []⟩)], []⟩ Tryz.f28 [.c (.d noTy a), .c (.d noTy b)] [] Q = vc_same7 a b Q := by kernel_rfl
theorem w_same7 : ∀ args H Q, c_same7 args H Q → Wp Inv Tryz.prog 28 args H Q := by
 intro args H Q h
 unfold c_same7 at h
 split at h
 rotate_left
 ·exact h.elim
 rename_i ca cb
 split at h
 rotate_left
 ·exact h.elim
 rename_i a ha
 split at h
 rotate_left
 ·exact h.elim
 rename_i b hb
 refine Wp.said (args' := [.c (.d noTy a), .c (.d noTy b)]) (fun E g => RelVs.cons1 (of_list ha) (RelVs.cons1 (of_list hb) (fun _ h => h))) ?_
 clear ha hb
 refine Wp.enter (X := XB1086) XB1086_ok ⟨[(5, ⟨[(5, .int .i64)], []⟩)], []⟩ (fn := Tryz.f28) (by kernel_rfl) ?_
 have hv := vc_same7_eq a b Q
 rw [show vFun _ _ _ _ _ _ = _ from hv]
 unfold vc_same7
 obtain ⟨rfl, h⟩ := h
 clear hv
 intro _ _ _ _
 refine br_of (fun h1 => by simp at h1) (fun _ => ?_)
 refine LoopP.intro (fun i => 0 ≤ i.1.1) (fun i => a.length - i.1.1.toNat) (Int.le_refl _) ?_
 rintro ⟨⟨k, _⟩, _⟩ k0
 simp only at k0 ⊢
 rw [sameN_self, alikeN_self]
 refine fun _ => br_of (fun hc => ?_) (fun _ => h)
 have hc : k < (a.length : Int) := of_decide_eq_true hc
 refine ⟨k0, hc, fun _ => ⟨k0, hc, fun _ => ⟨k0, hc, fun _ => ⟨k0, hc, fun _ => br_of (fun h1 => by cases h1) (fun _ => br_of (fun h1 => by cases h1) (fun _ => ⟨k0, hc, fun _ => ⟨k0, hc, fun _ => br_of (fun h1 => by simp at h1) (fun _ => ⟨by unfold inK; omega, by omega, by omega⟩)⟩⟩))⟩⟩⟩⟩
def c_canon : Ct
 | [.v (.c cl)], [], Q => (match (Ty.sl noTy).of [cl] with
  | some (l, []) => (l.length : Int) ≤ 1000 ∧ ∀ L' : List NoD, L'.Perm l → L'.Pairwise (fun x y => ¬ cmpL y.1 x.1 < 0) → Q (.c (.o 0)) [.sl 36 noTy (numGo L' [])]
  | _ => False)
 | _, _, _ => False
noncomputable def XB1087 : Vx := { P := Tryz.prog, ct := [(80, c_sorted7), (79, c_numbered7)], ty := tyTab, hold := [79] }
theorem XB1087_ok : CtOk Inv Tryz.prog XB1087.ct := CtOk.cons w_sorted7 (CtOk.cons w_numbered7 (CtOk.nil _ _))
def vc_canon : (List (noTy).den) → (SV → List HO → Prop) → Prop :=
 fun l Q => List.length l ≤ 9223372036854775807 → (l.length : Int) ≤ (1000 : Int) ∧ ∀ (L' : List NoD), List.Perm L' l → List.Pairwise (fun x y => ¬cmpL y.1 x.1 < 0) L' → (↑(List.length L') : Int) ≤ (1000 : Int) ∧ Q (SV.v (S1.c (.o 0))) [.sl 
 36 noTy (numGo L' [])]
theorem vc_canon_eq (l : List (noTy).den) (Q : SV → List HO → Prop) : vFun XB1087 ⟨[], []⟩ Tryz.f30 [.c (.d noTy l)] [] Q = vc_canon l Q := by kernel_rfl
theorem w_canon : ∀ args H Q, c_canon args H Q → Wp Inv Tryz.prog 30 args H Q := by
 intro args H Q h
 unfold c_canon at h
 split at h
 rotate_left
 ·exact h.elim
 rename_i cl
 split at h
 rotate_left
 ·exact h.elim
 rename_i l hl
 refine Wp.said (args' := [.c (.d noTy l)]) (fun E g => RelVs.cons1 (of_list hl) (fun _ h => h)) ?_
 clear hl
 refine Wp.enter (X := XB1087) XB1087_ok ⟨[], []⟩ (fn := Tryz.f30) (by kernel_rfl) ?_
 have hv := vc_canon_eq l Q
 rw [show vFun _ _ _ _ _ _ = _ from hv]
 unfold vc_canon
 clear hv
 obtain ⟨hl, h⟩ := h
 exact fun _ => ⟨hl, fun L' hp ho => ⟨by rw [hp.length_eq]; exact hl, h L' hp ho⟩⟩
end Go.Proofs

namespace Go.Proofs
open Go Go.Lm Go.RowKit
set_option maxRecDepth 1000000
def c_node : Ct
 | [.v (.c (.ifc 26 (.p 0 0))), .v (.c (.k (.int .i64 r)))], [.ab (.upr ⟨84, 81, 3, 9⟩ Y)], Q => Y.Ok ∧ Y.atE r = 0 ∧ Q (.tup [.agg (noTy.cells (Y.nodeD r)), .c (.k (.int .i64 0))]) [.ab (.upr ⟨84, 81, 3, 9⟩ Y)]
 | _, _, _ => False
noncomputable def XB1288 : Vx := { P := Tryz.prog, ct := [(33, c_stat), (25, c_xattrs), (24, c_read), (97, c_target)], ty := tyTab, hold := [] }
theorem XB1288_ok : CtOk Inv Tryz.prog XB1288.ct := CtOk.cons w_stat (CtOk.cons w_xattrs (CtOk.cons w_read (CtOk.cons w_target (CtOk.nil _ _))))
def vc_node : (Int) → (UpY) → (SV → List HO → Prop) → Prop :=
 fun r Y Q => inK .i64 r → UpY.Ok Y ∧ (inK .i64 (UpY.statD Y r).1 → inK .i64 (UpY.statD Y r).2.1.1 → inK .i64 (UpY.statD Y r).2.1.2.1 → inK .i64 (UpY.statD Y r).2.1.2.2.1 → inK .i64 (UpY.statD Y r).2.2.1 → inK .i64 (UpY.statD Y r).2.2.2.1 → 
 inK .i64 (UpY.atE Y r) → br (UpY.atE Y r != 0) (Q (SV.tup [S1.agg [.k (.slice none 0 0), .k (.int .i64 0), .k (.int .i64 0), .k (.int .i64 0), .k (.int .i64 0), .k (.int .i64 0), .k (.slice none 0 0), .k (.string (ByteArray.mk #[])), .k 
 (.slice none 0 0), .k (.bool false)], .c (.k (.int .i64 (UpY.atE Y r)))]) [.ab (.upr ⟨84, 81, 3, 9⟩ Y)]) (UpY.Ok Y ∧ (inK .i64 (UpY.atE Y r) → br (UpY.atE Y r != 0) (Q (SV.tup [S1.agg [.k (.slice none 0 0), .k (.int .i64 0), .k (.int .i64 
 (UpY.statD Y r).1), .k (.int .i64 (UpY.statD Y r).2.1.1), .k (.int .i64 (UpY.statD Y r).2.1.2.1), .k (.int .i64 (UpY.statD Y r).2.1.2.2.1), .k (.slice none 0 0), .k (.string (ByteArray.mk #[])), .o 1, .k (.bool false)], .c (.k (.int .i64 
 (UpY.atE Y r)))]) [.ab (.upr ⟨84, 81, 3, 9⟩ Y), .sl 71 xaTy (UpY.xattrsD Y r)]) (br ((UpY.statD Y r).1 == 2) (UpY.Ok Y ∧ (inK .i64 (UpY.readE Y r (0 : Int) (4096 : Int)) → Q (SV.tup [S1.agg [.k (.slice none 0 0), .k (.int .i64 0), .k (.int 
 .i64 (UpY.statD Y r).1), .k (.int .i64 (UpY.statD Y r).2.1.1), .k (.int .i64 (UpY.statD Y r).2.1.2.1), .k (.int .i64 (UpY.statD Y r).2.1.2.2.1), .o 1, .k (.string (ByteArray.mk #[])), .o 2, .k (.bool false)], .c (.k (.int .i64 (UpY.readE Y 
 r (0 : Int) (4096 : Int))))]) [.ab (.upr ⟨84, 81, 3, 9⟩ Y), .sl 5 Ty.u8 (UpY.readD Y r (0 : Int) (4096 : Int)), .sl 71 xaTy (UpY.xattrsD Y r)])) (br ((UpY.statD Y r).1 == 3) (UpY.Ok Y ∧ (ByteArray.size (UpY.targetD Y r) ≤ 
 9223372036854775807 → inK .i64 (UpY.targetE Y r) → Q (SV.tup [S1.agg [.k (.slice none 0 0), .k (.int .i64 0), .k (.int .i64 (UpY.statD Y r).1), .k (.int .i64 (UpY.statD Y r).2.1.1), .k (.int .i64 (UpY.statD Y r).2.1.2.1), .k (.int .i64 
 (UpY.statD Y r).2.1.2.2.1), .k (.slice none 0 0), .k (.string (UpY.targetD Y r)), .o 1, .k (.bool false)], .c (.k (.int .i64 (UpY.targetE Y r)))]) [.ab (.upr ⟨84, 81, 3, 9⟩ Y), .sl 71 xaTy (UpY.xattrsD Y r)])) (Q (SV.tup [S1.agg [.k (.slice 
 none 0 0), .k (.int .i64 0), .k (.int .i64 (UpY.statD Y r).1), .k (.int .i64 (UpY.statD Y r).2.1.1), .k (.int .i64 (UpY.statD Y r).2.1.2.1), .k (.int .i64 (UpY.statD Y r).2.1.2.2.1), .k (.slice none 0 0), .k (.string (ByteArray.mk #[])), .o 
 1, .k (.bool false)], .c (.k (.int .i64 (UpY.atE Y r)))]) [.ab (.upr ⟨84, 81, 3, 9⟩ Y), .sl 71 xaTy (UpY.xattrsD Y r)]))))))
theorem vc_node_eq (r : Int) (Y : UpY) (Q : SV → List HO → Prop) : vFun XB1288 ⟨[], []⟩ Tryz.f116 [.c (.ifc 26 (.p 0 0)), .int r] [.ab (.upr ⟨84, 81, 3, 9⟩ Y)] Q = vc_node r Y Q := by kernel_rfl
theorem w_node : ∀ args H Q, c_node args H Q → Wp Inv Tryz.prog 116 args H Q := by
 intro args H Q h
 unfold c_node at h
 split at h
 rotate_left
 ·exact h.elim
 rename_i r Y
 refine (fun hh => Wp.sel (Wp.res (Wp.hold1 (Wp.hold1 hh)))) ?_
 refine Wp.enter (X := XB1288) XB1288_ok ⟨[], []⟩ (fn := Tryz.f116) (by kernel_rfl) ?_
 refine Eq.mpr (vc_node_eq r Y _) ?_
 unfold vc_node
 obtain ⟨hp, h0, h⟩ := h
 obtain ⟨t1, t2, t3⟩ := nodeD_told hp.wf h0
 intro _
 refine ⟨hp, fun _ _ _ _ _ _ _ => br_of (fun q => by rw [h0] at q; cases q) (fun _ => ⟨hp, fun _ => br_of (fun q => by rw [h0] at q; cases q) (fun _ => br_of (fun hk => ⟨hp, fun _ => ?_⟩) (fun hk => br_of (fun hk3 => ⟨hp, fun _ _ => ?_⟩) (fun hk3 => ?_)))⟩)⟩
 ·obtain ⟨a1, a2⟩ := t1 (eq_of_beq hk)
  rw [a2] at h
  rw [a1]
  exact .inr ⟨1, _, .u8, _, rfl, .inr ⟨2, _, xaTy, _, rfl, _, relV_agg2 fun _ _ _ => relCs_cons (fun _ => relC_nil (e := .str)) fun _ h => h, [0], rfl, by simp, by simp, h⟩⟩
 ·obtain ⟨a1, a2⟩ := t2 (eq_of_beq hk3)
  rw [a2] at h
  rw [a1]
  exact .inl (.inr ⟨1, _, xaTy, _, rfl, _, relV_agg2 fun _ _ _ => relCs_cons (fun _ => relC_nil (e := .str)) fun _ => relCs_cons (fun _ h => h) fun _ => relCs_cons (fun _ h => h) fun _ => relCs_cons (fun _ h => h) fun _ => relCs_cons (fun _ h => h) fun _ => relCs_cons (fun _ h => h) fun _ => relCs_cons (fun _ => relC_nil (e := .u8)) fun _ h => h, [0], rfl, by simp, by simp, h⟩)
 ·have a2 := t3 (by simpa using hk) (by simpa using hk3)
  rw [a2] at h
  rw [h0]
  exact .inl (.inr ⟨1, _, xaTy, _, rfl, _, relV_agg2 fun _ _ _ => relCs_cons (fun _ => relC_nil (e := .str)) fun _ => relCs_cons (fun _ h => h) fun _ => relCs_cons (fun _ h => h) fun _ => relCs_cons (fun _ h => h) fun _ => relCs_cons (fun _ h => h) fun _ => relCs_cons (fun _ h => h) fun _ => relCs_cons (fun _ => relC_nil (e := .u8)) fun _ h => h, [0], rfl, by simp, by simp, h⟩)
def c_sclone2 : Ct
 | [.v (.c cx)], [], Q => (match (Ty.sl Ty.str).of [cx] with
  | some (x, []) => x.length ≤ 1000 ∧ Q (.c (.o 0)) [.sl 9 .str x]
  | _ => False)
 | _, _, _ => False
noncomputable def XB1289 : Vx := { P := Tryz.prog, ct := [], ty := tyTab, hold := [] }
theorem XB1289_ok : CtOk Inv Tryz.prog XB1289.ct := CtOk.nil _ _
def vc_sclone2 : (List (Ty.str).den) → (SV → List HO → Prop) → Prop :=
 fun x Q => List.length x ≤ 9223372036854775807 → ∀ (c : Bool), (c = true → x = []) → br (if true = true then c else !c) (Q (.v (.c (.k (.slice none 0 0)))) []) ((0 + List.length x) * 16 ≤ (140737488355328 : Nat) ∧ 0 + List.length x ≤ 
 9223372036854775807 ∧ Q (SV.v (S1.c (.o 0))) [.sl 9 Ty.str ([] ++ x)])
theorem vc_sclone2_eq (x : List (Ty.str).den) (Q : SV → List HO → Prop) : vFun XB1289 ⟨[], []⟩ Tryz.f117 [.c (.d Ty.str x)] [] Q = vc_sclone2 x Q := by kernel_rfl
theorem w_sclone2 : ∀ args H Q, c_sclone2 args H Q → Wp Inv Tryz.prog 117 args H Q := by
 intro args H Q h
 unfold c_sclone2 at h
 split at h
 rotate_left
 ·exact h.elim
 rename_i cx
 split at h
 rotate_left
 ·exact h.elim
 rename_i x hx
 refine Wp.said (args' := [.c (.d Ty.str x)]) (fun E g => RelVs.cons1 (of_list hx) (fun _ h => h)) ?_
 clear hx
 refine Wp.ownNil (t := 9) (e := .str) ?_
 refine Wp.enter (X := XB1289) XB1289_ok ⟨[], []⟩ (fn := Tryz.f117) (by kernel_rfl) ?_
 refine Eq.mpr (vc_sclone2_eq x _) ?_
 unfold vc_sclone2
 intro _ c hc
 refine br_of (fun hb => .inr ⟨rfl, ?_⟩) (fun hb => ⟨by omega, by omega, .inl ?_⟩)
 ·have := hc (by simpa using hb)
  subst this
  exact h.2
 ·exact h.2
def c_upper : Ct
 | [.v (.c (.ifc 26 (.p 0 0)))], [.ab (.upr ⟨84, 81, 3, 9⟩ Y)], Q => Q (.tup [.c (.p 0 0), .c (.k (.bool true))]) [.ab (.upr ⟨84, 81, 3, 9⟩ Y)]
 | _, _, _ => False
noncomputable def XB1290 : Vx := { P := Tryz.prog, ct := XB1289.ct, ty := tyTab, hold := [] }
theorem XB1290_ok : CtOk Inv Tryz.prog XB1290.ct := XB1289_ok
def vc_upper : (UpY) → (SV → List HO → Prop) → Prop :=
 fun Y Q => Q (SV.tup [S1.c (.p 0 0), .c (.k (.bool true))]) [.ab (.upr ⟨84, 81, 3, 9⟩ Y)]
theorem vc_upper_eq (Y : UpY) (Q : SV → List HO → Prop) : vFun XB1290 ⟨[], []⟩ Tryz.f118 [.c (.ifc 26 (.p 0 0))] [.ab (.upr ⟨84, 81, 3, 9⟩ Y)] Q = vc_upper Y Q := by kernel_rfl
theorem w_upper : ∀ args H Q, c_upper args H Q → Wp Inv Tryz.prog 118 args H Q := by
 intro args H Q h
 unfold c_upper at h
 split at h
 rotate_left
 ·exact h.elim
 rename_i Y
 refine Wp.enter (X := XB1290) XB1290_ok ⟨[], []⟩ (fn := Tryz.f118) (by kernel_rfl) ?_
 have hv := vc_upper_eq Y Q
 rw [show vFun _ _ _ _ _ _ = _ from hv]
 unfold vc_upper
 exact h
def c_bopq : Ct
 | [.v (.c (.ifc 26 (.p 0 0))), .v (.c (.k (.int .i64 r)))], [.ab (.upr ⟨84, 81, 3, 9⟩ Y)], Q => Q (.bool (Y.opqD r)) [.ab (.upr ⟨84, 81, 3, 9⟩ Y)]
 | _, _, _ => False
noncomputable def XB1291 : Vx := { P := Tryz.prog, ct := (118, c_upper) :: (101, c_opq) :: XB1290.ct, ty := tyTab, hold := [] }
theorem XB1291_ok : CtOk Inv Tryz.prog XB1291.ct := CtOk.cons w_upper (CtOk.cons w_opq (XB1290_ok))
def vc_bopq : (Int) → (UpY) → (SV → List HO → Prop) → Prop :=
 fun r Y Q => inK .i64 r → True ∧ Q (.v (.c (.k (.bool (UpY.opqD Y r))))) [.ab (.upr ⟨84, 81, 3, 9⟩ Y)]
theorem vc_bopq_eq (r : Int) (Y : UpY) (Q : SV → List HO → Prop) : vFun XB1291 ⟨[], []⟩ Tryz.f74 [.c (.ifc 26 (.p 0 0)), .int r] [.ab (.upr ⟨84, 81, 3, 9⟩ Y)] Q = vc_bopq r Y Q := by kernel_rfl
theorem w_bopq : ∀ args H Q, c_bopq args H Q → Wp Inv Tryz.prog 74 args H Q := by
 intro args H Q h
 unfold c_bopq at h
 split at h
 rotate_left
 ·exact h.elim
 rename_i r Y
 refine Wp.enter (X := XB1291) XB1291_ok ⟨[], []⟩ (fn := Tryz.f74) (by kernel_rfl) ?_
 have hv := vc_bopq_eq r Y Q
 rw [show vFun _ _ _ _ _ _ = _ from hv]
 unfold vc_bopq
 exact fun _ => ⟨trivial, h⟩
end Go.Proofs

namespace Go.Proofs
open Go Go.Lm Go.RowKit
set_option maxRecDepth 1000000
def c_below (n : Nat) : Ct
 | [.v (.c (.k (.int .i64 r))), .v (.c cp), .v (.c (.p 0 0)), .v (.c (.p 2 0)), .v (.c (.p 4 0)), .v (.c (.p 6 0))], [.cells 114 [.ifc 26 (.p 1 0)], .ab (.upr ⟨84, 81, 3, 9⟩ Y), .cells 107 [.m 3], .map 3 .int (.int .i64) m, .cells 48 [.o 5], .sl 36 (.pair (.sl .str) (.pair (.int .i64) (.pair (.int .i64) (.pair (.pair (.int .i64) (.pair (.int .i64) (.pair (.int .i64) .unit))) (.pair (.sl .u8) (.pair .str (.pair (.sl (.pair .str (.pair (.sl .u8) .unit))) (.pair .bool .unit)))))))) out, .cells 144 [.fn 115 [.p 0 0, .p 2 0, .p 4 0, .p 6 0]]], Q => (match (Ty.sl Ty.str).of [cp] with
  | some (p, []) => Y.Ok ∧ Y.Tall n r ∧ Y.atE r = 0 ∧ p.length + n ≤ 900 ∧ out.length + (Y.rows n r p).length ≤ 100000 ∧ m.length + (Y.rows n r p).length ≤ 100000 ∧ Q (.c (.k (.int .i64 0))) [.cells 114 [.ifc 26 (.p 1 0)], .ab (.upr ⟨84, 81, 3, 9⟩ Y), .cells 107 [.m 3], .map 3 .int (.int .i64) (numM (Y.rows n r p) m), .cells 48 [.o 7], .gone, .cells 144 [.fn 115 [.p 0 0, .p 2 0, .p 4 0, .p 6 0]], .sl 36 noTy (out ++ numGo (Y.rows n r p) m)]
  | _ => False)
 | _, _, _ => False
noncomputable def Xbelow (n : Nat) : Vx := { P := Tryz.prog, ct := [(115, (c_below n)), (116, c_node), (117, c_sclone2), (96, c_list)], ty := tyTab, hold := [115] }
theorem Xbelow_ok (n : Nat) (hn : ∀ args H Q, c_below n args H Q → Wp Inv Tryz.prog 115 args H Q) : CtOk Inv Tryz.prog (Xbelow n).ct := CtOk.cons hn (CtOk.cons w_node (CtOk.cons w_sclone2 (CtOk.cons w_list (CtOk.nil _ _))))
def vc_below : Nat → Int → List ByteArray → UpY → List (Int × Int) → List NoD → (SV → List HO → Prop) → Prop :=
 fun n r p Y m out Q => inK .i64 r → List.length p ≤ 9223372036854775807 → UpY.Ok Y ∧ UpY.atE Y r = (0 : Int) ∧ (List.length (UpY.nodeD Y r).1 ≤ 9223372036854775807 → inK .i64 (UpY.nodeD Y r).2.1 → inK .i64 (UpY.nodeD Y r).2.2.1 → inK .i64 
 (UpY.nodeD Y r).2.2.2.1.1 → inK .i64 (UpY.nodeD Y r).2.2.2.1.2.1 → inK .i64 (UpY.nodeD Y r).2.2.2.1.2.2.1 → List.length (UpY.nodeD Y r).2.2.2.2.1 ≤ 9223372036854775807 → ByteArray.size (UpY.nodeD Y r).2.2.2.2.2.1 ≤ 9223372036854775807 → 
 List.length (UpY.nodeD Y r).2.2.2.2.2.2.1 ≤ 9223372036854775807 → inK .i64 0 → JoinP (fun k => Ty.ok (Ty.int IntKind.i64) (Option.getD (Kk.get Kk.int m r) (0 : Int)) → br (!Option.isSome (Kk.get Kk.int m r)) (List.length m ≤ 
 9223372036854775807 → inK .i64 ((m.length : Int) + 1) ∧ List.length m < 9223372036854775807 ∧ k ((), Kk.put Kk.int m r ((m.length : Int) + 1), ())) (k ((), m, ()))) fun i => JoinP (fun k => (Ty.ok (Ty.int IntKind.i64) (Option.getD (Kk.get 
 Kk.int i.2.1 r) (0 : Int)) → k ((), (p, Option.getD (Kk.get Kk.int i.2.1 r) (0 : Int), (UpY.nodeD Y r).2.2.1, (UpY.nodeD Y r).2.2.2.1.1, (UpY.nodeD Y r).2.2.2.1.2.1, (UpY.nodeD Y r).2.2.2.1.2.2.1, (UpY.nodeD Y r).2.2.2.2), ())) ∧ (Ty.ok 
 (Ty.int IntKind.i64) (Option.getD (Kk.get Kk.int i.2.1 r) (0 : Int)) → k ((), (p, Option.getD (Kk.get Kk.int i.2.1 r) (0 : Int), (UpY.nodeD Y r).2.2.1, (UpY.nodeD Y r).2.2.2.1.1, (UpY.nodeD Y r).2.2.2.1.2.1, (UpY.nodeD Y r).2.2.2.1.2.2.1, 
 (UpY.nodeD Y r).2.2.2.2), ()))) fun i_1 => (List.length out + List.length [(i_1.2.1.1, i_1.2.1.2.1, i_1.2.1.2.2.1, (i_1.2.1.2.2.2.1, i_1.2.1.2.2.2.2.1, i_1.2.1.2.2.2.2.2.1, ()), i_1.2.1.2.2.2.2.2.2)]) * 136 ≤ (140737488355328 : Nat) ∧ 
 List.length out + List.length [(i_1.2.1.1, i_1.2.1.2.1, i_1.2.1.2.2.1, (i_1.2.1.2.2.2.1, i_1.2.1.2.2.2.2.1, i_1.2.1.2.2.2.2.2.1, ()), i_1.2.1.2.2.2.2.2.2)] ≤ 9223372036854775807 ∧ br (i_1.2.1.2.2.1 != 1) (Q (.v (.c (.k (.int .i64 0)))) 
 [.cells 114 [Cl.ifc (26 : TypeId) (.p 1 0)], .ab (.upr ⟨84, 81, 3, 9⟩ Y), .cells 107 [Cl.m (3 : Nat)], HO.map (3 : TypeId) Kk.int (Ty.int IntKind.i64) i.2.1, .cells 48 [.o 7], .gone, .cells 144 [Cl.fn (115 : FuncId) [.p 0 0, .p 2 0, .p 4 0, 
 .p 6 0]], .sl 36 noTy (out ++ [(i_1.2.1.1, i_1.2.1.2.1, i_1.2.1.2.2.1, (i_1.2.1.2.2.2.1, i_1.2.1.2.2.2.2.1, i_1.2.1.2.2.2.2.2.1, ()), i_1.2.1.2.2.2.2.2.2)])]) (UpY.Ok Y ∧ (inK .i64 (UpY.dirE Y r) → List.length (UpY.listD Y r) ≤ 
 9223372036854775807 → LoopP (fun i again => br (decide (i.1.1 < (↑(List.length (UpY.listD Y r)) : Int))) (0 ≤ i.1.1 ∧ i.1.1 < (↑(List.length (UpY.listD Y r)) : Int) ∧ 0 ≤ i.1.1 ∧ i.1.1 < (↑(List.length (UpY.listD Y r)) : Int) ∧ (Ty.ok xeTy 
 (ixD xeTy (UpY.listD Y r) i.1.1) → br (i.1.2.1 == 0) ((List.length p ≤ 1000 ∧ (List.length p + List.length [(ixD xeTy (UpY.listD Y r) i.1.1).1]) * 16 ≤ (140737488355328 : Nat) ∧ List.length p + List.length [(ixD xeTy (UpY.listD Y r) 
 i.1.1).1] ≤ 9223372036854775807 ∧ UpY.Ok i.2.2.1 ∧ UpY.Tall i.2.2.1 n (ixD xeTy (UpY.listD Y r) i.1.1).2.2.1 ∧ UpY.atE i.2.2.1 (ixD xeTy (UpY.listD Y r) i.1.1).2.2.1 = (0 : Int) ∧ List.length (p ++ [(ixD xeTy (UpY.listD Y r) i.1.1).1]) + n 
 ≤ 900 ∧ List.length i.2.2.2.2.2.1.1 + List.length (UpY.rows i.2.2.1 n (ixD xeTy (UpY.listD Y r) i.1.1).2.2.1 (p ++ [(ixD xeTy (UpY.listD Y r) i.1.1).1])) ≤ 100000 ∧ List.length i.2.2.2.2.1 + List.length (UpY.rows i.2.2.1 n (ixD xeTy 
 (UpY.listD Y r) i.1.1).2.2.1 (p ++ [(ixD xeTy (UpY.listD Y r) i.1.1).1])) ≤ 100000 ∧ (inK .i64 0 → inK .i64 (i.1.1 + 1) ∧ again ((i.1.1 + 1, (0 : Int), ()), ((), ()), i.2.2.1, ((), ()), numM (UpY.rows i.2.2.1 n (ixD xeTy (UpY.listD Y r) 
 i.1.1).2.2.1 (p ++ [(ixD xeTy (UpY.listD Y r) i.1.1).1])) i.2.2.2.2.1, (i.2.2.2.2.2.1.1 ++ numGo (UpY.rows i.2.2.1 n (ixD xeTy (UpY.listD Y r) i.1.1).2.2.1 (p ++ [(ixD xeTy (UpY.listD Y r) i.1.1).1])) i.2.2.2.2.1, ()), ((), ()), ()))) ∧ 
 List.length p ≤ 1000 ∧ (List.length p + List.length [(ixD xeTy (UpY.listD Y r) i.1.1).1]) * 16 ≤ (140737488355328 : Nat) ∧ List.length p + List.length [(ixD xeTy (UpY.listD Y r) i.1.1).1] ≤ 9223372036854775807 ∧ UpY.Ok i.2.2.1 ∧ UpY.Tall 
 i.2.2.1 n (ixD xeTy (UpY.listD Y r) i.1.1).2.2.1 ∧ UpY.atE i.2.2.1 (ixD xeTy (UpY.listD Y r) i.1.1).2.2.1 = (0 : Int) ∧ List.length (p ++ [(ixD xeTy (UpY.listD Y r) i.1.1).1]) + n ≤ 900 ∧ List.length i.2.2.2.2.2.1.1 + List.length (UpY.rows 
 i.2.2.1 n (ixD xeTy (UpY.listD Y r) i.1.1).2.2.1 (p ++ [(ixD xeTy (UpY.listD Y r) i.1.1).1])) ≤ 100000 ∧ List.length i.2.2.2.2.1 + List.length (UpY.rows i.2.2.1 n (ixD xeTy (UpY.listD Y r) i.1.1).2.2.1 (p ++ [(ixD xeTy (UpY.listD Y r) 
 i.1.1).1])) ≤ 100000 ∧ (inK .i64 0 → inK .i64 (i.1.1 + 1) ∧ again ((i.1.1 + 1, (0 : Int), ()), ((), ()), i.2.2.1, ((), ()), numM (UpY.rows i.2.2.1 n (ixD xeTy (UpY.listD Y r) i.1.1).2.2.1 (p ++ [(ixD xeTy (UpY.listD Y r) i.1.1).1])) 
 i.2.2.2.2.1, (i.2.2.2.2.2.1.1 ++ numGo (UpY.rows i.2.2.1 n (ixD xeTy (UpY.listD Y r) i.1.1).2.2.1 (p ++ [(ixD xeTy (UpY.listD Y r) i.1.1).1])) i.2.2.2.2.1, ()), ((), ()), ()))) (inK .i64 (i.1.1 + 1) ∧ again ((i.1.1 + 1, i.1.2), ((), ()), 
 i.2.2.1, ((), ()), i.2.2.2.2.1, i.2.2.2.2.2.1, ((), ()), ())))) (Q (.v (.c (.k (.int .i64 i.1.2.1)))) [.cells 114 [Cl.ifc (26 : TypeId) (.p 1 0)], .ab (.upr ⟨84, 81, 3, 9⟩ i.2.2.1), .cells 107 [Cl.m (3 : Nat)], HO.map (3 : TypeId) Kk.int 
 (Ty.int IntKind.i64) i.2.2.2.2.1, .cells 48 [.o 7], .gone, .cells 144 [Cl.fn (115 : FuncId) [.p 0 0, .p 2 0, .p 4 0, .p 6 0]], .sl 36 noTy i.2.2.2.2.2.1.1])) (((0 : Int), UpY.dirE Y r, ()), ((), ()), Y, ((), ()), i.2.1, (out ++ [(i_1.2.1.1, 
 i_1.2.1.2.1, i_1.2.1.2.2.1, (i_1.2.1.2.2.2.1, i_1.2.1.2.2.2.2.1, i_1.2.1.2.2.2.2.2.1, ()), i_1.2.1.2.2.2.2.2.2)], ()), ((), ()), ()))))
theorem vc_below_eq (n : Nat) (r : Int) (p : List ByteArray) (Y : UpY) (m : List (Int × Int)) (out : List NoD) (Q : SV → List HO → Prop) : vFun (Xbelow n) ⟨[(14, ⟨[(59, .int .i64), (10, .int .i64)], [(0, .cells 114 [.cst (.ifc 26 (.p 1 0))]), (1, .ab (.upr ⟨84, 81, 3, 9⟩)), (2, .cells 107 [.m 3]), (3, .map 3 .int (.int .i64)), (4, .cells 48 [.own 36 noTy]), (6, .cells 144 [.cst (.fn 115 [.p 0 0, .p 2 0, .p 4 0, .p 6 0])])]⟩)], [(8, ⟨[], [(3, .map 3 .int (.int .i64))]⟩), (9, ⟨[], [(7, .cells 36 shNode)]⟩)]⟩ Tryz.f115 [.c (.k (.int .i64 r)), .c (.d .str p), .c (.p 0 0), .c (.p 2 0), .c (.p 4 0), .c (.p 6 0)] [.cells 114 [.ifc 26 (.p 1 0)], .ab (.upr ⟨84, 81, 3, 9⟩ Y), .cells 107 [.m 3], .map 3 .int (.int .i64) m, .cells 48 [.o 5], .sl 36 noTy out, .cells 144 [.fn 115 [.p 0 0, .p 2 0, .p 4 0, .p 6 0]]] Q = vc_below n r p Y m out Q := by kernel_rfl
theorem w_below_s (n : Nat) (hn : ∀ args H Q, c_below n args H Q → Wp Inv Tryz.prog 115 args H Q) : ∀ args H Q, c_below (n + 1) args H Q → Wp Inv Tryz.prog 115 args H Q := by
 intro args H Q h
 unfold c_below at h
 split at h
 rotate_left
 ·exact h.elim
 rename_i r cp Y m out 
 split at h
 rotate_left
 ·exact h.elim
 rename_i p hcp
 refine Wp.said (args' := [.c (.k (.int .i64 r)), .c (.d .str p), .c (.p 0 0), .c (.p 2 0), .c (.p 4 0), .c (.p 6 0)]) (fun E g => RelVs.cons1 (fun _ h => h) (RelVs.cons1 (of_list hcp) (fun _ h => h))) ?_
 clear hcp
 refine Wp.enter (X := Xbelow n) (Xbelow_ok n hn) ⟨[(14, ⟨[(59, .int .i64), (10, .int .i64)], [(0, .cells 114 [.cst (.ifc 26 (.p 1 0))]), (1, .ab (.upr ⟨84, 81, 3, 9⟩)), (2, .cells 107 [.m 3]), (3, .map 3 .int (.int .i64)), (4, .cells 48 [.own 36 noTy]), (6, .cells 144 [.cst (.fn 115 [.p 0 0, .p 2 0, .p 4 0, .p 6 0])])]⟩)], [(8, ⟨[], [(3, .map 3 .int (.int .i64))]⟩), (9, ⟨[], [(7, .cells 36 shNode)]⟩)]⟩ (fn := Tryz.f115) (by kernel_rfl) ?_
 refine Eq.mpr (vc_below_eq n r p Y m out _) ?_
 unfold vc_below
 obtain ⟨hp, ht, h0, hd, ho, hm, hq⟩ := h
 have w := hp.wf
 rw [rows_succ] at ho hm hq
 generalize hx0 : ((p, r, (Y.nodeD r).2.2) : NoD) = x0 at ho hm hq
 generalize hF : (fun x : XeD => Y.rows n x.2.2.1 (p ++ [x.1])) = F at ho hm hq
 have x0i : x0.2.1 = r := by rw [← hx0]
 have na := num_app [x0] ((Y.listD r).flatMap F) m
 rw [List.singleton_append] at na
 rw [na.1, na.2, num_one, x0i] at hq
 rw [List.length_cons] at ho hm
 intro _ _
 refine ⟨hp, h0, fun _ _ _ _ _ _ _ _ _ _ => ?_⟩
 refine JoinP.intro (fun k => k.2.1 = numM [x0] m) ?_ ?_
 ·refine fun _ => br_of (fun hb => fun _ => ⟨by unfold inK; omega, by omega, ?_⟩) (fun hb => ?_)
  ·have hg : Kk.get .int m x0.2.1 = none := by rw [x0i]; simpa using hb
   show Kk.put .int m r _ = numM [x0] m
   rw [numM_none hg, x0i]; rfl
  ·have hg : (Kk.get .int m x0.2.1).isSome = true := by rw [x0i]; simpa using hb
   obtain ⟨k, hk⟩ := Option.isSome_iff_exists.1 hg
   exact (numM_some (r := []) hk).symm
 rintro ⟨_, m1, _⟩ hm1
 have hm1 : m1 = numM [x0] m := hm1
 subst hm1
 have hml := numM_len [x0] m
 rw [List.length_singleton] at hml
 refine JoinP.intro (fun k => k.2.1 = (p, (Kk.get .int (numM [x0] m) r).getD 0, x0.2.2.1, x0.2.2.2.1.1, x0.2.2.2.1.2.1, x0.2.2.2.1.2.2.1, x0.2.2.2.2)) ?_ ?_
 ·subst hx0
  exact ⟨fun _ => rfl, fun _ => rfl⟩
 rintro ⟨_, c, _⟩ hc
 have hc : c = _ := hc
 subst hc
 simp only
 have hnode : ((p, (Kk.get .int (numM [x0] m) r).getD 0, x0.2.2.1, (x0.2.2.2.1.1, x0.2.2.2.1.2.1, x0.2.2.2.1.2.2.1, ()), x0.2.2.2.2) : NoD) = NoD.setI x0 ((Kk.get .int (numM [x0] m) r).getD 0) := by subst hx0; rfl
 have hkd : x0.2.2.1 = (Y.nodeD r).2.2.1 := by rw [← hx0]
 rw [hnode]
 generalize NoD.setI x0 ((Kk.get .int (numM [x0] m) r).getD 0) = x1 at *
 refine ⟨(by simp only [List.length_singleton]; omega), (by simp only [List.length_singleton]; omega), br_of (fun hk => ?_) (fun hk => ?_)⟩
 ·have hnd : Y.listD r = [] := if_neg fun q => by
   rw [hkd, (nodeD_dir h0).2 q] at hk; cases hk
  rw [hnd] at hq
  simp only [List.flatMap_nil, numGo, numM, List.append_nil] at hq
  exact hq
 have hk1 : Y.dirE r = 0 := (nodeD_dir h0).1 (by rw [← hkd]; simpa using hk)
 refine ⟨hp, fun _ _ => ?_⟩
 rw [hk1]
 refine LoopP.intro (fun i => 0 ≤ i.1.1 ∧ i.1.1 ≤ (Y.listD r).length ∧ i.1.2.1 = 0 ∧ Y = i.2.2.1 ∧ i.2.2.2.2.1 = numM (((Y.listD r).take i.1.1.toNat).flatMap F) (numM [x0] m) ∧ i.2.2.2.2.2.1.1 = (out ++ [x1]) ++ numGo (((Y.listD r).take i.1.1.toNat).flatMap F) (numM [x0] m)) (fun i => (Y.listD r).length - i.1.1.toNat) ⟨by simp, by simp, rfl, rfl, by simp [numM], by simp [numGo]⟩ ?_
 rintro ⟨⟨i, e, _⟩, _, Y1, _, m1, ⟨o1, _⟩, _⟩ ⟨i0, i1, i2, i3, i4, i5⟩
 simp only at i0 i1 i2 i3 i4 i5
 subst i3 i2 i4 i5
 simp only
 refine br_of (fun hc => ?_) (fun hc => ?_)
 ·have hc : i < ((Y.listD r).length : Int) := of_decide_eq_true hc
  have et : (Y.listD r).take (i + 1).toNat = (Y.listD r).take i.toNat ++ [ixD xeTy (Y.listD r) i] := take_ixD (e := xeTy) i0 hc
  have hsp : Y.listD r = (Y.listD r).take i.toNat ++ (ixD xeTy (Y.listD r) i :: (Y.listD r).drop (i + 1).toNat) := by rw [← ixD_drop (e := xeTy) i0 hc, List.take_append_drop]
  have hmem : ixD xeTy (Y.listD r) i ∈ Y.listD r := ixD_mem (e := xeTy) i0 hc
  have hT : Y.tall n (ixD xeTy (Y.listD r) i).2.2.1 := ht.tall _ hmem
  obtain ⟨_, e', he', _, hxe⟩ := listD_mem.1 hmem
  have hat : Y.atE (ixD xeTy (Y.listD r) i).2.2.1 = 0 := by rw [hxe]; exact (w.ref e' he').2
  have hlen : ((Y.listD r).flatMap F).length = (((Y.listD r).take i.toNat).flatMap F).length + ((F (ixD xeTy (Y.listD r) i)).length + (((Y.listD r).drop (i + 1).toNat).flatMap F).length) := by
   conv => lhs; rw [hsp]
   rw [List.flatMap_append, List.flatMap_cons, List.length_append, List.length_append]
  generalize ixD xeTy (Y.listD r) i = x at *
  have hFx : Y.rows n x.2.2.1 (p ++ [x.1]) = F x := by rw [← hF]
  rw [hFx]
  have hml2 := numM_len (((Y.listD r).take i.toNat).flatMap F) (numM [x0] m)
  have hgl := numGo_len (((Y.listD r).take i.toNat).flatMap F) (numM [x0] m)
  have na2 := num_app (((Y.listD r).take i.toNat).flatMap F) (F x) (numM [x0] m)
  have fin : (0 ≤ i + 1 ∧ i + 1 ≤ ((Y.listD r).length : Int) ∧ (0 : Int) = 0 ∧ Y = Y ∧ numM (F x) (numM (((Y.listD r).take i.toNat).flatMap F) (numM [x0] m)) = numM (((Y.listD r).take (i + 1).toNat).flatMap F) (numM [x0] m) ∧ ((out ++ [x1]) ++ numGo (((Y.listD r).take i.toNat).flatMap F) (numM [x0] m)) ++ numGo (F x) (numM (((Y.listD r).take i.toNat).flatMap F) (numM [x0] m)) = (out ++ [x1]) ++ numGo (((Y.listD r).take (i + 1).toNat).flatMap F) (numM [x0] m)) ∧ (Y.listD r).length - (i + 1).toNat < (Y.listD r).length - i.toNat := by
   rw [et, List.flatMap_append, List.flatMap_singleton, na2.1, na2.2, List.append_assoc]
   exact ⟨⟨by omega, by omega, rfl, rfl, rfl, rfl⟩, by omega⟩
  refine ⟨i0, hc, i0, hc, fun _ => br_of (fun _ => ?_) (fun hb => by cases hb)⟩
  clear hq hxe hsp et na na2 hx0 hF hnode hmem
  obtain ⟨⟨_, _, _, _, f5, f6⟩, _⟩ := fin
  repeat' (first | exact hp | exact ⟨hT⟩ | exact hat | exact f5 | exact f6 | exact True.intro | apply And.intro | intro _)
  all_goals (first | omega | (unfold inK; omega) | (simp only [List.length_append, List.length_cons, List.length_nil]; omega))
 ·have hc : ¬ i < ((Y.listD r).length : Int) := of_decide_eq_false hc
  rw [List.take_of_length_le (by omega)]
  rw [← List.append_assoc] at hq
  exact hq
theorem w_below : ∀ (n : Nat) args H Q, c_below n args H Q → Wp Inv Tryz.prog 115 args H Q
 | 0 => by
  intro args H Q h
  unfold c_below at h
  split at h
  ·split at h
   ·exact (h.2.1.tall).elim
   ·exact h.elim
  ·exact h.elim
 | n + 1 => w_below_s n (w_below n)
end Go.Proofs

namespace Go.Proofs
open Go Go.Lm Go.RowKit
set_option maxRecDepth 1000000
def c_below0 (n : Nat) : Ct
 | [.v (.c (.k (.int .i64 r))), .v (.c cp), .v (.c (.p 0 0)), .v (.c (.p 2 0)), .v (.c (.p 4 0)), .v (.c (.p 5 0))], [.cells 114 [.ifc 26 (.p 1 0)], .ab (.upr ⟨84, 81, 3, 9⟩ Y), .cells 107 [.m 3], .map 3 .int (.int .i64) m, .cells 48 [.k (.slice none 0 0)], .cells 144 [.fn 115 [.p 0 0, .p 2 0, .p 4 0, .p 5 0]]], Q => (match (Ty.sl Ty.str).of [cp] with
  | some (p, []) => Y.Ok ∧ Y.Tall n r ∧ Y.atE r = 0 ∧ p.length + n ≤ 900 ∧ (Y.rows n r p).length ≤ 100000 ∧ m.length + (Y.rows n r p).length ≤ 100000 ∧ Q (.c (.k (.int .i64 0))) [.cells 114 [.ifc 26 (.p 1 0)], .ab (.upr ⟨84, 81, 3, 9⟩ Y), .cells 107 [.m 3], .map 3 .int (.int .i64) (numM (Y.rows n r p) m), .cells 48 [.o 6], .cells 144 [.fn 115 [.p 0 0, .p 2 0, .p 4 0, .p 5 0]], .sl 36 noTy (numGo (Y.rows n r p) m)]
  | _ => False)
 | _, _, _ => False
def vc_below0 : Nat → Int → List ByteArray → UpY → List (Int × Int) → (SV → List HO → Prop) → Prop :=
 fun n r p Y m Q => inK .i64 r → List.length p ≤ 9223372036854775807 → UpY.Ok Y ∧ UpY.atE Y r = (0 : Int) ∧ (List.length (UpY.nodeD Y r).1 ≤ 9223372036854775807 → inK .i64 (UpY.nodeD Y r).2.1 → inK .i64 (UpY.nodeD Y r).2.2.1 → inK .i64 
 (UpY.nodeD Y r).2.2.2.1.1 → inK .i64 (UpY.nodeD Y r).2.2.2.1.2.1 → inK .i64 (UpY.nodeD Y r).2.2.2.1.2.2.1 → List.length (UpY.nodeD Y r).2.2.2.2.1 ≤ 9223372036854775807 → ByteArray.size (UpY.nodeD Y r).2.2.2.2.2.1 ≤ 9223372036854775807 → 
 List.length (UpY.nodeD Y r).2.2.2.2.2.2.1 ≤ 9223372036854775807 → inK .i64 0 → JoinP (fun k => Ty.ok (Ty.int IntKind.i64) (Option.getD (Kk.get Kk.int m r) (0 : Int)) → br (!Option.isSome (Kk.get Kk.int m r)) (List.length m ≤ 
 9223372036854775807 → inK .i64 ((m.length : Int) + 1) ∧ List.length m < 9223372036854775807 ∧ k ((), Kk.put Kk.int m r ((m.length : Int) + 1), ())) (k ((), m, ()))) fun i => JoinP (fun k => (Ty.ok (Ty.int IntKind.i64) (Option.getD (Kk.get 
 Kk.int i.2.1 r) (0 : Int)) → k ((), (p, Option.getD (Kk.get Kk.int i.2.1 r) (0 : Int), (UpY.nodeD Y r).2.2.1, (UpY.nodeD Y r).2.2.2.1.1, (UpY.nodeD Y r).2.2.2.1.2.1, (UpY.nodeD Y r).2.2.2.1.2.2.1, (UpY.nodeD Y r).2.2.2.2), ())) ∧ (Ty.ok 
 (Ty.int IntKind.i64) (Option.getD (Kk.get Kk.int i.2.1 r) (0 : Int)) → k ((), (p, Option.getD (Kk.get Kk.int i.2.1 r) (0 : Int), (UpY.nodeD Y r).2.2.1, (UpY.nodeD Y r).2.2.2.1.1, (UpY.nodeD Y r).2.2.2.1.2.1, (UpY.nodeD Y r).2.2.2.1.2.2.1, 
 (UpY.nodeD Y r).2.2.2.2), ()))) fun i_1 => List.length [(i_1.2.1.1, i_1.2.1.2.1, i_1.2.1.2.2.1, (i_1.2.1.2.2.2.1, i_1.2.1.2.2.2.2.1, i_1.2.1.2.2.2.2.2.1, ()), i_1.2.1.2.2.2.2.2.2)] * (136 : Nat) ≤ (140737488355328 : Nat) ∧ br (i_1.2.1.2.2.1 
 != 1) (Q (.v (.c (.k (.int .i64 0)))) [.cells 114 [Cl.ifc (26 : TypeId) (.p 1 0)], .ab (.upr ⟨84, 81, 3, 9⟩ Y), .cells 107 [Cl.m (3 : Nat)], HO.map (3 : TypeId) Kk.int (Ty.int IntKind.i64) i.2.1, .cells 48 [.o 6], .cells 144 [Cl.fn (115 : 
 FuncId) [.p 0 0, .p 2 0, .p 4 0, .p 5 0]], .sl 36 noTy [(i_1.2.1.1, i_1.2.1.2.1, i_1.2.1.2.2.1, (i_1.2.1.2.2.2.1, i_1.2.1.2.2.2.2.1, i_1.2.1.2.2.2.2.2.1, ()), i_1.2.1.2.2.2.2.2.2)]]) (UpY.Ok Y ∧ (inK .i64 (UpY.dirE Y r) → List.length 
 (UpY.listD Y r) ≤ 9223372036854775807 → LoopP (fun i again => br (decide (i.1.1 < (↑(List.length (UpY.listD Y r)) : Int))) (0 ≤ i.1.1 ∧ i.1.1 < (↑(List.length (UpY.listD Y r)) : Int) ∧ 0 ≤ i.1.1 ∧ i.1.1 < (↑(List.length (UpY.listD Y r)) : 
 Int) ∧ (Ty.ok xeTy (ixD xeTy (UpY.listD Y r) i.1.1) → br (i.1.2.1 == 0) ((List.length p ≤ 1000 ∧ (List.length p + List.length [(ixD xeTy (UpY.listD Y r) i.1.1).1]) * 16 ≤ (140737488355328 : Nat) ∧ List.length p + List.length [(ixD xeTy 
 (UpY.listD Y r) i.1.1).1] ≤ 9223372036854775807 ∧ UpY.Ok i.2.2.1 ∧ UpY.Tall i.2.2.1 n (ixD xeTy (UpY.listD Y r) i.1.1).2.2.1 ∧ UpY.atE i.2.2.1 (ixD xeTy (UpY.listD Y r) i.1.1).2.2.1 = (0 : Int) ∧ List.length (p ++ [(ixD xeTy (UpY.listD Y r) 
 i.1.1).1]) + n ≤ 900 ∧ List.length i.2.2.2.2.2.1.1 + List.length (UpY.rows i.2.2.1 n (ixD xeTy (UpY.listD Y r) i.1.1).2.2.1 (p ++ [(ixD xeTy (UpY.listD Y r) i.1.1).1])) ≤ 100000 ∧ List.length i.2.2.2.2.1 + List.length (UpY.rows i.2.2.1 n 
 (ixD xeTy (UpY.listD Y r) i.1.1).2.2.1 (p ++ [(ixD xeTy (UpY.listD Y r) i.1.1).1])) ≤ 100000 ∧ (inK .i64 0 → inK .i64 (i.1.1 + 1) ∧ again ((i.1.1 + 1, (0 : Int), ()), ((), ()), i.2.2.1, ((), ()), numM (UpY.rows i.2.2.1 n (ixD xeTy 
 (UpY.listD Y r) i.1.1).2.2.1 (p ++ [(ixD xeTy (UpY.listD Y r) i.1.1).1])) i.2.2.2.2.1, (i.2.2.2.2.2.1.1 ++ numGo (UpY.rows i.2.2.1 n (ixD xeTy (UpY.listD Y r) i.1.1).2.2.1 (p ++ [(ixD xeTy (UpY.listD Y r) i.1.1).1])) i.2.2.2.2.1, ()), ((), 
 ()), ()))) ∧ List.length p ≤ 1000 ∧ (List.length p + List.length [(ixD xeTy (UpY.listD Y r) i.1.1).1]) * 16 ≤ (140737488355328 : Nat) ∧ List.length p + List.length [(ixD xeTy (UpY.listD Y r) i.1.1).1] ≤ 9223372036854775807 ∧ UpY.Ok i.2.2.1 
 ∧ UpY.Tall i.2.2.1 n (ixD xeTy (UpY.listD Y r) i.1.1).2.2.1 ∧ UpY.atE i.2.2.1 (ixD xeTy (UpY.listD Y r) i.1.1).2.2.1 = (0 : Int) ∧ List.length (p ++ [(ixD xeTy (UpY.listD Y r) i.1.1).1]) + n ≤ 900 ∧ List.length i.2.2.2.2.2.1.1 + List.length 
 (UpY.rows i.2.2.1 n (ixD xeTy (UpY.listD Y r) i.1.1).2.2.1 (p ++ [(ixD xeTy (UpY.listD Y r) i.1.1).1])) ≤ 100000 ∧ List.length i.2.2.2.2.1 + List.length (UpY.rows i.2.2.1 n (ixD xeTy (UpY.listD Y r) i.1.1).2.2.1 (p ++ [(ixD xeTy (UpY.listD 
 Y r) i.1.1).1])) ≤ 100000 ∧ (inK .i64 0 → inK .i64 (i.1.1 + 1) ∧ again ((i.1.1 + 1, (0 : Int), ()), ((), ()), i.2.2.1, ((), ()), numM (UpY.rows i.2.2.1 n (ixD xeTy (UpY.listD Y r) i.1.1).2.2.1 (p ++ [(ixD xeTy (UpY.listD Y r) i.1.1).1])) 
 i.2.2.2.2.1, (i.2.2.2.2.2.1.1 ++ numGo (UpY.rows i.2.2.1 n (ixD xeTy (UpY.listD Y r) i.1.1).2.2.1 (p ++ [(ixD xeTy (UpY.listD Y r) i.1.1).1])) i.2.2.2.2.1, ()), ((), ()), ()))) (inK .i64 (i.1.1 + 1) ∧ again ((i.1.1 + 1, i.1.2), ((), ()), 
 i.2.2.1, ((), ()), i.2.2.2.2.1, i.2.2.2.2.2.1, ((), ()), ())))) (Q (.v (.c (.k (.int .i64 i.1.2.1)))) [.cells 114 [Cl.ifc (26 : TypeId) (.p 1 0)], .ab (.upr ⟨84, 81, 3, 9⟩ i.2.2.1), .cells 107 [Cl.m (3 : Nat)], HO.map (3 : TypeId) Kk.int 
 (Ty.int IntKind.i64) i.2.2.2.2.1, .cells 48 [.o 6], .cells 144 [Cl.fn (115 : FuncId) [.p 0 0, .p 2 0, .p 4 0, .p 5 0]], .sl 36 noTy i.2.2.2.2.2.1.1])) (((0 : Int), UpY.dirE Y r, ()), ((), ()), Y, ((), ()), i.2.1, ([(i_1.2.1.1, i_1.2.1.2.1, 
 i_1.2.1.2.2.1, (i_1.2.1.2.2.2.1, i_1.2.1.2.2.2.2.1, i_1.2.1.2.2.2.2.2.1, ()), i_1.2.1.2.2.2.2.2.2)], ()), ((), ()), ()))))
theorem vc_below0_eq (n : Nat) (r : Int) (p : List ByteArray) (Y : UpY) (m : List (Int × Int)) (Q : SV → List HO → Prop) : vFun (Xbelow n) ⟨[(14, ⟨[(59, .int .i64), (10, .int .i64)], [(0, .cells 114 [.cst (.ifc 26 (.p 1 0))]), (1, .ab (.upr ⟨84, 81, 3, 9⟩)), (2, .cells 107 [.m 3]), (3, .map 3 .int (.int .i64)), (4, .cells 48 [.own 36 noTy]), (5, .cells 144 [.cst (.fn 115 [.p 0 0, .p 2 0, .p 4 0, .p 5 0])])]⟩)], [(8, ⟨[], [(3, .map 3 .int (.int .i64))]⟩), (9, ⟨[], [(6, .cells 36 shNode)]⟩)]⟩ Tryz.f115 [.c (.k (.int .i64 r)), .c (.d .str p), .c (.p 0 0), .c (.p 2 0), .c (.p 4 0), .c (.p 5 0)] [.cells 114 [.ifc 26 (.p 1 0)], .ab (.upr ⟨84, 81, 3, 9⟩ Y), .cells 107 [.m 3], .map 3 .int (.int .i64) m, .cells 48 [.k (.slice none 0 0)], .cells 144 [.fn 115 [.p 0 0, .p 2 0, .p 4 0, .p 5 0]]] Q = vc_below0 n r p Y m Q := by kernel_rfl
theorem w_below0_s (n : Nat) (hn : ∀ args H Q, c_below n args H Q → Wp Inv Tryz.prog 115 args H Q) : ∀ args H Q, (c_below0 (n + 1)) args H Q → Wp Inv Tryz.prog 115 args H Q := by
 intro args H Q h
 unfold c_below0 at h
 split at h
 rotate_left
 ·exact h.elim
 rename_i r cp Y m 
 split at h
 rotate_left
 ·exact h.elim
 rename_i p hcp
 refine Wp.said (args' := [.c (.k (.int .i64 r)), .c (.d .str p), .c (.p 0 0), .c (.p 2 0), .c (.p 4 0), .c (.p 5 0)]) (fun E g => RelVs.cons1 (fun _ h => h) (RelVs.cons1 (of_list hcp) (fun _ h => h))) ?_
 clear hcp
 refine Wp.enter (X := Xbelow n) (Xbelow_ok n hn) ⟨[(14, ⟨[(59, .int .i64), (10, .int .i64)], [(0, .cells 114 [.cst (.ifc 26 (.p 1 0))]), (1, .ab (.upr ⟨84, 81, 3, 9⟩)), (2, .cells 107 [.m 3]), (3, .map 3 .int (.int .i64)), (4, .cells 48 [.own 36 noTy]), (5, .cells 144 [.cst (.fn 115 [.p 0 0, .p 2 0, .p 4 0, .p 5 0])])]⟩)], [(8, ⟨[], [(3, .map 3 .int (.int .i64))]⟩), (9, ⟨[], [(6, .cells 36 shNode)]⟩)]⟩ (fn := Tryz.f115) (by kernel_rfl) ?_
 refine Eq.mpr (vc_below0_eq n r p Y m _) ?_
 unfold vc_below0
 obtain ⟨hp, ht, h0, hd, ho, hm, hq⟩ := h
 have w := hp.wf
 rw [rows_succ] at ho hm hq
 generalize hx0 : ((p, r, (Y.nodeD r).2.2) : NoD) = x0 at ho hm hq
 generalize hF : (fun x : XeD => Y.rows n x.2.2.1 (p ++ [x.1])) = F at ho hm hq
 have x0i : x0.2.1 = r := by rw [← hx0]
 have na := num_app [x0] ((Y.listD r).flatMap F) m
 rw [List.singleton_append] at na
 rw [na.1, na.2, num_one, x0i] at hq
 rw [List.length_cons] at ho hm
 intro _ _
 refine ⟨hp, h0, fun _ _ _ _ _ _ _ _ _ _ => ?_⟩
 refine JoinP.intro (fun k => k.2.1 = numM [x0] m) ?_ ?_
 ·refine fun _ => br_of (fun hb => fun _ => ⟨by unfold inK; omega, by omega, ?_⟩) (fun hb => ?_)
  ·have hg : Kk.get .int m x0.2.1 = none := by rw [x0i]; simpa using hb
   show Kk.put .int m r _ = numM [x0] m
   rw [numM_none hg, x0i]; rfl
  ·have hg : (Kk.get .int m x0.2.1).isSome = true := by rw [x0i]; simpa using hb
   obtain ⟨k, hk⟩ := Option.isSome_iff_exists.1 hg
   exact (numM_some (r := []) hk).symm
 rintro ⟨_, m1, _⟩ hm1
 have hm1 : m1 = numM [x0] m := hm1
 subst hm1
 have hml := numM_len [x0] m
 rw [List.length_singleton] at hml
 refine JoinP.intro (fun k => k.2.1 = (p, (Kk.get .int (numM [x0] m) r).getD 0, x0.2.2.1, x0.2.2.2.1.1, x0.2.2.2.1.2.1, x0.2.2.2.1.2.2.1, x0.2.2.2.2)) ?_ ?_
 ·subst hx0
  exact ⟨fun _ => rfl, fun _ => rfl⟩
 rintro ⟨_, c, _⟩ hc
 have hc : c = _ := hc
 subst hc
 simp only
 have hnode : ((p, (Kk.get .int (numM [x0] m) r).getD 0, x0.2.2.1, (x0.2.2.2.1.1, x0.2.2.2.1.2.1, x0.2.2.2.1.2.2.1, ()), x0.2.2.2.2) : NoD) = NoD.setI x0 ((Kk.get .int (numM [x0] m) r).getD 0) := by subst hx0; rfl
 have hkd : x0.2.2.1 = (Y.nodeD r).2.2.1 := by rw [← hx0]
 rw [hnode]
 generalize NoD.setI x0 ((Kk.get .int (numM [x0] m) r).getD 0) = x1 at *
 refine ⟨(by simp only [List.length_singleton]; omega), br_of (fun hk => ?_) (fun hk => ?_)⟩
 ·have hnd : Y.listD r = [] := if_neg fun q => by
   rw [hkd, (nodeD_dir h0).2 q] at hk; cases hk
  rw [hnd] at hq
  simp only [List.flatMap_nil, numGo, numM, List.append_nil] at hq
  exact hq
 have hk1 : Y.dirE r = 0 := (nodeD_dir h0).1 (by rw [← hkd]; simpa using hk)
 refine ⟨hp, fun _ _ => ?_⟩
 rw [hk1]
 refine LoopP.intro (fun i => 0 ≤ i.1.1 ∧ i.1.1 ≤ (Y.listD r).length ∧ i.1.2.1 = 0 ∧ Y = i.2.2.1 ∧ i.2.2.2.2.1 = numM (((Y.listD r).take i.1.1.toNat).flatMap F) (numM [x0] m) ∧ i.2.2.2.2.2.1.1 = [x1] ++ numGo (((Y.listD r).take i.1.1.toNat).flatMap F) (numM [x0] m)) (fun i => (Y.listD r).length - i.1.1.toNat) ⟨by simp, by simp, rfl, rfl, by simp [numM], by simp [numGo]⟩ ?_
 rintro ⟨⟨i, e, _⟩, _, Y1, _, m1, ⟨o1, _⟩, _⟩ ⟨i0, i1, i2, i3, i4, i5⟩
 simp only at i0 i1 i2 i3 i4 i5
 subst i3 i2 i4 i5
 simp only
 refine br_of (fun hc => ?_) (fun hc => ?_)
 ·have hc : i < ((Y.listD r).length : Int) := of_decide_eq_true hc
  have et : (Y.listD r).take (i + 1).toNat = (Y.listD r).take i.toNat ++ [ixD xeTy (Y.listD r) i] := take_ixD (e := xeTy) i0 hc
  have hsp : Y.listD r = (Y.listD r).take i.toNat ++ (ixD xeTy (Y.listD r) i :: (Y.listD r).drop (i + 1).toNat) := by rw [← ixD_drop (e := xeTy) i0 hc, List.take_append_drop]
  have hmem : ixD xeTy (Y.listD r) i ∈ Y.listD r := ixD_mem (e := xeTy) i0 hc
  have hT : Y.tall n (ixD xeTy (Y.listD r) i).2.2.1 := ht.tall _ hmem
  obtain ⟨_, e', he', _, hxe⟩ := listD_mem.1 hmem
  have hat : Y.atE (ixD xeTy (Y.listD r) i).2.2.1 = 0 := by rw [hxe]; exact (w.ref e' he').2
  have hlen : ((Y.listD r).flatMap F).length = (((Y.listD r).take i.toNat).flatMap F).length + ((F (ixD xeTy (Y.listD r) i)).length + (((Y.listD r).drop (i + 1).toNat).flatMap F).length) := by
   conv => lhs; rw [hsp]
   rw [List.flatMap_append, List.flatMap_cons, List.length_append, List.length_append]
  generalize ixD xeTy (Y.listD r) i = x at *
  have hFx : Y.rows n x.2.2.1 (p ++ [x.1]) = F x := by rw [← hF]
  rw [hFx]
  have hml2 := numM_len (((Y.listD r).take i.toNat).flatMap F) (numM [x0] m)
  have hgl := numGo_len (((Y.listD r).take i.toNat).flatMap F) (numM [x0] m)
  have na2 := num_app (((Y.listD r).take i.toNat).flatMap F) (F x) (numM [x0] m)
  have fin : (0 ≤ i + 1 ∧ i + 1 ≤ ((Y.listD r).length : Int) ∧ (0 : Int) = 0 ∧ Y = Y ∧ numM (F x) (numM (((Y.listD r).take i.toNat).flatMap F) (numM [x0] m)) = numM (((Y.listD r).take (i + 1).toNat).flatMap F) (numM [x0] m) ∧ ([x1] ++ numGo (((Y.listD r).take i.toNat).flatMap F) (numM [x0] m)) ++ numGo (F x) (numM (((Y.listD r).take i.toNat).flatMap F) (numM [x0] m)) = [x1] ++ numGo (((Y.listD r).take (i + 1).toNat).flatMap F) (numM [x0] m)) ∧ (Y.listD r).length - (i + 1).toNat < (Y.listD r).length - i.toNat := by
   rw [et, List.flatMap_append, List.flatMap_singleton, na2.1, na2.2, List.append_assoc]
   exact ⟨⟨by omega, by omega, rfl, rfl, rfl, rfl⟩, by omega⟩
  refine ⟨i0, hc, i0, hc, fun _ => br_of (fun _ => ?_) (fun hb => by cases hb)⟩
  clear hq hxe hsp et na na2 hx0 hF hnode hmem
  obtain ⟨⟨_, _, _, _, f5, f6⟩, _⟩ := fin
  repeat' (first | exact hp | exact ⟨hT⟩ | exact hat | exact f5 | exact f6 | exact True.intro | apply And.intro | intro _)
  all_goals (first | omega | (unfold inK; omega) | (simp only [List.length_append, List.length_cons, List.length_nil]; omega))
 ·have hc : ¬ i < ((Y.listD r).length : Int) := of_decide_eq_false hc
  rw [List.take_of_length_le (by omega)]
  skip
  exact hq
def c_tree0 : Ct
 | [r, p, a, b, c, d], H, Q => ∃ n, c_below0 (n + 1) [r, p, a, b, c, d] H Q
 | _, _, _ => False
theorem w_tree0 : ∀ args H Q, c_tree0 args H Q → Wp Inv Tryz.prog 115 args H Q := by
 intro args H Q h
 unfold c_tree0 at h
 split at h
 ·obtain ⟨n, h⟩ := h
  exact w_below0_s n (w_below n) _ _ _ h
 ·exact h.elim
end Go.Proofs

namespace Go.Proofs
open Go Go.Lm Go.RowKit
set_option maxRecDepth 1000000
def c_itree : Ct
 | [.v (.c (.ifc 26 (.p 0 0)))], [.ab (.upr ⟨84, 81, 3, 9⟩ Y)], Q => ∃ n, Y.Ok ∧ Y.Tall (n + 1) 1 ∧ n ≤ 800 ∧ (Y.rows (n + 1) 1 []).length ≤ 100000 ∧ Q (.tup [.c (.o 1), .c (.k (.int .i64 0))]) [.ab (.upr ⟨84, 81, 3, 9⟩ Y), .sl 36 noTy (numGo (Y.rows (n + 1) 1 []) [])]
 | _, _, _ => False
noncomputable def XB1592 : Vx := { P := Tryz.prog, ct := [(115, c_tree0), (51, c_root)], ty := tyTab, hold := [] }
theorem XB1592_ok : CtOk Inv Tryz.prog XB1592.ct := CtOk.cons w_tree0 (CtOk.cons w_root (CtOk.nil _ _))
def vc_itree : (UpY) → (SV → List HO → Prop) → Prop :=
 fun Y Q => True ∧ (inK .i64 1 → ∃ n, UpY.Ok Y ∧ UpY.Tall Y (n + 1) (1 : Int) ∧ UpY.atE Y (1 : Int) = (0 : Int) ∧ (0 : Nat) + (n + 1) ≤ 900 ∧ List.length (UpY.rows Y (n + 1) (1 : Int) []) ≤ 100000 ∧ 0 + List.length (UpY.rows Y (n + 1) (1 : 
 Int) []) ≤ 100000 ∧ (inK .i64 0 → Q (SV.tup [S1.c (.o 1), .c (.k (.int .i64 0))]) [.ab (.upr ⟨84, 81, 3, 9⟩ Y), .sl 36 noTy (numGo (UpY.rows Y (n + 1) (1 : Int) []) [])]))
theorem vc_itree_eq (Y : UpY) (Q : SV → List HO → Prop) : vFun XB1592 ⟨[], []⟩ Tryz.f73 [.c (.ifc 26 (.p 0 0))] [.ab (.upr ⟨84, 81, 3, 9⟩ Y)] Q = vc_itree Y Q := by kernel_rfl
theorem w_itree : ∀ args H Q, c_itree args H Q → Wp Inv Tryz.prog 73 args H Q := by
 intro args H Q h
 unfold c_itree at h
 split at h
 rotate_left
 ·exact h.elim
 rename_i Y
 refine Wp.enter (X := XB1592) XB1592_ok ⟨[], []⟩ (fn := Tryz.f73) (by kernel_rfl) ?_
 have hv := vc_itree_eq Y Q
 rw [show vFun _ _ _ _ _ _ = _ from hv]
 unfold vc_itree
 obtain ⟨n, hp, ht, hn, hl, h⟩ := h
 obtain ⟨y, hy, _⟩ := dirE_zero.1 hp.wf.root
 exact ⟨trivial, fun _ => ⟨n, hp, ht, atE_zero.2 ⟨y, hy⟩, by omega, hl, by omega, fun _ => h⟩⟩
def c_btree : Ct
 | [.v (.c (.ifc 26 (.p 0 0)))], [.ab (.upr ⟨84, 81, 3, 9⟩ Y)], Q => ∃ n, Y.Ok ∧ Y.Tall (n + 1) 1 ∧ n ≤ 800 ∧ (Y.rows (n + 1) 1 []).length ≤ 100000 ∧ Q (.tup [.c (.o 1), .c (.k (.int .i64 0))]) [.ab (.upr ⟨84, 81, 3, 9⟩ Y), .sl 36 noTy ((numGo (Y.rows (n + 1) 1 []) []).map Y.opqT)]
 | _, _, _ => False
noncomputable def XB1593 : Vx := { P := Tryz.prog, ct := [(73, c_itree), (60, c_kind), (66, c_find), (74, c_bopq)], ty := tyTab, hold := [] }
theorem XB1593_ok : CtOk Inv Tryz.prog XB1593.ct := CtOk.cons w_itree (CtOk.cons w_kind (CtOk.cons w_find (CtOk.cons w_bopq (CtOk.nil _ _))))
def vc_btree : (UpY) → (SV → List HO → Prop) → Prop :=
 fun Y Q => ∃ n, UpY.Ok Y ∧ UpY.Tall Y (n + 1) (1 : Int) ∧ n ≤ 800 ∧ List.length (UpY.rows Y (n + 1) (1 : Int) []) ≤ 100000 ∧ (inK .i64 0 → inK .i64 2 → List.length (numGo (UpY.rows Y (n + 1) (1 : Int) []) []) ≤ 9223372036854775807 → LoopP 
 (fun i again => br (decide (i.1.1 < (↑(List.length (numGo (UpY.rows Y (n + 1) (1 : Int) []) [])) : Int))) (0 ≤ i.1.1 ∧ i.1.1 < (↑(List.length i.2.2.1) : Int) ∧ 0 ≤ i.1.1 ∧ i.1.1 < (↑(List.length i.2.2.1) : Int) ∧ (Ty.ok noTy (ixD noTy 
 i.2.2.1 i.1.1) → UpY.Ok i.2.1 ∧ (inK .i64 (UpY.findGo i.2.1 (ixD noTy i.2.2.1 i.1.1).1 (1 : Int)).1 → inK .i64 (UpY.findGo i.2.1 (ixD noTy i.2.2.1 i.1.1).1 (1 : Int)).2 → br ((UpY.findGo i.2.1 (ixD noTy i.2.2.1 i.1.1).1 (1 : Int)).2 == 0) 
 (0 ≤ i.1.1 ∧ i.1.1 < (↑(List.length i.2.2.1) : Int) ∧ 0 ≤ i.1.1 ∧ i.1.1 < (↑(List.length i.2.2.1) : Int) ∧ inK .i64 (i.1.1 + 1) ∧ again ((i.1.1 + 1, ()), i.2.1, List.set i.2.2.1 (Int.toNat i.1.1) ((ixD noTy i.2.2.1 i.1.1).1, (ixD noTy 
 i.2.2.1 i.1.1).2.1, (ixD noTy i.2.2.1 i.1.1).2.2.1, (ixD noTy i.2.2.1 i.1.1).2.2.2.1, (ixD noTy i.2.2.1 i.1.1).2.2.2.2.1, (ixD noTy i.2.2.1 i.1.1).2.2.2.2.2.1, (ixD noTy i.2.2.1 i.1.1).2.2.2.2.2.2.1, UpY.opqD i.2.1 (UpY.findGo i.2.1 (ixD 
 noTy i.2.2.1 i.1.1).1 (1 : Int)).1, ()), ())) (inK .i64 (i.1.1 + 1) ∧ again ((i.1.1 + 1, ()), i.2))))) (Q (SV.tup [S1.c (.o 1), .c (.k (.int .i64 0))]) [.ab (.upr ⟨84, 81, 3, 9⟩ i.2.1), .sl 36 noTy i.2.2.1])) (((0 : Int), ()), Y, numGo 
 (UpY.rows Y (n + 1) (1 : Int) []) [], ()))
theorem vc_btree_eq (Y : UpY) (Q : SV → List HO → Prop) : vFun XB1593 ⟨[(6, ⟨[(26, .int .i64)], [(0, .ab (.upr ⟨84, 81, 3, 9⟩)), (1, .sl 36 noTy)]⟩)], []⟩ Tryz.f27 [.c (.ifc 26 (.p 0 0))] [.ab (.upr ⟨84, 81, 3, 9⟩ Y)] Q = vc_btree Y Q := by kernel_rfl
theorem w_btree : ∀ args H Q, c_btree args H Q → Wp Inv Tryz.prog 27 args H Q := by
 intro args H Q h
 unfold c_btree at h
 split at h
 rotate_left
 ·exact h.elim
 rename_i Y
 refine Wp.enter (X := XB1593) XB1593_ok ⟨[(6, ⟨[(26, .int .i64)], [(0, .ab (.upr ⟨84, 81, 3, 9⟩)), (1, .sl 36 noTy)]⟩)], []⟩ (fn := Tryz.f27) (by kernel_rfl) ?_
 have hv := vc_btree_eq Y Q
 rw [show vFun _ _ _ _ _ _ = _ from hv]
 unfold vc_btree
 obtain ⟨n, hp, ht, hn, hl, h⟩ := h
 refine ⟨n, hp, ht, hn, hl, fun _ _ _ => ?_⟩
 have hT := numGo_len (Y.rows (n + 1) 1 []) []
 generalize numGo (Y.rows (n + 1) 1 []) [] = T at *
 refine LoopP.intro (fun i => 0 ≤ i.1.1 ∧ i.1.1 ≤ T.length ∧ Y = i.2.1 ∧ i.2.2.1 = (T.take i.1.1.toNat).map Y.opqT ++ T.drop i.1.1.toNat) (fun i => T.length - i.1.1.toNat) ⟨by simp, by simp, rfl, by simp⟩ ?_
 rintro ⟨⟨i, _⟩, Y1, l, _⟩ ⟨i0, i1, i2, i3⟩
 simp only at i0 i1 i2 i3
 subst i2
 simp only
 refine br_of (fun hc => ?_) (fun hc => ?_)
 ·have hc : i < (T.length : Int) := of_decide_eq_true hc
  obtain ⟨m1, m2, m3⟩ := map_at (g := Y.opqT) i0 hc i3
  rw [m2]
  refine ⟨i0, m1, i0, m1, fun _ => ⟨hp, fun _ _ => br_of (fun hd => ⟨i0, m1, i0, m1, by unfold inK; omega, ⟨by omega, by omega, (by first | exact True.intro | rfl), ?_⟩, by omega⟩) (fun hd => ⟨by unfold inK; omega, ⟨by omega, by omega, (by first | exact True.intro | rfl), ?_⟩, by omega⟩)⟩⟩
  ·have e : Y.opqT (ixD noTy T i) = NoD.setO (ixD noTy T i) (Y.opqD (Y.findGo (ixD noTy T i).1 1).1) := if_pos (eq_of_beq hd)
   rw [e] at m3
   exact m3
  ·have e : Y.opqT (ixD noTy T i) = ixD noTy T i := if_neg (by simpa using hd)
   rw [e, ← m2, ixD_get (e := noTy) i0 m1, List.set_getElem_self] at m3
   exact m3
 ·have hc : ¬ i < (T.length : Int) := of_decide_eq_false hc
  rw [List.take_of_length_le (by omega), drop_all hc, List.append_nil] at i3
  rw [i3]; exact h
end Go.Proofs

