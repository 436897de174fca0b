/- Slices of the call's own as parts of what is owned. General: no program in sight. -/
import Derived.Test.YtnmaehdklmgfmaaLmSl
import Derived.Laws.OwnMore
import Derived.Laws.MakeOwn
import Derived.Laws.CopyRow
namespace Go.Lm
open Go Go.RowKit

/-- Where the result of an append lies: where it lay, or behind all that was. -/
theorem append_whereN {P : Program} {w : World} (base : Nat) (t ty e : TypeId) (i : TypeInfo) (z : Value) (size bytes : Nat) (ht : P.underlying t = some (.slice e)) (hi : P.info? e = some i) (hz : i.zero = some z)
    (hsize : i.size = size) (hby : i.bytes = bytes) (v : Value) (n : Nat) (xs : List Value) (hown : w.ownsRow base e size v n xs)
    (a : Addr) (m c : Nat) (news : List Value) (hl : news.length = m * size) (hnews : ∀ j u, news[j]? = some u → w.cell? (a.add j) = some u) (h1 : ∀ u ∈ news, u.oneCell' = true)
    (h63 : n + m ≤ maxLen) (hbytes : (n + m) * bytes ≤ 140737488355328) {v' : Value} {w' : World} (hr : (Builtin.append_ #[t, t] ty #[v, .slice (some a) m c]).run P w = .ok v' w') :
    ∀ k, v'.ownBlock = some k → v.ownBlock = some k ∨ w.heap.size ≤ k := by
  subst hsize
  subst hby
  have hsmall : n + m ≤ 9223372036854775807 := by simp only [maxLen] at h63; omega
  rcases hown.2 with ⟨rfl, rfl⟩ | ⟨g, cap, cur, rfl, hbg, hg, hnc, hcm, hcs, htake⟩
  · by_cases hm : m = 0
    · subst hm
      have hrun : (Builtin.append_ #[t, t] ty #[.slice none 0 0, .slice (some a) 0 c]).run P w = .ok (.slice none 0 0) w := by
        simp [Builtin.append_, run_underlying ht, sizeOf, typeInfo, hi, Builtin.lenOf, Builtin.firstCells, loadCells, loadCellsFrom]
      rw [hrun] at hr
      cases hr
      intro k hk
      simp [Value.ownBlock] at hk
    · rw [run_append_nil (P := P) w t ty e i z ht hi hz a m c news hl hnews (by omega) (by omega) (by have hb := hbytes; simp only [Nat.zero_add] at hb; omega)] at hr
      cases hr
      intro k hk
      have : w.heap.size = k := by simpa [Value.ownBlock] using hk
      exact .inr (by omega)
  · by_cases hroom : n + m ≤ cap
    · have hfit : n * i.size + news.length ≤ cur.size := by rw [hl, hcs, ← Nat.add_mul]; exact Nat.mul_le_mul_right _ hroom
      rw [run_append_room (P := P) w t ty e i ht hi g n cap cur hg a m c news hl hnews h1 hroom hfit] at hr
      cases hr
      exact fun k hk => .inl hk
    · have holds : ∀ j u, xs[j]? = some u → w.cell? ((⟨g, 0, none⟩ : Addr).add j) = some u := hown.cells (g := g) rfl
      rw [run_append_grow (P := P) w t ty e i z ht hi hz ⟨g, 0, none⟩ n cap xs hown.1 holds a m c news hl hnews (by omega) (by omega) (growslice_fits (by omega) hbytes)] at hr
      cases hr
      intro k hk
      have : w.heap.size = k := by simpa [Value.ownBlock] using hk
      exact .inr (by omega)

theorem run_append_none_src {P : Program} (w : World) (t ty e : TypeId) (i : TypeInfo) (ht : P.underlying t = some (.slice e)) (hi : P.info? e = some i) {base : Nat} {v : Value} {n : Nat} {xs : List Value} (hown : w.ownsRow base e i.size v n xs) :
    (Builtin.append_ #[t, t] ty #[v, .slice none 0 0]).run P w = .ok v w := by
  rcases hown.2 with ⟨rfl, rfl⟩ | ⟨g, cap, cur, rfl, hbg, hg, hnc, hcm, hcs, htake⟩
  · simp [Builtin.append_, run_underlying ht, sizeOf, typeInfo, hi, Builtin.lenOf, Builtin.firstCells]
  · simp [Builtin.append_, run_underlying ht, sizeOf, typeInfo, hi, Builtin.lenOf, Builtin.firstCells, hnc, storeCells]

/-- A slice of the call's own: its cells. -/
def rowA (e : TypeId) (size : Nat) (v : Value) (n : Nat) (xs : List Value) : Atom :=
  ⟨fun _ h => xs.length = n * size ∧ ((v = .slice none 0 0 ∧ n = 0) ∨
    ∃ k cap cur, v = .slice (some ⟨k, 0, none⟩) n cap ∧ h k = some (.cells cur e (0, 0)) ∧ n ≤ cap ∧ cap ≤ maxLen ∧ cur.size = cap * size ∧ cur.toList.take (n * size) = xs), fun _ s => s⟩
section
variable {W : Base} {g w w' : World} {l : List Atom} {e : TypeId} {size n : Nat} {v : Value} {xs : List Value}
theorem SL.row (H : SL W g w (rowA e size v n xs :: l)) : w.ownsRow W.n e size v n xs := by
  obtain ⟨h, be, s, ow, h1, h2, ap, rfl, ⟨hl, hv⟩, s2⟩ := H
  refine ⟨hl, ?_⟩
  rcases hv with hv | ⟨k, cap, cur, rfl, hk, r⟩
  · exact .inl hv
  · obtain ⟨o1, o2, o3⟩ := ow k _ (Hp.join_left hk)
    exact .inr ⟨k, cap, cur, rfl, o1, o2, r⟩
theorem SL.rowNil (e : TypeId) (size : Nat) (H : SL W g w l) : SL W g w (rowA e size (.slice none 0 0) 0 [] :: l) :=
  H.weak fun h s => ⟨fun _ => none, h, fun _ => .inl rfl, rfl, ⟨by simp, .inl ⟨rfl, rfl⟩⟩, s⟩
/-- A block becomes a slice. -/
theorem SL.toRow {b cap : Nat} {cur : Array Value} (n : Nat) (H : SL W g w (Lm.blk b cur e :: l)) (hn : n ≤ cap) (hm : cap ≤ maxLen) (hs : cur.size = cap * size) :
    SL W g w (rowA e size (.slice (some ⟨b, 0, none⟩) n cap) n (cur.toList.take (n * size)) :: l) := H.weak fun _ ⟨h1, h2, ap, q, s1, s2⟩ =>
  ⟨h1, h2, ap, q, ⟨by
    have : n * size ≤ cap * size := Nat.mul_le_mul_right _ hn
    simp; omega, .inr ⟨b, cap, cur, rfl, s1, hn, hm, hs, rfl⟩⟩, s2⟩
/-- The slice's block, if it has one. -/
theorem SL.ofRow (H : SL W g w (rowA e size v n xs :: l)) : (v = .slice none 0 0 ∧ n = 0 ∧ xs = [] ∧ SL W g w l) ∨
    ∃ k cap cur, v = .slice (some ⟨k, 0, none⟩) n cap ∧ n ≤ cap ∧ cap ≤ maxLen ∧ cur.size = cap * size ∧ cur.toList.take (n * size) = xs ∧ SL W g w (Lm.blk k cur e :: l) := by
  obtain ⟨h, be, s, ow, h1, h2, ap, rfl, ⟨hl, hv⟩, s2⟩ := H
  rcases hv with ⟨rfl, rfl⟩ | ⟨k, cap, cur, rfl, hk, r1, r2, r3, r4⟩
  · refine .inl ⟨rfl, rfl, List.eq_nil_of_length_eq_zero (by simpa using hl), h2, be, s, fun k x hx => ow k x ?_, s2⟩
    rcases ap k with q | q
    · rw [Hp.join_right q]; exact hx
    · rw [q] at hx; cases hx
  · exact .inr ⟨k, cap, cur, rfl, r1, r2, r3, r4, _, be, s, ow, h1, h2, ap, rfl, hk, s2⟩
theorem SL.grown {v' : Value} {n' : Nat} {xs' : List Value} (H : SL W g w (rowA e size v n xs :: l)) (ho : w'.ownsRow W.n e size v' n' xs') (hg : w.grownBy w' v.ownBlock)
    (hw : ∀ k, v'.ownBlock = some k → v.ownBlock = some k ∨ w.heap.size ≤ k) : SL W g w' (rowA e size v' n' xs' :: l) := by
  have hlt := H.row.lt
  obtain ⟨h, be, s, ow, h1, h2, ap, rfl, ⟨hl, hv⟩, s2⟩ := H
  have hb : Below W.n W.w w' := be.trans ((Below.refl _ w).grown hg be.size fun k hk => (hlt k hk).1)
  have hnot : ∀ k, v.ownBlock = some k → NotIn g k ∧ ∃ o, h1 k = some o := fun k hk => by
    rcases hv with ⟨rfl, _⟩ | ⟨k', cap, cur, rfl, hk', _⟩
    · simp [Value.ownBlock] at hk
    · have : k' = k := by simpa [Value.ownBlock] using hk
      subst this
      exact ⟨(ow k' _ (Hp.join_left hk')).2.2, _, hk'⟩
  have hs : SeesA W g w' := by
    refine ⟨⟨Nat.le_trans s.size hg.size, fun a x hx => ?_⟩, s.agr⟩
    have h1 := s.mono a x hx
    have hlt := World.block_lt_of_cell? w a h1
    have hne : some a.block ≠ v.ownBlock := fun q => by
      have := (hnot a.block q.symm).1 a rfl
      rw [this] at hx; cases hx
    rw [World.cell?_of_block (hg.block a.block hlt hne)]; exact h1
  have rest : ∀ k x, h2 k = some x → W.n ≤ k ∧ w'.heap[k]? = some x ∧ NotIn g k ∧ k < w.heap.size ∧ v.ownBlock ≠ some k := fun k x hx => by
    have h1k : h1 k = none := by
      rcases ap k with q | q
      · exact q
      · rw [q] at hx; cases hx
    obtain ⟨o1, o2, o3⟩ := ow k x (by rw [Hp.join_right h1k]; exact hx)
    have hne : v.ownBlock ≠ some k := fun q => by
      obtain ⟨_, o, ho⟩ := hnot k q
      rw [h1k] at ho; cases ho
    exact ⟨o1, by rw [hg.block k (at_lt o2) (Ne.symm hne)]; exact o2, o3, at_lt o2, hne⟩
  rcases ho.2 with ⟨rfl, rfl⟩ | ⟨k', cap', cur', rfl, hbk, hk', r⟩
  · exact ⟨h2, hb, hs, fun k x hx => ⟨(rest k x hx).1, (rest k x hx).2.1, (rest k x hx).2.2.1⟩, fun _ => none, h2, fun _ => .inl rfl, rfl, ⟨ho.1, .inl ⟨rfl, rfl⟩⟩, s2⟩
  · have hwk := hw k' rfl
    have h2k : h2 k' = none := by
      cases hq : h2 k' with
      | none => rfl
      | some x =>
        obtain ⟨_, _, _, q1, q2⟩ := rest k' x hq
        rcases hwk with z | z
        · exact absurd z q2
        · omega
    refine ⟨Hp.join (fun q => if q = k' then some (.cells cur' e (0, 0)) else none) h2, hb, hs, fun q x hq => ?_, _, h2, fun q => ?_, rfl, ⟨ho.1, .inr ⟨k', cap', cur', rfl, if_pos rfl, r⟩⟩, s2⟩
    · by_cases eq : q = k'
      · subst eq
        have : x = .cells cur' e (0, 0) := by unfold Hp.join at hq; simp at hq; exact hq.symm
        subst this
        refine ⟨hbk, hk', ?_⟩
        rcases hwk with z | z
        · exact (hnot q z).1
        · intro a ha
          cases hc : g.cell? a with
          | none => rfl
          | some x =>
            have h3 := World.block_lt_of_cell? g a hc
            have h4 := s.size
            omega
      · have hq' : h2 q = some x := by unfold Hp.join at hq; simpa [eq] using hq
        obtain ⟨o1, o2, o3, _⟩ := rest q x hq'
        exact ⟨o1, o2, o3⟩
    · by_cases eq : q = k'
      · subst eq; exact .inr h2k
      · left; simp [eq]
end

/-! ### Slices that read as lists -/
theorem RelL.length {α : Type} [GoRep α] {g : World} : ∀ {cs : List (List Value)} {xs : List α}, RelL g cs xs → cs.length = xs.length ∧ cs.flatten.length = xs.length * GoRep.size α
  | [], [], _ => ⟨rfl, by simp⟩
  | c :: cs, x :: xs, h => by
    obtain ⟨h1, h2⟩ := RelL.length h.2
    have h3 := GoRep.len h.1
    refine ⟨by simp [h1], ?_⟩
    rw [List.flatten_cons, List.length_append, h2, h3, List.length_cons, Nat.add_mul]; omega
theorem RelL.append {α : Type} [GoRep α] {g : World} : ∀ {cs ds : List (List Value)} {xs ys : List α}, RelL g cs xs → RelL g ds ys → RelL g (cs ++ ds) (xs ++ ys)
  | [], _, [], _, _, h => h
  | _ :: _, _, _ :: _, _, h, k => ⟨h.1, RelL.append h.2 k⟩
def slA {α : Type} [GoRep α] (e : TypeId) (v : Value) (xs : List α) : Atom :=
  ⟨fun g h => ∃ cs : List (List Value), RelL g cs xs ∧ (rowA e (GoRep.size α) v xs.length cs.flatten).sat g h, fun m ⟨cs, r, s⟩ => ⟨cs, r.mono m, s⟩⟩
section
variable {α : Type} [GoRep α] {W : Base} {g w w' : World} {l : List Atom} {e : TypeId} {v : Value} {xs : List α}
theorem SL.slO (H : SL W g w (slA e v xs :: l)) : ∃ cs : List (List Value), RelL g cs xs ∧ SL W g w (rowA e (GoRep.size α) v xs.length cs.flatten :: l) := by
  obtain ⟨h, be, s, ow, h1, h2, ap, rfl, ⟨cs, r, q⟩, s2⟩ := H
  exact ⟨cs, r, _, be, s, ow, h1, h2, ap, rfl, q, s2⟩
theorem SL.slI {cs : List (List Value)} (r : RelL g cs xs) (H : SL W g w (rowA e (GoRep.size α) v xs.length cs.flatten :: l)) : SL W g w (slA e v xs :: l) :=
  H.weak fun _ ⟨h1, h2, ap, q, s1, s2⟩ => ⟨h1, h2, ap, q, ⟨cs, r, s1⟩, s2⟩
theorem SL.slNil (α : Type) [GoRep α] (e : TypeId) (H : SL W g w l) : SL W g w (slA (α := α) e (.slice none 0 0) [] :: l) := (H.rowNil e (GoRep.size α)).slI (cs := []) trivial
theorem SL.slOwns (H : SL W g w (slA e v xs :: l)) : OwnsL g w W.n e v xs := by
  obtain ⟨cs, r, H1⟩ := H.slO
  exact ⟨cs, r, H1.row⟩
/-- It reads as its list. -/
theorem SL.slIs0 (H : SL W g w (slA e v xs :: l)) : Is w v xs := H.slOwns.is H.m fun _ _ => rfl
theorem SL.slIs (i : Nat) (H : SL W g w l) (q : nthA l i = some (slA e v xs) := by exact rfl) : Is w v xs := (H.pick i q).slIs0
theorem SL.slLen (i : Nat) (H : SL W g w l) (q : nthA l i = some (slA e v xs) := by exact rfl) : (xs.length : Int) ≤ 9223372036854775807 := by
  have := (H.slIs i q).len_le; omega
/-- It is held fixed from now on. -/
theorem SL.slHold0 (H : SL W g w (slA e v xs :: l)) : ∃ g', Mono g g' ∧ SL W g' w l ∧ Is g' v xs := by
  have ho := H.slOwns
  obtain ⟨cs, r, H1⟩ := H.slO
  rcases H1.ofRow with ⟨rfl, hn, hx, H2⟩ | ⟨k, cap, cur, rfl, h1, h2, h3, h4, H2⟩
  · refine ⟨g, Mono.refl g, H2, ?_⟩
    have : xs = [] := List.eq_nil_of_length_eq_zero hn
    subst this
    exact is_nil g
  · obtain ⟨g', m, H3, hc⟩ := H2.hold0
    refine ⟨g', m, H3, is_list.2 (.inr ⟨⟨k, 0, none⟩, cap, rfl, h1, h2, fun i x hx => ?_⟩)⟩
    obtain ⟨c, hr, hcc⟩ := r.get i x hx
    refine ⟨c, fun j v hj => ?_, GoRep.mono m hr⟩
    rw [Addr.add_mid, hc]
    have h5 := hcc j v hj
    rw [← h4, List.getElem?_take] at h5
    split at h5
    · simpa using h5
    · cases h5
theorem SL.slHold (i : Nat) (H : SL W g w l) (q : nthA l i = some (slA e v xs) := by exact rfl) : ∃ g', Mono g g' ∧ SL W g' w (dropA l i) ∧ Is g' v xs := (H.pick i q).slHold0
/-- The cells of what reads as a list. -/
theorem cells_of_is {ys : List α} {a : Addr} {n c : Nat} (h : Is w (.slice (some a) n c) ys) : n = ys.length ∧ ∃ ds : List (List Value), RelL w ds ys ∧ ∀ j u, ds.flatten[j]? = some u → w.cell? (a.add j) = some u := by
  rcases is_list.1 h with ⟨h, _⟩ | ⟨a', cap, h, _, _, h3⟩
  · cases h
  · cases h
    refine ⟨rfl, ?_⟩
    clear h
    have key : ∀ (ys : List α) (a : Addr), (∀ (i : Nat) (x : α), ys[i]? = some x → ∃ cs : List Value, (∀ (j : Nat) (c : Value), cs[j]? = some c → w.cell? (a.add (i * GoRep.size α + j)) = some c) ∧ GoRep.rel w cs x) →
        ∃ ds : List (List Value), RelL w ds ys ∧ ∀ j u, ds.flatten[j]? = some u → w.cell? (a.add j) = some u := by
      intro ys
      induction ys with
      | nil => exact fun _ _ => ⟨[], trivial, fun j u h => by simp at h⟩
      | cons y ys ih =>
        intro a h
        obtain ⟨c, h1, h2⟩ := h 0 y rfl
        have hl := GoRep.len h2
        obtain ⟨ds, h4, h5⟩ := ih (a.add (GoRep.size α)) fun i x hx => by
          obtain ⟨cs, q1, q2⟩ := h (i + 1) x (by simpa using hx)
          refine ⟨cs, fun j c hj => ?_, q2⟩
          have := q1 j c hj
          rw [Go.Deep.add_add, ← this]
          congr 2
          rw [Nat.add_mul]; omega
        refine ⟨c :: ds, ⟨h2, h4⟩, fun j u hj => ?_⟩
        rw [List.flatten_cons] at hj
        by_cases hjl : j < c.length
        · rw [List.getElem?_append_left hjl] at hj
          have := h1 j u hj
          rw [← this]
          congr 2
          omega
        · rw [List.getElem?_append_right (by omega)] at hj
          have := h5 _ u hj
          rw [Go.Deep.add_add] at this
          rw [← this]
          congr 2
          omega
    exact key ys a h3
theorem cells_of_is_at {ys : List α} {a : Addr} {n c : Nat} {g w : World} (h : Is g (.slice (some a) n c) ys) (m : Mono g w) : n = ys.length ∧ ∃ ds : List (List Value), RelL g ds ys ∧ ∀ j u, ds.flatten[j]? = some u → w.cell? (a.add j) = some u := by
  obtain ⟨h1, ds, h2, h3⟩ := cells_of_is h
  exact ⟨h1, ds, h2, fun j u hj => m _ _ (h3 j u hj)⟩
/-- What reads as a datum has cells that are one cell each. -/
class OneCells (α : Type) [GoRep α] : Prop where
  one : ∀ {g : World} {cs : List Value} {x : α}, GoRep.rel g cs x → ∀ u ∈ cs, u.oneCell' = true
theorem RelL.one [OneCells α] {g : World} : ∀ {cs : List (List Value)} {xs : List α}, RelL g cs xs → ∀ u ∈ cs.flatten, u.oneCell' = true
  | [], [], _, u, h => by simp at h
  | c :: cs, x :: xs, h, u, hu => by
    rw [List.flatten_cons, List.mem_append] at hu
    rcases hu with hu | hu
    · exact OneCells.one h.1 u hu
    · exact RelL.one h.2 u hu
instance : OneCells Int := ⟨fun h u hu => by rw [h.1] at hu; simp at hu; rw [hu]; rfl⟩
instance : OneCells Bool := ⟨fun h u hu => by rw [show _ = _ from h] at hu; simp at hu; rw [hu]; rfl⟩
instance : OneCells UInt8 := ⟨fun h u hu => by rw [show _ = _ from h] at hu; simp at hu; rw [hu]; rfl⟩
instance : OneCells ByteArray := ⟨fun h u hu => by rw [h.1] at hu; simp at hu; rw [hu]; rfl⟩
instance : OneCells (List α) := ⟨fun h u hu => by
  obtain ⟨v, rfl, hv⟩ := h
  simp at hu
  subst hu
  rcases hv with ⟨rfl, _⟩ | ⟨a, cap, rfl, _⟩ <;> rfl⟩
/-- What can be read of a slice now; what its elements read as is held fixed. -/
def Rd {α : Type} [GoRep α] (g w : World) (y : Value) (ys : List α) : Prop :=
  (y = .slice none 0 0 ∧ ys = []) ∨ ∃ a c, y = .slice (some a) ys.length c ∧ ys.length ≤ c ∧ c ≤ maxLen ∧ ∃ ds : List (List Value), RelL g ds ys ∧ ∀ j u, ds.flatten[j]? = some u → w.cell? (a.add j) = some u
theorem Is.rd {y : Value} {ys : List α} (h : Is g y ys) (m : Mono g w) : Rd g w y ys := by
  rcases is_list.1 h with ⟨rfl, rfl⟩ | ⟨a, cap, rfl, h1, h2, _⟩
  · exact .inl ⟨rfl, rfl⟩
  · obtain ⟨_, ds, h3, h4⟩ := cells_of_is_at h m
    exact .inr ⟨a, cap, rfl, h1, h2, ds, h3, h4⟩
theorem SL.slRd0 (H : SL W g w (slA e v xs :: l)) : Rd g w v xs := by
  obtain ⟨cs, r, H1⟩ := H.slO
  have hrow := H1.row
  rcases hrow.2 with ⟨rfl, h0⟩ | ⟨k, cap, cur, rfl, _, _, h1, h2, _⟩
  · exact .inl ⟨rfl, List.eq_nil_of_length_eq_zero h0⟩
  · exact .inr ⟨⟨k, 0, none⟩, cap, rfl, h1, h2, cs, r, hrow.cells (g := k) rfl⟩
theorem SL.slRd (i : Nat) (H : SL W g w l) (q : nthA l i = some (slA e v xs) := by exact rfl) : Rd g w v xs := (H.pick i q).slRd0
theorem RelL.part {g : World} : ∀ {cs : List (List Value)} {xs : List α} (i n : Nat), RelL g cs xs → RelL g ((cs.drop i).take n) ((xs.drop i).take n)
  | cs, xs, 0, 0, _ => by simp [RelL]
  | [], [], 0, _ + 1, _ => trivial
  | _ :: _, _ :: _, 0, n + 1, h => ⟨h.1, by simpa using RelL.part 0 n h.2⟩
  | [], [], i + 1, n, h => by simp [RelL]
  | _ :: cs, _ :: xs, i + 1, n, h => by simpa using RelL.part i n h.2
theorem RelL.dropLen {g : World} : ∀ {cs : List (List Value)} {xs : List α} (i : Nat), RelL g cs xs → i ≤ xs.length → (cs.take i).flatten.length = i * GoRep.size α
  | _, _, 0, _, _ => by simp
  | [], [], i + 1, _, hi => by simp at hi
  | c :: cs, x :: xs, i + 1, h, hi => by
    have := RelL.dropLen i h.2 (by simpa using hi)
    simp only [List.take_succ_cons, List.flatten_cons, List.length_append, this, GoRep.len h.1, Nat.add_mul]; omega
theorem Rd.slice {y : Value} {ys : List α} {a b : Int} (h : Rd g w y ys) (ha : 0 ≤ a) (hab : a ≤ b) (hb : b ≤ ys.length) :
    Rd g w (sliceV (GoRep.size α) y a b) ((ys.drop a.toNat).take (b.toNat - a.toNat)) := by
  rcases h with ⟨rfl, rfl⟩ | ⟨ad, c, rfl, h1, h2, ds, h3, h4⟩
  · left
    simp at hb
    have h1 : b = 0 := by omega
    have h2 : a = 0 := by omega
    subst h1 h2
    exact ⟨rfl, rfl⟩
  · have hlen : ((ys.drop a.toNat).take (b.toNat - a.toNat)).length = b.toNat - a.toNat := by simp; omega
    refine .inr ⟨if c = a.toNat then ad else ad.add (a.toNat * GoRep.size α), c - a.toNat, ?_, by rw [hlen]; omega, by omega, (ds.drop a.toNat).take (b.toNat - a.toNat), h3.part _ _, fun j u hj => ?_⟩
    · rw [hlen]; unfold sliceV; simp only [Option.map_some]; split <;> rfl
    · by_cases he : b.toNat - a.toNat = 0
      · rw [he] at hj; simp at hj
      · rw [if_neg (by omega), Go.Deep.add_add]
        refine h4 _ u ?_
        have e1 : ds = ds.take a.toNat ++ ((ds.drop a.toNat).take (b.toNat - a.toNat) ++ (ds.drop a.toNat).drop (b.toNat - a.toNat)) := by rw [List.take_append_drop, List.take_append_drop]
        rw [e1, List.flatten_append, List.flatten_append, List.getElem?_append_right (by rw [h3.dropLen a.toNat (by omega)]; omega), h3.dropLen a.toNat (by omega)]
        rw [List.getElem?_append_left (by
          have := (List.getElem?_eq_some_iff.1 hj).1
          omega)]
        rw [show a.toNat * GoRep.size α + j - a.toNat * GoRep.size α = j by omega]
        exact hj
theorem Rd.len_le {y : Value} {ys : List α} (h : Rd g w y ys) : ys.length ≤ 9223372036854775807 := by
  rcases h with ⟨_, rfl⟩ | ⟨_, c, _, h1, h2, _⟩
  · simp
  · unfold maxLen at h2; omega
theorem Rd.is {y : Value} {ys : List α} (h : Rd g w y ys) (m : Mono g w) : Is w y ys := by
  rcases h with ⟨rfl, rfl⟩ | ⟨a, c, rfl, h1, h2, ds, h3, h4⟩
  · exact is_nil w
  · refine is_list.2 (.inr ⟨a, c, rfl, h1, h2, fun i x hx => ?_⟩)
    obtain ⟨cs, hr, hc⟩ := h3.get i x hx
    exact ⟨cs, fun j u hj => h4 _ u (hc j u hj), GoRep.mono m hr⟩
/-- 'append(v, y...)'. -/
theorem SL.append {P : Program} {t ty : TypeId} {bytes : Nat} [OneCells α] (H : SL W g w (slA e v xs :: l)) {y : Value} {ys : List α} (hy : Rd g w y ys)
    (ht : P.underlying t = some (.slice e)) (hi : (P.info? e).map (fun i => (i.size, i.bytes, i.zero.isSome)) = some (GoRep.size α, bytes, true)) (hz : ((P.info? e).bind (·.zero)).map (·.cells.size) = some (GoRep.size α)) (hpos : 0 < GoRep.size α)
    (hlen : (xs.length + ys.length) * bytes ≤ 140737488355328) (hmax : xs.length + ys.length ≤ 9223372036854775807) :
    ∃ v' w', (Builtin.append_ #[t, t] ty #[v, y]).run P w = .ok v' w' ∧ SL W g w' (slA e v' (xs ++ ys) :: l) ∧ (v' = .slice none 0 0 → v = .slice none 0 0 ∧ ys = []) := by
  cases hq : P.info? e with
  | none => simp [hq] at hi
  | some i =>
    simp only [hq, Option.map_some, Option.some.injEq, Prod.mk.injEq, Option.bind_some] at hi hz
    obtain ⟨hs, hby, hzz⟩ := hi
    cases hz' : i.zero with
    | none => simp [hz'] at hzz
    | some z =>
      simp only [hz', Option.map_some, Option.some.injEq] at hz
      obtain ⟨cs, hrel, H1⟩ := H.slO
      have hrow := H1.row
      have H2 := H
      rcases hy with ⟨rfl, rfl⟩ | ⟨a, cap, rfl, hcap, hcm, ds, hds, hcell⟩
      · have hrun := run_append_none_src (P := P) w t ty e i ht hq (base := W.n) (v := v) (n := xs.length) (xs := cs.flatten) (by rw [hs]; exact hrow)
        exact ⟨v, w, hrun, by simpa using H2, fun q => ⟨q, rfl⟩⟩
      · have hlen2 := (RelL.length hds).2
        obtain ⟨v', w', hrun, hown', hgrow, hnil⟩ := run_append_own (P := P) w W.n t ty e i z (GoRep.size α) bytes ht hq hz' hs hby hz hpos v xs.length cs.flatten hrow a ys.length cap ds.flatten hlen2
          hcell (RelL.one hds) (by unfold maxLen; omega) hlen H.size
        have hwhere := append_whereN (P := P) W.n t ty e i z (GoRep.size α) bytes ht hq hz' hs hby v xs.length cs.flatten hrow a ys.length cap ds.flatten hlen2 hcell (RelL.one hds) (by unfold maxLen; omega) hlen hrun
        refine ⟨v', w', hrun, ?_, fun q => ⟨(hnil.1 q).1, List.eq_nil_of_length_eq_zero (hnil.1 q).2⟩⟩
        refine SL.slI (cs := cs ++ ds) (hrel.append hds) ?_
        have e1 : (cs ++ ds).flatten = cs.flatten ++ ds.flatten := by simp
        rw [e1, List.length_append]
        exact H1.grown hown' hgrow hwhere
end
end Go.Lm
