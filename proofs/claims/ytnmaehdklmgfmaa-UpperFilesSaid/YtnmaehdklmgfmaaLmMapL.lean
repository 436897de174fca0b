/- Maps of the call's own, as lists of entries (in whatever order); the loop over a map. General: no program in sight. -/
import Derived.Test.YtnmaehdklmgfmaaLmSl
import Derived.Maps.Own
import Derived.Maps.OwnSet
import Derived.Maps.Range
import Derived.Maps.RangeWalk
namespace Go.Lm
open Go Go.RowKit Go.Maps Go.ChangeMaps
open Go.WideElems (Fit rd rg pl rd_key rd_val rg_of)
open Go.WideShapes (sorted_perm)
open Go.MapKept

def holdV (v : Value) : Option (DataW Value × List MemPlace) := some (.held v, [])
/-- A key's type. -/
class MKey (κ : Type) where
  dec : DecidableEq κ
  lit : κ → Lit
  val : κ → Value
  ok : κ → Prop
  same : ∀ a b : κ, (lit a).sameKey (lit b) = @decide (a = b) (dec a b)
  inj : ∀ a b : κ, lit a = lit b → a = b
instance (priority := low) {κ : Type} [MKey κ] : DecidableEq κ := MKey.dec
instance : MKey Int where
  dec := inferInstance
  lit i := .int .i64 i
  val i := .int .i64 i
  ok i := (Lit.int .i64 i).wf = true
  same a b := by simp [Lit.sameKey]
  inj a b h := by cases h; rfl
instance : MKey ByteArray where
  dec := inferInstance
  lit s := .string s.data.toList
  val s := .string s
  ok s := s.size ≤ maxLen
  same a b := by
    simp only [Lit.sameKey]
    rw [Bool.eq_iff_iff]
    simp only [beq_iff_eq, decide_eq_true_eq]
    constructor
    · intro h
      cases a; cases b
      rename_i x y
      cases x; cases y
      simp at h
      rw [h]
    · intro h; rw [h]
  inj a b h := by
    cases a; cases b
    rename_i x y
    cases x; cases y
    simp at h
    rw [h]
/-- The type's keys are those of P's type k. -/
structure KeyT (P : Program) (k : TypeId) (κ : Type) [MKey κ] : Prop where
  keyed : Keyed P k
  of : ∀ x : κ, MKey.ok x → keyOf P k (MKey.val x) = some (MKey.lit x)
  inv : ∀ (v : Value) (x : κ), keyOf P k v = some (MKey.lit x) → v = MKey.val x ∧ MKey.ok x
theorem keyT_int {P : Program} {k : TypeId} (h : P.underlying k = some (.int .i64)) : KeyT P k Int where
  keyed := int_keyed h
  of x hx := keyOf_int_mk h hx
  inv v x hv := by
    obtain ⟨y, rfl, h2, h3⟩ := Maps.keyOf_int_inv h hv
    cases h2
    exact ⟨rfl, h3⟩
theorem keyOf_str_inv {P : Program} {k : TypeId} (hk : P.underlying k = some .string) {key : Value} {kl : Lit} (h : keyOf P k key = some kl) : ∃ x : ByteArray, key = .string x ∧ kl = .string x.data.toList ∧ x.size ≤ maxLen := by
  cases key <;> simp [keyOf, hk, mapKey] at h
  obtain ⟨hw, rfl⟩ := h
  exact ⟨_, rfl, rfl, hw⟩
theorem keyT_str {P : Program} {k : TypeId} (h : P.underlying k = some .string) : KeyT P k ByteArray where
  keyed := string_keyed h
  of x hx := by
    have hx' : x.size ≤ maxLen := hx
    simp [keyOf, h, mapKey, MKey.val, MKey.lit, hx']
  inv v x hv := by
    obtain ⟨y, rfl, h2, h3⟩ := keyOf_str_inv h hv
    obtain rfl := MKey.inj (κ := ByteArray) x y h2
    exact ⟨rfl, h3⟩

section
variable {κ : Type} [MKey κ]
def ent (p : κ × Value) : Lit × DataW Value := (MKey.lit p.1, .held p.2)
def getK {α : Type} (l : List (κ × α)) (x : κ) : Option α := (l.find? fun p => decide (p.1 = x)).map (·.2)
def delK {α : Type} (l : List (κ × α)) (x : κ) : List (κ × α) := l.filter fun p => !decide (p.1 = x)
def putK {α : Type} (l : List (κ × α)) (x : κ) (v : α) : List (κ × α) := (x, v) :: delK l x

theorem ent_filter (l : List (κ × Value)) (x : κ) : (l.map ent).filter (notKey (MKey.lit x)) = (delK l x).map ent := by
  unfold delK
  rw [List.filter_map]
  congr 1
  apply List.filter_congr
  intro p _
  simp [Function.comp, notKey, ent, MKey.same]

structure MapRep (P : Program) (k : TypeId) (es : Array MapEntry) (clock : Nat) (l : List (κ × Value)) : Prop where
  fit : Fit P k holdV es clock
  perm : (es.toList.map (rg P k holdV)).Perm (l.map ent)
theorem MapRep.size {P : Program} {k : TypeId} {es : Array MapEntry} {clock : Nat} {l : List (κ × Value)} (h : MapRep P k es clock l) : es.size = l.length := by
  have := h.perm.length_eq
  simpa using this
theorem MapRep.nodup {P : Program} {k : TypeId} {es : Array MapEntry} {clock : Nat} {l : List (κ × Value)} (h : MapRep P k es clock l) (K : Keyed P k) : (l.map (·.1)).Nodup := by
  have h1 := fit_apart K h.fit
  have h2 : (l.map ent).Pairwise (fun p q => p.1 ≠ q.1) := (h.perm.pairwise_iff (fun {_ _} hne => Ne.symm hne)).1 h1
  rw [List.pairwise_map] at h2
  unfold List.Nodup
  rw [List.pairwise_map]
  exact h2.imp fun hne e => hne (by unfold ent; exact congrArg MKey.lit e)
theorem rg_val {P : Program} {k : TypeId} {es : Array MapEntry} {clock : Nat} (F : Fit P k holdV es clock) {x : MapEntry} (hx : x ∈ es.toList) : ∃ kl, keyOf P k x.key = some kl ∧ rg P k holdV x = (kl, .held x.val) := by
  obtain ⟨y, hy⟩ := F.reads x hx
  refine ⟨y.1, rd_key hy, ?_⟩
  rw [rg_of hy]
  obtain ⟨z, hz, hd⟩ := rd_val hy
  have : z = (.held x.val, []) := by
    have : holdV x.val = some (.held x.val, []) := rfl
    rw [this] at hz
    exact (Option.some.inj hz).symm
  rw [this] at hd
  cases y
  simp at hd ⊢
  exact hd
theorem getK_mem {α : Type} {l : List (κ × α)} {x : κ} {v : α} (h : getK l x = some v) : (x, v) ∈ l := by
  unfold getK at h
  cases hf : l.find? (fun p => decide (p.1 = x)) with
  | none => simp [hf] at h
  | some p =>
    simp only [hf, Option.map_some, Option.some.injEq] at h
    have h1 := List.find?_some hf
    have h2 := List.mem_of_find?_eq_some hf
    simp at h1
    subst h1 h
    exact h2
theorem getK_of_mem {α : Type} {l : List (κ × α)} (hn : (l.map (·.1)).Nodup) {x : κ} {v : α} (h : (x, v) ∈ l) : getK l x = some v := by
  induction l with
  | nil => cases h
  | cons p l ih =>
    simp only [List.map_cons, List.nodup_cons] at hn
    unfold getK
    rw [List.find?_cons]
    rcases List.mem_cons.1 h with h | h
    · subst h
      simp
    · have hne : p.1 ≠ x := fun e => hn.1 (by rw [e]; exact List.mem_map.2 ⟨_, h, rfl⟩)
      simp only [hne, decide_false]
      exact ih hn.2 h
theorem getK_none {α : Type} {l : List (κ × α)} {x : κ} : getK l x = none ↔ ∀ p ∈ l, p.1 ≠ x := by
  unfold getK
  simp [List.find?_eq_none]

/-- A map. -/
def mapA (P : Program) (k : TypeId) (b : Nat) (l : List (κ × Value)) : Atom :=
  ⟨fun _ h => ∃ es clock, h b = some (.map es clock) ∧ MapRep P k es clock l, fun _ s => s⟩
variable {P : Program} {k : TypeId} {W : Base} {g w w' : World} {l : List Atom} {b : Nat} {m : List (κ × Value)}
theorem SL.mapO (H : SL W g w (mapA P k b m :: l)) : ∃ es clock, MapRep P k es clock m ∧ SL W g w (obj b (.map es clock) :: l) := by
  obtain ⟨h, be, s, ow, h1, h2, ap, rfl, ⟨es, clock, e, r⟩, s2⟩ := H
  exact ⟨es, clock, r, _, be, s, ow, h1, h2, ap, rfl, e, s2⟩
theorem SL.mapI {es : Array MapEntry} {clock : Nat} (r : MapRep P k es clock m) (H : SL W g w (obj b (.map es clock) :: l)) : SL W g w (mapA P k b m :: l) := by
  obtain ⟨h, be, s, ow, h1, h2, ap, rfl, e, s2⟩ := H
  exact ⟨_, be, s, ow, h1, h2, ap, rfl, ⟨es, clock, e, r⟩, s2⟩
theorem SL.mapNew (H : SL W g w l) (n : New w b (.map #[] 0) w') : SL W g w' (mapA P k b ([] : List (κ × Value)) :: l) := by
  refine (H.new n).mapI ⟨?_, by simp⟩
  obtain ⟨es, clock, h1, h2, h3, h4⟩ := World.ownsMap_made w P k holdV
  have : (World.alloc w (.map #[] 0)).heap[w.heap.size]? = some (.map #[] 0) := heap_alloc_new w _
  rw [this] at h1
  cases h1
  exact h2
theorem SL.mapNodup (H : SL W g w (mapA P k b m :: l)) (K : KeyT P k κ) : (m.map (·.1)).Nodup := by
  obtain ⟨es, clock, r, _⟩ := H.mapO
  exact r.nodup K.keyed
theorem SL.mapLen_le (H : SL W g w (mapA P k b m :: l)) : m.length ≤ maxLen := by
  obtain ⟨es, clock, r, _⟩ := H.mapO
  rw [← r.size]; exact r.fit.size
theorem SL.mapKeys (H : SL W g w (mapA P k b m :: l)) (K : KeyT P k κ) : ∀ p ∈ m, MKey.ok p.1 := by
  obtain ⟨es, clock, r, _⟩ := H.mapO
  intro p hp
  have h1 : ent p ∈ es.toList.map (rg P k holdV) := r.perm.mem_iff.2 (List.mem_map.2 ⟨p, hp, rfl⟩)
  obtain ⟨x, hx, hxe⟩ := List.mem_map.1 h1
  obtain ⟨kl, hk, hr⟩ := rg_val r.fit hx
  rw [hr] at hxe
  have : kl = MKey.lit p.1 := congrArg Prod.fst hxe
  subst this
  exact (K.inv _ _ hk).2
theorem SL.mapLook (c : Bool) (H : SL W g w (mapA P k b m :: l)) (K : KeyT P k κ) {t e : TypeId} (ht : P.underlying t = some (.map k e)) {z : Value} (hz : (zeroValue e).run P w = .ok z w) (x : κ) (hx : MKey.ok x) :
    (Instr.lookup t (.map (some b)) (MKey.val x) c).run P w = .ok (if c then .tuple #[(getK m x).getD z, .bool (getK m x).isSome] else (getK m x).getD z) w := by
  obtain ⟨es, clock, r, H1⟩ := H.mapO
  have hb := H1.has 0
  have hn := r.nodup K.keyed
  rcases fit_look c K.keyed ht hz hb r.fit (K.of x hx) with ⟨hr, hno, _⟩ | ⟨e0, y, he, hke, hr, hy, _⟩
  · have : getK m x = none := getK_none.2 fun p hp e => by
      have h1 : ent p ∈ es.toList.map (rg P k holdV) := r.perm.mem_iff.2 (List.mem_map.2 ⟨p, hp, rfl⟩)
      obtain ⟨q, hq, hqe⟩ := List.mem_map.1 h1
      obtain ⟨kl, hk, hrg⟩ := rg_val r.fit hq
      rw [hrg] at hqe
      have : kl = MKey.lit p.1 := congrArg Prod.fst hqe
      subst this
      rw [e] at hk
      exact hno q hq (K.inv _ _ hk).1
    rw [this]; exact hr
  · have : getK m x = some e0.val := by
      refine getK_of_mem hn ?_
      obtain ⟨kl, hk, hrg⟩ := rg_val r.fit he
      have h1 : rg P k holdV e0 ∈ m.map ent := r.perm.mem_iff.1 (List.mem_map.2 ⟨e0, he, rfl⟩)
      obtain ⟨p, hp, hpe⟩ := List.mem_map.1 h1
      rw [hrg] at hpe
      have h2 : MKey.lit p.1 = kl := congrArg Prod.fst hpe
      have h3 : (DataW.held p.2 : DataW Value) = .held e0.val := congrArg Prod.snd hpe
      rw [hke, K.of x hx] at hk
      have h4 : p.1 = x := MKey.inj _ _ (h2.trans (Option.some.inj hk).symm)
      have h5 : p.2 = e0.val := DataW.held.inj h3
      rw [← h4, ← h5]; exact hp
    rw [this]; exact hr
theorem SL.mapPut (H : SL W g w (mapA P k b m :: l)) (K : KeyT P k κ) {t e : TypeId} (ht : P.underlying t = some (.map k e)) (hlen : m.length < maxLen) (x : κ) (hx : MKey.ok x) (v : Value) :
    ∃ w', (Instr.mapUpdate t (.map (some b)) (MKey.val x) v).run P w = .ok () w' ∧ SL W g w' (mapA P k b (putK m x v) :: l) := by
  obtain ⟨es, clock, r, H1⟩ := H.mapO
  have hb := H1.has 0
  obtain ⟨es', clock', hr, F', hput, _⟩ := fit_store (R' := holdV) K.keyed ht hb r.fit (by rw [r.size]; exact hlen) (fun _ _ _ _ hz => hz) (K.of x hx) (val := v) (yv := (.held v, [])) rfl
  refine ⟨_, hr, (H1.updO0 ⟨rfl, at_lt hb⟩).mapI ⟨F', ?_⟩⟩
  have h1 : (es'.toList.map (rg P k holdV)).Perm (putKey (MKey.lit x) (.held v) ((es.toList.map (rg P k holdV)).foldr DataW.insert [])) := by
    rw [← hput]; exact (sorted_perm _).symm
  refine h1.trans ?_
  have h2 : ∀ (p : Lit × DataW Value) (q : List (Lit × DataW Value)), (DataW.insert p q).Perm (p :: q) := fun p q => by
    induction q with
    | nil => exact List.Perm.refl _
    | cons a q ih =>
      unfold DataW.insert
      split
      · exact List.Perm.refl _
      · exact (List.Perm.cons a ih).trans (List.Perm.swap _ _ _)
  refine (h2 _ _).trans ?_
  unfold putK
  rw [List.map_cons]
  refine List.Perm.cons _ ?_
  rw [← ent_filter]
  exact ((sorted_perm _).trans r.perm).filter _
theorem SL.mapDel (H : SL W g w (mapA P k b m :: l)) (K : KeyT P k κ) {t e ty : TypeId} (ht : P.underlying t = some (.map k e)) (x : κ) (hx : MKey.ok x) :
    ∃ w', (Builtin.delete_ #[t, k] ty #[.map (some b), MKey.val x]).run P w = .ok (.tuple #[]) w' ∧ SL W g w' (mapA P k b (delK m x) :: l) := by
  obtain ⟨es, clock, r, H1⟩ := H.mapO
  have hb := H1.has 0
  obtain ⟨es', hr, F', hle, hdel, _⟩ := fit_drop (ty := ty) K.keyed ht hb r.fit (K.of x hx)
  refine ⟨_, hr, (H1.updO0 ⟨rfl, at_lt hb⟩).mapI ⟨F', ?_⟩⟩
  have h1 : (es'.toList.map (rg P k holdV)).Perm (delKey (MKey.lit x) ((es.toList.map (rg P k holdV)).foldr DataW.insert [])) := by
    rw [← hdel]; exact (sorted_perm _).symm
  refine h1.trans ?_
  rw [← ent_filter]
  exact ((sorted_perm _).trans r.perm).filter _
theorem SL.mapLen (H : SL W g w (mapA P k b m :: l)) {t e : TypeId} (ht : P.underlying t = some (.map k e)) (ty : TypeId) :
    (Builtin.len_ #[t] ty #[.map (some b)]).run P w = .ok (.int .i64 m.length) w := by
  obtain ⟨es, clock, r, H1⟩ := H.mapO
  have hb := H1.has 0
  rw [← r.size]
  simp [Builtin.len_, run_underlying ht, MapKept.run_getObj_map hb, goInt, Result.andThen]

/-! ### The loop over a map (that does not turn in it): 'left': what is still to come -/
def rangeA (P : Program) (k : TypeId) (b r : Nat) (m left : List (κ × Value)) : Atom :=
  ⟨fun _ h => ∃ es clock since seen c0, h b = some (.map es clock) ∧ h r = some (.mapIter (some b) since seen c0) ∧ r ≠ b ∧ MapRep P k es clock m ∧ (∀ x ∈ es.toList, x.born < since) ∧ since ≤ c0 ∧ since ≤ clock ∧
    ((leftOf es seen).toList.map (rg P k holdV)).Perm (left.map ent), fun _ s => s⟩
theorem SL.rangeStart (H : SL W g w (mapA P k b m :: l)) {t e : TypeId} (ht : P.underlying t = some (.map k e)) :
    (Instr.range t (.map (some b))).run P w = .ok (.pointer (some ⟨w.heap.size, 0, none⟩)) (w.alloc (.mapIter (some b) (match w.heap[b]? with | some (.map _ c) => c | _ => 0) #[] (match w.heap[b]? with | some (.map _ c) => c | _ => 0))) ∧
    SL W g (w.alloc (.mapIter (some b) (match w.heap[b]? with | some (.map _ c) => c | _ => 0) #[] (match w.heap[b]? with | some (.map _ c) => c | _ => 0))) (rangeA P k b w.heap.size m m :: l) := by
  obtain ⟨es, clock, r, H1⟩ := H.mapO
  have hb := H1.has 0
  simp only [hb]
  refine ⟨run_range_map w t k e b es clock ht hb, ?_⟩
  have H2 := H1.new (New.mk' w (.mapIter (some b) clock #[] clock))
  have H3 : SL W g _ (obj b (.map es clock) :: obj w.heap.size (.mapIter (some b) clock #[] clock) :: l) := H2.weak fun _ s => s.swap
  obtain ⟨h, be, s, ow, h1, h2, ap, rfl, e1, k1, k2, ap2, rfl, e2, s2⟩ := H3
  have a2 := Hp.apart_join.1 ap
  have hne : w.heap.size ≠ b := by have := at_lt hb; omega
  have e1' : h1 b = some (.map es clock) := e1
  have e2' : k1 w.heap.size = some (.mapIter (some b) clock #[] clock) := e2
  have h1n : h1 w.heap.size = none := by
    rcases a2.1 w.heap.size with q | q
    · exact q
    · rw [e2'] at q; cases q
  refine ⟨_, be, s, ow, h1.join k1, k2, ?_, by rw [Hp.join_assoc], ⟨es, clock, clock, #[], clock, ?_, ?_, hne, r, ?_, Nat.le_refl _, Nat.le_refl _, ?_⟩, s2⟩
  · exact (Hp.apart_join.2 ⟨a2.2.symm, ap2.symm⟩).symm
  · exact Hp.join_left e1'
  · rw [Hp.join_right h1n]; exact e2'
  · exact r.fit.stamped.1
  · have : (leftOf es #[]).toList = es.toList := by simp [leftOf]
    rw [this]; exact r.perm
theorem left_push {es : Array MapEntry} {clock : Nat} (F : Stamped es clock) {seen : Array Nat} {e : MapEntry} (he : e ∈ (leftOf es seen).toList) : (leftOf es seen).toList.Perm (e :: (leftOf es (seen.push e.born)).toList) := by
  have hst := (stamped_iff es clock).1 F
  have hem : e ∈ es.toList := (mem_left he).1
  have hes := (mem_left he).2
  have e1 : (leftOf es (seen.push e.born)).toList = (leftOf es seen).toList.filter (fun x => !(x.born == e.born)) := by
    unfold leftOf
    simp only [Array.toList_filter, List.filter_filter]
    apply List.filter_congr
    intro x _
    rw [contains_push]
    cases seen.contains x.born <;> cases (x.born == e.born) <;> rfl
  have e2 : ((leftOf es seen).toList.map (·.born)).Nodup := by
    have : (leftOf es seen).toList.Sublist es.toList := by
      unfold leftOf; simp only [Array.toList_filter]; exact List.filter_sublist
    exact (this.map _).nodup hst.2.1
  rw [e1]
  generalize (leftOf es seen).toList = L at he e2
  clear e1 hes
  induction L with
  | nil => cases he
  | cons x L ih =>
    simp only [List.map_cons, List.nodup_cons] at e2
    rcases List.mem_cons.1 he with h | h
    · subst h
      rw [List.filter_cons]
      simp only [beq_self_eq_true, Bool.not_true, Bool.false_eq_true, if_false]
      refine List.Perm.cons _ ?_
      rw [List.filter_eq_self.2 fun y hy => ?_]
      have : y.born ≠ e.born := fun q => e2.1 (by rw [← q]; exact List.mem_map.2 ⟨y, hy, rfl⟩)
      simp [this]
    · have : x.born ≠ e.born := fun q => e2.1 (by rw [q]; exact List.mem_map.2 ⟨e, h, rfl⟩)
      rw [List.filter_cons]
      simp only [this, Bool.not_eq_true', beq_eq_false_iff_ne, ne_eq, not_false_eq_true, if_true]
      exact (List.Perm.cons x (ih h e2.2)).trans (List.Perm.swap _ _ _)
theorem SL.rangeNext {r : Nat} {left : List (κ × Value)} (H : SL W g w (rangeA P k b r m left :: l)) (K : KeyT P k κ) (ty : TypeId) :
    (left = [] ∧ (Instr.next (.pointer (some ⟨r, 0, none⟩)) false ty).run P w = .ok (.tuple #[.bool false]) w) ∨
    ∃ x v left' w', left.Perm ((x, v) :: left') ∧ MKey.ok x ∧ (Instr.next (.pointer (some ⟨r, 0, none⟩)) false ty).run P w = .ok (.tuple #[.bool true, MKey.val x, v]) w' ∧
      (Instr.entry (.pointer (some ⟨r, 0, none⟩))).run P w' = .ok (.tuple #[MKey.val x, v]) w' ∧ SL W g w' (rangeA P k b r m left' :: l) := by
  obtain ⟨h, be, s, ow, h1, h2, ap, rfl, ⟨es, clock, since, seen, c0, hb, hr, hne, rep, hold, hsc, hsk, hleft⟩, s2⟩ := H
  have hbw := (ow b _ (Hp.join_left hb)).2.1
  obtain ⟨hW, hrw, hrn⟩ := ow r _ (Hp.join_left hr)
  rcases run_next_at (P := P) w ty r b since c0 seen es clock hrw hbw hold hsc with ⟨h0, hrun⟩ | ⟨e, he, w1, hal, hrun⟩
  · refine .inl ⟨?_, hrun⟩
    have : (leftOf es seen).toList = [] := by
      apply List.eq_nil_of_length_eq_zero; simpa using h0
    rw [this] at hleft
    have := hleft.length_eq
    simp at this
    exact List.eq_nil_of_length_eq_zero this.symm
  · right
    obtain ⟨hem, hes⟩ := mem_left he
    obtain ⟨kl, hk, hrg⟩ := rg_val rep.fit hem
    have hin : rg P k holdV e ∈ left.map ent := hleft.mem_iff.1 (List.mem_map.2 ⟨e, he, rfl⟩)
    obtain ⟨p, hp, hpe⟩ := List.mem_map.1 hin
    rw [hrg] at hpe
    have e1 : MKey.lit p.1 = kl := congrArg Prod.fst hpe
    have e2 : (DataW.held p.2 : DataW Value) = .held e.val := congrArg Prod.snd hpe
    subst e1
    have e3 : p.2 = e.val := DataW.held.inj e2
    obtain ⟨hkv, hok⟩ := K.inv _ _ hk
    obtain ⟨a, c, hac⟩ := List.append_of_mem hp
    have hwl : Le w w1 := by rcases hal with rfl | rfl; exact Le.refl _; exact Le.drew _
    have hr1 : w1.heap[r]? = some (.mapIter (some b) since seen c0) := hwl.keep hrw
    have hb1 : w1.heap[b]? = some (.map es clock) := hwl.keep hbw
    have u : UpdO w1 r (.mapIter (some b) since (seen.push e.born) clock) (setBlock w1 r (.mapIter (some b) since (seen.push e.born) clock)) := ⟨rfl, at_lt hr1⟩
    refine ⟨p.1, e.val, a ++ c, _, ?_, hok, by rw [hkv] at hrun; exact hrun, ?_, ?_⟩
    · rw [hac]
      have : p = (p.1, e.val) := by rw [← e3]
      rw [← this]
      exact List.perm_middle
    · rw [← hkv]
      exact run_entry_at _ r b since seen es clock e u.here (u.keep (Ne.symm hne) hb1) hem ((stamped_iff es clock).1 rep.fit.stamped).2.1
    · have hle := SL.le (l := []) (W := W) (g := g) ⟨fun _ => none, be, s, (fun _ _ h => by cases h), trivial⟩ hwl
      refine ⟨Hp.join (fun q => if q = r then some (.mapIter (some b) since (seen.push e.born) clock) else h1 q) h2, u.below hle.below hW, hle.seesA.updO hrn u, fun q o hq => ?_, _, h2, fun q => ?_, rfl,
        ⟨es, clock, since, seen.push e.born, clock, ?_, if_pos rfl, hne, rep, hold, hsk, hsk, ?_⟩, s2⟩
      · by_cases eq : q = r
        · subst eq
          have : o = .mapIter (some b) since (seen.push e.born) clock := by unfold Hp.join at hq; simp at hq; exact hq.symm
          subst this
          exact ⟨hW, u.here, hrn⟩
        · have hq' : (h1.join h2) q = some o := by unfold Hp.join at hq ⊢; simpa [eq] using hq
          obtain ⟨o1, o2, o3⟩ := ow q o hq'
          exact ⟨o1, u.keep eq (hwl.keep o2), o3⟩
      · by_cases eq : q = r
        · subst eq
          rcases ap q with z | z
          · rw [hr] at z; cases z
          · exact .inr z
        · rcases ap q with z | z
          · left; simp [eq, z]
          · exact .inr z
      · show (if b = r then _ else h1 b) = _
        rw [if_neg (Ne.symm hne)]; exact hb
      · have h3 := (left_push rep.fit.stamped he).map (rg P k holdV)
        rw [List.map_cons, hrg] at h3
        have h4 : (left.map ent).Perm (ent p :: (a ++ c).map ent) := by
          rw [hac, List.map_append, List.map_cons, List.map_append]; exact List.perm_middle
        have h5 := (hleft.symm.trans h3).symm.trans h4
        have h6 : ent p = (MKey.lit p.1, .held e.val) := by unfold ent; rw [e3]
        rw [h6] at h5
        exact List.Perm.cons_inv h5
theorem SL.rangeEnd {r : Nat} {left : List (κ × Value)} (H : SL W g w (rangeA P k b r m left :: l)) : SL W g w (mapA P k b m :: l) := by
  obtain ⟨h, be, s, ow, h1, h2, ap, rfl, ⟨es, clock, since, seen, c0, hb, hr, hne, rep, _⟩, s2⟩ := H
  exact ⟨_, be, s, ow, h1, h2, ap, rfl, ⟨es, clock, hb, rep⟩, s2⟩
end
end Go.Lm
