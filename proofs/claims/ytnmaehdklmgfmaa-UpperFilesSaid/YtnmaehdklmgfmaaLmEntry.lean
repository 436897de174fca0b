/- 'm[k] = v' in two steps: the entry, and what is laid into it. General: no program in sight. -/
import Derived.Test.YtnmaehdklmgfmaaLmMapV
namespace Go.Lm
open Go Go.RowKit Go.Maps Go.ChangeMaps
open Go.WideElems (Fit rd rg pl rd_key rd_val rg_of)
open Go.WideShapes (sorted_perm)
open Go.MapKept
section
variable {κ : Type} [MKey κ] {P : Program} {k : TypeId} {W : Base} {g w : World} {l : List Atom} {m : List (κ × Value)} {b : Nat}
/-- Blocks of cells stand. -/
def KeepsB (w w' : World) : Prop := ∀ (b : Nat) (cs : Array Value) (t : TypeId), Blk w b cs t → Blk w' b cs t
theorem keeps_set {es : Array MapEntry} {c : Nat} {o : Obj} (h : w.heap[b]? = some (.map es c)) : KeepsB w (setBlock w b o) := fun k cs t hk => by
  have hne : b ≠ k := fun e => by
    subst e
    unfold Blk at hk
    rw [h] at hk; cases hk
  unfold Blk at *
  simp only [setBlock]
  rw [Array.getElem?_setIfInBounds_ne hne]; exact hk
/-- A map, of which the entry of key x bears stamp st. -/
def mapSA (P : Program) (k : TypeId) (b : Nat) (m : List (κ × Value)) (x : κ) (st : Nat) : Atom :=
  ⟨fun _ h => ∃ es clock, h b = some (.map es clock) ∧ MapRep P k es clock m ∧ ∃ e ∈ es.toList, e.key = MKey.val x ∧ e.born = st, fun _ s => s⟩
theorem run_mapEntry {t e : TypeId} {es : Array MapEntry} {clock : Nat} {key z : Value} {kl : Lit} (K : Keyed P k) (ht : P.underlying t = some (.map k e)) (hz : (zeroValue e).run P w = .ok z w) (hb : w.heap[b]? = some (.map es clock)) (F : Fit P k holdV es clock) (hkey : keyOf P k key = some kl) :
    ∃ (val : Value) (st : Nat) (es' : Array MapEntry) (clock' : Nat), (Instr.mapEntry t (.map (some b)) key).run P w = .ok (.tuple #[val, goInt st]) (setBlock w b (.map es' clock')) ∧ (Instr.mapUpdate t (.map (some b)) key val).run P w = .ok () (setBlock w b (.map es' clock')) ∧ ∃ e ∈ es'.toList, e.key = key ∧ e.born = st := by
  rcases K.find w hkey es.toList F.keys with ⟨h1, h2⟩ | ⟨j, e0, h1, h2, h3⟩
  · refine ⟨z, clock, es.push ⟨key, z, clock⟩, clock + 1, ?_, ?_, ⟨key, z, clock⟩, by simp, rfl, rfl⟩
    · simp [Instr.mapEntry, run_underlying ht, MapKept.run_getObj_map hb, K.check w false hkey, h1, hz, MapKept.run_setObj_map _ hb, Result.andThen, setBlock]
    · simp [Instr.mapUpdate, run_underlying ht, MapKept.run_getObj_map hb, K.check w false hkey, h1, MapKept.run_setObj_map _ hb, Result.andThen, setBlock]
  · have hj : es[j]? = some e0 := by simpa using h2
    have hm : (es.modify j fun e => { e with key := key }) = es.modify j fun e => { e with key := key, val := e0.val } := by
      apply Array.ext_getElem?
      intro i
      rw [Array.getElem?_modify, Array.getElem?_modify]
      by_cases e : j = i
      · subst e; rw [if_pos rfl, if_pos rfl, hj]; rfl
      · rw [if_neg e, if_neg e]
    refine ⟨e0.val, e0.born, es.modify j fun e => { e with key := key, val := e0.val }, clock, ?_, ?_, { e0 with key := key, val := e0.val }, ?_, rfl, rfl⟩
    · simp [Instr.mapEntry, run_underlying ht, MapKept.run_getObj_map hb, K.check w false hkey, h1, hj, h3, K.stays w hkey, MapKept.run_setObj_map _ hb, Result.andThen, setBlock, hm]
    · simp [Instr.mapUpdate, run_underlying ht, MapKept.run_getObj_map hb, K.check w false hkey, h1, hj, h3, K.stays w hkey, MapKept.run_setObj_map _ hb, Result.andThen, setBlock]
    · refine List.mem_of_getElem? (i := j) ?_
      rw [Array.getElem?_toList, Array.getElem?_modify, if_pos rfl, hj]; rfl
theorem SL.mapEntry (H : SL W g w (mapA P k b m :: l)) (K : KeyT P k κ) {t e : TypeId} (ht : P.underlying t = some (.map k e)) {z : Value} (hz : (zeroValue e).run P w = .ok z w) (hlen : m.length < maxLen) (x : κ) (hx : MKey.ok x) :
    ∃ (val : Value) (st : Nat) (w' : World), (Instr.mapEntry t (.map (some b)) (MKey.val x)).run P w = .ok (.tuple #[val, goInt st]) w' ∧ SL W g w' (mapSA P k b (putK m x val) x st :: l) := by
  obtain ⟨es, clock, r, H1⟩ := H.mapO
  have hb := H1.has 0
  obtain ⟨val, st, es', clock', h1, h2, e', he, hk, hs⟩ := run_mapEntry K.keyed ht hz hb r.fit (K.of x hx)
  obtain ⟨w', h3, H3⟩ := H.mapPut K ht hlen x hx val
  rw [h2] at h3
  cases h3
  refine ⟨val, st, _, h1, ?_⟩
  obtain ⟨h, be, s, ow, g1, g2, ap, rfl, ⟨es2, clock2, hb2, r2⟩, s2⟩ := H3
  have hb3 := (ow b _ (Hp.join_left hb2)).2.1
  have hb4 : (setBlock w b (.map es' clock')).heap[b]? = some (.map es' clock') := by simp [setBlock, at_lt hb]
  rw [hb4] at hb3
  cases hb3
  exact ⟨_, be, s, ow, g1, g2, ap, rfl, ⟨es', clock', hb2, r2, e', he, hk, hs⟩, s2⟩
theorem SL.entryStore {x : κ} {st : Nat} {val : Value} (H : SL W g w (mapSA P k b (putK m x val) x st :: l)) (K : KeyT P k κ) (hx : MKey.ok x) (t : TypeId) (v : Value) :
    ∃ w', (Instr.entryStore t (.map (some b)) (goInt st) v).run P w = .ok () w' ∧ SL W g w' (mapA P k b (putK m x v) :: l) ∧ KeepsB w w' := by
  obtain ⟨h, be, s, ow, g1, g2, ap, rfl, ⟨es, clock, hb, r, e, he, hke, hse⟩, s2⟩ := H
  have hbw := (ow b _ (Hp.join_left hb)).2.1
  have hst := (stamped_iff es clock).1 r.fit.stamped
  obtain ⟨j, hj⟩ := List.getElem?_of_mem he
  have hjl : j < es.size := by simpa using (List.getElem?_eq_some_iff.1 hj).1
  have hje : es[j]? = some e := by simpa using hj
  have hf : es.findIdx? (fun e => (e.born : Int) == (st : Int)) = some j := by
    rw [Array.findIdx?_eq_some_iff_getElem]
    have e1 : es[j] = e := by rw [Array.getElem?_eq_getElem hjl] at hje; exact Option.some.inj hje
    refine ⟨hjl, by rw [e1]; simp [hse], fun i hi => ?_⟩
    have hi' : i < es.size := by omega
    intro hc
    have hb1 : es[i].born = st := Int.ofNat_inj.1 (eq_of_beq hc)
    have h1 := hst.2.1
    have h2 : (es.toList.map (·.born))[i]? = some st := by simp [hi', hb1]
    have h3 : (es.toList.map (·.born))[j]? = some st := by simp [hjl, e1, hse]
    have := (List.getElem?_inj (by simpa using hi') h1).1 (h2.trans h3.symm)
    omega
  let es' := es.modify j fun e => { e with val := v }
  have hrun : (Instr.entryStore t (.map (some b)) (goInt st) v).run P w = .ok () (setBlock w b (.map es' clock)) := by
    simp [Instr.entryStore, MapKept.run_getObj_map hbw, goInt, asInt, asIntOf, hf, MapKept.run_setObj_map _ hbw, Result.andThen, setBlock, es']
  refine ⟨_, hrun, ?_, keeps_set hbw⟩
  have hlist : es'.toList = es.toList.set j { e with val := v } := by
    apply List.ext_getElem?
    intro i
    rw [Array.getElem?_toList, Array.getElem?_modify, List.getElem?_set]
    by_cases q : j = i
    · subst q; rw [if_pos rfl, if_pos rfl, hje]; simp [hjl]
    · rw [if_neg q, if_neg q, Array.getElem?_toList]
  obtain ⟨kl, hk, hrg⟩ := rg_val r.fit he
  have hkl : kl = MKey.lit x := by rw [hke, K.of x hx] at hk; exact (Option.some.inj hk).symm
  have F' : Fit P k holdV es' clock := by
    refine ⟨by simpa [es'] using r.fit.size, stamped_modify r.fit.stamped _ _ (fun _ _ => rfl) (fun _ _ _ => rfl), fun y hy => ?_⟩
    rw [hlist] at hy
    rcases List.mem_or_eq_of_mem_set hy with hy | rfl
    · exact r.fit.reads y hy
    · exact ⟨(kl, .held v), by
        exact Go.WideElems.rd_mk (R := holdV) (born := e.born) hk (show holdV v = some (.held v, []) from rfl)⟩
  have H1 : SL W g w (obj b (.map es clock) :: l) := ⟨_, be, s, ow, g1, g2, ap, rfl, hb, s2⟩
  refine (H1.updO0 ⟨rfl, at_lt hbw⟩).mapI ⟨F', ?_⟩
  -- the readings: only the one entry's element turns
  have hrg' : rg P k holdV { e with val := v } = (MKey.lit x, .held v) := by
    obtain ⟨kl2, hk2, hrg2⟩ := rg_val F' (x := { e with val := v }) (by rw [hlist]; exact List.mem_iff_getElem.2 ⟨j, by simpa using hjl, by simp⟩)
    rw [hrg2]
    have : kl2 = kl := by
      have h1 : keyOf P k e.key = some kl2 := hk2
      rw [h1] at hk; exact Option.some.inj hk
    rw [this, hkl]
  have hap := Maps.fit_apart K.keyed r.fit
  have hset : ∀ (L : List MapEntry) (j : Nat), L[j]? = some e → (L.set j { e with val := v }).Perm ({ e with val := v } :: L.eraseIdx j) := by
    intro L
    induction L with
    | nil => intro j h; simp at h
    | cons y L ih =>
      intro j h
      cases j with
      | zero => simp
      | succ j => simp only [List.set_cons_succ, List.eraseIdx_cons_succ]; exact (List.Perm.cons y (ih j (by simpa using h))).trans (List.Perm.swap _ _ _)
  have hset2 : ∀ (L : List MapEntry) (j : Nat), L[j]? = some e → L.Perm (e :: L.eraseIdx j) := by
    intro L
    induction L with
    | nil => intro j h; simp at h
    | cons y L ih =>
      intro j h
      cases j with
      | zero => simp at h; subst h; simp
      | succ j => simp only [List.eraseIdx_cons_succ]; exact (List.Perm.cons y (ih j (by simpa using h))).trans (List.Perm.swap _ _ _)
  have p1 := (hset es.toList j hj).map (rg P k holdV)
  have p2 := (hset2 es.toList j hj).map (rg P k holdV)
  rw [List.map_cons, hrg'] at p1
  rw [List.map_cons, hrg, hkl] at p2
  have p3 : ((MKey.lit x, DataW.held e.val) :: (es.toList.eraseIdx j).map (rg P k holdV)).Perm (ent (x, val) :: (delK m x).map ent) := p2.symm.trans r.perm
  -- the entry of key x is the one
  have hmem : (MKey.lit x, (DataW.held e.val : DataW Value)) ∈ ent (x, val) :: (delK m x).map ent := p3.mem_iff.1 (by simp)
  have hval : ent (x, val) = (MKey.lit x, (DataW.held e.val : DataW Value)) := by
    rcases List.mem_cons.1 hmem with h | h
    · exact h.symm
    · obtain ⟨q, hq, hqe⟩ := List.mem_map.1 h
      have h1 : MKey.lit q.1 = MKey.lit x := congrArg Prod.fst hqe
      have h2 := MKey.inj _ _ h1
      unfold delK at hq
      have := (List.mem_filter.1 hq).2
      simp [h2] at this
  rw [hval] at p3
  have p4 := List.Perm.cons_inv p3
  rw [hlist]
  refine p1.trans ?_
  unfold putK
  rw [List.map_cons]
  exact List.Perm.cons _ p4
end
end Go.Lm
