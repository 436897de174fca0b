/- '[]byte("..")': the literal's row, marked and held from then on. General: no program in sight. -/
import Derived.Test.YtnmaehdklmgfmaaLmUpS
namespace Go.Lm
open Go Go.RowKit
variable {P : Program} {W : Base} {g w w' : World} {l : List Atom}
theorem SL.hold0R {b : Nat} {cs : Array Value} {t : TypeId} {r : Nat × Nat} (H : SL W g w (obj b (.cells cs t r) :: l)) : ∃ g', Mono g g' ∧ SL W g' w l ∧ (∀ i, g'.cell? ⟨b, i, none⟩ = cs[i]?) := by
  obtain ⟨hW, hw, hn⟩ := H.has0
  obtain ⟨h, be, s, o, h1, h2, ap, rfl, s1, s2⟩ := H
  have hlt : b < w.heap.size := (Array.getElem?_eq_some_iff.1 hw).1
  have m : Mono g (withB g w.heap.size b (.cells cs t r)) := fun a v hv => by
    have hne : a.block ≠ b := fun e => by rw [hn a e] at hv; cases hv
    rw [withB_cell s.size a hne]; exact hv
  have hc : ∀ (i : Nat) (sp), (withB g w.heap.size b (.cells cs t r)).cell? ⟨b, i, sp⟩ = w.cell? ⟨b, i, sp⟩ := fun i sp => by
    unfold World.cell? withB
    rw [hw]
    simp [hlt]
  refine ⟨withB g w.heap.size b (.cells cs t r), m, ⟨h2, be, ⟨⟨by simp [withB], fun a v hv => ?_⟩, fun a ha => ?_⟩, fun k x hx => ?_, s2.mono m⟩, fun i => ?_⟩
  · by_cases e : a.block = b
    · have : a = ⟨b, a.off, a.spot⟩ := by cases a; simp_all
      rw [this] at hv ⊢
      rw [hc] at hv; exact hv
    · rw [withB_cell s.size a e] at hv; exact s.mono a v hv
  · have hne : a.block ≠ b := fun e => by
      have h1 : W.n ≤ b := hW
      unfold Base.n at h1
      omega
    rw [withB_cell s.size a hne]; exact s.agr a ha
  · have h1k : h1 k = none := by
      rcases ap k with e | e
      · exact e
      · rw [e] at hx; cases hx
    obtain ⟨o1, o2, o3⟩ := o k x (by rw [Hp.join_right h1k]; exact hx)
    refine ⟨o1, o2, fun a ha => ?_⟩
    have hkb : k ≠ b := fun e => by
      subst e
      rw [show h1 k = some _ from s1] at h1k; cases h1k
    rw [withB_cell s.size a (by rw [ha]; exact hkb)]
    exact o3 a ha
  · rw [hc]
    unfold World.cell?
    rw [hw]
    simp
theorem run_convert_lit {b n c : Nat} {cs : Array Value} {t e : TypeId} (hb : Blk w b cs e) (ht : P.underlying t = some (.slice e)) (he : P.underlying e = some (.int .u8)) :
    ∃ w', (convert t t (.slice (some ⟨b, 0, none⟩) n c)).run P w = .ok (.slice (some ⟨b, 0, none⟩) n c) w' ∧ UpdO w b (.cells cs e (cs.size, cs.size + 1)) w' := by
  have hlt : b < w.heap.size := (Array.getElem?_eq_some_iff.1 hb).1
  have hg : w.heap[b] = .cells cs e (0, 0) := (Array.getElem?_eq_some_iff.1 hb).2
  have hsh : w.shape? b = some (e, cs.size) := by
    unfold World.shape?
    rw [show w.heap[b]? = some (.cells cs e (0, 0)) from hb]
  refine ⟨w.freeze ⟨b, cs.size, none⟩ 1, ?_, ?_, hlt⟩
  · simp [convert, run_underlying ht, run_underlying he, markStringish, hsh]
  · unfold World.freeze
    rw [if_neg (by decide)]
    congr 1
    apply Array.ext
    · simp
    · intro i h1 h2
      rw [Array.getElem_modify]
      by_cases h : b = i
      · subst h
        simp [hg]
      · rw [if_neg h, Array.getElem_setIfInBounds_ne _ h]
theorem S_convert_lit {α : Type} [GoRep α] {ops : Array Oper} {rest : List Oper} {n : Nat} {s : AL} {Q : Exit → Act → World → Prop} {o : Oper} {x : Operand} {d b k : Nat} {t e : TypeId} {cs : Array Value} {ds : List (List Value)} {xs : List α}
    (H : SL W g w (blk b cs e :: l)) (r : RelL g ds xs) (hc : cs.toList = ds.flatten) (hn : xs.length = k) (hm : k ≤ maxLen) (ht : P.underlying t = some (.slice e)) (he : P.underlying e = some (.int .u8))
    (ho : o.op = .convert t t x) (hx : ev s x = some (.slice (some ⟨b, 0, none⟩) k k)) (hw : wants ops s o = some true) (hdd : o.dst = some d) (hnn : Nat.blt d n = true)
    (q : ∀ w' g', Mono g g' → SL W g' w' l → Is g' (.slice (some ⟨b, 0, none⟩) k k) xs → wpR P ops rest n ((d, .slice (some ⟨b, 0, none⟩) k k) :: s) Q w') : wpR P ops (o :: rest) n s Q w := by
  obtain ⟨w', hr, u⟩ := run_convert_lit (n := k) (c := k) (H.blk 0) ht he
  obtain ⟨g', m, H2, hcell⟩ := (H.updO 0 u).hold0R
  subst hn
  refine R_val hw (by unfold knows noSel; rw [ho]; simp [Op.operands, hx]) hdd hnn (v := .slice (some ⟨b, 0, none⟩) xs.length xs.length) (w' := w') (X_conv ho (show rho s x = _ by simp [rho, hx]) hr) (q w' g' m H2 ?_)
  refine is_list.2 (.inr ⟨⟨b, 0, none⟩, xs.length, rfl, Nat.le_refl _, hm, fun i x hx => ?_⟩)
  obtain ⟨c, hr, hcc⟩ := r.get i x hx
  refine ⟨c, fun j v hj => ?_, GoRep.mono m hr⟩
  rw [Addr.add_mid, hcell]
  have h5 := hcc j v hj
  rw [← hc] at h5
  simpa using h5
end Go.Lm
