/- Texts of mine, laid together: LmVn LmVnb LmVnc LmVnd LmVo LmVp LmVq LmVr LmVs LmVt LmVu LmVv LmVw LmVx LmVy LmVz LmWa. -/
import Derived.Test.YthlmnlajmakfnaaGreatQ2
import Derived.Lib.Bytealg
import Derived.Lib.Bytes
set_option linter.unusedVariables false
namespace Go.Lm
open Go Go.RowKit
section
variable {W : Base} {F : List Atom} {b : Bs} {E E' E2 : Env} {g w : World} {n : Nat} {a : Act} {s : Ov}
theorem set_gone {H : List HO} {l : Nat} {o : HO} : ∀ {ls : List Nat}, l ∉ ls → (goneAll H ls).set l o = goneAll (H.set l o) ls
 | [], _ => rfl
 | m :: r, h => by
  unfold goneAll
  have h1 : m ≠ l := fun e => h (by simp [e])
  rw [← set_gone (fun q => h (List.mem_cons_of_mem _ q)), List.set_comm _ _ h1]
theorem layBack_ok {ls0 : List Nat} {n0 : Nat} (hr : RenOk (backL ls0 n0) E2 E') : ∀ {ls : List Nat} {H : List HO} {s : Ov} {k : Nat} {h : Hp}, ls.Nodup → ls.length ≤ H.length → (∀ i l, ls[i]? = some l → backL ls0 n0 (k + i) = some l ∧ l < s.n) → (∀ i, backL ls0 n0 (k + ls.length + i) = some (s.n + i)) →
  sats g (atomsO E2 k H ++ (atomsO E' 0 (goneAll (b.heap s) ls) ++ F)) h → sats g (atomsO E' 0 (b.heap (layBack ls0 n0 ls H s)) ++ F) h
 | [], [], s, k, _, _, _, _, _, x => x
 | l :: ls, [], _, _, _, _, hl, _, _, _ => by simp at hl
 | l :: ls, o :: H, s, k, _, hn, hl, h1, h2, x => by
  rw [List.nodup_cons] at hn
  obtain ⟨q1, q2⟩ := h1 0 l rfl
  obtain ⟨k1, k2, ap, e, s1, s2⟩ := x
  have s3 := sats.toEnd (A := atomsO E2 (k + 1) H) (F := atomsO E' 0 (goneAll (b.heap s) (l :: ls)) ++ F) ⟨k1, k2, ap, e, atomO.ren hr q1 s1, s2⟩
  have s4 := sats.under (A := atomsO E2 (k + 1) H) (fun h => sats.put1 (by rw [goneAll_len, heap_len]; exact q2)) s3
  have e1 : (goneAll (b.heap s) (l :: ls)).set l (o.ren (backL ls0 n0)) = goneAll (b.heap (s.setO l (o.ren (backL ls0 n0)))) ls := by
   rw [heap_setO q2, ← set_gone hn.1]
   show ((goneAll (b.heap s) ls).set l HO.gone).set l _ = _
   rw [List.set_set]
  rw [e1] at s4
  exact layBack_ok hr (s := s.setO l (o.ren (backL ls0 n0))) hn.2 (by simpa using hl) (fun i m hm => by
   have := h1 (i + 1) m (by simpa using hm)
   rw [show k + (i + 1) = k + 1 + i by omega] at this; exact this) (fun i => by
   have := h2 i
   rw [List.length_cons] at this
   rw [show k + 1 + ls.length + i = k + (ls.length + 1) + i by omega]; exact this) s4
 | [], o :: H, s, k, _, hn, hl, h1, h2, x => by
  obtain ⟨k1, k2, ap, e, s1, s2⟩ := x
  have q := h2 0
  simp only [List.length_nil, Nat.add_zero] at q
  have s3 := sats.toEnd (A := atomsO E2 (k + 1) H) (F := atomsO E' 0 (b.heap s) ++ F) ⟨k1, k2, ap, e, atomO.ren hr q s1, s2⟩
  have s4 := sats.under (A := atomsO E2 (k + 1) H) (fun h (y : sats g (atomO E' s.n (o.ren (backL ls0 n0)) :: (atomsO E' 0 (b.heap s) ++ F)) h) => by
   have := sats.toEnd y
   show sats g (atomsO E' 0 (b.heap s ++ [o.ren (backL ls0 n0)]) ++ F) h
   rw [atomsO_app, Nat.zero_add, heap_len, List.append_assoc]; exact this) s3
  refine layBack_ok hr (ls := []) (k := k + 1) (s := s.new (o.ren (backL ls0 n0))) hn (Nat.zero_le _) (fun i l h => by simp at h) (fun i => ?_) ?_
  ·have := h2 (i + 1)
   simp only [List.length_nil, Nat.add_zero] at this ⊢
   rw [show k + 1 + i = k + (i + 1) by omega, this]
   congr 1
   show s.n + (i + 1) = s.n + 1 + i; omega
  ·show sats g (atomsO E2 (k + 1) H ++ (atomsO E' 0 (b.heap (s.new (o.ren (backL ls0 n0)))) ++ F)) _
   rw [heap_new]; exact s4
theorem layBack_f {ls0 : List Nat} {n0 : Nat} : ∀ {ls : List Nat} {H : List HO} {s : Ov}, (layBack ls0 n0 ls H s).f = s.f
 | [], [], _ => rfl
 | _ :: _, [], _ => rfl
 | l :: ls, o :: H, s => by
  show (layBack ls0 n0 ls H (s.setO l _)).f = _
  rw [layBack_f]; rfl
 | [], o :: H, s => by
  show (layBack ls0 n0 [] H (s.new _)).f = _
  rw [layBack_f]; rfl
theorem layBack_n {ls0 : List Nat} {n0 : Nat} : ∀ {ls : List Nat} {H : List HO} {s : Ov}, ls.length ≤ H.length → (layBack ls0 n0 ls H s).n = s.n + (H.length - ls.length)
 | [], [], s, _ => by simp [layBack]
 | _ :: _, [], _, h => by simp at h
 | l :: ls, o :: H, s, h => by
  show (layBack ls0 n0 ls H (s.setO l _)).n = _
  rw [layBack_n (by simpa using h)]
  show s.n + _ = s.n + _
  simp
 | [], o :: H, s, _ => by
  show (layBack ls0 n0 [] H (s.new _)).n = _
  rw [layBack_n (Nat.zero_le _)]
  show s.n + 1 + _ = s.n + _
  simp; omega
theorem layBack_top {ls0 : List Nat} {n0 : Nat} : ∀ {ls : List Nat} {H : List HO} {s : Ov}, (∀ l ∈ ls, l < s.n) → (∀ l, s.n ≤ l → b.obj s l = .gone) → ∀ l, (layBack ls0 n0 ls H s).n ≤ l → b.obj (layBack ls0 n0 ls H s) l = .gone
 | [], [], _, _, h => h
 | _ :: _, [], _, _, h => h
 | l :: ls, o :: H, s, hl, h => by
  show ∀ q, (layBack ls0 n0 ls H (s.setO l _)).n ≤ q → b.obj (layBack ls0 n0 ls H (s.setO l _)) q = .gone
  refine layBack_top (fun m hm => hl m (by simp [hm])) fun q hq => ?_
  have hq' : s.n ≤ q := hq
  rw [obj_setO, if_neg (by have := hl l (by simp); omega)]
  exact h q hq'
 | [], o :: H, s, hl, h => by
  show ∀ q, (layBack ls0 n0 [] H (s.new _)).n ≤ q → b.obj (layBack ls0 n0 [] H (s.new _)) q = .gone
  refine layBack_top (fun m hm => by simp at hm) fun q hq => ?_
  have hq' : s.n + 1 ≤ q := hq
  rw [obj_new, if_neg (by omega)]
  exact h q (by omega)
theorem idxN_get : ∀ {ls : List Nat} {l i : Nat}, idxN ls l = some i → ls[i]? = some l
 | [], _, _, h => by cases h
 | m :: r, l, i, h => by
  unfold idxN at h
  by_cases e : m = l
  ·subst e
   have : i = 0 := by simpa using h.symm
   subst this; rfl
  ·rw [beq_ne e] at h
   simp only [cond_false] at h
   split at h
   ·rename_i j hj
    obtain rfl := Option.some.inj h
    simpa using idxN_get hj
   ·cases h
theorem idxN_mem : ∀ {ls : List Nat}, ls.Nodup → ∀ {i l : Nat}, ls[i]? = some l → idxN ls l = some i
 | [], _, _, _, h => by simp at h
 | m :: r, hn, 0, l, h => by
  have : m = l := by simpa using h
  subst this
  simp [idxN]
 | m :: r, hn, i + 1, l, h => by
  rw [List.nodup_cons] at hn
  have h' : r[i]? = some l := by simpa using h
  have hne : m ≠ l := fun e => hn.1 (by rw [e]; exact List.mem_of_getElem? h')
  unfold idxN
  rw [beq_ne hne]
  simp only [cond_false]
  rw [idxN_mem hn.2 h']
theorem factC_ok {p : Prop} : ∀ {c : Cl} {u : Value}, RelC E g c u → factC c p → p := by
 intro c u r h
 unfold factC at h
 split at h
 ·exact h r.2
 ·exact h r.2
 ·exact h (isD_len r)
 ·exact h
theorem factCs_ok {p : Prop} : ∀ {l : List Cl} {us : List Value}, RelCs E g l us → factCs l p → p
 | [], _, _, h => h
 | _ :: _, _, ⟨_, _, _, h1, h2⟩, h => factCs_ok h2 (factC_ok h1 h)
theorem factS_ok {p : Prop} : ∀ {x : S1} {u : Value}, RelS E g x u → factS x p → p
 | .c _, _, r, h => factC_ok r h
 | .agg _, _, ⟨_, r, _⟩, h => factCs_ok r h
theorem factSs_ok {p : Prop} : ∀ {l : List S1} {us : List Value}, RelSs E g l us → factSs l p → p
 | [], _, _, h => h
 | _ :: _, _, ⟨_, _, _, h1, h2⟩, h => factSs_ok h2 (factS_ok h1 h)
theorem factV_ok {p : Prop} : ∀ {x : SV} {u : Value}, RelV E g x u → factV x p → p
 | .v _, _, r, h => factS_ok r h
 | .tup _, _, ⟨_, r, _⟩, h => factSs_ok r h
 | .any, _, _, h => h
theorem factVs_ok {p : Prop} : ∀ {l : List SV} {us : List Value}, RelVs E g l us → factVs l p → p
 | [], _, _, h => h
 | _ :: _, _, ⟨_, _, _, h1, h2⟩, h => factVs_ok h2 (factV_ok h1 h)
theorem run_callV {P : Program} {ct : FuncId → Ct} (hct : ∀ f args H Q, ct f args H Q → WpW W P f args H Q) (S : Sta n W F b E g w s a) {f : FuncId} {args : List SV} {vs : List Value} {K : SV → Ov → Prop} (hv : RelVs E g args vs) (h : callV ct b s f args K) : Ret P f vs.toArray w (Out n W F b E g a K) := by
 unfold callV at h
 simp only at h
 generalize hls : reachL (b.obj s) 1000 (labelsAll args) [] = ls at h
 obtain ⟨hchk, h⟩ := if_ok h
 rw [Bool.and_eq_true, nodupN_iff] at hchk
 obtain ⟨hn, hlt⟩ := hchk
 have hlt' : ∀ l ∈ ls, l < s.n := fun l hl => by have := List.all_eq_true.1 hlt l hl; simpa using this
 have hEl : ∀ l ∈ ls, ∃ v, E[l]? = some v := fun l hl => ⟨_, List.getElem?_eq_getElem (by rw [S.len]; exact hlt' l hl)⟩
 -- the callee's labels
 have hr1 : RenOk (idxN ls) E (ls.map fun l => (E[l]?).getD undef) := fun l l' v h1 h2 => by
  have := idxN_get h1
  rw [List.getElem?_map, this]
  simp [h2]
 have hsat : Sat W (ls.map fun l => (E[l]?).getD undef) g w (ls.map fun l => (b.obj s l).ren (idxN ls)) (atomsO E 0 (goneAll (b.heap s) ls) ++ F) := by
  refine ⟨S.sat.sl.weak fun h0 x => ?_, by simp⟩
  have x1 := sats.takeAll (ob := b.obj s) hn (fun l hl => heap_get (hlt' l hl)) x
  have x2 := sats.comm x1
  exact sats.selRen hr1 (k := 0) (fun i l hi => by rw [Nat.zero_add]; exact idxN_mem hn hi) x2
 refine Ret.mono (hct _ _ _ _ h g w _ _ vs hsat (RelVs.ren hr1 hv)) ?_
 rintro v w' ⟨E2, g', sv, H', hle, hm, hs, hsv, h⟩
 obtain ⟨hlen, h⟩ := if_ok h
 have hlen' : ls.length ≤ H'.length := Nat.le_of_ble_eq_true hlen
 have hE2 : E2.length = H'.length := hs.len
 -- the caller's labels
 have hback : ∀ l, backL ls s.n l = if l < ls.length then ls[l]? else some (s.n + (l - ls.length)) := fun l => by
  unfold backL
  by_cases hl : l < ls.length
  ·rw [if_pos hl, List.getElem?_eq_getElem hl]
  ·rw [if_neg hl, List.getElem?_eq_none (by omega)]
 have hr2 : RenOk (backL ls s.n) E2 (E ++ E2.drop ls.length) := fun l l' v h1 h2 => by
  rw [hback] at h1
  by_cases hl : l < ls.length
  ·rw [if_pos hl] at h1
   have h3 : l' < s.n := hlt' l' (List.mem_of_getElem? h1)
   obtain ⟨u, hu⟩ := hEl l' (List.mem_of_getElem? h1)
   rw [List.getElem?_append_left (by rw [S.len]; exact h3)]
   have := hle l u (by rw [List.getElem?_map, h1]; simp [hu])
   rw [h2] at this
   rw [hu, ← this]
  ·rw [if_neg hl] at h1
   obtain rfl := Option.some.inj h1
   rw [List.getElem?_append_right (by rw [S.len]; omega), S.len, List.getElem?_drop, ← h2]
   congr 1; omega
 have hel : (E ++ E2.drop ls.length).length = s.n + (H'.length - ls.length) := by
  rw [List.length_append, S.len, List.length_drop, hE2]
 refine ⟨E ++ E2.drop ls.length, g', layBack ls s.n ls H' s, sv.ren (backL ls s.n), EnvLe.app E _, hm, ⟨S.size, S.defers, fun t u hu => ?_, ⟨?_, ?_⟩, ?_⟩, RelV.ren hr2 hsv, factV_ok hsv h⟩
 ·have : b.slot (layBack ls s.n ls H' s) t = b.slot s t := by unfold Bs.slot; rw [layBack_f]
  rw [this] at hu
  exact (S.fr t u hu).mono (EnvLe.app E _) hm
 ·refine hs.sl.weak fun h0 x => ?_
  refine layBack_ok hr2 (k := 0) hn hlen' (fun i l hi => ⟨?_, hlt' l (List.mem_of_getElem? hi)⟩) (fun i => ?_) (sats.under (A := atomsO E2 0 H') (fun h => atomsO.env (EnvLe.app E _)) x)
  ·rw [hback, Nat.zero_add, if_pos (List.getElem?_eq_some_iff.1 hi).1, hi]
  ·rw [hback, if_neg (by omega)]
   congr 1; omega
 ·rw [hel, heap_len, layBack_n hlen']
 ·exact layBack_top hlt' S.top
theorem factC_mono {p q : Prop} (k : p → q) : ∀ {c : Cl}, factC c p → factC c q := by
 intro c h
 cases c with
 | k v => cases v <;> first | exact k h | exact fun e => k (h e)
 | d e x => exact fun e => k (h e)
 | _ => exact k h
theorem factCs_mono {p q : Prop} (k : p → q) : ∀ {l : List Cl}, factCs l p → factCs l q
 | [], h => k h
 | _ :: _, h => factC_mono (factCs_mono k) h
theorem factS_mono {p q : Prop} (k : p → q) : ∀ {x : S1}, factS x p → factS x q
 | .c _, h => factC_mono k h
 | .agg _, h => factCs_mono k h
theorem factSs_mono {p q : Prop} (k : p → q) : ∀ {l : List S1}, factSs l p → factSs l q
 | [], h => k h
 | _ :: _, h => factS_mono (factSs_mono k) h
theorem factV_mono {p q : Prop} (k : p → q) : ∀ {x : SV}, factV x p → factV x q
 | .v _, h => factS_mono k h
 | .tup _, h => factSs_mono k h
 | .any, h => k h
theorem ren_back {ls : List Nat} {n0 l : Nat} (h : l ∈ ls) : ∃ i, idxN ls l = some i ∧ backL ls n0 i = some l := by
 have key : ∀ {ls : List Nat}, l ∈ ls → ∃ i, idxN ls l = some i := fun {ls} => by
  induction ls with
  | nil => intro h; cases h
  | cons m r ih =>
   intro h
   unfold idxN
   by_cases e : m = l
   ·subst e; exact ⟨0, by simp⟩
   ·rw [beq_ne e]
    obtain ⟨i, hi⟩ := ih ((List.mem_cons.1 h).resolve_left (Ne.symm e))
    exact ⟨i + 1, by simp only [cond_false, hi]⟩
 obtain ⟨i, hi⟩ := key h
 refine ⟨i, hi, ?_⟩
 unfold backL
 rw [idxN_get hi]
mutual
theorem Cl.ren_same {r1 r2 : Nat → Option Nat} : ∀ {c : Cl}, (∀ l ∈ c.labels, ∃ i, r1 l = some i ∧ r2 i = some l) → (c.ren r1).ren r2 = c
 | .k _, _ => rfl
 | .d _ _, _ => rfl
 | .de _ _ _ _, _ => rfl
 | .unk, _ => rfl
 | .p l off, h => by obtain ⟨i, h1, h2⟩ := h l (by simp [Cl.labels]); simp only [Cl.ren, h1, h2]
 | .o l, h => by obtain ⟨i, h1, h2⟩ := h l (by simp [Cl.labels]); simp only [Cl.ren, h1, h2]
 | .os l _ _ _, h => by obtain ⟨i, h1, h2⟩ := h l (by simp [Cl.labels]); simp only [Cl.ren, h1, h2]
 | .oe l _ _ _, h => by obtain ⟨i, h1, h2⟩ := h l (by simp [Cl.labels]); simp only [Cl.ren, h1, h2]
 | .m l, h => by obtain ⟨i, h1, h2⟩ := h l (by simp [Cl.labels]); simp only [Cl.ren, h1, h2]
 | .sc l _ _, h => by obtain ⟨i, h1, h2⟩ := h l (by simp [Cl.labels]); simp only [Cl.ren, h1, h2]
 | .kl l _, h => by obtain ⟨i, h1, h2⟩ := h l (by simp [Cl.labels]); simp only [Cl.ren, h1, h2]
 | .fn f caps, h => by simp only [Cl.ren]; rw [Cl.rens_same (l := caps) fun l hl => h l (by simpa [Cl.labels] using hl)]
 | .ifc t c, h => by simp only [Cl.ren]; rw [Cl.ren_same (c := c) fun l hl => h l (by simpa [Cl.labels] using hl)]
theorem Cl.rens_same {r1 r2 : Nat → Option Nat} : ∀ {l : List Cl}, (∀ x ∈ Cl.labelss l, ∃ i, r1 x = some i ∧ r2 i = some x) → Cl.rens r2 (Cl.rens r1 l) = l
 | [], _ => rfl
 | c :: l, h => by
  simp only [Cl.rens]
  rw [Cl.ren_same (c := c) fun x hx => h x (by simp [Cl.labelss, hx]), Cl.rens_same (l := l) fun x hx => h x (by simp [Cl.labelss, hx])]
end
theorem HO.ren_same {r1 r2 : Nat → Option Nat} : ∀ {o : HO}, (∀ l ∈ o.labels, ∃ i, r1 l = some i ∧ r2 i = some l) → (o.ren r1).ren r2 = o
 | .cells t cs, h => by
  show HO.cells t (Cl.rens r2 (Cl.rens r1 cs)) = _
  rw [Cl.rens_same (l := cs) h]
 | .sl .., _ => rfl
 | .held .., _ => rfl
 | .map .., _ => rfl
 | .abs _, _ => rfl
 | .ab _, _ => rfl
 | .up .., _ => rfl
 | .gone, _ => rfl
theorem layBack_same {ls0 : List Nat} {n0 : Nat} {g : Nat → HO} {s0 : Ov} : ∀ {ls : List Nat} {s : Ov}, (∀ l, b.obj s l = b.obj s0 l) → (∀ l ∈ ls, (g l).ren (backL ls0 n0) = b.obj s0 l) → ∀ l, b.obj (layBack ls0 n0 ls (ls.map g) s) l = b.obj s0 l
 | [], _, h, _ => h
 | l :: ls, s, h, hg => layBack_same (ls := ls) (s := s.setO l ((g l).ren (backL ls0 n0))) (fun k => by
   rw [obj_setO]
   by_cases e : l = k
   ·subst e; rw [if_pos rfl]; exact hg l (by simp)
   ·rw [if_neg e]; exact h k) fun k hk => hg k (by simp [hk])
theorem sameC_ok {p : Prop} : ∀ {c d : Cl}, sameC c d p → c = d ∧ p := by
 intro c d h
 unfold sameC at h
 split at h
 ·exact ⟨by rw [h.1], h.2⟩
 ·obtain ⟨e, h⟩ := if_ok h
  exact ⟨by rw [Nat.eq_of_beq_eq_true e], h⟩
 ·obtain ⟨e, h⟩ := if_ok h
  rw [Bool.and_eq_true] at e
  exact ⟨by rw [Nat.eq_of_beq_eq_true e.1, Nat.eq_of_beq_eq_true e.2], h⟩
 ·obtain ⟨e, h⟩ := if_ok h
  exact ⟨by rw [Nat.eq_of_beq_eq_true e, h.1], h.2⟩
 ·exact h.elim
theorem sameCs_ok {p : Prop} : ∀ {l r : List Cl}, sameCs l r p → l = r ∧ p
 | [], [], h => ⟨rfl, h⟩
 | c :: l, d :: r, h => by
  obtain ⟨e1, h1⟩ := sameC_ok h
  obtain ⟨e2, h2⟩ := sameCs_ok h1
  exact ⟨by rw [e1, e2], h2⟩
 | [], _ :: _, h => h.elim
 | _ :: _, [], h => h.elim
theorem sameO_ok {p : Prop} : ∀ {a b : HO}, sameO a b p → a = b ∧ p := by
 intro a b h
 unfold sameO at h
 split at h
 ·obtain ⟨e, h⟩ := if_ok h
  obtain ⟨e2, h⟩ := sameCs_ok h
  exact ⟨by rw [Nat.eq_of_beq_eq_true e, e2], h⟩
 ·obtain ⟨e, h⟩ := if_ok h
  split at h
  ·rename_i y hy
   obtain ⟨q, hq⟩ := asD_some hy
   subst q
   refine ⟨?_, h.2⟩
   rw [Nat.eq_of_beq_eq_true e, h.1, hq]; rfl
  ·exact h.elim
 ·exact ⟨rfl, h⟩
 ·exact h.elim
theorem sameOs_ok {p : Prop} : ∀ {l r : List HO}, sameOs l r p → l = r ∧ p
 | [], [], h => ⟨rfl, h⟩
 | c :: l, d :: r, h => by
  obtain ⟨e1, h1⟩ := sameO_ok h
  obtain ⟨e2, h2⟩ := sameOs_ok h1
  exact ⟨by rw [e1, e2], h2⟩
 | [], _ :: _, h => h.elim
 | _ :: _, [], h => h.elim
theorem run_callR {P : Program} {ct : FuncId → Ct} (hct : ∀ f args H Q, ct f args H Q → WpW W P f args H Q) (S : Sta n W F b E g w s a) {f : FuncId} {args : List SV} {vs : List Value} {K : SV → Ov → Prop} (hv : RelVs E g args vs) (h : callR ct b s f args K) : Ret P f vs.toArray w (Out n W F b E g a K) := by
 unfold callR at h
 simp only at h
 generalize hls : reachL (b.obj s) 1000 (labelsAll args) [] = ls at h
 obtain ⟨hchk, h⟩ := if_ok h
 rw [Bool.and_eq_true] at hchk
 obtain ⟨hn, hall⟩ := hchk
 have hlt : ∀ l ∈ ls, l < s.n ∧ ∀ q ∈ (b.obj s l).labels, q ∈ ls := fun l hl => by
  have := List.all_eq_true.1 hall l hl
  rw [Bool.and_eq_true] at this
  exact ⟨by simpa using this.1, fun q hq => memN_iff.1 (List.all_eq_true.1 this.2 q hq)⟩
 have h1 := hct _ _ _ _ h
 have h2 : callV (fun f args H Q => WpW W P f args H Q) b s f args (fun r s' => s' = layBack ls s.n ls (ls.map fun l => (b.obj s l).ren (idxN ls)) s ∧ K r s) := by
  unfold callV
  simp only
  rw [hls, if_pos (by rw [Bool.and_eq_true]; exact ⟨hn, List.all_eq_true.2 fun l hl => by simpa using (hlt l hl).1⟩)]
  intro g0 w0 E0 F0 vs0 S0 hv0
  refine (h1 g0 w0 E0 F0 vs0 S0 hv0).mono fun v w' ⟨E', g', sv, H', a1, a2, a3, a4, q⟩ => ⟨E', g', sv, H', a1, a2, a3, a4, ?_⟩
  obtain ⟨e, q2⟩ := sameOs_ok q
  subst e
  rw [if_pos (by simp)]
  exact factV_mono (fun hk => ⟨rfl, hk⟩) q2
 refine (run_callV (ct := fun f args H Q => WpW W P f args H Q) (fun _ _ _ _ h => h) S hv h2).mono fun v w' ⟨E', g', s', sv, a1, a2, S', a4, e, hk⟩ => ⟨E', g', s, sv, a1, a2, ?_, a4, hk⟩
 subst e
 have hobj := layBack_same (b := b) (ls0 := ls) (n0 := s.n) (g := fun l => (b.obj s l).ren (idxN ls)) (s0 := s) (ls := ls) (s := s) (fun _ => rfl) fun l hl => HO.ren_same fun q hq => ren_back ((hlt l hl).2 q hq)
 have hnn : (layBack ls s.n ls (ls.map fun l => (b.obj s l).ren (idxN ls)) s).n = s.n := by rw [layBack_n (by simp)]; simp
 have hheap : b.heap (layBack ls s.n ls (ls.map fun l => (b.obj s l).ren (idxN ls)) s) = b.heap s := by
  unfold Bs.heap
  rw [hnn]
  exact List.map_congr_left fun l _ => hobj l
 refine ⟨S'.size, S'.defers, fun t u hu => S'.fr t u ?_, by rw [← hheap]; exact S'.sat, S.top⟩
 rw [← hu]
 unfold Bs.slot
 rw [layBack_f]
theorem RelVs.app : ∀ {l k : List SV} {us vs : List Value}, RelVs E g l us → RelVs E g k vs → RelVs E g (l ++ k) (us ++ vs)
 | [], _, _, _, h, hk => by rw [show _ = _ from h]; exact hk
 | _ :: _, _, _, _, ⟨u, r, e, h1, h2⟩, hk => by rw [e]; exact ⟨u, r ++ _, rfl, h1, RelVs.app h2 hk⟩
theorem relVs_caps : ∀ {l : List Cl} {us : List Value}, RelCs E g l us → RelVs E g (l.map .c) us
 | [], _, h => h
 | _ :: _, _, ⟨u, r, e, h1, h2⟩ => ⟨u, r, e, h1, relVs_caps h2⟩
theorem opds_ok (S : Sta n W F b E g w s a) : ∀ {l : List Operand} {vs : List SV}, opds b s l = some vs → RelVs E g vs (l.map a.eval)
 | [], vs, h => by
  obtain rfl : [] = vs := Option.some.inj h
  rfl
 | x :: r, vs, h => by
  unfold opds at h
  split at h
  ·rename_i v hv
   split at h
   ·rename_i l hl
    obtain rfl : v :: l = vs := Option.some.inj h
    exact ⟨_, _, rfl, S.opd hv, opds_ok S hl⟩
   ·cases h
  ·cases h
theorem run_call {P : Program} {o : Oper} {c : Call} {fo : Operand} {f : FuncId} {us : Array Value} (ho : o.op = .call c) (hc : c.callee = .value fo) (hf : a.eval fo = .func (.func f) #[] us) (hk : funcOk P f = true) :
  (execOp a.eval o).run P w = .ok (.enter f (c.args.map a.eval ++ us)) w := by
 unfold funcOk at hk
 split at hk
 ·rename_i fn hfn
  simp only [Bool.and_eq_true, Bool.not_eq_true'] at hk
  have h1 : ¬ fn.name = "runtime.NumGoroutine" := by simpa using hk.1
  have h2 : ¬ fn.body = none := fun e => by rw [e] at hk; cases hk.2
  simp only [execOp, ho, resolve, hc, hf, Deferred.ofValue, Array.empty_append]
  simp [invoke, callFunc, hfn, h1, h2, go_sem]
 ·cases hk
end
theorem run_method {P : Program} {t : TypeId} {name : String} {f : FuncId} {v : Value} {w : World} (k : Nat) (h : methF P t name = some f) : (method (k + 1) t v name).run P w = .ok (f, v) w := by
 unfold methF at h
 split at h
 ·rename_i ti hti
  split at h
  ·rename_i m hm
   split at h
   ·rename_i hp
    split at h
    ·rename_i f' e hf hu
     obtain rfl := Option.some.inj h
     have hl : m.path.toList = [] := by
      have : m.path = #[] := by simpa using hp
      rw [this]
     unfold method
     simp [typeInfo, hti, hm, hl, hf, follow, receiverAt, Place.get, underlying, hu, go_sem]
    ·cases h
   ·cases h
  ·cases h
 ·cases h
theorem run_invoke {P : Program} {a : Act} {w : World} {o : Oper} {c : Call} {ro : Operand} {name : String} {f : FuncId} {t : TypeId} {v : Value} (ho : o.op = .call c) (hc : c.callee = .invoke ro name) (hf : a.eval ro = .iface t v) (hm : methF P t name = some f) (hk : funcOk P f = true) :
  (execOp a.eval o).run P w = .ok (.enter f (#[v] ++ c.args.map a.eval)) w := by
 unfold funcOk at hk
 split at hk
 ·rename_i fn hfn
  simp only [Bool.and_eq_true, Bool.not_eq_true'] at hk
  have h1 : ¬ fn.name = "runtime.NumGoroutine" := by simpa using hk.1
  have h2 : ¬ fn.body = none := fun e => by rw [e] at hk; cases hk.2
  have hinv : ∀ A : Array Value, A[0]? = some (.iface t v) → invoke (.fn (.method name) #[]) A = callMethod (.iface t v) name (A.extract 1 A.size) := fun A hA => by
   simp only [invoke, hA]
  have hx : (#[Value.iface t v] ++ c.args.map a.eval)[0]? = some (.iface t v) := by rw [Array.getElem?_append_left (by simp)]; rfl
  have hy : (#[Value.iface t v] ++ c.args.map a.eval).extract 1 (#[Value.iface t v] ++ c.args.map a.eval).size = c.args.map a.eval := by apply Array.ext'; simp [List.take_of_length_le]
  have hres : resolve a.eval c o.type = pure { target := .fn (.method name) #[], args := #[Value.iface t v] ++ c.args.map a.eval } := by simp only [resolve, hc, hf]
  have hmm := run_method (w := w) (v := v) (P.types.size + 99) hm
  have hcm : (callMethod (.iface t v) name (c.args.map a.eval)).run P w = .ok (.enter f (#[v] ++ c.args.map a.eval)) w := by
   simp only [callMethod]
   show (do let p ← program; let z ← method (p.types.size + 99 + 1) t v name; callFunc z.1 (#[z.2] ++ c.args.map a.eval) : Sem Next).run P w = _
   simp [callFunc, hfn, h1, h2, go_sem, hmm]
  have he : execOp a.eval o = (do let d ← resolve a.eval c o.type; invoke d.target d.args) := by simp only [execOp, ho]
  rw [he, hres]
  show (invoke (.fn (.method name) #[]) (#[Value.iface t v] ++ c.args.map a.eval)).run P w = _
  rw [hinv _ hx, hy]
  exact hcm
 ·cases hk
end Go.Lm

namespace Go.Lm
open Go Go.RowKit
section
variable {X : Vx} {n : Nat} {W : Base} {F : List Atom} {b : Bs} {E : Env} {g w : World} {s : Ov} {a : Act} {o : Oper}
theorem br_two {c : Bool} {p q : Prop} (h : br c p q) : (c = true ∧ p) ∨ (c = false ∧ q) := by
 cases c
 ·exact .inr ⟨rfl, h⟩
 ·exact .inl ⟨rfl, h⟩
theorem run_nextV (S : Sta n W F b E g w s a) {x : Operand} {c : Cl} {K : SV → Ov → Prop} (ho : o.op = .next x true) (r : RelC E g c (a.eval x)) (h : nextV b s c K) :
  ∃ v w', (execOp a.eval o).run X.P w = .ok (.value v) w' ∧ Out n W F b E g a K v w' := by
 unfold nextV at h
 split at h
 ·rename_i l
  obtain ⟨bb, hE, hx⟩ := r
  split at h
  ·rename_i z p hob
   have H0 := S.pick hE
   rw [hob] at H0
   obtain ⟨hz, H⟩ : z.size ≤ maxLen ∧ SL W g w (obj bb (.stringIter z p) :: dropA (atomsO E 0 (b.heap s) ++ F) l) := by
    obtain ⟨k, be, se, ow, h1, h2, ap, q, ⟨u, s1, hz, b', e1, s2⟩, s3⟩ := H0
    refine ⟨hz, k, be, se, ow, h1, h2, ap, q, ?_, s3⟩
    rw [hE] at s1
    obtain rfl := Option.some.inj s1
    have : bb = b' := by simpa [ptr] using e1
    rw [this]; exact s2
   have hk := H.has 0
   have hpe : ∀ {m : Nat}, m ≤ 9223372036854775807 → inK .i64 (m : Int) := fun {m} h => by
    show (-9223372036854775808 : Int) ≤ m ∧ (m : Int) ≤ 9223372036854775807
    omega
   have h : (decide (p < z.size) = true ∧ _) ∨ (decide (p < z.size) = false ∧ _) := br_two h
   rcases h with ⟨e, h⟩ | ⟨e, h⟩
   ·have hlt : p < z.size := by simpa using e
    have hr := X_next_yes (P := X.P) hk hlt ho hx
    have hd := decode_le z p
    have H2 := SL.updO0 H (⟨rfl, (Array.getElem?_eq_some_iff.1 hk).1⟩ : UpdO w bb (.stringIter z (p + (Utf8.decode z p).2)) _)
    refine ⟨_, _, hr, E, g, _, _, EnvLe.refl E, Mono.refl g, S.back hE (.ab (.iter z (p + (Utf8.decode z p).2))) (Mono.refl g) (H2.weak fun k ⟨k1, k2, ap, q, s1, s2⟩ => ⟨k1, k2, ap, q, ⟨_, hE, hz, _, rfl, s1⟩, s2⟩), ?_, h⟩
    refine ⟨_, ⟨_, _, rfl, ⟨rfl, rfl⟩, _, _, rfl, ⟨rfl, hpe ?_⟩, _, _, rfl, ⟨rfl, ?_⟩, rfl⟩, rfl⟩
    ·unfold maxLen at hz; omega
    ·show (-2147483648 : Int) ≤ ((Utf8.decode z p).1 : Int) ∧ ((Utf8.decode z p).1 : Int) ≤ 2147483647
     omega
   ·have hge : ¬ p < z.size := by simpa using e
    exact ⟨_, _, X_next_no (P := X.P) hk hge ho hx, E, g, s, .tup [.c (.k (.bool false))], EnvLe.refl E, Mono.refl g, S, ⟨_, ⟨_, _, rfl, ⟨rfl, rfl⟩, rfl⟩, rfl⟩, h⟩
  ·exact h.elim
 ·exact h.elim
theorem copyCs_ok : ∀ {off m j : Nat} {cs cs' : List Cl} {ys : List ByteArray} {us : List Value}, copyCs off m j cs ys = some cs' → (∀ y ∈ ys, y.size ≤ maxLen) → RelCs E g cs us →
  off + m ≤ us.length ∧ RelCs E g cs' (us.take off ++ (((ys.drop j).take m).map Value.string ++ us.drop (off + ((ys.drop j).take m).length)))
 | 0, 0, j, cs, cs', ys, us, h, _, hc => by
  simp only [copyCs, Option.some.injEq] at h
  subst h
  simpa using hc
 | 0, m + 1, j, c :: r, cs', ys, us, h, hy, ⟨u, q, e, h1, h2⟩ => by
  subst e
  unfold copyCs at h
  split at h
  ·rename_i z
   split at h
   ·rename_i l hl
    obtain rfl := Option.some.inj h
    obtain ⟨h3, h4⟩ := copyCs_ok hl hy h2
    refine ⟨by simp only [List.length_cons]; omega, ?_⟩
    cases hj : ys[j]? with
    | some y =>
     have hd : ys.drop j = y :: ys.drop (j + 1) := by
      obtain ⟨hlt, e⟩ := List.getElem?_eq_some_iff.1 hj
      rw [List.drop_eq_getElem_cons hlt, e]
     rw [hd, List.take_succ_cons]
     simp only [List.take_zero, List.nil_append, List.map_cons, List.length_cons, Option.getD_some, List.cons_append, Nat.zero_add] at h4 ⊢
     rw [List.drop_succ_cons]
     exact ⟨_, _, rfl, ⟨rfl, hy y (List.mem_of_getElem? hj)⟩, h4⟩
    | none =>
     have hlen : ys.length ≤ j := by simpa using hj
     rw [List.drop_eq_nil_of_le (by omega : ys.length ≤ j + 1)] at h4
     rw [List.drop_eq_nil_of_le hlen]
     simp only [List.take_nil, List.map_nil, List.length_nil, List.take_zero, List.nil_append, Nat.add_zero, List.drop_zero, Option.getD_none] at h4 ⊢
     obtain ⟨rfl, hz⟩ := h1
     exact ⟨_, _, rfl, ⟨rfl, hz⟩, h4⟩
   ·cases h
  ·cases h
 | off + 1, m, j, c :: r, cs', ys, us, h, hy, ⟨u, q, e, h1, h2⟩ => by
  subst e
  unfold copyCs at h
  split at h
  ·rename_i l hl
   obtain rfl := Option.some.inj h
   obtain ⟨h3, h4⟩ := copyCs_ok hl hy h2
   refine ⟨by simp only [List.length_cons]; omega, ?_⟩
   rw [List.take_succ_cons, show off + 1 + ((ys.drop j).take m).length = (off + ((ys.drop j).take m).length) + 1 by omega, List.drop_succ_cons]
   exact ⟨_, _, rfl, h1, h4⟩
  ·cases h
 | 0, m + 1, j, [], _, _, _, h, _, _ => by cases h
 | off + 1, m, j, [], _, _, _, h, _, _ => by cases h
theorem strs_flat {ds : List (List Value)} : ∀ {ys : List ByteArray}, RelL g ds ys → ds.flatten = ys.map Value.string ∧ ∀ y ∈ ys, y.size ≤ maxLen := by
 induction ds with
 | nil =>
  intro ys h
  cases ys with
  | nil => exact ⟨rfl, fun _ h => by cases h⟩
  | cons _ _ => exact h.elim
 | cons d ds ih =>
  intro ys h
  cases ys with
  | nil => exact h.elim
  | cons y ys =>
   obtain ⟨h1, h2⟩ := h
   obtain ⟨h3, h4⟩ := ih h2
   obtain ⟨e, hs⟩ : d = [.string y] ∧ y.size ≤ maxLen := h1
   refine ⟨by rw [List.flatten_cons, e, h3]; rfl, fun z hz => ?_⟩
   rcases List.mem_cons.1 hz with rfl | hz
   ·exact hs
   ·exact h4 z hz
theorem pw_back {P : Program} {T : UTy} {q1 q2 nx r : Int} {mb u l : Nat} {L l1 l2 : List (Int × LNode)} {m m0 : LNode} {e : TypeId} {xs : List UInt8} {R : List Atom} {w' : World} (hE : E[l]? = some (ptr u 0)) (hk : kk2 P T) (hin : UpIn q1 q2 nx L) (hm : OutN L r m0 l1 l2 ∧ m0.blk = m.blk ∧ NodeIn m)
  (H : SL W g w' (slO .u8 e m.vd xs :: isA m.vx m.xattrs :: pureA (m.target.size ≤ maxLen ∧ (m.kind = 1 → ∃ b, m.vi = .map (some b))) :: Lm.blk m.blk m.cells T.N :: mapVA P T.kS m.vi (entsV m.ents) :: restA P T u q1 q2 mb nx L l1 l2 :: R)) : SL W g w' (atomO E l (.ab (.pw T q1 q2 mb nx L r m e xs)) :: R) := by
 have H2 : SL W g w' (pwA P T u q1 q2 mb nx L r m e xs :: R) := SL.shutE (f := fun x : LNode × List (Int × LNode) × List (Int × LNode) => [pureA (OutN L r x.1 x.2.1 x.2.2 ∧ x.1.blk = m.blk ∧ NodeIn m), slO .u8 e m.vd xs, isA m.vx m.xattrs, pureA (m.target.size ≤ maxLen ∧ (m.kind = 1 → ∃ b, m.vi = .map (some b))), Lm.blk m.blk m.cells T.N, mapVA P T.kS m.vi (entsV m.ents), restA P T u q1 q2 mb nx L x.2.1 x.2.2]) (m0, l1, l2) (H.addPure hm)
 exact H2.weak fun _ ⟨k1, k2, ap, q, s1, s2⟩ => ⟨k1, k2, ap, q, ⟨_, hE, u, P, rfl, hk, hin, s1⟩, s2⟩
theorem copy_core {t t2 et : TypeId} {x y : Operand} {v : Value} {xs ys : List UInt8} {off : Int} {R : List Atom} (ho : o.op = .call { callee := .builtin .copy, args := #[x, y], argTypes := #[t, t2] }) (ht : X.P.underlying t = some (.slice et)) (hu : isU8 X et = true) (H : SL W g w (slO .u8 et v xs :: R)) (hy : Rd g w (a.eval y) ys) (h0 : 0 ≤ off) (h1 : off ≤ xs.length) (hx : a.eval x = sliceV 1 v off xs.length) :
  ∃ w', (execOp a.eval o).run X.P w = .ok (.value (.int .i64 (min ys.length (xs.length - off.toNat) : Nat))) w' ∧ SL W g w' (slO .u8 et v (copyL xs off.toNat ys) :: R) := by
 have hs : (X.P.info? et).map (·.size) = some 1 := by
  unfold isU8 at hu
  split at hu
  ·rename_i ie hie
   rw [Bool.and_eq_true] at hu
   rw [hie]
   exact congrArg some (Nat.eq_of_beq_eq_true hu.1)
  ·cases hu
 have H0 : SL W g w (slA et v xs :: R) := H
 have H1 := H0.slBO
 rcases H1.ofRow with ⟨hv, hl, _, _⟩ | ⟨k', cap', cur, hv, _⟩
 ·have hxs : xs = [] := List.eq_nil_of_length_eq_zero hl
  subst hxs hv
  have ho0 : off = 0 := by simp at h1; omega
  subst ho0
  have hx' : a.eval x = .slice none 0 0 := hx
  have hlen : (Builtin.lenOf (a.eval y)).run X.P w = .ok ys.length w := by
   rcases hy with ⟨e, rfl⟩ | ⟨ad, c, e, _⟩ <;> rw [e] <;> simp [Builtin.lenOf]
  have hfc : (Builtin.firstCells 1 0 (a.eval y)).run X.P w = .ok #[] w := by
   rcases hy with ⟨e, rfl⟩ | ⟨ad, c, e, h3, h4, ds, h5, h6⟩
   ·rw [e]; simp [Builtin.firstCells]
   ·rw [e]
    exact run_firstCells_some (P := X.P) w 1 0 ad ys.length c [] (by simp) fun j v hj => by simp at hj
  cases hie : X.P.info? et with
  | none => rw [hie] at hs; cases hs
  | some ie =>
   have hs1 : ie.size = 1 := by rw [hie] at hs; simpa using hs
   refine ⟨w, ?_, by simpa [copyL] using H⟩
   simp [execOp, ho, resolve, invoke, builtin, Builtin.copy_, run_underlying ht, hx', hlen, hfc, sizeOf, typeInfo, hie, hs1, goInt, Result.andThen]
 ·subst hv
  obtain ⟨w', hr, H'⟩ := SL.copyB (P := X.P) (dT := t) (sT := t2) (ty := o.type) H0 hy h0 h1 ht hs
  rw [← hx] at hr
  exact ⟨w', by simp [execOp, ho, resolve, invoke, builtin, hr], H'⟩
theorem run_copyV (S : Sta n W F b E g w s a) {t t2 : TypeId} {x y : Operand} {cx cy : Cl} {K : SV → Ov → Prop} (ho : o.op = .call { callee := .builtin .copy, args := #[x, y], argTypes := #[t, t2] }) (rx : RelC E g cx (a.eval x)) (ry : RelC E g cy (a.eval y)) (h : copyV X b s t t2 cx cy K) :
  ∃ v w', (execOp a.eval o).run X.P w = .ok (.value v) w' ∧ Out n W F b E g a K v w' := by
 unfold copyV at h
 split at h
 ·rename_i et l off m ht
  obtain ⟨bb, c, hE, hmc, hx⟩ := rx
  obtain ⟨_, h⟩ := if_ok h
  split at h
  ·rename_i ie ys u cs hie hys hob
   obtain ⟨hs1, h⟩ := if_ok h
   have hs1 : ie.size = 1 := Nat.eq_of_beq_eq_true hs1
   split at h
   ·rename_i cs' hcs
    obtain ⟨hm, h⟩ := h
    obtain ⟨hrd, _⟩ := listOf_rd S ry hys
    obtain ⟨us, hr, hB, H⟩ := St_cells S hE hob
    -- what is laid
    have key : ∃ vs : List Value, vs = (ys.take m).map Value.string ∧ (∀ z ∈ ys, z.size ≤ maxLen) ∧ (Builtin.lenOf (a.eval y)).run X.P w = .ok ys.length w ∧ (Builtin.firstCells 1 (min ys.length m) (a.eval y)).run X.P w = .ok vs.toArray w := by
     rcases hrd with ⟨e, rfl⟩ | ⟨ad, cap, e, hcap, hcm, ds, hds, hcell⟩
     ·rw [e]
      exact ⟨[], by simp, (fun _ h => nomatch h), by simp [Builtin.lenOf], by simp [Builtin.firstCells]⟩
     ·obtain ⟨hfl, hsz⟩ := strs_flat (ds := ds) hds
      rw [e]
      refine ⟨_, rfl, hsz, by simp [Builtin.lenOf], ?_⟩
      refine run_firstCells_some (P := X.P) w 1 (min ys.length m) ad ys.length cap ((ys.take m).map Value.string) (by simp [Nat.min_comm]) fun j v hj => ?_
      refine hcell j v ?_
      rw [hfl]
      rw [List.getElem?_map] at hj ⊢
      rw [List.getElem?_take] at hj
      split at hj
      ·exact hj
      ·cases hj
    obtain ⟨vs, hvs, hsz, hlen, hfc⟩ := key
    obtain ⟨hle, hrel⟩ := copyCs_ok hcs hsz hr
    rw [List.drop_zero, ← hvs] at hrel
    have hvl : vs.length = (ys.take m).length := by rw [hvs, List.length_map]
    rw [← hvl] at hrel
    have hvm : vs.length = min ys.length m := by rw [hvl, List.length_take, Nat.min_comm]
    have hone : ∀ v ∈ vs, v.oneCell' = true := fun v hv => by
     rw [hvs] at hv
     obtain ⟨z, _, rfl⟩ := List.mem_map.1 hv
     rfl
    have hst := run_storeCells_at X.P bb off u vs 0 us.toArray w hB (by rw [List.size_toArray]; omega) hone
    simp only [Nat.add_zero] at hst
    have hrun : (execOp a.eval o).run X.P w = .ok (.value (.int .i64 (min ys.length m : Nat))) (w.setRow bb (us.toArray.toList.take off ++ vs ++ us.toArray.toList.drop (off + vs.length)).toArray) := by
     have hmin : Nat.min ys.length m = min ys.length m := rfl
     simp [execOp, ho, resolve, invoke, builtin, Builtin.copy_, run_underlying ht, hx, hlen, sizeOf, typeInfo, hie, hs1, hfc, hst, goInt, hmin]
    refine ⟨_, _, hrun, E, g, _, .int (min ys.length m : Nat), EnvLe.refl E, Mono.refl g, S.back hE (.cells u cs') (Mono.refl g) ?_, relV_mk ?_, h⟩
    ·have H2 := SL.updO0 H ((⟨rfl, hB.lt⟩ : Upd w bb (us.toArray.toList.take off ++ vs ++ us.toArray.toList.drop (off + vs.length)).toArray _).updO hB)
     refine H2.weak fun k ⟨k1, k2, ap, q, s1, s2⟩ => ⟨k1, k2, ap, q, ⟨bb, _, hE, hrel, ?_⟩, s2⟩
     have s1' : k1 bb = some (.cells (us.toArray.toList.take off ++ vs ++ us.toArray.toList.drop (off + vs.length)).toArray u (0, 0)) := s1
     rw [s1']
     simp
    ·show (-9223372036854775808 : Int) ≤ (min ys.length m : Nat) ∧ ((min ys.length m : Nat) : Int) ≤ 9223372036854775807
     omega
   ·exact h.elim
  ·exact h.elim
 ·rename_i et l ht
  obtain ⟨hE, hsl⟩ := rx
  have hQ := if_ok h
  clear h
  obtain ⟨hc, h⟩ := hQ
  rw [Bool.and_eq_true] at hc
  split at h
  ·rename_i et' e xs0 hob
   have hQ := if_ok h
   clear h
   obtain ⟨he, h⟩ := hQ
   obtain rfl := Nat.eq_of_beq_eq_true he
   split at h
   ·rename_i xs hxs
    obtain ⟨q, hq⟩ := asD_some hxs
    subst q
    have hq : xs = xs0 := hq
    subst hq
    obtain ⟨ys, hrd, _, hK⟩ := srcV_ok S ry h
    have H := St_sl S hE hob
    have hx : a.eval x = sliceV 1 (a.eval x) 0 xs.length := by
     have H0 : SL W g w (slA et' (a.eval x) xs :: _) := H
     rcases H0.slBO.ofRow with ⟨hv, hl, _, _⟩ | ⟨k', cap', cur, hv, _⟩
     ·rw [hv, hl]; rfl
     ·exact (sliceV_all _ _ _ _ hv).symm
    obtain ⟨w', hr, H'⟩ := copy_core ho ht hc.2 H hrd (Int.le_refl 0) (by omega) hx
    refine ⟨_, w', hr, E, g, _, .int (min ys.length xs.length : Nat), EnvLe.refl E, Mono.refl g, S.back hE (.sl et' .u8 (copyL xs 0 ys)) (Mono.refl g) ?_, ?_, hK⟩
    ·exact H'.weak fun k ⟨k1, k2, ap, q, s1, s2⟩ => ⟨k1, k2, ap, q, ⟨_, hE, s1⟩, s2⟩
    ·have := isD_len (isD_sl H)
     refine relV_mk (m := (min ys.length (xs.length - (0 : Int).toNat) : Nat)) ?_
     show (-9223372036854775808 : Int) ≤ (min ys.length (xs.length - 0) : Nat) ∧ ((min ys.length (xs.length - 0) : Nat) : Int) ≤ 9223372036854775807
     omega
   ·exact h.elim
  ·exact h.elim
 ·rename_i et l sz lo hi ht
  obtain ⟨v, hE, hx, hsl⟩ := rx
  have hQ := if_ok h
  clear h
  obtain ⟨hc, h⟩ := hQ
  simp only [Bool.and_eq_true] at hc
  split at h
  ·rename_i et' e xs0 hob
   have hQ := if_ok h
   clear h
   obtain ⟨he, h⟩ := hQ
   obtain rfl := Nat.eq_of_beq_eq_true he
   split at h
   ·rename_i xs hxs
    obtain ⟨q, hq⟩ := asD_some hxs
    subst q
    have hq : xs = xs0 := hq
    subst hq
    obtain ⟨h0, h1, rfl, h⟩ := h
    obtain ⟨ys, hrd, _, hK⟩ := srcV_ok S ry h
    have H := St_sl S hE hob
    obtain rfl := Nat.eq_of_beq_eq_true hc.2.2
    obtain ⟨w', hr, H'⟩ := copy_core ho ht hc.2.1 H hrd h0 h1 hx
    refine ⟨_, w', hr, E, g, _, .int (min ys.length (xs.length - lo.toNat) : Nat), EnvLe.refl E, Mono.refl g, S.back hE (.sl et' .u8 (copyL xs lo.toNat ys)) (Mono.refl g) ?_, ?_, hK⟩
    ·exact H'.weak fun k ⟨k1, k2, ap, q, s1, s2⟩ => ⟨k1, k2, ap, q, ⟨_, hE, s1⟩, s2⟩
    ·have := isD_len (isD_sl H)
     refine relV_mk (m := (min ys.length (xs.length - lo.toNat) : Nat)) ?_
     show (-9223372036854775808 : Int) ≤ (min ys.length (xs.length - lo.toNat) : Nat) ∧ ((min ys.length (xs.length - lo.toNat) : Nat) : Int) ≤ 9223372036854775807
     omega
   ·exact h.elim
  ·exact h.elim
 ·rename_i et l v ht
  obtain ⟨⟨xv, hE⟩, hx, _⟩ := rx
  have hQ := if_ok h
  clear h
  obtain ⟨hc, h⟩ := hQ
  rw [Bool.and_eq_true] at hc
  split at h
  ·rename_i T q1 q2 mb nx L r m e xs hob
   have hQ := if_ok h
   clear h
   obtain ⟨he, lo, rfl, h0, h1, h⟩ := hQ
   obtain rfl := Nat.eq_of_beq_eq_true he
   obtain ⟨ys, hrd, _, hK⟩ := srcV_ok S ry h
   obtain ⟨u, P', m0, l1, l2, rfl, hk, hin, hm0, H⟩ := St_pw S hE hob
   obtain ⟨w', hr, H'⟩ := copy_core ho ht hc.2 H hrd h0 h1 hx
   refine ⟨_, w', hr, E, g, _, .int (min ys.length (xs.length - lo.toNat) : Nat), EnvLe.refl E, Mono.refl g, S.back hE (.ab (.pw T q1 q2 mb nx L r m e (copyL xs lo.toNat ys))) (Mono.refl g) (pw_back hE hk hin hm0 H'), ?_, hK⟩
   have := isD_len (isD_sl H)
   refine relV_mk (m := (min ys.length (xs.length - lo.toNat) : Nat)) ?_
   show (-9223372036854775808 : Int) ≤ (min ys.length (xs.length - lo.toNat) : Nat) ∧ ((min ys.length (xs.length - lo.toNat) : Nat) : Int) ≤ 9223372036854775807
   omega
  ·exact h.elim
 ·exact h.elim
end
end Go.Lm

namespace Go.Lm
open Go Go.RowKit
def Hp.sub (h k : Hp) : Prop := ∀ b o, h b = some o → k b = some o
theorem Hp.sub.trans {h k m : Hp} (a : h.sub k) (b : k.sub m) : h.sub m := fun x o e => b x o (a x o e)
theorem Hp.sub.left (h k : Hp) : h.sub (h.join k) := fun _ _ e => Hp.join_left e
theorem Hp.sub.right {h k : Hp} (a : h.apart k) : k.sub (h.join k) := fun b o e => by
 rw [Hp.join_comm a]; exact Hp.join_left e
theorem sats_mem {g : World} {A : Atom} : ∀ {L : List Atom} {h : Hp}, A ∈ L → sats g L h → ∃ h', h'.sub h ∧ A.sat g h'
 | B :: L, h, hA, ⟨h1, h2, ap, e, s1, s2⟩ => by
  subst e
  rcases List.mem_cons.1 hA with rfl | hA
  ·exact ⟨h1, Hp.sub.left _ _, s1⟩
  ·obtain ⟨h', i, s⟩ := sats_mem hA s2
   exact ⟨h', i.trans (Hp.sub.right ap), s⟩
def MapIn {κ : Type} [MKey κ] (P : Program) (k : TypeId) (hz : Hp) (v : Value) (m : List (κ × Value)) : Prop :=
 (v = .map none ∧ m = []) ∨ ∃ b es clock, v = .map (some b) ∧ hz b = some (.map es clock) ∧ MapRep P k es clock m
theorem MapIn.sub {κ : Type} [MKey κ] {P : Program} {k : TypeId} {hz hk : Hp} {v : Value} {m : List (κ × Value)} (h : MapIn P k hz v m) (i : hz.sub hk) : MapIn P k hk v m := by
 rcases h with h | ⟨b, es, c, h1, h2, h3⟩
 ·exact .inl h
 ·exact .inr ⟨b, es, c, h1, i _ _ h2, h3⟩
theorem MapIn.o {κ : Type} [MKey κ] {P : Program} {k : TypeId} {hz : Hp} {w : World} {v : Value} {m : List (κ × Value)} {ob : Array MapEntry × Nat} (h : MapIn P k hz v m) (i : ∀ b o, hz b = some o → w.heap[b]? = some o) (ho : ObOf hz v ob) : MapO P k w v ob m := by
 rcases h with h | ⟨b, es, c, h1, h2, h3⟩
 ·exact .inl h
 ·rcases ho with ho | ⟨b', ho, h4⟩
  ·rw [h1] at ho; cases ho
  ·rw [h1] at ho
   obtain rfl : b = b' := by cases ho; rfl
   rw [h2] at h4
   obtain ⟨o1, o2⟩ := ob
   have : es = o1 ∧ c = o2 := by
    have := Option.some.inj h4
    cases this; exact ⟨rfl, rfl⟩
   obtain ⟨rfl, rfl⟩ := this
   exact .inr ⟨b, h1, i _ _ h2, h3⟩
theorem MapIn.ob {κ : Type} [MKey κ] {P : Program} {k : TypeId} {hz : Hp} {v : Value} {m : List (κ × Value)} (h : MapIn P k hz v m) : ∃ ob, ObOf hz v ob := by
 rcases h with h | ⟨b, es, c, h1, h2, h3⟩
 ·exact ⟨(#[], 0), .inl h.1⟩
 ·exact ⟨(es, c), .inr ⟨b, h1, h2⟩⟩
section
variable {X : Vx} {n : Nat} {W : Base} {F : List Atom} {b : Bs} {E : Env} {g w : World} {s : Ov} {a : Act} {o : Oper}
variable {P : Program} {T : UTy} {u mb : Nat} {q1 q2 nx : Int} {L : List (Int × LNode)} {z : Option LNode} {hz h : Hp} {R : List Atom}
theorem node_map {m : LNode} (s : (nodeA P T m).sat g h) : MapIn P T.kS h m.vi (entsV m.ents) := by
 obtain ⟨h', i, s'⟩ := sats_mem (A := mapVA P T.kS m.vi (entsV m.ents)) (by simp [nodeL]) s
 refine MapIn.sub ?_ i
 rcases s' with s' | ⟨b, es, c, h1, h2, h3⟩
 ·exact .inl s'
 ·exact .inr ⟨b, es, c, h1, h2, h3⟩
theorem up_maps (s : (upA P T u q1 q2 mb nx L).sat g h) : MapIn P T.kI h (.map (some mb)) (ptrsV L) ∧ ∀ r m, getK L r = some m → MapIn P T.kS h m.vi (entsV m.ents) := by
 constructor
 ·obtain ⟨h', i, es, c, h1, h2⟩ := sats_mem (A := mapA P T.kI mb (ptrsV L)) (by simp) s
  exact MapIn.sub (.inr ⟨mb, es, c, rfl, h1, h2⟩) i
 ·intro r m hg
  obtain ⟨h', i, s'⟩ := sats_mem (A := nodeA P T m) (List.mem_cons_of_mem _ (List.mem_cons_of_mem _ (List.mem_map.2 ⟨(r, m), getK_mem hg, rfl⟩))) s
  exact (node_map s').sub i
theorem fz_maps (s : (fzA P T u q1 q2 mb nx L hz z).sat g h) : hz.sub h ∧ (z = none → MapIn P T.kI hz (.map (some mb)) (ptrsV L) ∧ ∀ r m, getK L r = some m → MapIn P T.kS hz m.vi (entsV m.ents)) ∧ ∀ m, z = some m → MapIn P T.kS hz m.vi (entsV m.ents) := by
 cases z with
 | none =>
  obtain ⟨rfl, s⟩ := s
  exact ⟨fun _ _ e => e, fun _ => up_maps s, fun _ h => by cases h⟩
 | some m =>
  obtain ⟨_, h1, a1, rfl, s1, s2⟩ := s
  exact ⟨Hp.sub.right a1, fun h => by (cases h), fun _ h => by cases h; exact node_map s2⟩
theorem SL.fzMaps (H : SL W g w (fzA P T u q1 q2 mb nx L hz z :: R)) : (∀ b o, hz b = some o → w.heap[b]? = some o) ∧ (z = none → MapIn P T.kI hz (.map (some mb)) (ptrsV L) ∧ ∀ r m, getK L r = some m → MapIn P T.kS hz m.vi (entsV m.ents)) ∧ ∀ m, z = some m → MapIn P T.kS hz m.vi (entsV m.ents) := by
 obtain ⟨k, be, se, ow, h1, h2, ap, rfl, s1, s2⟩ := H
 obtain ⟨i, p1, p2⟩ := fz_maps s1
 exact ⟨fun b o e => (ow b o (Hp.join_left (i b o e))).2.1, p1, p2⟩
theorem SL.freeze (H : SL W g w (upA P T u q1 q2 mb nx L :: R)) : ∃ hz, SL W g w (fzA P T u q1 q2 mb nx L hz none :: R) := by
 obtain ⟨k, be, se, ow, h1, h2, ap, e, s1, s2⟩ := H
 exact ⟨h1, k, be, se, ow, h1, h2, ap, e, ⟨rfl, s1⟩, s2⟩
theorem iterC_re {P P' : Program} {t : TypeId} {k : Kk} (h1 : kkOk P t k = true) (h2 : kkOk P' t k = true) {v : Value} {ob : Array MapEntry × Nat} {r : Nat} {left : List (k.den × Value)} {cur : Option (k.den × Value)} {hh : Hp} (s : (@iterC k.den k.key P t v ob r left cur).sat g hh) : (@iterC k.den k.key P' t v ob r left cur).sat g hh := by
 letI := k.key
 have hrg : WideElems.rg P' t holdV = WideElems.rg P t holdV := funext fun x => by unfold WideElems.rg WideElems.rd; rw [keyOf_re h2 h1]
 refine ⟨?_, s.2⟩
 rcases s.1 with h | ⟨b, since, seen, c0, h3, h4, h5, h6, h7, h8⟩
 ·exact .inl h
 ·exact .inr ⟨b, since, seen, c0, h3, h4, h5, h6, h7, by rw [hrg]; exact h8⟩
theorem kk_of {t : TypeId} {k : Kk} (h : P.underlying t = some k.und) : kkOk P t k = true := by
 unfold kkOk
 rw [h]
 cases k <;> rfl
theorem range_core (S : Sta n W F b E g w s a) {k : Kk} {kt t et : TypeId} {x : Operand} {l : Nat} {v : Value} {M : List (k.den × k.uv)} {hz : Hp} {K : SV → Ov → Prop} (ho : o.op = .range t x) (hx : a.eval x = v) (ht : X.P.underlying t = some (.map kt et)) (hkt : X.P.underlying kt = some k.und) (hm : @MapIn k.den k.key X.P kt hz v (k.lV M)) (hi : ∀ b o, hz b = some o → w.heap[b]? = some o)
  (h : K (.c (.p s.n 0)) (s.new (.ab (.mit k kt l hz v M none)))) : ∃ v w', (execOp a.eval o).run X.P w = .ok (.value v) w' ∧ Out n W F b E g a K v w' := by
 letI := k.key
 obtain ⟨ob, hob⟩ := hm.ob
 obtain ⟨oo, hrun, hsl⟩ := run_range (hm.o hi hob) ht
 refine ⟨ptr w.heap.size 0, w.alloc oo, by simp [execOp, ho, hx, hrun], E ++ [ptr w.heap.size 0], g, _, .c (.p s.n 0), EnvLe.app E _, Mono.refl g, S.new (v := ptr w.heap.size 0) (Mono.refl g) ?_, (show RelV _ g (.c (.p s.n 0)) _ from ⟨w.heap.size, at_end S _, rfl⟩), h⟩
 have H1 := (hsl S.sat.sl).iterC0
 have H2 : SL W g (w.alloc oo) (mitA k kt hz v M none (ptr w.heap.size 0) :: (atomsO E 0 (b.heap s) ++ F)) :=
  SL.shutE (f := fun x : Nat × Program × (Array MapEntry × Nat) => [pureA (ptr w.heap.size 0 = ptr x.1 0 ∧ x.2.1.underlying kt = some k.und ∧ ObOf hz v x.2.2), iterC x.2.1 kt v x.2.2 x.1 (k.lV M) (k.lO none)]) (w.heap.size, X.P, ob) (H1.addPure ⟨rfl, hkt, hob⟩)
 exact H2.weak fun _ ⟨k1, k2, ap, e, s1, s2⟩ => ⟨k1, k2, ap, e, ⟨_, at_end S _, s1⟩, s2⟩
theorem run_rangeM (S : Sta n W F b E g w s a) {t : TypeId} {x : Operand} {c : Cl} {K : SV → Ov → Prop} (ho : o.op = .range t x) (r : RelC E g c (a.eval x)) (h : rangeV X b s t c K) :
  ∃ v w', (execOp a.eval o).run X.P w = .ok (.value v) w' ∧ Out n W F b E g a K v w' := by
 unfold rangeV at h
 split at h
 ·rename_i z ht
  obtain ⟨hx, hz⟩ := r
  have H := S.sat.sl.new (New.mk' w (.stringIter z 0))
  refine ⟨_, _, X_range_str ho ht hx, E ++ [ptr w.heap.size 0], g, _, _, EnvLe.app E _, Mono.refl g, S.new (v := ptr w.heap.size 0) (Mono.refl g) ?_, (show RelV _ g (.c (.p s.n 0)) _ from ⟨_, at_end S _, rfl⟩), h⟩
  exact H.weak fun k ⟨k1, k2, ap, q, s1, s2⟩ => ⟨k1, k2, ap, q, ⟨_, at_end S _, hz, _, rfl, s1⟩, s2⟩
 ·rename_i kt et l v ht
  obtain ⟨⟨xv, hE⟩, hx, _⟩ := r
  split at h
  ·rename_i T q1 q2 mb nx L hob
   have hQ := if_ok h
   clear h
   obtain ⟨hk, h⟩ := hQ
   obtain ⟨ub, rfl, hin, H⟩ := St_up S hE hob hk
   obtain ⟨hz, H1⟩ := H.freeze
   have S1 : Sta n W F b E g w (s.setO l (.ab (.fz T q1 q2 mb nx L none hz))) a := S.back hE _ (Mono.refl g) (fz_back hE (kk2_ok.2 hk) hin H1)
   obtain ⟨i1, i2, _⟩ := H1.fzMaps
   obtain ⟨j1, j2⟩ := i2 rfl
   split at h
   ·rename_i hkI
    obtain rfl := Nat.eq_of_beq_eq_true hkI
    obtain ⟨rfl, h⟩ := h
    exact range_core (k := .int) S1 ho hx ht (kk2_ok.2 hk).1 j1 i1 (h hz)
   ·have hQ := if_ok h
    clear h
    obtain ⟨hkS, h⟩ := hQ
    obtain rfl := Nat.eq_of_beq_eq_true hkS
    obtain ⟨r, m, hg, rfl, h⟩ := h
    exact range_core (k := .str) S1 ho hx ht (kk2_ok.2 hk).2 (j2 r m hg) i1 (h hz)
  ·rename_i T q1 q2 mb nx L z hz hob
   have hQ := if_ok h
   clear h
   obtain ⟨hk3, h⟩ := hQ
   simp only [Bool.and_eq_true] at hk3
   have hk : (kkOk X.P T.kI .int && kkOk X.P T.kS .str) = true := by rw [Bool.and_eq_true]; exact ⟨hk3.1, hk3.2.1⟩
   obtain rfl := Nat.eq_of_beq_eq_true hk3.2.2
   obtain ⟨ub, rfl, hin, H⟩ := St_fzS S hE hob hk
   obtain ⟨i1, i2, i3⟩ := H.fzMaps
   split at h
   ·obtain ⟨r, m, hg, rfl, h⟩ := h
    exact range_core (k := .str) S ho hx ht (kk2_ok.2 hk).2 ((i2 rfl).2 r m hg) i1 h
   ·rename_i m
    obtain ⟨rfl, h⟩ := h
    exact range_core (k := .str) S ho hx ht (kk2_ok.2 hk).2 (i3 m rfl) i1 h
  ·exact h.elim
 ·exact h.elim
theorem obj_has (S : Sta n W F b E g w s a) {l : Nat} (h : b.obj s l ≠ .gone) : ∃ v, E[l]? = some v := by
 by_cases hl : l < s.n
 ·exact ⟨E[l]'(by rw [S.len]; exact hl), List.getElem?_eq_getElem _⟩
 ·exact absurd (S.top l (by omega)) h
theorem uV_inj {k : Kk} {x y : k.den} (h : @MKey.val k.den k.key x = @MKey.val k.den k.key y) : x = y := by
 cases k
 ·have : Value.int .i64 x = .int .i64 y := h
  cases this; rfl
 ·have : Value.string x = .string y := h
  cases this; rfl
theorem mapOf_in {k : Kk} {kt : TypeId} {v : Value} {M : List (k.den × k.uv)} (hk : kk2 P T) (hM : mapOfV T mb L z kt v k M) (H : SL W g w (fzA P T u q1 q2 mb nx L hz z :: R)) : P.underlying kt = some k.und ∧ @MapIn k.den k.key P kt hz v (k.lV M) ∧ ∀ (_ : UpIn q1 q2 nx L) (x : k.den) (y : k.uv), (x, k.uV y) ∈ k.lV M → @MKey.ok k.den k.key x → mitOk k x y := by
 obtain ⟨i1, i2, i3⟩ := H.fzMaps
 have hzi := H.fzO.1
 cases k with
 | int =>
  obtain ⟨rfl, rfl, rfl, rfl⟩ := hM
  exact ⟨hk.1, (i2 rfl).1, fun _ x y _ h => inK_wf.2 h⟩
 | str =>
  obtain ⟨rfl, m, hm, rfl, rfl⟩ := hM
  cases z with
  | none =>
   obtain ⟨r, hg⟩ := hm
   refine ⟨hk.2, (i2 rfl).2 r m hg, fun hin x y hxy h => ⟨h, ?_⟩⟩
   obtain ⟨p, hp, e⟩ := List.mem_map.1 hxy
   cases e
   exact (hin.nodes r m hg).ents p hp
  | some q =>
   obtain rfl : q = m := hm
   refine ⟨hk.2, i3 q rfl, fun _ x y hxy h => ⟨h, ?_⟩⟩
   obtain ⟨p, hp, e⟩ := List.mem_map.1 hxy
   cases e
   exact (hzi q rfl).ents p hp
theorem St_mit (S : Sta n W F b E g w s a) {li bb : Nat} (hE : E[li]? = some (ptr bb 0)) {k : Kk} {kt : TypeId} {l : Nat} {v : Value} {left : List (k.den × k.uv)} {cur : Option (k.den × k.uv)} (hob : b.obj s li = .ab (.mit k kt l hz v left cur)) (hP : P.underlying kt = some k.und) :
  ∃ ob, ObOf hz v ob ∧ SL W g w (@iterC k.den k.key P kt v ob bb (k.lV left) (k.lO cur) :: dropA (atomsO E 0 (b.heap s) ++ F) li) := by
 letI := k.key
 have H := S.pick hE
 rw [hob] at H
 have H1 : SL W g w (mitA k kt hz v left cur (ptr bb 0) :: dropA (atomsO E 0 (b.heap s) ++ F) li) := H.weak fun _ ⟨k1, k2, ap, e, ⟨v', s1, s2⟩, s3⟩ => by
  rw [hE] at s1
  obtain rfl := Option.some.inj s1
  exact ⟨k1, k2, ap, e, s2, s3⟩
 obtain ⟨⟨r, P', ob⟩, H2⟩ := SL.openE H1
 obtain ⟨⟨hr, hu, ho⟩, H3⟩ := SL.pure H2
 obtain rfl : bb = r := by simp [ptr] at hr; exact hr
 exact ⟨ob, ho, H3.weak fun _ ⟨k1, k2, ap, e, s1, s2⟩ => ⟨k1, k2, ap, e, iterC_re (kk_of hu) (kk_of hP) s1, s2⟩⟩
theorem mit_back {li bb : Nat} (hE : E[li]? = some (ptr bb 0)) {k : Kk} {kt : TypeId} {l : Nat} {v : Value} {left : List (k.den × k.uv)} {cur : Option (k.den × k.uv)} {ob : Array MapEntry × Nat} {w' : World} (hP : P.underlying kt = some k.und) (ho : ObOf hz v ob) (H : SL W g w' (@iterC k.den k.key P kt v ob bb (k.lV left) (k.lO cur) :: R)) : SL W g w' (atomO E li (.ab (.mit k kt l hz v left cur)) :: R) := by
 letI := k.key
 have H2 : SL W g w' (mitA k kt hz v left cur (ptr bb 0) :: R) :=
  SL.shutE (f := fun x : Nat × Program × (Array MapEntry × Nat) => [pureA (ptr bb 0 = ptr x.1 0 ∧ x.2.1.underlying kt = some k.und ∧ ObOf hz v x.2.2), iterC x.2.1 kt v x.2.2 x.1 (k.lV left) (k.lO cur)]) (bb, P, ob) (H.addPure ⟨rfl, hP, ho⟩)
 exact H2.weak fun _ ⟨k1, k2, ap, e, s1, s2⟩ => ⟨k1, k2, ap, e, ⟨_, hE, s1⟩, s2⟩
theorem mitKey_ok {k : Kk} {x : k.den} {y : k.uv} (h : mitOk k x y) : RelC E g (mitKey k x) (@MKey.val k.den k.key x) := by
 cases k
 ·exact ⟨rfl, h⟩
 ·exact ⟨rfl, h.1⟩
theorem mitVal_ok {k : Kk} {l : Nat} {v : Value} {x : k.den} {y : k.uv} (hE : E[l]? = some v) (h : mitOk k x y) : RelC E g (mitVal l k y) (k.uV y) := by
 cases k
 ·exact ⟨⟨v, hE⟩, rfl, rfl⟩
 ·exact ⟨rfl, h.2⟩
theorem run_nextM (S : Sta n W F b E g w s a) {x : Operand} {c : Cl} {K : SV → Ov → Prop} (ho : o.op = .next x false) (r : RelC E g c (a.eval x)) (h : nextM X.P b s c K) :
  ∃ v w', (execOp a.eval o).run X.P w = .ok (.value v) w' ∧ Out n W F b E g a K v w' := by
 unfold nextM at h
 split at h
 ·rename_i li
  obtain ⟨bb, hE, hx⟩ := r
  split at h
  ·rename_i k kt l hz v left cur hob
   letI := k.key
   split at h
   ·rename_i T q1 q2 mb nx L z hz' hob2
    have hQ := if_ok h
    clear h
    obtain ⟨hk, rfl, M, hM, h1, h2⟩ := hQ
    obtain ⟨lv, hEl⟩ := obj_has S (l := l) (by rw [hob2]; exact fun e => by cases e)
    obtain ⟨ub, rfl, hin, H⟩ := St_fzS S hEl hob2 hk
    obtain ⟨hu, hmi, hok⟩ := mapOf_in (kk2_ok.2 hk) hM H
    obtain ⟨ob, hob3, H1⟩ := St_mit S hE hob hu
    have hmo := hmi.o H.fzMaps.1 hob3
    rcases H1.iterNext2 hmo (kkOk_ok (kk_of hu)) o.type with ⟨hl, hrun⟩ | ⟨x', y', left', w', hp, hkx, hin2, hrun, H2⟩
    ·have hl' : left = [] := by
      unfold Kk.lV at hl
      simpa using hl
     exact ⟨_, w, by simp [execOp, ho, hx, ptr, hrun], E, g, s, .tup [.c (.k (.bool false))], EnvLe.refl E, Mono.refl g, S, ⟨_, ⟨_, _, rfl, ⟨rfl, rfl⟩, rfl⟩, rfl⟩, h1 hl'⟩
    ·have hmem : (x', y') ∈ k.lV left := hp.mem_iff.2 (by simp)
     obtain ⟨p, hp1, hp2⟩ := List.mem_map.1 hmem
     obtain ⟨aa, cc, hac⟩ := List.append_of_mem hp1
     cases hp2
     have hlp : left.Perm (p :: (aa ++ cc)) := by rw [hac]; exact List.perm_middle
     have hlp2 : (k.lV (aa ++ cc)).Perm left' := by
      have e1 : (k.lV left).Perm ((p.1, k.uV p.2) :: k.lV (aa ++ cc)) := hlp.map fun p : k.den × k.uv => (p.1, k.uV p.2)
      exact List.Perm.cons_inv (e1.symm.trans hp)
     have hmit : mitOk k p.1 p.2 := hok hin _ _ hin2 hkx
     have H3 : SL W g w' (iterC X.P kt v ob bb (k.lV (aa ++ cc)) (k.lO (some (p.1, p.2))) :: dropA (atomsO E 0 (b.heap s) ++ F) li) := H2.weak fun _ ⟨k1, k2, ap, e, s1, s2⟩ => ⟨k1, k2, ap, e, iterC_perm hlp2.symm s1, s2⟩
     refine ⟨.tuple #[.bool true, MKey.val p.1, k.uV p.2], w', by simp [execOp, ho, hx, ptr, hrun], E, g, _, .tup [.c (.k (.bool true)), .c (mitKey k p.1), .c (mitVal l k p.2)], EnvLe.refl E, Mono.refl g, S.back hE _ (Mono.refl g) (mit_back hE hu hob3 H3), ?_, h2 p.1 p.2 (aa ++ cc) hlp hmit⟩
     exact ⟨_, ⟨_, _, rfl, ⟨rfl, rfl⟩, _, _, rfl, mitKey_ok hmit, _, _, rfl, mitVal_ok hEl hmit, rfl⟩, rfl⟩
   ·exact h.elim
  ·exact h.elim
 ·exact h.elim
theorem run_entryM (S : Sta n W F b E g w s a) {x : Operand} {c : Cl} {K : SV → Prop} (ho : o.op = .entry x) (r : RelC E g c (a.eval x)) (h : entryM X.P b s c K) : ER X.P o a w E g K := by
 unfold entryM at h
 split at h
 ·rename_i li
  obtain ⟨bb, hE, hx⟩ := r
  split at h
  ·rename_i k kt l hz v left cur hob
   letI := k.key
   split at h
   ·rename_i T q1 q2 mb nx L z hz' hob2
    have hQ := if_ok h
    clear h
    obtain ⟨hk, M, x', y', rfl, hM, rfl, h1⟩ := hQ
    obtain ⟨lv, hEl⟩ := obj_has S (l := l) (by rw [hob2]; exact fun e => by cases e)
    obtain ⟨ub, rfl, hin, H⟩ := St_fzS S hEl hob2 hk
    obtain ⟨hu, hmi, hok⟩ := mapOf_in (kk2_ok.2 hk) hM H
    obtain ⟨ob, hob3, H1⟩ := St_mit S hE hob hu
    have hmo := hmi.o H.fzMaps.1 hob3
    have H2 : SL W g w (iterC X.P kt v ob bb (k.lV left) (some (x', k.uV y')) :: dropA (atomsO E 0 (b.heap s) ++ F) li) := H1
    have hrun := H2.iterEntry hmo
    obtain ⟨hkx, hin2⟩ := H2.iterEntry2 hmo (kkOk_ok (kk_of hu)) fun _ _ e => uV_inj e
    have hmit := hok hin _ _ hin2 hkx
    refine ⟨_, .tup [.c (mitKey k x'), .c (mitVal l k y')], by simp [execOp, ho, hx, ptr]; rw [hrun]; rfl, ?_, h1 hmit⟩
    exact ⟨_, ⟨_, _, rfl, mitKey_ok hmit, _, _, rfl, mitVal_ok hEl hmit, rfl⟩, rfl⟩
   ·exact h.elim
  ·exact h.elim
 ·exact h.elim
end
end Go.Lm

namespace Go.Lm
open Go Go.RowKit
section
variable {X : Vx} {n : Nat} {W : Base} {F : List Atom} {b : Bs} {E : Env} {g w : World} {s : Ov} {a : Act} {o : Oper}
variable {P : Program} {T : UTy} {u mb : Nat} {q1 q2 nx : Int} {L : List (Int × LNode)} {R : List Atom}
theorem SL.upSplit {r : Int} {m : LNode} (H : SL W g w (upA P T u q1 q2 mb nx L :: R)) (KI : KeyT P T.kI Int) (h : getK L r = some m) : ∃ l1 l2, OutN L r m l1 l2 ∧ SL W g w (nodeA P T m :: restA P T u q1 q2 mb nx L l1 l2 :: R) := by
 have H1 := H.upO
 have hn : (L.map (·.1)).Nodup := by
  have := (H1.pick 1).mapNodup KI
  rwa [ptrs_keys] at this
 obtain ⟨l1, l2, e, h1, h2⟩ := getK_split hn h
 refine ⟨l1, l2, ⟨e, h1, h2⟩, ?_⟩
 have H3 : SL W g w ((Lm.blk u #[.int .i64 q1, .int .i64 q2, .map (some mb), .int .i64 nx] T.U :: mapA P T.kI mb (ptrsV L) :: l1.map fun p => Lm.nodeA P T p.2) ++ Lm.nodeA P T m :: ((l2.map fun p => Lm.nodeA P T p.2) ++ R)) := H1.cast (by
  have : L.map (fun p => Lm.nodeA P T p.2) = (l1.map fun p => Lm.nodeA P T p.2) ++ Lm.nodeA P T m :: (l2.map fun p => Lm.nodeA P T p.2) := by rw [e]; simp
  rw [this]; simp)
 refine H3.mid.under fun h s => ?_
 rw [← List.append_assoc] at s
 obtain ⟨k1, k2, ap, rfl, s1, s2⟩ := s.unapp
 exact ⟨k1, k2, ap, rfl, s1, s2⟩
theorem SL.upJoin {r : Int} {m m' : LNode} {l1 l2 : List (Int × LNode)} {w' : World} {g' : World} (h : OutN L r m l1 l2) (hb : m'.blk = m.blk) (H2 : SL W g' w' (nodeA P T m' :: restA P T u q1 q2 mb nx L l1 l2 :: R)) : SL W g' w' (upA P T u q1 q2 mb nx (setK L r m') :: R) := by
 obtain ⟨e, h1, h2⟩ := h
 have hs : setK L r m' = l1 ++ (r, m') :: l2 := by rw [e, setK_split h1 h2]
 have hp : ptrsV (l1 ++ (r, m') :: l2) = ptrsV L := by rw [e]; unfold ptrsV; simp [hb]
 refine SL.upI ?_
 rw [hs, hp]
 have H3 : SL W g' w' (Lm.nodeA P T m' :: ((Lm.blk u #[.int .i64 q1, .int .i64 q2, .map (some mb), .int .i64 nx] T.U :: mapA P T.kI mb (ptrsV L) :: l1.map fun p => Lm.nodeA P T p.2) ++ ((l2.map fun p => Lm.nodeA P T p.2) ++ R))) := H2.under fun h ⟨k1, k2, ap, q, s1, s2⟩ => by
  rw [← List.append_assoc, q]
  exact sats.app ap s1 s2
 refine SL.cast (SL.unmid (x := Lm.nodeA P T m') H3) ?_
 simp
theorem pe_back {l st : Nat} {p : Pend} {w' : World} (hE : E[l]? = some (ptr u 0)) (hk : kk2 P T) (hin : UpIn q1 q2 nx L) (H : SL W g w' (peA P T u q1 q2 mb nx L st p :: R)) : SL W g w' (atomO E l (.ab (.pe T q1 q2 mb nx L p st)) :: R) :=
 H.weak fun _ ⟨k1, k2, ap, q, s1, s2⟩ => ⟨k1, k2, ap, q, ⟨_, hE, u, P, rfl, hk, hin, s1⟩, s2⟩
theorem run_mapEntX (S : Sta n W F b E g w s a) {t : TypeId} {x y : Operand} {cx cy : Cl} {K : SV → Ov → Prop} (ho : o.op = .mapEntry t x y) (rx : RelC E g cx (a.eval x)) (ry : RelC E g cy (a.eval y)) (h : mapEntryV X b s t cx cy K) :
  ∃ v w', (execOp a.eval o).run X.P w = .ok (.value v) w' ∧ Out n W F b E g a K v w' := by
 unfold mapEntryV at h
 split at h
 ·rename_i k et l v ht
  obtain ⟨⟨xv, hE⟩, hx, _⟩ := rx
  split at h
  ·rename_i T q1 q2 mb nx L hob
   have hQ := if_ok h
   clear h
   obtain ⟨hk, h⟩ := hQ
   have hk2 := kk2_ok.2 hk
   obtain ⟨ub, rfl, hin, H⟩ := St_up S hE hob hk
   split at h
   ·rename_i hkI
    obtain rfl := Nat.eq_of_beq_eq_true hkI
    have hQ := if_ok h
    clear h
    obtain ⟨hz, h⟩ := hQ
    split at h
    ·rename_i r
     obtain ⟨hy, hr⟩ := ry
     obtain ⟨rfl, hg, hlen, h⟩ := h
     obtain ⟨val, st, w', hrun, H1, hval⟩ := SL.mapEntryV (SL.pick 1 H.upO) (keyT_int hk2.1) ht (nilZero_ok hz) (by unfold ptrsV; rw [List.length_map]; exact hlen) r (inK_wf.1 hr)
     have hrun' : (Instr.mapEntry t (.map (some mb)) (.int .i64 r)).run X.P w = .ok (.tuple #[val, goInt st]) w' := hrun
     have hone : val.oneCell' = true := by
      rcases hval with rfl | ⟨p, hp, rfl⟩
      ·rfl
      ·obtain ⟨q, _, rfl⟩ := List.mem_map.1 hp; rfl
     have H2 : SL W g w' (peA X.P T ub q1 q2 mb nx L st (.node r) :: dropA (atomsO E 0 (b.heap s) ++ F) l) :=
      SL.shutE (f := fun val : Value => Lm.blk ub #[.int .i64 q1, .int .i64 q2, .map (some mb), .int .i64 nx] T.U :: mapSA X.P T.kI mb (putK (ptrsV L) r val) r st :: L.map fun p : Int × LNode => nodeA X.P T p.2) val (H1.weak fun _ s => s.swap)
     refine ⟨_, w', by simp [execOp, ho, hx, hy, hrun']; rfl, E, g, _, .tup [.c .unk, .c (.kl l (.int .i64 st))], EnvLe.refl E, Mono.refl g, S.back hE _ (Mono.refl g) (pe_back hE hk2 hin H2), ?_, h st⟩
     exact ⟨_, ⟨_, _, rfl, hone, _, _, rfl, ⟨⟨_, hE⟩, rfl, rfl⟩, rfl⟩, rfl⟩
    ·exact h.elim
   ·have hQ := if_ok h
    clear h
    obtain ⟨hkS, h⟩ := hQ
    rw [Bool.and_eq_true] at hkS
    obtain rfl := Nat.eq_of_beq_eq_true hkS.1
    split at h
    ·rename_i zz
     obtain ⟨hy, hr⟩ := ry
     obtain ⟨r, m, hg, rfl, hkd, hlen, h⟩ := h
     obtain ⟨l1, l2, hout, H1⟩ := H.upSplit (keyT_int hk2.1) hg
     obtain ⟨i1, i2, i3, i4, H2⟩ := H1.nodeO
     obtain ⟨ib, hvi⟩ := i4 hkd
     rcases (H2.pick 1).mapVO with ⟨hv, _⟩ | ⟨ib', hv, H3⟩
     ·rw [hvi] at hv; cases hv
     ·obtain ⟨val, st, w', hrun, H4, hval⟩ := SL.mapEntryV H3 (keyT_str hk2.2) ht (intZero_ok hkS.2) (by unfold entsV; rw [List.length_map]; exact hlen) zz hr
      have hrun' : (Instr.mapEntry t m.vi (.string zz)).run X.P w = .ok (.tuple #[val, goInt st]) w' := by rw [hv]; exact hrun
      have hone : val.oneCell' = true := by
       rcases hval with rfl | ⟨p, hp, rfl⟩
       ·rfl
       ·obtain ⟨q, _, rfl⟩ := List.mem_map.1 hp; rfl
      have H5 : SL W g w' (Lm.blk m.blk m.cells T.N :: mapSA X.P T.kS ib' (putK (entsV m.ents) zz val) zz st :: restA X.P T ub q1 q2 mb nx L l1 l2 :: dropA (atomsO E 0 (b.heap s) ++ F) l) := H4.weak fun _ s => s.swap
      have H6 : SL W g w' (peA X.P T ub q1 q2 mb nx L st (.ent r zz) :: dropA (atomsO E 0 (b.heap s) ++ F) l) :=
       SL.shutE (f := fun x : Value × Nat × LNode × List (Int × LNode) × List (Int × LNode) => [pureA (OutN L r x.2.2.1 x.2.2.2.1 x.2.2.2.2 ∧ x.2.2.1.vi = .map (some x.2.1)), isA x.2.2.1.vd x.2.2.1.data, isA x.2.2.1.vx x.2.2.1.xattrs, pureA (x.2.2.1.target.size ≤ maxLen ∧ (x.2.2.1.kind = 1 → ∃ b, x.2.2.1.vi = .map (some b))), Lm.blk x.2.2.1.blk x.2.2.1.cells T.N, mapSA X.P T.kS x.2.1 (putK (entsV x.2.2.1.ents) zz x.1) zz st, restA X.P T ub q1 q2 mb nx L x.2.2.2.1 x.2.2.2.2]) (val, ib', m, l1, l2)
        (SL.addPure ⟨hout, hv⟩ (SL.addIs i1 (SL.addIs i2 (SL.addPure ⟨i3, i4⟩ H5))))
      refine ⟨_, w', by simp [execOp, ho, hx, hy, hrun']; rfl, E, g, _, .tup [.c .unk, .c (.kl l (.int .i64 st))], EnvLe.refl E, Mono.refl g, S.back hE _ (Mono.refl g) (pe_back hE hk2 hin H6), ?_, h st⟩
      exact ⟨_, ⟨_, _, rfl, hone, _, _, rfl, ⟨⟨_, hE⟩, rfl, rfl⟩, rfl⟩, rfl⟩
    ·exact h.elim
  ·exact h.elim
 ·exact h.elim
theorem peA_re {P P' : Program} {st : Nat} {p : Pend} {hh : Hp} (h : kk2 P' T) (h' : kk2 P T) (s : (peA P' T u q1 q2 mb nx L st p).sat g hh) : (peA P T u q1 q2 mb nx L st p).sat g hh := by
 have hkI : kkOk P' T.kI .int = true := by simp [kkOk, h.1]
 have hkI' : kkOk P T.kI .int = true := by simp [kkOk, h'.1]
 have hkS : kkOk P' T.kS .str = true := by simp [kkOk, h.2]
 have hkS' : kkOk P T.kS .str = true := by simp [kkOk, h'.2]
 have sa : ∀ {k : Kk} {t : TypeId} {bb : Nat} {m : List (k.den × Value)} {x : k.den} {q : Hp}, kkOk P' t k = true → kkOk P t k = true → (@mapSA k.den k.key P' t bb m x st).sat g q → (@mapSA k.den k.key P t bb m x st).sat g q := fun {k t bb m x q} h1 h2 ⟨es, c, h3, h4, h5⟩ => by
  obtain ⟨es', c', h6, h7⟩ := mapA_re (g := g) (k := k) (bb := bb) (m := m) (hh := q) h1 h2 ⟨es, c, h3, h4⟩
  rw [h3] at h6
  cases h6
  exact ⟨es, c, h3, h7, h5⟩
 have one : ∀ {n : LNode} {q : Hp}, (nodeA P' T n).sat g q → (nodeA P T n).sat g q := fun {n q} s => by
  obtain ⟨a1, a2, b1, c1, d1, a3, a4, b2, c2, d2, a5, a6, b3, c3, d3, a7, a8, b4, c4, d4, a9, a10, b5, c5, d5, r⟩ := s
  exact ⟨a1, a2, b1, c1, d1, a3, a4, b2, c2, d2, a5, a6, b3, c3, d3, a7, a8, b4, c4, d4, a9, a10, b5, c5, mapVA_re (k := .str) hkS hkS' d5, r⟩
 have all : ∀ {M : List (Int × LNode)} {q : Hp}, sats g (M.map fun p => nodeA P' T p.2) q → sats g (M.map fun p => nodeA P T p.2) q := fun {M} => by
  induction M with
  | nil => exact fun s => s
  | cons p M ih => exact fun ⟨a, b, c, d, s1, s2⟩ => ⟨a, b, c, d, one s1, ih s2⟩
 have all2 : ∀ {M N : List (Int × LNode)} {q : Hp}, sats g ((M.map fun p => nodeA P' T p.2) ++ (N.map fun p => nodeA P' T p.2)) q → sats g ((M.map fun p => nodeA P T p.2) ++ (N.map fun p => nodeA P T p.2)) q := fun {M N} => by
  induction M with
  | nil => exact fun s => all s
  | cons p M ih => exact fun ⟨a, b, c, d, s1, s2⟩ => ⟨a, b, c, d, one s1, ih s2⟩
 cases p with
 | node r =>
  obtain ⟨val, k1, k2, ap, e, s1, k3, k4, ap2, e2, s2, s3⟩ := s
  exact ⟨val, k1, k2, ap, e, s1, k3, k4, ap2, e2, sa (k := .int) hkI hkI' s2, all s3⟩
 | ent d z =>
  obtain ⟨x, a1, a2, b1, c1, d1, a3, a4, b2, c2, d2, a5, a6, b3, c3, d3, a7, a8, b4, c4, d4, a9, a10, b5, c5, d5, a11, a12, b6, c6, d6, a13, a14, b7, c7, d7, r⟩ := s
  refine ⟨x, a1, a2, b1, c1, d1, a3, a4, b2, c2, d2, a5, a6, b3, c3, d3, a7, a8, b4, c4, d4, a9, a10, b5, c5, d5, a11, a12, b6, c6, sa (k := .str) hkS hkS' d6, a13, a14, b7, c7, ?_, r⟩
  obtain ⟨k1, k2, ap, e, s1, k3, k4, ap2, e2, s2, s3⟩ := d7
  exact ⟨k1, k2, ap, e, s1, k3, k4, ap2, e2, mapA_re (k := .int) hkI hkI' s2, all2 s3⟩
theorem St_pe (S : Sta n W F b E g w s a) {l st : Nat} {v : Value} {p : Pend} (h : E[l]? = some v) (ho : b.obj s l = .ab (.pe T q1 q2 mb nx L p st)) (hk : kk2 P T) :
  ∃ u, v = ptr u 0 ∧ UpIn q1 q2 nx L ∧ SL W g w (peA P T u q1 q2 mb nx L st p :: dropA (atomsO E 0 (b.heap s) ++ F) l) := by
 have H := S.pick h
 rw [ho] at H
 obtain ⟨k1, be, se, ow, h1, h2, ap, q, ⟨v', s1, u, P', rfl, hk', hin, s3⟩, s4⟩ := H
 rw [h] at s1
 obtain rfl := Option.some.inj s1
 exact ⟨u, rfl, hin, k1, be, se, ow, h1, h2, ap, q, peA_re hk' hk s3, s4⟩
theorem upIn_cons {r : Int} {nd : LNode} (h : UpIn q1 q2 nx L) (hi : NodeIn nd) : UpIn q1 q2 nx ((r, nd) :: L) := ⟨h.q1, h.q2, h.nx, fun y n hn => by
 rw [getK_cons'] at hn
 split at hn
 ·obtain rfl := Option.some.inj hn
  exact hi
 ·exact h.nodes y n hn⟩
theorem run_entryStoreV (S : Sta n W F b E g w s a) {t : TypeId} {x y z : Operand} {cx cy : Cl} {v : S1} {K : Ov → Prop} (ho : o.op = .entryStore t x y z) (rx : RelC E g cx (a.eval x)) (ry : RelC E g cy (a.eval y)) (rz : RelS E g v (a.eval z)) (h : entryStoreV X b s cx cy v K) :
  ∃ w', (execOp a.eval o).run X.P w = .ok .skip w' ∧ ∃ g' s', Mono g g' ∧ Sta n W F b E g' w' s' a ∧ K s' := by
 unfold entryStoreV at h
 split at h
 ·rename_i l v0 l' x0
  obtain ⟨⟨xv, hE⟩, hx, _⟩ := rx
  obtain ⟨_, hy, _⟩ := ry
  split at h
  ·rename_i T q1 q2 mb nx L p st hob
   have hQ := if_ok h
   clear h
   obtain ⟨hk, h⟩ := hQ
   have hk2 := kk2_ok.2 hk
   split at h
   ·unfold entryNodeV at h
    obtain ⟨g1, s1, nd, m1, hvz, hi, hK, S1⟩ := newNode_ok S hk2 rz h
    split at hK
    ·rename_i T' q1' q2' mb' nx' L' r st' hob1
     have hQ := if_ok hK
     clear hK
     obtain ⟨hT, rfl, rfl, hr, hg, hK⟩ := hQ
     obtain rfl := UTy.eq_of_beq hT
     obtain ⟨ub, rfl, hin, H⟩ := St_pe S1 hE hob1 hk2
     have H1 : SL W g1 w (peA X.P T' ub q1' q2' mb' nx' L' st' (.node r) :: nodeA X.P T' nd :: dropA (atomsO E 0 (b.heap s1) ++ F) l) := by
      refine H.weak fun k s1' => ?_
      rw [dropA_app (heap_drop S1 hE)] at s1' ⊢
      obtain ⟨h1, h2, ap, e, s2, s3⟩ := s1'
      exact ⟨h1, h2, ap, e, s2, sats.ofEnd s3⟩
     obtain ⟨val, H2⟩ := SL.openE H1
     obtain ⟨w', hrun, H3, _⟩ := SL.entryStore (SL.pick 1 H2) (keyT_int hk2.1) (inK_wf.1 hr) t (ptr nd.blk 0)
     have hp : putK (ptrsV L') r (ptr nd.blk 0) = ptrsV ((r, nd) :: L') := by
      unfold putK
      rw [delK_none (by rw [getK_ptrs, hg]; rfl)]; rfl
     rw [hp] at H3
     have H4 : SL W g1 w' (Lm.blk ub #[.int .i64 q1', .int .i64 q2', .map (some mb'), .int .i64 nx'] T'.U :: mapA X.P T'.kI mb' (ptrsV ((r, nd) :: L')) :: ((L'.map fun p => nodeA X.P T' p.2) ++ nodeA X.P T' nd :: dropA (atomsO E 0 (b.heap s1) ++ F) l)) := H3.weak fun _ s => s.swap
     have H5 : SL W g1 w' (upA X.P T' ub q1' q2' mb' nx' ((r, nd) :: L') :: dropA (atomsO E 0 (b.heap s1) ++ F) l) := SL.upI (H4.under fun _ s => by
      obtain ⟨k1, k2, ap, e, s1, s2⟩ := s
      exact ⟨k1, k2, ap, e, s1, sats.ofEnd s2⟩)
     refine ⟨w', ?_, g1, _, m1, S1.back2 hE _ (Mono.refl g1) (up_back hE (kk2_ok.1 hk2) (upIn_cons hin hi) H5), hK⟩
     have hrun' : (Instr.entryStore t (.map (some mb')) (.int .i64 st') (ptr nd.blk 0)).run X.P w = .ok () w' := hrun
     simp [execOp, ho, hx, hy, hvz, hrun']
    ·exact hK.elim
   ·rename_i d zz
    split at h
    ·rename_i yy
     obtain ⟨rfl, m, hg, rfl, hzz, hK⟩ := h
     obtain ⟨hz, hyy⟩ := (show RelC E g (.k (.int .i64 yy)) (a.eval z) from rz)
     obtain ⟨ub, rfl, hin, H⟩ := St_pe S hE hob hk2
     obtain ⟨⟨val, ib, m', l1, l2⟩, H1⟩ := SL.openE H
     obtain ⟨⟨hout, hvi⟩, H2⟩ := SL.pure H1
     obtain ⟨i1, H3⟩ := SL.isv H2
     obtain ⟨i2, H4⟩ := SL.isv H3
     obtain ⟨i3, H5⟩ := SL.pure H4
     have hm : m' = m := by
      have : getK L d = some m' := by
       obtain ⟨e, h1, h2⟩ := hout
       rw [e]
       unfold getK
       rw [List.find?_append, List.find?_eq_none.2 fun p hp => by simpa using h1 p hp]
       simp
      rw [this] at hg
      exact Option.some.inj hg
     subst hm
     obtain ⟨w', hrun, H6, _⟩ := SL.entryStore (SL.pick 1 H5) (keyT_str hk2.2) hzz t (.int .i64 yy)
     have e1 : putK (entsV m'.ents) zz (.int .i64 yy) = entsV (putK m'.ents zz yy) := putK_map (fun x : Int => Value.int .i64 x) m'.ents zz yy
     rw [e1] at H6
     have H7 := H6.mapVI
     rw [← hvi] at H7
     have H8 : SL W g w' (nodeA X.P T { m' with ents := putK m'.ents zz yy } :: restA X.P T ub q1 q2 mb nx L l1 l2 :: dropA (atomsO E 0 (b.heap s) ++ F) l) := SL.nodeI (n := { m' with ents := putK m'.ents zz yy }) i1 i2 i3.1 i3.2 (H7.weak fun _ s => s.swap)
     have H9 : SL W g w' (upA X.P T ub q1 q2 mb nx (setK L d { m' with ents := putK m'.ents zz yy }) :: dropA (atomsO E 0 (b.heap s) ++ F) l) := SL.upJoin (m := m') (l1 := l1) (l2 := l2) hout rfl H8
     refine ⟨w', ?_, g, _, Mono.refl g, S.back hE _ (Mono.refl g) (up_back hE hk (upIn_set hin (ents_in (hin.nodes d m' hg) hyy)) H9), hK⟩
     have hrun' : (Instr.entryStore t m'.vi (.int .i64 st) (.int .i64 yy)).run X.P w = .ok () w' := by rw [hvi]; exact hrun
     simp [execOp, ho, hx, hy, hz, hrun']
    ·exact h.elim
  ·exact h.elim
 ·exact h.elim
theorem run_makeSliceV (S : Sta n W F b E g w s a) {t : TypeId} {x y : Operand} {cx cy : Cl} {K : SV → Ov → Prop} (ho : o.op = .makeSlice t x y) (rx : RelC E g cx (a.eval x)) (ry : RelC E g cy (a.eval y)) (h : makeSliceV X s t cx cy K) :
  ∃ v w', (execOp a.eval o).run X.P w = .ok (.value v) w' ∧ Out n W F b E g a K v w' := by
 unfold makeSliceV at h
 split at h
 ·rename_i et c d ht
  have hQ := if_ok h
  clear h
  obtain ⟨hu, rfl, h0, h1, h⟩ := hQ
  obtain ⟨hx, _⟩ := rx
  obtain ⟨hy, _⟩ := ry
  unfold isU8 at hu
  split at hu
  ·rename_i i hq
   rw [Bool.and_eq_true] at hu
   obtain ⟨hs, hu⟩ := hu
   have hs := Nat.eq_of_beq_eq_true hs
   split at hu
   ·rename_i hz0
    have hb := Nat.eq_of_beq_eq_true hu
    have hr := run_make (P := X.P) w t et i (.int .u8 0) ht hq hz0 .i64 .i64 c c h0 (Int.le_refl _) (by rw [hb]; omega) (by omega)
    have hcells : madeCells (Value.int .u8 0).cells (c.toNat * i.size) = (bV (List.replicate c.toNat 0)).toArray := by
     rw [hs, Nat.mul_one]
     apply Array.ext_getElem?
     intro j
     simp only [madeCells, bV, Value.cells, List.map_replicate]
     by_cases hj : j < c.toNat
     ·simp [hj, Nat.mod_one]
     ·simp [hj]
    rw [hcells] at hr
    have H1 := S.sat.sl.new (New.mk' w (.cells (bV (List.replicate c.toNat (0 : UInt8))).toArray et (0, 0)))
    have H2 := SL.toRow (size := 1) (cap := c.toNat) c.toNat H1 (Nat.le_refl _) (by unfold maxLen; omega) (by simp [bV])
    have e1 : (bV (List.replicate c.toNat (0 : UInt8))).toArray.toList.take (c.toNat * 1) = bV (List.replicate c.toNat 0) := by
     rw [List.take_of_length_le (by simp [bV])]
    rw [e1] at H2
    have e2 : c.toNat = (List.replicate c.toNat (0 : UInt8)).length := by simp
    have H3 : SL W g _ (slO .u8 et (.slice (some ⟨w.heap.size, 0, none⟩) c.toNat c.toNat) (List.replicate c.toNat (0 : UInt8)) :: (atomsO E 0 (b.heap s) ++ F)) := SL.slB (by rw [List.length_replicate]; exact H2)
    refine ⟨.slice (some ⟨w.heap.size, 0, none⟩) c.toNat c.toNat, _, by simp [execOp, ho, hx, hy, hr]; rfl, E ++ [_], g, _, _, EnvLe.app E _, Mono.refl g, S.new (v := .slice (some ⟨w.heap.size, 0, none⟩) c.toNat c.toNat) (Mono.refl g) ?_, (show RelV _ g (.c (.o s.n)) _ from ⟨at_end S _, _, _, _, rfl⟩), h⟩
    exact H3.weak fun k ⟨k1, k2, ap, q, s1, s2⟩ => ⟨k1, k2, ap, q, ⟨_, at_end S _, s1⟩, s2⟩
   ·cases hu
  ·cases hu
 ·exact h.elim
theorem run_pwStore (S : Sta n W F b E g w s a) {t : TypeId} {x y : Operand} {l bb lo : Nat} {K : Ov → Prop} (ho : o.op = .store t x y) (r : RelC E g (.kl l (.pointer (some ⟨bb, 6, none⟩))) (a.eval x)) (rv : RelC E g (.o lo) (a.eval y)) (h : pwStoreV X.P b s t l bb lo K) :
  ∃ w' s', (execOp a.eval o).run X.P w = .ok .skip w' ∧ Sta n W F b E g w' s' a ∧ K s' := by
 obtain ⟨⟨xv, hE⟩, hx, _⟩ := r
 obtain ⟨hEo, hsl⟩ := rv
 unfold pwStoreV at h
 split at h
 ·rename_i i T q1 q2 mb nx L et e xs hie hob hobo
  have hQ := if_ok h
  clear h
  obtain ⟨hk3, h⟩ := hQ
  simp only [Bool.and_eq_true] at hk3
  have hk : (kkOk X.P T.kI .int && kkOk X.P T.kS .str) = true := by rw [Bool.and_eq_true]; exact hk3.2
  have hk2 := kk2_ok.2 hk
  split at h
  ·rename_i ys hys
   obtain ⟨q, hq⟩ := asD_some hys
   subst q
   have hq : ys = xs := hq
   subst hq
   obtain ⟨r, m, hg, rfl, h⟩ := h
   have hne : lo ≠ l := fun e => by
    subst e
    rw [hob] at hobo
    cases hobo
   have S1 := S.give hEo (Mono.refl g) (St_sl S hEo hobo)
   have hob1 : b.obj (s.setO lo .gone) l = .up T q1 q2 mb nx L := by rw [obj_setO, if_neg hne]; exact hob
   obtain ⟨ub, rfl, hin, H⟩ := St_up S1 hE hob1 hk
   have H1 : SL W g w (upA X.P T ub q1 q2 mb nx L :: slO .u8 et (a.eval y) ys :: dropA (atomsO E 0 (b.heap (s.setO lo .gone)) ++ F) l) := by
    refine H.weak fun k s1' => ?_
    rw [dropA_app (heap_drop S1 hE)] at s1' ⊢
    obtain ⟨h1, h2, ap, e, s2, s3⟩ := s1'
    exact ⟨h1, h2, ap, e, s2, sats.ofEnd s3⟩
   obtain ⟨l1, l2, hout, H2⟩ := H1.upSplit (keyT_int hk2.1) hg
   obtain ⟨i1, i2, i3, i4, H3⟩ := H2.nodeO
   have B := H3.blk 0
   obtain ⟨q0, m0, c0, hv0⟩ := hsl
   have hc1 : (a.eval y).cells = #[a.eval y] := one_cells (by rw [hv0]; rfl)
   have hr := run_store_row (P := X.P) (t := t) (off := 6) (v := a.eval y) B (by rw [hie, hc1]; exact congrArg some (Nat.eq_of_beq_eq_true hk3.1).symm) (by rw [hc1, hv0]; rfl) (by rw [hc1]; simp)
   have H4 := H3.upd 0 (cs := ({ m with vd := a.eval y, data := ys } : LNode).cells) ⟨rfl, B.lt⟩
   have I := hin.nodes r m hg
   have H5 : SL W g _ (slO .u8 et (a.eval y) ys :: isA m.vx m.xattrs :: pureA (m.target.size ≤ maxLen ∧ (m.kind = 1 → ∃ b, m.vi = .map (some b))) :: Lm.blk m.blk ({ m with vd := a.eval y, data := ys } : LNode).cells T.N :: mapVA X.P T.kS m.vi (entsV m.ents) :: restA X.P T ub q1 q2 mb nx L l1 l2 :: dropA (atomsO E 0 (b.heap (s.setO lo .gone)) ++ F) l) :=
    (H4.pick 3).under fun h s => ⟨fun _ => none, h, fun _ => .inl rfl, rfl, i2, fun _ => none, h, fun _ => .inl rfl, rfl, ⟨i3, i4⟩, s⟩
   refine ⟨_, _, ?_, S1.back2 hE (.ab (.pw T q1 q2 mb nx L r { m with vd := a.eval y, data := ys } et ys)) (Mono.refl g) (pw_back (m := { m with vd := a.eval y, data := ys }) hE hk2 hin ⟨hout, rfl, ⟨I.kind, I.mode, I.uid, I.gid, I.up, I.links, I.ents⟩⟩ H5), h (a.eval y)⟩
   have hset : (m.cells.toList.take 6 ++ (a.eval y).cells.toList ++ m.cells.toList.drop (6 + (a.eval y).cells.size)).toArray = ({ m with vd := a.eval y, data := ys } : LNode).cells := by
    rw [hc1]; rfl
   rw [hset] at hr
   simp only [execOp, ho, hx]
   show (Sem.run X.P _ w) = _
   simp [hr]
  ·exact h.elim
 ·exact h.elim
end
end Go.Lm

namespace Go.Lm
open Go Go.RowKit
def CtOkW (W : Base) (P : Program) (L : List (Nat × Ct)) : Prop := ∀ p ∈ L, ∀ args H Q, p.2 args H Q → WpW W P p.1 args H Q
def CtOk (I : Base → Prop) (P : Program) (L : List (Nat × Ct)) : Prop := ∀ p ∈ L, ∀ args H Q, p.2 args H Q → Wp I P p.1 args H Q
theorem CtOk.nil (I : Base → Prop) (P : Program) : CtOk I P [] := fun _ h => by cases h
theorem CtOk.at {I : Base → Prop} {P : Program} {L : List (Nat × Ct)} (h : CtOk I P L) {W : Base} (hW : I W) : CtOkW W P L := fun p hp args H Q hc => h p hp args H Q hc W hW
theorem CtOk.cons {I : Base → Prop} {P : Program} {L : List (Nat × Ct)} {f : Nat} {c : Ct} (h : ∀ args H Q, c args H Q → Wp I P f args H Q) (k : CtOk I P L) : CtOk I P ((f, c) :: L) := fun p hp => by
 rcases List.mem_cons.1 hp with rfl | hp
 ·exact h
 ·exact k p hp
theorem CtOkW.look {W : Base} {P : Program} : ∀ {L : List (Nat × Ct)}, CtOkW W P L → ∀ f args H Q, lookC L f args H Q → WpW W P f args H Q
 | [], _, _, _, _, _, h => h.elim
 | (k, c) :: r, hL, f, args, H, Q, h => by
  unfold lookC at h
  by_cases e : k = f
  ·subst e
   have hb : Nat.beq k k = true := by simp
   rw [hb] at h
   exact hL _ (List.mem_cons_self ..) _ _ _ h
  ·rw [beq_ne e] at h
   exact CtOkW.look (fun p hp => hL p (List.mem_cons_of_mem _ hp)) f args H Q h
section
variable {X : Vx} {n : Nat} {W : Base} {F : List Atom} {b : Bs} {E : Env} {g w : World} {s : Ov} {a : Act} {o : Oper} {K : SV → Ov → Prop}
theorem op1_ok {x : Operand} {k : SV → Prop} (h : op1 b s x k) : ∃ v, opd b s x = some v ∧ k v := by
 unfold op1 at h
 split at h
 ·rename_i v hv; exact ⟨v, hv, h⟩
 ·exact h.elim
theorem cl1_ok {x : Operand} {k : Cl → Prop} (h : cl1 b s x k) : ∃ c, opd b s x = some (.v (.c c)) ∧ k c := by
 unfold cl1 at h
 split at h
 ·rename_i c hc; exact ⟨c, hc, h⟩
 ·exact h.elim
theorem Out.here (S : Sta n W F b E g w s a) {v : Value} {sv : SV} (r : RelV E g sv v) (h : K sv s) : Out n W F b E g a K v w := ⟨E, g, s, sv, EnvLe.refl E, Mono.refl g, S, r, h⟩
theorem OpR.val {v : Value} {w' : World} {R : Value → World → Prop} {P : Program} (h : (execOp a.eval o).run P w = .ok (.value v) w') (k : R v w') : OpR P o a w R := .inl ⟨v, w', h, k⟩
theorem OpR.er (S : Sta n W F b E g w s a) (h : ER X.P o a w E g fun r => K r s) : OpR X.P o a w (Out n W F b E g a K) := by
 obtain ⟨v, sv, h1, h2, h3⟩ := h
 exact OpR.val h1 (Out.here S h2 h3)
theorem OpR.ex (h : ∃ v w', (execOp a.eval o).run X.P w = .ok (.value v) w' ∧ Out n W F b E g a K v w') : OpR X.P o a w (Out n W F b E g a K) := .inl h
theorem br_cases {q : Bool} {p r : Prop} (h : br q p r) : (q = true ∧ p) ∨ (q = false ∧ r) := by
 cases q
 ·exact .inr ⟨rfl, h⟩
 ·exact .inl ⟨rfl, h⟩
theorem opt1_ok (S : Sta n W F b E g w s a) {q : Option Operand} {k : Option SV → Prop} (h : opt1 b s q k) : ∃ l, k l ∧ ∀ i, intOf l = some i → BoundIs a q i := by
 unfold opt1 at h
 split at h
 ·exact ⟨none, h, fun i hi => .inl ⟨rfl, (Option.some.inj hi).symm⟩⟩
 ·rename_i y
  obtain ⟨v, hv, h⟩ := op1_ok h
  refine ⟨some v, h, fun i hi => ?_⟩
  unfold intOf at hi
  split at hi
  ·rename_i heq; cases heq
  ·rename_i m heq
   cases heq
   exact .inr ⟨y, m, rfl, (Option.some.inj hi).symm, (relV_int (S.opd hv)).1⟩
  ·cases hi
theorem capsOf_ok : ∀ {l : List SV} {cs : List Cl} {us : List Value}, capsOf l = some cs → RelVs E g l us → RelCs E g cs us
 | [], cs, us, h, r => by
  obtain rfl : [] = cs := Option.some.inj h
  exact r
 | v :: r, cs, us, h, ⟨u, q, e, h1, h2⟩ => by
  subst e
  unfold capsOf at h
  split at h
  ·rename_i heq; cases heq
  ·rename_i c r' heq
   cases heq
   split at h
   ·rename_i l hl
    obtain rfl : c :: l = cs := Option.some.inj h
    exact RelCs.cons h1 (capsOf_ok hl h2)
   ·cases h
  ·cases h
theorem relVs_one {c : SV} {us : List Value} (h : RelVs E g [c] us) : ∃ u, us = [u] ∧ RelV E g c u := by
 obtain ⟨u, r, e, h1, h2⟩ := h
 exact ⟨u, by rw [e, show r = [] from h2], h1⟩
theorem relVs_two {c d : SV} {us : List Value} (h : RelVs E g [c, d] us) : ∃ u v, us = [u, v] ∧ RelV E g c u ∧ RelV E g d v := by
 obtain ⟨u, r, e, h1, h2⟩ := h
 obtain ⟨v, e2, h3⟩ := relVs_one h2
 exact ⟨u, v, by rw [e, e2], h1, h3⟩
theorem arr1 {α β : Type} {f : α → β} {l : Array α} {u : β} (h : l.toList.map f = [u]) : ∃ x, l = #[x] ∧ f x = u := by
 obtain ⟨l⟩ := l
 simp only at h
 match l, h with
 | [x], h => exact ⟨x, rfl, by simpa using h⟩
theorem arr2 {α β : Type} {f : α → β} {l : Array α} {u v : β} (h : l.toList.map f = [u, v]) : ∃ x y, l = #[x, y] ∧ f x = u ∧ f y = v := by
 obtain ⟨l⟩ := l
 simp only at h
 match l, h with
 | [x, y], h =>
  simp at h
  exact ⟨x, y, rfl, h.1, h.2⟩
theorem arrT {α : Type} {l : Array α} {t : List α} (h : l.toList = t) : l = t.toArray := by
 subst h; simp
theorem vBuiltin_ok (S : Sta n W F b E g w s a) {c : Call} {bi : Builtin} {args : List SV} (ho : o.op = .call c) (hc : c.callee = .builtin bi) (ha : opds b s c.args.toList = some args) (h : vBuiltin X b s bi args c.argTypes.toList K) : OpR X.P o a w (Out n W F b E g a K) := by
 have hv := opds_ok S ha
 obtain ⟨callee, cargs, ctys⟩ := c
 simp only at hc ha hv h
 subst hc
 unfold vBuiltin at h
 split at h
 ·split at h
  ·rename_i x t hts
   obtain ⟨u, e, hu⟩ := relVs_one hv
   obtain ⟨ox, rfl, rfl⟩ := arr1 e
   obtain rfl := arrT hts
   exact OpR.er S (run_lenV S ho hu h)
  ·exact h.elim
 ·split at h
  ·rename_i x y t t2 hts
   obtain ⟨u, v, e, hu, hv2⟩ := relVs_two hv
   obtain ⟨ox, oy, rfl, rfl, rfl⟩ := arr2 e
   obtain rfl := arrT hts
   exact OpR.ex (run_appendV S ho hu hv2 h)
  ·exact h.elim
 ·split at h
  ·rename_i x y t t2 hts
   obtain ⟨u, v, e, hu, hv2⟩ := relVs_two hv
   obtain ⟨ox, oy, rfl, rfl, rfl⟩ := arr2 e
   obtain rfl := arrT hts
   exact OpR.ex (run_copyV S ho hu hv2 h)
  ·exact h.elim
 ·split at h
  ·rename_i x y t t2 hts
   obtain ⟨u, v, e, hu, hv2⟩ := relVs_two hv
   obtain ⟨ox, oy, rfl, rfl, rfl⟩ := arr2 e
   obtain rfl := arrT hts
   exact OpR.er S (run_mmV (mn := true) ho hu hv2 h)
  ·exact h.elim
 ·split at h
  ·rename_i x y t t2 hts
   obtain ⟨u, v, e, hu, hv2⟩ := relVs_two hv
   obtain ⟨ox, oy, rfl, rfl, rfl⟩ := arr2 e
   obtain rfl := arrT hts
   exact OpR.er S (run_mmV (mn := false) ho hu hv2 h)
  ·exact h.elim
 ·split at h
  ·rename_i l v y t k hts
   obtain ⟨u, v2, e, hu, hv2⟩ := relVs_two hv
   obtain ⟨ox, oy, rfl, rfl, rfl⟩ := arr2 e
   obtain rfl := arrT hts
   obtain ⟨w', s', h1, h2, h3⟩ := run_upDel S ho hu hv2 h
   exact OpR.ex ⟨_, w', h1, E, g, s', .tup [], EnvLe.refl E, Mono.refl g, h2, ⟨[], rfl, rfl⟩, h3⟩
  ·exact h.elim
 ·exact h.elim
theorem holdVs_ok : ∀ {args : List SV} {us : List Value} {s : Ov} {g : World} {k : List SV → Ov → Prop}, Sta n W F b E g w s a → RelVs E g args us → holdVs b args s k → ∃ g' s' args', Mono g g' ∧ Sta n W F b E g' w s' a ∧ RelVs E g' args' us ∧ k args' s'
 | [], us, s, g, k, S, hv, h => ⟨g, s, [], Mono.refl g, S, hv, h⟩
 | v :: r, us, s, g, k, S, ⟨u, q, e, h1, h2⟩, h => by
  subst e
  have more : ∀ {v' : SV} {g1 : World} {s1 : Ov}, Mono g g1 → Sta n W F b E g1 w s1 a → RelV E g1 v' u → (holdVs b r s1 fun r' s' => k (v' :: r') s') → ∃ g' s' args', Mono g g' ∧ Sta n W F b E g' w s' a ∧ RelVs E g' args' (u :: q) ∧ k args' s' := fun {v' g1 s1} m1 S1 hu h => by
   have h2' : RelVs E g1 r q := by
    have key : ∀ {l : List SV} {us : List Value}, RelVs E g l us → RelVs E g1 l us := by
     intro l
     induction l with
     | nil => intro us h; exact h
     | cons c l ih =>
      rintro us ⟨u, r, e, h1, h2⟩
      exact ⟨u, r, e, h1.mono (EnvLe.refl E) m1, ih h2⟩
    exact key h2
   obtain ⟨g2, s2, r', m2, S2, hr, hk⟩ := holdVs_ok S1 h2' h
   exact ⟨g2, s2, v' :: r', m1.trans m2, S2, ⟨u, q, rfl, hu.mono (EnvLe.refl E) m2, hr⟩, hk⟩
  unfold holdVs at h
  split at h
  ·rename_i c
   have hc : RelCs E g [c] [u] := ⟨u, [], rfl, h1, rfl⟩
   obtain ⟨g1, s1, cs, m1, S1, hcs, h⟩ := holdCs_ok S hc h
   split at h
   ·rename_i c'
    obtain ⟨u', q', e', h3, h4⟩ := hcs
    obtain rfl : u = u' := (List.cons.inj e').1
    exact more m1 S1 (v' := .v (.c c')) h3 h
   ·exact h.elim
  ·rename_i l
   obtain ⟨us, hu, rfl⟩ := h1
   obtain ⟨g1, s1, cs, m1, S1, hcs, h⟩ := holdCs_ok S hu h
   exact more m1 S1 (v' := .v (.agg cs)) ⟨us, hcs, rfl⟩ h
  ·exact more (Mono.refl g) S h1 h
theorem vCall_ok (hct : CtOkW W X.P X.ct) (S : Sta n W F b E g w s a) {c : Call} (ho : o.op = .call c) (h : vCall X b s c K) : OpR X.P o a w (Out n W F b E g a K) := by
 unfold vCall at h
 split at h
 ·exact h.elim
 ·rename_i args ha
  split at h
  ·rename_i fo hc
   obtain ⟨q, hq, h⟩ := cl1_ok h
   split at h
   ·rename_i f caps
    obtain ⟨hk, h⟩ := if_ok h
    obtain ⟨us, h1, h2⟩ := S.opd hq
    refine .inr (.inr ⟨f, _, run_call ho hc h2 hk, ?_⟩)
    have hv := RelVs.app (opds_ok S ha) (relVs_caps h1)
    have e : (c.args.map a.eval ++ us.toArray) = (List.map a.eval c.args.toList ++ us).toArray := by simp
    rw [e]
    split at h
    ·obtain ⟨g1, s1, args', m1, S1, hv1, h⟩ := holdVs_ok S hv h
     have := run_callV (P := X.P) hct.look S1 hv1 h
     exact this.mono fun v w' ⟨E', g', s', sv, q1, q2, q3⟩ => ⟨E', g', s', sv, q1, m1.trans q2, q3⟩
    ·split at h
     ·exact run_callR (P := X.P) hct.look S hv h
     ·exact run_callV (P := X.P) hct.look S hv h
   ·exact h.elim
  ·rename_i bi hc
   exact vBuiltin_ok S ho hc ha h
  ·rename_i ro name hc
   obtain ⟨q, hq, h⟩ := cl1_ok h
   split at h
   ·rename_i t r
    split at h
    ·rename_i f hf
     obtain ⟨hk, h⟩ := if_ok h
     obtain ⟨u, h1, h2⟩ := S.opd hq
     refine .inr (.inr ⟨f, _, run_invoke ho hc h2 hf hk, ?_⟩)
     have hv : RelVs E g (.v (.c r) :: args) (u :: List.map a.eval c.args.toList) := ⟨u, _, rfl, h1, opds_ok S ha⟩
     have e : (#[u] ++ c.args.map a.eval) = (u :: List.map a.eval c.args.toList).toArray := by simp
     rw [e]
     split at h
     ·exact run_callR (P := X.P) hct.look S hv h
     ·exact run_callV (P := X.P) hct.look S hv h
    ·exact h.elim
   ·exact h.elim
theorem reAgg_rel {g' : World} {u : S1} {cs : List Cl} {v : Value} (r : RelS E g u v) (h : RelCs E g' cs v.cells.toList) : RelS E g' (reAgg u cs) v := by
 cases u with
 | c x =>
  have hr : RelC E g x v := r
  rw [one_cells hr.one] at h
  match cs, h with
  | [d], ⟨u', q, e1, h1, h2⟩ =>
   obtain ⟨rfl, _⟩ := List.cons.inj e1
   exact h1
  | [], h => cases (show [v] = [] from h)
  | _ :: _ :: _, ⟨_, _, e1, _, _, _, e2, _⟩ =>
   obtain ⟨_, rfl⟩ := List.cons.inj e1
   cases e2
 | agg l =>
  obtain ⟨us, h1, rfl⟩ := r
  have hc : (Value.agg us.toArray).cells.toList = us := by simp [Value.cells]
  rw [hc] at h
  have : reAgg (.agg l) cs = .agg cs := rfl
  rw [this]
  exact ⟨us, h, rfl⟩
theorem vOp_ok (hct : CtOkW W X.P X.ct) (S : Sta n W F b E g w s a) (h : vOp X b s o K) : OpR X.P o a w (Out n W F b E g a K) := by
 unfold vOp at h
 split at h
 ·rename_i x ho
  obtain ⟨v, hv, h⟩ := op1_ok h
  exact OpR.val (by simp [execOp, ho]) (Out.here S (S.opd hv) h)
 ·rename_i x ho
  obtain ⟨v, hv, h⟩ := op1_ok h
  exact OpR.val (by simp [execOp, ho]) (Out.here S (S.opd hv) h)
 ·rename_i c x y ho
  obtain ⟨q, hq, h⟩ := cl1_ok h
  obtain ⟨v, hv, h⟩ := op1_ok h
  obtain ⟨u, hu, h⟩ := op1_ok h
  split at h
  ·rename_i z
   obtain ⟨hz, _⟩ := S.opd hq
   rcases br_cases h with ⟨e, h⟩ | ⟨e, h⟩ <;> subst e
   ·exact OpR.val (v := a.eval x) (by simp [execOp, ho, hz, asBool]) (Out.here S (S.opd hv) h)
   ·exact OpR.val (v := a.eval y) (by simp [execOp, ho, hz, asBool]) (Out.here S (S.opd hu) h)
  ·exact h.elim
 ·rename_i op t x y yt ho
  obtain ⟨v, hv, h⟩ := op1_ok h
  obtain ⟨u, hu, h⟩ := op1_ok h
  exact OpR.er S (ER.of (m := (do eqGuard op t x y (a.eval x) (a.eval y); binOp op t (a.eval x) (a.eval y))) (by simp [execOp, ho]) (run_binV S (S.opd hv) (S.opd hu) h))
 ·rename_i op t x ho
  obtain ⟨v, hv, h⟩ := op1_ok h
  exact OpR.er S (ER.of (m := Op.unary op (a.eval x)) (by simp [execOp, ho]) (run_unV (S.opd hv) h))
 ·rename_i x i ho
  obtain ⟨v, hv, h⟩ := op1_ok h
  split at h
  ·split at h
   ·rename_i l c hc
    obtain ⟨us, h1, h2⟩ := S.opd hv
    obtain ⟨u, h3, h4⟩ := h1.get hc
    exact OpR.val (v := u) (by simp [execOp, ho, h2, Instr.extract, h3]) (Out.here S (sv := .v c) h4 h)
   ·exact h.elim
  ·exact h.elim
 ·rename_i t x j ho
  obtain ⟨v, hv, h⟩ := op1_ok h
  split at h
  ·split at h
   ·rename_i f hf
    split at h
    ·rename_i r hr
     exact OpR.er S (run_field ho (S.opd hv) hf hr h)
    ·exact h.elim
   ·exact h.elim
  ·exact h.elim
 ·rename_i t x ho
  obtain ⟨c, hc, h⟩ := cl1_ok h
  exact OpR.er S (ER.of (m := Instr.loadAt t (a.eval x)) (by simp [execOp, ho]) (run_loadV S (S.opd hc) h))
 ·rename_i t x y ho
  obtain ⟨c, hc, h⟩ := cl1_ok h
  obtain ⟨u, hu, h⟩ := op1_ok h
  split at h
  ·rename_i uu
   have old : storeV X.P b s t c uu (fun s' => K .und s') → OpR X.P o a w (Out n W F b E g a K) := fun h => by
    obtain ⟨w', s', h1, h2, h3⟩ := run_storeV S ho (S.opd hc) (S.opd hu) h
    exact .inr (.inl ⟨w', h1, E, g, s', .und, EnvLe.refl E, Mono.refl g, h2, relV_und, h3⟩)
   split at h
   ·rename_i l bb off
    split at h
    ·rename_i lo
     obtain ⟨hoff, h9⟩ := if_ok h
     obtain rfl := Nat.eq_of_beq_eq_true hoff
     obtain ⟨w', s', h1, h2, h3⟩ := run_pwStore S ho (S.opd hc) (S.opd hu) h9
     exact .inr (.inl ⟨w', h1, E, g, s', .und, EnvLe.refl E, Mono.refl g, h2, relV_und, h3⟩)
    ·have rv := RelS.cells (S.opd hu)
     obtain ⟨g1, s1, cs, m1, S2, hcs, h9⟩ := holdCs_ok S rv h
     obtain ⟨w', s', h1, h2, h3⟩ := run_nodeStore S2 ho (RelC.mono (EnvLe.refl E) m1 (S.opd hc)) (by rw [reAgg_cells]; exact hcs) h9
     exact .inr (.inl ⟨w', h1, E, g1, s', .und, EnvLe.refl E, m1, h2, relV_und, h3⟩)
   ·split at h
    ·obtain ⟨w', s', h1, h2, h3⟩ := run_nextStore S ho (S.opd hc) (S.opd hu) h
     exact .inr (.inl ⟨w', h1, E, g, s', .und, EnvLe.refl E, Mono.refl g, h2, relV_und, h3⟩)
    ·exact old h
   ·obtain ⟨g1, s1, cs, m1, S2, hcs, h9⟩ := holdCs_ok S (RelS.cells (S.opd hu)) h
    obtain ⟨w', s', h1, h2, h3⟩ := run_storeV S2 ho (RelC.mono (EnvLe.refl E) m1 (S.opd hc)) (reAgg_rel (S.opd hu) hcs) h9
    exact .inr (.inl ⟨w', h1, E, g1, s', .und, EnvLe.refl E, m1, h2, relV_und, h3⟩)
   ·exact old h
  ·exact h.elim
 ·rename_i t ho
  split at h
  ·rename_i z hz
   split at h
   ·rename_i e he
    exact OpR.ex (run_alloc_b S ho hz he h)
   ·exact OpR.ex (run_alloc S ho hz h)
  ·exact h.elim
 ·rename_i t x ho
  obtain ⟨v, hv, h⟩ := op1_ok h
  split at h
  ·exact OpR.ex (run_box S ho (S.opd hv) h)
  ·exact h.elim
 ·rename_i x ho
  obtain ⟨c, hc, h⟩ := cl1_ok h
  have r := S.opd hc
  have key : ∀ q : Addr, a.eval x = .pointer (some q) → (execOp a.eval o).run X.P w = .ok (.value (a.eval x)) w := fun q hq => by simp [execOp, ho, hq]
  split at h
  ·obtain ⟨bb, h1, h2⟩ := r
   exact OpR.val (key _ h2) (Out.here S (S.opd hc) h)
  ·obtain ⟨h0, v, h1, h2⟩ := r
   obtain ⟨cs, h3, _⟩ := elemD h1 h0.1 h0.2.1
   obtain ⟨q, hq, _⟩ := h3 g (Mono.refl g)
   rw [hq] at h2
   exact OpR.val (key _ h2) (Out.here S (S.opd hc) h)
  ·obtain ⟨v, h1, h2, q, hq⟩ := r
   exact OpR.val (key _ hq) (Out.here S (S.opd hc) h)
  ·exact OpR.val (key _ r.2.1) (Out.here S (S.opd hc) h)
  ·exact h.elim
 ·rename_i t x j ho
  obtain ⟨c, hc, h⟩ := cl1_ok h
  split at h
  ·rename_i f hf
   split at h
   ·rename_i ie hie
    obtain ⟨hs, h⟩ := if_ok h
    split at h
    ·rename_i c' hc'
     obtain ⟨v, h1, h2⟩ := run_addrF (w := w) ho (S.opd hc) hf hie hs hc'
     exact OpR.val h1 (Out.here S (sv := .c c') h2 h)
    ·exact h.elim
   ·exact h.elim
  ·exact h.elim
 ·rename_i t x i ho
  obtain ⟨c, hc, h⟩ := cl1_ok h
  obtain ⟨q, hq, h⟩ := cl1_ok h
  split at h
  ·exact OpR.er S (run_indexAddrV S ho (S.opd hc) (relV_int (S.opd hq)).1 h)
  ·exact h.elim
 ·rename_i t x i ho
  obtain ⟨c, hc, h⟩ := cl1_ok h
  obtain ⟨q, hq, h⟩ := cl1_ok h
  split at h
  ·obtain ⟨h0, h1, h⟩ := h
   exact OpR.er S (run_index ho (by assumption) (S.opd hc).1 (S.opd hq).1 h0 h1 h)
  ·exact h.elim
 ·rename_i t x lo hi ho
  obtain ⟨c, hc, h⟩ := cl1_ok h
  obtain ⟨l, h, hl⟩ := opt1_ok S h
  obtain ⟨m, h, hm⟩ := opt1_ok S h
  split at h
  ·rename_i i j hi' hj'
   exact OpR.er S (run_sliceK S ho (S.opd hc) (hl _ hi') (hm _ hj') h)
  ·exact h.elim
 ·rename_i t ps ho
  split at h
  ·rename_i l hl
   exact OpR.er S (run_buildV ho (partsV_ok S hl) h)
  ·exact h.elim
 ·rename_i t m ps ho
  split at h
  ·rename_i l hl
   exact OpR.ex (run_buildSliceV S ho (partsV_ok S hl) h)
  ·exact h.elim
 ·rename_i src dst x ho
  obtain ⟨v, hv, h⟩ := op1_ok h
  exact OpR.ex (run_convV S ho (S.opd hv) h)
 ·rename_i f first captured ho
  obtain ⟨hf, h⟩ := if_ok h
  split at h
  ·rename_i l hl
   split at h
   ·rename_i cs hcs
    have r := capsOf_ok hcs (opds_ok S hl)
    have hf' : first = #[] := Array.isEmpty_iff.1 hf
    refine OpR.val (v := .func (.func f) #[] (captured.toList.map a.eval).toArray) ?_ (Out.here S (sv := .c (.fn f cs)) ⟨_, r, rfl⟩ h)
    subst hf'
    have e : captured.map a.eval = (captured.toList.map a.eval).toArray := by
     apply Array.ext'; simp
    simp [execOp, ho, Instr.makeFunc, e]
   ·exact h.elim
  ·exact h.elim
 ·rename_i t x ho
  obtain ⟨c, hc, h⟩ := cl1_ok h
  exact OpR.er S (run_ifaceV ho (S.opd hc) h)
 ·rename_i x t0 t ho
  obtain ⟨c, hc, h⟩ := cl1_ok h
  exact OpR.er S (run_assertV ho (S.opd hc) h)
 ·rename_i t ho
  exact OpR.ex (run_makeMapV S ho h)
 ·rename_i t x y c ho
  obtain ⟨mx, hx, h⟩ := cl1_ok h
  obtain ⟨ky, hy, h⟩ := cl1_ok h
  exact OpR.er S (run_lookupV S ho (S.opd hx) (S.opd hy) h)
 ·rename_i t x y z ho
  obtain ⟨mx, hx, h⟩ := cl1_ok h
  obtain ⟨ky, hy, h⟩ := cl1_ok h
  obtain ⟨u, hu, h⟩ := op1_ok h
  split at h
  ·obtain ⟨w', h1, g', s', h2, h3, h4⟩ := run_mapPutV S ho (S.opd hx) (S.opd hy) (S.opd hu) h
   exact .inr (.inl ⟨w', h1, E, g', s', .und, EnvLe.refl E, h2, h3, relV_und, h4⟩)
  ·exact h.elim
 ·rename_i t x ho
  obtain ⟨c, hc, h⟩ := cl1_ok h
  exact OpR.ex (run_rangeM S ho (S.opd hc) h)
 ·rename_i x ho
  obtain ⟨c, hc, h⟩ := cl1_ok h
  exact OpR.ex (run_nextV S ho (S.opd hc) h)
 ·rename_i x ho
  obtain ⟨c, hc, h⟩ := cl1_ok h
  exact OpR.ex (run_nextM S ho (S.opd hc) h)
 ·rename_i x ho
  obtain ⟨c, hc, h⟩ := cl1_ok h
  exact OpR.er S (run_entryM S ho (S.opd hc) h)
 ·rename_i t x y ho
  obtain ⟨c, hc, h⟩ := cl1_ok h
  obtain ⟨d, hd, h⟩ := cl1_ok h
  exact OpR.ex (run_makeSliceV S ho (S.opd hc) (S.opd hd) h)
 ·rename_i t x y ho
  obtain ⟨c, hc, h⟩ := cl1_ok h
  obtain ⟨d, hd, h⟩ := cl1_ok h
  exact OpR.ex (run_mapEntX S ho (S.opd hc) (S.opd hd) h)
 ·rename_i t x y z ho
  obtain ⟨mx, hx, h⟩ := cl1_ok h
  obtain ⟨ky, hy, h⟩ := cl1_ok h
  obtain ⟨u, hu, h⟩ := op1_ok h
  split at h
  ·obtain ⟨w', h1, g', s', h2, h3, h4⟩ := run_entryStoreV S ho (S.opd hx) (S.opd hy) (S.opd hu) h
   exact .inr (.inl ⟨w', h1, E, g', s', .und, EnvLe.refl E, h2, h3, relV_und, h4⟩)
  ·exact h.elim
 ·rename_i t x y z ho
  obtain ⟨mx, hx, h⟩ := cl1_ok h
  obtain ⟨ky, hy, h⟩ := cl1_ok h
  obtain ⟨u, hu, h⟩ := op1_ok h
  split at h
  ·obtain ⟨w', h1, g', s', h2, h3, h4⟩ := run_insertV S ho (S.opd hx) (S.opd hy) (S.opd hu) h
   exact .inr (.inl ⟨w', h1, E, g', s', .und, EnvLe.refl E, h2, h3, relV_und, h4⟩)
  ·exact h.elim
 ·rename_i c ho
  exact vCall_ok hct S ho h
 ·exact h.elim
end
end Go.Lm

namespace Go.Lm
open Go Go.RowKit
section
variable {X : Vx} {n : Nat} {W : Base} {F : List Atom} {b : Bs} {E : Env} {g w : World} {s : Ov} {a : Act} {o : Oper}
theorem slot_put {t d : Nat} {v : SV} : b.slot (s.put (some d) v) t = if d = t then some v else b.slot s t := by
 unfold Bs.slot Ov.put
 simp only [lookS]
 by_cases e : d = t
 ·subst e; simp
 ·rw [beq_ne e, if_neg e]; rfl
theorem Sta.told (S : Sta n W F b E g w s a) {d : Nat} {v : SV} (h : RelV E g v (a.tmps.getD d undef)) : Sta n W F b E g w (s.put (some d) v) a := by
 refine ⟨S.size, S.defers, fun t u hu => ?_, S.sat, S.top⟩
 rw [slot_put] at hu
 by_cases e : d = t
 ·subst e
  rw [if_pos rfl] at hu
  obtain rfl := Option.some.inj hu
  exact h
 ·rw [if_neg e] at hu; exact S.fr t u hu
theorem Sta.put (S : Sta n W F b E g w s a) {d : Option Nat} {v : SV} {u : Value} (hd : (match d with | some d => Nat.blt d n | none => true) = true) (h : RelV E g v u) : Sta n W F b E g w (s.put d v) (a.put d u) := by
 cases d with
 | none => exact S
 | some d =>
  have hd' : d < n := by simpa using hd
  refine ⟨by simp [Act.put, S.size], S.defers, fun t x hx => ?_, S.sat, S.top⟩
  rw [slot_put] at hx
  by_cases e : d = t
  ·subst e
   rw [if_pos rfl] at hx
   obtain rfl := Option.some.inj hx
   simpa [Act.put, S.size, hd'] using h
  ·rw [if_neg e] at hx
   have := S.fr t x hx
   simpa only [Act.put, Array.getD_eq_getD_getElem?, Array.getElem?_setIfInBounds_ne e] using this
theorem wantV_ok {ops : Array Oper} {K : Bool → Ov → Prop} (S : Sta n W F b E g w s a) (h : wantV ops b s o K) : ∃ q s', Region.wanted o (yielded ops a.tmps) = q ∧ Sta n W F b E g w s' a ∧ K q s' := by
 unfold wantV at h
 split at h
 ·rename_i hg
  exact ⟨true, s, by unfold Region.wanted; rw [hg], S, h⟩
 ·rename_i j wt hg
  split at h
  ·exact h.elim
  ·rename_i d hd
   split at h
   ·rename_i v hv
    obtain ⟨hx, _⟩ := S.fr d _ hv
    have hw : Region.wanted o (yielded ops a.tmps) = (v == wt) := by
     unfold Region.wanted
     rw [hg]
     simp only
     unfold yielded
     rw [hd]
     have : (a.tmps[d]?).getD undef = .bool v := by rw [← Array.getD_eq_getD_getElem?]; exact hx
     cases hq : a.tmps[d]? with
     | none => rw [hq] at this; simp [undef] at this
     | some y => rw [hq] at this; simp at this; subst this; cases v <;> cases wt <;> simp [hq]
    rcases br_cases h with ⟨e, h⟩ | ⟨e, h⟩ <;> subst e
    ·exact ⟨_, _, hw, S.told (by rw [hx]; exact relV_bool _), h⟩
    ·exact ⟨_, _, hw, S.told (by rw [hx]; exact relV_bool _), h⟩
   ·rename_i l hv
    obtain ⟨us, _, hx⟩ := S.fr d _ hv
    have hw : Region.wanted o (yielded ops a.tmps) = false := by
     unfold Region.wanted
     rw [hg]
     simp only
     unfold yielded
     rw [hd]
     have : (a.tmps[d]?).getD undef = .tuple us.toArray := by rw [← Array.getD_eq_getD_getElem?]; exact hx
     cases hq : a.tmps[d]? with
     | none => simp [hq]
     | some y => rw [hq] at this; simp at this; subst this; simp [hq]
    exact ⟨false, s, hw, S, h⟩
   ·exact h.elim
def Step (n : Nat) (W : Base) (F : List Atom) (b : Bs) (E : Env) (g : World) (K : Ov → Prop) (a' : Act) (w' : World) : Prop := ∃ E' g' s', EnvLe E E' ∧ Mono g g' ∧ Sta n W F b E' g' w' s' a' ∧ K s'
theorem OpR.wp {P : Program} {R : Value → World → Prop} {K : Act → World → Prop} {Q : Exit → Act → World → Prop} (h : OpR P o a w R) (k : ∀ v w', R v w' → K (a.put o.dst v) w') : o.wp P a w K Q := by
 unfold Oper.wp
 rcases h with ⟨v, w', hr, h⟩ | ⟨w', hr, h⟩ | ⟨f, args, hr, h⟩
 ·rw [hr]; exact k v w' h
 ·rw [hr]; exact k undef w' h
 ·rw [hr]
  simp only [Oper.upon]
  refine Calls.mono h ?_
  rintro e w' ⟨v, rfl, hv⟩
  exact k v w' hv
theorem vOp1_ok (hct : CtOkW W X.P X.ct) {ops : Array Oper} {K : Ov → Prop} (S : Sta n W F b E g w s a) (h : vOp1 X n ops b s o K) :
  (Region.wanted o (yielded ops a.tmps) = true ∧ OpR X.P o a w fun v w' => Step n W F b E g K (a.put o.dst v) w') ∨ (Region.wanted o (yielded ops a.tmps) = false ∧ Step n W F b E g K (a.put o.dst undef) w) := by
 unfold vOp1 at h
 obtain ⟨hd, h⟩ := if_ok h
 obtain ⟨q, s', hq, S', h⟩ := wantV_ok S h
 cases q with
 | true =>
  refine .inl ⟨hq, ?_⟩
  have hr := vOp_ok hct S' h
  have key : ∀ v w', Out n W F b E g a (fun v s' => K (s'.put o.dst v)) v w' → Step n W F b E g K (a.put o.dst v) w' := fun v w' ⟨E', g', s2, sv, he, hm, S2, r, hk⟩ => ⟨E', g', _, he, hm, S2.put hd r, hk⟩
  rcases hr with ⟨v, w', hr, h⟩ | ⟨w', hr, h⟩ | ⟨f, args, hr, h⟩
  ·exact .inl ⟨v, w', hr, key v w' h⟩
  ·exact .inr (.inl ⟨w', hr, key undef w' h⟩)
  ·exact .inr (.inr ⟨f, args, hr, h.mono key⟩)
 | false => exact .inr ⟨hq, E, g, _, EnvLe.refl E, Mono.refl g, S'.put hd relV_und, h⟩
theorem vOps_ok (hct : CtOkW W X.P X.ct) {ops : Array Oper} {Q : Exit → Act → World → Prop} : ∀ {rest : List Oper} {s : Ov} {E : Env} {g w : World} {a : Act} {K : Ov → Prop}, Sta n W F b E g w s a → vOps X n ops b rest s K →
  (∀ a' w', Step n W F b E g K a' w' → Q .normal a' w') → wpList X.P ops Q rest a w
 | [], s, E, g, w, a, K, S, h, k => wpList_nil (k a w ⟨E, g, s, EnvLe.refl E, Mono.refl g, S, h⟩)
 | o :: rest, s, E, g, w, a, K, S, h, k => by
  rcases vOp1_ok hct S h with ⟨hq, hr⟩ | ⟨hq, hr⟩
  ·refine wpR_of hq fun K' hK => hr.wp fun v w' ⟨E', g', s', he, hm, S', h'⟩ => hK _ _ (vOps_ok hct S' h' fun a2 w2 ⟨E2, g2, s2, he2, hm2, S2, h2⟩ => k _ _ ⟨E2, g2, s2, he.trans he2, hm.trans hm2, S2, h2⟩)
  ·obtain ⟨E', g', s', he, hm, S', h'⟩ := hr
   exact wpList_skip hq (vOps_ok hct S' h' fun a2 w2 ⟨E2, g2, s2, he2, hm2, S2, h2⟩ => k _ _ ⟨E2, g2, s2, he.trans he2, hm.trans hm2, S2, h2⟩)
end
end Go.Lm

namespace Go.Lm
open Go Go.RowKit
def Waits (ops : Array Oper) (i j : Nat) : Prop := ∃ f, reach ops f i j = true
def Agree (ops : Array Oper) (dn : List Nat) (listed : Array Bool) (a c : Act) : Prop := ∀ t, (∀ (i : Nat) (o : Oper), i ∈ dn → ops[i]? = some o → o.dst = some t → listed.getD i false = true) → a.tmps.getD t undef = c.tmps.getD t undef
structure TInv (ops : Array Oper) (n : Nat) (Ord : List Nat → Prop) (pu : Nat → Bool) (T : List Nat → List Nat → Act → World → Prop) (listed : Array Bool) (a : Act) (w : World) (dn rest : List Nat) (c : Act) : Prop where
 eq : Ord (dn ++ rest)
 lsize : listed.size = ops.size
 closed : ∀ (j : Nat) (o : Oper), ops[j]? = some o → listed.getD j false = true → ∀ e ∈ o.after, Region.binds .any e = true → listed.getD e.on false = true
 size : a.tmps.size = n
 defers : a.defers = []
 t : T dn rest c w
 agree : Agree ops dn listed a c
 kept : ∀ i ∈ dn, pu i = false → listed.getD i false = true
 old : ∀ i, listed.getD i false = true → i ∈ dn
section
variable {P : Program} {ops : Array Oper} {n : Nat} {Q : Exit → Act → World → Prop}
theorem act_put_get {a : Act} {d : Option Nat} {v : Value} {t : Nat} (h : d ≠ some t) : (a.put d v).tmps.getD t undef = a.tmps.getD t undef := by
 cases d with
 | none => rfl
 | some d =>
  have : d ≠ t := fun e => h (by rw [e])
  simp [Act.put, Array.getD_eq_getD_getElem?, Array.getElem?_setIfInBounds_ne this]
theorem act_put_at {a : Act} {d : Nat} {v : Value} (h : d < a.tmps.size) : (a.put (some d) v).tmps.getD d undef = v := by simp [Act.put, h]
theorem getD_set_same {listed : Array Bool} {i : Nat} (h : i < listed.size) : (listed.setIfInBounds i true).getD i false = true := by simp [Array.getD_eq_getD_getElem?, h]
theorem agree_slots {o : Oper} {a c : Act} (hs : noSel o = true) (h : ∀ t ∈ slotsOf ops o, a.tmps.getD t undef = c.tmps.getD t undef) (ha : a.tmps.size = n) (hc : c.tmps.size = n) :
  execOp a.eval o = execOp c.eval o ∧ Region.wanted o (yielded ops a.tmps) = Region.wanted o (yielded ops c.tmps) := by
 refine ⟨execOp_congr o (fun cs b hb => by simp [noSel, hb] at hs) fun x hx => ?_, ?_⟩
 ·cases x with
  | tmp t => exact h t (List.mem_append_left _ (List.mem_filterMap.2 ⟨.tmp t, by simpa using hx, rfl⟩))
  | const _ => rfl
  | global _ => rfl
  | func _ => rfl
 ·unfold Region.wanted
  cases hg : o.guard with
  | none => rfl
  | some gq =>
   obtain ⟨gi, want⟩ := gq
   have : yielded ops a.tmps gi = yielded ops c.tmps gi := by
    unfold yielded
    cases hgo : (ops[gi]?).bind (·.dst) with
    | none => rfl
    | some d =>
     have hm : d ∈ slotsOf ops o := by
      unfold slotsOf
      refine List.mem_append_right _ ?_
      rw [hg]; simp [hgo]
     have := h d hm
     by_cases hd : d < n
     ·have h1 : d < a.tmps.size := by rw [ha]; exact hd
      have h2 : d < c.tmps.size := by rw [hc]; exact hd
      simp only [Array.getD_eq_getD_getElem?, Array.getElem?_eq_getElem h1, Array.getElem?_eq_getElem h2, Option.getD_some] at this
      simp only [Option.bind_some, Array.getElem?_eq_getElem h1, Array.getElem?_eq_getElem h2, this]
     ·have h1 : a.tmps.size ≤ d := by rw [ha]; exact Nat.le_of_not_lt hd
      have h2 : c.tmps.size ≤ d := by rw [hc]; exact Nat.le_of_not_lt hd
      simp only [Option.bind_some, Array.getElem?_eq_none h1, Array.getElem?_eq_none h2]
   simp only [this]
set_option maxHeartbeats 1000000 in
theorem any_T {Ord : List Nat → Prop} {pu : Nat → Bool} {T : List Nat → List Nat → Act → World → Prop} (hE : edgesOk ops = true) (hD : dstsOk ops n = true) (hnd : ∀ ord, Ord ord → ord.Nodup) (hord : ∀ ord, Ord ord → ∀ i, i ∈ ord ↔ i < ops.size)
  (h5 : ∀ dn rest c w i, T dn rest c w → Ord (dn ++ rest) → i ∈ rest → (∀ j, Waits ops i j → pu j = false → j ∈ dn) → ∃ r1 r2, Ord (dn ++ (r1 ++ i :: r2)) ∧ T dn (r1 ++ i :: r2) c w ∧ ∀ j ∈ r1, pu j = true)
  (hB : ∀ (i k : Nat) (oi ok : Oper) (d : Nat), ops[i]? = some oi → ops[k]? = some ok → ok.dst = some d → d ∈ slotsOf ops oi → Waits ops i k ∨ pu k = false)
  (hsz : ∀ dn rest c w, T dn rest c w → c.tmps.size = n ∧ c.defers = [])
  (h1 : ∀ dn rest c w i o, T dn rest c w → i ∈ dn → pu i = true → ops[i]? = some o → (∀ j ∈ dn, pu j = false → ¬ Waits ops j i) → ∃ v, (Region.wanted o (yielded ops c.tmps) = true → (execOp c.eval o).run P w = .ok (.value v) w) ∧ (Region.wanted o (yielded ops c.tmps) = false → v = undef) ∧ T dn rest (c.put o.dst v) w)
  (h2 : ∀ dn i rest c w o, T dn (i :: rest) c w → pu i = true → ops[i]? = some o → ∃ v, T (dn ++ [i]) rest (c.put o.dst v) w)
  (h3 : ∀ dn i rest c w o, T dn (i :: rest) c w → pu i = false → ops[i]? = some o → (Region.wanted o (yielded ops c.tmps) = true ∧ OpR P o c w fun v w' => T (dn ++ [i]) rest (c.put o.dst v) w') ∨ (Region.wanted o (yielded ops c.tmps) = false ∧ T (dn ++ [i]) rest (c.put o.dst undef) w))
  (h4 : ∀ dn c w, T dn [] c w → Q .normal c w) :
  ∀ (fuel : Nat) (listed : Array Bool) (a : Act) (w : World) (dn rest : List Nat) (c : Act), TInv ops n Ord pu T listed a w dn rest c → ((List.range ops.size).filter fun i => !listed.getD i true).length ≤ fuel → wpAny P .any ops Q fuel listed a w := by
 have edges : ∀ (i : Nat) (o : Oper), ops[i]? = some o → ∀ e ∈ o.after, Region.binds .any e = true → e.on < i := fun i o ho e he hb => by
  have hi : i < ops.size := (Array.getElem?_eq_some_iff.1 ho).1
  have h1 := List.all_eq_true.1 hE i (List.mem_range.2 hi)
  simp only [ho, Bool.and_eq_true] at h1
  have h2 := (Array.all_eq_true_iff_forall_mem.1 h1.1) e he
  simpa [hb] using h2
 have sel : ∀ (i : Nat) (o : Oper), ops[i]? = some o → noSel o = true := fun i o ho => by
  have hi : i < ops.size := (Array.getElem?_eq_some_iff.1 ho).1
  have h1 := List.all_eq_true.1 hE i (List.mem_range.2 hi)
  simp only [ho, Bool.and_eq_true] at h1
  exact h1.2
 have dlt : ∀ (i : Nat) (o : Oper) (d : Tmp), ops[i]? = some o → o.dst = some d → d < n := fun i o d ho hd => by
  have hi : i < ops.size := (Array.getElem?_eq_some_iff.1 ho).1
  have h1 := List.all_eq_true.1 hD i (List.mem_range.2 hi)
  simp only [ho, Option.bind_some, hd, Bool.and_eq_true] at h1
  simpa using h1.1
 have dne' : ∀ (i j : Nat) (oi oj : Oper) (d : Tmp), j < i → ops[i]? = some oi → ops[j]? = some oj → oi.dst = some d → oj.dst = some d → False := fun i j oi oj d hji hi hj hdi hdj => by
  have hi' : i < ops.size := (Array.getElem?_eq_some_iff.1 hi).1
  have h1 := List.all_eq_true.1 hD i (List.mem_range.2 hi')
  simp only [hi, Option.bind_some, hdi, Bool.and_eq_true] at h1
  have h2 := List.all_eq_true.1 h1.2 j (List.mem_range.2 hji)
  simp [hj, hdj] at h2
 have dne : ∀ (i j : Nat) (oi oj : Oper) (d : Tmp), ops[i]? = some oi → ops[j]? = some oj → oi.dst = some d → oj.dst = some d → i = j := fun i j oi oj d hi hj hdi hdj => by
  rcases Nat.lt_trichotomy i j with h | h | h
  ·exact (dne' j i oj oi d h hj hi hdj hdi).elim
  ·exact h
  ·exact (dne' i j oi oj d h hi hj hdi hdj).elim
 have unl : ∀ (listed : Array Bool) i, i < listed.size → (listed.getD i true = false ↔ listed.getD i false = false) := fun listed i hi => by
  simp [Array.getD_eq_getD_getElem?, hi]
 have lstlt : ∀ (listed : Array Bool) i, listed.getD i false = true → i < listed.size := fun listed i hi => by
  rcases Nat.lt_or_ge i listed.size with h | h
  ·exact h
  ·simp [Array.getD_eq_getD_getElem?, Array.getElem?_eq_none h] at hi
 have done : ∀ {listed : Array Bool} {a : Act} {w : World} {dn rest : List Nat} {c : Act}, TInv ops n Ord pu T listed a w dn rest c → Region.ready .any ops listed = [] → ∀ i, i < ops.size → listed.getD i false = true := by
  intro listed a w dn rest c inv hr i
  induction i using Nat.strongRecOn with
  | _ i ih =>
   intro hi
   cases hl : listed.getD i false with
   | true => rfl
   | false =>
    exfalso
    have hu : listed.getD i true = false := (unl listed i (by rw [inv.lsize]; exact hi)).2 hl
    have hmem : i ∈ Region.ready .any ops listed := mem_ready.2 ⟨hu, ops[i], by simp [hi], fun e he hb => by
     have hlt := edges i ops[i] (by simp [hi]) e he hb
     exact ih e.on hlt (by omega)⟩
    rw [hr] at hmem
    cases hmem
 have fin : ∀ {listed : Array Bool} {a : Act} {w : World} {dn rest : List Nat} {c : Act}, TInv ops n Ord pu T listed a w dn rest c → Region.ready .any ops listed = [] → Q .normal a w := fun {listed a w dn rest c} inv hr => by
  have hall := done inv hr
  have hrest : rest = [] := by
   cases rest with
   | nil => rfl
   | cons i r =>
    exfalso
    have hi : i ∈ dn ++ i :: r := by simp
    have h5 := inv.old i (hall i ((hord _ inv.eq i).1 hi))
    have := hnd _ inv.eq
    rw [List.nodup_append] at this
    exact this.2.2 i h5 i (by simp) rfl
  have ht := inv.t
  rw [hrest] at ht
  have hs := hsz _ _ _ _ ht
  have e : a = c := Act.ext' (fun t => by
   have := inv.agree t fun i o _ ho _ => hall i (Array.getElem?_eq_some_iff.1 ho).1
   by_cases hd : t < n
   ·have h1 : t < a.tmps.size := by rw [inv.size]; exact hd
    have h2 : t < c.tmps.size := by rw [hs.1]; exact hd
    simp only [Array.getD_eq_getD_getElem?, Array.getElem?_eq_getElem h1, Array.getElem?_eq_getElem h2, Option.getD_some] at this
    rw [Array.getElem?_eq_getElem h1, Array.getElem?_eq_getElem h2, this]
   ·rw [Array.getElem?_eq_none (by rw [inv.size]; omega), Array.getElem?_eq_none (by rw [hs.1]; omega)]) (by rw [inv.defers, hs.2])
  rw [e]; exact h4 _ _ _ ht
 -- the frame that is told runs ahead
 have adv : ∀ {listed : Array Bool} {a : Act} {w : World} (r1 : List Nat) {dn r2 : List Nat} {c : Act}, TInv ops n Ord pu T listed a w dn (r1 ++ r2) c → (∀ j ∈ r1, pu j = true ∧ listed.getD j false = false) → ∃ c', TInv ops n Ord pu T listed a w (dn ++ r1) r2 c' := by
  intro listed a w r1
  induction r1 with
  | nil => intro dn r2 c inv _; exact ⟨c, by rw [List.append_nil]; exact inv⟩
  | cons i r1 ih =>
   intro dn r2 c inv hp
   obtain ⟨hpi, hli⟩ := hp i (by simp)
   have hi : i < ops.size := (hord _ inv.eq i).1 (by simp)
   obtain ⟨v, hv⟩ := h2 dn i (r1 ++ r2) c w ops[i] inv.t hpi (by simp [hi])
   have inv' : TInv ops n Ord pu T listed a w (dn ++ [i]) (r1 ++ r2) (c.put ops[i].dst v) := by
    refine ⟨by have := inv.eq; simpa using this, inv.lsize, inv.closed, inv.size, inv.defers, hv, fun t ht => ?_, fun j hj hpj => ?_, fun j hj => List.mem_append_left _ (inv.old j hj)⟩
    ·have hne : ops[i].dst ≠ some t := fun e => by
      have := ht i ops[i] (by simp) (by simp [hi]) e
      rw [hli] at this; cases this
     rw [act_put_get hne]
     exact inv.agree t fun k o hk => ht k o (List.mem_append_left _ hk)
    ·rcases List.mem_append.1 hj with hj | hj
     ·exact inv.kept j hj hpj
     ·have : j = i := by simpa using hj
      subst this
      rw [hpi] at hpj; cases hpj
   obtain ⟨c', hc'⟩ := ih inv' fun j hj => hp j (List.mem_cons_of_mem _ hj)
   refine ⟨c', ?_⟩
   rw [List.append_assoc] at hc'
   exact hc'
 intro fuel
 induction fuel with
 | zero =>
  intro listed a w dn rest c inv hc
  have hr : Region.ready .any ops listed = [] := by
   cases hr : Region.ready .any ops listed with
   | nil => rfl
   | cons i r =>
    exfalso
    have hmem : i ∈ Region.ready .any ops listed := by rw [hr]; simp
    obtain ⟨hu, o, ho, _⟩ := mem_ready.1 hmem
    have : i ∈ (List.range ops.size).filter fun i => !listed.getD i true := List.mem_filter.2 ⟨List.mem_range.2 (Array.getElem?_eq_some_iff.1 ho).1, by simp [hu]⟩
    have := List.length_pos_of_mem this
    omega
  exact ⟨hr, fin inv hr⟩
 | succ fuel ih =>
  intro listed a w dn rest c inv hc
  refine ⟨fin inv, fun i hi => ?_⟩
  obtain ⟨hu, o, ho, hdeps⟩ := mem_ready.1 hi
  have hlt : i < ops.size := (Array.getElem?_eq_some_iff.1 ho).1
  have hlt' : i < listed.size := by rw [inv.lsize]; exact hlt
  have hul : listed.getD i false = false := (unl listed i hlt').1 hu
  have hcount : ((List.range ops.size).filter fun k => !(listed.setIfInBounds i true).getD k true).length ≤ fuel := by
   have := filter_lt (p := fun k => !listed.getD k true) (q := fun k => !(listed.setIfInBounds i true).getD k true) (List.range ops.size) (fun x _ hx => by
     by_cases hxi : i = x
     ·subst hxi; simpa using hu
     ·simpa [getD_set_ne true hxi] using hx) i (List.mem_range.2 hlt) (by simp [hu]) (by simp [Array.getD_eq_getD_getElem?, hlt'])
   omega
  have set_get : ∀ k, (listed.setIfInBounds i true).getD k false = true → k ≠ i → listed.getD k false = true := fun k hk hne => by
   rwa [getD_set_ne false (Ne.symm hne)] at hk
  have closed' : ∀ (j : Nat) (oj : Oper), ops[j]? = some oj → (listed.setIfInBounds i true).getD j false = true → ∀ e ∈ oj.after, Region.binds .any e = true → (listed.setIfInBounds i true).getD e.on false = true := fun j oj hj hlj e he hb => by
   by_cases hji : j = i
   ·subst hji
    rw [ho] at hj
    obtain rfl := Option.some.inj hj
    exact getD_set_true (hdeps e he hb)
   ·exact getD_set_true (inv.closed j oj hj (set_get j hlj hji) e he hb)
  have waited : ∀ k, Waits ops i k → listed.getD k false = true := fun k ⟨f, hr⟩ => by
   cases f with
   | zero => simp [reach] at hr
   | succ f =>
    unfold reach at hr
    simp only [ho] at hr
    obtain ⟨q, hq, hb⟩ := Array.any_eq_true.1 hr
    simp only [Bool.and_eq_true, Bool.or_eq_true] at hb
    have hl := hdeps _ (Array.getElem_mem hq) hb.1
    rcases hb.2 with he | he
    ·rw [← Nat.eq_of_beq_eq_true he]; exact hl
    ·exact reach_listed inv.closed f _ _ he hl
  -- what it reads stands in both frames
  have same : ∀ {dn' rest' : List Nat} {c' : Act}, TInv ops n Ord pu T listed a w dn' rest' c' → execOp a.eval o = execOp c'.eval o ∧ Region.wanted o (yielded ops a.tmps) = Region.wanted o (yielded ops c'.tmps) := fun {dn' rest' c'} inv' =>
   agree_slots (n := n) (sel i o ho) (fun t ht => inv'.agree t fun k ok hkd hk hdk => (hB i k o ok t ho hk hdk ht).elim (waited k) (inv'.kept k hkd)) inv'.size (hsz _ _ _ _ inv'.t).1
  have next : ∀ {dn' rest' : List Nat} {c' : Act} {v : Value} {w' : World}, TInv ops n Ord pu T listed a w dn' rest' c' → ∀ (dn'' rest'' : List Nat), Ord (dn'' ++ rest'') → i ∈ dn'' → (∀ j, j ∈ dn'' → j ∈ dn' ∨ j = i) → (∀ j ∈ dn', j ∈ dn'') → T dn'' rest'' (c'.put o.dst v) w' → TInv ops n Ord pu T (listed.setIfInBounds i true) (a.put o.dst v) w' dn'' rest'' (c'.put o.dst v) := fun {dn' rest' c' v w'} inv' dn'' rest'' he hin hsub hsup ht => by
   have hcs := (hsz _ _ _ _ inv'.t).1
   refine ⟨he, by simp [inv'.lsize], closed', ?_, ?_, ht, fun t hlt2 => ?_, fun j hj hpj => ?_, fun j hj => ?_⟩
   ·cases hod : o.dst <;> simp [Act.put, inv'.size]
   ·cases hod : o.dst <;> simp [Act.put, inv'.defers]
   ·by_cases hod : o.dst = some t
    ·have hdn := dlt i o t ho hod
     rw [hod, act_put_at (by rw [inv'.size]; exact hdn), act_put_at (by rw [hcs]; exact hdn)]
    ·rw [act_put_get hod, act_put_get hod]
     refine inv'.agree t fun k ok hk hok hdk => ?_
     have hki : k ≠ i := fun e => by subst e; rw [ho] at hok; obtain rfl := Option.some.inj hok; exact hod hdk
     exact set_get k (hlt2 k ok (hsup k hk) hok hdk) hki
   ·by_cases hji : j = i
    ·subst hji; exact getD_set_same hlt'
    ·rcases hsub j hj with h | h
     ·exact getD_set_true (inv'.kept j h hpj)
     ·exact absurd h hji
   ·by_cases hji : j = i
    ·rw [hji]; exact hin
    ·exact hsup j (inv'.old j (set_get j hj hji))
  have again : pu i = true → ∀ {dn' rest' : List Nat} {c' : Act}, TInv ops n Ord pu T listed a w dn' rest' c' → i ∈ dn' → wpOp P ops Q i (wpAny P .any ops Q fuel (listed.setIfInBounds i true)) a w := fun hpi {dn' rest' c'} inv' hin => by
   obtain ⟨v, hv1, hv2, hv3⟩ := h1 dn' rest' c' w i o inv'.t hin hpi ho fun j hj hpj hw => by
    have hlj := inv'.kept j hj hpj
    obtain ⟨f, hf⟩ := hw
    have := reach_listed inv'.closed f _ _ hf hlj
    rw [hul] at this; cases this
   obtain ⟨e1, e2⟩ := same inv'
   have go : wpAny P .any ops Q fuel (listed.setIfInBounds i true) (a.put o.dst v) w :=
    ih _ _ _ dn' rest' _ (next inv' dn' rest' inv'.eq hin (fun j hj => .inl hj) (fun j hj => hj) hv3) hcount
   unfold wpOp
   simp only [ho]
   split
   ·rename_i hw
    left
    unfold Oper.wp
    rw [e1, hv1 (by rw [← e2]; exact hw)]
    exact go
   ·rename_i hw
    have := hv2 (by rw [← e2]; simpa using hw)
    rw [← this]; exact go
  by_cases hin : i ∈ dn
  ·have hpi : pu i = true := by
    cases hp : pu i with
    | true => rfl
    | false =>
     have := inv.kept i hin hp
     rw [hul] at this; cases this
   exact again hpi inv hin
  ·have hir : i ∈ rest := by
    have : i ∈ dn ++ rest := (hord _ inv.eq i).2 hlt
    rcases List.mem_append.1 this with h | h
    ·exact absurd h hin
    ·exact h
   obtain ⟨r1, r2, he, hT, hpure⟩ := h5 dn rest c w i inv.t inv.eq hir fun j hw _ => inv.old j (waited j hw)
   have inv : TInv ops n Ord pu T listed a w dn (r1 ++ i :: r2) c := ⟨he, inv.lsize, inv.closed, inv.size, inv.defers, hT, inv.agree, inv.kept, inv.old⟩
   have hnd' := hnd _ inv.eq
   rw [List.nodup_append] at hnd'
   have hr1 : ∀ j ∈ r1, pu j = true ∧ listed.getD j false = false := fun j hj => by
    have hjd : j ∉ dn := fun h => hnd'.2.2 j h j (by simp [hj]) rfl
    have hlj : listed.getD j false = false := by
     cases hl : listed.getD j false with
     | false => rfl
     | true => exact absurd (inv.old j hl) hjd
    exact ⟨hpure j hj, hlj⟩
   cases hpi : pu i with
   | true =>
    obtain ⟨c', inv'⟩ := adv (r1 ++ [i]) (dn := dn) (r2 := r2) (c := c) (by simpa using inv) fun j hj => by
     rcases List.mem_append.1 hj with h | h
     ·exact hr1 j h
     ·have : j = i := by simpa using h
      subst this; exact ⟨hpi, hul⟩
    exact again hpi inv' (by simp)
   | false =>
    obtain ⟨c', inv'⟩ := adv r1 (dn := dn) (r2 := i :: r2) (c := c) inv hr1
    obtain ⟨e1, e2⟩ := same inv'
    have go : ∀ v w', T (dn ++ r1 ++ [i]) r2 (c'.put o.dst v) w' → wpAny P .any ops Q fuel (listed.setIfInBounds i true) (a.put o.dst v) w' := fun v w' ht =>
     ih _ _ _ (dn ++ r1 ++ [i]) r2 _ (next inv' (dn ++ r1 ++ [i]) r2 (by have := inv.eq; simpa using this) (by simp) (fun j hj => by simpa [or_assoc] using hj) (fun j hj => List.mem_append_left _ hj) ht) hcount
    unfold wpOp
    simp only [ho]
    rcases h3 (dn ++ r1) i r2 c' w o inv'.t hpi ho with ⟨hw, hr⟩ | ⟨hw, ht⟩
    ·rw [if_pos (by rw [e2]; exact hw)]
     left
     have hr' : OpR P o a w fun v w' => T (dn ++ r1 ++ [i]) r2 (c'.put o.dst v) w' := by
      unfold OpR at hr ⊢
      rw [e1]; exact hr
     exact hr'.wp go
    ·rw [if_neg (by rw [e2, hw]; simp)]
     exact go undef w ht
end
end Go.Lm

namespace Go.Lm
open Go Go.RowKit
structure DT (f : (SV → Prop) → Prop) : Prop where
 mono : ∀ {K K' : SV → Prop}, (∀ v, K v → K' v) → f K → f K'
 det : ∀ {K : SV → Prop}, f K → f fun v => K v ∧ f fun v' => v' = v
namespace DT
variable {f g : (SV → Prop) → Prop}
theorem leaf (v : SV) : DT fun K => K v := ⟨fun h k => h v k, fun k => ⟨k, rfl⟩⟩
theorem no : DT fun _ => False := ⟨fun _ h => h, fun h => h.elim⟩
theorem imp {p : Prop} (h : DT f) : DT fun K => p → f K := ⟨fun m k hp => h.mono m (k hp), fun k hp => h.mono (fun _ q => ⟨q.1, fun _ => q.2⟩) (h.det (k hp))⟩
theorem and {p : Prop} (h : DT f) : DT fun K => p ∧ f K := ⟨fun m k => ⟨k.1, h.mono m k.2⟩, fun k => ⟨k.1, h.mono (fun _ q => ⟨q.1, k.1, q.2⟩) (h.det k.2)⟩⟩
theorem ex {α : Type} {f : α → (SV → Prop) → Prop} (h : ∀ x, DT (f x)) : DT fun K => ∃ x, f x K := ⟨fun m ⟨x, k⟩ => ⟨x, (h x).mono m k⟩, fun ⟨x, k⟩ => ⟨x, (h x).mono (fun _ q => ⟨q.1, x, q.2⟩) ((h x).det k)⟩⟩
theorem parted {c : Bool} (h : DT f) (h' : DT g) : DT fun K => br c (f K) (g K) := by cases c <;> assumption
theorem ite {p : Prop} [Decidable p] (h : DT f) (h' : DT g) : DT fun K => if p then f K else g K := by
 by_cases hp : p
 ·simp only [if_pos hp]; exact h
 ·simp only [if_neg hp]; exact h'
end DT
section
variable {X : Vx} {P : Program} {b : Bs} {s : Ov}
theorem DT.arith (k : IntKind) (z : Int) : DT (arith k z) := by unfold Lm.arith; repeat' (first | exact DT.leaf _ | exact DT.no | refine DT.and ?_ | refine DT.imp ?_ | refine DT.ite ?_ ?_ | refine DT.parted ?_ ?_ | split)
theorem DT.intB (op : BinOp) (k : IntKind) (x y : Int) : DT (intB op k x y) := by
 unfold Lm.intB
 repeat' (first | exact DT.arith _ _ | exact DT.leaf _ | exact DT.no | refine DT.and ?_ | refine DT.imp ?_ | refine DT.ite ?_ ?_ | refine DT.parted ?_ ?_ | split)
theorem DT.strB (op : BinOp) (x y : ByteArray) : DT (strB op x y) := by unfold Lm.strB; repeat' (first | exact DT.leaf _ | exact DT.no | refine DT.and ?_ | refine DT.imp ?_ | refine DT.ite ?_ ?_ | refine DT.parted ?_ ?_ | split)
theorem nilTy_plain {t : TypeId} {y : Cl} (h : plainT P t = true) : nilTy (P.underlying t) y = false := by
 unfold plainT at h
 unfold nilTy
 cases hu : P.underlying t with
 | none => rfl
 | some d => rw [hu] at h; cases d <;> first | rfl | cases h
theorem DT.intW (wr : Bool) (op : BinOp) (k : IntKind) (x y : Int) : DT (intW wr op k x y) := by
 unfold Lm.intW
 repeat' (first | exact DT.intB _ _ _ _ | exact DT.leaf _ | exact DT.no | refine DT.and ?_ | refine DT.imp ?_ | refine DT.ite ?_ ?_ | refine DT.parted ?_ ?_ | split)
theorem DT.binV {wr : Bool} {cst : Bool} {op : BinOp} {t : TypeId} {x y : SV} (h : plainT P t = true) : DT (binV wr P b s cst op t x y) := by
 unfold Lm.binV
 split
 ·split
  ·repeat' (first | exact DT.leaf _ | exact DT.no | refine DT.and ?_ | refine DT.imp ?_ | refine DT.ite ?_ ?_ | refine DT.parted ?_ ?_ | split)
  ·repeat' (first | exact DT.leaf _ | exact DT.no | refine DT.and ?_ | refine DT.imp ?_ | refine DT.ite ?_ ?_ | refine DT.parted ?_ ?_ | split)
  ·refine DT.ite (DT.intW _ _ _ _ _) DT.no
 ·exact DT.strB _ _ _
 ·repeat' (first | exact DT.leaf _ | exact DT.no | refine DT.and ?_ | refine DT.imp ?_ | refine DT.ite ?_ ?_ | refine DT.parted ?_ ?_ | split)
 ·repeat' (first | exact DT.leaf _ | exact DT.no | refine DT.and ?_ | refine DT.imp ?_ | refine DT.ite ?_ ?_ | refine DT.parted ?_ ?_ | split)
 ·simp only [nilTy_plain h, Bool.false_and, Bool.false_eq_true, if_false]
  repeat' (first | exact DT.leaf _ | exact DT.no | refine DT.and ?_ | refine DT.imp ?_ | refine DT.ite ?_ ?_ | refine DT.parted ?_ ?_ | split)
 ·exact DT.no
theorem DT.unV {wr : Bool} {op : UnOp} {x : SV} : DT (unV wr op x) := by
 unfold Lm.unV
 repeat' (first | exact DT.intW _ _ _ _ _ | exact DT.arith _ _ | exact DT.leaf _ | exact DT.no | refine DT.and ?_ | refine DT.imp ?_ | refine DT.ite ?_ ?_ | refine DT.parted ?_ ?_ | split)
theorem DT.loadV {t : TypeId} {x : Cl} : DT (loadV P b s t x) := by
 unfold Lm.loadV
 repeat' (first | exact DT.leaf _ | (refine DT.ex fun _ => ?_) | exact DT.no | refine DT.and ?_ | refine DT.imp ?_ | refine DT.ite ?_ ?_ | refine DT.parted ?_ ?_ | split)
theorem DT.lenV {t : TypeId} {x : Cl} : DT (lenV P b s t x) := by
 unfold Lm.lenV
 repeat' (first | exact DT.leaf _ | (refine DT.ex fun _ => ?_) | exact DT.no | refine DT.and ?_ | refine DT.imp ?_ | refine DT.ite ?_ ?_ | refine DT.parted ?_ ?_ | split)
theorem DT.indexAddrV {t : TypeId} {x : Cl} {i : Int} : DT (indexAddrV P b s t x i) := by
 unfold Lm.indexAddrV
 repeat' (first | exact DT.leaf _ | exact DT.no | refine DT.and ?_ | refine DT.imp ?_ | refine DT.ite ?_ ?_ | refine DT.parted ?_ ?_ | split)
theorem DT.sliceK {t : TypeId} {x : Cl} {l h : Option Int} : DT (sliceK P b s t x l h) := by
 unfold Lm.sliceK
 repeat' (first | exact DT.leaf _ | exact DT.no | refine DT.and ?_ | refine DT.imp ?_ | refine DT.ite ?_ ?_ | refine DT.parted ?_ ?_ | split)
theorem DT.buildV {t : TypeId} {ps : List (Nat × S1)} : DT (buildV P t ps) := by
 unfold Lm.buildV
 repeat' (first | exact DT.leaf _ | exact DT.no | refine DT.and ?_ | refine DT.imp ?_ | refine DT.ite ?_ ?_ | refine DT.parted ?_ ?_ | split)
theorem DT.op1 {x : Operand} {f : SV → (SV → Prop) → Prop} (h : ∀ v, DT (f v)) : DT fun K => op1 b s x fun v => f v K := by
 unfold Lm.op1
 cases Lm.opd b s x with
 | none => exact DT.no
 | some v => exact h v
theorem DT.cl1 {x : Operand} {f : Cl → (SV → Prop) → Prop} (h : ∀ v, DT (f v)) : DT fun K => cl1 b s x fun v => f v K := by
 unfold Lm.cl1
 split
 ·exact h _
 ·exact DT.no
theorem DT.opt1 {x : Option Operand} {f : Option SV → (SV → Prop) → Prop} (h : ∀ v, DT (f v)) : DT fun K => opt1 b s x fun v => f v K := by
 unfold Lm.opt1
 cases x with
 | none => exact h _
 | some x => exact DT.op1 fun v => h (some v)
end
section
variable {X : Vx} {P : Program} {n : Nat} {W : Base} {F : List Atom} {b : Bs} {E : Env} {g w : World} {s s' : Ov} {a : Act} {o : Oper}
structure Near (b : Bs) (s s' : Ov) (o : Oper) : Prop where
 opd : ∀ x ∈ o.op.operands.toList, opd b s x = opd b s' x
 obj : ∀ x ∈ o.op.operands.toList, ∀ v, Lm.opd b s x = some v → ∀ l ∈ v.labels, b.obj s l = b.obj s' l
theorem op1_near {x : Operand} {k k' : SV → Prop} (N : Near b s s' o) (hx : x ∈ o.op.operands.toList) (hk : ∀ v, (∀ l ∈ v.labels, b.obj s l = b.obj s' l) → k v → k' v) (h : op1 b s x k) : op1 b s' x k' := by
 unfold op1 at h ⊢
 rw [← N.opd x hx]
 cases hv : Lm.opd b s x with
 | none => rw [hv] at h; exact h
 | some v => rw [hv] at h; exact hk v (N.obj x hx v hv) h
theorem cl1_near {x : Operand} {k k' : Cl → Prop} (N : Near b s s' o) (hx : x ∈ o.op.operands.toList) (hk : ∀ v, (∀ l ∈ v.labels, b.obj s l = b.obj s' l) → k v → k' v) (h : cl1 b s x k) : cl1 b s' x k' := by
 unfold cl1 at h ⊢
 rw [← N.opd x hx]
 cases hv : Lm.opd b s x with
 | none => rw [hv] at h; exact h
 | some v =>
  rw [hv] at h
  match v, hv, h with
  | .v (.c c), hv, h => exact hk c (fun l hl => N.obj x hx _ hv l hl) h
  | .v (.agg _), _, h => exact h
  | .tup _, _, h => exact h
  | .any, _, h => exact h
theorem opt1_near {x : Option Operand} {k k' : Option SV → Prop} (N : Near b s s' o) (hx : ∀ y, x = some y → y ∈ o.op.operands.toList) (hk : ∀ v, k v → k' v) (h : opt1 b s x k) : opt1 b s' x k' := by
 unfold opt1 at h ⊢
 cases x with
 | none => exact hk _ h
 | some y => exact op1_near N (hx y rfl) (fun v _ h => hk _ h) h
theorem loadV_near {t : TypeId} {c : Cl} {K : SV → Prop} (N : ∀ l ∈ c.labels, b.obj s l = b.obj s' l) : loadV P b s t c K = loadV P b s' t c K := by
 unfold loadV
 repeat' (first | rfl | (rw [N _ (by simp [Cl.labels])]; done) | split)
theorem lenV_near {t : TypeId} {c : Cl} {K : SV → Prop} (N : ∀ l ∈ c.labels, b.obj s l = b.obj s' l) : lenV P b s t c K = lenV P b s' t c K := by
 unfold lenV
 repeat' (first | rfl | (rw [N _ (by simp [Cl.labels])]; done) | split)
theorem indexAddrV_near {t : TypeId} {c : Cl} {i : Int} {K : SV → Prop} (N : ∀ l ∈ c.labels, b.obj s l = b.obj s' l) : indexAddrV P b s t c i K = indexAddrV P b s' t c i K := by
 unfold indexAddrV
 repeat' (first | rfl | (rw [N _ (by simp [Cl.labels])]; done) | split)
theorem sliceK_near {t : TypeId} {c : Cl} {i j : Option Int} {K : SV → Prop} (N : ∀ l ∈ c.labels, b.obj s l = b.obj s' l) : sliceK P b s t c i j K = sliceK P b s' t c i j K := by
 unfold sliceK
 repeat' (first | rfl | (rw [N _ (by simp [Cl.labels])]; done) | split)
theorem listOf_near {e : Ty} {c : Cl} (N : ∀ l ∈ c.labels, b.obj s l = b.obj s' l) : listOf b s e c = listOf b s' e c := by
 unfold listOf
 repeat' (first | rfl | (rw [N _ (by simp [Cl.labels])]; done) | split)
theorem binV_near {wr : Bool} {cst : Bool} {op : BinOp} {t : TypeId} {x y : SV} {K : SV → Prop} (h : plainT P t = true) : binV wr P b s cst op t x y K = binV wr P b s' cst op t x y K := by
 unfold binV
 split
 ·rfl
 ·rfl
 ·rfl
 ·rfl
 ·simp only [nilTy_plain h, Bool.false_and, Bool.false_eq_true, if_false]
 ·rfl
theorem partsV_near : ∀ {l : List (Nat × Operand)}, (∀ x ∈ l.map (·.2), Lm.opd b s x = Lm.opd b s' x) → partsV b s l = partsV b s' l
 | [], _ => rfl
 | (i, x) :: r, h => by
  unfold partsV
  rw [h x (by simp), partsV_near (l := r) fun y hy => h y (by simpa using .inr (by simpa using hy))]
theorem convV_near {src dst : TypeId} {c : SV} {K : SV → Prop} (hd : (match X.P.underlying dst with | some .string | some (.int _) => true | _ => false) = true) (N : ∀ l ∈ c.labels, b.obj s l = b.obj s' l) : convV X b s src dst c (fun v _ => K v) = convV X b s' src dst c fun v _ => K v := by
 unfold convV
 split
 ·rfl
 ·rfl
 ·rfl
 ·rename_i h1 h2
  simp [h2] at hd
 ·split
  ·rw [listOf_near N]
  ·rfl
 ·rename_i h1 h2
  simp [h2] at hd
 ·rfl
theorem DT.convV {src dst : TypeId} {c : SV} : DT fun K => convV X b s src dst c fun v _ => K v := by
 unfold Lm.convV litV
 repeat' (first | exact DT.leaf _ | exact DT.no | refine DT.and ?_ | refine DT.imp ?_ | refine DT.ite ?_ ?_ | refine DT.parted ?_ ?_ | split)
theorem convV_at {src dst : TypeId} {c : SV} {K : SV → Ov → Prop} (hd : (match X.P.underlying dst with | some .string | some (.int _) => true | _ => false) = true) : convV X b s src dst c K = convV X b s src dst c fun v _ => K v s := by
 unfold convV
 split <;> try rfl
 rename_i h1 h2
 simp [h2] at hd
theorem vOp_at {K : SV → Ov → Prop} (hp : pureOp X.P o = true) : vOp X b s o K = vOp X b s o fun v _ => K v s := by
 unfold pureOp at hp
 simp only [Bool.and_eq_true] at hp
 obtain ⟨_, hp⟩ := hp
 unfold vOp
 split at hp <;> first | (cases hp; done) | skip
 all_goals rename_i heq
 all_goals simp only [heq]
 all_goals first | rfl | skip
 ·unfold op1
  split
  ·exact convV_at hp
  ·rfl
 ·split at hp
  ·rename_i hc
   unfold vCall
   simp only [hc]
   rfl
  ·cases hp
theorem vOp_det (hp : pureOp X.P o = true) : DT fun K => vOp X b s o fun v _ => K v := by
 unfold pureOp at hp
 simp only [Bool.and_eq_true] at hp
 obtain ⟨_, hp⟩ := hp
 unfold vOp
 split at hp <;> first | (cases hp; done) | skip
 all_goals rename_i heq
 all_goals simp only [heq]
 ·exact DT.op1 fun v => DT.leaf v
 ·exact DT.op1 fun v => DT.leaf v
 ·exact DT.cl1 fun v => DT.op1 fun u => DT.op1 fun u' => by repeat' (first | exact DT.leaf _ | exact DT.no | refine DT.and ?_ | refine DT.imp ?_ | refine DT.ite ?_ ?_ | refine DT.parted ?_ ?_ | split)
 ·exact DT.op1 fun v => DT.unV
 ·exact DT.op1 fun v => by repeat' (first | exact DT.leaf _ | exact DT.no | refine DT.and ?_ | refine DT.imp ?_ | refine DT.ite ?_ ?_ | refine DT.parted ?_ ?_ | split)
 ·exact DT.op1 fun v => by repeat' (first | exact DT.leaf _ | exact DT.no | refine DT.and ?_ | refine DT.imp ?_ | refine DT.ite ?_ ?_ | refine DT.parted ?_ ?_ | split)
 ·exact DT.cl1 fun v => DT.loadV
 ·exact DT.cl1 fun v => by repeat' (first | exact DT.leaf _ | exact DT.no | refine DT.and ?_ | refine DT.imp ?_ | refine DT.ite ?_ ?_ | refine DT.parted ?_ ?_ | split)
 ·exact DT.cl1 fun v => by repeat' (first | exact DT.leaf _ | exact DT.no | refine DT.and ?_ | refine DT.imp ?_ | refine DT.ite ?_ ?_ | refine DT.parted ?_ ?_ | split)
 ·exact DT.cl1 fun v => DT.cl1 fun q => by
   repeat' (first | exact DT.indexAddrV | exact DT.leaf _ | exact DT.no | refine DT.and ?_ | refine DT.imp ?_ | refine DT.ite ?_ ?_ | refine DT.parted ?_ ?_ | split)
 ·exact DT.cl1 fun v => DT.cl1 fun q => by repeat' (first | exact DT.leaf _ | exact DT.no | refine DT.and ?_ | refine DT.imp ?_ | refine DT.ite ?_ ?_ | refine DT.parted ?_ ?_ | split)
 ·split
  ·exact DT.buildV
  ·exact DT.no
 ·exact DT.cl1 fun v => DT.opt1 fun l => DT.opt1 fun h => by
   repeat' (first | exact DT.sliceK | exact DT.leaf _ | exact DT.no | refine DT.and ?_ | refine DT.imp ?_ | refine DT.ite ?_ ?_ | refine DT.parted ?_ ?_ | split)
 ·exact DT.op1 fun v => DT.op1 fun u => DT.binV hp
 ·exact DT.op1 fun v => DT.convV
 ·split at hp
  ·rename_i hc
   unfold vCall
   simp only [hc]
   split
   ·exact DT.no
   ·unfold vBuiltin
    simp only
    split
    ·exact DT.lenV
    ·exact DT.no
  ·cases hp
end
end Go.Lm

namespace Go.Lm
open Go Go.RowKit
section
variable {X : Vx} {n : Nat} {W : Base} {F : List Atom} {b : Bs} {E : Env} {g w : World} {s s' : Ov} {a : Act} {o : Oper}
theorem vOp_near {K : SV → Prop} (hp : pureOp X.P o = true) (N : Near b s s' o) (h : vOp X b s o fun v _ => K v) : vOp X b s' o fun v _ => K v := by
 have hp0 := hp
 unfold pureOp at hp
 simp only [Bool.and_eq_true] at hp
 obtain ⟨_, hp⟩ := hp
 unfold vOp at h ⊢
 split at hp <;> first | (cases hp; done) | skip
 all_goals rename_i heq
 all_goals simp only [heq] at h ⊢
 ·exact op1_near N (by simp [heq, Op.operands]) (fun v _ h => h) h
 ·exact op1_near N (by simp [heq, Op.operands]) (fun v _ h => h) h
 ·exact cl1_near N (by simp [heq, Op.operands]) (fun v _ h => op1_near N (by simp [heq, Op.operands]) (fun v _ h => op1_near N (by simp [heq, Op.operands]) (fun v _ h => h) h) h) h
 ·exact op1_near N (by simp [heq, Op.operands]) (fun v _ h => h) h
 ·exact op1_near N (by simp [heq, Op.operands]) (fun v _ h => h) h
 ·exact op1_near N (by simp [heq, Op.operands]) (fun v _ h => h) h
 ·exact cl1_near N (by simp [heq, Op.operands]) (fun v hl h => by rw [← loadV_near hl]; exact h) h
 ·exact cl1_near N (by simp [heq, Op.operands]) (fun v _ h => h) h
 ·exact cl1_near N (by simp [heq, Op.operands]) (fun v _ h => h) h
 ·refine cl1_near N (by simp [heq, Op.operands]) (fun v hl h => cl1_near N (by simp [heq, Op.operands]) (fun q _ h => ?_) h) h
  split at h
  ·rw [← indexAddrV_near hl]; exact h
  ·exact h.elim
 ·exact cl1_near N (by simp [heq, Op.operands]) (fun v _ h => cl1_near N (by simp [heq, Op.operands]) (fun q _ h => h) h) h
 ·rename_i t ps
  rw [← partsV_near fun x hx => N.opd x (by simpa [heq, Op.operands] using hx)]
  exact h
 ·refine cl1_near N (by simp [heq, Op.operands]) (fun v hl h => opt1_near N (fun y hy => by simp [heq, Op.operands, hy]) (fun l h => opt1_near N (fun y hy => by simp [heq, Op.operands, hy]) (fun m h => ?_) h) h) h
  split at h
  ·rw [← sliceK_near hl]; exact h
  ·exact h.elim
 ·exact op1_near N (by simp [heq, Op.operands]) (fun v _ h => op1_near N (by simp [heq, Op.operands]) (fun u _ h => by rw [← binV_near hp]; exact h) h) h
 ·exact op1_near N (by simp [heq, Op.operands]) (fun v hl h => by rw [← convV_near hp hl]; exact h) h
 ·rename_i c
  split at hp
  ·rename_i hc
   have hops : ∀ x ∈ c.args.toList, x ∈ o.op.operands.toList := fun x hx => by
    rw [heq]
    have hx' : x ∈ c.args := by simpa using hx
    simp [Op.operands, Call.operands, hx']
   unfold vCall at h ⊢
   simp only [hc] at h ⊢
   have hopds : ∀ (l : List Operand), (∀ x ∈ l, x ∈ o.op.operands.toList) → opds b s l = opds b s' l := by
    intro l
    induction l with
    | nil => intro _; rfl
    | cons x r ih =>
     intro hl
     unfold opds
     rw [N.opd x (hl x (by simp)), ih fun y hy => hl y (List.mem_cons_of_mem _ hy)]
   have hlab : ∀ (l : List Operand) (vs : List SV), (∀ x ∈ l, x ∈ o.op.operands.toList) → opds b s l = some vs → ∀ v ∈ vs, ∀ k ∈ v.labels, b.obj s k = b.obj s' k := by
    intro l
    induction l with
    | nil => intro vs _ hv v hm; obtain rfl : [] = vs := Option.some.inj hv; cases hm
    | cons x r ih =>
     intro vs hl hv v hm
     unfold opds at hv
     split at hv
     ·rename_i u hu
      split at hv
      ·rename_i q hq
       obtain rfl : u :: q = vs := Option.some.inj hv
       rcases List.mem_cons.1 hm with rfl | hm
       ·exact N.obj x (hl x (by simp)) v hu
       ·exact ih q (fun y hy => hl y (List.mem_cons_of_mem _ hy)) hq v hm
      ·cases hv
     ·cases hv
   rw [← hopds c.args.toList hops]
   cases hv : opds b s c.args.toList with
   | none => rw [hv] at h; exact h
   | some vs =>
    rw [hv] at h
    simp only at h ⊢
    unfold vBuiltin at h ⊢
    simp only at h ⊢
    split at h
    ·rename_i x t _
     rw [← lenV_near fun k hk => hlab c.args.toList _ hops hv (.v (.c x)) (by simp) k hk]
     exact h
    ·exact h
  ·cases hp
theorem run_convP (S : Sta n W F b E g w s a) {src dst : TypeId} {x : Operand} {c : SV} {K : SV → Prop} (ho : o.op = .convert src dst x) (r : RelV E g c (a.eval x)) (hd : (match X.P.underlying dst with | some .string | some (.int _) => true | _ => false) = true) (h : convV X b s src dst c fun v _ => K v) : ER X.P o a w E g K := by
 have same : ∀ {v : Value} {sv : SV}, (convert src dst (a.eval x)).run X.P w = .ok v w → RelV E g sv v → K sv → ER X.P o a w E g K := fun {v sv} h1 h2 h3 =>
  ⟨v, sv, by simp [execOp, ho, h1], h2, h3⟩
 unfold convV at h
 split at h
 ·rename_i k1 k k' m hs hd
  obtain ⟨hx, hm⟩ := relV_int r
  have hr : (convert src dst (a.eval x)).run X.P w = .ok (.int k (k.wrap m)) w := by
   simp [convert, hx, run_underlying hs, run_underlying hd, Conv.intToInt]
  split at h
  ·rename_i hk
   obtain rfl := IntKind.eq_of_beq hk
   rw [wrap_self hm] at hr
   exact same hr (relV_mk hm) h
  ·exact same hr (relV_mk (wrap_inK _ _)) (h (wrap_inK _ _))
 ·rename_i z hs hd
  obtain ⟨hx, hz⟩ := r
  refine same (v := .string z) (sv := .str z) (by simp [convert, hx, run_underlying hs, run_underlying hd]) ⟨rfl, hz⟩ h
 ·rename_i k k1 m hs hd
  obtain ⟨hx, _⟩ := relV_int r
  obtain ⟨hl, h⟩ := h
  refine same (v := .string (Utf8.encode m)) (sv := .str (Utf8.encode m)) ?_ ⟨rfl, hl⟩ h
  simp [convert, hx, run_underlying hs, run_underlying hd, Conv.intToString]
 ·rename_i h2
  simp [h2] at hd
 ·rename_i e y hs hd
  split at h
  ·rename_i he
   split at h
   ·rename_i l hl
    obtain ⟨_, hi⟩ := listOf_rd S r hl
    have hr := run_str_of (l := l) hi hs he hd
    refine same hr (sv := .str (bstr l)) ⟨rfl, ?_⟩ h
    have := isD_len hi
    show (bstr l).size ≤ maxLen
    have e2 : (bstr l).size = l.length := by simp [bstr, ByteArray.size]
    rw [e2]; exact this
   ·exact h.elim
  ·exact h.elim
 ·rename_i h1 h2
  simp [h2] at hd
 ·exact h.elim
theorem vOpP_ok {K : SV → Prop} (hp : pureOp X.P o = true) (S : Sta n W F b E g w s a) (h : vOp X b s o fun v _ => K v) : ER X.P o a w E g K := by
 unfold pureOp at hp
 simp only [Bool.and_eq_true] at hp
 obtain ⟨_, hp⟩ := hp
 unfold vOp at h
 split at hp <;> first | (cases hp; done) | skip
 all_goals rename_i ho
 all_goals simp only [ho] at h
 ·obtain ⟨v, hv, h⟩ := op1_ok h
  exact ⟨_, _, by simp [execOp, ho], S.opd hv, h⟩
 ·obtain ⟨v, hv, h⟩ := op1_ok h
  exact ⟨_, _, by simp [execOp, ho], S.opd hv, h⟩
 ·rename_i c x y
  obtain ⟨q, hq, h⟩ := cl1_ok h
  obtain ⟨v, hv, h⟩ := op1_ok h
  obtain ⟨u, hu, h⟩ := op1_ok h
  split at h
  ·rename_i z
   obtain ⟨hz, _⟩ := S.opd hq
   rcases br_cases h with ⟨e, h⟩ | ⟨e, h⟩ <;> subst e
   ·exact ⟨a.eval x, _, by simp [execOp, ho, hz, asBool], S.opd hv, h⟩
   ·exact ⟨a.eval y, _, by simp [execOp, ho, hz, asBool], S.opd hu, h⟩
  ·exact h.elim
 ·rename_i op t x
  obtain ⟨v, hv, h⟩ := op1_ok h
  exact ER.of (m := Op.unary op (a.eval x)) (by simp [execOp, ho]) (run_unV (S.opd hv) h)
 ·obtain ⟨v, hv, h⟩ := op1_ok h
  split at h
  ·split at h
   ·rename_i l _ c hc
    obtain ⟨us, h1, h2⟩ := S.opd hv
    obtain ⟨u, h3, h4⟩ := h1.get hc
    exact ⟨u, .v c, by simp [execOp, ho, h2, Instr.extract, h3], h4, h⟩
   ·exact h.elim
  ·exact h.elim
 ·obtain ⟨v, hv, h⟩ := op1_ok h
  split at h
  ·split at h
   ·rename_i f hf
    split at h
    ·rename_i r hr
     exact run_field ho (S.opd hv) hf hr h
    ·exact h.elim
   ·exact h.elim
  ·exact h.elim
 ·rename_i t x
  obtain ⟨c, hc, h⟩ := cl1_ok h
  exact ER.of (m := Instr.loadAt t (a.eval x)) (by simp [execOp, ho]) (run_loadV S (S.opd hc) h)
 ·rename_i x
  obtain ⟨c, hc, h⟩ := cl1_ok h
  have r := S.opd hc
  have key : ∀ q : Addr, a.eval x = .pointer (some q) → (execOp a.eval o).run X.P w = .ok (.value (a.eval x)) w := fun q hq => by simp [execOp, ho, hq]
  split at h
  ·obtain ⟨bb, h1, h2⟩ := r
   exact ⟨_, _, key _ h2, S.opd hc, h⟩
  ·obtain ⟨h0, v, h1, h2⟩ := r
   obtain ⟨cs, h3, _⟩ := elemD h1 h0.1 h0.2.1
   obtain ⟨q, hq, _⟩ := h3 g (Mono.refl g)
   rw [hq] at h2
   exact ⟨_, _, key _ h2, S.opd hc, h⟩
  ·obtain ⟨v, h1, h2, q, hq⟩ := r
   exact ⟨_, _, key _ hq, S.opd hc, h⟩
  ·exact ⟨_, _, key _ r.2.1, S.opd hc, h⟩
  ·exact h.elim
 ·obtain ⟨c, hc, h⟩ := cl1_ok h
  split at h
  ·rename_i f hf
   split at h
   ·rename_i ie hie
    obtain ⟨hs, h⟩ := if_ok h
    split at h
    ·rename_i c' hc'
     obtain ⟨v, h1, h2⟩ := run_addrF (w := w) ho (S.opd hc) hf hie hs hc'
     exact ⟨v, .c c', h1, h2, h⟩
    ·exact h.elim
   ·exact h.elim
  ·exact h.elim
 ·obtain ⟨c, hc, h⟩ := cl1_ok h
  obtain ⟨q, hq, h⟩ := cl1_ok h
  split at h
  ·exact run_indexAddrV S ho (S.opd hc) (relV_int (S.opd hq)).1 h
  ·exact h.elim
 ·obtain ⟨c, hc, h⟩ := cl1_ok h
  obtain ⟨q, hq, h⟩ := cl1_ok h
  split at h
  ·obtain ⟨h0, h1, h⟩ := h
   exact run_index ho (by assumption) (S.opd hc).1 (S.opd hq).1 h0 h1 h
  ·exact h.elim
 ·split at h
  ·rename_i l hl
   exact run_buildV ho (partsV_ok S hl) h
  ·exact h.elim
 ·obtain ⟨c, hc, h⟩ := cl1_ok h
  obtain ⟨l, h, hl⟩ := opt1_ok S h
  obtain ⟨m, h, hm⟩ := opt1_ok S h
  split at h
  ·rename_i i j hi' hj'
   exact run_sliceK S ho (S.opd hc) (hl _ hi') (hm _ hj') h
  ·exact h.elim
 ·rename_i op t x y yt
  obtain ⟨v, hv, h⟩ := op1_ok h
  obtain ⟨u, hu, h⟩ := op1_ok h
  exact ER.of (m := (do eqGuard op t x y (a.eval x) (a.eval y); binOp op t (a.eval x) (a.eval y))) (by simp [execOp, ho]) (run_binV S (S.opd hv) (S.opd hu) h)
 ·obtain ⟨v, hv, h⟩ := op1_ok h
  exact run_convP S ho (S.opd hv) hp h
 ·rename_i c
  split at hp
  ·rename_i hc
   unfold vCall at h
   split at h
   ·exact h.elim
   ·rename_i args ha
    simp only [hc] at h
    have hv := opds_ok S ha
    obtain ⟨callee, cargs, ctys⟩ := c
    simp only at hc ha hv h
    subst hc
    unfold vBuiltin at h
    simp only at h
    split at h
    ·rename_i x t hts
     obtain ⟨u, e, hu⟩ := relVs_one hv
     obtain ⟨ox, rfl, rfl⟩ := arr1 e
     obtain rfl := arrT hts
     exact run_lenV S ho hu h
    ·exact h.elim
  ·cases hp
end
end Go.Lm

namespace Go.Lm
open Go Go.RowKit
theorem forceL_eq {α : Type} : ∀ (l : List α) {k : List α → Prop}, forceL l k → k l
 | [], _, h => h
 | _ :: l, _, h => forceL_eq l h
theorem forceB_eq : ∀ (l : List Bool) {k : List Bool → Prop}, forceB l k → k l
 | [], _, h => h
 | true :: l, _, h => forceB_eq l h
 | false :: l, _, h => forceB_eq l h
section
variable {ops : Array Oper}
theorem setB_ok : ∀ {k : Nat} {l : List Bool} {j : Nat}, nthB (setB k l) j = true → j = k ∨ nthB l j = true
 | 0, [], 0, _ => .inl rfl
 | 0, [], j + 1, h => by simp [setB, nthB] at h
 | 0, _ :: r, 0, _ => .inl rfl
 | 0, _ :: r, j + 1, h => .inr h
 | k + 1, [], 0, h => by simp [setB, nthB] at h
 | k + 1, [], j + 1, h => by
  rcases setB_ok (k := k) (l := []) h with e | e
  ·exact .inl (by rw [e])
  ·simp [nthB] at e
 | k + 1, a :: r, 0, h => .inr h
 | k + 1, a :: r, j + 1, h => by
  rcases setB_ok (k := k) (l := r) h with e | e
  ·exact .inl (by rw [e])
  ·exact .inr e
theorem orB_ok : ∀ {a b : List Bool} {j : Nat}, nthB (orB a b) j = true → nthB a j = true ∨ nthB b j = true
 | [], _, _, h => .inr h
 | _ :: _, [], _, h => .inl h
 | a :: r, b :: q, 0, h => by simpa [orB, nthB] using h
 | a :: r, b :: q, j + 1, h => orB_ok (a := r) (b := q) h
theorem rowE_ok {acc : List (List Bool)} {i : Nat} : ∀ {l : List Edge}, nthB (rowE acc l) i = true → ∃ e ∈ l, Region.binds .any e = true ∧ (e.on = i ∨ nthB (nthR acc e.on) i = true)
 | [], h => by simp [rowE, nthB] at h
 | e :: r, h => by
  unfold rowE at h
  split at h
  ·rename_i hb
   rcases orB_ok h with h | h
   ·rcases setB_ok h with h | h
    ·exact ⟨e, List.mem_cons_self .., hb, .inl h.symm⟩
    ·exact ⟨e, List.mem_cons_self .., hb, .inr h⟩
   ·obtain ⟨e', h1, h2⟩ := rowE_ok h
    exact ⟨e', List.mem_cons_of_mem _ h1, h2⟩
  ·obtain ⟨e', h1, h2⟩ := rowE_ok h
   exact ⟨e', List.mem_cons_of_mem _ h1, h2⟩
theorem nthR_eq : ∀ {l : List (List Bool)} {i : Nat}, nthR l i = (l[i]?).getD []
 | [], _ => by simp [nthR]
 | _ :: _, 0 => rfl
 | _ :: r, i + 1 => by simp [nthR, nthR_eq (l := r)]
theorem nthB_eq : ∀ {l : List Bool} {i : Nat}, nthB l i = (l[i]?).getD false
 | [], _ => by simp [nthB]
 | _ :: _, 0 => rfl
 | _ :: r, i + 1 => by simp [nthB, nthB_eq (l := r)]
theorem rowsK_ok : ∀ {r : List Oper} {acc : List (List Bool)} {k : List (List Bool) → Prop}, rowsK r acc k → (∀ j, r[j]? = ops[acc.length + j]?) → (∀ j i, nthB (nthR acc j) i = true → Waits ops j i) → ∃ ms, k ms ∧ ∀ j i, nthB (nthR ms j) i = true → Waits ops j i
 | [], acc, k, h, _, hw => ⟨acc, h, hw⟩
 | o :: r, acc, k, h, hr, hw => by
  have h1 := forceL_eq _ (forceB_eq _ h)
  refine rowsK_ok h1 (fun j => ?_) fun j i hj => ?_
  ·have := hr (j + 1)
   simp only [List.getElem?_cons_succ] at this
   rw [this, List.length_append, List.length_singleton]
   congr 1; omega
  ·rw [nthR_eq] at hj
   by_cases hlt : j < acc.length
   ·rw [List.getElem?_append_left hlt, ← nthR_eq] at hj
    exact hw j i hj
   ·by_cases he : j = acc.length
    ·subst he
     rw [List.getElem?_append_right (Nat.le_refl _)] at hj
     simp only [Nat.sub_self, List.getElem?_cons_zero, Option.getD_some] at hj
     obtain ⟨e, h2, h3, h4⟩ := rowE_ok hj
     have ho : ops[acc.length]? = some o := by have := hr 0; simpa using this.symm
     have key : ∀ f, (e.on = i ∨ reach ops f e.on i = true) → reach ops (f + 1) acc.length i = true := fun f hf => by
      unfold reach
      rw [ho]
      simp only [Array.any_eq_true']
      refine ⟨e, by simpa using h2, ?_⟩
      simp only [Bool.and_eq_true, Bool.or_eq_true]
      exact ⟨h3, hf.imp (fun h => by simpa using h) id⟩
     rcases h4 with h4 | h4
     ·exact ⟨1, key 0 (.inl h4)⟩
     ·obtain ⟨f, hf⟩ := hw _ _ h4
      exact ⟨f + 1, key f (.inr hf)⟩
    ·rw [List.getElem?_eq_none (by simp; omega)] at hj
     simp [nthB] at hj
theorem aheadOk_ok {pu : List Bool} {ms : List (List Bool)} : ∀ {l dn : List Nat}, aheadOk pu ms dn l = true → ∀ (d : List Nat) (i : Nat) (r : List Nat), d ++ i :: r = l → ∀ j, j ∈ dn ∨ j ∈ d → nthB pu j = false → nthB (nthR ms i) j = true
 | [], dn, _, d, i, r, he, _, _, _ => by simp at he
 | x :: l, dn, h, d, i, r, he, j, hj, hp => by
  unfold aheadOk at h
  simp only [Bool.and_eq_true] at h
  cases d with
  | nil =>
   simp only [List.nil_append, List.cons.injEq] at he
   obtain ⟨rfl, rfl⟩ := he
   rcases hj with hj | hj
   ·have := List.all_eq_true.1 h.1 j hj
    rw [hp] at this; simpa using this
   ·cases hj
  | cons y d =>
   simp only [List.cons_append, List.cons.injEq] at he
   obtain ⟨rfl, he⟩ := he
   refine aheadOk_ok h.2 d i r he j ?_ hp
   rcases hj with hj | hj
   ·exact .inl (List.mem_cons_of_mem _ hj)
   ·rcases List.mem_cons.1 hj with rfl | hj
    ·exact .inl (List.mem_cons_self ..)
    ·exact .inr hj
theorem isDst_ok {k t : Nat} {o : Oper} (ho : ops[k]? = some o) : isDst ops k t = true ↔ o.dst = some t := by
 unfold isDst dstAt
 rw [ho]
 simp only [Option.bind_some]
 cases hd : o.dst with
 | none => simp
 | some d => simp
theorem slotsOkB_ok {pu : List Bool} {ms : List (List Bool)} (h : slotsOkB ops pu ms = true) {i k : Nat} {oi ok : Oper} {d : Nat} (hi : ops[i]? = some oi) (hk : ops[k]? = some ok) (hd : ok.dst = some d) (hm : d ∈ slotsOf ops oi) : nthB (nthR ms i) k = true ∨ nthB pu k = false := by
 have h1 := List.all_eq_true.1 h i (List.mem_range.2 (Array.getElem?_eq_some_iff.1 hi).1)
 simp only [hi] at h1
 have h2 := List.all_eq_true.1 (List.all_eq_true.1 h1 d hm) k (List.mem_range.2 (Array.getElem?_eq_some_iff.1 hk).1)
 rw [(isDst_ok hk).2 hd] at h2
 simpa using h2
theorem laterOk_ok {pu : List Bool} {ms : List (List Bool)} : ∀ {l : List Nat}, laterOk ops pu ms l = true → ∀ (d : List Nat) (i : Nat) (r : List Nat), d ++ i :: r = l → nthB pu i = true → ∀ (o : Oper), ops[i]? = some o → ∀ t ∈ slotsOf ops o, o.dst ≠ some t ∧ ∀ k ∈ r, ∀ ok, ops[k]? = some ok → (nthB pu k = true ∨ nthB (nthR ms k) i = false) → ok.dst ≠ some t
 | [], _, d, i, r, he, _, _, _, _, _ => by simp at he
 | x :: l, h, d, i, r, he, hp, o, ho, t, ht => by
  unfold laterOk at h
  simp only [Bool.and_eq_true] at h
  cases d with
  | nil =>
   simp only [List.nil_append, List.cons.injEq] at he
   obtain ⟨rfl, rfl⟩ := he
   have h1 := h.1
   rw [hp, ho] at h1
   simp only [Bool.not_true, Bool.false_or] at h1
   have h2 := List.all_eq_true.1 h1 t ht
   simp only [Bool.and_eq_true, Bool.not_eq_true'] at h2
   refine ⟨fun e => ?_, fun k hk ok hok hor e => ?_⟩
   ·rw [(isDst_ok ho).2 e] at h2; cases h2.1
   ·have h3 := List.all_eq_true.1 h2.2 k hk
    rw [(isDst_ok hok).2 e] at h3
    rcases hor with hor | hor <;> rw [hor] at h3 <;> simp at h3
  | cons y d =>
   simp only [List.cons_append, List.cons.injEq] at he
   obtain ⟨rfl, he⟩ := he
   exact laterOk_ok h.2 d i r he hp o ho t ht
end
section
variable {X : Vx} {n : Nat} {W : Base} {F : List Atom} {b : Bs} {E : Env} {g w : World} {s s' : Ov} {a : Act} {o : Oper} {ops : Array Oper}
structure Eqv (b : Bs) (s s' : Ov) : Prop where
 slot : ∀ t, b.slot s' t = b.slot s t
 h : s'.h = s.h
 n : s'.n = s.n
theorem Eqv.refl : Eqv b s s := ⟨fun _ => rfl, rfl, rfl⟩
theorem Eqv.obj (e : Eqv b s s') (l : Nat) : b.obj s' l = b.obj s l := by unfold Bs.obj; rw [e.h]
theorem Sta.eqv (S : Sta n W F b E g w s a) (e : Eqv b s s') : Sta n W F b E g w s' a := by
 refine ⟨S.size, S.defers, fun t v hv => S.fr t v (by rw [← e.slot]; exact hv), ?_, fun l hl => by rw [e.obj]; exact S.top l (by rw [← e.n]; exact hl)⟩
 have : b.heap s' = b.heap s := by
  unfold Bs.heap
  rw [e.n]
  exact List.map_congr_left fun l _ => e.obj l
 rw [this]; exact S.sat
theorem eqv_put {d : Nat} {v : SV} (h : b.slot s d = some v) : Eqv b s (s.put (some d) v) := by
 refine ⟨fun t => ?_, rfl, rfl⟩
 rw [slot_put]
 split
 ·rename_i e; subst e; exact h.symm
 ·rfl
def WantIs (ops : Array Oper) (b : Bs) (s : Ov) (o : Oper) (q : Bool) : Prop := match o.guard with
 | none => q = true
 | some (j, wt) => ∃ d, (ops[j]?).bind (·.dst) = some d ∧ ((∃ v, b.slot s d = some (.v (.c (.k (.bool v)))) ∧ q = (v == wt)) ∨ ((∃ l, b.slot s d = some (.tup l)) ∧ q = false))
theorem wantV_is {K : Bool → Ov → Prop} (h : wantV ops b s o K) : ∃ q s', WantIs ops b s o q ∧ Eqv b s s' ∧ K q s' := by
 unfold wantV at h
 unfold WantIs
 split at h
 ·rename_i hg
  exact ⟨true, s, by rw [hg], Eqv.refl, h⟩
 ·rename_i j wt hg
  split at h
  ·exact h.elim
  ·rename_i d hd
   split at h
   ·rename_i v hv
    rcases br_cases h with ⟨e, h⟩ | ⟨e, h⟩ <;> subst e
    ·exact ⟨_, _, by rw [hg]; exact ⟨d, hd, .inl ⟨_, hv, rfl⟩⟩, eqv_put hv, h⟩
    ·exact ⟨_, _, by rw [hg]; exact ⟨d, hd, .inl ⟨_, hv, rfl⟩⟩, eqv_put hv, h⟩
   ·rename_i l hv
    exact ⟨_, _, by rw [hg]; exact ⟨d, hd, .inr ⟨⟨l, hv⟩, rfl⟩⟩, Eqv.refl, h⟩
   ·exact h.elim
theorem WantIs.sem {q : Bool} (S : Sta n W F b E g w s a) (h : WantIs ops b s o q) : Region.wanted o (yielded ops a.tmps) = q := by
 unfold WantIs at h
 split at h
 ·rename_i hg
  unfold Region.wanted; rw [hg, h]
 ·rename_i j wt hg
  obtain ⟨d, hd, h⟩ := h
  unfold Region.wanted
  rw [hg]
  simp only
  unfold yielded
  rw [hd]
  rcases h with ⟨v, hv, e⟩ | ⟨⟨l, hv⟩, e⟩
  ·obtain ⟨hx, _⟩ := S.fr d _ hv
   subst e
   have : (a.tmps[d]?).getD undef = .bool v := by rw [← Array.getD_eq_getD_getElem?]; exact hx
   cases hq : a.tmps[d]? with
   | none => rw [hq] at this; simp [undef] at this
   | some y => rw [hq] at this; simp at this; subst this; cases v <;> cases wt <;> simp [hq]
  ·obtain ⟨us, _, hx⟩ := S.fr d _ hv
   subst e
   have : (a.tmps[d]?).getD undef = .tuple us.toArray := by rw [← Array.getD_eq_getD_getElem?]; exact hx
   cases hq : a.tmps[d]? with
   | none => simp [hq]
   | some y => rw [hq] at this; simp at this; subst this; simp [hq]
theorem WantIs.congr {q : Bool} (hs : ∀ t ∈ slotsOf ops o, b.slot s t = b.slot s' t) (h : WantIs ops b s o q) : WantIs ops b s' o q := by
 unfold WantIs at h ⊢
 split at h
 ·exact h
 ·rename_i j wt hg
  obtain ⟨d, hd, h⟩ := h
  have := hs d (List.mem_append_right _ (by rw [hg]; simp [hd]))
  rw [this] at h
  exact ⟨d, hd, h⟩
theorem opd_congr (hs : ∀ t ∈ slotsOf ops o, b.slot s t = b.slot s' t) {x : Operand} (hx : x ∈ o.op.operands.toList) : opd b s x = opd b s' x := by
 cases x with
 | tmp t => exact hs t (List.mem_append_left _ (List.mem_filterMap.2 ⟨.tmp t, hx, rfl⟩))
 | const _ => rfl
 | func _ => rfl
 | global _ => rfl
theorem Near.of (hs : ∀ t ∈ slotsOf ops o, b.slot s t = b.slot s' t) (hr : ∀ l ∈ rdOf b s o, b.obj s l = b.obj s' l) : Near b s s' o :=
 ⟨fun x hx => opd_congr hs hx, fun x hx v hv l hl => hr l (List.mem_flatMap.2 ⟨x, hx, by rw [hv]; exact hl⟩)⟩
theorem rdOf_congr (hs : ∀ t ∈ slotsOf ops o, b.slot s t = b.slot s' t) : rdOf b s o = rdOf b s' o := by
 unfold rdOf
 have : ∀ l : List Operand, (∀ x ∈ l, x ∈ o.op.operands.toList) → l.flatMap (fun x => match opd b s x with
   | some v => v.labels
   | none => []) = l.flatMap (fun x => match opd b s' x with
   | some v => v.labels
   | none => []) := by
  intro l
  induction l with
  | nil => intro _; rfl
  | cons x r ih =>
   intro h
   rw [List.flatMap_cons, List.flatMap_cons, ih fun y hy => h y (List.mem_cons_of_mem _ hy), opd_congr hs (h x (by simp))]
 exact this _ fun x hx => hx
structure Idem (X : Vx) (n : Nat) (ops : Array Oper) (b : Bs) (s : Ov) (o : Oper) (d : Nat) (sv : SV) : Prop where
 dst : o.dst = some d
 lt : d < n
 slot : b.slot s d = some sv
 pure : pureOp X.P o = true
 run : (WantIs ops b s o true ∧ vOp X b s o fun v _ => v = sv) ∨ (WantIs ops b s o false ∧ sv = .und)
theorem Idem.keep {d : Nat} {sv : SV} (h : Idem X n ops b s o d sv) (hs : ∀ t ∈ slotsOf ops o, b.slot s t = b.slot s' t) (hd : b.slot s' d = b.slot s d) (hr : ∀ l ∈ rdOf b s o, b.obj s l = b.obj s' l) : Idem X n ops b s' o d sv := by
 refine ⟨h.dst, h.lt, by rw [hd]; exact h.slot, h.pure, ?_⟩
 rcases h.run with ⟨h1, h2⟩ | ⟨h1, h2⟩
 ·exact .inl ⟨h1.congr hs, vOp_near h.pure (Near.of hs hr) h2⟩
 ·exact .inr ⟨h1.congr hs, h2⟩
theorem Idem.again {d : Nat} {sv : SV} (h : Idem X n ops b s o d sv) (S : Sta n W F b E g w s a) :
  ∃ v, (Region.wanted o (yielded ops a.tmps) = true → (execOp a.eval o).run X.P w = .ok (.value v) w) ∧ (Region.wanted o (yielded ops a.tmps) = false → v = undef) ∧ Sta n W F b E g w s (a.put o.dst v) := by
 have back : ∀ {v : Value}, RelV E g sv v → Sta n W F b E g w s (a.put o.dst v) := fun {v} r => by
  have := S.put (d := some d) (by simpa using h.lt) r
  rw [h.dst]
  refine this.eqv ⟨fun t => ?_, rfl, rfl⟩
  rw [slot_put]
  split
  ·rename_i e; subst e; exact h.slot
  ·rfl
 rcases h.run with ⟨h1, h2⟩ | ⟨h1, h2⟩
 ·obtain ⟨v, sv', r1, r2, rfl⟩ := vOpP_ok h.pure S h2
  exact ⟨v, fun _ => r1, fun q => absurd q (by rw [h1.sem S]; simp), back r2⟩
 ·subst h2
  exact ⟨undef, fun q => absurd q (by rw [h1.sem S]; simp), fun _ => rfl, back relV_und⟩
theorem pure_step {K : Ov → Prop} (S : Sta n W F b E g w s a) (hp : pureOp X.P o = true) (hself : ∀ t ∈ slotsOf ops o, o.dst ≠ some t) (h : vOp1 X n ops b s o K) :
  ∃ d v sv s', Sta n W F b E g w s' (a.put o.dst v) ∧ K s' ∧ Idem X n ops b s' o d sv ∧ rdOf b s' o = rdOf b s o ∧ (∀ t, o.dst ≠ some t → b.slot s' t = b.slot s t) ∧ ∀ l, b.obj s' l = b.obj s l := by
 unfold vOp1 at h
 obtain ⟨hd0, h⟩ := if_ok h
 obtain ⟨d, hd⟩ : ∃ d, o.dst = some d := by
  unfold pureOp at hp
  simp only [Bool.and_eq_true] at hp
  exact Option.isSome_iff_exists.1 hp.1
 have hdn : d < n := by rw [hd] at hd0; simpa using hd0
 obtain ⟨q, s1, hq, he, h⟩ := wantV_is h
 have S1 := S.eqv he
 have hne : ∀ t ∈ slotsOf ops o, d ≠ t := fun t ht e => hself t ht (by rw [hd, e])
 have slots : ∀ (sv : SV), ∀ t, d ≠ t → b.slot (s1.put (some d) sv) t = b.slot s t := fun sv t ht => by rw [slot_put, if_neg ht, he.slot]
 have hs1 : ∀ (sv : SV), ∀ t ∈ slotsOf ops o, b.slot s1 t = b.slot (s1.put (some d) sv) t := fun sv t ht => by rw [slots sv t (hne t ht), he.slot]
 have hs0 : ∀ (sv : SV), ∀ t ∈ slotsOf ops o, b.slot s t = b.slot (s1.put (some d) sv) t := fun sv t ht => by rw [slots sv t (hne t ht)]
 cases q with
 | true =>
  simp only at h
  rw [vOp_at hp] at h
  obtain ⟨v, sv, r1, r2, k, h2⟩ := vOpP_ok hp S1 ((vOp_det hp).det h)
  rw [hd] at k ⊢
  refine ⟨d, v, sv, _, S1.put (by simpa using hdn) r2, k, ⟨hd, hdn, by rw [slot_put, if_pos rfl], hp, .inl ⟨hq.congr (hs0 sv), vOp_near hp (Near.of (hs1 sv) fun l _ => rfl) h2⟩⟩, (rdOf_congr (hs0 sv)).symm, fun t ht => slots sv t fun e => ht (by rw [e]), fun l => he.obj l⟩
 | false =>
  simp only at h
  rw [hd] at h ⊢
  refine ⟨d, undef, .und, _, S1.put (by simpa using hdn) relV_und, h, ⟨hd, hdn, by rw [slot_put, if_pos rfl], hp, .inr ⟨hq.congr (hs0 _), rfl⟩⟩, (rdOf_congr (hs0 _)).symm, fun t ht => slots _ t fun e => ht (by rw [e]), fun l => he.obj l⟩
end
end Go.Lm

namespace Go.Lm
open Go Go.RowKit
section
variable {X : Vx} {n : Nat} {W : Base} {F : List Atom} {b : Bs} {E : Env} {g w : World} {s s' : Ov} {a : Act} {o : Oper} {ops : Array Oper}
theorem lookS_app : ∀ {l m : Slots} {t : Nat}, lookS (l ++ m) t = match lookS l t with
  | some v => some v
  | none => lookS m t
 | [], _, _ => rfl
 | (k, v) :: r, m, t => by
  simp only [List.cons_append, lookS]
  cases Nat.beq k t with
  | true => rfl
  | false => exact lookS_app (l := r)
theorem lookO_app : ∀ {l m : List (Nat × HO)} {t : Nat}, lookO (l ++ m) t = match lookO l t with
  | some v => some v
  | none => lookO m t
 | [], _, _ => rfl
 | (k, v) :: r, m, t => by
  simp only [List.cons_append, lookO]
  cases Nat.beq k t with
  | true => rfl
  | false => exact lookO_app (l := r)
theorem lookO_none : ∀ {l : List (Nat × HO)} {t : Nat}, t ∉ l.map (·.1) → lookO l t = none
 | [], _, _ => rfl
 | (k, v) :: r, t, h => by
  simp only [lookO]
  have h1 : ¬ k = t := fun e => h (by simp [e])
  rw [beq_ne h1]
  exact lookO_none fun q => h (by simpa using .inr (by simpa using q))
theorem nthH_get : ∀ {l : List HO} {k : Nat} {o : HO}, l[k]? = some o → nthH l k = o
 | [], _, _, h => by simp at h
 | x :: r, 0, o, h => by simpa [nthH] using h
 | x :: r, k + 1, o, h => nthH_get (l := r) (by simpa using h)
theorem nthH_none : ∀ {l : List HO} {k : Nat}, l.length ≤ k → nthH l k = .gone
 | [], _, _ => rfl
 | x :: r, 0, h => by simp at h
 | x :: r, k + 1, h => nthH_none (l := r) (by simpa using h)
def Bs.anew (b : Bs) (s : Ov) : Bs := { f := s.f ++ b.f, h := b.heap s }
theorem anew_slot {s2 : Ov} (h : s2.f = []) (t : Nat) : (b.anew s).slot s2 t = b.slot s t := by
 unfold Bs.slot Bs.anew
 rw [h]
 exact lookS_app
theorem nthH_heap (h : ∀ l, s.n ≤ l → b.obj s l = .gone) (l : Nat) : nthH (b.heap s) l = b.obj s l := by
 by_cases hl : l < s.n
 ·exact nthH_get (heap_get hl)
 ·rw [nthH_none (by rw [heap_len]; omega), h l (by omega)]
theorem anew_obj {s2 s3 : Ov} (h : ∀ l, s.n ≤ l → b.obj s l = .gone) (h3 : s3.h = s2.h ++ s.h) (l : Nat) : (b.anew s).obj s2 l = b.obj s3 l := by
 unfold Bs.obj
 rw [h3, lookO_app]
 show (match lookO s2.h l with | some o => o | none => nthH (b.heap s) l) = _
 cases lookO s2.h l with
 | some o => rfl
 | none => exact nthH_heap h l
theorem anew_heap {s2 s3 : Ov} (h : ∀ l, s.n ≤ l → b.obj s l = .gone) (h3 : s3.h = s2.h ++ s.h) (hn : s3.n = s2.n) : (b.anew s).heap s2 = b.heap s3 := by
 unfold Bs.heap
 rw [hn]
 exact List.map_congr_left fun l _ => anew_obj h h3 l
theorem Sta.anew (S : Sta n W F b E g w s a) : Sta n W F (b.anew s) E g w { f := [], h := [], n := s.n } a := by
 refine ⟨S.size, S.defers, fun t v hv => S.fr t v (by rw [← anew_slot (s2 := { f := [], h := [], n := s.n }) rfl]; exact hv), ?_, fun l hl => ?_⟩
 ·rw [anew_heap (s2 := { f := [], h := [], n := s.n }) (s3 := s) S.top rfl rfl]; exact S.sat
 ·rw [anew_obj (s2 := { f := [], h := [], n := s.n }) (s3 := s) S.top rfl]; exact S.top l hl
theorem Sta.merged {E' : Env} {g' w' : World} {s2 : Ov} (top : ∀ l, s.n ≤ l → b.obj s l = .gone) (hf : s2.f = []) (S : Sta n W F (b.anew s) E' g' w' s2 a) : Sta n W F b E' g' w' { f := s.f, h := s2.h ++ s.h, n := s2.n } a := by
 refine ⟨S.size, S.defers, fun t v hv => S.fr t v (by rw [anew_slot hf]; exact hv), ?_, fun l hl => ?_⟩
 ·rw [← anew_heap (s2 := s2) (s3 := { f := s.f, h := s2.h ++ s.h, n := s2.n }) top rfl rfl]; exact S.sat
 ·rw [← anew_obj (s2 := s2) (s3 := { f := s.f, h := s2.h ++ s.h, n := s2.n }) top rfl]; exact S.top l hl
structure Alone (b : Bs) (s s' : Ov) (d : Option Nat) (ks : List Nat) : Prop where
 slot : ∀ t, d ≠ some t → b.slot s' t = b.slot s t
 obj : ∀ l, l ∉ ks → b.obj s' l = b.obj s l
theorem slot_put' {d : Option Nat} {v : SV} {t : Nat} (h : d ≠ some t) : b.slot (s.put d v) t = b.slot s t := by
 cases d with
 | none => rfl
 | some d => rw [slot_put, if_neg fun e => h (by rw [e])]
theorem obj_put {d : Option Nat} {v : SV} {l : Nat} : b.obj (s.put d v) l = b.obj s l := by cases d <;> rfl
def NonR (n : Nat) (W : Base) (F : List Atom) (b : Bs) (E : Env) (g : World) (s : Ov) (d : Option Nat) (K : Ov → List Nat → Prop) (a' : Act) (w' : World) : Prop := ∃ E' g' s' ks, EnvLe E E' ∧ Mono g g' ∧ Sta n W F b E' g' w' s' a' ∧ K s' ks ∧ Alone b s s' d ks
theorem non_step (hct : CtOkW W X.P X.ct) {K : Ov → List Nat → Prop} (S : Sta n W F b E g w s a) (h : vNon X n ops b s o K) :
  (Region.wanted o (yielded ops a.tmps) = true ∧ OpR X.P o a w fun v w' => NonR n W F b E g s o.dst K (a.put o.dst v) w') ∨ (Region.wanted o (yielded ops a.tmps) = false ∧ NonR n W F b E g s o.dst K (a.put o.dst undef) w) := by
 unfold vNon at h
 obtain ⟨hd, h⟩ := if_ok h
 obtain ⟨q, s1, hq, he, h⟩ := wantV_is h
 have S1 := S.eqv he
 cases q with
 | true =>
  refine .inl ⟨hq.sem S, ?_⟩
  have hr := vOp_ok hct S1.anew h
  have key : ∀ v w', Out n W F (b.anew s1) E g a (fun v s' => match s'.f with
    | [] => K (({ f := s1.f, h := s'.h ++ s1.h, n := s'.n } : Ov).put o.dst v) (s'.h.map (·.1))
    | _ => False) v w' → NonR n W F b E g s o.dst K (a.put o.dst v) w' := by
   rintro v w' ⟨E', g', s2, sv, h1, h2, S2, r, k⟩
   split at k
   ·rename_i hf
    refine ⟨E', g', _, _, h1, h2, (S2.merged S1.top hf).put hd r, k, fun t ht => ?_, fun l hl => ?_⟩
    ·rw [slot_put' ht]; exact he.slot t
    ·rw [obj_put, ← he.obj]
     unfold Bs.obj
     rw [lookO_app, lookO_none hl]
   ·exact k.elim
  rcases hr with ⟨v, w', hr, h⟩ | ⟨w', hr, h⟩ | ⟨f, args, hr, h⟩
  ·exact .inl ⟨v, w', hr, key v w' h⟩
  ·exact .inr (.inl ⟨w', hr, key undef w' h⟩)
  ·exact .inr (.inr ⟨f, args, hr, h.mono key⟩)
 | false => exact .inr ⟨hq.sem S, E, g, _, _, EnvLe.refl E, Mono.refl g, S1.put hd relV_und, h, fun t ht => by rw [slot_put' ht, he.slot], fun l _ => by rw [obj_put, he.obj]⟩
def DrawT (X : Vx) (n : Nat) (W : Base) (F : List Atom) (b : Bs) (E : Env) (g : World) (ops : Array Oper) (ms : List (List Bool)) (pu : List Bool) (ord : List Nat) (K : Ov → Prop) (dn rest : List Nat) (c : Act) (w' : World) : Prop :=
 dn ++ rest = ord ∧ ∃ E' g' s lv, EnvLe E E' ∧ Mono g g' ∧ Sta n W F b E' g' w' s c ∧ vDraw X n ops b ms pu rest lv s K ∧
  (∀ p ∈ lv, p.1 ∈ dn ∧ nthB pu p.1 = true ∧ ∃ o d sv, ops[p.1]? = some o ∧ Idem X n ops b s o d sv ∧ rdOf b s o = p.2) ∧
  ∀ i ∈ dn, nthB pu i = true → (∀ j ∈ dn, nthB pu j = false → ¬ Waits ops j i) → ∃ p ∈ lv, p.1 = i
theorem forceLL_eq : ∀ (l : List (List Nat)) {k : List (List Nat) → Prop}, forceLL l k → k l
 | [], _, h => h
 | _ :: l, _, h => forceLL_eq l (forceL_eq _ h)
theorem headsN_mem : ∀ {os : List (List Nat)} {i : Nat} {r : List Nat}, i :: r ∈ os → i ∈ headsN os
 | [], _, _, h => by cases h
 | [] :: os, i, r, h => by
  rcases List.mem_cons.1 h with h | h
  ·cases h
  ·exact headsN_mem (os := os) h
 | (x :: q) :: os, i, r, h => by
  unfold headsN
  rcases List.mem_cons.1 h with h | h
  ·injection h with h1 h2
   subst h1
   split
   ·rename_i hm; exact memN_iff.1 hm
   ·exact List.mem_cons_self ..
  ·have := headsN_mem (os := os) h
   split
   ·exact this
   ·exact List.mem_cons_of_mem _ this
theorem tailsN_mem : ∀ {os : List (List Nat)} {i : Nat} {r : List Nat}, i :: r ∈ os → r ∈ tailsN i os
 | [], _, _, h => by cases h
 | [] :: os, i, r, h => by
  rcases List.mem_cons.1 h with h | h
  ·cases h
  ·exact tailsN_mem (os := os) h
 | (x :: q) :: os, i, r, h => by
  unfold tailsN
  rcases List.mem_cons.1 h with h | h
  ·injection h with h1 h2
   subst h1 h2
   rw [Nat.beq_refl]
   exact List.mem_cons_self ..
  ·have := tailsN_mem (os := os) h
   split
   ·exact List.mem_cons_of_mem _ this
   ·exact this
theorem allN_mem {p : Nat → Prop} : ∀ {l : List Nat} {i : Nat}, allN l p → i ∈ l → p i
 | [], _, _, h => by cases h
 | [x], i, h, hi => by
  obtain rfl : i = x := by simpa using hi
  exact h
 | x :: y :: r, i, ⟨h1, h2⟩, hi => by
  rcases List.mem_cons.1 hi with rfl | hi
  ·exact h1
  ·exact allN_mem (l := y :: r) h2 hi
theorem npOk_of {ms : List (List Bool)} {np dn : List Nat} {i : Nat} (h : ∀ j ∈ np, nthB (nthR ms i) j = true → j ∈ dn) : npOk ms np dn i = true := List.all_eq_true.2 fun j hj => by
 cases hb : nthB (nthR ms i) j with
 | false => rfl
 | true => rw [memN_iff.2 (h j hj hb)]; rfl
theorem firstNP_ok {pu : List Bool} : ∀ {l : List Nat} {i : Nat}, firstNP pu l i = true → ∃ r1 r2, l = r1 ++ i :: r2 ∧ ∀ j ∈ r1, nthB pu j = true
 | [], _, h => by cases h
 | x :: r, i, h => by
  unfold firstNP at h
  rcases Bool.or_eq_true_iff.1 h with h | h
  ·exact ⟨[], r, by rw [Nat.eq_of_beq_eq_true h]; rfl, fun _ hj => by cases hj⟩
  ·obtain ⟨h1, h2⟩ := Bool.and_eq_true_iff.1 h
   obtain ⟨r1, r2, e, hp⟩ := firstNP_ok h2
   refine ⟨x :: r1, r2, by rw [e]; rfl, fun j hj => ?_⟩
   rcases List.mem_cons.1 hj with rfl | hj
   ·exact h1
   ·exact hp j hj
theorem stripN_ok : ∀ {l r q : List Nat}, stripN l r = some q → l ++ q = r
 | [], r, q, h => (Option.some.inj h).symm
 | _ :: _, [], _, h => by cases h
 | a :: l, b :: r, q, h => by
  unfold stripN at h
  cases hb : Nat.beq a b with
  | false => rw [hb] at h; cases h
  | true =>
   rw [hb] at h
   have h : stripN l r = some q := h
   rw [← stripN_ok h, Nat.eq_of_beq_eq_true hb]; rfl
theorem closeGo_ok {pu : List Bool} {ms : List (List Bool)} {np : List Nat} {os : List (List Nat)} : ∀ {l d0 : List Nat}, closeGo pu ms np os d0 l = true → ∀ (d : List Nat) (rest : List Nat), d ++ rest = l → ∀ i ∈ rest, npOk ms np (d0 ++ d) i = true → firstNP pu rest i = true ∨ ∃ q, (d0 ++ d) ++ q ∈ os ∧ firstNP pu q i = true
 | [], d0, _, d, rest, e, i, hi, _ => by
  have := (List.append_eq_nil_iff.1 e).2
  rw [this] at hi; cases hi
 | x :: l, d0, h, d, rest, e, i, hi, hn => by
  unfold closeGo at h
  obtain ⟨h1, h2⟩ := Bool.and_eq_true_iff.1 h
  cases d with
  | nil =>
   have e : rest = x :: l := e
   subst e
   rw [List.append_nil] at hn ⊢
   have h3 := List.all_eq_true.1 h1 i hi
   rw [hn] at h3
   rcases Bool.or_eq_true_iff.1 h3 with h3 | h3
   ·exact .inl h3
   ·rw [Bool.not_true, Bool.false_or] at h3
    obtain ⟨o, ho, h4⟩ := List.any_eq_true.1 h3
    split at h4
    ·rename_i q hq
     exact .inr ⟨q, by rw [stripN_ok hq]; exact ho, h4⟩
    ·cases h4
  | cons y d =>
   injection e with e1 e2
   subst e1
   have := closeGo_ok (l := l) (d0 := d0 ++ [y]) h2 d rest e2 i hi (by simpa using hn)
   simpa using this
def TreeT (X : Vx) (n : Nat) (W : Base) (F : List Atom) (b : Bs) (E : Env) (g : World) (ops : Array Oper) (ms : List (List Bool)) (pu : List Bool) (ords : List (List Nat)) (K : Ov → Prop) (dn rest : List Nat) (c : Act) (w' : World) : Prop :=
 dn ++ rest ∈ ords ∧ ∃ E' g' s lv os, EnvLe E E' ∧ Mono g g' ∧ Sta n W F b E' g' w' s c ∧ vTree X n ops b ms pu rest.length os lv s K ∧ (∀ r, dn ++ r ∈ ords → r ∈ os) ∧
  (∀ p ∈ lv, p.1 ∈ dn ∧ nthB pu p.1 = true ∧ ∃ o d sv, ops[p.1]? = some o ∧ Idem X n ops b s o d sv ∧ rdOf b s o = p.2) ∧
  ∀ i ∈ dn, nthB pu i = true → (∀ j ∈ dn, nthB pu j = false → ¬ Waits ops j i) → ∃ p ∈ lv, p.1 = i
theorem tree_ok (hct : CtOkW W X.P X.ct) {K : Ov → Prop} {Q : Exit → Act → World → Prop} {id : Nat} {ms : List (List Bool)} {pu : List Bool} (S : Sta n W F b E g w s a) (hm : X.P.follows .mixedOrders = true) (hE : edgesOk ops = true) (hD : dstsOk ops n = true) (hpu : (List.range ops.size).map (pureAt X.P ops) = pu) (hms : ∀ j i, nthB (nthR ms j) i = true → Waits ops j i)
  (h : forceL ((List.range ops.size).filter fun i => !nthB pu i) fun np => forceLL (altsGo pu ms np ops.size ops.size []) fun os => if altsOk ops pu ms np os then vTree X n ops b ms pu ops.size os [] s K else False) (k : ∀ a' w', Step n W F b E g K a' w' → Q .normal a' w') : (Code.region id ops true).wp X.P Q a w := by
 have h := forceL_eq _ h
 generalize hnp : (List.range ops.size).filter (fun i => !nthB pu i) = np at h
 have h := forceLL_eq _ h
 generalize altsGo pu ms np ops.size ops.size [] = ords at h
 obtain ⟨ho, h⟩ := if_ok h
 unfold altsOk at ho
 simp only [Bool.and_eq_true] at ho
 obtain ⟨h5, hne, hall⟩ := ho
 have hall := fun ord hm => List.all_eq_true.1 hall ord hm
 simp only [Bool.and_eq_true] at hall
 have hnd : ∀ ord, ord ∈ ords → ord.Nodup := fun ord hm => nodupN_iff.1 (hall ord hm).1
 have hord : ∀ ord, ord ∈ ords → ∀ i, i ∈ ord ↔ i < ops.size := fun ord hm i => ⟨fun hi => by simpa using List.all_eq_true.1 (hall ord hm).2.1 i hi, fun hi => memN_iff.1 (List.all_eq_true.1 (hall ord hm).2.2.1 i (List.mem_range.2 hi))⟩
 have h6 : ∀ ord, ord ∈ ords → laterOk ops pu ms ord = true := fun ord hm => (hall ord hm).2.2.2.1
 have hcl : ∀ ord, ord ∈ ords → closeGo pu ms np ords [] ord = true := fun ord hm => (hall ord hm).2.2.2.2
 have hpure : ∀ (i : Nat) (o : Oper), ops[i]? = some o → nthB pu i = true → pureOp X.P o = true := fun i o hi hp => by
  rw [← hpu, nthB_eq, List.getElem?_map, List.getElem?_range (Array.getElem?_eq_some_iff.1 hi).1] at hp
  have hp : pureAt X.P ops i = true := hp
  unfold pureAt at hp
  rw [hi] at hp
  simp only [Bool.and_eq_true] at hp
  exact hp.1
 have dne : ∀ (i j : Nat) (oi oj : Oper) (d : Nat), ops[i]? = some oi → ops[j]? = some oj → oi.dst = some d → oj.dst = some d → i = j := by
  have dne' : ∀ (i j : Nat) (oi oj : Oper) (d : Nat), j < i → ops[i]? = some oi → ops[j]? = some oj → oi.dst = some d → oj.dst = some d → False := fun i j oi oj d hji hi hj hdi hdj => by
   have hi' : i < ops.size := (Array.getElem?_eq_some_iff.1 hi).1
   have h1 := List.all_eq_true.1 hD i (List.mem_range.2 hi')
   simp only [hi, Option.bind_some, hdi, Bool.and_eq_true] at h1
   have h2 := List.all_eq_true.1 h1.2 j (List.mem_range.2 hji)
   simp [hj, hdj] at h2
  intro i j oi oj d hi hj hdi hdj
  rcases Nat.lt_trichotomy i j with h | h | h
  ·exact (dne' j i oj oi d h hj hi hdj hdi).elim
  ·exact h
  ·exact (dne' i j oi oj d h hi hj hdi hdj).elim
 have stands : ∀ {dn rest : List Nat} {i : Nat} {o : Oper} {s1 s2 : Ov}, dn ++ i :: rest ∈ ords → ops[i]? = some o → (∀ t, o.dst ≠ some t → b.slot s2 t = b.slot s1 t) → ∀ (p : Nat × List Nat), p.1 ∈ dn → nthB pu p.1 = true → (∀ l ∈ p.2, b.obj s2 l = b.obj s1 l) → (nthB pu i = true ∨ nthB (nthR ms i) p.1 = false) →
   (∃ o d sv, ops[p.1]? = some o ∧ Idem X n ops b s1 o d sv ∧ rdOf b s1 o = p.2) → ∃ o d sv, ops[p.1]? = some o ∧ Idem X n ops b s2 o d sv ∧ rdOf b s2 o = p.2 := by
  rintro dn rest i o s1 s2 he hi hsl p hpd hpp hob hor ⟨op, d, sv, q1, q2, q3⟩
  obtain ⟨d1, d2, hdd⟩ := List.append_of_mem hpd
  have hl := laterOk_ok (h6 _ he) d1 p.1 (d2 ++ i :: rest) (by rw [hdd]; simp) hpp op q1
  have hs : ∀ t ∈ slotsOf ops op, b.slot s1 t = b.slot s2 t := fun t ht => (hsl t ((hl t ht).2 i (by simp) o hi hor)).symm
  have hne : p.1 ≠ i := fun e => by
   have := hnd _ he
   rw [List.nodup_append] at this
   exact this.2.2 p.1 hpd i (by simp) e
  have hdd : b.slot s2 d = b.slot s1 d := hsl d fun e => hne (dne p.1 i op o d q1 hi q2.dst e)
  exact ⟨op, d, sv, q1, q2.keep hs hdd (fun l hl => (hob l (by rw [← q3]; exact hl)).symm), by rw [← rdOf_congr hs]; exact q3⟩
 have h5o : ∀ dn rest c w' i, TreeT X n W F b E g ops ms pu ords K dn rest c w' → dn ++ rest ∈ ords → i ∈ rest → (∀ j, Waits ops i j → nthB pu j = false → j ∈ dn) → ∃ r1 r2, dn ++ (r1 ++ i :: r2) ∈ ords ∧ TreeT X n W F b E g ops ms pu ords K dn (r1 ++ i :: r2) c w' ∧ ∀ j ∈ r1, nthB pu j = true := fun dn rest c w' i hT he hir hw => by
  have hnpo : npOk ms np dn i = true := npOk_of fun j hj hb => hw j (hms i j hb) (by
   rw [← hnp] at hj
   simpa using (List.mem_filter.1 hj).2)
  have len : ∀ q, dn ++ q ∈ ords → q.length = rest.length := fun q hq => by
   have p1 := (List.perm_ext_iff_of_nodup (hnd _ he) (hnd _ hq)).2 fun x => (hord _ he x).trans (hord _ hq x).symm
   have := p1.length_eq
   simp only [List.length_append] at this
   omega
  rcases closeGo_ok (hcl _ he) dn rest rfl i hir (by simpa using hnpo) with h1 | ⟨q, hq, h1⟩
  ·obtain ⟨r1, r2, e, hp⟩ := firstNP_ok h1
   subst e
   exact ⟨r1, r2, he, hT, hp⟩
  ·obtain ⟨r1, r2, e, hp⟩ := firstNP_ok h1
   subst e
   have hq : dn ++ (r1 ++ i :: r2) ∈ ords := by simpa using hq
   obtain ⟨_, E', g', s1, lv, os, l1, l2, S1, hv, hos, hlv, hall⟩ := hT
   rw [← len _ hq] at hv
   exact ⟨r1, r2, hq, ⟨hq, E', g', s1, lv, os, l1, l2, S1, hv, hos, hlv, hall⟩, hp⟩
 obtain ⟨ord0, hord0⟩ : ∃ o, o ∈ ords := by
  cases ords with
  | nil => simp at hne
  | cons o _ => exact ⟨o, List.mem_cons_self ..⟩
 have hl0 : ord0.length = ops.size := by
  have p1 := (List.perm_ext_iff_of_nodup (hnd _ hord0) List.nodup_range).2 fun x => (hord _ hord0 x).trans List.mem_range.symm
  have := p1.length_eq
  rwa [List.length_range] at this
 refine wp_region_any hm ?_
 refine any_T (Ord := fun l => l ∈ ords) (pu := nthB pu) (T := TreeT X n W F b E g ops ms pu ords K) hE hD hnd hord h5o
  (fun i k oi ok d hi hk hd hm => (slotsOkB_ok h5 hi hk hd hm).imp (hms i k) fun q => q)
  (fun dn rest c w' ⟨_, E', g', s1, lv, _, _, _, S1, _⟩ => ⟨S1.size, S1.defers⟩) ?_ ?_ ?_ ?_ ops.size _ a _ [] ord0 a ⟨by simpa using hord0, by simp, ?_, S.size, S.defers, ?_, fun t _ => rfl, fun i hi => (by cases hi), ?_⟩ ?_
 ·rintro dn rest c w' i o ⟨he, E', g', s1, lv, os, l1, l2, S1, hv, hos, hlv, hall⟩ hin hpi hi hnw
  obtain ⟨p, hp, rfl⟩ := hall i hin hpi hnw
  obtain ⟨_, _, op, d, sv, q1, q2, q3⟩ := hlv p hp
  rw [hi] at q1
  obtain rfl := Option.some.inj q1
  obtain ⟨v, v1, v2, v3⟩ := q2.again S1
  exact ⟨v, v1, v2, he, E', g', s1, lv, os, l1, l2, v3, hv, hos, hlv, hall⟩
 ·rintro dn i rest c w' o ⟨he, E', g', s1, lv, os, l1, l2, S1, hv, hos, hlv, hall⟩ hpi hi
  have hv := allN_mem (forceL_eq _ hv) (headsN_mem (hos _ he))
  simp only [hi, hpi] at hv
  obtain ⟨d, v, sv, s2, S2, hk, hid, hrd, hsl, hob⟩ := pure_step S1 (hpure i o hi hpi) (fun t ht => (laterOk_ok (h6 _ he) dn i rest rfl hpi o hi t ht).1) hv
  have hk := forceLL_eq _ hk
  refine ⟨v, by simpa using he, E', g', s2, _, _, l1, l2, S2, hk, fun r hr => tailsN_mem (hos _ (by simpa using hr)), fun p hp => ?_, fun j hj hpj hnw => ?_⟩
  ·rcases List.mem_cons.1 hp with rfl | hp
   ·exact ⟨by simp, hpi, o, d, sv, hi, hid, hrd⟩
   ·obtain ⟨p1, p2, p3⟩ := hlv p hp
    exact ⟨List.mem_append_left _ p1, p2, stands he hi hsl p p1 p2 (fun l _ => hob l) (.inl hpi) p3⟩
  ·rcases List.mem_append.1 hj with hj | hj
   ·obtain ⟨p, hp, e⟩ := hall j hj hpj fun q hq hpq => hnw q (List.mem_append_left _ hq) hpq
    exact ⟨p, List.mem_cons_of_mem _ hp, e⟩
   ·have hji : j = i := by simpa using hj
    exact ⟨_, List.mem_cons_self .., hji.symm⟩
 ·rintro dn i rest c w' o ⟨he, E', g', s1, lv, os, l1, l2, S1, hv, hos, hlv, hall⟩ hpi hi
  have hv := allN_mem (forceL_eq _ hv) (headsN_mem (hos _ he))
  simp only [hi, hpi] at hv
  have key : ∀ a' w'', NonR n W F b E' g' s1 o.dst (fun s' ks => forceL (lv.filter fun p => !nthB (nthR ms i) p.1) fun lv => if lv.all (fun p => p.2.all fun l => !memN l ks) then forceLL (tailsN i os) (fun os => vTree X n ops b ms pu rest.length os lv s' K) else False) a' w'' → TreeT X n W F b E g ops ms pu ords K (dn ++ [i]) rest a' w'' := by
   rintro a' w'' ⟨E2, g2, s2, ks, m1, m2, S2, hk, hal⟩
   have hk := forceL_eq _ hk
   obtain ⟨hc, hk⟩ := if_ok hk
   have hk := forceLL_eq _ hk
   refine ⟨by simpa using he, E2, g2, s2, _, _, l1.trans m1, l2.trans m2, S2, hk, fun r hr => tailsN_mem (hos _ (by simpa using hr)), fun p hp => ?_, fun j hj hpj hnw => ?_⟩
   ·have hp' := (List.mem_filter.1 hp).1
    obtain ⟨p1, p2, p3⟩ := hlv p hp'
    have hw : nthB (nthR ms i) p.1 = false := by simpa using (List.mem_filter.1 hp).2
    refine ⟨List.mem_append_left _ p1, p2, stands he hi hal.slot p p1 p2 (fun l hl => hal.obj l fun hlk => ?_) (.inr hw) p3⟩
    have := List.all_eq_true.1 (List.all_eq_true.1 hc p hp) l hl
    rw [memN_iff.2 hlk] at this; cases this
   ·have hj' : j ∈ dn := by
     rcases List.mem_append.1 hj with h | h
     ·exact h
     ·have : j = i := by simpa using h
      subst this
      rw [hpi] at hpj; cases hpj
    obtain ⟨p, hp, e⟩ := hall j hj' hpj fun q hq hpq => hnw q (List.mem_append_left _ hq) hpq
    refine ⟨p, List.mem_filter.2 ⟨hp, ?_⟩, e⟩
    cases hb : nthB (nthR ms i) p.1 with
    | false => rfl
    | true =>
     exfalso
     rw [e] at hb
     exact hnw i (by simp) hpi (hms i j hb)
  rcases non_step hct S1 hv with ⟨hw, hr⟩ | ⟨hw, hr⟩
  ·refine .inl ⟨hw, ?_⟩
   rcases hr with ⟨v, w2, hr, h⟩ | ⟨w2, hr, h⟩ | ⟨f, args, hr, h⟩
   ·exact .inl ⟨v, w2, hr, key _ w2 h⟩
   ·exact .inr (.inl ⟨w2, hr, key _ w2 h⟩)
   ·exact .inr (.inr ⟨f, args, hr, h.mono fun v w2 h => key _ w2 h⟩)
  ·exact .inr ⟨hw, key _ _ hr⟩
 ·rintro dn c w' ⟨he, E', g', s1, lv, os, l1, l2, S1, hv, _⟩
  exact k c w' ⟨E', g', s1, l1, l2, S1, hv⟩
 ·intro j o hj hl
  rw [rep_false] at hl; cases hl
 ·exact ⟨by simpa using hord0, E, g, s, [], ords, EnvLe.refl E, Mono.refl g, S.le (Le.drew w), by rw [hl0]; exact h, fun r hr => by simpa using hr, fun p hp => (by cases hp), fun i hi => (by cases hi)⟩
 ·intro i hl
  rw [rep_false] at hl; cases hl
 ·simp
  exact Nat.le_trans (List.length_filter_le _ _) (by simp)
theorem draw_ok (hct : CtOkW W X.P X.ct) {K : Ov → Prop} {Q : Exit → Act → World → Prop} {id : Nat} (S : Sta n W F b E g w s a) (h : vRegion X n ops true b s K) (k : ∀ a' w', Step n W F b E g K a' w' → Q .normal a' w') : (Code.region id ops true).wp X.P Q a w := by
 unfold vRegion at h
 rw [if_pos rfl] at h
 obtain ⟨h0, h⟩ := if_ok h
 simp only [Bool.and_eq_true] at h0
 obtain ⟨⟨hm, hE⟩, hD⟩ := h0
 have h := forceB_eq _ h
 obtain ⟨ms, h, hms⟩ := rowsK_ok (ops := ops) h (fun j => by simp) (fun j i h => by simp [nthR, nthB] at h)
 have h := forceL_eq _ h
 generalize hpu : (List.range ops.size).map (pureAt X.P ops) = pu at h
 generalize hod : ordOf pu ms ops.size = ord at h
 by_cases ho : ordOk ops pu ms ord = true
 case neg =>
  rw [if_neg ho] at h
  exact tree_ok hct S hm hE hD hpu hms h k
 rw [if_pos ho] at h
 unfold ordOk at ho
 simp only [Bool.and_eq_true] at ho
 obtain ⟨⟨⟨⟨⟨h1, h2⟩, h3⟩, h4⟩, h5⟩, h6⟩ := ho
 have hnd : ord.Nodup := nodupN_iff.1 h1
 have hord : ∀ i, i ∈ ord ↔ i < ops.size := fun i => ⟨fun hi => by simpa using List.all_eq_true.1 h2 i hi, fun hi => memN_iff.1 (List.all_eq_true.1 h3 i (List.mem_range.2 hi))⟩
 have hpure : ∀ (i : Nat) (o : Oper), ops[i]? = some o → nthB pu i = true → pureOp X.P o = true := fun i o hi hp => by
  rw [← hpu, nthB_eq, List.getElem?_map, List.getElem?_range (Array.getElem?_eq_some_iff.1 hi).1] at hp
  have hp : pureAt X.P ops i = true := hp
  unfold pureAt at hp
  rw [hi] at hp
  simp only [Bool.and_eq_true] at hp
  exact hp.1
 have dne : ∀ (i j : Nat) (oi oj : Oper) (d : Nat), ops[i]? = some oi → ops[j]? = some oj → oi.dst = some d → oj.dst = some d → i = j := by
  have dne' : ∀ (i j : Nat) (oi oj : Oper) (d : Nat), j < i → ops[i]? = some oi → ops[j]? = some oj → oi.dst = some d → oj.dst = some d → False := fun i j oi oj d hji hi hj hdi hdj => by
   have hi' : i < ops.size := (Array.getElem?_eq_some_iff.1 hi).1
   have h1 := List.all_eq_true.1 hD i (List.mem_range.2 hi')
   simp only [hi, Option.bind_some, hdi, Bool.and_eq_true] at h1
   have h2 := List.all_eq_true.1 h1.2 j (List.mem_range.2 hji)
   simp [hj, hdj] at h2
  intro i j oi oj d hi hj hdi hdj
  rcases Nat.lt_trichotomy i j with h | h | h
  ·exact (dne' j i oj oi d h hj hi hdj hdi).elim
  ·exact h
  ·exact (dne' i j oi oj d h hi hj hdi hdj).elim
 -- what has come early stands while others are done
 have stands : ∀ {dn rest : List Nat} {i : Nat} {o : Oper} {s1 s2 : Ov}, dn ++ i :: rest = ord → ops[i]? = some o → (∀ t, o.dst ≠ some t → b.slot s2 t = b.slot s1 t) → ∀ (p : Nat × List Nat), p.1 ∈ dn → nthB pu p.1 = true → (∀ l ∈ p.2, b.obj s2 l = b.obj s1 l) → (nthB pu i = true ∨ nthB (nthR ms i) p.1 = false) →
   (∃ o d sv, ops[p.1]? = some o ∧ Idem X n ops b s1 o d sv ∧ rdOf b s1 o = p.2) → ∃ o d sv, ops[p.1]? = some o ∧ Idem X n ops b s2 o d sv ∧ rdOf b s2 o = p.2 := by
  rintro dn rest i o s1 s2 he hi hsl p hpd hpp hob hor ⟨op, d, sv, q1, q2, q3⟩
  obtain ⟨d1, d2, hdd⟩ := List.append_of_mem hpd
  have hl := laterOk_ok h6 d1 p.1 (d2 ++ i :: rest) (by rw [← he, hdd]; simp) hpp op q1
  have hs : ∀ t ∈ slotsOf ops op, b.slot s1 t = b.slot s2 t := fun t ht => (hsl t ((hl t ht).2 i (by simp) o hi hor)).symm
  have hne : p.1 ≠ i := fun e => by
   have := hnd
   rw [← he, List.nodup_append] at this
   exact this.2.2 p.1 hpd i (by simp) e
  have hdd : b.slot s2 d = b.slot s1 d := hsl d fun e => hne (dne p.1 i op o d q1 hi q2.dst e)
  exact ⟨op, d, sv, q1, q2.keep hs hdd (fun l hl => (hob l (by rw [← q3]; exact hl)).symm), by rw [← rdOf_congr hs]; exact q3⟩
 refine wp_region_any hm ?_
 have h5o : ∀ dn rest c w' i, DrawT X n W F b E g ops ms pu ord K dn rest c w' → dn ++ rest = ord → i ∈ rest → (∀ j, Waits ops i j → nthB pu j = false → j ∈ dn) → ∃ r1 r2, dn ++ (r1 ++ i :: r2) = ord ∧ DrawT X n W F b E g ops ms pu ord K dn (r1 ++ i :: r2) c w' ∧ ∀ j ∈ r1, nthB pu j = true := fun dn rest c w' i hT he hir hw => by
  obtain ⟨r1, r2, hr⟩ := List.append_of_mem hir
  subst hr
  refine ⟨r1, r2, he, hT, fun j hj => ?_⟩
  cases hp : nthB pu j with
  | true => rfl
  | false =>
   have h1 := hw j (hms i j (aheadOk_ok h4 (dn ++ r1) i r2 (by rw [← he]; simp) j (.inr (by simp [hj])) hp)) hp
   have := hnd
   rw [← he, List.nodup_append] at this
   exact (this.2.2 j h1 j (by simp [hj]) rfl).elim
 refine any_T (Ord := fun l => l = ord) (pu := nthB pu) (T := DrawT X n W F b E g ops ms pu ord K) hE hD (fun l e => by rw [e]; exact hnd) (fun l e i => by rw [e]; exact hord i) h5o
  (fun i k oi ok d hi hk hd hm => (slotsOkB_ok h5 hi hk hd hm).imp (hms i k) fun q => q)
  (fun dn rest c w' ⟨_, E', g', s1, lv, _, _, S1, _⟩ => ⟨S1.size, S1.defers⟩) ?_ ?_ ?_ ?_ ops.size _ a _ [] ord a ⟨rfl, by simp, ?_, S.size, S.defers, ?_, fun t _ => rfl, fun i hi => (by cases hi), ?_⟩ ?_
 ·rintro dn rest c w' i o ⟨he, E', g', s1, lv, l1, l2, S1, hv, hlv, hall⟩ hin hpi hi hnw
  obtain ⟨p, hp, rfl⟩ := hall i hin hpi hnw
  obtain ⟨_, _, op, d, sv, q1, q2, q3⟩ := hlv p hp
  rw [hi] at q1
  obtain rfl := Option.some.inj q1
  obtain ⟨v, v1, v2, v3⟩ := q2.again S1
  exact ⟨v, v1, v2, he, E', g', s1, lv, l1, l2, v3, hv, hlv, hall⟩
 ·rintro dn i rest c w' o ⟨he, E', g', s1, lv, l1, l2, S1, hv, hlv, hall⟩ hpi hi
  unfold vDraw at hv
  simp only [hi, hpi] at hv
  obtain ⟨d, v, sv, s2, S2, hk, hid, hrd, hsl, hob⟩ := pure_step S1 (hpure i o hi hpi) (fun t ht => (laterOk_ok h6 dn i rest he hpi o hi t ht).1) hv
  refine ⟨v, by rw [← he]; simp, E', g', s2, _, l1, l2, S2, hk, fun p hp => ?_, fun j hj hpj hnw => ?_⟩
  ·rcases List.mem_cons.1 hp with rfl | hp
   ·exact ⟨by simp, hpi, o, d, sv, hi, hid, hrd⟩
   ·obtain ⟨p1, p2, p3⟩ := hlv p hp
    exact ⟨List.mem_append_left _ p1, p2, stands he hi hsl p p1 p2 (fun l _ => hob l) (.inl hpi) p3⟩
  ·rcases List.mem_append.1 hj with hj | hj
   ·obtain ⟨p, hp, e⟩ := hall j hj hpj fun q hq hpq => hnw q (List.mem_append_left _ hq) hpq
    exact ⟨p, List.mem_cons_of_mem _ hp, e⟩
   ·have hji : j = i := by simpa using hj
    exact ⟨_, List.mem_cons_self .., hji.symm⟩
 ·rintro dn i rest c w' o ⟨he, E', g', s1, lv, l1, l2, S1, hv, hlv, hall⟩ hpi hi
  unfold vDraw at hv
  simp only [hi, hpi] at hv
  have key : ∀ a' w'', NonR n W F b E' g' s1 o.dst (fun s' ks => forceL (lv.filter fun p => !nthB (nthR ms i) p.1) fun lv => if lv.all (fun p => p.2.all fun l => !memN l ks) then vDraw X n ops b ms pu rest lv s' K else False) a' w'' → DrawT X n W F b E g ops ms pu ord K (dn ++ [i]) rest a' w'' := by
   rintro a' w'' ⟨E2, g2, s2, ks, m1, m2, S2, hk, hal⟩
   have hk := forceL_eq _ hk
   obtain ⟨hc, hk⟩ := if_ok hk
   refine ⟨by rw [← he]; simp, E2, g2, s2, _, l1.trans m1, l2.trans m2, S2, hk, fun p hp => ?_, fun j hj hpj hnw => ?_⟩
   ·have hp' := (List.mem_filter.1 hp).1
    obtain ⟨p1, p2, p3⟩ := hlv p hp'
    have hw : nthB (nthR ms i) p.1 = false := by simpa using (List.mem_filter.1 hp).2
    refine ⟨List.mem_append_left _ p1, p2, stands he hi hal.slot p p1 p2 (fun l hl => hal.obj l fun hlk => ?_) (.inr hw) p3⟩
    have := List.all_eq_true.1 (List.all_eq_true.1 hc p hp) l hl
    rw [memN_iff.2 hlk] at this; cases this
   ·have hj' : j ∈ dn := by
     rcases List.mem_append.1 hj with h | h
     ·exact h
     ·have : j = i := by simpa using h
      subst this
      rw [hpi] at hpj; cases hpj
    obtain ⟨p, hp, e⟩ := hall j hj' hpj fun q hq hpq => hnw q (List.mem_append_left _ hq) hpq
    refine ⟨p, List.mem_filter.2 ⟨hp, ?_⟩, e⟩
    cases hb : nthB (nthR ms i) p.1 with
    | false => rfl
    | true =>
     exfalso
     rw [e] at hb
     exact hnw i (by simp) hpi (hms i j hb)
  rcases non_step hct S1 hv with ⟨hw, hr⟩ | ⟨hw, hr⟩
  ·refine .inl ⟨hw, ?_⟩
   rcases hr with ⟨v, w2, hr, h⟩ | ⟨w2, hr, h⟩ | ⟨f, args, hr, h⟩
   ·exact .inl ⟨v, w2, hr, key _ w2 h⟩
   ·exact .inr (.inl ⟨w2, hr, key _ w2 h⟩)
   ·exact .inr (.inr ⟨f, args, hr, h.mono fun v w2 h => key _ w2 h⟩)
  ·exact .inr ⟨hw, key _ _ hr⟩
 ·rintro dn c w' ⟨he, E', g', s1, lv, l1, l2, S1, hv, _⟩
  exact k c w' ⟨E', g', s1, l1, l2, S1, hv⟩
 ·intro j o hj hl
  rw [rep_false] at hl; cases hl
 ·exact ⟨rfl, E, g, s, [], EnvLe.refl E, Mono.refl g, S.le (Le.drew w), h, fun p hp => (by cases hp), fun i hi => (by cases hi)⟩
 ·intro i hl
  rw [rep_false] at hl; cases hl
 ·simp
  exact Nat.le_trans (List.length_filter_le _ _) (by simp)
theorem vRegion_ok (hct : CtOkW W X.P X.ct) {K : Ov → Prop} {Q : Exit → Act → World → Prop} {id : Nat} {draw : Bool} (S : Sta n W F b E g w s a) (h : vRegion X n ops draw b s K) (k : ∀ a' w', Step n W F b E g K a' w' → Q .normal a' w') : (Code.region id ops draw).wp X.P Q a w := by
 cases draw with
 | true => exact draw_ok hct S h k
 | false =>
  unfold vRegion at h
  exact wp_region_lit (vOps_ok hct S h k)
end
end Go.Lm

namespace Go.Lm
open Go Go.RowKit
section
variable {W : Base} {F : List Atom} {E E' : Env} {g w : World}
theorem env_lt {l : Nat} {v : Value} (h : E[l]? = some v) : l < E.length := (List.getElem?_eq_some_iff.1 h).1
mutual
theorem RelC.lab : ∀ {c : Cl} {u : Value}, RelC E g c u → ∀ l ∈ c.labels, l < E.length
 | .k _, _, _, _, h => by cases h
 | .d _ _, _, _, _, h => by cases h
 | .de _ _ _ _, _, _, _, h => by cases h
 | .unk, _, _, _, h => by cases h
 | .p _ _, _, ⟨_, h1, _⟩, _, h => by rw [List.mem_singleton.1 h]; exact env_lt h1
 | .o _, _, ⟨h1, _⟩, _, h => by rw [List.mem_singleton.1 h]; exact env_lt h1
 | .os _ _ _ _, _, ⟨_, h1, _⟩, _, h => by rw [List.mem_singleton.1 h]; exact env_lt h1
 | .oe _ _ _ _, _, ⟨_, h1, _⟩, _, h => by rw [List.mem_singleton.1 h]; exact env_lt h1
 | .m _, _, ⟨_, h1, _⟩, _, h => by rw [List.mem_singleton.1 h]; exact env_lt h1
 | .sc _ _ _, _, ⟨_, _, h1, _⟩, _, h => by rw [List.mem_singleton.1 h]; exact env_lt h1
 | .kl _ _, _, ⟨⟨_, h1⟩, _⟩, _, h => by rw [List.mem_singleton.1 h]; exact env_lt h1
 | .fn _ _, _, ⟨_, h1, _⟩, l, h => RelCs.lab h1 l h
 | .ifc _ _, _, ⟨_, h1, _⟩, l, h => RelC.lab h1 l h
theorem RelCs.lab : ∀ {cs : List Cl} {us : List Value}, RelCs E g cs us → ∀ l ∈ Cl.labelss cs, l < E.length
 | [], _, _, _, h => by cases h
 | _ :: _, _, ⟨_, _, _, h1, h2⟩, l, h => by
  rcases List.mem_append.1 h with h | h
  ·exact RelC.lab h1 l h
  ·exact RelCs.lab h2 l h
end
mutual
theorem RelC.keep : ∀ {c : Cl} {u : Value}, (∀ l ∈ c.labels, E'[l]? = E[l]?) → RelC E g c u → RelC E' g c u
 | .k _, _, _, h => h
 | .d _ _, _, _, h => h
 | .de _ _ _ _, _, _, h => h
 | .unk, _, _, h => h
 | .p l _, _, k, ⟨b, h1, h2⟩ => ⟨b, by rw [k l (List.mem_singleton.2 rfl)]; exact h1, h2⟩
 | .o l, _, k, ⟨h1, h2⟩ => ⟨by rw [k l (List.mem_singleton.2 rfl)]; exact h1, h2⟩
 | .os l _ _ _, _, k, ⟨v, h1, h2⟩ => ⟨v, by rw [k l (List.mem_singleton.2 rfl)]; exact h1, h2⟩
 | .oe l _ _ _, _, k, ⟨v, h1, h2⟩ => ⟨v, by rw [k l (List.mem_singleton.2 rfl)]; exact h1, h2⟩
 | .m l, _, k, ⟨b, h1, h2⟩ => ⟨b, by rw [k l (List.mem_singleton.2 rfl)]; exact h1, h2⟩
 | .sc l _ _, _, k, ⟨b, c, h1, h2⟩ => ⟨b, c, by rw [k l (List.mem_singleton.2 rfl)]; exact h1, h2⟩
 | .kl l _, _, k, ⟨⟨x, h1⟩, h2⟩ => ⟨⟨x, by rw [k l (List.mem_singleton.2 rfl)]; exact h1⟩, h2⟩
 | .fn _ _, _, k, ⟨us, h1, h2⟩ => ⟨us, RelCs.keep k h1, h2⟩
 | .ifc _ _, _, k, ⟨v, h1, h2⟩ => ⟨v, RelC.keep k h1, h2⟩
theorem RelCs.keep : ∀ {cs : List Cl} {us : List Value}, (∀ l ∈ Cl.labelss cs, E'[l]? = E[l]?) → RelCs E g cs us → RelCs E' g cs us
 | [], _, _, h => h
 | _ :: _, _, k, ⟨u, r, e, h1, h2⟩ => ⟨u, r, e, RelC.keep (fun l hl => k l (List.mem_append_left _ hl)) h1, RelCs.keep (fun l hl => k l (List.mem_append_right _ hl)) h2⟩
end
theorem RelS.lab : ∀ {x : S1} {u : Value}, RelS E g x u → ∀ l ∈ x.labels, l < E.length
 | .c _, _, h, l, hl => RelC.lab h l hl
 | .agg _, _, ⟨_, h, _⟩, l, hl => RelCs.lab h l hl
theorem RelS.keep : ∀ {x : S1} {u : Value}, (∀ l ∈ x.labels, E'[l]? = E[l]?) → RelS E g x u → RelS E' g x u
 | .c _, _, k, h => RelC.keep k h
 | .agg _, _, k, ⟨us, h, e⟩ => ⟨us, RelCs.keep k h, e⟩
theorem RelSs.lab : ∀ {x : List S1} {us : List Value}, RelSs E g x us → ∀ l ∈ x.flatMap S1.labels, l < E.length
 | [], _, _, _, h => by cases h
 | _ :: _, _, ⟨_, _, _, h1, h2⟩, l, h => by
  rw [List.flatMap_cons] at h
  rcases List.mem_append.1 h with h | h
  ·exact h1.lab l h
  ·exact h2.lab l h
theorem RelSs.keep : ∀ {x : List S1} {us : List Value}, (∀ l ∈ x.flatMap S1.labels, E'[l]? = E[l]?) → RelSs E g x us → RelSs E' g x us
 | [], _, _, h => h
 | _ :: _, _, k, ⟨u, r, e, h1, h2⟩ => ⟨u, r, e, h1.keep fun l hl => k l (by rw [List.flatMap_cons]; exact List.mem_append_left _ hl), h2.keep fun l hl => k l (by rw [List.flatMap_cons]; exact List.mem_append_right _ hl)⟩
theorem RelV.lab : ∀ {x : SV} {u : Value}, RelV E g x u → ∀ l ∈ x.labels, l < E.length
 | .v _, _, h, l, hl => RelS.lab h l hl
 | .tup _, _, ⟨_, h, _⟩, l, hl => RelSs.lab h l hl
 | .any, _, _, _, hl => by cases hl
theorem RelV.keep : ∀ {x : SV} {u : Value}, (∀ l ∈ x.labels, E'[l]? = E[l]?) → RelV E g x u → RelV E' g x u
 | .v _, _, k, h => RelS.keep k h
 | .tup _, _, k, ⟨us, h, e⟩ => ⟨us, RelSs.keep k h, e⟩
 | .any, _, _, _ => trivial
theorem atomO.lab {l : Nat} : ∀ {o : HO} {h : Hp}, (atomO E l o).sat g h → ∀ k ∈ o.labels, k < E.length
 | .cells _ _, _, ⟨_, _, _, h2, _⟩, k, hk => RelCs.lab h2 k hk
 | .sl _ _ _, _, _, _, hk => by cases hk
 | .held _ _ _, _, _, _, hk => by cases hk
 | .map .., _, _, _, hk => by cases hk
 | .abs _, _, _, _, hk => by cases hk
 | .ab _, _, _, _, hk => by cases hk
 | .up .., _, _, _, hk => by cases hk
 | .gone, _, _, _, hk => by cases hk
theorem atomO.keep {l l' : Nat} : ∀ {o : HO} {h : Hp}, (∀ k ∈ o.labels, E'[k]? = E[k]?) → E'[l']? = E[l]? → (atomO E l o).sat g h → (atomO E' l' o).sat g h
 | .cells _ _, _, k, kl, ⟨b, us, h1, h2, h3⟩ => ⟨b, us, by rw [kl]; exact h1, RelCs.keep k h2, h3⟩
 | .sl _ _ _, _, _, kl, ⟨v, h1, h2⟩ => ⟨v, by rw [kl]; exact h1, h2⟩
 | .held _ _ _, _, _, kl, ⟨v, h1, h2⟩ => ⟨v, by rw [kl]; exact h1, h2⟩
 | .map .., _, _, kl, ⟨b, m, h1, h2⟩ => ⟨b, m, by rw [kl]; exact h1, h2⟩
 | .abs _, _, _, kl, ⟨v, h1, h2⟩ => ⟨v, by rw [kl]; exact h1, h2⟩
 | .ab _, _, _, kl, ⟨v, h1, h2⟩ => ⟨v, by rw [kl]; exact h1, h2⟩
 | .up .., _, _, kl, ⟨u, P, h1, h2⟩ => ⟨u, P, by rw [kl]; exact h1, h2⟩
 | .gone, _, _, _, h => h
end
section
variable {n : Nat} {W : Base} {F : List Atom} {b : Bs} {E E' : Env} {g g' w w' : World} {s s' : Ov} {a a' : Act}
theorem lookS_filter {p : Nat → Bool} : ∀ {l : Slots} {t : Nat}, lookS (l.filter fun q => p q.1) t = bif p t then lookS l t else none
 | [], t => by cases p t <;> rfl
 | (k, v) :: r, t => by
  rw [List.filter_cons]
  by_cases e : k = t
  ·subst e
   cases hp : p k with
   | true => simp [lookS]
   | false =>
    have := lookS_filter (p := p) (l := r) (t := k)
    rw [hp] at this
    simpa using this
  ·have ih := lookS_filter (p := p) (l := r) (t := t)
   split
   ·simp only [lookS, beq_ne e, cond_false]; exact ih
   ·simp only [lookS, beq_ne e, cond_false]; exact ih
theorem sect_slot {ks : List Nat} (t : Nat) : (sectB ks b s).slot (sectS ks b s) t = b.slot s t := by
 unfold Bs.slot sectB sectS
 simp only
 rw [lookS_filter (p := fun k => memN k ks), lookS_filter (p := fun k => !memN k ks), lookS_app]
 cases memN t ks with
 | true => simp only [cond_true, Bool.not_true, cond_false]; split <;> rename_i h <;> first | exact h.symm | (rw [h])
 | false => simp only [cond_false, Bool.not_false, cond_true]; rfl
theorem sect_obj {ks : List Nat} (h : ∀ l, s.n ≤ l → b.obj s l = .gone) {s2 s3 : Ov} (h3 : s3.h = s2.h ++ s.h) (l : Nat) : (sectB ks b s).obj s2 l = b.obj s3 l := by
 unfold Bs.obj
 rw [h3, lookO_app]
 show (match lookO s2.h l with | some o => o | none => nthH (b.heap s) l) = _
 cases lookO s2.h l with
 | some o => rfl
 | none => exact nthH_heap h l
theorem sect_heap {ks : List Nat} (h : ∀ l, s.n ≤ l → b.obj s l = .gone) {s2 s3 : Ov} (h3 : s3.h = s2.h ++ s.h) (hn : s3.n = s2.n) : (sectB ks b s).heap s2 = b.heap s3 := by
 unfold Bs.heap
 rw [hn]
 exact List.map_congr_left fun l _ => sect_obj h h3 l
theorem Sta.sect (S : Sta n W F b E g w s a) (ks : List Nat) : Sta n W F (sectB ks b s) E g w (sectS ks b s) a := by
 refine ⟨S.size, S.defers, fun t v hv => S.fr t v (by rw [← sect_slot (ks := ks)]; exact hv), ?_, fun l hl => ?_⟩
 ·rw [sect_heap (s2 := sectS ks b s) (s3 := s) S.top rfl rfl]; exact S.sat
 ·rw [sect_obj (s2 := sectS ks b s) (s3 := s) S.top rfl]; exact S.top l hl
theorem lookS_any {ks : List Nat} {t : Nat} : lookS (ks.map fun k => (k, SV.any)) t = bif memN t ks then some .any else none := by
 induction ks with
 | nil => rfl
 | cons k r ih =>
  simp only [List.map_cons, lookS, memN]
  by_cases e : k = t
  ·subst e; simp
  ·have e' : ¬ t = k := fun q => e q.symm
   rw [beq_ne e, beq_ne e', ih]; rfl
theorem Sta.out {ks : List Nat} (top : ∀ l, s.n ≤ l → b.obj s l = .gone) (S : Sta n W F (sectB ks b s) E' g' w' s' a') : Sta n W F b E' g' w' (sectOut ks s s') a' := by
 refine ⟨S.size, S.defers, fun t v hv => ?_, ?_, fun l hl => ?_⟩
 ·have hv : (match lookS (s'.f ++ (ks.map (fun k => (k, SV.any)) ++ s.f)) t with
   | some v => some v
   | none => lookS b.f t) = some v := hv
  rw [lookS_app, lookS_app, lookS_any] at hv
  cases h1 : lookS s'.f t with
  | some u =>
   rw [h1] at hv
   refine S.fr t v ?_
   unfold Bs.slot
   rw [h1]; exact hv
  | none =>
   rw [h1] at hv
   cases hm : memN t ks with
   | true =>
    rw [hm] at hv
    obtain rfl : SV.any = v := Option.some.inj hv
    trivial
   | false =>
    rw [hm] at hv
    refine S.fr t v ?_
    unfold Bs.slot
    rw [h1]
    show lookS ((s.f ++ b.f).filter fun p => !memN p.1 ks) t = some v
    rw [lookS_filter (p := fun k => !memN k ks), hm, lookS_app]
    exact hv
 ·rw [← sect_heap (s2 := s') (s3 := sectOut ks s s') top rfl rfl]; exact S.sat
 ·rw [← sect_obj (s2 := s') (s3 := sectOut ks s s') top rfl]; exact S.top l hl
structure Old (n0 : Nat) (b1 : Bs) : Prop where
 slot : ∀ t v, lookS b1.f t = some v → ∀ l ∈ v.labels, l < n0
 obj : ∀ k, ∀ l ∈ (nthH b1.h k).labels, l < n0
 len : b1.h.length = n0
theorem Sta.old (S : Sta n W F b E g w s a) (ks : List Nat) : Old s.n (sectB ks b s) := by
 refine ⟨fun t v hv l hl => ?_, fun k l hl => ?_, heap_len⟩
 ·rw [← S.len]
  have hv : lookS ((s.f ++ b.f).filter fun p => !memN p.1 ks) t = some v := hv
  rw [lookS_filter (p := fun k => !memN k ks)] at hv
  cases hm : memN t ks with
  | true => rw [hm] at hv; cases hv
  | false =>
   rw [hm, Bool.not_false, cond_true, lookS_app] at hv
   exact (S.fr t v hv).lab l hl
 ·have hl : l ∈ (nthH (b.heap s) k).labels := hl
  rw [nthH_heap S.top] at hl
  rw [← S.len]
  by_cases hk : k < s.n
  ·have hk' : k < E.length := by rw [S.len]; exact hk
   obtain ⟨h, _, _, _, h1, _, _, _, s1, _⟩ := S.pick (List.getElem?_eq_getElem hk')
   exact atomO.lab s1 l hl
  ·rw [S.top k (by omega)] at hl; cases hl
theorem wp_loop_fam {P : Program} {Q : Exit → Act → World → Prop} {c : Code} {ι : Type} (I : ι → Act → World → Prop) (μ : ι → Nat) (i₀ : ι) (h₀ : I i₀ a w)
  (round : ∀ i a w, I i a w → c.wp P (Exit.then (fun a' w' => ∃ i', I i' a' w' ∧ μ i' < μ i) Q) a w) : (Code.loop c).wp P Q a w := by
 have key : ∀ k i a w, μ i = k → I i a w → ∀ (b : Frame) (kk : List Item) (cs : List Frame),
   ∃ e a' w', Q e a' w' ∧ Arrives P (lone (b.at a (.code c :: .inLoop c :: kk)) cs w) b kk cs e a' w' := by
  intro k
  induction k using Nat.strongRecOn with
  | _ k ih =>
   intro i a w hk hi b kk cs
   obtain ⟨e, a₁, w₁, hq, harr⟩ := round i a w hi b (.inLoop c :: kk) cs
   cases e with
   | normal =>
    obtain ⟨i', hI, hlt⟩ := hq
    obtain ⟨e₂, a₂, w₂, hq₂, harr₂⟩ := ih (μ i') (by omega) i' a₁ w₁ rfl hI b kk cs
    exact ⟨e₂, a₂, w₂, hq₂, .of_steps (Steps.trans harr (.one step_inLoop)) harr₂⟩
   | exit id => exact ⟨_, a₁, w₁, hq, .pass (x := .inLoop c) rfl (fun _ _ => .inl (by simp)) harr⟩
   | goto l => exact ⟨_, a₁, w₁, hq, .pass (x := .inLoop c) rfl (fun _ _ => .inl (by simp)) harr⟩
   | ret => exact ⟨_, a₁, w₁, hq, .pass (x := .inLoop c) rfl (fun _ _ => .inl (by simp)) harr⟩
   | panic ch => exact ⟨_, a₁, w₁, hq, .pass (x := .inLoop c) rfl (fun _ _ => .inl (by simp)) harr⟩
   | outgrown => exact ⟨_, a₁, w₁, hq, .pass (x := .inLoop c) rfl (fun _ _ => .inl (by simp)) harr⟩
 intro b kk cs
 obtain ⟨e, a', w', hq, harr⟩ := key _ i₀ a w rfl h₀ b kk cs
 exact ⟨e, a', w', hq, .of_steps (.one step_loop) harr⟩
end
end Go.Lm

namespace Go.Lm
open Go Go.RowKit
section
variable {n n0 : Nat} {W : Base} {F : List Atom} {b : Bs} {E E2 E3 : Env} {g w : World} {s s' : Ov} {a : Act}
def Mov : HO → Prop
 | .sl .. | .ab _ => True
 | _ => False
theorem Mov.sat {E2 E3 : Env} {g : World} {l i : Nat} {v : Value} {hh : Hp} : ∀ {o : HO}, Mov o → E2[l]? = some v → E3[i]? = some v → (atomO E2 l o).sat g hh → (atomO E3 i o).sat g hh
 | .sl .., _, h1, h2, ⟨z, z1, z2⟩ => by
  rw [h1] at z1
  obtain rfl := Option.some.inj z1
  exact ⟨_, h2, z2⟩
 | .ab _, _, h1, h2, ⟨z, z1, z2⟩ => by
  rw [h1] at z1
  obtain rfl := Option.some.inj z1
  exact ⟨_, h2, z2⟩
 | .cells .., h, _, _, _ | .held .., h, _, _, _ | .map .., h, _, _, _ | .abs _, h, _, _, _ | .up .., h, _, _, _ | .gone, h, _, _, _ => h.elim
def NewOk (E2 : Env) (b : Bs) (s' : Ov) (q : Option Nat × Value) (o : HO) : Prop :=
 (∃ l o', q.1 = some l ∧ E2[l]? = some q.2 ∧ b.obj s' l = o' ∧ o = o' ∧ Mov o') ∨ (q.1 = none ∧ q.2 = .slice none 0 0 ∧ ∃ t e, o = .sl t e [])
def AllNew (E2 : Env) (b : Bs) (s' : Ov) : List (Option Nat × Value) → List HO → Prop
 | [], os => os = []
 | q :: qs, os => ∃ o r, os = o :: r ∧ NewOk E2 b s' q o ∧ AllNew E2 b s' qs r
theorem AllNew.app : ∀ {q1 q2 : List (Option Nat × Value)} {o1 o2 : List HO}, AllNew E2 b s' q1 o1 → AllNew E2 b s' q2 o2 → AllNew E2 b s' (q1 ++ q2) (o1 ++ o2)
 | [], _, _, _, h, k => by rw [show _ = [] from h]; exact k
 | _ :: _, _, _, _, ⟨o, r, e, h1, h2⟩, k => by rw [e]; exact ⟨o, _, rfl, h1, h2.app k⟩
theorem AllNew.len : ∀ {q : List (Option Nat × Value)} {o : List HO}, AllNew E2 b s' q o → q.length = o.length
 | [], _, h => by rw [show _ = [] from h]; rfl
 | _ :: _, _, ⟨o, r, e, _, h⟩ => by rw [e, List.length_cons, List.length_cons, h.len]
theorem AllNew.get : ∀ {q : List (Option Nat × Value)} {o : List HO} {i : Nat} {x : Option Nat × Value} {y : HO}, AllNew E2 b s' q o → q[i]? = some x → o[i]? = some y → NewOk E2 b s' x y
 | [], _, _, _, _, _, h, _ => by simp at h
 | _ :: _, _, 0, x, y, ⟨o, r, e, h1, _⟩, h, k => by
  subst e
  obtain rfl : _ = x := by simpa using h
  obtain rfl : o = y := by simpa using k
  exact h1
 | _ :: _, _, i + 1, x, y, ⟨o, r, e, _, h2⟩, h, k => by
  subst e
  exact h2.get (i := i) (by simpa using h) (by simpa using k)
def Kept (n0 : Nat) (E2 E3 : Env) : Prop := ∀ l, l < n0 → E3[l]? = E2[l]?
def At (E3 : Env) (m : Nat) (qs : List (Option Nat × Value)) : Prop := ∀ j q, qs[j]? = some q → E3[m + j]? = some q.2
theorem At.left {m : Nat} {p q : List (Option Nat × Value)} (h : At E3 m (p ++ q)) : At E3 m p := fun j x hx => h j x (by rw [List.getElem?_append_left (List.getElem?_eq_some_iff.1 hx).1]; exact hx)
theorem At.right {m : Nat} {p q : List (Option Nat × Value)} (h : At E3 m (p ++ q)) : At E3 (m + p.length) q := fun j x hx => by
 have := h (p.length + j) x (by rw [List.getElem?_append_right (by omega)]; simpa using hx)
 rw [show m + p.length + j = m + (p.length + j) by omega]; exact this
abbrev srcs (qs : List (Option Nat × Value)) : List Nat := qs.filterMap (·.1)
theorem sh_rd (S : Sta n W F b E2 g w s' a) (hb : b.h.length = n0) : ∀ {h : Sh} {c : Cl} {x : h.den} {u : List Nat} {v0 : Value}, h.rd b s' c = some (x, u) → RelC E2 g c v0 →
  ∃ qs, srcs qs = u ∧ (∀ m, AllNew E2 b s' qs (h.mk x m).2) ∧ ∀ m E3, Kept n0 E2 E3 → At E3 m qs → ∀ v, RelC E2 g c v → RelC E3 g (h.mk x m).1 v := by
 intro h c x u v0 hr r0
 cases h with
 | int k =>
  dsimp only [Sh.rd] at hr
  split at hr
  ·split at hr
   ·rename_i hk
    obtain rfl := IntKind.eq_of_beq hk
    cases hr
    exact ⟨[], rfl, fun m => rfl, fun m E3 _ _ v h => h⟩
   ·cases hr
  ·cases hr
 | bool =>
  dsimp only [Sh.rd] at hr
  split at hr
  ·cases hr
   exact ⟨[], rfl, fun m => rfl, fun m E3 _ _ v h => h⟩
  ·cases hr
 | str =>
  dsimp only [Sh.rd] at hr
  split at hr
  ·cases hr
   exact ⟨[], rfl, fun m => rfl, fun m E3 _ _ v h => h⟩
  ·cases hr
 | d e =>
  dsimp only [Sh.rd] at hr
  split at hr
  ·split at hr
   ·rename_i y hy
    obtain ⟨q, e1⟩ := asD_some hy
    subst q
    cases hr
    subst e1
    exact ⟨[], rfl, fun m => rfl, fun m E3 _ _ v h => h⟩
   ·cases hr
  ·cases hr
   exact ⟨[], rfl, fun m => rfl, fun m E3 _ _ v h => by
    obtain ⟨rfl, _⟩ := h
    exact (@is_list e.den e.rep g _ _).2 (.inl ⟨rfl, rfl⟩)⟩
  ·split at hr
   ·rename_i hob
    split at hr
    ·rename_i y hy
     obtain ⟨q, e1⟩ := asD_some hy
     subst q
     cases hr
     subst e1
     exact ⟨[], rfl, fun m => rfl, fun m E3 _ _ v h => St_held S h.1 hob⟩
    ·cases hr
   ·cases hr
  ·cases hr
 | own t e =>
  dsimp only [Sh.rd] at hr
  split at hr
  ·cases hr
   refine ⟨[(none, .slice none 0 0)], rfl, fun m => ⟨_, [], rfl, .inr ⟨rfl, rfl, t, e, rfl⟩, rfl⟩, fun m E3 _ hat v h => ?_⟩
   obtain ⟨rfl, _⟩ := h
   exact ⟨by have := hat 0 _ rfl; simpa using this, none, 0, 0, rfl⟩
  ·rename_i l
   split at hr
   ·rename_i t' e' xs hob
    split at hr
    ·rename_i ht
     obtain rfl := Nat.eq_of_beq_eq_true ht
     split at hr
     ·rename_i y hy
      obtain ⟨q, e1⟩ := asD_some hy
      subst q
      cases hr
      subst e1
      refine ⟨[(some l, v0)], rfl, fun m => ⟨_, [], rfl, .inl ⟨l, _, rfl, r0.1, hob, rfl, trivial⟩, rfl⟩, fun m E3 _ hat v h => ?_⟩
      have : v = v0 := by
       have h1 := h.1
       rw [r0.1] at h1
       exact (Option.some.inj h1).symm
      subst this
      exact ⟨by have := hat 0 _ rfl; simpa using this, h.2⟩
     ·cases hr
    ·cases hr
   ·cases hr
  ·cases hr
 | p l off =>
  dsimp only [Sh.rd] at hr
  split at hr
  ·split at hr
   ·rename_i hq
    simp only [Bool.and_eq_true] at hq
    obtain ⟨⟨h1, h2⟩, h3⟩ := hq
    obtain rfl := Nat.eq_of_beq_eq_true h1
    obtain rfl := Nat.eq_of_beq_eq_true h2
    cases hr
    refine ⟨[], rfl, fun m => rfl, fun m E3 hk _ v h => h.keep fun l hl => ?_⟩
    rw [List.mem_singleton.1 hl]
    exact hk _ (by rw [← hb]; simpa using h3)
   ·cases hr
  ·cases hr
 | m l =>
  dsimp only [Sh.rd] at hr
  split at hr
  ·split at hr
   ·rename_i hq
    simp only [Bool.and_eq_true] at hq
    obtain ⟨h1, h3⟩ := hq
    obtain rfl := Nat.eq_of_beq_eq_true h1
    cases hr
    refine ⟨[], rfl, fun m => rfl, fun m E3 hk _ v h => h.keep fun l hl => ?_⟩
    rw [List.mem_singleton.1 hl]
    exact hk _ (by rw [← hb]; simpa using h3)
   ·cases hr
  ·cases hr
 | pa t =>
  dsimp only [Sh.rd] at hr
  split at hr
  ·rename_i l
   split at hr
   ·rename_i k hob
    split at hr
    ·rename_i y hy
     cases hr
     have hk := AbT.rd_ok hy
     obtain ⟨bb, hE, hv⟩ := r0
     have hv0 : v0 = ptr bb 0 := hv
     subst hv0
     refine ⟨[(some l, ptr bb 0)], rfl, fun m => ⟨_, [], rfl, .inl ⟨l, _, rfl, hE, hob, by rw [hk], trivial⟩, rfl⟩, fun m E3 _ hat v h => ?_⟩
     obtain ⟨b2, h1, h2⟩ := h
     rw [hE] at h1
     have e : ptr bb 0 = ptr b2 0 := Option.some.inj h1
     refine ⟨b2, ?_, h2⟩
     have := hat 0 _ rfl
     rw [← e]
     simpa using this
    ·cases hr
   ·cases hr
  ·cases hr
 | cst c0 =>
  dsimp only [Sh.rd] at hr
  split at hr
  ·rename_i hq
   simp only [Bool.and_eq_true] at hq
   obtain rfl := Cl.same_ok hq.1
   cases hr
   refine ⟨[], rfl, fun m => rfl, fun m E3 hk _ v h => h.keep fun l hl => ?_⟩
   have := List.all_eq_true.1 hq.2 l hl
   exact hk _ (by rw [← hb]; simpa using this)
  ·cases hr
theorem srcs_app {p q : List (Option Nat × Value)} : srcs (p ++ q) = srcs p ++ srcs q := by simp [srcs]
theorem shs_rd (S : Sta n W F b E2 g w s' a) (hb : b.h.length = n0) : ∀ {l : List Sh} {cs : List Cl} {x : Shs.den l} {u : List Nat} {us0 : List Value}, Shs.rd b s' l cs = some (x, u) → RelCs E2 g cs us0 →
  ∃ qs, srcs qs = u ∧ (∀ m, AllNew E2 b s' qs (Shs.mk l x m).2) ∧ ∀ m E3, Kept n0 E2 E3 → At E3 m qs → ∀ us, RelCs E2 g cs us → RelCs E3 g (Shs.mk l x m).1 us
 | [], [], x, u, us0, hr, r => by
  cases hr
  exact ⟨[], rfl, fun m => rfl, fun m E3 _ _ us h => h⟩
 | h :: l, c :: cs, x, u, us0, hr, ⟨v0, r0, e0, h1, h2⟩ => by
  unfold Shs.rd at hr
  split at hr
  ·rename_i x1 u1 hx
   split at hr
   ·rename_i y u2 hy
    cases hr
    obtain ⟨q1, e1, n1, k1⟩ := sh_rd S hb hx h1
    obtain ⟨q2, e2, n2, k2⟩ := shs_rd S hb hy h2
    refine ⟨q1 ++ q2, by rw [srcs_app, e1, e2], fun m => (n1 m).app (n2 _), fun m E3 hk hat us hus => ?_⟩
    obtain ⟨v, r, rfl, g1, g2⟩ := hus
    refine ⟨v, r, rfl, k1 m E3 hk hat.left v g1, k2 _ E3 hk ?_ r g2⟩
    rw [← (n1 m).len]; exact hat.right
   ·cases hr
  ·cases hr
 | [], _ :: _, _, _, _, hr, _ => by cases hr
 | _ :: _, [], _, _, _, hr, _ => by cases hr
theorem osh_rd (S : Sta n W F b E2 g w s' a) (hb : b.h.length = n0) {h : OSh} {x : h.den} {u : List Nat} {l : Nat} (hl : l < n0) (hs : n0 ≤ s'.n) (hr : h.rd b s' (b.obj s' l) = some (x, u)) :
  ∃ qs, srcs qs = u ∧ (∀ m, AllNew E2 b s' qs (h.mk x m).2) ∧ ∀ m E3, Kept n0 E2 E3 → At E3 m qs → ∀ hh, (atomO E2 l (b.obj s' l)).sat g hh → (atomO E3 l (h.mk x m).1).sat g hh := by
 have hl' : l < E2.length := by rw [S.len]; omega
 obtain ⟨_, _, _, _, hh0, _, _, _, sat0, _⟩ := S.pick (List.getElem?_eq_getElem hl')
 cases h with
 | cells t cs =>
  dsimp only [OSh.rd] at hr
  split at hr
  ·rename_i t' c hob
   rw [hob] at sat0 ⊢
   split at hr
   ·rename_i ht
    obtain rfl := Nat.eq_of_beq_eq_true ht
    obtain ⟨b0, us0, _, r0, _⟩ := sat0
    obtain ⟨qs, e1, n1, k1⟩ := shs_rd S hb hr r0
    exact ⟨qs, e1, n1, fun m E3 hk hat hh ⟨b1, us, h1, h2, h3⟩ => ⟨b1, us, by rw [hk l hl]; exact h1, k1 m E3 hk hat us h2, h3⟩⟩
   ·cases hr
  ·cases hr
 | sl t e =>
  dsimp only [OSh.rd] at hr
  split at hr
  ·rename_i t' e' xs hob
   split at hr
   ·rename_i ht
    obtain rfl := Nat.eq_of_beq_eq_true ht
    split at hr
    ·rename_i y hy
     obtain ⟨q, e1⟩ := asD_some hy
     subst q
     cases hr
     subst e1
     rw [hob]
     exact ⟨[], rfl, fun m => rfl, fun m E3 hk _ hh ⟨v, h1, h2⟩ => ⟨v, by rw [hk l hl]; exact h1, h2⟩⟩
    ·cases hr
   ·cases hr
  ·cases hr
 | map t k e =>
  dsimp only [OSh.rd] at hr
  split at hr
  ·rename_i t' k' e' xs hob
   split at hr
   ·rename_i ht
    obtain rfl := Nat.eq_of_beq_eq_true ht
    split at hr
    ·rename_i y hy
     obtain ⟨p, q, e1⟩ := asM_some hy
     subst p
     subst q
     cases hr
     subst e1
     rw [hob]
     exact ⟨[], rfl, fun m => rfl, fun m E3 hk _ hh ⟨bb, mm, h1, h2⟩ => ⟨bb, mm, by rw [hk l hl]; exact h1, h2⟩⟩
    ·cases hr
   ·cases hr
  ·cases hr
 | ab t =>
  dsimp only [OSh.rd] at hr
  split at hr
  ·rename_i k hob
   split at hr
   ·rename_i y hy
    cases hr
    rw [hob, AbT.rd_ok hy]
    exact ⟨[], rfl, fun m => rfl, fun m E3 hk _ hh ⟨v, h1, h2⟩ => ⟨v, by rw [hk l hl]; exact h1, h2⟩⟩
   ·cases hr
  ·cases hr
 | up T =>
  dsimp only [OSh.rd] at hr
  split at hr
  ·rename_i T' q1 q2 mb nx L hob
   split at hr
   ·rename_i ht
    obtain rfl := UTy.eq_of_beq ht
    cases hr
    rw [hob]
    exact ⟨[], rfl, fun m => rfl, fun m E3 hk _ hh ⟨u, P, h1, h2⟩ => ⟨u, P, by rw [hk l hl]; exact h1, h2⟩⟩
   ·cases hr
  ·cases hr
theorem slots_rd (S : Sta n W F b E2 g w s' a) (hb : b.h.length = n0) : ∀ {l : List (Nat × Sh)} {x : slotsDen l} {u : List Nat}, slotsRd b s' l = some (x, u) →
  ∃ qs, srcs qs = u ∧ (∀ m, AllNew E2 b s' qs (slotsMk l x m).2) ∧ ∀ m E3, Kept n0 E2 E3 → At E3 m qs → ∀ t v, lookS (slotsMk l x m).1 t = some v → RelV E3 g v (a.tmps.getD t undef)
 | [], x, u, hr => by
  cases hr
  exact ⟨[], rfl, fun m => rfl, fun m E3 _ _ t v h => by cases h⟩
 | p :: l, x, u, hr => by
  unfold slotsRd at hr
  split at hr
  ·rename_i c hc
   split at hr
   ·rename_i x1 u1 hx
    split at hr
    ·rename_i y u2 hy
     cases hr
     obtain ⟨q1, e1, n1, k1⟩ := sh_rd S hb hx (S.fr _ _ hc)
     obtain ⟨q2, e2, n2, k2⟩ := slots_rd S hb hy
     refine ⟨q1 ++ q2, by rw [srcs_app, e1, e2], fun m => (n1 m).app (n2 _), fun m E3 hk hat t v hv => ?_⟩
     have hv : (bif Nat.beq p.1 t then some (SV.c (p.2.mk x1 m).1) else lookS (slotsMk l y (m + (p.2.mk x1 m).2.length)).1 t) = some v := hv
     by_cases e : p.1 = t
     ·subst e
      have hbq : Nat.beq p.1 p.1 = true := by simp
      rw [hbq] at hv
      obtain rfl := Option.some.inj hv
      exact k1 m E3 hk hat.left _ (S.fr _ _ hc)
     ·rw [beq_ne e] at hv
      refine k2 _ E3 hk ?_ t v hv
      rw [← (n1 m).len]; exact hat.right
    ·cases hr
   ·cases hr
  ·cases hr
theorem objs_rd (S : Sta n W F b E2 g w s' a) (hb : b.h.length = n0) (hs : n0 ≤ s'.n) : ∀ {l : List (Nat × OSh)} {x : objsDen l} {u : List Nat}, (∀ p ∈ l, p.1 < n0) → objsRd b s' l = some (x, u) →
  ∃ qs, srcs qs = u ∧ (∀ m, AllNew E2 b s' qs (objsMk l x m).2) ∧ (∀ m E3, Kept n0 E2 E3 → At E3 m qs → ∀ k o, lookO (objsMk l x m).1 k = some o → ∀ hh, (atomO E2 k (b.obj s' k)).sat g hh → (atomO E3 k o).sat g hh) ∧ ∀ m k, lookO (objsMk l x m).1 k = none ↔ k ∉ l.map (·.1)
 | [], x, u, _, hr => by
  cases hr
  exact ⟨[], rfl, fun m => rfl, (fun m E3 _ _ t v h => by cases h), fun m k => by simp [objsMk, lookO]⟩
 | p :: l, x, u, hl, hr => by
  unfold objsRd at hr
  split at hr
  ·rename_i x1 u1 hx
   split at hr
   ·rename_i y u2 hy
    cases hr
    obtain ⟨q1, e1, n1, k1⟩ := osh_rd S hb (hl p (by simp)) hs hx
    obtain ⟨q2, e2, n2, k2, k3⟩ := objs_rd S hb hs (fun q hq => hl q (List.mem_cons_of_mem _ hq)) hy
    have look : ∀ m k, lookO (objsMk (p :: l) (x1, y) m).1 k = (bif Nat.beq p.1 k then some (p.2.mk x1 m).1 else lookO (objsMk l y (m + (p.2.mk x1 m).2.length)).1 k) := fun m k => rfl
    refine ⟨q1 ++ q2, by rw [srcs_app, e1, e2], fun m => (n1 m).app (n2 _), fun m E3 hk hat k o ho hh sat => ?_, fun m k => ?_⟩
    ·rw [look] at ho
     by_cases e : p.1 = k
     ·subst e
      have hbq : Nat.beq p.1 p.1 = true := by simp
      rw [hbq] at ho
      obtain rfl := Option.some.inj ho
      exact k1 m E3 hk hat.left hh sat
     ·rw [beq_ne e] at ho
      refine k2 _ E3 hk ?_ k o ho hh sat
      rw [← (n1 m).len]; exact hat.right
    ·rw [look]
     by_cases e : p.1 = k
     ·subst e; simp
     ·have e' : ¬ k = p.1 := fun q => e q.symm
      rw [beq_ne e, cond_false, k3]
      simp [e']
   ·cases hr
  ·cases hr
theorem sats.wider : ∀ {L : List Atom} {k1 k2 : Hp}, Hp.apart k1 k2 → sats g L k2 → sats g L (k1.join k2)
 | [], _, _, _, _ => trivial
 | a :: L, k1, k2, ap, ⟨m1, m2, ap3, e3, s4, s5⟩ => by
  subst e3
  obtain ⟨a1, a2⟩ := Hp.apart_join.1 ap
  refine ⟨m1, k1.join m2, Hp.apart_join.2 ⟨a1.symm, ap3⟩, ?_, s4, sats.wider a2 s5⟩
  rw [← Hp.join_assoc, Hp.join_comm a1, Hp.join_assoc]
theorem sats.shed : ∀ {A B : List Atom} {h : Hp}, sats g (A ++ B) h → sats g B h
 | [], _, _, s => s
 | a :: A, B, h, ⟨h1, h2, ap, e, _, s2⟩ => by rw [e]; exact sats.wider ap (sats.shed s2)
theorem sats.selGen {ob : Nat → HO} {X : List Atom} {sel : List (Option Nat)} : ∀ {H3 : List HO} {k : Nat} {h : Hp}, sel.length = H3.length →
  (∀ i l o, sel[i]? = some (some l) → H3[i]? = some o → ∀ h, (atomO E2 l (ob l)).sat g h → (atomO E3 (k + i) o).sat g h) → (∀ i o, sel[i]? = some none → H3[i]? = some o → (atomO E3 (k + i) o).sat g fun _ => none) →
  sats g (selA E2 ob (sel.filterMap id) ++ X) h → sats g (atomsO E3 k H3 ++ X) h := by
 induction sel with
 | nil =>
  intro H3 k h hl _ _ s
  obtain rfl := List.eq_nil_of_length_eq_zero hl.symm
  exact s
 | cons q sel ih =>
  intro H3 k h hl h1 h2 s
  obtain ⟨o, H4, rfl⟩ : ∃ o H4, H3 = o :: H4 := by
   cases H3 with
   | nil => cases hl
   | cons o H4 => exact ⟨o, H4, rfl⟩
  have h1' : ∀ i l o, sel[i]? = some (some l) → H4[i]? = some o → ∀ h, (atomO E2 l (ob l)).sat g h → (atomO E3 (k + 1 + i) o).sat g h := fun i l o' a1 a2 hh sat => by
   have := h1 (i + 1) l o' (by simpa using a1) (by simpa using a2) hh sat
   rw [show k + 1 + i = k + (i + 1) by omega]; exact this
  have h2' : ∀ i o, sel[i]? = some none → H4[i]? = some o → (atomO E3 (k + 1 + i) o).sat g fun _ => none := fun i o' a1 a2 => by
   have := h2 (i + 1) o' (by simpa using a1) (by simpa using a2)
   rw [show k + 1 + i = k + (i + 1) by omega]; exact this
  cases q with
  | none => exact ⟨fun _ => none, h, fun _ => .inl rfl, by funext b; rfl, h2 0 o rfl rfl, ih (by simpa using hl) h1' h2' s⟩
  | some l =>
   have s : sats g (atomO E2 l (ob l) :: (selA E2 ob (sel.filterMap id) ++ X)) h := s
   obtain ⟨p1, p2, ap, e, s1, s2⟩ := s
   exact ⟨p1, p2, ap, e, h1 0 l o rfl rfl p1 s1, ih (by simpa using hl) h1' h2' s2⟩
end
end Go.Lm

namespace Go.Lm
open Go Go.RowKit
section
variable {n n0 : Nat} {W : Base} {F : List Atom} {b : Bs} {E E2 : Env} {g w : World} {s' : Ov} {a : Act}
theorem zipN_in : ∀ {l : List HO} {k i : Nat} {o : HO}, l[i]? = some o → lookO (zipN k l) (k + i) = some o
 | [], _, _, _, h => by simp at h
 | x :: r, k, 0, o, h => by
  obtain rfl : x = o := by simpa using h
  simp [zipN, lookO]
 | x :: r, k, i + 1, o, h => by
  have := zipN_in (l := r) (k := k + 1) (i := i) (by simpa using h)
  rw [show k + (i + 1) = k + 1 + i by omega]
  simp only [zipN, lookO]
  rw [beq_ne (show ¬ k = k + 1 + i by omega)]
  exact this
theorem zipN_out : ∀ {l : List HO} {k j : Nat}, j < k ∨ k + l.length ≤ j → lookO (zipN k l) j = none
 | [], _, _, _ => rfl
 | x :: r, k, j, h => by
  simp only [zipN, lookO]
  rw [beq_ne (show ¬ k = j by simp at h; omega)]
  exact zipN_out (by simp at h; omega)
theorem lookO_gone : ∀ {us : List Nat} {j : Nat}, lookO (us.map fun l => (l, HO.gone)) j = if j ∈ us then some .gone else none
 | [], _ => by simp [lookO]
 | u :: r, j => by
  simp only [List.map_cons, lookO]
  by_cases e : u = j
  ·subst e; simp
  ·have e' : ¬ j = u := fun q => e q.symm
   rw [beq_ne e, cond_false, lookO_gone]
   simp [e']
theorem mid_ok {an : LAnn} {ks us0 : List Nat} {k : an.den → Prop} (S : Sta n W F b E2 g w s' a) (he : EnvLe E E2) (hl : E.length = n0) (old : Old n0 b) (hb : ∀ t ∈ ks, lookS b.f t = none) (hv : midV an ks n0 us0 b s' k) :
  ∃ i, k i ∧ ∃ E3, EnvLe E E3 ∧ Sta n W F b E3 g w (headS an us0 n0 i) a := by
 unfold midV at hv
 split at hv
 ·rename_i x u y v hx hy
  obtain ⟨hm, hv⟩ := if_ok hv
  unfold midOk at hm
  simp only [Bool.and_eq_true] at hm
  obtain ⟨⟨⟨⟨m1, m2⟩, m3⟩, m4⟩, m5⟩ := hm
  have hEl : E.length ≤ E2.length := by
   rcases Nat.lt_or_ge E2.length E.length with h | h
   ·have := he _ _ (List.getElem?_eq_getElem h)
    rw [List.getElem?_eq_none (Nat.le_refl _)] at this
    cases this
   ·exact h
  have hs : n0 ≤ s'.n := by rw [← S.len, ← hl]; exact hEl
  have hkeys : ∀ j ∈ an.objs.map (·.1), j < n0 ∧ j ∉ us0 := fun j hj => by
   have := List.all_eq_true.1 m3 j hj
   simp only [Bool.and_eq_true, Bool.not_eq_true'] at this
   refine ⟨by simpa using this.1, fun h => ?_⟩
   rw [memN_iff.2 h] at this; cases this.2
  obtain ⟨q1, e1, n1, k1⟩ := slots_rd S old.len hx
  obtain ⟨q2, e2, n2, k2, k3⟩ := objs_rd S old.len hs (fun p hp => (hkeys p.1 (List.mem_map_of_mem hp)).1) hy
  refine ⟨(x, y), hv, ?_⟩
  generalize hqs : q1 ++ q2 = qs
  let E3 : Env := E ++ qs.map (·.2)
  have kept : Kept n0 E2 E3 := fun l h => by
   have h1 : l < E.length := by omega
   show (E ++ qs.map (·.2))[l]? = _
   rw [List.getElem?_append_left h1, List.getElem?_eq_getElem h1]
   exact (he _ _ (List.getElem?_eq_getElem h1)).symm
  have hat : At E3 n0 qs := fun j q hq => by
   show (E ++ qs.map (·.2))[n0 + j]? = _
   rw [List.getElem?_append_right (by omega), List.getElem?_map, show n0 + j - E.length = j by omega, hq]; rfl
  have hnew : AllNew E2 b s' qs (newsOf an n0 (x, y)) := by
   rw [← hqs]
   exact (n1 n0).app (n2 _)
  have hat1 : At E3 n0 q1 := by rw [← hqs] at hat; exact hat.left
  have hat2 : At E3 (n0 + (slotsMk an.slots x n0).2.length) q2 := by
   rw [← hqs] at hat
   rw [← (n1 n0).len]; exact hat.right
  have hob : ∀ j, b.obj (headS an us0 n0 (x, y)) j = match lookO (zipN n0 (newsOf an n0 (x, y))) j with
    | some o => o
    | none => match lookO (objsMk an.objs y (n0 + (slotsMk an.slots x n0).2.length)).1 j with
     | some o => o
     | none => if j ∈ us0 then .gone else nthH b.h j := fun j => by
   unfold Bs.obj headS
   simp only
   rw [lookO_app, lookO_app, lookO_gone]
   cases lookO (zipN n0 (newsOf an n0 (x, y))) j with
   | some o => rfl
   | none =>
    cases lookO (objsMk an.objs y (n0 + (slotsMk an.slots x n0).2.length)).1 j with
    | some o => rfl
    | none => by_cases h : j ∈ us0 <;> simp [h]
  have hold : ∀ j, j < n0 → j ∉ us0 → j ∉ an.objs.map (·.1) → b.obj s' j = nthH b.h j := fun j h1 h2 h3 => by
   unfold Bs.obj
   rw [lookO_none]
   intro hj
   obtain ⟨p, hp, e⟩ := List.mem_map.1 hj
   have := List.all_eq_true.1 m5 p hp
   simp only [Bool.or_eq_true] at this
   rw [e] at this
   rcases this with (h | h) | h
   ·have : n0 ≤ j := by simpa using h
    omega
   ·exact h3 (memN_iff.1 h)
   ·exact h2 (memN_iff.1 h)
  refine ⟨E3, EnvLe.app E _, S.size, S.defers, fun t sv ht => ?_, ⟨?_, ?_⟩, fun l hl' => ?_⟩
  ·-- the frame
   unfold Bs.slot headS at ht
   simp only at ht
   cases h1 : lookS (slotsMk an.slots x n0).1 t with
   | some u' =>
    rw [h1] at ht
    obtain rfl := Option.some.inj ht
    exact k1 n0 E3 kept hat1 t _ h1
   | none =>
    rw [h1] at ht
    have ht : lookS b.f t = some sv := ht
    have htk : t ∉ ks := fun h => by rw [hb t h] at ht; cases ht
    have hsl : b.slot s' t = some sv := by
     unfold Bs.slot
     have : lookS s'.f t = none := by
      cases h2 : lookS s'.f t with
      | none => rfl
      | some z =>
       exfalso
       have key : ∀ {L : Slots}, lookS L t = some z → ∃ p ∈ L, p.1 = t := by
        intro L
        induction L with
        | nil => intro h; cases h
        | cons q L ih =>
         intro h
         by_cases e : q.1 = t
         ·exact ⟨q, by simp, e⟩
         ·obtain ⟨q0, q3⟩ := q
          simp only [lookS] at h
          rw [beq_ne e] at h
          obtain ⟨p, hp, e⟩ := ih h
          exact ⟨p, List.mem_cons_of_mem _ hp, e⟩
       obtain ⟨p, hp, e⟩ := key h2
       have := List.all_eq_true.1 m4 p hp
       rw [e] at this
       exact htk (memN_iff.1 this)
     rw [this]; exact ht
    exact (S.fr t sv hsl).keep fun l hlm => kept l (old.slot t sv ht l hlm)
  ·-- what is owned
   refine S.sat.sl.weak fun h sat => ?_
   let sel : List (Option Nat) := (List.range n0).map (fun l => if l ∈ us0 then none else some l) ++ qs.map (·.1)
   have hsel : sel.filterMap id = ((List.range n0).filter fun l => decide (l ∉ us0)) ++ srcs qs := by
    show List.filterMap id (_ ++ _) = _
    rw [List.filterMap_append, List.filterMap_map, List.filterMap_map]
    congr 1
    have key : ∀ L : List Nat, L.filterMap (id ∘ fun l => if l ∈ us0 then none else some l) = L.filter fun l => decide (l ∉ us0) := by
     intro L
     induction L with
     | nil => rfl
     | cons l L ih =>
      rw [List.filterMap_cons, List.filter_cons, ih]
      by_cases hm : l ∈ us0 <;> simp [hm]
    exact key _
   have hsrc : srcs qs = u ++ v := by rw [← hqs, srcs_app, e1, e2]
   have hnd := nodupN_iff.1 m1
   rw [List.nodup_append] at hnd
   have hin : ∀ l ∈ srcs qs, l < s'.n := fun l hl => by
    obtain ⟨q, hq, e⟩ := List.mem_filterMap.1 hl
    obtain ⟨j, hj⟩ := List.getElem?_of_mem hq
    have hlen := hnew.len
    have hj' : j < (newsOf an n0 (x, y)).length := by rw [← hlen]; exact (List.getElem?_eq_some_iff.1 hj).1
    rcases hnew.get hj (List.getElem?_eq_getElem hj') with ⟨l', o', p1, p2, _⟩ | ⟨p1, _⟩
    ·rw [e] at p1
     obtain rfl := Option.some.inj p1
     exact S.lt p2
    ·rw [e] at p1; cases p1
   have hls : (sel.filterMap id).Nodup := by
    rw [hsel, List.nodup_append]
    refine ⟨List.nodup_range.filter _, by rw [hsrc]; exact hnd.1, fun p hp q hq e => ?_⟩
    subst e
    obtain ⟨hp1, hp2⟩ := List.mem_filter.1 hp
    rw [hsrc] at hq
    have := List.all_eq_true.1 m2 p hq
    simp only [Bool.or_eq_true] at this
    rcases this with h | h
    ·have h1 : n0 ≤ p := by simpa using h
     have h2 := List.mem_range.1 hp1
     omega
    ·have h1 := memN_iff.1 h
     simp [h1] at hp2
   have s1 := sats.takeAll (ob := b.obj s') hls (fun l hlm => by
    rw [hsel] at hlm
    rcases List.mem_append.1 hlm with h | h
    ·have := List.mem_range.1 (List.mem_filter.1 h).1
     exact heap_get (by omega)
    ·exact heap_get (hin l h)) sat
   have s2 := sats.shed s1
   refine sats.selGen (E2 := E2) (E3 := E3) (sel := sel) (ob := b.obj s') (k := 0) ?_ (fun i l o hi ho hh hsat => ?_) (fun i o hi ho => ?_) s2
   ·show ((List.range n0).map _ ++ qs.map fun q : Option Nat × Value => q.1).length = _
    rw [heap_len]
    show _ = n0 + (newsOf an n0 (x, y)).length
    rw [List.length_append, List.length_map, List.length_map, List.length_range, hnew.len]
   ·rw [Nat.zero_add]
    have hin' : i < (headS an us0 n0 (x, y)).n := by
     have := (List.getElem?_eq_some_iff.1 ho).1
     rw [heap_len] at this; exact this
    rw [heap_get hin'] at ho
    obtain rfl := Option.some.inj ho
    by_cases hi0 : i < n0
    ·have hi2 : ((List.range n0).map (fun l => if l ∈ us0 then none else some l))[i]? = some (some l) := by
      rw [List.getElem?_append_left (by simpa using hi0)] at hi
      exact hi
     rw [List.getElem?_map, List.getElem?_range hi0] at hi2
     by_cases hu : i ∈ us0
     ·simp [hu] at hi2
     ·simp [hu] at hi2
      subst hi2
      rw [hob, zipN_out (.inl hi0)]
      simp only
      cases ho2 : lookO (objsMk an.objs y (n0 + (slotsMk an.slots x n0).2.length)).1 i with
      | some o => exact k2 _ E3 kept hat2 i o ho2 hh hsat
      | none =>
       have hnk := (k3 _ i).1 ho2
       simp only [hu, if_false]
       rw [hold i hi0 hu hnk] at hsat
       exact atomO.keep (fun j hj => kept j (old.obj i j hj)) (kept i hi0) hsat
    ·have hi3 : (qs.map fun q : Option Nat × Value => q.1)[i - n0]? = some (some l) := by
      rw [List.getElem?_append_right (by simp; omega)] at hi
      simpa using hi
     rw [List.getElem?_map] at hi3
     cases hq : qs[i - n0]? with
     | none => rw [hq] at hi3; cases hi3
     | some q =>
      rw [hq] at hi3
      have hq1 : q.1 = some l := by simpa using hi3
      have hj' : i - n0 < (newsOf an n0 (x, y)).length := by rw [← hnew.len]; exact (List.getElem?_eq_some_iff.1 hq).1
      have hno := hnew.get hq (List.getElem?_eq_getElem hj')
      rw [hob]
      have hz := zipN_in (k := n0) (List.getElem?_eq_getElem hj')
      rw [show n0 + (i - n0) = i by omega] at hz
      rw [hz]
      simp only
      rcases hno with ⟨l', o', p1, p2, p3, p4, pm⟩ | ⟨p1, _⟩
      ·rw [hq1] at p1
       obtain rfl := Option.some.inj p1
       rw [p3] at hsat
       rw [p4]
       have := hat _ q hq
       rw [show n0 + (i - n0) = i by omega] at this
       exact pm.sat p2 this hsat
      ·rw [hq1] at p1; cases p1
   ·rw [Nat.zero_add]
    have hin' : i < (headS an us0 n0 (x, y)).n := by
     have := (List.getElem?_eq_some_iff.1 ho).1
     rw [heap_len] at this; exact this
    rw [heap_get hin'] at ho
    obtain rfl := Option.some.inj ho
    by_cases hi0 : i < n0
    ·have hi2 : ((List.range n0).map (fun l => if l ∈ us0 then none else some l))[i]? = some none := by
      rw [List.getElem?_append_left (by simpa using hi0)] at hi
      exact hi
     rw [List.getElem?_map, List.getElem?_range hi0] at hi2
     by_cases hu : i ∈ us0
     ·rw [hob, zipN_out (.inl hi0)]
      simp only
      rw [(k3 _ i).2 fun h => (hkeys i h).2 hu]
      simp only [hu, if_true]
      trivial
     ·simp [hu] at hi2
    ·have hi3 : (qs.map fun q : Option Nat × Value => q.1)[i - n0]? = some none := by
      rw [List.getElem?_append_right (by simp; omega)] at hi
      simpa using hi
     rw [List.getElem?_map] at hi3
     cases hq : qs[i - n0]? with
     | none => rw [hq] at hi3; cases hi3
     | some q =>
      rw [hq] at hi3
      have hq1 : q.1 = none := by simpa using hi3
      have hj' : i - n0 < (newsOf an n0 (x, y)).length := by rw [← hnew.len]; exact (List.getElem?_eq_some_iff.1 hq).1
      have hno := hnew.get hq (List.getElem?_eq_getElem hj')
      rw [hob]
      have hz := zipN_in (k := n0) (List.getElem?_eq_getElem hj')
      rw [show n0 + (i - n0) = i by omega] at hz
      rw [hz]
      simp only
      rcases hno with ⟨l', o', p1, _⟩ | ⟨_, p2, t, e', p4⟩
      ·rw [hq1] at p1; cases p1
      ·rw [p4]
       have := hat _ q hq
       rw [show n0 + (i - n0) = i by omega, p2] at this
       exact ⟨_, this, [], trivial, by simp, .inl ⟨rfl, rfl⟩⟩
  ·rw [heap_len]
   show (E ++ qs.map (·.2)).length = n0 + (newsOf an n0 (x, y)).length
   rw [List.length_append, List.length_map, hl, hnew.len]
  ·rw [hob]
   have hl' : n0 + (newsOf an n0 (x, y)).length ≤ l := hl'
   rw [zipN_out (.inr hl')]
   simp only
   rw [(k3 _ l).2 fun h => by have := (hkeys l h).1; omega]
   simp only
   split
   ·rfl
   ·exact nthH_none (by rw [old.len]; omega)
 ·exact hv.elim
end
end Go.Lm

namespace Go.Lm
open Go Go.RowKit
def Ex.out : Ex → Exit
 | .normal => .normal
 | .exit i => .exit i
 | .ret => .ret
def CodeR (n : Nat) (W : Base) (F : List Atom) (b : Bs) (E : Env) (g : World) (Q : Ex → Ov → Prop) (e : Exit) (a' : Act) (w' : World) : Prop := ∃ E' g' s' ex, EnvLe E E' ∧ Mono g g' ∧ Sta n W F b E' g' w' s' a' ∧ e = ex.out ∧ Q ex s'
section
variable {X : Vx} {n : Nat} {an : FAnn} {W : Base} {F : List Atom}
theorem Ov.force_eq {s : Ov} {K : Ov → Prop} (h : s.force K) : K s := by
 have := forceL_eq _ (forceL_eq _ h)
 exact this
theorem Bs.force_eq {b : Bs} {K : Bs → Prop} (h : b.force K) : K b := by
 have := forceL_eq _ (forceL_eq _ h)
 exact this
theorem sectB_none {ks : List Nat} {b : Bs} {s : Ov} {t : Nat} (h : t ∈ ks) : lookS (sectB ks b s).f t = none := by
 show lookS ((s.f ++ b.f).filter fun p => !memN p.1 ks) t = none
 rw [lookS_filter (p := fun k => !memN k ks), memN_iff.2 h]
 rfl
theorem vCode_ok (hct : CtOkW W X.P X.ct) : ∀ (c : Code) {b : Bs} {s : Ov} {E : Env} {g w : World} {a : Act} {Q : Ex → Ov → Prop}, Sta n W F b E g w s a → vCode X n an c b s Q → c.wp X.P (CodeR n W F b E g Q) a w := by
 intro c
 induction c with
 | skip =>
  intro b s E g w a Q S h
  exact wp_skip ⟨E, g, s, .normal, EnvLe.refl E, Mono.refl g, S, rfl, h⟩
 | region id ops draw =>
  intro b s E g w a Q S h
  exact vRegion_ok hct S (Ov.force_eq h) fun a' w' ⟨E', g', s', l1, l2, S', k⟩ => ⟨E', g', s', .normal, l1, l2, S', rfl, k⟩
 | seq x y ihx ihy =>
  intro b s E g w a Q S h
  unfold vCode at h
  split at h
  ·refine wp_seq (wp_mono (ihx S h) ?_)
   rintro e a1 w1 ⟨E1, g1, s1, ex, l1, l2, S1, rfl, hq⟩
   cases ex with
   | normal => exact wp_mono (ihy S1 hq) fun e a2 w2 ⟨E2, g2, s2, ex, m1, m2, S2, he, hq⟩ => ⟨E2, g2, s2, ex, l1.trans m1, l2.trans m2, S2, he, hq⟩
   | exit i => exact ⟨E1, g1, s1, .exit i, l1, l2, S1, rfl, hq⟩
   | ret => exact ⟨E1, g1, s1, .ret, l1, l2, S1, rfl, hq⟩
  ·rename_i la _
   have h := forceL_eq _ (Ov.force_eq h)
   generalize hks : writesC x ++ la.slots.map (·.1) = ks at h
   have h := Bs.force_eq h
   obtain ⟨J, hA, hB⟩ := h
   refine wp_seq (wp_mono (ihx (S.sect ks) hA) ?_)
   rintro e a1 w1 ⟨E1, g1, s1, ex, l1, l2, S1, rfl, hq⟩
   cases ex with
   | normal =>
    obtain ⟨i, hi, E3, l3, S3⟩ := mid_ok S1 l1 S.len (S.old ks) (fun t ht => sectB_none ht) hq
    refine wp_mono (ihy S3 (hB i hi)) ?_
    rintro e a2 w2 ⟨E2, g2, s2, ex, m1, m2, S2, he, hq⟩
    exact ⟨E2, g2, _, ex, l3.trans m1, l2.trans m2, S2.out S.top, he, hq⟩
   | exit i => exact ⟨E1, g1, _, .exit i, l1, l2, S1.out S.top, rfl, hq⟩
   | ret => exact ⟨E1, g1, _, .ret, l1, l2, S1.out S.top, rfl, hq⟩
 | cond c x y ihx ihy =>
  intro b s E g w a Q S h
  unfold vCode at h
  split at h
  ·rename_i v hv
   obtain ⟨hc, _⟩ := S.opd hv
   have told : ∀ q, a.eval c = .bool q → Sta n W F b E g w (s.told c q) a := fun q hq => by
    cases c with
    | tmp t => exact S.told (d := t) (by rw [show a.tmps.getD t undef = .bool q from hq]; exact relV_bool q)
    | const _ => exact S
    | global _ => exact S
    | func _ => exact S
   rcases br_cases h with ⟨e, h⟩ | ⟨e, h⟩ <;> subst e
   ·exact wp_cond_true hc (ihx (told _ hc) h)
   ·exact wp_cond_false hc (ihy (told _ hc) h)
  ·exact h.elim
 | block id c ih =>
  intro b s E g w a Q S h
  unfold vCode at h
  refine wp_block (wp_mono (ih S h) ?_)
  rintro e a1 w1 ⟨E1, g1, s1, ex, l1, l2, S1, rfl, hq⟩
  cases ex with
  | normal => exact ⟨E1, g1, s1, .normal, l1, l2, S1, rfl, hq⟩
  | exit i =>
   show (if i = id then _ else _)
   simp only at hq
   split
   ·rename_i e
    subst e
    rw [if_pos (by simp)] at hq
    exact ⟨E1, g1, s1, .normal, l1, l2, S1, rfl, hq⟩
   ·rename_i e
    rw [if_neg (by simpa using e)] at hq
    exact ⟨E1, g1, s1, .exit i, l1, l2, S1, rfl, hq⟩
  | ret => exact ⟨E1, g1, s1, .ret, l1, l2, S1, rfl, hq⟩
 | loop c ih =>
  intro b s E g w a Q S h
  unfold vCode at h
  split at h
  ·rename_i k0 _
   refine wp_loop_fam (fun k a' w' => ∃ s' E' g', EnvLe E E' ∧ Mono g g' ∧ Sta n W F b E' g' w' s' a' ∧ unrV (fun s q => vCode X n an c b s q) Q k s') (fun k => k) k0 ⟨s, E, g, EnvLe.refl E, Mono.refl g, S, h⟩ ?_
   rintro k a1 w1 ⟨s1, E1, g1, l1, l2, S1, hu⟩
   cases k with
   | zero => exact hu.elim
   | succ k =>
    refine wp_mono (ih S1 (Ov.force_eq hu)) ?_
    rintro e a2 w2 ⟨E2, g2, s2, ex, m1, m2, S2, rfl, hq⟩
    cases ex with
    | normal => exact ⟨k, ⟨s2, E2, g2, l1.trans m1, l2.trans m2, S2, hq⟩, Nat.lt_succ_self k⟩
    | exit i => exact ⟨E2, g2, s2, .exit i, l1.trans m1, l2.trans m2, S2, rfl, hq⟩
    | ret => exact ⟨E2, g2, s2, .ret, l1.trans m1, l2.trans m2, S2, rfl, hq⟩
  ·exact h.elim
  ·rename_i la _ _
   have h := forceL_eq _ (Ov.force_eq h)
   generalize hks : writesC c ++ la.slots.map (·.1) = ks at h
   have h := Bs.force_eq h
   obtain ⟨i0, h0, E0, l0, S0⟩ := mid_ok (S.sect ks) (EnvLe.refl E) S.len (S.old ks) (fun t ht => sectB_none ht) h
   obtain ⟨I, μ, hI0, hI⟩ := h0
   refine wp_loop_fam (fun i a' w' => I i ∧ ∃ E' g', EnvLe E E' ∧ Mono g g' ∧ Sta n W F (sectB ks b s) E' g' w' (headS la (ownsIn la b s) s.n i) a') μ i0 ⟨hI0, E0, g, l0, Mono.refl g, S0⟩ ?_
   rintro i a1 w1 ⟨hi, E1, g1, l1, l2, S1⟩
   refine wp_mono (ih S1 (hI i hi)) ?_
   rintro e a2 w2 ⟨E2, g2, s2, ex, m1, m2, S2, rfl, hq⟩
   cases ex with
   | normal =>
    obtain ⟨i', ⟨h1, h2⟩, E3, l3, S3⟩ := mid_ok S2 (l1.trans m1) S.len (S.old ks) (fun t ht => sectB_none ht) hq
    exact ⟨i', ⟨h1, E3, g2, l3, l2.trans m2, S3⟩, h2⟩
   | exit i => exact ⟨E2, g2, _, .exit i, l1.trans m1, l2.trans m2, S2.out S.top, rfl, hq⟩
   | ret => exact ⟨E2, g2, _, .ret, l1.trans m1, l2.trans m2, S2.out S.top, rfl, hq⟩
 | exit id =>
  intro b s E g w a Q S h
  exact wp_exit ⟨E, g, s, .exit id, EnvLe.refl E, Mono.refl g, S, rfl, h⟩
 | ret =>
  intro b s E g w a Q S h
  exact wp_ret ⟨E, g, s, .ret, EnvLe.refl E, Mono.refl g, S, rfl, h⟩
 | rangeFunc f ps x y ih1 ih2 => intro b s E g w a Q S h; exact h.elim
 | scope c ih => intro b s E g w a Q S h; exact h.elim
 | label l => intro b s E g w a Q S h; exact h.elim
 | goto l => intro b s E g w a Q S h; exact h.elim
 | refuse l => intro b s E g w a Q S h; exact h.elim
end
end Go.Lm

namespace Go.Lm
open Go Go.RowKit
section
variable {P : Program} {X : Vx} {n : Nat} {W : Base} {F : List Atom} {b : Bs} {E : Env} {g w : World} {s : Ov} {a : Act}
theorem loadVar_of {t : TypeId} {bb : Nat} {off : Nat} {u : Value} (h : (Instr.loadAt t (ptr bb off)).run P w = .ok u w) : ∃ q, ptr bb off = .pointer (some q) ∧ (loadVar t q).run P w = .ok u w := by
 refine ⟨_, rfl, ?_⟩
 simpa [Instr.loadAt, Instr.sureAddr, ptr] using h
def resF (tmps : Array Value) : ResultVar → Sem Value
 | .tmp t => pure (tmps.getD t undef)
 | .cell a t => do loadVar t (← asAddr (tmps.getD a undef))
theorem resultsV_ok (S : Sta n W F b E g w s a) : ∀ {rs : List ResultVar} {l : List S1}, resultsV P b s rs = some l →
  ∃ us, RelSs E g l us ∧ (rs.mapM (resF a.tmps)).run P w = .ok us w
 | [], l, h => by
  obtain rfl : [] = l := Option.some.inj h
  exact ⟨[], rfl, by simp⟩
 | .tmp t :: r, l, h => by
  unfold resultsV at h
  split at h
  ·rename_i v hv
   split at h
   ·rename_i q hq
    obtain rfl : v :: q = l := Option.some.inj h
    obtain ⟨us, h1, h2⟩ := resultsV_ok S hq
    refine ⟨_ :: us, ⟨_, us, rfl, S.fr t _ hv, h1⟩, ?_⟩
    rw [List.mapM_cons]
    simp [resF, Sem.run_bind, h2]
   ·cases h
  ·cases h
 | .cell t ty :: r, l, h => by
  unfold resultsV at h
  split at h
  ·rename_i lb off hv
   split at h
   ·rename_i ht cs hob
    split at h
    ·rename_i v hp
     split at h
     ·rename_i q hq
      obtain rfl : v :: q = l := Option.some.inj h
      obtain ⟨us, h1, h2⟩ := resultsV_ok S hq
      obtain ⟨bb, hE, hx⟩ := S.fr t _ hv
      obtain ⟨cs', k1, k2, _⟩ := St_cells S hE hob
      obtain ⟨u, h3, h4⟩ := load_blk k2 k1 hp
      obtain ⟨qa, h5, h6⟩ := loadVar_of h3
      refine ⟨u :: us, ⟨u, us, rfl, h4, h1⟩, ?_⟩
      rw [List.mapM_cons]
      simp [resF, Sem.run_bind, h2, hx, h5, asAddr, h6]
     ·cases h
    ·cases h
   ·cases h
  ·cases h
theorem pack_ok {l : List S1} {us : List Value} (h : RelSs E g l us) : RelV E g (pack l) (if h : us.toArray.size = 1 then us.toArray[0] else .tuple us.toArray) := by
 unfold pack
 split
 ·obtain ⟨u, r, rfl, h1, h2⟩ := h
  obtain rfl : r = [] := h2
  exact h1
 ·rename_i h0
  have : ¬ us.toArray.size = 1 := fun e => by
   have hl := h.length
   simp at e
   rw [e] at hl
   match l, hl, h0 with
   | [v], _, h0 => exact h0 v rfl
  rw [dif_neg this]
  exact ⟨us, h, rfl⟩
theorem results_ok (S : Sta n W F b E g w s a) {fn : Func} {l : List S1} (h : resultsV P b s fn.results.toList = some l) : ∃ v, (results fn a.tmps).run P w = .ok v w ∧ RelV E g (pack l) v := by
 obtain ⟨us, h1, h2⟩ := resultsV_ok S h
 refine ⟨_, ?_, pack_ok h1⟩
 have e : results fn a.tmps = (do
   let vs ← fn.results.mapM (resF a.tmps)
   pure (if h : vs.size = 1 then vs[0] else .tuple vs)) := by
  unfold results
  congr 1
 rw [e, Array.mapM_eq_mapM_toList]
 simp [Sem.run_bind, h2]
theorem vEnd_ok {E0 : Env} {g0 : World} {fn : Func} {Q : SV → List HO → Prop} (S : Sta n W F b E g w s a) (he : EnvLe E0 E) (m : Mono g0 g) (h : vEnd P fn E0.length b s Q) :
  ∃ v, (results fn a.tmps).run P w = .ok v w ∧ ∃ E' g' sv H', EnvLe E0 E' ∧ Mono g0 g' ∧ Sat W E' g' w H' F ∧ RelV E' g' sv v ∧ Q sv H' := by
 unfold vEnd at h
 split at h
 ·exact h.elim
 ·rename_i l hl
  have h := forceL_eq _ h
  generalize hrl : (reachL (b.obj s) 1000 ((pack l).labels ++ (List.range E0.length).flatMap fun i => (b.obj s i).labels) []).filter (fun l => Nat.ble E0.length l) = rl at h
  generalize hls : List.range E0.length ++ rl = ls at h
  obtain ⟨hc, h⟩ := if_ok h
  rw [Bool.and_eq_true, nodupN_iff] at hc
  obtain ⟨hn, hlt⟩ := hc
  have hlt' : ∀ l ∈ ls, l < s.n := fun l hl => by have := List.all_eq_true.1 hlt l hl; simpa using this
  obtain ⟨v, hr, hv⟩ := results_ok S hl
  have hr1 : RenOk (idxN ls) E (ls.map fun l => (E[l]?).getD undef) := fun l l' v h1 h2 => by
   have := idxN_get h1
   rw [List.getElem?_map, this]
   simp [h2]
  have hsat : Sat W (ls.map fun l => (E[l]?).getD undef) g w (ls.map fun l => (b.obj s l).ren (idxN ls)) F := by
   refine ⟨S.sat.sl.weak fun h0 x => ?_, by simp⟩
   have x1 := sats.takeAll (ob := b.obj s) hn (fun l hl => heap_get (hlt' l hl)) x
   have x2 := sats.shed x1
   exact sats.selRen hr1 (k := 0) (fun i l hi => by rw [Nat.zero_add]; exact idxN_mem hn hi) x2
  refine ⟨v, hr, _, g, _, _, fun k u hk => ?_, m, hsat, hv.ren hr1, h⟩
  have hk0 : k < E0.length := env_lt hk
  have : ls[k]? = some k := by
   rw [← hls, List.getElem?_append_left (by simpa using hk0)]
   simp [hk0]
  rw [List.getElem?_map, this]
  simp [he k u hk]
theorem startF_get : ∀ {args : List SV} {k t : Nat} {v : SV}, lookS (startF k args) t = some v → k ≤ t ∧ args[t - k]? = some v
 | [], _, _, _, h => by cases h
 | x :: r, k, t, v, h => by
  simp only [startF, lookS] at h
  by_cases e : k = t
  ·subst e
   have hb : Nat.beq k k = true := by simp
   rw [hb] at h
   obtain rfl := Option.some.inj h
   exact ⟨Nat.le_refl _, by simp⟩
  ·rw [beq_ne e] at h
   obtain ⟨h1, h2⟩ := startF_get h
   refine ⟨by omega, ?_⟩
   rw [show t - k = (t - (k + 1)) + 1 by omega]
   simpa using h2
theorem relVs_len : ∀ {l : List SV} {us : List Value}, RelVs E g l us → us.length = l.length
 | [], _, h => by rw [show _ = [] from h]; rfl
 | _ :: _, _, ⟨_, _, e, _, h⟩ => by rw [e, List.length_cons, List.length_cons, relVs_len h]
theorem relVs_get : ∀ {l : List SV} {us : List Value} {i : Nat} {c : SV}, RelVs E g l us → l[i]? = some c → ∃ u, us[i]? = some u ∧ RelV E g c u
 | [], _, _, _, _, h => by simp at h
 | x :: l, _, 0, c, ⟨u, r, e, h1, _⟩, h => by
  obtain rfl : x = c := by simpa using h
  exact ⟨u, by rw [e]; rfl, h1⟩
 | x :: l, _, i + 1, c, ⟨u, r, e, _, h2⟩, h => by
  obtain ⟨v, h3, h4⟩ := relVs_get (i := i) h2 (by simpa using h)
  exact ⟨v, by rw [e]; simpa using h3, h4⟩
theorem Wp.of_pureI {I : Base → Prop} {f : FuncId} {args : List SV} {H : List HO} {Q : SV → List HO → Prop} {sv : SV} (h : ∀ (W : Base) (E : Env) (g w : World) (vs : List Value), I W → Below W.n W.w w → Mono g w → RelVs E g args vs → Ret P f vs.toArray w fun v w' => RelV E g sv v ∧ Le w w') (hq : Q sv H) : Wp I P f args H Q := by
 intro W hW g w E F vs hs hv
 exact (h W E g w vs hW hs.sl.below hs.m hv).mono fun v w' ⟨r, l⟩ => ⟨E, g, sv, H, EnvLe.refl E, Mono.refl g, hs.le l, r, hq⟩
theorem Wp.of_pure {I : Base → Prop} {f : FuncId} {args : List SV} {H : List HO} {Q : SV → List HO → Prop} {sv : SV} (h : ∀ (E : Env) (g w : World) (vs : List Value), Mono g w → RelVs E g args vs → Ret P f vs.toArray w fun v w' => RelV E g sv v ∧ Le w w') (hq : Q sv H) : Wp I P f args H Q := by
 intro W _ g w E F vs hs hv
 exact (h E g w vs hs.m hv).mono fun v w' ⟨r, l⟩ => ⟨E, g, sv, H, EnvLe.refl E, Mono.refl g, hs.le l, r, hq⟩
theorem Wp.said {I : Base → Prop} {f : FuncId} {args args' : List SV} {H : List HO} {Q : SV → List HO → Prop} (h : ∀ (E : Env) (g : World) (us : List Value), RelVs E g args us → RelVs E g args' us) (k : Wp I P f args' H Q) : Wp I P f args H Q := fun W hW g w E F vs hs hv => k W hW g w E F vs hs (h E g vs hv)
theorem RelVs.cons1 {g : World} {c c' : SV} {l l' : List SV} (h1 : ∀ u, RelV E g c u → RelV E g c' u) (h2 : ∀ us, RelVs E g l us → RelVs E g l' us) : ∀ us, RelVs E g (c :: l) us → RelVs E g (c' :: l') us := fun _ ⟨u, r, e, a, b⟩ => ⟨u, r, e, h1 u a, h2 r b⟩
theorem of_row {g : World} {e : Ty} {l : List Cl} {x : e.den} (h : e.of l = some (x, [])) : ∀ u, RelV E g (.v (.agg l)) u → RelV E g (.v (.agg (e.cells x))) u := fun u ⟨us, h1, h2⟩ => by
 obtain ⟨u1, u2, e1, h3, h4⟩ := of_cells e h h1
 obtain rfl : u2 = [] := h4
 rw [List.append_nil] at e1
 subst e1
 exact ⟨us, (rel_cells E g e h3).1, h2⟩
theorem of_list {g : World} {e : Ty} {c : Cl} {x : List e.den} (h : (Ty.sl e).of [c] = some (x, [])) : ∀ u, RelV E g (.v (.c c)) u → RelV E g (.v (.c (.d e x))) u := fun u r => by
 have r1 : RelCs E g [c] [u] := ⟨u, [], rfl, r, rfl⟩
 obtain ⟨u1, u2, e1, h3, h4⟩ := of_cells (.sl e) h r1
 obtain rfl : u2 = [] := h4
 rw [List.append_nil] at e1
 subst e1
 obtain ⟨u', r', e2, h5, h6⟩ := (rel_cells E g (.sl e) h3).1
 obtain rfl : u = u' := (List.cons.inj e2).1
 exact h5
theorem br_of {c : Bool} {p q : Prop} (h1 : c = true → p) (h2 : c = false → q) : br c p q := by
 cases c
 ·exact h2 rfl
 ·exact h1 rfl
theorem Wp.enter {I : Base → Prop} (hct : CtOk I X.P X.ct) {f : FuncId} {fn : Func} (an : FAnn) (hf : X.P.funcs[f]? = some fn) {args : List SV} {H : List HO} {Q : SV → List HO → Prop} (h : vFun X an fn args H Q) : Wp I X.P f args H Q := by
 intro W hW g w E F vs hsat hvs
 replace hct := hct.at hW
 unfold vFun at h
 split at h
 ·exact h.elim
 ·rename_i c hb
  obtain ⟨hl, h⟩ := if_ok h
  have hl' : vs.length ≤ fn.ntmps := by rw [relVs_len hvs]; exact Nat.le_of_ble_eq_true hl
  have hobj : ∀ l, ({ f := startF 0 args, h := H } : Bs).obj { f := [], h := [], n := H.length } l = nthH H l := fun l => rfl
  have S : Sta fn.ntmps W F { f := startF 0 args, h := H } E g w { f := [], h := [], n := H.length } { tmps := vs.toArray ++ Array.replicate (fn.ntmps - vs.toArray.size) undef, defers := [] } := by
   refine ⟨by simp; omega, rfl, fun t v ht => ?_, ?_, fun l hl => ?_⟩
   ·obtain ⟨_, h2⟩ := startF_get (k := 0) ht
    obtain ⟨u, h3, h4⟩ := relVs_get hvs h2
    simp only [Nat.sub_zero] at h3
    have h5 : t < vs.length := (List.getElem?_eq_some_iff.1 h3).1
    have : (vs.toArray ++ Array.replicate (fn.ntmps - vs.toArray.size) undef).getD t undef = u := by
     simp [Array.getD_eq_getD_getElem?, Array.getElem?_append, h5]
     rw [List.getElem?_eq_getElem h5] at h3
     exact Option.some.inj h3
    rw [this]; exact h4
   ·have : ({ f := startF 0 args, h := H } : Bs).heap { f := [], h := [], n := H.length } = H := by
     apply List.ext_getElem?
     intro k
     by_cases hk : k < H.length
     ·rw [heap_get (s := { f := [], h := [], n := H.length }) hk, hobj, List.getElem?_eq_getElem hk, nthH_get (List.getElem?_eq_getElem hk)]
     ·rw [List.getElem?_eq_none (by rw [heap_len]; show H.length ≤ k; omega), List.getElem?_eq_none (by omega)]
    rw [this]; exact hsat
   ·rw [hobj]; exact nthH_none hl
  have h := factVs_ok hvs h
  refine calls_of_wp hf hb (wp_mono (vCode_ok hct c S h) ?_)
  rintro e a' w' ⟨E', g', s', ex, l1, l2, S', rfl, hq⟩
  have hlen : E.length = H.length := hsat.len
  cases ex with
  | normal =>
   simp only at hq
   rw [← hlen] at hq
   obtain ⟨v, hr, hv⟩ := vEnd_ok S' l1 l2 hq
   exact ⟨S'.defers, v, hr, v, rfl, hv⟩
  | exit i => exact hq.elim
  | ret =>
   simp only at hq
   rw [← hlen] at hq
   obtain ⟨v, hr, hv⟩ := vEnd_ok S' l1 l2 hq
   exact ⟨S'.defers, v, hr, v, rfl, hv⟩
end
end Go.Lm

namespace Go.Lm
open Go Go.RowKit
def withinI (x a b : Int) : Bool := decide (a ≤ x) && decide (x ≤ b)
def nulAt (s : ByteArray) : Int := Lib.indexByte s.data.toList 0
def plainS (s : ByteArray) (m : Int) : Bool := withinI (s.size : Int) 1 m && decide (nulAt s < 0)
theorem sz_list (s : ByteArray) : s.size = s.data.toList.length := by
 cases s with
 | mk d => simp [ByteArray.size]
theorem indexByte_in (l : List UInt8) (c : UInt8) : -1 ≤ Lib.indexByte l c ∧ Lib.indexByte l c < max 1 (l.length : Int) := by
 induction l with
 | nil => simp [Lib.indexByte]; omega
 | cons b r ih =>
  unfold Lib.indexByte
  by_cases hb : (b == c) = true
  ·rw [if_pos hb]; simp; omega
  ·rw [if_neg hb]
   by_cases hm : (Lib.indexByte r c == -1) = true
   ·simp only [hm, if_true, List.length_cons]; omega
   ·simp only [hm]
    simp at hm
    simp only [List.length_cons]
    have : r ≠ [] := fun e => by subst e; simp [Lib.indexByte] at hm
    have : 0 < r.length := List.length_pos_iff.2 this
    simp
    omega
def nulB (s : ByteArray) (k : Nat) : Bool := (s.data.toList.drop k).any (· == 0)
theorem nulB_step {s : ByteArray} {k : Int} (h0 : 0 ≤ k) (h1 : k < s.size) : nulB s k.toNat = (((byteAt s k).toNat : Int) == 0 || nulB s (k + 1).toNat) := by
 have hlt : k.toNat < s.data.toList.length := by rw [← sz_list]; omega
 unfold nulB
 rw [List.drop_eq_getElem_cons hlt, List.any_cons, show k.toNat + 1 = (k + 1).toNat by omega]
 have e : s.data.toList[k.toNat] = byteAt s k := by
  have h2 : k.toNat < s.size := by omega
  have hb : s[k.toNat]? = some s[k.toNat] := by simp [h2]
  unfold byteAt
  rw [hb]
  show s.data.toList[k.toNat] = s[k.toNat]
  simp [ByteArray.getElem_eq_getElem_data]
 rw [e]
 congr 1
 rw [Bool.eq_iff_iff]
 simp only [beq_iff_eq]
 constructor
 ·intro h; rw [h]; rfl
 ·intro h; exact UInt8.toNat_inj.1 (by show (byteAt s k).toNat = 0; omega)
theorem nulB_end {s : ByteArray} {k : Int} (h : ¬ k < s.size) (h0 : 0 ≤ k) : nulB s k.toNat = false := by
 unfold nulB
 rw [List.drop_eq_nil_of_le (by rw [← sz_list]; omega)]; rfl
abbrev XaD := ByteArray × List UInt8 × Unit
def leB (a b : ByteArray) : Bool := sLt a b || sEq a b
def badX (x : XaD) (last : ByteArray) : Bool := !plainS x.1 40 || leB x.1 last || decide ((x.2.1.length : Int) > 200)
def xattrsGo : List XaD → ByteArray → Bool
 | [], _ => true
 | x :: r, last => if badX x last then false else xattrsGo r x.1
def xattrsB (l : List XaD) : Bool := xattrsGo l ⟨#[]⟩ && decide ((l.length : Int) ≤ 8)
theorem ixD_drop {e : Ty} {l : List e.den} {k : Int} (h0 : 0 ≤ k) (h1 : k < l.length) : l.drop k.toNat = ixD e l k :: l.drop (k + 1).toNat := by
 have hlt : k.toNat < l.length := by omega
 rw [List.drop_eq_getElem_cons hlt, show k.toNat + 1 = (k + 1).toNat by omega]
 congr 1
 unfold ixD
 rw [List.getD_eq_getElem?_getD, List.getElem?_eq_getElem hlt]; rfl
theorem drop_all {α : Type} {l : List α} {k : Int} (h : ¬ k < l.length) : l.drop k.toNat = [] := List.drop_eq_nil_of_le (by omega)
theorem bl_cons (a b : UInt8) (x y : List UInt8) : Op.bytesLess (a :: x) (b :: y) = (decide (a < b) || (a == b && Op.bytesLess x y)) := rfl
theorem bl_irr : ∀ x : List UInt8, Op.bytesLess x x = false
 | [] => rfl
 | a :: x => by rw [bl_cons, bl_irr x]; simp
theorem u8_tri (a b : UInt8) : a < b ∨ a = b ∨ b < a := by
 rcases UInt8.lt_or_le a b with h | h
 ·exact .inl h
 ·rcases UInt8.lt_or_eq_of_le h with h | h
  ·exact .inr (.inr h)
  ·exact .inr (.inl h.symm)
theorem bl_tri : ∀ x y : List UInt8, Op.bytesLess x y = true ∨ x = y ∨ Op.bytesLess y x = true
 | [], [] => .inr (.inl rfl)
 | [], _ :: _ => .inl rfl
 | _ :: _, [] => .inr (.inr rfl)
 | a :: x, b :: y => by
  rw [bl_cons, bl_cons]
  rcases u8_tri a b with h | h | h
  ·exact .inl (by simp [h])
  ·subst h
   rcases bl_tri x y with k | k | k
   ·exact .inl (by simp [k])
   ·exact .inr (.inl (by rw [k]))
   ·exact .inr (.inr (by simp [k]))
  ·exact .inr (.inr (by simp [h]))
theorem bl_trans : ∀ {x y z : List UInt8}, Op.bytesLess x y = true → Op.bytesLess y z = true → Op.bytesLess x z = true
 | _, [], _, h, _ => by simp [Op.bytesLess] at h
 | _, _ :: _, [], _, k => by simp [Op.bytesLess] at k
 | [], _ :: _, _ :: _, _, _ => rfl
 | a :: x, b :: y, c :: z, h, k => by
  rw [bl_cons] at *
  simp only [Bool.or_eq_true, Bool.and_eq_true, decide_eq_true_eq, beq_iff_eq] at *
  rcases h with h | ⟨rfl, h⟩
  ·rcases k with k | ⟨rfl, k⟩
   ·exact .inl (UInt8.lt_trans h k)
   ·exact .inl h
  ·rcases k with k | ⟨rfl, k⟩
   ·exact .inl k
   ·exact .inr ⟨rfl, bl_trans h k⟩
theorem bl_asymm {x y : List UInt8} (h : Op.bytesLess x y = true) : Op.bytesLess y x = false := by
 cases k : Op.bytesLess y x with
 | false => rfl
 | true => have := bl_trans h k; rw [bl_irr] at this; cases this
theorem leB_geq (a b : ByteArray) : leB a b = !sLt b a := by
 unfold leB sLt sEq
 rcases bl_tri a.toList b.toList with h | h | h
 ·rw [h, bl_asymm h]; rfl
 ·rw [h, bl_irr]; simp
 ·rw [h, bl_asymm h]
  have : (a.toList == b.toList) = false := by
   apply beq_eq_false_iff_ne.2
   intro e; rw [e, bl_irr] at h; cases h
  rw [this]; rfl
theorem nil_lt {a : ByteArray} (h : 1 ≤ (a.size : Int)) : sLt ⟨#[]⟩ a = true := by
 unfold sLt
 have h0 : (⟨#[]⟩ : ByteArray).toList = [] := by rw [Lib.toList_data]
 rw [h0]
 rw [sz_list] at h
 rw [Lib.toList_data]
 cases h2 : a.data.toList with
 | nil => rw [h2] at h; simp at h
 | cons x r => rfl
theorem index_any : ∀ l : List UInt8, decide (Lib.indexByte l 0 < 0) = !l.any (· == 0)
 | [] => rfl
 | b :: r => by
  have ih := index_any r
  have ge := Lib.indexByte_ge r 0
  unfold Lib.indexByte
  by_cases hb : b = 0
  ·subst hb; simp
  ·have h1 : (b == 0) = false := by simpa using hb
   rw [h1]
   simp only [Bool.false_eq_true, if_false, List.any_cons, h1, Bool.false_or]
   rw [← ih]
   by_cases hm : Lib.indexByte r 0 = -1
   ·simp [hm]
   ·have : (Lib.indexByte r 0 == -1) = false := by simpa using hm
    simp only [this, Bool.false_eq_true, if_false]
    have h2 : ¬ Lib.indexByte r 0 < 0 := by omega
    have h3 : ¬ Lib.indexByte r 0 + 1 < 0 := by omega
    simp [h2, h3]
theorem nul_iff (s : ByteArray) : decide (nulAt s < 0) = !nulB s 0 := by
 unfold nulAt nulB
 rw [index_any]; simp
theorem badX_ref (x : XaD) (last : ByteArray) : badX x last = (decide ((x.1.size : Int) < 1) || decide ((x.1.size : Int) > 40) || nulB x.1 0 || decide ((x.2.1.length : Int) > 200) || !sLt last x.1) := by
 unfold badX plainS withinI
 rw [nul_iff, leB_geq]
 rw [Bool.eq_iff_iff]
 simp only [Bool.or_eq_true, Bool.not_eq_true', Bool.and_eq_false_iff, decide_eq_false_iff_not, decide_eq_true_eq, Bool.not_eq_false']
 constructor
 ·rintro ((h | h) | h)
  ·rcases h with (h | h) | h
   ·exact .inl (.inl (.inl (.inl (by omega))))
   ·exact .inl (.inl (.inl (.inr (by omega))))
   ·exact .inl (.inl (.inr h))
  ·exact .inr h
  ·exact .inl (.inr h)
 ·rintro ((((h | h) | h) | h) | h)
  ·exact .inl (.inl (.inl (.inl (by omega))))
  ·exact .inl (.inl (.inl (.inr (by omega))))
  ·exact .inl (.inl (.inr h))
  ·exact .inr h
  ·exact .inl (.inr h)
def prevN (l : List XaD) (k : Int) : ByteArray := if k > 0 then (@List.getD XaD l (k - 1).toNat (⟨#[]⟩, [], ())).1 else ⟨#[]⟩
def noB (s : ByteArray) : Bool := sEq s ⟨#[]⟩
def may3 (m u g : Int) : Bool := withinI m 0 511 && withinI u 0 65535 && withinI g 0 65535
def mayT (x : NoD) : Bool :=
 if x.2.2.1 = 1 then ((x.2.2.2.2.1.length : Int) == 0) && noB x.2.2.2.2.2.1 && !x.2.2.2.2.2.2.2.1 && may3 x.2.2.2.1.1 x.2.2.2.1.2.1 x.2.2.2.1.2.2.1 && xattrsB x.2.2.2.2.2.2.1
 else if x.2.2.1 = 2 then decide ((x.2.2.2.2.1.length : Int) ≤ 4096) && noB x.2.2.2.2.2.1 && !x.2.2.2.2.2.2.2.1 && may3 x.2.2.2.1.1 x.2.2.2.1.2.1 x.2.2.2.1.2.2.1 && xattrsB x.2.2.2.2.2.2.1
 else if x.2.2.1 = 3 then ((x.2.2.2.2.1.length : Int) == 0) && plainS x.2.2.2.2.2.1 200 && !x.2.2.2.2.2.2.2.1 && may3 x.2.2.2.1.1 x.2.2.2.1.2.1 x.2.2.2.1.2.2.1 && xattrsB x.2.2.2.2.2.2.1
 else false
def idxF {α : Type} (p : α → Bool) : List α → Int → Int
 | [], _ => -1
 | x :: r, k => if p x then k else idxF p r (k + 1)
theorem idxF_any {α : Type} {p : α → Bool} : ∀ {l : List α} {k : Int}, 0 ≤ k → decide (idxF p l k ≥ 0) = l.any p
 | [], _, _ => rfl
 | x :: r, k, h => by
  unfold idxF
  rw [List.any_cons]
  cases hp : p x with
  | true => simp [h]
  | false => simpa using idxF_any (l := r) (p := p) (k := k + 1) (by omega)
def badM (x : NoD) : Bool := x.2.2.1 == 4 && (!(x.2.2.2.1.1 == 0 && (x.2.2.2.1.2.1 == 0 && x.2.2.2.1.2.2.1 == 0)) || decide ((x.2.2.2.2.1.length : Int) > 0) || !sEq x.2.2.2.2.2.1 ⟨#[]⟩ || decide ((x.2.2.2.2.2.2.1.length : Int) > 0) || x.2.2.2.2.2.2.2.1)
def mayU (x : NoD) : Bool := if x.2.2.1 = 4 then !badM x else mayT (x.1, x.2.1, x.2.2.1, x.2.2.2.1, x.2.2.2.2.1, x.2.2.2.2.2.1, x.2.2.2.2.2.2.1, (if x.2.2.1 = 1 then false else x.2.2.2.2.2.2.2.1), ())
def refMay (x : NoD) : Bool :=
 if decide (x.2.2.1 < 1) || (decide (x.2.2.1 > 3) || x.2.2.2.2.2.2.2.1) then false
 else if decide (x.2.2.2.1.1 < 0) || (decide (x.2.2.2.1.1 > 511) || (decide (x.2.2.2.1.2.1 < 0) || (decide (x.2.2.2.1.2.1 > 65535) || (decide (x.2.2.2.1.2.2.1 < 0) || decide (x.2.2.2.1.2.2.1 > 65535))))) then false
 else if (x.2.2.1 != 2 && decide ((x.2.2.2.2.1.length : Int) > 0)) || decide ((x.2.2.2.2.1.length : Int) > 4096) then false
 else if (x.2.2.1 != 3 && !sEq x.2.2.2.2.2.1 ⟨#[]⟩) || (x.2.2.1 == 3 && (sEq x.2.2.2.2.2.1 ⟨#[]⟩ || (decide ((x.2.2.2.2.2.1.size : Int) > 200) || nulB x.2.2.2.2.2.1 0))) then false
 else xattrsB x.2.2.2.2.2.2.1
theorem noB_size (s : ByteArray) : sEq s ⟨#[]⟩ = !decide (1 ≤ (s.size : Int)) := by
 unfold sEq
 have h1 : (⟨#[]⟩ : ByteArray).toList = [] := by rw [Lib.toList_data]
 rw [h1, Lib.toList_data, sz_list]
 cases s.data.toList with
 | nil => rfl
 | cons x r =>
  have : decide (1 ≤ ((x :: r).length : Int)) = true := by simp; omega
  rw [this]; rfl
theorem may3_ref (m u g : Int) : may3 m u g = !(decide (m < 0) || (decide (m > 511) || (decide (u < 0) || (decide (u > 65535) || (decide (g < 0) || decide (g > 65535)))))) := by
 unfold may3 withinI
 rw [Bool.eq_iff_iff]
 simp only [Bool.and_eq_true, decide_eq_true_eq, Bool.not_eq_true', Bool.or_eq_false_iff, decide_eq_false_iff_not]
 omega
theorem refMay_eq (x : NoD) : refMay x = mayT x := by
 obtain ⟨path, ino, kind, ⟨m, u, g, un⟩, data, target, xs, opq, un2⟩ := x
 unfold refMay mayT noB plainS
 simp only
 rw [nul_iff, noB_size, may3_ref]
 unfold withinI
 generalize (decide (m < 0) || (decide (m > 511) || (decide (u < 0) || (decide (u > 65535) || (decide (g < 0) || decide (g > 65535)))))) = M
 generalize nulB target 0 = N
 generalize xattrsB xs = X
 generalize target.size = ts
 generalize data.length = dl
 have D : (decide ((dl : Int) > 0) = false ∧ decide ((dl : Int) > 4096) = false ∧ decide ((dl : Int) ≤ 4096) = true ∧ ((dl : Int) == 0) = true) ∨ (decide ((dl : Int) > 0) = true ∧ decide ((dl : Int) > 4096) = false ∧ decide ((dl : Int) ≤ 4096) = true ∧ ((dl : Int) == 0) = false) ∨
   (decide ((dl : Int) > 0) = true ∧ decide ((dl : Int) > 4096) = true ∧ decide ((dl : Int) ≤ 4096) = false ∧ ((dl : Int) == 0) = false) := by
  simp only [decide_eq_true_eq, decide_eq_false_iff_not, beq_iff_eq, beq_eq_false_iff_ne]
  omega
 have T : (decide (1 ≤ (ts : Int)) = false ∧ decide ((ts : Int) > 200) = false ∧ decide ((ts : Int) ≤ 200) = true) ∨ (decide (1 ≤ (ts : Int)) = true ∧ decide ((ts : Int) > 200) = false ∧ decide ((ts : Int) ≤ 200) = true) ∨ (decide (1 ≤ (ts : Int)) = true ∧ decide ((ts : Int) > 200) = true ∧ decide ((ts : Int) ≤ 200) = false) := by
  simp only [decide_eq_true_eq, decide_eq_false_iff_not]
  omega
 by_cases k1 : kind = 1
 ·subst k1
  rcases D with ⟨d1, d2, d3, d4⟩ | ⟨d1, d2, d3, d4⟩ | ⟨d1, d2, d3, d4⟩ <;> rcases T with ⟨t1, t2, t3⟩ | ⟨t1, t2, t3⟩ | ⟨t1, t2, t3⟩ <;> simp only [d1, d2, d3, d4, t1, t2, t3] <;> cases opq <;> cases M <;> cases X <;> cases N <;> rfl
 ·by_cases k2 : kind = 2
  ·subst k2
   rcases D with ⟨d1, d2, d3, d4⟩ | ⟨d1, d2, d3, d4⟩ | ⟨d1, d2, d3, d4⟩ <;> rcases T with ⟨t1, t2, t3⟩ | ⟨t1, t2, t3⟩ | ⟨t1, t2, t3⟩ <;> simp only [d1, d2, d3, d4, t1, t2, t3] <;> cases opq <;> cases M <;> cases X <;> cases N <;> rfl
  ·by_cases k3 : kind = 3
   ·subst k3
    rcases D with ⟨d1, d2, d3, d4⟩ | ⟨d1, d2, d3, d4⟩ | ⟨d1, d2, d3, d4⟩ <;> rcases T with ⟨t1, t2, t3⟩ | ⟨t1, t2, t3⟩ | ⟨t1, t2, t3⟩ <;> simp only [d1, d2, d3, d4, t1, t2, t3] <;> cases opq <;> cases M <;> cases X <;> cases N <;> rfl
   ·have h : (decide (kind < 1) || (decide (kind > 3) || opq)) = true := by
     by_cases ha : kind < 1
     ·simp [ha]
     ·have : kind > 3 := by omega
      simp [this]
    rw [h]; simp [k1, k2, k3]
def clipN (x : NoD) : NoD := (x.1.take 18, x.2.1, x.2.2.1, x.2.2.2.1, x.2.2.2.2.1.take 1500, x.2.2.2.2.2.1, x.2.2.2.2.2.2.1.take 10, x.2.2.2.2.2.2.2.1, ())
theorem take_ixD {e : Ty} {l : List e.den} {k : Int} (h0 : 0 ≤ k) (h1 : k < l.length) : l.take (k + 1).toNat = l.take k.toNat ++ [ixD e l k] := by
 have hlt : k.toNat < l.length := by omega
 rw [show (k + 1).toNat = k.toNat + 1 by omega, List.take_add_one, List.getElem?_eq_getElem hlt]
 unfold ixD
 rw [List.getD_eq_getElem?_getD, List.getElem?_eq_getElem hlt]; rfl
def slashB (s : ByteArray) (k : Nat) : Bool := (s.data.toList.drop k).any fun b => b == 0 || b == 47
theorem byte_eq {b : UInt8} {n : Nat} (h : n < 256) : (b == UInt8.ofNat n) = ((b.toNat : Int) == (n : Int)) := by
 rw [Bool.eq_iff_iff]
 simp only [beq_iff_eq]
 constructor
 ·intro e; subst e
  have : (UInt8.ofNat n).toNat = n := UInt8.toNat_ofNat_of_lt' h
  rw [this]
 ·intro e
  have e' : b.toNat = n := by omega
  exact UInt8.toNat_inj.1 (by rw [e', UInt8.toNat_ofNat_of_lt' h])
theorem drop_byte {s : ByteArray} {k : Int} (h0 : 0 ≤ k) (h1 : k < s.size) : s.data.toList.drop k.toNat = byteAt s k :: s.data.toList.drop (k + 1).toNat := by
 have hlt : k.toNat < s.data.toList.length := by rw [← sz_list]; omega
 rw [List.drop_eq_getElem_cons hlt, show k.toNat + 1 = (k + 1).toNat by omega]
 congr 1
 have h2 : k.toNat < s.size := by omega
 have hb : s[k.toNat]? = some s[k.toNat] := by simp [h2]
 unfold byteAt
 rw [hb]
 show s.data.toList[k.toNat] = s[k.toNat]
 simp [ByteArray.getElem_eq_getElem_data]
theorem slashB_step {s : ByteArray} {k : Int} (h0 : 0 ≤ k) (h1 : k < s.size) : slashB s k.toNat = (((byteAt s k).toNat : Int) == 0 || (((byteAt s k).toNat : Int) == 47 || slashB s (k + 1).toNat)) := by
 unfold slashB
 rw [drop_byte h0 h1, List.any_cons, show (0 : UInt8) = UInt8.ofNat 0 from rfl, show (47 : UInt8) = UInt8.ofNat 47 from rfl, byte_eq (n := 0) (by omega), byte_eq (n := 47) (by omega), Bool.or_assoc]
 rfl
theorem slashB_end {s : ByteArray} {k : Int} (h : ¬ k < s.size) (h0 : 0 ≤ k) : slashB s k.toNat = false := by
 unfold slashB
 rw [List.drop_eq_nil_of_le (by rw [← sz_list]; omega)]; rfl
def dotsB (s : ByteArray) : Bool := sEq s ⟨#[]⟩ || (sEq s ⟨#[46]⟩ || sEq s ⟨#[46, 46]⟩)
def validN (s : ByteArray) : Int := if (s.size : Int) > 255 then 23 else if slashB s 0 || dotsB s then 22 else 0
def sameN : List ByteArray → List ByteArray → Bool
 | [], [] => true
 | x :: a, y :: b => sEq x y && sameN a b
 | _, _ => false
theorem sameN_len : ∀ {a b : List ByteArray}, a.length ≠ b.length → sameN a b = false
 | [], [], h => absurd rfl h
 | _ :: a, _ :: b, h => by
  unfold sameN
  rw [sameN_len (a := a) (b := b) (by simpa using h), Bool.and_false]
 | [], _ :: _, _ => rfl
 | _ :: _, [], _ => rfl
theorem idxF_spec {α : Type} {p : α → Bool} : ∀ {l : List α} {k : Int}, (idxF p l k = -1 ∧ l.find? p = none) ∨ ∃ j : Nat, idxF p l k = k + j ∧ j < l.length ∧ l.find? p = l[j]?
 | [], _ => .inl ⟨rfl, rfl⟩
 | x :: r, k => by
  unfold idxF
  rw [List.find?_cons]
  cases hp : p x with
  | true => exact .inr ⟨0, by simp, by simp, rfl⟩
  | false =>
   simp only [Bool.false_eq_true, if_false]
   rcases idxF_spec (l := r) (p := p) (k := k + 1) with ⟨h1, h2⟩ | ⟨j, h1, h2, h3⟩
   ·exact .inl ⟨h1, h2⟩
   ·exact .inr ⟨j + 1, by rw [h1]; omega, by simpa using h2, by rw [h3]; rfl⟩
def isNm (names : List ByteArray) (x : NoD) : Bool := sameN x.1 names
def isDirB (l : List NoD) (names : List ByteArray) : Bool := match l.find? (isNm names) with
 | some x => x.2.2.1 == 1
 | none => false
theorem put_len {k : Kk} {α : Type} {l : List (k.den × α)} {x : k.den} {v : α} : (k.put l x v).length ≤ l.length + 1 := by
 unfold Kk.put putK
 rw [List.length_cons]
 have : (@delK k.den k.key _ l x).length ≤ l.length := by
  unfold delK
  exact List.length_filter_le _ _
 omega
def opqGo : List NoD → List (Int × Bool) → Bool
 | [], _ => false
 | x :: r, m => if (Kk.get .int m x.2.1).getD false then true else opqGo r (Kk.put .int m x.2.1 (x.2.2.1 == 1))
end Go.Lm

