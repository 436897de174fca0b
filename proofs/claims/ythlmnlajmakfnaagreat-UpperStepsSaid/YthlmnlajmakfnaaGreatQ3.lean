/- Texts of mine, laid together: LmVo LmVp LmVq LmVr LmVs LmVt LmVu LmVv LmVw LmVx LmVy LmVz LmWa LmVza LmYa LmYb LmYc U1. -/
import Derived.Test.YthlmnlajmakfnaaGreatQ2
import Derived.Lib.Bytealg
import Derived.Lib.Bytes
import Derived.Test.YthlmnlajmakfnaaGreatProg
import Derived.Test.YthlmnlajmakfnaaGreatChecked
set_option linter.unusedVariables false
namespace Go.Lm
open Go Go.RowKit
def CtOkW (W : Base) (P : Program) (L : List (Nat × Ct)) : Prop := ∀ p ∈ L, ∀ args H Q, p.2 args H Q → WpW W P p.1 args H Q
def CtOk (I : Base → Prop) (P : Program) (L : List (Nat × Ct)) : Prop := ∀ p ∈ L, ∀ args H Q, p.2 args H Q → Wp I P p.1 args H Q
theorem CtOk.nil (I : Base → Prop) (P : Program) : CtOk I P [] := fun _ h => by cases h
theorem CtOk.at {I : Base → Prop} {P : Program} {L : List (Nat × Ct)} (h : CtOk I P L) {W : Base} (hW : I W) : CtOkW W P L := fun p hp args H Q hc => h p hp args H Q hc W hW
theorem CtOk.cons {I : Base → Prop} {P : Program} {L : List (Nat × Ct)} {f : Nat} {c : Ct} (h : ∀ args H Q, c args H Q → Wp I P f args H Q) (k : CtOk I P L) : CtOk I P ((f, c) :: L) := fun p hp => by
  rcases List.mem_cons.1 hp with rfl | hp
  · exact h
  · exact k p hp
theorem CtOkW.look {W : Base} {P : Program} : ∀ {L : List (Nat × Ct)}, CtOkW W P L → ∀ f args H Q, lookC L f args H Q → WpW W P f args H Q
  | [], _, _, _, _, _, h => h.elim
  | (k, c) :: r, hL, f, args, H, Q, h => by
    unfold lookC at h
    by_cases e : k = f
    · subst e
      have hb : Nat.beq k k = true := by simp
      rw [hb] at h
      exact hL _ (List.mem_cons_self ..) _ _ _ h
    · rw [beq_ne e] at h
      exact CtOkW.look (fun p hp => hL p (List.mem_cons_of_mem _ hp)) f args H Q h
section
variable {X : Vx} {n : Nat} {W : Base} {F : List Atom} {b : Bs} {E : Env} {g w : World} {s : Ov} {a : Act} {o : Oper} {K : SV → Ov → Prop}
theorem op1_ok {x : Operand} {k : SV → Prop} (h : op1 b s x k) : ∃ v, opd b s x = some v ∧ k v := by
  unfold op1 at h
  split at h
  · rename_i v hv; exact ⟨v, hv, h⟩
  · exact h.elim
theorem cl1_ok {x : Operand} {k : Cl → Prop} (h : cl1 b s x k) : ∃ c, opd b s x = some (.v (.c c)) ∧ k c := by
  unfold cl1 at h
  split at h
  · rename_i c hc; exact ⟨c, hc, h⟩
  · exact h.elim
theorem Out.here (S : Sta n W F b E g w s a) {v : Value} {sv : SV} (r : RelV E g sv v) (h : K sv s) : Out n W F b E g a K v w := ⟨E, g, s, sv, EnvLe.refl E, Mono.refl g, S, r, h⟩
theorem OpR.val {v : Value} {w' : World} {R : Value → World → Prop} {P : Program} (h : (execOp a.eval o).run P w = .ok (.value v) w') (k : R v w') : OpR P o a w R := .inl ⟨v, w', h, k⟩
theorem OpR.er (S : Sta n W F b E g w s a) (h : ER X.P o a w E g fun r => K r s) : OpR X.P o a w (Out n W F b E g a K) := by
  obtain ⟨v, sv, h1, h2, h3⟩ := h
  exact OpR.val h1 (Out.here S h2 h3)
theorem OpR.ex (h : ∃ v w', (execOp a.eval o).run X.P w = .ok (.value v) w' ∧ Out n W F b E g a K v w') : OpR X.P o a w (Out n W F b E g a K) := .inl h
theorem br_cases {q : Bool} {p r : Prop} (h : br q p r) : (q = true ∧ p) ∨ (q = false ∧ r) := by
  cases q
  · exact .inr ⟨rfl, h⟩
  · exact .inl ⟨rfl, h⟩
theorem opt1_ok (S : Sta n W F b E g w s a) {q : Option Operand} {k : Option SV → Prop} (h : opt1 b s q k) : ∃ l, k l ∧ ∀ i, intOf l = some i → BoundIs a q i := by
  unfold opt1 at h
  split at h
  · exact ⟨none, h, fun i hi => .inl ⟨rfl, (Option.some.inj hi).symm⟩⟩
  · rename_i y
    obtain ⟨v, hv, h⟩ := op1_ok h
    refine ⟨some v, h, fun i hi => ?_⟩
    unfold intOf at hi
    split at hi
    · rename_i heq; cases heq
    · rename_i m heq
      cases heq
      exact .inr ⟨y, m, rfl, (Option.some.inj hi).symm, (relV_int (S.opd hv)).1⟩
    · cases hi
theorem capsOf_ok : ∀ {l : List SV} {cs : List Cl} {us : List Value}, capsOf l = some cs → RelVs E g l us → RelCs E g cs us
  | [], cs, us, h, r => by
    obtain rfl : [] = cs := Option.some.inj h
    exact r
  | v :: r, cs, us, h, ⟨u, q, e, h1, h2⟩ => by
    subst e
    unfold capsOf at h
    split at h
    · rename_i heq; cases heq
    · rename_i c r' heq
      cases heq
      split at h
      · rename_i l hl
        obtain rfl : c :: l = cs := Option.some.inj h
        exact RelCs.cons h1 (capsOf_ok hl h2)
      · cases h
    · cases h
theorem relVs_one {c : SV} {us : List Value} (h : RelVs E g [c] us) : ∃ u, us = [u] ∧ RelV E g c u := by
  obtain ⟨u, r, e, h1, h2⟩ := h
  exact ⟨u, by rw [e, show r = [] from h2], h1⟩
theorem relVs_two {c d : SV} {us : List Value} (h : RelVs E g [c, d] us) : ∃ u v, us = [u, v] ∧ RelV E g c u ∧ RelV E g d v := by
  obtain ⟨u, r, e, h1, h2⟩ := h
  obtain ⟨v, e2, h3⟩ := relVs_one h2
  exact ⟨u, v, by rw [e, e2], h1, h3⟩
theorem arr1 {α β : Type} {f : α → β} {l : Array α} {u : β} (h : l.toList.map f = [u]) : ∃ x, l = #[x] ∧ f x = u := by
  obtain ⟨l⟩ := l
  simp only at h
  match l, h with
  | [x], h => exact ⟨x, rfl, by simpa using h⟩
theorem arr2 {α β : Type} {f : α → β} {l : Array α} {u v : β} (h : l.toList.map f = [u, v]) : ∃ x y, l = #[x, y] ∧ f x = u ∧ f y = v := by
  obtain ⟨l⟩ := l
  simp only at h
  match l, h with
  | [x, y], h =>
    simp at h
    exact ⟨x, y, rfl, h.1, h.2⟩
theorem arrT {α : Type} {l : Array α} {t : List α} (h : l.toList = t) : l = t.toArray := by
  subst h; simp
theorem vBuiltin_ok (S : Sta n W F b E g w s a) {c : Call} {bi : Builtin} {args : List SV} (ho : o.op = .call c) (hc : c.callee = .builtin bi) (ha : opds b s c.args.toList = some args) (h : vBuiltin X b s bi args c.argTypes.toList K) : OpR X.P o a w (Out n W F b E g a K) := by
  have hv := opds_ok S ha
  obtain ⟨callee, cargs, ctys⟩ := c
  simp only at hc ha hv h
  subst hc
  unfold vBuiltin at h
  split at h
  · split at h
    · rename_i x t hts
      obtain ⟨u, e, hu⟩ := relVs_one hv
      obtain ⟨ox, rfl, rfl⟩ := arr1 e
      obtain rfl := arrT hts
      exact OpR.er S (run_lenV S ho hu h)
    · exact h.elim
  · split at h
    · rename_i x y t t2 hts
      obtain ⟨u, v, e, hu, hv2⟩ := relVs_two hv
      obtain ⟨ox, oy, rfl, rfl, rfl⟩ := arr2 e
      obtain rfl := arrT hts
      exact OpR.ex (run_appendV S ho hu hv2 h)
    · exact h.elim
  · split at h
    · rename_i x y t t2 hts
      obtain ⟨u, v, e, hu, hv2⟩ := relVs_two hv
      obtain ⟨ox, oy, rfl, rfl, rfl⟩ := arr2 e
      obtain rfl := arrT hts
      exact OpR.ex (run_copyV S ho hu hv2 h)
    · exact h.elim
  · split at h
    · rename_i x y t t2 hts
      obtain ⟨u, v, e, hu, hv2⟩ := relVs_two hv
      obtain ⟨ox, oy, rfl, rfl, rfl⟩ := arr2 e
      obtain rfl := arrT hts
      exact OpR.er S (run_mmV (mn := true) ho hu hv2 h)
    · exact h.elim
  · split at h
    · rename_i x y t t2 hts
      obtain ⟨u, v, e, hu, hv2⟩ := relVs_two hv
      obtain ⟨ox, oy, rfl, rfl, rfl⟩ := arr2 e
      obtain rfl := arrT hts
      exact OpR.er S (run_mmV (mn := false) ho hu hv2 h)
    · exact h.elim
  · split at h
    · rename_i l v y t k hts
      obtain ⟨u, v2, e, hu, hv2⟩ := relVs_two hv
      obtain ⟨ox, oy, rfl, rfl, rfl⟩ := arr2 e
      obtain rfl := arrT hts
      obtain ⟨w', s', h1, h2, h3⟩ := run_upDel S ho hu hv2 h
      exact OpR.ex ⟨_, w', h1, E, g, s', .tup [], EnvLe.refl E, Mono.refl g, h2, ⟨[], rfl, rfl⟩, h3⟩
    · exact h.elim
  · exact h.elim
theorem holdVs_ok : ∀ {args : List SV} {us : List Value} {s : Ov} {g : World} {k : List SV → Ov → Prop}, Sta n W F b E g w s a → RelVs E g args us → holdVs b args s k → ∃ g' s' args', Mono g g' ∧ Sta n W F b E g' w s' a ∧ RelVs E g' args' us ∧ k args' s'
  | [], us, s, g, k, S, hv, h => ⟨g, s, [], Mono.refl g, S, hv, h⟩
  | v :: r, us, s, g, k, S, ⟨u, q, e, h1, h2⟩, h => by
    subst e
    have more : ∀ {v' : SV} {g1 : World} {s1 : Ov}, Mono g g1 → Sta n W F b E g1 w s1 a → RelV E g1 v' u → (holdVs b r s1 fun r' s' => k (v' :: r') s') → ∃ g' s' args', Mono g g' ∧ Sta n W F b E g' w s' a ∧ RelVs E g' args' (u :: q) ∧ k args' s' := fun {v' g1 s1} m1 S1 hu h => by
      have h2' : RelVs E g1 r q := by
        have key : ∀ {l : List SV} {us : List Value}, RelVs E g l us → RelVs E g1 l us := by
          intro l
          induction l with
          | nil => intro us h; exact h
          | cons c l ih =>
            rintro us ⟨u, r, e, h1, h2⟩
            exact ⟨u, r, e, h1.mono (EnvLe.refl E) m1, ih h2⟩
        exact key h2
      obtain ⟨g2, s2, r', m2, S2, hr, hk⟩ := holdVs_ok S1 h2' h
      exact ⟨g2, s2, v' :: r', m1.trans m2, S2, ⟨u, q, rfl, hu.mono (EnvLe.refl E) m2, hr⟩, hk⟩
    unfold holdVs at h
    split at h
    · rename_i c
      have hc : RelCs E g [c] [u] := ⟨u, [], rfl, h1, rfl⟩
      obtain ⟨g1, s1, cs, m1, S1, hcs, h⟩ := holdCs_ok S hc h
      split at h
      · rename_i c'
        obtain ⟨u', q', e', h3, h4⟩ := hcs
        obtain rfl : u = u' := (List.cons.inj e').1
        exact more m1 S1 (v' := .v (.c c')) h3 h
      · exact h.elim
    · rename_i l
      obtain ⟨us, hu, rfl⟩ := h1
      obtain ⟨g1, s1, cs, m1, S1, hcs, h⟩ := holdCs_ok S hu h
      exact more m1 S1 (v' := .v (.agg cs)) ⟨us, hcs, rfl⟩ h
    · exact more (Mono.refl g) S h1 h
theorem vCall_ok (hct : CtOkW W X.P X.ct) (S : Sta n W F b E g w s a) {c : Call} (ho : o.op = .call c) (h : vCall X b s c K) : OpR X.P o a w (Out n W F b E g a K) := by
  unfold vCall at h
  split at h
  · exact h.elim
  · rename_i args ha
    split at h
    · rename_i fo hc
      obtain ⟨q, hq, h⟩ := cl1_ok h
      split at h
      · rename_i f caps
        obtain ⟨hk, h⟩ := if_ok h
        obtain ⟨us, h1, h2⟩ := S.opd hq
        refine .inr (.inr ⟨f, _, run_call ho hc h2 hk, ?_⟩)
        have hv := RelVs.app (opds_ok S ha) (relVs_caps h1)
        have e : (c.args.map a.eval ++ us.toArray) = (List.map a.eval c.args.toList ++ us).toArray := by simp
        rw [e]
        split at h
        · obtain ⟨g1, s1, args', m1, S1, hv1, h⟩ := holdVs_ok S hv h
          have := run_callV (P := X.P) hct.look S1 hv1 h
          exact this.mono fun v w' ⟨E', g', s', sv, q1, q2, q3⟩ => ⟨E', g', s', sv, q1, m1.trans q2, q3⟩
        · split at h
          · exact run_callR (P := X.P) hct.look S hv h
          · exact run_callV (P := X.P) hct.look S hv h
      · exact h.elim
    · rename_i bi hc
      exact vBuiltin_ok S ho hc ha h
    · exact h.elim
theorem reAgg_rel {g' : World} {u : S1} {cs : List Cl} {v : Value} (r : RelS E g u v) (h : RelCs E g' cs v.cells.toList) : RelS E g' (reAgg u cs) v := by
  cases u with
  | c x =>
    have hr : RelC E g x v := r
    rw [one_cells hr.one] at h
    match cs, h with
    | [d], ⟨u', q, e1, h1, h2⟩ =>
      obtain ⟨rfl, _⟩ := List.cons.inj e1
      exact h1
    | [], h => cases (show [v] = [] from h)
    | _ :: _ :: _, ⟨_, _, e1, _, _, _, e2, _⟩ =>
      obtain ⟨_, rfl⟩ := List.cons.inj e1
      cases e2
  | agg l =>
    obtain ⟨us, h1, rfl⟩ := r
    have hc : (Value.agg us.toArray).cells.toList = us := by simp [Value.cells]
    rw [hc] at h
    have : reAgg (.agg l) cs = .agg cs := rfl
    rw [this]
    exact ⟨us, h, rfl⟩
theorem vOp_ok (hct : CtOkW W X.P X.ct) (S : Sta n W F b E g w s a) (h : vOp X b s o K) : OpR X.P o a w (Out n W F b E g a K) := by
  unfold vOp at h
  split at h
  · rename_i x ho
    obtain ⟨v, hv, h⟩ := op1_ok h
    exact OpR.val (by simp [execOp, ho]) (Out.here S (S.opd hv) h)
  · rename_i x ho
    obtain ⟨v, hv, h⟩ := op1_ok h
    exact OpR.val (by simp [execOp, ho]) (Out.here S (S.opd hv) h)
  · rename_i c x y ho
    obtain ⟨q, hq, h⟩ := cl1_ok h
    obtain ⟨v, hv, h⟩ := op1_ok h
    obtain ⟨u, hu, h⟩ := op1_ok h
    split at h
    · rename_i z
      obtain ⟨hz, _⟩ := S.opd hq
      rcases br_cases h with ⟨e, h⟩ | ⟨e, h⟩ <;> subst e
      · exact OpR.val (v := a.eval x) (by simp [execOp, ho, hz, asBool]) (Out.here S (S.opd hv) h)
      · exact OpR.val (v := a.eval y) (by simp [execOp, ho, hz, asBool]) (Out.here S (S.opd hu) h)
    · exact h.elim
  · rename_i op t x y yt ho
    obtain ⟨v, hv, h⟩ := op1_ok h
    obtain ⟨u, hu, h⟩ := op1_ok h
    exact OpR.er S (ER.of (m := (do eqGuard op t x y (a.eval x) (a.eval y); binOp op t (a.eval x) (a.eval y))) (by simp [execOp, ho]) (run_binV S (S.opd hv) (S.opd hu) h))
  · rename_i op t x ho
    obtain ⟨v, hv, h⟩ := op1_ok h
    exact OpR.er S (ER.of (m := Op.unary op (a.eval x)) (by simp [execOp, ho]) (run_unV (S.opd hv) h))
  · rename_i x i ho
    obtain ⟨v, hv, h⟩ := op1_ok h
    split at h
    · split at h
      · rename_i l c hc
        obtain ⟨us, h1, h2⟩ := S.opd hv
        obtain ⟨u, h3, h4⟩ := h1.get hc
        exact OpR.val (v := u) (by simp [execOp, ho, h2, Instr.extract, h3]) (Out.here S (sv := .v c) h4 h)
      · exact h.elim
    · exact h.elim
  · rename_i t x j ho
    obtain ⟨v, hv, h⟩ := op1_ok h
    split at h
    · split at h
      · rename_i f hf
        split at h
        · rename_i r hr
          exact OpR.er S (run_field ho (S.opd hv) hf hr h)
        · exact h.elim
      · exact h.elim
    · exact h.elim
  · rename_i t x ho
    obtain ⟨c, hc, h⟩ := cl1_ok h
    exact OpR.er S (ER.of (m := Instr.loadAt t (a.eval x)) (by simp [execOp, ho]) (run_loadV S (S.opd hc) h))
  · rename_i t x y ho
    obtain ⟨c, hc, h⟩ := cl1_ok h
    obtain ⟨u, hu, h⟩ := op1_ok h
    split at h
    · rename_i uu
      have old : storeV X.P b s t c uu (fun s' => K .und s') → OpR X.P o a w (Out n W F b E g a K) := fun h => by
        obtain ⟨w', s', h1, h2, h3⟩ := run_storeV S ho (S.opd hc) (S.opd hu) h
        exact .inr (.inl ⟨w', h1, E, g, s', .und, EnvLe.refl E, Mono.refl g, h2, relV_und, h3⟩)
      split at h
      · rename_i l bb off
        split at h
        · rename_i lo
          obtain ⟨hoff, h9⟩ := if_ok h
          obtain rfl := Nat.eq_of_beq_eq_true hoff
          obtain ⟨w', s', h1, h2, h3⟩ := run_pwStore S ho (S.opd hc) (S.opd hu) h9
          exact .inr (.inl ⟨w', h1, E, g, s', .und, EnvLe.refl E, Mono.refl g, h2, relV_und, h3⟩)
        · have rv := RelS.cells (S.opd hu)
          obtain ⟨g1, s1, cs, m1, S2, hcs, h9⟩ := holdCs_ok S rv h
          obtain ⟨w', s', h1, h2, h3⟩ := run_nodeStore S2 ho (RelC.mono (EnvLe.refl E) m1 (S.opd hc)) (by rw [reAgg_cells]; exact hcs) h9
          exact .inr (.inl ⟨w', h1, E, g1, s', .und, EnvLe.refl E, m1, h2, relV_und, h3⟩)
      · split at h
        · obtain ⟨w', s', h1, h2, h3⟩ := run_nextStore S ho (S.opd hc) (S.opd hu) h
          exact .inr (.inl ⟨w', h1, E, g, s', .und, EnvLe.refl E, Mono.refl g, h2, relV_und, h3⟩)
        · exact old h
      · obtain ⟨g1, s1, cs, m1, S2, hcs, h9⟩ := holdCs_ok S (RelS.cells (S.opd hu)) h
        obtain ⟨w', s', h1, h2, h3⟩ := run_storeV S2 ho (RelC.mono (EnvLe.refl E) m1 (S.opd hc)) (reAgg_rel (S.opd hu) hcs) h9
        exact .inr (.inl ⟨w', h1, E, g1, s', .und, EnvLe.refl E, m1, h2, relV_und, h3⟩)
      · exact old h
    · exact h.elim
  · rename_i t ho
    split at h
    · rename_i z hz
      split at h
      · rename_i e he
        exact OpR.ex (run_alloc_b S ho hz he h)
      · exact OpR.ex (run_alloc S ho hz h)
    · exact h.elim
  · rename_i t x ho
    obtain ⟨v, hv, h⟩ := op1_ok h
    split at h
    · exact OpR.ex (run_box S ho (S.opd hv) h)
    · exact h.elim
  · rename_i x ho
    obtain ⟨c, hc, h⟩ := cl1_ok h
    have r := S.opd hc
    have key : ∀ q : Addr, a.eval x = .pointer (some q) → (execOp a.eval o).run X.P w = .ok (.value (a.eval x)) w := fun q hq => by simp [execOp, ho, hq]
    split at h
    · obtain ⟨bb, h1, h2⟩ := r
      exact OpR.val (key _ h2) (Out.here S (S.opd hc) h)
    · obtain ⟨h0, v, h1, h2⟩ := r
      obtain ⟨cs, h3, _⟩ := elemD h1 h0.1 h0.2.1
      obtain ⟨q, hq, _⟩ := h3 g (Mono.refl g)
      rw [hq] at h2
      exact OpR.val (key _ h2) (Out.here S (S.opd hc) h)
    · obtain ⟨v, h1, h2, q, hq⟩ := r
      exact OpR.val (key _ hq) (Out.here S (S.opd hc) h)
    · exact OpR.val (key _ r.2.1) (Out.here S (S.opd hc) h)
    · exact h.elim
  · rename_i t x j ho
    obtain ⟨c, hc, h⟩ := cl1_ok h
    split at h
    · rename_i f hf
      split at h
      · rename_i ie hie
        obtain ⟨hs, h⟩ := if_ok h
        split at h
        · rename_i c' hc'
          obtain ⟨v, h1, h2⟩ := run_addrF (w := w) ho (S.opd hc) hf hie hs hc'
          exact OpR.val h1 (Out.here S (sv := .c c') h2 h)
        · exact h.elim
      · exact h.elim
    · exact h.elim
  · rename_i t x i ho
    obtain ⟨c, hc, h⟩ := cl1_ok h
    obtain ⟨q, hq, h⟩ := cl1_ok h
    split at h
    · exact OpR.er S (run_indexAddrV S ho (S.opd hc) (relV_int (S.opd hq)).1 h)
    · exact h.elim
  · rename_i t x i ho
    obtain ⟨c, hc, h⟩ := cl1_ok h
    obtain ⟨q, hq, h⟩ := cl1_ok h
    split at h
    · obtain ⟨h0, h1, h⟩ := h
      exact OpR.er S (run_index ho (by assumption) (S.opd hc).1 (S.opd hq).1 h0 h1 h)
    · exact h.elim
  · rename_i t x lo hi ho
    obtain ⟨c, hc, h⟩ := cl1_ok h
    obtain ⟨l, h, hl⟩ := opt1_ok S h
    obtain ⟨m, h, hm⟩ := opt1_ok S h
    split at h
    · rename_i i j hi' hj'
      exact OpR.er S (run_sliceK S ho (S.opd hc) (hl _ hi') (hm _ hj') h)
    · exact h.elim
  · rename_i t ps ho
    split at h
    · rename_i l hl
      exact OpR.er S (run_buildV ho (partsV_ok S hl) h)
    · exact h.elim
  · rename_i t m ps ho
    split at h
    · rename_i l hl
      exact OpR.ex (run_buildSliceV S ho (partsV_ok S hl) h)
    · exact h.elim
  · rename_i src dst x ho
    obtain ⟨v, hv, h⟩ := op1_ok h
    exact OpR.ex (run_convV S ho (S.opd hv) h)
  · rename_i f first captured ho
    obtain ⟨hf, h⟩ := if_ok h
    split at h
    · rename_i l hl
      split at h
      · rename_i cs hcs
        have r := capsOf_ok hcs (opds_ok S hl)
        have hf' : first = #[] := Array.isEmpty_iff.1 hf
        refine OpR.val (v := .func (.func f) #[] (captured.toList.map a.eval).toArray) ?_ (Out.here S (sv := .c (.fn f cs)) ⟨_, r, rfl⟩ h)
        subst hf'
        have e : captured.map a.eval = (captured.toList.map a.eval).toArray := by
          apply Array.ext'; simp
        simp [execOp, ho, Instr.makeFunc, e]
      · exact h.elim
    · exact h.elim
  · rename_i t x ho
    obtain ⟨c, hc, h⟩ := cl1_ok h
    exact OpR.er S (run_ifaceV ho (S.opd hc) h)
  · rename_i x t0 t ho
    obtain ⟨c, hc, h⟩ := cl1_ok h
    exact OpR.er S (run_assertV ho (S.opd hc) h)
  · rename_i t ho
    exact OpR.ex (run_makeMapV S ho h)
  · rename_i t x y c ho
    obtain ⟨mx, hx, h⟩ := cl1_ok h
    obtain ⟨ky, hy, h⟩ := cl1_ok h
    exact OpR.er S (run_lookupV S ho (S.opd hx) (S.opd hy) h)
  · rename_i t x y z ho
    obtain ⟨mx, hx, h⟩ := cl1_ok h
    obtain ⟨ky, hy, h⟩ := cl1_ok h
    obtain ⟨u, hu, h⟩ := op1_ok h
    split at h
    · obtain ⟨w', h1, g', s', h2, h3, h4⟩ := run_mapPutV S ho (S.opd hx) (S.opd hy) (S.opd hu) h
      exact .inr (.inl ⟨w', h1, E, g', s', .und, EnvLe.refl E, h2, h3, relV_und, h4⟩)
    · exact h.elim
  · rename_i t x ho
    obtain ⟨c, hc, h⟩ := cl1_ok h
    exact OpR.ex (run_rangeM S ho (S.opd hc) h)
  · rename_i x ho
    obtain ⟨c, hc, h⟩ := cl1_ok h
    exact OpR.ex (run_nextV S ho (S.opd hc) h)
  · rename_i x ho
    obtain ⟨c, hc, h⟩ := cl1_ok h
    exact OpR.ex (run_nextM S ho (S.opd hc) h)
  · rename_i x ho
    obtain ⟨c, hc, h⟩ := cl1_ok h
    exact OpR.er S (run_entryM S ho (S.opd hc) h)
  · rename_i t x y ho
    obtain ⟨c, hc, h⟩ := cl1_ok h
    obtain ⟨d, hd, h⟩ := cl1_ok h
    exact OpR.ex (run_makeSliceV S ho (S.opd hc) (S.opd hd) h)
  · rename_i t x y ho
    obtain ⟨c, hc, h⟩ := cl1_ok h
    obtain ⟨d, hd, h⟩ := cl1_ok h
    exact OpR.ex (run_mapEntX S ho (S.opd hc) (S.opd hd) h)
  · rename_i t x y z ho
    obtain ⟨mx, hx, h⟩ := cl1_ok h
    obtain ⟨ky, hy, h⟩ := cl1_ok h
    obtain ⟨u, hu, h⟩ := op1_ok h
    split at h
    · obtain ⟨w', h1, g', s', h2, h3, h4⟩ := run_entryStoreV S ho (S.opd hx) (S.opd hy) (S.opd hu) h
      exact .inr (.inl ⟨w', h1, E, g', s', .und, EnvLe.refl E, h2, h3, relV_und, h4⟩)
    · exact h.elim
  · rename_i t x y z ho
    obtain ⟨mx, hx, h⟩ := cl1_ok h
    obtain ⟨ky, hy, h⟩ := cl1_ok h
    obtain ⟨u, hu, h⟩ := op1_ok h
    split at h
    · obtain ⟨w', h1, g', s', h2, h3, h4⟩ := run_insertV S ho (S.opd hx) (S.opd hy) (S.opd hu) h
      exact .inr (.inl ⟨w', h1, E, g', s', .und, EnvLe.refl E, h2, h3, relV_und, h4⟩)
    · exact h.elim
  · rename_i c ho
    exact vCall_ok hct S ho h
  · exact h.elim
end
end Go.Lm

namespace Go.Lm
open Go Go.RowKit
section
variable {X : Vx} {n : Nat} {W : Base} {F : List Atom} {b : Bs} {E : Env} {g w : World} {s : Ov} {a : Act} {o : Oper}
theorem slot_put {t d : Nat} {v : SV} : b.slot (s.put (some d) v) t = if d = t then some v else b.slot s t := by
  unfold Bs.slot Ov.put
  simp only [lookS]
  by_cases e : d = t
  · subst e; simp
  · rw [beq_ne e, if_neg e]; rfl
theorem Sta.told (S : Sta n W F b E g w s a) {d : Nat} {v : SV} (h : RelV E g v (a.tmps.getD d undef)) : Sta n W F b E g w (s.put (some d) v) a := by
  refine ⟨S.size, S.defers, fun t u hu => ?_, S.sat, S.top⟩
  rw [slot_put] at hu
  by_cases e : d = t
  · subst e
    rw [if_pos rfl] at hu
    obtain rfl := Option.some.inj hu
    exact h
  · rw [if_neg e] at hu; exact S.fr t u hu
theorem Sta.put (S : Sta n W F b E g w s a) {d : Option Nat} {v : SV} {u : Value} (hd : (match d with | some d => Nat.blt d n | none => true) = true) (h : RelV E g v u) : Sta n W F b E g w (s.put d v) (a.put d u) := by
  cases d with
  | none => exact S
  | some d =>
    have hd' : d < n := by simpa using hd
    refine ⟨by simp [Act.put, S.size], S.defers, fun t x hx => ?_, S.sat, S.top⟩
    rw [slot_put] at hx
    by_cases e : d = t
    · subst e
      rw [if_pos rfl] at hx
      obtain rfl := Option.some.inj hx
      simpa [Act.put, S.size, hd'] using h
    · rw [if_neg e] at hx
      have := S.fr t x hx
      simpa only [Act.put, Array.getD_eq_getD_getElem?, Array.getElem?_setIfInBounds_ne e] using this
theorem wantV_ok {ops : Array Oper} {K : Bool → Ov → Prop} (S : Sta n W F b E g w s a) (h : wantV ops b s o K) : ∃ q s', Region.wanted o (yielded ops a.tmps) = q ∧ Sta n W F b E g w s' a ∧ K q s' := by
  unfold wantV at h
  split at h
  · rename_i hg
    exact ⟨true, s, by unfold Region.wanted; rw [hg], S, h⟩
  · rename_i j wt hg
    split at h
    · exact h.elim
    · rename_i d hd
      split at h
      · rename_i v hv
        obtain ⟨hx, _⟩ := S.fr d _ hv
        have hw : Region.wanted o (yielded ops a.tmps) = (v == wt) := by
          unfold Region.wanted
          rw [hg]
          simp only
          unfold yielded
          rw [hd]
          have : (a.tmps[d]?).getD undef = .bool v := by rw [← Array.getD_eq_getD_getElem?]; exact hx
          cases hq : a.tmps[d]? with
          | none => rw [hq] at this; simp [undef] at this
          | some y => rw [hq] at this; simp at this; subst this; cases v <;> cases wt <;> simp [hq]
        rcases br_cases h with ⟨e, h⟩ | ⟨e, h⟩ <;> subst e
        · exact ⟨_, _, hw, S.told (by rw [hx]; exact relV_bool _), h⟩
        · exact ⟨_, _, hw, S.told (by rw [hx]; exact relV_bool _), h⟩
      · rename_i l hv
        obtain ⟨us, _, hx⟩ := S.fr d _ hv
        have hw : Region.wanted o (yielded ops a.tmps) = false := by
          unfold Region.wanted
          rw [hg]
          simp only
          unfold yielded
          rw [hd]
          have : (a.tmps[d]?).getD undef = .tuple us.toArray := by rw [← Array.getD_eq_getD_getElem?]; exact hx
          cases hq : a.tmps[d]? with
          | none => simp [hq]
          | some y => rw [hq] at this; simp at this; subst this; simp [hq]
        exact ⟨false, s, hw, S, h⟩
      · exact h.elim
def Step (n : Nat) (W : Base) (F : List Atom) (b : Bs) (E : Env) (g : World) (K : Ov → Prop) (a' : Act) (w' : World) : Prop := ∃ E' g' s', EnvLe E E' ∧ Mono g g' ∧ Sta n W F b E' g' w' s' a' ∧ K s'
theorem OpR.wp {P : Program} {R : Value → World → Prop} {K : Act → World → Prop} {Q : Exit → Act → World → Prop} (h : OpR P o a w R) (k : ∀ v w', R v w' → K (a.put o.dst v) w') : o.wp P a w K Q := by
  unfold Oper.wp
  rcases h with ⟨v, w', hr, h⟩ | ⟨w', hr, h⟩ | ⟨f, args, hr, h⟩
  · rw [hr]; exact k v w' h
  · rw [hr]; exact k undef w' h
  · rw [hr]
    simp only [Oper.upon]
    refine Calls.mono h ?_
    rintro e w' ⟨v, rfl, hv⟩
    exact k v w' hv
theorem vOp1_ok (hct : CtOkW W X.P X.ct) {ops : Array Oper} {K : Ov → Prop} (S : Sta n W F b E g w s a) (h : vOp1 X n ops b s o K) :
    (Region.wanted o (yielded ops a.tmps) = true ∧ OpR X.P o a w fun v w' => Step n W F b E g K (a.put o.dst v) w') ∨ (Region.wanted o (yielded ops a.tmps) = false ∧ Step n W F b E g K (a.put o.dst undef) w) := by
  unfold vOp1 at h
  obtain ⟨hd, h⟩ := if_ok h
  obtain ⟨q, s', hq, S', h⟩ := wantV_ok S h
  cases q with
  | true =>
    refine .inl ⟨hq, ?_⟩
    have hr := vOp_ok hct S' h
    have key : ∀ v w', Out n W F b E g a (fun v s' => K (s'.put o.dst v)) v w' → Step n W F b E g K (a.put o.dst v) w' := fun v w' ⟨E', g', s2, sv, he, hm, S2, r, hk⟩ => ⟨E', g', _, he, hm, S2.put hd r, hk⟩
    rcases hr with ⟨v, w', hr, h⟩ | ⟨w', hr, h⟩ | ⟨f, args, hr, h⟩
    · exact .inl ⟨v, w', hr, key v w' h⟩
    · exact .inr (.inl ⟨w', hr, key undef w' h⟩)
    · exact .inr (.inr ⟨f, args, hr, h.mono key⟩)
  | false => exact .inr ⟨hq, E, g, _, EnvLe.refl E, Mono.refl g, S'.put hd relV_und, h⟩
theorem vOps_ok (hct : CtOkW W X.P X.ct) {ops : Array Oper} {Q : Exit → Act → World → Prop} : ∀ {rest : List Oper} {s : Ov} {E : Env} {g w : World} {a : Act} {K : Ov → Prop}, Sta n W F b E g w s a → vOps X n ops b rest s K →
    (∀ a' w', Step n W F b E g K a' w' → Q .normal a' w') → wpList X.P ops Q rest a w
  | [], s, E, g, w, a, K, S, h, k => wpList_nil (k a w ⟨E, g, s, EnvLe.refl E, Mono.refl g, S, h⟩)
  | o :: rest, s, E, g, w, a, K, S, h, k => by
    rcases vOp1_ok hct S h with ⟨hq, hr⟩ | ⟨hq, hr⟩
    · refine wpR_of hq fun K' hK => hr.wp fun v w' ⟨E', g', s', he, hm, S', h'⟩ => hK _ _ (vOps_ok hct S' h' fun a2 w2 ⟨E2, g2, s2, he2, hm2, S2, h2⟩ => k _ _ ⟨E2, g2, s2, he.trans he2, hm.trans hm2, S2, h2⟩)
    · obtain ⟨E', g', s', he, hm, S', h'⟩ := hr
      exact wpList_skip hq (vOps_ok hct S' h' fun a2 w2 ⟨E2, g2, s2, he2, hm2, S2, h2⟩ => k _ _ ⟨E2, g2, s2, he.trans he2, hm.trans hm2, S2, h2⟩)
end
end Go.Lm

namespace Go.Lm
open Go Go.RowKit
def Waits (ops : Array Oper) (i j : Nat) : Prop := ∃ f, reach ops f i j = true
def Agree (ops : Array Oper) (dn : List Nat) (listed : Array Bool) (a c : Act) : Prop := ∀ t, (∀ (i : Nat) (o : Oper), i ∈ dn → ops[i]? = some o → o.dst = some t → listed.getD i false = true) → a.tmps.getD t undef = c.tmps.getD t undef
structure TInv (ops : Array Oper) (n : Nat) (Ord : List Nat → Prop) (pu : Nat → Bool) (T : List Nat → List Nat → Act → World → Prop) (listed : Array Bool) (a : Act) (w : World) (dn rest : List Nat) (c : Act) : Prop where
  eq : Ord (dn ++ rest)
  lsize : listed.size = ops.size
  closed : ∀ (j : Nat) (o : Oper), ops[j]? = some o → listed.getD j false = true → ∀ e ∈ o.after, Region.binds .any e = true → listed.getD e.on false = true
  size : a.tmps.size = n
  defers : a.defers = []
  t : T dn rest c w
  agree : Agree ops dn listed a c
  kept : ∀ i ∈ dn, pu i = false → listed.getD i false = true
  old : ∀ i, listed.getD i false = true → i ∈ dn
section
variable {P : Program} {ops : Array Oper} {n : Nat} {Q : Exit → Act → World → Prop}
theorem act_put_get {a : Act} {d : Option Nat} {v : Value} {t : Nat} (h : d ≠ some t) : (a.put d v).tmps.getD t undef = a.tmps.getD t undef := by
  cases d with
  | none => rfl
  | some d =>
    have : d ≠ t := fun e => h (by rw [e])
    simp [Act.put, Array.getD_eq_getD_getElem?, Array.getElem?_setIfInBounds_ne this]
theorem act_put_at {a : Act} {d : Nat} {v : Value} (h : d < a.tmps.size) : (a.put (some d) v).tmps.getD d undef = v := by simp [Act.put, h]
theorem getD_set_same {listed : Array Bool} {i : Nat} (h : i < listed.size) : (listed.setIfInBounds i true).getD i false = true := by simp [Array.getD_eq_getD_getElem?, h]
theorem agree_slots {o : Oper} {a c : Act} (hs : noSel o = true) (h : ∀ t ∈ slotsOf ops o, a.tmps.getD t undef = c.tmps.getD t undef) (ha : a.tmps.size = n) (hc : c.tmps.size = n) :
    execOp a.eval o = execOp c.eval o ∧ Region.wanted o (yielded ops a.tmps) = Region.wanted o (yielded ops c.tmps) := by
  refine ⟨execOp_congr o (fun cs b hb => by simp [noSel, hb] at hs) fun x hx => ?_, ?_⟩
  · cases x with
    | tmp t => exact h t (List.mem_append_left _ (List.mem_filterMap.2 ⟨.tmp t, by simpa using hx, rfl⟩))
    | const _ => rfl
    | global _ => rfl
    | func _ => rfl
  · unfold Region.wanted
    cases hg : o.guard with
    | none => rfl
    | some gq =>
      obtain ⟨gi, want⟩ := gq
      have : yielded ops a.tmps gi = yielded ops c.tmps gi := by
        unfold yielded
        cases hgo : (ops[gi]?).bind (·.dst) with
        | none => rfl
        | some d =>
          have hm : d ∈ slotsOf ops o := by
            unfold slotsOf
            refine List.mem_append_right _ ?_
            rw [hg]; simp [hgo]
          have := h d hm
          by_cases hd : d < n
          · have h1 : d < a.tmps.size := by rw [ha]; exact hd
            have h2 : d < c.tmps.size := by rw [hc]; exact hd
            simp only [Array.getD_eq_getD_getElem?, Array.getElem?_eq_getElem h1, Array.getElem?_eq_getElem h2, Option.getD_some] at this
            simp only [Option.bind_some, Array.getElem?_eq_getElem h1, Array.getElem?_eq_getElem h2, this]
          · have h1 : a.tmps.size ≤ d := by rw [ha]; exact Nat.le_of_not_lt hd
            have h2 : c.tmps.size ≤ d := by rw [hc]; exact Nat.le_of_not_lt hd
            simp only [Option.bind_some, Array.getElem?_eq_none h1, Array.getElem?_eq_none h2]
      simp only [this]
set_option maxHeartbeats 1000000 in
theorem any_T {Ord : List Nat → Prop} {pu : Nat → Bool} {T : List Nat → List Nat → Act → World → Prop} (hE : edgesOk ops = true) (hD : dstsOk ops n = true) (hnd : ∀ ord, Ord ord → ord.Nodup) (hord : ∀ ord, Ord ord → ∀ i, i ∈ ord ↔ i < ops.size)
    (h5 : ∀ dn rest c w i, T dn rest c w → Ord (dn ++ rest) → i ∈ rest → (∀ j, Waits ops i j → pu j = false → j ∈ dn) → ∃ r1 r2, Ord (dn ++ (r1 ++ i :: r2)) ∧ T dn (r1 ++ i :: r2) c w ∧ ∀ j ∈ r1, pu j = true)
    (hB : ∀ (i k : Nat) (oi ok : Oper) (d : Nat), ops[i]? = some oi → ops[k]? = some ok → ok.dst = some d → d ∈ slotsOf ops oi → Waits ops i k ∨ pu k = false)
    (hsz : ∀ dn rest c w, T dn rest c w → c.tmps.size = n ∧ c.defers = [])
    (h1 : ∀ dn rest c w i o, T dn rest c w → i ∈ dn → pu i = true → ops[i]? = some o → (∀ j ∈ dn, pu j = false → ¬ Waits ops j i) → ∃ v, (Region.wanted o (yielded ops c.tmps) = true → (execOp c.eval o).run P w = .ok (.value v) w) ∧ (Region.wanted o (yielded ops c.tmps) = false → v = undef) ∧ T dn rest (c.put o.dst v) w)
    (h2 : ∀ dn i rest c w o, T dn (i :: rest) c w → pu i = true → ops[i]? = some o → ∃ v, T (dn ++ [i]) rest (c.put o.dst v) w)
    (h3 : ∀ dn i rest c w o, T dn (i :: rest) c w → pu i = false → ops[i]? = some o → (Region.wanted o (yielded ops c.tmps) = true ∧ OpR P o c w fun v w' => T (dn ++ [i]) rest (c.put o.dst v) w') ∨ (Region.wanted o (yielded ops c.tmps) = false ∧ T (dn ++ [i]) rest (c.put o.dst undef) w))
    (h4 : ∀ dn c w, T dn [] c w → Q .normal c w) :
    ∀ (fuel : Nat) (listed : Array Bool) (a : Act) (w : World) (dn rest : List Nat) (c : Act), TInv ops n Ord pu T listed a w dn rest c → ((List.range ops.size).filter fun i => !listed.getD i true).length ≤ fuel → wpAny P .any ops Q fuel listed a w := by
  have edges : ∀ (i : Nat) (o : Oper), ops[i]? = some o → ∀ e ∈ o.after, Region.binds .any e = true → e.on < i := fun i o ho e he hb => by
    have hi : i < ops.size := (Array.getElem?_eq_some_iff.1 ho).1
    have h1 := List.all_eq_true.1 hE i (List.mem_range.2 hi)
    simp only [ho, Bool.and_eq_true] at h1
    have h2 := (Array.all_eq_true_iff_forall_mem.1 h1.1) e he
    simpa [hb] using h2
  have sel : ∀ (i : Nat) (o : Oper), ops[i]? = some o → noSel o = true := fun i o ho => by
    have hi : i < ops.size := (Array.getElem?_eq_some_iff.1 ho).1
    have h1 := List.all_eq_true.1 hE i (List.mem_range.2 hi)
    simp only [ho, Bool.and_eq_true] at h1
    exact h1.2
  have dlt : ∀ (i : Nat) (o : Oper) (d : Tmp), ops[i]? = some o → o.dst = some d → d < n := fun i o d ho hd => by
    have hi : i < ops.size := (Array.getElem?_eq_some_iff.1 ho).1
    have h1 := List.all_eq_true.1 hD i (List.mem_range.2 hi)
    simp only [ho, Option.bind_some, hd, Bool.and_eq_true] at h1
    simpa using h1.1
  have dne' : ∀ (i j : Nat) (oi oj : Oper) (d : Tmp), j < i → ops[i]? = some oi → ops[j]? = some oj → oi.dst = some d → oj.dst = some d → False := fun i j oi oj d hji hi hj hdi hdj => by
    have hi' : i < ops.size := (Array.getElem?_eq_some_iff.1 hi).1
    have h1 := List.all_eq_true.1 hD i (List.mem_range.2 hi')
    simp only [hi, Option.bind_some, hdi, Bool.and_eq_true] at h1
    have h2 := List.all_eq_true.1 h1.2 j (List.mem_range.2 hji)
    simp [hj, hdj] at h2
  have dne : ∀ (i j : Nat) (oi oj : Oper) (d : Tmp), ops[i]? = some oi → ops[j]? = some oj → oi.dst = some d → oj.dst = some d → i = j := fun i j oi oj d hi hj hdi hdj => by
    rcases Nat.lt_trichotomy i j with h | h | h
    · exact (dne' j i oj oi d h hj hi hdj hdi).elim
    · exact h
    · exact (dne' i j oi oj d h hi hj hdi hdj).elim
  have unl : ∀ (listed : Array Bool) i, i < listed.size → (listed.getD i true = false ↔ listed.getD i false = false) := fun listed i hi => by
    simp [Array.getD_eq_getD_getElem?, hi]
  have lstlt : ∀ (listed : Array Bool) i, listed.getD i false = true → i < listed.size := fun listed i hi => by
    rcases Nat.lt_or_ge i listed.size with h | h
    · exact h
    · simp [Array.getD_eq_getD_getElem?, Array.getElem?_eq_none h] at hi
  have done : ∀ {listed : Array Bool} {a : Act} {w : World} {dn rest : List Nat} {c : Act}, TInv ops n Ord pu T listed a w dn rest c → Region.ready .any ops listed = [] → ∀ i, i < ops.size → listed.getD i false = true := by
    intro listed a w dn rest c inv hr i
    induction i using Nat.strongRecOn with
    | _ i ih =>
      intro hi
      cases hl : listed.getD i false with
      | true => rfl
      | false =>
        exfalso
        have hu : listed.getD i true = false := (unl listed i (by rw [inv.lsize]; exact hi)).2 hl
        have hmem : i ∈ Region.ready .any ops listed := mem_ready.2 ⟨hu, ops[i], by simp [hi], fun e he hb => by
          have hlt := edges i ops[i] (by simp [hi]) e he hb
          exact ih e.on hlt (by omega)⟩
        rw [hr] at hmem
        cases hmem
  have fin : ∀ {listed : Array Bool} {a : Act} {w : World} {dn rest : List Nat} {c : Act}, TInv ops n Ord pu T listed a w dn rest c → Region.ready .any ops listed = [] → Q .normal a w := fun {listed a w dn rest c} inv hr => by
    have hall := done inv hr
    have hrest : rest = [] := by
      cases rest with
      | nil => rfl
      | cons i r =>
        exfalso
        have hi : i ∈ dn ++ i :: r := by simp
        have h5 := inv.old i (hall i ((hord _ inv.eq i).1 hi))
        have := hnd _ inv.eq
        rw [List.nodup_append] at this
        exact this.2.2 i h5 i (by simp) rfl
    have ht := inv.t
    rw [hrest] at ht
    have hs := hsz _ _ _ _ ht
    have e : a = c := Act.ext' (fun t => by
      have := inv.agree t fun i o _ ho _ => hall i (Array.getElem?_eq_some_iff.1 ho).1
      by_cases hd : t < n
      · have h1 : t < a.tmps.size := by rw [inv.size]; exact hd
        have h2 : t < c.tmps.size := by rw [hs.1]; exact hd
        simp only [Array.getD_eq_getD_getElem?, Array.getElem?_eq_getElem h1, Array.getElem?_eq_getElem h2, Option.getD_some] at this
        rw [Array.getElem?_eq_getElem h1, Array.getElem?_eq_getElem h2, this]
      · rw [Array.getElem?_eq_none (by rw [inv.size]; omega), Array.getElem?_eq_none (by rw [hs.1]; omega)]) (by rw [inv.defers, hs.2])
    rw [e]; exact h4 _ _ _ ht
  -- the frame that is told runs ahead
  have adv : ∀ {listed : Array Bool} {a : Act} {w : World} (r1 : List Nat) {dn r2 : List Nat} {c : Act}, TInv ops n Ord pu T listed a w dn (r1 ++ r2) c → (∀ j ∈ r1, pu j = true ∧ listed.getD j false = false) → ∃ c', TInv ops n Ord pu T listed a w (dn ++ r1) r2 c' := by
    intro listed a w r1
    induction r1 with
    | nil => intro dn r2 c inv _; exact ⟨c, by rw [List.append_nil]; exact inv⟩
    | cons i r1 ih =>
      intro dn r2 c inv hp
      obtain ⟨hpi, hli⟩ := hp i (by simp)
      have hi : i < ops.size := (hord _ inv.eq i).1 (by simp)
      obtain ⟨v, hv⟩ := h2 dn i (r1 ++ r2) c w ops[i] inv.t hpi (by simp [hi])
      have inv' : TInv ops n Ord pu T listed a w (dn ++ [i]) (r1 ++ r2) (c.put ops[i].dst v) := by
        refine ⟨by have := inv.eq; simpa using this, inv.lsize, inv.closed, inv.size, inv.defers, hv, fun t ht => ?_, fun j hj hpj => ?_, fun j hj => List.mem_append_left _ (inv.old j hj)⟩
        · have hne : ops[i].dst ≠ some t := fun e => by
            have := ht i ops[i] (by simp) (by simp [hi]) e
            rw [hli] at this; cases this
          rw [act_put_get hne]
          exact inv.agree t fun k o hk => ht k o (List.mem_append_left _ hk)
        · rcases List.mem_append.1 hj with hj | hj
          · exact inv.kept j hj hpj
          · have : j = i := by simpa using hj
            subst this
            rw [hpi] at hpj; cases hpj
      obtain ⟨c', hc'⟩ := ih inv' fun j hj => hp j (List.mem_cons_of_mem _ hj)
      refine ⟨c', ?_⟩
      rw [List.append_assoc] at hc'
      exact hc'
  intro fuel
  induction fuel with
  | zero =>
    intro listed a w dn rest c inv hc
    have hr : Region.ready .any ops listed = [] := by
      cases hr : Region.ready .any ops listed with
      | nil => rfl
      | cons i r =>
        exfalso
        have hmem : i ∈ Region.ready .any ops listed := by rw [hr]; simp
        obtain ⟨hu, o, ho, _⟩ := mem_ready.1 hmem
        have : i ∈ (List.range ops.size).filter fun i => !listed.getD i true := List.mem_filter.2 ⟨List.mem_range.2 (Array.getElem?_eq_some_iff.1 ho).1, by simp [hu]⟩
        have := List.length_pos_of_mem this
        omega
    exact ⟨hr, fin inv hr⟩
  | succ fuel ih =>
    intro listed a w dn rest c inv hc
    refine ⟨fin inv, fun i hi => ?_⟩
    obtain ⟨hu, o, ho, hdeps⟩ := mem_ready.1 hi
    have hlt : i < ops.size := (Array.getElem?_eq_some_iff.1 ho).1
    have hlt' : i < listed.size := by rw [inv.lsize]; exact hlt
    have hul : listed.getD i false = false := (unl listed i hlt').1 hu
    have hcount : ((List.range ops.size).filter fun k => !(listed.setIfInBounds i true).getD k true).length ≤ fuel := by
      have := filter_lt (p := fun k => !listed.getD k true) (q := fun k => !(listed.setIfInBounds i true).getD k true) (List.range ops.size) (fun x _ hx => by
          by_cases hxi : i = x
          · subst hxi; simpa using hu
          · simpa [getD_set_ne true hxi] using hx) i (List.mem_range.2 hlt) (by simp [hu]) (by simp [Array.getD_eq_getD_getElem?, hlt'])
      omega
    have set_get : ∀ k, (listed.setIfInBounds i true).getD k false = true → k ≠ i → listed.getD k false = true := fun k hk hne => by
      rwa [getD_set_ne false (Ne.symm hne)] at hk
    have closed' : ∀ (j : Nat) (oj : Oper), ops[j]? = some oj → (listed.setIfInBounds i true).getD j false = true → ∀ e ∈ oj.after, Region.binds .any e = true → (listed.setIfInBounds i true).getD e.on false = true := fun j oj hj hlj e he hb => by
      by_cases hji : j = i
      · subst hji
        rw [ho] at hj
        obtain rfl := Option.some.inj hj
        exact getD_set_true (hdeps e he hb)
      · exact getD_set_true (inv.closed j oj hj (set_get j hlj hji) e he hb)
    have waited : ∀ k, Waits ops i k → listed.getD k false = true := fun k ⟨f, hr⟩ => by
      cases f with
      | zero => simp [reach] at hr
      | succ f =>
        unfold reach at hr
        simp only [ho] at hr
        obtain ⟨q, hq, hb⟩ := Array.any_eq_true.1 hr
        simp only [Bool.and_eq_true, Bool.or_eq_true] at hb
        have hl := hdeps _ (Array.getElem_mem hq) hb.1
        rcases hb.2 with he | he
        · rw [← Nat.eq_of_beq_eq_true he]; exact hl
        · exact reach_listed inv.closed f _ _ he hl
    -- what it reads stands in both frames
    have same : ∀ {dn' rest' : List Nat} {c' : Act}, TInv ops n Ord pu T listed a w dn' rest' c' → execOp a.eval o = execOp c'.eval o ∧ Region.wanted o (yielded ops a.tmps) = Region.wanted o (yielded ops c'.tmps) := fun {dn' rest' c'} inv' =>
      agree_slots (n := n) (sel i o ho) (fun t ht => inv'.agree t fun k ok hkd hk hdk => (hB i k o ok t ho hk hdk ht).elim (waited k) (inv'.kept k hkd)) inv'.size (hsz _ _ _ _ inv'.t).1
    have next : ∀ {dn' rest' : List Nat} {c' : Act} {v : Value} {w' : World}, TInv ops n Ord pu T listed a w dn' rest' c' → ∀ (dn'' rest'' : List Nat), Ord (dn'' ++ rest'') → i ∈ dn'' → (∀ j, j ∈ dn'' → j ∈ dn' ∨ j = i) → (∀ j ∈ dn', j ∈ dn'') → T dn'' rest'' (c'.put o.dst v) w' → TInv ops n Ord pu T (listed.setIfInBounds i true) (a.put o.dst v) w' dn'' rest'' (c'.put o.dst v) := fun {dn' rest' c' v w'} inv' dn'' rest'' he hin hsub hsup ht => by
      have hcs := (hsz _ _ _ _ inv'.t).1
      refine ⟨he, by simp [inv'.lsize], closed', ?_, ?_, ht, fun t hlt2 => ?_, fun j hj hpj => ?_, fun j hj => ?_⟩
      · cases hod : o.dst <;> simp [Act.put, inv'.size]
      · cases hod : o.dst <;> simp [Act.put, inv'.defers]
      · by_cases hod : o.dst = some t
        · have hdn := dlt i o t ho hod
          rw [hod, act_put_at (by rw [inv'.size]; exact hdn), act_put_at (by rw [hcs]; exact hdn)]
        · rw [act_put_get hod, act_put_get hod]
          refine inv'.agree t fun k ok hk hok hdk => ?_
          have hki : k ≠ i := fun e => by subst e; rw [ho] at hok; obtain rfl := Option.some.inj hok; exact hod hdk
          exact set_get k (hlt2 k ok (hsup k hk) hok hdk) hki
      · by_cases hji : j = i
        · subst hji; exact getD_set_same hlt'
        · rcases hsub j hj with h | h
          · exact getD_set_true (inv'.kept j h hpj)
          · exact absurd h hji
      · by_cases hji : j = i
        · rw [hji]; exact hin
        · exact hsup j (inv'.old j (set_get j hj hji))
    have again : pu i = true → ∀ {dn' rest' : List Nat} {c' : Act}, TInv ops n Ord pu T listed a w dn' rest' c' → i ∈ dn' → wpOp P ops Q i (wpAny P .any ops Q fuel (listed.setIfInBounds i true)) a w := fun hpi {dn' rest' c'} inv' hin => by
      obtain ⟨v, hv1, hv2, hv3⟩ := h1 dn' rest' c' w i o inv'.t hin hpi ho fun j hj hpj hw => by
        have hlj := inv'.kept j hj hpj
        obtain ⟨f, hf⟩ := hw
        have := reach_listed inv'.closed f _ _ hf hlj
        rw [hul] at this; cases this
      obtain ⟨e1, e2⟩ := same inv'
      have go : wpAny P .any ops Q fuel (listed.setIfInBounds i true) (a.put o.dst v) w :=
        ih _ _ _ dn' rest' _ (next inv' dn' rest' inv'.eq hin (fun j hj => .inl hj) (fun j hj => hj) hv3) hcount
      unfold wpOp
      simp only [ho]
      split
      · rename_i hw
        left
        unfold Oper.wp
        rw [e1, hv1 (by rw [← e2]; exact hw)]
        exact go
      · rename_i hw
        have := hv2 (by rw [← e2]; simpa using hw)
        rw [← this]; exact go
    by_cases hin : i ∈ dn
    · have hpi : pu i = true := by
        cases hp : pu i with
        | true => rfl
        | false =>
          have := inv.kept i hin hp
          rw [hul] at this; cases this
      exact again hpi inv hin
    · have hir : i ∈ rest := by
        have : i ∈ dn ++ rest := (hord _ inv.eq i).2 hlt
        rcases List.mem_append.1 this with h | h
        · exact absurd h hin
        · exact h
      obtain ⟨r1, r2, he, hT, hpure⟩ := h5 dn rest c w i inv.t inv.eq hir fun j hw _ => inv.old j (waited j hw)
      have inv : TInv ops n Ord pu T listed a w dn (r1 ++ i :: r2) c := ⟨he, inv.lsize, inv.closed, inv.size, inv.defers, hT, inv.agree, inv.kept, inv.old⟩
      have hnd' := hnd _ inv.eq
      rw [List.nodup_append] at hnd'
      have hr1 : ∀ j ∈ r1, pu j = true ∧ listed.getD j false = false := fun j hj => by
        have hjd : j ∉ dn := fun h => hnd'.2.2 j h j (by simp [hj]) rfl
        have hlj : listed.getD j false = false := by
          cases hl : listed.getD j false with
          | false => rfl
          | true => exact absurd (inv.old j hl) hjd
        exact ⟨hpure j hj, hlj⟩
      cases hpi : pu i with
      | true =>
        obtain ⟨c', inv'⟩ := adv (r1 ++ [i]) (dn := dn) (r2 := r2) (c := c) (by simpa using inv) fun j hj => by
          rcases List.mem_append.1 hj with h | h
          · exact hr1 j h
          · have : j = i := by simpa using h
            subst this; exact ⟨hpi, hul⟩
        exact again hpi inv' (by simp)
      | false =>
        obtain ⟨c', inv'⟩ := adv r1 (dn := dn) (r2 := i :: r2) (c := c) inv hr1
        obtain ⟨e1, e2⟩ := same inv'
        have go : ∀ v w', T (dn ++ r1 ++ [i]) r2 (c'.put o.dst v) w' → wpAny P .any ops Q fuel (listed.setIfInBounds i true) (a.put o.dst v) w' := fun v w' ht =>
          ih _ _ _ (dn ++ r1 ++ [i]) r2 _ (next inv' (dn ++ r1 ++ [i]) r2 (by have := inv.eq; simpa using this) (by simp) (fun j hj => by simpa [or_assoc] using hj) (fun j hj => List.mem_append_left _ hj) ht) hcount
        unfold wpOp
        simp only [ho]
        rcases h3 (dn ++ r1) i r2 c' w o inv'.t hpi ho with ⟨hw, hr⟩ | ⟨hw, ht⟩
        · rw [if_pos (by rw [e2]; exact hw)]
          left
          have hr' : OpR P o a w fun v w' => T (dn ++ r1 ++ [i]) r2 (c'.put o.dst v) w' := by
            unfold OpR at hr ⊢
            rw [e1]; exact hr
          exact hr'.wp go
        · rw [if_neg (by rw [e2, hw]; simp)]
          exact go undef w ht
end
end Go.Lm

namespace Go.Lm
open Go Go.RowKit
structure DT (f : (SV → Prop) → Prop) : Prop where
  mono : ∀ {K K' : SV → Prop}, (∀ v, K v → K' v) → f K → f K'
  det : ∀ {K : SV → Prop}, f K → f fun v => K v ∧ f fun v' => v' = v
namespace DT
variable {f g : (SV → Prop) → Prop}
theorem leaf (v : SV) : DT fun K => K v := ⟨fun h k => h v k, fun k => ⟨k, rfl⟩⟩
theorem no : DT fun _ => False := ⟨fun _ h => h, fun h => h.elim⟩
theorem imp {p : Prop} (h : DT f) : DT fun K => p → f K := ⟨fun m k hp => h.mono m (k hp), fun k hp => h.mono (fun _ q => ⟨q.1, fun _ => q.2⟩) (h.det (k hp))⟩
theorem and {p : Prop} (h : DT f) : DT fun K => p ∧ f K := ⟨fun m k => ⟨k.1, h.mono m k.2⟩, fun k => ⟨k.1, h.mono (fun _ q => ⟨q.1, k.1, q.2⟩) (h.det k.2)⟩⟩
theorem ex {α : Type} {f : α → (SV → Prop) → Prop} (h : ∀ x, DT (f x)) : DT fun K => ∃ x, f x K := ⟨fun m ⟨x, k⟩ => ⟨x, (h x).mono m k⟩, fun ⟨x, k⟩ => ⟨x, (h x).mono (fun _ q => ⟨q.1, x, q.2⟩) ((h x).det k)⟩⟩
theorem parted {c : Bool} (h : DT f) (h' : DT g) : DT fun K => br c (f K) (g K) := by cases c <;> assumption
theorem ite {p : Prop} [Decidable p] (h : DT f) (h' : DT g) : DT fun K => if p then f K else g K := by
  by_cases hp : p
  · simp only [if_pos hp]; exact h
  · simp only [if_neg hp]; exact h'
end DT
section
variable {X : Vx} {P : Program} {b : Bs} {s : Ov}
theorem DT.arith (k : IntKind) (z : Int) : DT (arith k z) := by unfold Lm.arith; repeat' (first | exact DT.leaf _ | exact DT.no | refine DT.and ?_ | refine DT.imp ?_ | refine DT.ite ?_ ?_ | refine DT.parted ?_ ?_ | split)
theorem DT.intB (op : BinOp) (k : IntKind) (x y : Int) : DT (intB op k x y) := by
  unfold Lm.intB
  repeat' (first | exact DT.arith _ _ | exact DT.leaf _ | exact DT.no | refine DT.and ?_ | refine DT.imp ?_ | refine DT.ite ?_ ?_ | refine DT.parted ?_ ?_ | split)
theorem DT.strB (op : BinOp) (x y : ByteArray) : DT (strB op x y) := by unfold Lm.strB; repeat' (first | exact DT.leaf _ | exact DT.no | refine DT.and ?_ | refine DT.imp ?_ | refine DT.ite ?_ ?_ | refine DT.parted ?_ ?_ | split)
theorem nilTy_plain {t : TypeId} {y : Cl} (h : plainT P t = true) : nilTy (P.underlying t) y = false := by
  unfold plainT at h
  unfold nilTy
  cases hu : P.underlying t with
  | none => rfl
  | some d => rw [hu] at h; cases d <;> first | rfl | cases h
theorem DT.intW (wr : Bool) (op : BinOp) (k : IntKind) (x y : Int) : DT (intW wr op k x y) := by
  unfold Lm.intW
  repeat' (first | exact DT.intB _ _ _ _ | exact DT.leaf _ | exact DT.no | refine DT.and ?_ | refine DT.imp ?_ | refine DT.ite ?_ ?_ | refine DT.parted ?_ ?_ | split)
theorem DT.binV {wr : Bool} {cst : Bool} {op : BinOp} {t : TypeId} {x y : SV} (h : plainT P t = true) : DT (binV wr P b s cst op t x y) := by
  unfold Lm.binV
  split
  · split
    · repeat' (first | exact DT.leaf _ | exact DT.no | refine DT.and ?_ | refine DT.imp ?_ | refine DT.ite ?_ ?_ | refine DT.parted ?_ ?_ | split)
    · repeat' (first | exact DT.leaf _ | exact DT.no | refine DT.and ?_ | refine DT.imp ?_ | refine DT.ite ?_ ?_ | refine DT.parted ?_ ?_ | split)
    · refine DT.ite (DT.intW _ _ _ _ _) DT.no
  · exact DT.strB _ _ _
  · repeat' (first | exact DT.leaf _ | exact DT.no | refine DT.and ?_ | refine DT.imp ?_ | refine DT.ite ?_ ?_ | refine DT.parted ?_ ?_ | split)
  · repeat' (first | exact DT.leaf _ | exact DT.no | refine DT.and ?_ | refine DT.imp ?_ | refine DT.ite ?_ ?_ | refine DT.parted ?_ ?_ | split)
  · simp only [nilTy_plain h, Bool.false_and, Bool.false_eq_true, if_false]
    repeat' (first | exact DT.leaf _ | exact DT.no | refine DT.and ?_ | refine DT.imp ?_ | refine DT.ite ?_ ?_ | refine DT.parted ?_ ?_ | split)
  · exact DT.no
theorem DT.unV {wr : Bool} {op : UnOp} {x : SV} : DT (unV wr op x) := by
  unfold Lm.unV
  repeat' (first | exact DT.intW _ _ _ _ _ | exact DT.arith _ _ | exact DT.leaf _ | exact DT.no | refine DT.and ?_ | refine DT.imp ?_ | refine DT.ite ?_ ?_ | refine DT.parted ?_ ?_ | split)
theorem DT.loadV {t : TypeId} {x : Cl} : DT (loadV P b s t x) := by
  unfold Lm.loadV
  repeat' (first | exact DT.leaf _ | (refine DT.ex fun _ => ?_) | exact DT.no | refine DT.and ?_ | refine DT.imp ?_ | refine DT.ite ?_ ?_ | refine DT.parted ?_ ?_ | split)
theorem DT.lenV {t : TypeId} {x : Cl} : DT (lenV P b s t x) := by
  unfold Lm.lenV
  repeat' (first | exact DT.leaf _ | (refine DT.ex fun _ => ?_) | exact DT.no | refine DT.and ?_ | refine DT.imp ?_ | refine DT.ite ?_ ?_ | refine DT.parted ?_ ?_ | split)
theorem DT.indexAddrV {t : TypeId} {x : Cl} {i : Int} : DT (indexAddrV P b s t x i) := by
  unfold Lm.indexAddrV
  repeat' (first | exact DT.leaf _ | exact DT.no | refine DT.and ?_ | refine DT.imp ?_ | refine DT.ite ?_ ?_ | refine DT.parted ?_ ?_ | split)
theorem DT.sliceK {t : TypeId} {x : Cl} {l h : Option Int} : DT (sliceK P b s t x l h) := by
  unfold Lm.sliceK
  repeat' (first | exact DT.leaf _ | exact DT.no | refine DT.and ?_ | refine DT.imp ?_ | refine DT.ite ?_ ?_ | refine DT.parted ?_ ?_ | split)
theorem DT.buildV {t : TypeId} {ps : List (Nat × S1)} : DT (buildV P t ps) := by
  unfold Lm.buildV
  repeat' (first | exact DT.leaf _ | exact DT.no | refine DT.and ?_ | refine DT.imp ?_ | refine DT.ite ?_ ?_ | refine DT.parted ?_ ?_ | split)
theorem DT.op1 {x : Operand} {f : SV → (SV → Prop) → Prop} (h : ∀ v, DT (f v)) : DT fun K => op1 b s x fun v => f v K := by
  unfold Lm.op1
  cases Lm.opd b s x with
  | none => exact DT.no
  | some v => exact h v
theorem DT.cl1 {x : Operand} {f : Cl → (SV → Prop) → Prop} (h : ∀ v, DT (f v)) : DT fun K => cl1 b s x fun v => f v K := by
  unfold Lm.cl1
  split
  · exact h _
  · exact DT.no
theorem DT.opt1 {x : Option Operand} {f : Option SV → (SV → Prop) → Prop} (h : ∀ v, DT (f v)) : DT fun K => opt1 b s x fun v => f v K := by
  unfold Lm.opt1
  cases x with
  | none => exact h _
  | some x => exact DT.op1 fun v => h (some v)
end
section
variable {X : Vx} {P : Program} {n : Nat} {W : Base} {F : List Atom} {b : Bs} {E : Env} {g w : World} {s s' : Ov} {a : Act} {o : Oper}
structure Near (b : Bs) (s s' : Ov) (o : Oper) : Prop where
  opd : ∀ x ∈ o.op.operands.toList, opd b s x = opd b s' x
  obj : ∀ x ∈ o.op.operands.toList, ∀ v, Lm.opd b s x = some v → ∀ l ∈ v.labels, b.obj s l = b.obj s' l
theorem op1_near {x : Operand} {k k' : SV → Prop} (N : Near b s s' o) (hx : x ∈ o.op.operands.toList) (hk : ∀ v, (∀ l ∈ v.labels, b.obj s l = b.obj s' l) → k v → k' v) (h : op1 b s x k) : op1 b s' x k' := by
  unfold op1 at h ⊢
  rw [← N.opd x hx]
  cases hv : Lm.opd b s x with
  | none => rw [hv] at h; exact h
  | some v => rw [hv] at h; exact hk v (N.obj x hx v hv) h
theorem cl1_near {x : Operand} {k k' : Cl → Prop} (N : Near b s s' o) (hx : x ∈ o.op.operands.toList) (hk : ∀ v, (∀ l ∈ v.labels, b.obj s l = b.obj s' l) → k v → k' v) (h : cl1 b s x k) : cl1 b s' x k' := by
  unfold cl1 at h ⊢
  rw [← N.opd x hx]
  cases hv : Lm.opd b s x with
  | none => rw [hv] at h; exact h
  | some v =>
    rw [hv] at h
    match v, hv, h with
    | .v (.c c), hv, h => exact hk c (fun l hl => N.obj x hx _ hv l hl) h
    | .v (.agg _), _, h => exact h
    | .tup _, _, h => exact h
    | .any, _, h => exact h
theorem opt1_near {x : Option Operand} {k k' : Option SV → Prop} (N : Near b s s' o) (hx : ∀ y, x = some y → y ∈ o.op.operands.toList) (hk : ∀ v, k v → k' v) (h : opt1 b s x k) : opt1 b s' x k' := by
  unfold opt1 at h ⊢
  cases x with
  | none => exact hk _ h
  | some y => exact op1_near N (hx y rfl) (fun v _ h => hk _ h) h
theorem loadV_near {t : TypeId} {c : Cl} {K : SV → Prop} (N : ∀ l ∈ c.labels, b.obj s l = b.obj s' l) : loadV P b s t c K = loadV P b s' t c K := by
  unfold loadV
  repeat' (first | rfl | (rw [N _ (by simp [Cl.labels])]; done) | split)
theorem lenV_near {t : TypeId} {c : Cl} {K : SV → Prop} (N : ∀ l ∈ c.labels, b.obj s l = b.obj s' l) : lenV P b s t c K = lenV P b s' t c K := by
  unfold lenV
  repeat' (first | rfl | (rw [N _ (by simp [Cl.labels])]; done) | split)
theorem indexAddrV_near {t : TypeId} {c : Cl} {i : Int} {K : SV → Prop} (N : ∀ l ∈ c.labels, b.obj s l = b.obj s' l) : indexAddrV P b s t c i K = indexAddrV P b s' t c i K := by
  unfold indexAddrV
  repeat' (first | rfl | (rw [N _ (by simp [Cl.labels])]; done) | split)
theorem sliceK_near {t : TypeId} {c : Cl} {i j : Option Int} {K : SV → Prop} (N : ∀ l ∈ c.labels, b.obj s l = b.obj s' l) : sliceK P b s t c i j K = sliceK P b s' t c i j K := by
  unfold sliceK
  repeat' (first | rfl | (rw [N _ (by simp [Cl.labels])]; done) | split)
theorem listOf_near {e : Ty} {c : Cl} (N : ∀ l ∈ c.labels, b.obj s l = b.obj s' l) : listOf b s e c = listOf b s' e c := by
  unfold listOf
  repeat' (first | rfl | (rw [N _ (by simp [Cl.labels])]; done) | split)
theorem binV_near {wr : Bool} {cst : Bool} {op : BinOp} {t : TypeId} {x y : SV} {K : SV → Prop} (h : plainT P t = true) : binV wr P b s cst op t x y K = binV wr P b s' cst op t x y K := by
  unfold binV
  split
  · rfl
  · rfl
  · rfl
  · rfl
  · simp only [nilTy_plain h, Bool.false_and, Bool.false_eq_true, if_false]
  · rfl
theorem partsV_near : ∀ {l : List (Nat × Operand)}, (∀ x ∈ l.map (·.2), Lm.opd b s x = Lm.opd b s' x) → partsV b s l = partsV b s' l
  | [], _ => rfl
  | (i, x) :: r, h => by
    unfold partsV
    rw [h x (by simp), partsV_near (l := r) fun y hy => h y (by simpa using .inr (by simpa using hy))]
theorem convV_near {src dst : TypeId} {c : SV} {K : SV → Prop} (hd : (match X.P.underlying dst with | some .string | some (.int _) => true | _ => false) = true) (N : ∀ l ∈ c.labels, b.obj s l = b.obj s' l) : convV X b s src dst c (fun v _ => K v) = convV X b s' src dst c fun v _ => K v := by
  unfold convV
  split
  · rfl
  · rfl
  · rfl
  · rename_i h1 h2
    simp [h2] at hd
  · split
    · rw [listOf_near N]
    · rfl
  · rename_i h1 h2
    simp [h2] at hd
  · rfl
theorem DT.convV {src dst : TypeId} {c : SV} : DT fun K => convV X b s src dst c fun v _ => K v := by
  unfold Lm.convV litV
  repeat' (first | exact DT.leaf _ | exact DT.no | refine DT.and ?_ | refine DT.imp ?_ | refine DT.ite ?_ ?_ | refine DT.parted ?_ ?_ | split)
theorem convV_at {src dst : TypeId} {c : SV} {K : SV → Ov → Prop} (hd : (match X.P.underlying dst with | some .string | some (.int _) => true | _ => false) = true) : convV X b s src dst c K = convV X b s src dst c fun v _ => K v s := by
  unfold convV
  split <;> try rfl
  rename_i h1 h2
  simp [h2] at hd
theorem vOp_at {K : SV → Ov → Prop} (hp : pureOp X.P o = true) : vOp X b s o K = vOp X b s o fun v _ => K v s := by
  unfold pureOp at hp
  simp only [Bool.and_eq_true] at hp
  obtain ⟨_, hp⟩ := hp
  unfold vOp
  split at hp <;> first | (cases hp; done) | skip
  all_goals rename_i heq
  all_goals simp only [heq]
  all_goals first | rfl | skip
  · unfold op1
    split
    · exact convV_at hp
    · rfl
  · split at hp
    · rename_i hc
      unfold vCall
      simp only [hc]
      rfl
    · cases hp
theorem vOp_det (hp : pureOp X.P o = true) : DT fun K => vOp X b s o fun v _ => K v := by
  unfold pureOp at hp
  simp only [Bool.and_eq_true] at hp
  obtain ⟨_, hp⟩ := hp
  unfold vOp
  split at hp <;> first | (cases hp; done) | skip
  all_goals rename_i heq
  all_goals simp only [heq]
  · exact DT.op1 fun v => DT.leaf v
  · exact DT.op1 fun v => DT.leaf v
  · exact DT.cl1 fun v => DT.op1 fun u => DT.op1 fun u' => by repeat' (first | exact DT.leaf _ | exact DT.no | refine DT.and ?_ | refine DT.imp ?_ | refine DT.ite ?_ ?_ | refine DT.parted ?_ ?_ | split)
  · exact DT.op1 fun v => DT.unV
  · exact DT.op1 fun v => by repeat' (first | exact DT.leaf _ | exact DT.no | refine DT.and ?_ | refine DT.imp ?_ | refine DT.ite ?_ ?_ | refine DT.parted ?_ ?_ | split)
  · exact DT.op1 fun v => by repeat' (first | exact DT.leaf _ | exact DT.no | refine DT.and ?_ | refine DT.imp ?_ | refine DT.ite ?_ ?_ | refine DT.parted ?_ ?_ | split)
  · exact DT.cl1 fun v => DT.loadV
  · exact DT.cl1 fun v => by repeat' (first | exact DT.leaf _ | exact DT.no | refine DT.and ?_ | refine DT.imp ?_ | refine DT.ite ?_ ?_ | refine DT.parted ?_ ?_ | split)
  · exact DT.cl1 fun v => by repeat' (first | exact DT.leaf _ | exact DT.no | refine DT.and ?_ | refine DT.imp ?_ | refine DT.ite ?_ ?_ | refine DT.parted ?_ ?_ | split)
  · exact DT.cl1 fun v => DT.cl1 fun q => by
      repeat' (first | exact DT.indexAddrV | exact DT.leaf _ | exact DT.no | refine DT.and ?_ | refine DT.imp ?_ | refine DT.ite ?_ ?_ | refine DT.parted ?_ ?_ | split)
  · exact DT.cl1 fun v => DT.cl1 fun q => by repeat' (first | exact DT.leaf _ | exact DT.no | refine DT.and ?_ | refine DT.imp ?_ | refine DT.ite ?_ ?_ | refine DT.parted ?_ ?_ | split)
  · split
    · exact DT.buildV
    · exact DT.no
  · exact DT.cl1 fun v => DT.opt1 fun l => DT.opt1 fun h => by
      repeat' (first | exact DT.sliceK | exact DT.leaf _ | exact DT.no | refine DT.and ?_ | refine DT.imp ?_ | refine DT.ite ?_ ?_ | refine DT.parted ?_ ?_ | split)
  · exact DT.op1 fun v => DT.op1 fun u => DT.binV hp
  · exact DT.op1 fun v => DT.convV
  · split at hp
    · rename_i hc
      unfold vCall
      simp only [hc]
      split
      · exact DT.no
      · unfold vBuiltin
        simp only
        split
        · exact DT.lenV
        · exact DT.no
    · cases hp
end
end Go.Lm

namespace Go.Lm
open Go Go.RowKit
section
variable {X : Vx} {n : Nat} {W : Base} {F : List Atom} {b : Bs} {E : Env} {g w : World} {s s' : Ov} {a : Act} {o : Oper}
theorem vOp_near {K : SV → Prop} (hp : pureOp X.P o = true) (N : Near b s s' o) (h : vOp X b s o fun v _ => K v) : vOp X b s' o fun v _ => K v := by
  have hp0 := hp
  unfold pureOp at hp
  simp only [Bool.and_eq_true] at hp
  obtain ⟨_, hp⟩ := hp
  unfold vOp at h ⊢
  split at hp <;> first | (cases hp; done) | skip
  all_goals rename_i heq
  all_goals simp only [heq] at h ⊢
  · exact op1_near N (by simp [heq, Op.operands]) (fun v _ h => h) h
  · exact op1_near N (by simp [heq, Op.operands]) (fun v _ h => h) h
  · exact cl1_near N (by simp [heq, Op.operands]) (fun v _ h => op1_near N (by simp [heq, Op.operands]) (fun v _ h => op1_near N (by simp [heq, Op.operands]) (fun v _ h => h) h) h) h
  · exact op1_near N (by simp [heq, Op.operands]) (fun v _ h => h) h
  · exact op1_near N (by simp [heq, Op.operands]) (fun v _ h => h) h
  · exact op1_near N (by simp [heq, Op.operands]) (fun v _ h => h) h
  · exact cl1_near N (by simp [heq, Op.operands]) (fun v hl h => by rw [← loadV_near hl]; exact h) h
  · exact cl1_near N (by simp [heq, Op.operands]) (fun v _ h => h) h
  · exact cl1_near N (by simp [heq, Op.operands]) (fun v _ h => h) h
  · refine cl1_near N (by simp [heq, Op.operands]) (fun v hl h => cl1_near N (by simp [heq, Op.operands]) (fun q _ h => ?_) h) h
    split at h
    · rw [← indexAddrV_near hl]; exact h
    · exact h.elim
  · exact cl1_near N (by simp [heq, Op.operands]) (fun v _ h => cl1_near N (by simp [heq, Op.operands]) (fun q _ h => h) h) h
  · rename_i t ps
    rw [← partsV_near fun x hx => N.opd x (by simpa [heq, Op.operands] using hx)]
    exact h
  · refine cl1_near N (by simp [heq, Op.operands]) (fun v hl h => opt1_near N (fun y hy => by simp [heq, Op.operands, hy]) (fun l h => opt1_near N (fun y hy => by simp [heq, Op.operands, hy]) (fun m h => ?_) h) h) h
    split at h
    · rw [← sliceK_near hl]; exact h
    · exact h.elim
  · exact op1_near N (by simp [heq, Op.operands]) (fun v _ h => op1_near N (by simp [heq, Op.operands]) (fun u _ h => by rw [← binV_near hp]; exact h) h) h
  · exact op1_near N (by simp [heq, Op.operands]) (fun v hl h => by rw [← convV_near hp hl]; exact h) h
  · rename_i c
    split at hp
    · rename_i hc
      have hops : ∀ x ∈ c.args.toList, x ∈ o.op.operands.toList := fun x hx => by
        rw [heq]
        have hx' : x ∈ c.args := by simpa using hx
        simp [Op.operands, Call.operands, hx']
      unfold vCall at h ⊢
      simp only [hc] at h ⊢
      have hopds : ∀ (l : List Operand), (∀ x ∈ l, x ∈ o.op.operands.toList) → opds b s l = opds b s' l := by
        intro l
        induction l with
        | nil => intro _; rfl
        | cons x r ih =>
          intro hl
          unfold opds
          rw [N.opd x (hl x (by simp)), ih fun y hy => hl y (List.mem_cons_of_mem _ hy)]
      have hlab : ∀ (l : List Operand) (vs : List SV), (∀ x ∈ l, x ∈ o.op.operands.toList) → opds b s l = some vs → ∀ v ∈ vs, ∀ k ∈ v.labels, b.obj s k = b.obj s' k := by
        intro l
        induction l with
        | nil => intro vs _ hv v hm; obtain rfl : [] = vs := Option.some.inj hv; cases hm
        | cons x r ih =>
          intro vs hl hv v hm
          unfold opds at hv
          split at hv
          · rename_i u hu
            split at hv
            · rename_i q hq
              obtain rfl : u :: q = vs := Option.some.inj hv
              rcases List.mem_cons.1 hm with rfl | hm
              · exact N.obj x (hl x (by simp)) v hu
              · exact ih q (fun y hy => hl y (List.mem_cons_of_mem _ hy)) hq v hm
            · cases hv
          · cases hv
      rw [← hopds c.args.toList hops]
      cases hv : opds b s c.args.toList with
      | none => rw [hv] at h; exact h
      | some vs =>
        rw [hv] at h
        simp only at h ⊢
        unfold vBuiltin at h ⊢
        simp only at h ⊢
        split at h
        · rename_i x t _
          rw [← lenV_near fun k hk => hlab c.args.toList _ hops hv (.v (.c x)) (by simp) k hk]
          exact h
        · exact h
    · cases hp
theorem run_convP (S : Sta n W F b E g w s a) {src dst : TypeId} {x : Operand} {c : SV} {K : SV → Prop} (ho : o.op = .convert src dst x) (r : RelV E g c (a.eval x)) (hd : (match X.P.underlying dst with | some .string | some (.int _) => true | _ => false) = true) (h : convV X b s src dst c fun v _ => K v) : ER X.P o a w E g K := by
  have same : ∀ {v : Value} {sv : SV}, (convert src dst (a.eval x)).run X.P w = .ok v w → RelV E g sv v → K sv → ER X.P o a w E g K := fun {v sv} h1 h2 h3 =>
    ⟨v, sv, by simp [execOp, ho, h1], h2, h3⟩
  unfold convV at h
  split at h
  · rename_i k1 k k' m hs hd
    obtain ⟨hx, hm⟩ := relV_int r
    have hr : (convert src dst (a.eval x)).run X.P w = .ok (.int k (k.wrap m)) w := by
      simp [convert, hx, run_underlying hs, run_underlying hd, Conv.intToInt]
    split at h
    · rename_i hk
      obtain rfl := IntKind.eq_of_beq hk
      rw [wrap_self hm] at hr
      exact same hr (relV_mk hm) h
    · exact same hr (relV_mk (wrap_inK _ _)) (h (wrap_inK _ _))
  · rename_i z hs hd
    obtain ⟨hx, hz⟩ := r
    refine same (v := .string z) (sv := .str z) (by simp [convert, hx, run_underlying hs, run_underlying hd]) ⟨rfl, hz⟩ h
  · rename_i k k1 m hs hd
    obtain ⟨hx, _⟩ := relV_int r
    obtain ⟨hl, h⟩ := h
    refine same (v := .string (Utf8.encode m)) (sv := .str (Utf8.encode m)) ?_ ⟨rfl, hl⟩ h
    simp [convert, hx, run_underlying hs, run_underlying hd, Conv.intToString]
  · rename_i h2
    simp [h2] at hd
  · rename_i e y hs hd
    split at h
    · rename_i he
      split at h
      · rename_i l hl
        obtain ⟨_, hi⟩ := listOf_rd S r hl
        have hr := run_str_of (l := l) hi hs he hd
        refine same hr (sv := .str (bstr l)) ⟨rfl, ?_⟩ h
        have := isD_len hi
        show (bstr l).size ≤ maxLen
        have e2 : (bstr l).size = l.length := by simp [bstr, ByteArray.size]
        rw [e2]; exact this
      · exact h.elim
    · exact h.elim
  · rename_i h1 h2
    simp [h2] at hd
  · exact h.elim
theorem vOpP_ok {K : SV → Prop} (hp : pureOp X.P o = true) (S : Sta n W F b E g w s a) (h : vOp X b s o fun v _ => K v) : ER X.P o a w E g K := by
  unfold pureOp at hp
  simp only [Bool.and_eq_true] at hp
  obtain ⟨_, hp⟩ := hp
  unfold vOp at h
  split at hp <;> first | (cases hp; done) | skip
  all_goals rename_i ho
  all_goals simp only [ho] at h
  · obtain ⟨v, hv, h⟩ := op1_ok h
    exact ⟨_, _, by simp [execOp, ho], S.opd hv, h⟩
  · obtain ⟨v, hv, h⟩ := op1_ok h
    exact ⟨_, _, by simp [execOp, ho], S.opd hv, h⟩
  · rename_i c x y
    obtain ⟨q, hq, h⟩ := cl1_ok h
    obtain ⟨v, hv, h⟩ := op1_ok h
    obtain ⟨u, hu, h⟩ := op1_ok h
    split at h
    · rename_i z
      obtain ⟨hz, _⟩ := S.opd hq
      rcases br_cases h with ⟨e, h⟩ | ⟨e, h⟩ <;> subst e
      · exact ⟨a.eval x, _, by simp [execOp, ho, hz, asBool], S.opd hv, h⟩
      · exact ⟨a.eval y, _, by simp [execOp, ho, hz, asBool], S.opd hu, h⟩
    · exact h.elim
  · rename_i op t x
    obtain ⟨v, hv, h⟩ := op1_ok h
    exact ER.of (m := Op.unary op (a.eval x)) (by simp [execOp, ho]) (run_unV (S.opd hv) h)
  · obtain ⟨v, hv, h⟩ := op1_ok h
    split at h
    · split at h
      · rename_i l _ c hc
        obtain ⟨us, h1, h2⟩ := S.opd hv
        obtain ⟨u, h3, h4⟩ := h1.get hc
        exact ⟨u, .v c, by simp [execOp, ho, h2, Instr.extract, h3], h4, h⟩
      · exact h.elim
    · exact h.elim
  · obtain ⟨v, hv, h⟩ := op1_ok h
    split at h
    · split at h
      · rename_i f hf
        split at h
        · rename_i r hr
          exact run_field ho (S.opd hv) hf hr h
        · exact h.elim
      · exact h.elim
    · exact h.elim
  · rename_i t x
    obtain ⟨c, hc, h⟩ := cl1_ok h
    exact ER.of (m := Instr.loadAt t (a.eval x)) (by simp [execOp, ho]) (run_loadV S (S.opd hc) h)
  · rename_i x
    obtain ⟨c, hc, h⟩ := cl1_ok h
    have r := S.opd hc
    have key : ∀ q : Addr, a.eval x = .pointer (some q) → (execOp a.eval o).run X.P w = .ok (.value (a.eval x)) w := fun q hq => by simp [execOp, ho, hq]
    split at h
    · obtain ⟨bb, h1, h2⟩ := r
      exact ⟨_, _, key _ h2, S.opd hc, h⟩
    · obtain ⟨h0, v, h1, h2⟩ := r
      obtain ⟨cs, h3, _⟩ := elemD h1 h0.1 h0.2.1
      obtain ⟨q, hq, _⟩ := h3 g (Mono.refl g)
      rw [hq] at h2
      exact ⟨_, _, key _ h2, S.opd hc, h⟩
    · obtain ⟨v, h1, h2, q, hq⟩ := r
      exact ⟨_, _, key _ hq, S.opd hc, h⟩
    · exact ⟨_, _, key _ r.2.1, S.opd hc, h⟩
    · exact h.elim
  · obtain ⟨c, hc, h⟩ := cl1_ok h
    split at h
    · rename_i f hf
      split at h
      · rename_i ie hie
        obtain ⟨hs, h⟩ := if_ok h
        split at h
        · rename_i c' hc'
          obtain ⟨v, h1, h2⟩ := run_addrF (w := w) ho (S.opd hc) hf hie hs hc'
          exact ⟨v, .c c', h1, h2, h⟩
        · exact h.elim
      · exact h.elim
    · exact h.elim
  · obtain ⟨c, hc, h⟩ := cl1_ok h
    obtain ⟨q, hq, h⟩ := cl1_ok h
    split at h
    · exact run_indexAddrV S ho (S.opd hc) (relV_int (S.opd hq)).1 h
    · exact h.elim
  · obtain ⟨c, hc, h⟩ := cl1_ok h
    obtain ⟨q, hq, h⟩ := cl1_ok h
    split at h
    · obtain ⟨h0, h1, h⟩ := h
      exact run_index ho (by assumption) (S.opd hc).1 (S.opd hq).1 h0 h1 h
    · exact h.elim
  · split at h
    · rename_i l hl
      exact run_buildV ho (partsV_ok S hl) h
    · exact h.elim
  · obtain ⟨c, hc, h⟩ := cl1_ok h
    obtain ⟨l, h, hl⟩ := opt1_ok S h
    obtain ⟨m, h, hm⟩ := opt1_ok S h
    split at h
    · rename_i i j hi' hj'
      exact run_sliceK S ho (S.opd hc) (hl _ hi') (hm _ hj') h
    · exact h.elim
  · rename_i op t x y yt
    obtain ⟨v, hv, h⟩ := op1_ok h
    obtain ⟨u, hu, h⟩ := op1_ok h
    exact ER.of (m := (do eqGuard op t x y (a.eval x) (a.eval y); binOp op t (a.eval x) (a.eval y))) (by simp [execOp, ho]) (run_binV S (S.opd hv) (S.opd hu) h)
  · obtain ⟨v, hv, h⟩ := op1_ok h
    exact run_convP S ho (S.opd hv) hp h
  · rename_i c
    split at hp
    · rename_i hc
      unfold vCall at h
      split at h
      · exact h.elim
      · rename_i args ha
        simp only [hc] at h
        have hv := opds_ok S ha
        obtain ⟨callee, cargs, ctys⟩ := c
        simp only at hc ha hv h
        subst hc
        unfold vBuiltin at h
        simp only at h
        split at h
        · rename_i x t hts
          obtain ⟨u, e, hu⟩ := relVs_one hv
          obtain ⟨ox, rfl, rfl⟩ := arr1 e
          obtain rfl := arrT hts
          exact run_lenV S ho hu h
        · exact h.elim
    · cases hp
end
end Go.Lm

namespace Go.Lm
open Go Go.RowKit
theorem forceL_eq {α : Type} : ∀ (l : List α) {k : List α → Prop}, forceL l k → k l
  | [], _, h => h
  | _ :: l, _, h => forceL_eq l h
theorem forceB_eq : ∀ (l : List Bool) {k : List Bool → Prop}, forceB l k → k l
  | [], _, h => h
  | true :: l, _, h => forceB_eq l h
  | false :: l, _, h => forceB_eq l h
section
variable {ops : Array Oper}
theorem setB_ok : ∀ {k : Nat} {l : List Bool} {j : Nat}, nthB (setB k l) j = true → j = k ∨ nthB l j = true
  | 0, [], 0, _ => .inl rfl
  | 0, [], j + 1, h => by simp [setB, nthB] at h
  | 0, _ :: r, 0, _ => .inl rfl
  | 0, _ :: r, j + 1, h => .inr h
  | k + 1, [], 0, h => by simp [setB, nthB] at h
  | k + 1, [], j + 1, h => by
    rcases setB_ok (k := k) (l := []) h with e | e
    · exact .inl (by rw [e])
    · simp [nthB] at e
  | k + 1, a :: r, 0, h => .inr h
  | k + 1, a :: r, j + 1, h => by
    rcases setB_ok (k := k) (l := r) h with e | e
    · exact .inl (by rw [e])
    · exact .inr e
theorem orB_ok : ∀ {a b : List Bool} {j : Nat}, nthB (orB a b) j = true → nthB a j = true ∨ nthB b j = true
  | [], _, _, h => .inr h
  | _ :: _, [], _, h => .inl h
  | a :: r, b :: q, 0, h => by simpa [orB, nthB] using h
  | a :: r, b :: q, j + 1, h => orB_ok (a := r) (b := q) h
theorem rowE_ok {acc : List (List Bool)} {i : Nat} : ∀ {l : List Edge}, nthB (rowE acc l) i = true → ∃ e ∈ l, Region.binds .any e = true ∧ (e.on = i ∨ nthB (nthR acc e.on) i = true)
  | [], h => by simp [rowE, nthB] at h
  | e :: r, h => by
    unfold rowE at h
    split at h
    · rename_i hb
      rcases orB_ok h with h | h
      · rcases setB_ok h with h | h
        · exact ⟨e, List.mem_cons_self .., hb, .inl h.symm⟩
        · exact ⟨e, List.mem_cons_self .., hb, .inr h⟩
      · obtain ⟨e', h1, h2⟩ := rowE_ok h
        exact ⟨e', List.mem_cons_of_mem _ h1, h2⟩
    · obtain ⟨e', h1, h2⟩ := rowE_ok h
      exact ⟨e', List.mem_cons_of_mem _ h1, h2⟩
theorem nthR_eq : ∀ {l : List (List Bool)} {i : Nat}, nthR l i = (l[i]?).getD []
  | [], _ => by simp [nthR]
  | _ :: _, 0 => rfl
  | _ :: r, i + 1 => by simp [nthR, nthR_eq (l := r)]
theorem nthB_eq : ∀ {l : List Bool} {i : Nat}, nthB l i = (l[i]?).getD false
  | [], _ => by simp [nthB]
  | _ :: _, 0 => rfl
  | _ :: r, i + 1 => by simp [nthB, nthB_eq (l := r)]
theorem rowsK_ok : ∀ {r : List Oper} {acc : List (List Bool)} {k : List (List Bool) → Prop}, rowsK r acc k → (∀ j, r[j]? = ops[acc.length + j]?) → (∀ j i, nthB (nthR acc j) i = true → Waits ops j i) → ∃ ms, k ms ∧ ∀ j i, nthB (nthR ms j) i = true → Waits ops j i
  | [], acc, k, h, _, hw => ⟨acc, h, hw⟩
  | o :: r, acc, k, h, hr, hw => by
    have h1 := forceL_eq _ (forceB_eq _ h)
    refine rowsK_ok h1 (fun j => ?_) fun j i hj => ?_
    · have := hr (j + 1)
      simp only [List.getElem?_cons_succ] at this
      rw [this, List.length_append, List.length_singleton]
      congr 1; omega
    · rw [nthR_eq] at hj
      by_cases hlt : j < acc.length
      · rw [List.getElem?_append_left hlt, ← nthR_eq] at hj
        exact hw j i hj
      · by_cases he : j = acc.length
        · subst he
          rw [List.getElem?_append_right (Nat.le_refl _)] at hj
          simp only [Nat.sub_self, List.getElem?_cons_zero, Option.getD_some] at hj
          obtain ⟨e, h2, h3, h4⟩ := rowE_ok hj
          have ho : ops[acc.length]? = some o := by have := hr 0; simpa using this.symm
          have key : ∀ f, (e.on = i ∨ reach ops f e.on i = true) → reach ops (f + 1) acc.length i = true := fun f hf => by
            unfold reach
            rw [ho]
            simp only [Array.any_eq_true']
            refine ⟨e, by simpa using h2, ?_⟩
            simp only [Bool.and_eq_true, Bool.or_eq_true]
            exact ⟨h3, hf.imp (fun h => by simpa using h) id⟩
          rcases h4 with h4 | h4
          · exact ⟨1, key 0 (.inl h4)⟩
          · obtain ⟨f, hf⟩ := hw _ _ h4
            exact ⟨f + 1, key f (.inr hf)⟩
        · rw [List.getElem?_eq_none (by simp; omega)] at hj
          simp [nthB] at hj
theorem aheadOk_ok {pu : List Bool} {ms : List (List Bool)} : ∀ {l dn : List Nat}, aheadOk pu ms dn l = true → ∀ (d : List Nat) (i : Nat) (r : List Nat), d ++ i :: r = l → ∀ j, j ∈ dn ∨ j ∈ d → nthB pu j = false → nthB (nthR ms i) j = true
  | [], dn, _, d, i, r, he, _, _, _ => by simp at he
  | x :: l, dn, h, d, i, r, he, j, hj, hp => by
    unfold aheadOk at h
    simp only [Bool.and_eq_true] at h
    cases d with
    | nil =>
      simp only [List.nil_append, List.cons.injEq] at he
      obtain ⟨rfl, rfl⟩ := he
      rcases hj with hj | hj
      · have := List.all_eq_true.1 h.1 j hj
        rw [hp] at this; simpa using this
      · cases hj
    | cons y d =>
      simp only [List.cons_append, List.cons.injEq] at he
      obtain ⟨rfl, he⟩ := he
      refine aheadOk_ok h.2 d i r he j ?_ hp
      rcases hj with hj | hj
      · exact .inl (List.mem_cons_of_mem _ hj)
      · rcases List.mem_cons.1 hj with rfl | hj
        · exact .inl (List.mem_cons_self ..)
        · exact .inr hj
theorem isDst_ok {k t : Nat} {o : Oper} (ho : ops[k]? = some o) : isDst ops k t = true ↔ o.dst = some t := by
  unfold isDst dstAt
  rw [ho]
  simp only [Option.bind_some]
  cases hd : o.dst with
  | none => simp
  | some d => simp
theorem slotsOkB_ok {pu : List Bool} {ms : List (List Bool)} (h : slotsOkB ops pu ms = true) {i k : Nat} {oi ok : Oper} {d : Nat} (hi : ops[i]? = some oi) (hk : ops[k]? = some ok) (hd : ok.dst = some d) (hm : d ∈ slotsOf ops oi) : nthB (nthR ms i) k = true ∨ nthB pu k = false := by
  have h1 := List.all_eq_true.1 h i (List.mem_range.2 (Array.getElem?_eq_some_iff.1 hi).1)
  simp only [hi] at h1
  have h2 := List.all_eq_true.1 (List.all_eq_true.1 h1 d hm) k (List.mem_range.2 (Array.getElem?_eq_some_iff.1 hk).1)
  rw [(isDst_ok hk).2 hd] at h2
  simpa using h2
theorem laterOk_ok {pu : List Bool} {ms : List (List Bool)} : ∀ {l : List Nat}, laterOk ops pu ms l = true → ∀ (d : List Nat) (i : Nat) (r : List Nat), d ++ i :: r = l → nthB pu i = true → ∀ (o : Oper), ops[i]? = some o → ∀ t ∈ slotsOf ops o, o.dst ≠ some t ∧ ∀ k ∈ r, ∀ ok, ops[k]? = some ok → (nthB pu k = true ∨ nthB (nthR ms k) i = false) → ok.dst ≠ some t
  | [], _, d, i, r, he, _, _, _, _, _ => by simp at he
  | x :: l, h, d, i, r, he, hp, o, ho, t, ht => by
    unfold laterOk at h
    simp only [Bool.and_eq_true] at h
    cases d with
    | nil =>
      simp only [List.nil_append, List.cons.injEq] at he
      obtain ⟨rfl, rfl⟩ := he
      have h1 := h.1
      rw [hp, ho] at h1
      simp only [Bool.not_true, Bool.false_or] at h1
      have h2 := List.all_eq_true.1 h1 t ht
      simp only [Bool.and_eq_true, Bool.not_eq_true'] at h2
      refine ⟨fun e => ?_, fun k hk ok hok hor e => ?_⟩
      · rw [(isDst_ok ho).2 e] at h2; cases h2.1
      · have h3 := List.all_eq_true.1 h2.2 k hk
        rw [(isDst_ok hok).2 e] at h3
        rcases hor with hor | hor <;> rw [hor] at h3 <;> simp at h3
    | cons y d =>
      simp only [List.cons_append, List.cons.injEq] at he
      obtain ⟨rfl, he⟩ := he
      exact laterOk_ok h.2 d i r he hp o ho t ht
end
section
variable {X : Vx} {n : Nat} {W : Base} {F : List Atom} {b : Bs} {E : Env} {g w : World} {s s' : Ov} {a : Act} {o : Oper} {ops : Array Oper}
structure Eqv (b : Bs) (s s' : Ov) : Prop where
  slot : ∀ t, b.slot s' t = b.slot s t
  h : s'.h = s.h
  n : s'.n = s.n
theorem Eqv.refl : Eqv b s s := ⟨fun _ => rfl, rfl, rfl⟩
theorem Eqv.obj (e : Eqv b s s') (l : Nat) : b.obj s' l = b.obj s l := by unfold Bs.obj; rw [e.h]
theorem Sta.eqv (S : Sta n W F b E g w s a) (e : Eqv b s s') : Sta n W F b E g w s' a := by
  refine ⟨S.size, S.defers, fun t v hv => S.fr t v (by rw [← e.slot]; exact hv), ?_, fun l hl => by rw [e.obj]; exact S.top l (by rw [← e.n]; exact hl)⟩
  have : b.heap s' = b.heap s := by
    unfold Bs.heap
    rw [e.n]
    exact List.map_congr_left fun l _ => e.obj l
  rw [this]; exact S.sat
theorem eqv_put {d : Nat} {v : SV} (h : b.slot s d = some v) : Eqv b s (s.put (some d) v) := by
  refine ⟨fun t => ?_, rfl, rfl⟩
  rw [slot_put]
  split
  · rename_i e; subst e; exact h.symm
  · rfl
def WantIs (ops : Array Oper) (b : Bs) (s : Ov) (o : Oper) (q : Bool) : Prop := match o.guard with
  | none => q = true
  | some (j, wt) => ∃ d, (ops[j]?).bind (·.dst) = some d ∧ ((∃ v, b.slot s d = some (.v (.c (.k (.bool v)))) ∧ q = (v == wt)) ∨ ((∃ l, b.slot s d = some (.tup l)) ∧ q = false))
theorem wantV_is {K : Bool → Ov → Prop} (h : wantV ops b s o K) : ∃ q s', WantIs ops b s o q ∧ Eqv b s s' ∧ K q s' := by
  unfold wantV at h
  unfold WantIs
  split at h
  · rename_i hg
    exact ⟨true, s, by rw [hg], Eqv.refl, h⟩
  · rename_i j wt hg
    split at h
    · exact h.elim
    · rename_i d hd
      split at h
      · rename_i v hv
        rcases br_cases h with ⟨e, h⟩ | ⟨e, h⟩ <;> subst e
        · exact ⟨_, _, by rw [hg]; exact ⟨d, hd, .inl ⟨_, hv, rfl⟩⟩, eqv_put hv, h⟩
        · exact ⟨_, _, by rw [hg]; exact ⟨d, hd, .inl ⟨_, hv, rfl⟩⟩, eqv_put hv, h⟩
      · rename_i l hv
        exact ⟨_, _, by rw [hg]; exact ⟨d, hd, .inr ⟨⟨l, hv⟩, rfl⟩⟩, Eqv.refl, h⟩
      · exact h.elim
theorem WantIs.sem {q : Bool} (S : Sta n W F b E g w s a) (h : WantIs ops b s o q) : Region.wanted o (yielded ops a.tmps) = q := by
  unfold WantIs at h
  split at h
  · rename_i hg
    unfold Region.wanted; rw [hg, h]
  · rename_i j wt hg
    obtain ⟨d, hd, h⟩ := h
    unfold Region.wanted
    rw [hg]
    simp only
    unfold yielded
    rw [hd]
    rcases h with ⟨v, hv, e⟩ | ⟨⟨l, hv⟩, e⟩
    · obtain ⟨hx, _⟩ := S.fr d _ hv
      subst e
      have : (a.tmps[d]?).getD undef = .bool v := by rw [← Array.getD_eq_getD_getElem?]; exact hx
      cases hq : a.tmps[d]? with
      | none => rw [hq] at this; simp [undef] at this
      | some y => rw [hq] at this; simp at this; subst this; cases v <;> cases wt <;> simp [hq]
    · obtain ⟨us, _, hx⟩ := S.fr d _ hv
      subst e
      have : (a.tmps[d]?).getD undef = .tuple us.toArray := by rw [← Array.getD_eq_getD_getElem?]; exact hx
      cases hq : a.tmps[d]? with
      | none => simp [hq]
      | some y => rw [hq] at this; simp at this; subst this; simp [hq]
theorem WantIs.congr {q : Bool} (hs : ∀ t ∈ slotsOf ops o, b.slot s t = b.slot s' t) (h : WantIs ops b s o q) : WantIs ops b s' o q := by
  unfold WantIs at h ⊢
  split at h
  · exact h
  · rename_i j wt hg
    obtain ⟨d, hd, h⟩ := h
    have := hs d (List.mem_append_right _ (by rw [hg]; simp [hd]))
    rw [this] at h
    exact ⟨d, hd, h⟩
theorem opd_congr (hs : ∀ t ∈ slotsOf ops o, b.slot s t = b.slot s' t) {x : Operand} (hx : x ∈ o.op.operands.toList) : opd b s x = opd b s' x := by
  cases x with
  | tmp t => exact hs t (List.mem_append_left _ (List.mem_filterMap.2 ⟨.tmp t, hx, rfl⟩))
  | const _ => rfl
  | func _ => rfl
  | global _ => rfl
theorem Near.of (hs : ∀ t ∈ slotsOf ops o, b.slot s t = b.slot s' t) (hr : ∀ l ∈ rdOf b s o, b.obj s l = b.obj s' l) : Near b s s' o :=
  ⟨fun x hx => opd_congr hs hx, fun x hx v hv l hl => hr l (List.mem_flatMap.2 ⟨x, hx, by rw [hv]; exact hl⟩)⟩
theorem rdOf_congr (hs : ∀ t ∈ slotsOf ops o, b.slot s t = b.slot s' t) : rdOf b s o = rdOf b s' o := by
  unfold rdOf
  have : ∀ l : List Operand, (∀ x ∈ l, x ∈ o.op.operands.toList) → l.flatMap (fun x => match opd b s x with
      | some v => v.labels
      | none => []) = l.flatMap (fun x => match opd b s' x with
      | some v => v.labels
      | none => []) := by
    intro l
    induction l with
    | nil => intro _; rfl
    | cons x r ih =>
      intro h
      rw [List.flatMap_cons, List.flatMap_cons, ih fun y hy => h y (List.mem_cons_of_mem _ hy), opd_congr hs (h x (by simp))]
  exact this _ fun x hx => hx
structure Idem (X : Vx) (n : Nat) (ops : Array Oper) (b : Bs) (s : Ov) (o : Oper) (d : Nat) (sv : SV) : Prop where
  dst : o.dst = some d
  lt : d < n
  slot : b.slot s d = some sv
  pure : pureOp X.P o = true
  run : (WantIs ops b s o true ∧ vOp X b s o fun v _ => v = sv) ∨ (WantIs ops b s o false ∧ sv = .und)
theorem Idem.keep {d : Nat} {sv : SV} (h : Idem X n ops b s o d sv) (hs : ∀ t ∈ slotsOf ops o, b.slot s t = b.slot s' t) (hd : b.slot s' d = b.slot s d) (hr : ∀ l ∈ rdOf b s o, b.obj s l = b.obj s' l) : Idem X n ops b s' o d sv := by
  refine ⟨h.dst, h.lt, by rw [hd]; exact h.slot, h.pure, ?_⟩
  rcases h.run with ⟨h1, h2⟩ | ⟨h1, h2⟩
  · exact .inl ⟨h1.congr hs, vOp_near h.pure (Near.of hs hr) h2⟩
  · exact .inr ⟨h1.congr hs, h2⟩
theorem Idem.again {d : Nat} {sv : SV} (h : Idem X n ops b s o d sv) (S : Sta n W F b E g w s a) :
    ∃ v, (Region.wanted o (yielded ops a.tmps) = true → (execOp a.eval o).run X.P w = .ok (.value v) w) ∧ (Region.wanted o (yielded ops a.tmps) = false → v = undef) ∧ Sta n W F b E g w s (a.put o.dst v) := by
  have back : ∀ {v : Value}, RelV E g sv v → Sta n W F b E g w s (a.put o.dst v) := fun {v} r => by
    have := S.put (d := some d) (by simpa using h.lt) r
    rw [h.dst]
    refine this.eqv ⟨fun t => ?_, rfl, rfl⟩
    rw [slot_put]
    split
    · rename_i e; subst e; exact h.slot
    · rfl
  rcases h.run with ⟨h1, h2⟩ | ⟨h1, h2⟩
  · obtain ⟨v, sv', r1, r2, rfl⟩ := vOpP_ok h.pure S h2
    exact ⟨v, fun _ => r1, fun q => absurd q (by rw [h1.sem S]; simp), back r2⟩
  · subst h2
    exact ⟨undef, fun q => absurd q (by rw [h1.sem S]; simp), fun _ => rfl, back relV_und⟩
theorem pure_step {K : Ov → Prop} (S : Sta n W F b E g w s a) (hp : pureOp X.P o = true) (hself : ∀ t ∈ slotsOf ops o, o.dst ≠ some t) (h : vOp1 X n ops b s o K) :
    ∃ d v sv s', Sta n W F b E g w s' (a.put o.dst v) ∧ K s' ∧ Idem X n ops b s' o d sv ∧ rdOf b s' o = rdOf b s o ∧ (∀ t, o.dst ≠ some t → b.slot s' t = b.slot s t) ∧ ∀ l, b.obj s' l = b.obj s l := by
  unfold vOp1 at h
  obtain ⟨hd0, h⟩ := if_ok h
  obtain ⟨d, hd⟩ : ∃ d, o.dst = some d := by
    unfold pureOp at hp
    simp only [Bool.and_eq_true] at hp
    exact Option.isSome_iff_exists.1 hp.1
  have hdn : d < n := by rw [hd] at hd0; simpa using hd0
  obtain ⟨q, s1, hq, he, h⟩ := wantV_is h
  have S1 := S.eqv he
  have hne : ∀ t ∈ slotsOf ops o, d ≠ t := fun t ht e => hself t ht (by rw [hd, e])
  have slots : ∀ (sv : SV), ∀ t, d ≠ t → b.slot (s1.put (some d) sv) t = b.slot s t := fun sv t ht => by rw [slot_put, if_neg ht, he.slot]
  have hs1 : ∀ (sv : SV), ∀ t ∈ slotsOf ops o, b.slot s1 t = b.slot (s1.put (some d) sv) t := fun sv t ht => by rw [slots sv t (hne t ht), he.slot]
  have hs0 : ∀ (sv : SV), ∀ t ∈ slotsOf ops o, b.slot s t = b.slot (s1.put (some d) sv) t := fun sv t ht => by rw [slots sv t (hne t ht)]
  cases q with
  | true =>
    simp only at h
    rw [vOp_at hp] at h
    obtain ⟨v, sv, r1, r2, k, h2⟩ := vOpP_ok hp S1 ((vOp_det hp).det h)
    rw [hd] at k ⊢
    refine ⟨d, v, sv, _, S1.put (by simpa using hdn) r2, k, ⟨hd, hdn, by rw [slot_put, if_pos rfl], hp, .inl ⟨hq.congr (hs0 sv), vOp_near hp (Near.of (hs1 sv) fun l _ => rfl) h2⟩⟩, (rdOf_congr (hs0 sv)).symm, fun t ht => slots sv t fun e => ht (by rw [e]), fun l => he.obj l⟩
  | false =>
    simp only at h
    rw [hd] at h ⊢
    refine ⟨d, undef, .und, _, S1.put (by simpa using hdn) relV_und, h, ⟨hd, hdn, by rw [slot_put, if_pos rfl], hp, .inr ⟨hq.congr (hs0 _), rfl⟩⟩, (rdOf_congr (hs0 _)).symm, fun t ht => slots _ t fun e => ht (by rw [e]), fun l => he.obj l⟩
end
end Go.Lm

namespace Go.Lm
open Go Go.RowKit
section
variable {X : Vx} {n : Nat} {W : Base} {F : List Atom} {b : Bs} {E : Env} {g w : World} {s s' : Ov} {a : Act} {o : Oper} {ops : Array Oper}
theorem lookS_app : ∀ {l m : Slots} {t : Nat}, lookS (l ++ m) t = match lookS l t with
    | some v => some v
    | none => lookS m t
  | [], _, _ => rfl
  | (k, v) :: r, m, t => by
    simp only [List.cons_append, lookS]
    cases Nat.beq k t with
    | true => rfl
    | false => exact lookS_app (l := r)
theorem lookO_app : ∀ {l m : List (Nat × HO)} {t : Nat}, lookO (l ++ m) t = match lookO l t with
    | some v => some v
    | none => lookO m t
  | [], _, _ => rfl
  | (k, v) :: r, m, t => by
    simp only [List.cons_append, lookO]
    cases Nat.beq k t with
    | true => rfl
    | false => exact lookO_app (l := r)
theorem lookO_none : ∀ {l : List (Nat × HO)} {t : Nat}, t ∉ l.map (·.1) → lookO l t = none
  | [], _, _ => rfl
  | (k, v) :: r, t, h => by
    simp only [lookO]
    have h1 : ¬ k = t := fun e => h (by simp [e])
    rw [beq_ne h1]
    exact lookO_none fun q => h (by simpa using .inr (by simpa using q))
theorem nthH_get : ∀ {l : List HO} {k : Nat} {o : HO}, l[k]? = some o → nthH l k = o
  | [], _, _, h => by simp at h
  | x :: r, 0, o, h => by simpa [nthH] using h
  | x :: r, k + 1, o, h => nthH_get (l := r) (by simpa using h)
theorem nthH_none : ∀ {l : List HO} {k : Nat}, l.length ≤ k → nthH l k = .gone
  | [], _, _ => rfl
  | x :: r, 0, h => by simp at h
  | x :: r, k + 1, h => nthH_none (l := r) (by simpa using h)
def Bs.anew (b : Bs) (s : Ov) : Bs := { f := s.f ++ b.f, h := b.heap s }
theorem anew_slot {s2 : Ov} (h : s2.f = []) (t : Nat) : (b.anew s).slot s2 t = b.slot s t := by
  unfold Bs.slot Bs.anew
  rw [h]
  exact lookS_app
theorem nthH_heap (h : ∀ l, s.n ≤ l → b.obj s l = .gone) (l : Nat) : nthH (b.heap s) l = b.obj s l := by
  by_cases hl : l < s.n
  · exact nthH_get (heap_get hl)
  · rw [nthH_none (by rw [heap_len]; omega), h l (by omega)]
theorem anew_obj {s2 s3 : Ov} (h : ∀ l, s.n ≤ l → b.obj s l = .gone) (h3 : s3.h = s2.h ++ s.h) (l : Nat) : (b.anew s).obj s2 l = b.obj s3 l := by
  unfold Bs.obj
  rw [h3, lookO_app]
  show (match lookO s2.h l with | some o => o | none => nthH (b.heap s) l) = _
  cases lookO s2.h l with
  | some o => rfl
  | none => exact nthH_heap h l
theorem anew_heap {s2 s3 : Ov} (h : ∀ l, s.n ≤ l → b.obj s l = .gone) (h3 : s3.h = s2.h ++ s.h) (hn : s3.n = s2.n) : (b.anew s).heap s2 = b.heap s3 := by
  unfold Bs.heap
  rw [hn]
  exact List.map_congr_left fun l _ => anew_obj h h3 l
theorem Sta.anew (S : Sta n W F b E g w s a) : Sta n W F (b.anew s) E g w { f := [], h := [], n := s.n } a := by
  refine ⟨S.size, S.defers, fun t v hv => S.fr t v (by rw [← anew_slot (s2 := { f := [], h := [], n := s.n }) rfl]; exact hv), ?_, fun l hl => ?_⟩
  · rw [anew_heap (s2 := { f := [], h := [], n := s.n }) (s3 := s) S.top rfl rfl]; exact S.sat
  · rw [anew_obj (s2 := { f := [], h := [], n := s.n }) (s3 := s) S.top rfl]; exact S.top l hl
theorem Sta.merged {E' : Env} {g' w' : World} {s2 : Ov} (top : ∀ l, s.n ≤ l → b.obj s l = .gone) (hf : s2.f = []) (S : Sta n W F (b.anew s) E' g' w' s2 a) : Sta n W F b E' g' w' { f := s.f, h := s2.h ++ s.h, n := s2.n } a := by
  refine ⟨S.size, S.defers, fun t v hv => S.fr t v (by rw [anew_slot hf]; exact hv), ?_, fun l hl => ?_⟩
  · rw [← anew_heap (s2 := s2) (s3 := { f := s.f, h := s2.h ++ s.h, n := s2.n }) top rfl rfl]; exact S.sat
  · rw [← anew_obj (s2 := s2) (s3 := { f := s.f, h := s2.h ++ s.h, n := s2.n }) top rfl]; exact S.top l hl
structure Alone (b : Bs) (s s' : Ov) (d : Option Nat) (ks : List Nat) : Prop where
  slot : ∀ t, d ≠ some t → b.slot s' t = b.slot s t
  obj : ∀ l, l ∉ ks → b.obj s' l = b.obj s l
theorem slot_put' {d : Option Nat} {v : SV} {t : Nat} (h : d ≠ some t) : b.slot (s.put d v) t = b.slot s t := by
  cases d with
  | none => rfl
  | some d => rw [slot_put, if_neg fun e => h (by rw [e])]
theorem obj_put {d : Option Nat} {v : SV} {l : Nat} : b.obj (s.put d v) l = b.obj s l := by cases d <;> rfl
def NonR (n : Nat) (W : Base) (F : List Atom) (b : Bs) (E : Env) (g : World) (s : Ov) (d : Option Nat) (K : Ov → List Nat → Prop) (a' : Act) (w' : World) : Prop := ∃ E' g' s' ks, EnvLe E E' ∧ Mono g g' ∧ Sta n W F b E' g' w' s' a' ∧ K s' ks ∧ Alone b s s' d ks
theorem non_step (hct : CtOkW W X.P X.ct) {K : Ov → List Nat → Prop} (S : Sta n W F b E g w s a) (h : vNon X n ops b s o K) :
    (Region.wanted o (yielded ops a.tmps) = true ∧ OpR X.P o a w fun v w' => NonR n W F b E g s o.dst K (a.put o.dst v) w') ∨ (Region.wanted o (yielded ops a.tmps) = false ∧ NonR n W F b E g s o.dst K (a.put o.dst undef) w) := by
  unfold vNon at h
  obtain ⟨hd, h⟩ := if_ok h
  obtain ⟨q, s1, hq, he, h⟩ := wantV_is h
  have S1 := S.eqv he
  cases q with
  | true =>
    refine .inl ⟨hq.sem S, ?_⟩
    have hr := vOp_ok hct S1.anew h
    have key : ∀ v w', Out n W F (b.anew s1) E g a (fun v s' => match s'.f with
        | [] => K (({ f := s1.f, h := s'.h ++ s1.h, n := s'.n } : Ov).put o.dst v) (s'.h.map (·.1))
        | _ => False) v w' → NonR n W F b E g s o.dst K (a.put o.dst v) w' := by
      rintro v w' ⟨E', g', s2, sv, h1, h2, S2, r, k⟩
      split at k
      · rename_i hf
        refine ⟨E', g', _, _, h1, h2, (S2.merged S1.top hf).put hd r, k, fun t ht => ?_, fun l hl => ?_⟩
        · rw [slot_put' ht]; exact he.slot t
        · rw [obj_put, ← he.obj]
          unfold Bs.obj
          rw [lookO_app, lookO_none hl]
      · exact k.elim
    rcases hr with ⟨v, w', hr, h⟩ | ⟨w', hr, h⟩ | ⟨f, args, hr, h⟩
    · exact .inl ⟨v, w', hr, key v w' h⟩
    · exact .inr (.inl ⟨w', hr, key undef w' h⟩)
    · exact .inr (.inr ⟨f, args, hr, h.mono key⟩)
  | false => exact .inr ⟨hq.sem S, E, g, _, _, EnvLe.refl E, Mono.refl g, S1.put hd relV_und, h, fun t ht => by rw [slot_put' ht, he.slot], fun l _ => by rw [obj_put, he.obj]⟩
def DrawT (X : Vx) (n : Nat) (W : Base) (F : List Atom) (b : Bs) (E : Env) (g : World) (ops : Array Oper) (ms : List (List Bool)) (pu : List Bool) (ord : List Nat) (K : Ov → Prop) (dn rest : List Nat) (c : Act) (w' : World) : Prop :=
  dn ++ rest = ord ∧ ∃ E' g' s lv, EnvLe E E' ∧ Mono g g' ∧ Sta n W F b E' g' w' s c ∧ vDraw X n ops b ms pu rest lv s K ∧
    (∀ p ∈ lv, p.1 ∈ dn ∧ nthB pu p.1 = true ∧ ∃ o d sv, ops[p.1]? = some o ∧ Idem X n ops b s o d sv ∧ rdOf b s o = p.2) ∧
    ∀ i ∈ dn, nthB pu i = true → (∀ j ∈ dn, nthB pu j = false → ¬ Waits ops j i) → ∃ p ∈ lv, p.1 = i
theorem forceLL_eq : ∀ (l : List (List Nat)) {k : List (List Nat) → Prop}, forceLL l k → k l
  | [], _, h => h
  | _ :: l, _, h => forceLL_eq l (forceL_eq _ h)
theorem headsN_mem : ∀ {os : List (List Nat)} {i : Nat} {r : List Nat}, i :: r ∈ os → i ∈ headsN os
  | [], _, _, h => by cases h
  | [] :: os, i, r, h => by
    rcases List.mem_cons.1 h with h | h
    · cases h
    · exact headsN_mem (os := os) h
  | (x :: q) :: os, i, r, h => by
    unfold headsN
    rcases List.mem_cons.1 h with h | h
    · injection h with h1 h2
      subst h1
      split
      · rename_i hm; exact memN_iff.1 hm
      · exact List.mem_cons_self ..
    · have := headsN_mem (os := os) h
      split
      · exact this
      · exact List.mem_cons_of_mem _ this
theorem tailsN_mem : ∀ {os : List (List Nat)} {i : Nat} {r : List Nat}, i :: r ∈ os → r ∈ tailsN i os
  | [], _, _, h => by cases h
  | [] :: os, i, r, h => by
    rcases List.mem_cons.1 h with h | h
    · cases h
    · exact tailsN_mem (os := os) h
  | (x :: q) :: os, i, r, h => by
    unfold tailsN
    rcases List.mem_cons.1 h with h | h
    · injection h with h1 h2
      subst h1 h2
      rw [Nat.beq_refl]
      exact List.mem_cons_self ..
    · have := tailsN_mem (os := os) h
      split
      · exact List.mem_cons_of_mem _ this
      · exact this
theorem allN_mem {p : Nat → Prop} : ∀ {l : List Nat} {i : Nat}, allN l p → i ∈ l → p i
  | [], _, _, h => by cases h
  | [x], i, h, hi => by
    obtain rfl : i = x := by simpa using hi
    exact h
  | x :: y :: r, i, ⟨h1, h2⟩, hi => by
    rcases List.mem_cons.1 hi with rfl | hi
    · exact h1
    · exact allN_mem (l := y :: r) h2 hi
theorem npOk_of {ms : List (List Bool)} {np dn : List Nat} {i : Nat} (h : ∀ j ∈ np, nthB (nthR ms i) j = true → j ∈ dn) : npOk ms np dn i = true := List.all_eq_true.2 fun j hj => by
  cases hb : nthB (nthR ms i) j with
  | false => rfl
  | true => rw [memN_iff.2 (h j hj hb)]; rfl
theorem firstNP_ok {pu : List Bool} : ∀ {l : List Nat} {i : Nat}, firstNP pu l i = true → ∃ r1 r2, l = r1 ++ i :: r2 ∧ ∀ j ∈ r1, nthB pu j = true
  | [], _, h => by cases h
  | x :: r, i, h => by
    unfold firstNP at h
    rcases Bool.or_eq_true_iff.1 h with h | h
    · exact ⟨[], r, by rw [Nat.eq_of_beq_eq_true h]; rfl, fun _ hj => by cases hj⟩
    · obtain ⟨h1, h2⟩ := Bool.and_eq_true_iff.1 h
      obtain ⟨r1, r2, e, hp⟩ := firstNP_ok h2
      refine ⟨x :: r1, r2, by rw [e]; rfl, fun j hj => ?_⟩
      rcases List.mem_cons.1 hj with rfl | hj
      · exact h1
      · exact hp j hj
theorem stripN_ok : ∀ {l r q : List Nat}, stripN l r = some q → l ++ q = r
  | [], r, q, h => (Option.some.inj h).symm
  | _ :: _, [], _, h => by cases h
  | a :: l, b :: r, q, h => by
    unfold stripN at h
    cases hb : Nat.beq a b with
    | false => rw [hb] at h; cases h
    | true =>
      rw [hb] at h
      have h : stripN l r = some q := h
      rw [← stripN_ok h, Nat.eq_of_beq_eq_true hb]; rfl
theorem closeGo_ok {pu : List Bool} {ms : List (List Bool)} {np : List Nat} {os : List (List Nat)} : ∀ {l d0 : List Nat}, closeGo pu ms np os d0 l = true → ∀ (d : List Nat) (rest : List Nat), d ++ rest = l → ∀ i ∈ rest, npOk ms np (d0 ++ d) i = true → firstNP pu rest i = true ∨ ∃ q, (d0 ++ d) ++ q ∈ os ∧ firstNP pu q i = true
  | [], d0, _, d, rest, e, i, hi, _ => by
    have := (List.append_eq_nil_iff.1 e).2
    rw [this] at hi; cases hi
  | x :: l, d0, h, d, rest, e, i, hi, hn => by
    unfold closeGo at h
    obtain ⟨h1, h2⟩ := Bool.and_eq_true_iff.1 h
    cases d with
    | nil =>
      have e : rest = x :: l := e
      subst e
      rw [List.append_nil] at hn ⊢
      have h3 := List.all_eq_true.1 h1 i hi
      rw [hn] at h3
      rcases Bool.or_eq_true_iff.1 h3 with h3 | h3
      · exact .inl h3
      · rw [Bool.not_true, Bool.false_or] at h3
        obtain ⟨o, ho, h4⟩ := List.any_eq_true.1 h3
        split at h4
        · rename_i q hq
          exact .inr ⟨q, by rw [stripN_ok hq]; exact ho, h4⟩
        · cases h4
    | cons y d =>
      injection e with e1 e2
      subst e1
      have := closeGo_ok (l := l) (d0 := d0 ++ [y]) h2 d rest e2 i hi (by simpa using hn)
      simpa using this
def TreeT (X : Vx) (n : Nat) (W : Base) (F : List Atom) (b : Bs) (E : Env) (g : World) (ops : Array Oper) (ms : List (List Bool)) (pu : List Bool) (ords : List (List Nat)) (K : Ov → Prop) (dn rest : List Nat) (c : Act) (w' : World) : Prop :=
  dn ++ rest ∈ ords ∧ ∃ E' g' s lv os, EnvLe E E' ∧ Mono g g' ∧ Sta n W F b E' g' w' s c ∧ vTree X n ops b ms pu rest.length os lv s K ∧ (∀ r, dn ++ r ∈ ords → r ∈ os) ∧
    (∀ p ∈ lv, p.1 ∈ dn ∧ nthB pu p.1 = true ∧ ∃ o d sv, ops[p.1]? = some o ∧ Idem X n ops b s o d sv ∧ rdOf b s o = p.2) ∧
    ∀ i ∈ dn, nthB pu i = true → (∀ j ∈ dn, nthB pu j = false → ¬ Waits ops j i) → ∃ p ∈ lv, p.1 = i
theorem tree_ok (hct : CtOkW W X.P X.ct) {K : Ov → Prop} {Q : Exit → Act → World → Prop} {id : Nat} {ms : List (List Bool)} {pu : List Bool} (S : Sta n W F b E g w s a) (hm : X.P.follows .mixedOrders = true) (hE : edgesOk ops = true) (hD : dstsOk ops n = true) (hpu : (List.range ops.size).map (pureAt X.P ops) = pu) (hms : ∀ j i, nthB (nthR ms j) i = true → Waits ops j i)
    (h : forceL ((List.range ops.size).filter fun i => !nthB pu i) fun np => forceLL (altsGo pu ms np ops.size ops.size []) fun os => if altsOk ops pu ms np os then vTree X n ops b ms pu ops.size os [] s K else False) (k : ∀ a' w', Step n W F b E g K a' w' → Q .normal a' w') : (Code.region id ops true).wp X.P Q a w := by
  have h := forceL_eq _ h
  generalize hnp : (List.range ops.size).filter (fun i => !nthB pu i) = np at h
  have h := forceLL_eq _ h
  generalize altsGo pu ms np ops.size ops.size [] = ords at h
  obtain ⟨ho, h⟩ := if_ok h
  unfold altsOk at ho
  simp only [Bool.and_eq_true] at ho
  obtain ⟨h5, hne, hall⟩ := ho
  have hall := fun ord hm => List.all_eq_true.1 hall ord hm
  simp only [Bool.and_eq_true] at hall
  have hnd : ∀ ord, ord ∈ ords → ord.Nodup := fun ord hm => nodupN_iff.1 (hall ord hm).1
  have hord : ∀ ord, ord ∈ ords → ∀ i, i ∈ ord ↔ i < ops.size := fun ord hm i => ⟨fun hi => by simpa using List.all_eq_true.1 (hall ord hm).2.1 i hi, fun hi => memN_iff.1 (List.all_eq_true.1 (hall ord hm).2.2.1 i (List.mem_range.2 hi))⟩
  have h6 : ∀ ord, ord ∈ ords → laterOk ops pu ms ord = true := fun ord hm => (hall ord hm).2.2.2.1
  have hcl : ∀ ord, ord ∈ ords → closeGo pu ms np ords [] ord = true := fun ord hm => (hall ord hm).2.2.2.2
  have hpure : ∀ (i : Nat) (o : Oper), ops[i]? = some o → nthB pu i = true → pureOp X.P o = true := fun i o hi hp => by
    rw [← hpu, nthB_eq, List.getElem?_map, List.getElem?_range (Array.getElem?_eq_some_iff.1 hi).1] at hp
    have hp : pureAt X.P ops i = true := hp
    unfold pureAt at hp
    rw [hi] at hp
    simp only [Bool.and_eq_true] at hp
    exact hp.1
  have dne : ∀ (i j : Nat) (oi oj : Oper) (d : Nat), ops[i]? = some oi → ops[j]? = some oj → oi.dst = some d → oj.dst = some d → i = j := by
    have dne' : ∀ (i j : Nat) (oi oj : Oper) (d : Nat), j < i → ops[i]? = some oi → ops[j]? = some oj → oi.dst = some d → oj.dst = some d → False := fun i j oi oj d hji hi hj hdi hdj => by
      have hi' : i < ops.size := (Array.getElem?_eq_some_iff.1 hi).1
      have h1 := List.all_eq_true.1 hD i (List.mem_range.2 hi')
      simp only [hi, Option.bind_some, hdi, Bool.and_eq_true] at h1
      have h2 := List.all_eq_true.1 h1.2 j (List.mem_range.2 hji)
      simp [hj, hdj] at h2
    intro i j oi oj d hi hj hdi hdj
    rcases Nat.lt_trichotomy i j with h | h | h
    · exact (dne' j i oj oi d h hj hi hdj hdi).elim
    · exact h
    · exact (dne' i j oi oj d h hi hj hdi hdj).elim
  have stands : ∀ {dn rest : List Nat} {i : Nat} {o : Oper} {s1 s2 : Ov}, dn ++ i :: rest ∈ ords → ops[i]? = some o → (∀ t, o.dst ≠ some t → b.slot s2 t = b.slot s1 t) → ∀ (p : Nat × List Nat), p.1 ∈ dn → nthB pu p.1 = true → (∀ l ∈ p.2, b.obj s2 l = b.obj s1 l) → (nthB pu i = true ∨ nthB (nthR ms i) p.1 = false) →
      (∃ o d sv, ops[p.1]? = some o ∧ Idem X n ops b s1 o d sv ∧ rdOf b s1 o = p.2) → ∃ o d sv, ops[p.1]? = some o ∧ Idem X n ops b s2 o d sv ∧ rdOf b s2 o = p.2 := by
    rintro dn rest i o s1 s2 he hi hsl p hpd hpp hob hor ⟨op, d, sv, q1, q2, q3⟩
    obtain ⟨d1, d2, hdd⟩ := List.append_of_mem hpd
    have hl := laterOk_ok (h6 _ he) d1 p.1 (d2 ++ i :: rest) (by rw [hdd]; simp) hpp op q1
    have hs : ∀ t ∈ slotsOf ops op, b.slot s1 t = b.slot s2 t := fun t ht => (hsl t ((hl t ht).2 i (by simp) o hi hor)).symm
    have hne : p.1 ≠ i := fun e => by
      have := hnd _ he
      rw [List.nodup_append] at this
      exact this.2.2 p.1 hpd i (by simp) e
    have hdd : b.slot s2 d = b.slot s1 d := hsl d fun e => hne (dne p.1 i op o d q1 hi q2.dst e)
    exact ⟨op, d, sv, q1, q2.keep hs hdd (fun l hl => (hob l (by rw [← q3]; exact hl)).symm), by rw [← rdOf_congr hs]; exact q3⟩
  have h5o : ∀ dn rest c w' i, TreeT X n W F b E g ops ms pu ords K dn rest c w' → dn ++ rest ∈ ords → i ∈ rest → (∀ j, Waits ops i j → nthB pu j = false → j ∈ dn) → ∃ r1 r2, dn ++ (r1 ++ i :: r2) ∈ ords ∧ TreeT X n W F b E g ops ms pu ords K dn (r1 ++ i :: r2) c w' ∧ ∀ j ∈ r1, nthB pu j = true := fun dn rest c w' i hT he hir hw => by
    have hnpo : npOk ms np dn i = true := npOk_of fun j hj hb => hw j (hms i j hb) (by
      rw [← hnp] at hj
      simpa using (List.mem_filter.1 hj).2)
    have len : ∀ q, dn ++ q ∈ ords → q.length = rest.length := fun q hq => by
      have p1 := (List.perm_ext_iff_of_nodup (hnd _ he) (hnd _ hq)).2 fun x => (hord _ he x).trans (hord _ hq x).symm
      have := p1.length_eq
      simp only [List.length_append] at this
      omega
    rcases closeGo_ok (hcl _ he) dn rest rfl i hir (by simpa using hnpo) with h1 | ⟨q, hq, h1⟩
    · obtain ⟨r1, r2, e, hp⟩ := firstNP_ok h1
      subst e
      exact ⟨r1, r2, he, hT, hp⟩
    · obtain ⟨r1, r2, e, hp⟩ := firstNP_ok h1
      subst e
      have hq : dn ++ (r1 ++ i :: r2) ∈ ords := by simpa using hq
      obtain ⟨_, E', g', s1, lv, os, l1, l2, S1, hv, hos, hlv, hall⟩ := hT
      rw [← len _ hq] at hv
      exact ⟨r1, r2, hq, ⟨hq, E', g', s1, lv, os, l1, l2, S1, hv, hos, hlv, hall⟩, hp⟩
  obtain ⟨ord0, hord0⟩ : ∃ o, o ∈ ords := by
    cases ords with
    | nil => simp at hne
    | cons o _ => exact ⟨o, List.mem_cons_self ..⟩
  have hl0 : ord0.length = ops.size := by
    have p1 := (List.perm_ext_iff_of_nodup (hnd _ hord0) List.nodup_range).2 fun x => (hord _ hord0 x).trans List.mem_range.symm
    have := p1.length_eq
    rwa [List.length_range] at this
  refine wp_region_any hm ?_
  refine any_T (Ord := fun l => l ∈ ords) (pu := nthB pu) (T := TreeT X n W F b E g ops ms pu ords K) hE hD hnd hord h5o
    (fun i k oi ok d hi hk hd hm => (slotsOkB_ok h5 hi hk hd hm).imp (hms i k) fun q => q)
    (fun dn rest c w' ⟨_, E', g', s1, lv, _, _, _, S1, _⟩ => ⟨S1.size, S1.defers⟩) ?_ ?_ ?_ ?_ ops.size _ a _ [] ord0 a ⟨by simpa using hord0, by simp, ?_, S.size, S.defers, ?_, fun t _ => rfl, fun i hi => (by cases hi), ?_⟩ ?_
  · rintro dn rest c w' i o ⟨he, E', g', s1, lv, os, l1, l2, S1, hv, hos, hlv, hall⟩ hin hpi hi hnw
    obtain ⟨p, hp, rfl⟩ := hall i hin hpi hnw
    obtain ⟨_, _, op, d, sv, q1, q2, q3⟩ := hlv p hp
    rw [hi] at q1
    obtain rfl := Option.some.inj q1
    obtain ⟨v, v1, v2, v3⟩ := q2.again S1
    exact ⟨v, v1, v2, he, E', g', s1, lv, os, l1, l2, v3, hv, hos, hlv, hall⟩
  · rintro dn i rest c w' o ⟨he, E', g', s1, lv, os, l1, l2, S1, hv, hos, hlv, hall⟩ hpi hi
    have hv := allN_mem (forceL_eq _ hv) (headsN_mem (hos _ he))
    simp only [hi, hpi] at hv
    obtain ⟨d, v, sv, s2, S2, hk, hid, hrd, hsl, hob⟩ := pure_step S1 (hpure i o hi hpi) (fun t ht => (laterOk_ok (h6 _ he) dn i rest rfl hpi o hi t ht).1) hv
    have hk := forceLL_eq _ hk
    refine ⟨v, by simpa using he, E', g', s2, _, _, l1, l2, S2, hk, fun r hr => tailsN_mem (hos _ (by simpa using hr)), fun p hp => ?_, fun j hj hpj hnw => ?_⟩
    · rcases List.mem_cons.1 hp with rfl | hp
      · exact ⟨by simp, hpi, o, d, sv, hi, hid, hrd⟩
      · obtain ⟨p1, p2, p3⟩ := hlv p hp
        exact ⟨List.mem_append_left _ p1, p2, stands he hi hsl p p1 p2 (fun l _ => hob l) (.inl hpi) p3⟩
    · rcases List.mem_append.1 hj with hj | hj
      · obtain ⟨p, hp, e⟩ := hall j hj hpj fun q hq hpq => hnw q (List.mem_append_left _ hq) hpq
        exact ⟨p, List.mem_cons_of_mem _ hp, e⟩
      · have hji : j = i := by simpa using hj
        exact ⟨_, List.mem_cons_self .., hji.symm⟩
  · rintro dn i rest c w' o ⟨he, E', g', s1, lv, os, l1, l2, S1, hv, hos, hlv, hall⟩ hpi hi
    have hv := allN_mem (forceL_eq _ hv) (headsN_mem (hos _ he))
    simp only [hi, hpi] at hv
    have key : ∀ a' w'', NonR n W F b E' g' s1 o.dst (fun s' ks => forceL (lv.filter fun p => !nthB (nthR ms i) p.1) fun lv => if lv.all (fun p => p.2.all fun l => !memN l ks) then forceLL (tailsN i os) (fun os => vTree X n ops b ms pu rest.length os lv s' K) else False) a' w'' → TreeT X n W F b E g ops ms pu ords K (dn ++ [i]) rest a' w'' := by
      rintro a' w'' ⟨E2, g2, s2, ks, m1, m2, S2, hk, hal⟩
      have hk := forceL_eq _ hk
      obtain ⟨hc, hk⟩ := if_ok hk
      have hk := forceLL_eq _ hk
      refine ⟨by simpa using he, E2, g2, s2, _, _, l1.trans m1, l2.trans m2, S2, hk, fun r hr => tailsN_mem (hos _ (by simpa using hr)), fun p hp => ?_, fun j hj hpj hnw => ?_⟩
      · have hp' := (List.mem_filter.1 hp).1
        obtain ⟨p1, p2, p3⟩ := hlv p hp'
        have hw : nthB (nthR ms i) p.1 = false := by simpa using (List.mem_filter.1 hp).2
        refine ⟨List.mem_append_left _ p1, p2, stands he hi hal.slot p p1 p2 (fun l hl => hal.obj l fun hlk => ?_) (.inr hw) p3⟩
        have := List.all_eq_true.1 (List.all_eq_true.1 hc p hp) l hl
        rw [memN_iff.2 hlk] at this; cases this
      · have hj' : j ∈ dn := by
          rcases List.mem_append.1 hj with h | h
          · exact h
          · have : j = i := by simpa using h
            subst this
            rw [hpi] at hpj; cases hpj
        obtain ⟨p, hp, e⟩ := hall j hj' hpj fun q hq hpq => hnw q (List.mem_append_left _ hq) hpq
        refine ⟨p, List.mem_filter.2 ⟨hp, ?_⟩, e⟩
        cases hb : nthB (nthR ms i) p.1 with
        | false => rfl
        | true =>
          exfalso
          rw [e] at hb
          exact hnw i (by simp) hpi (hms i j hb)
    rcases non_step hct S1 hv with ⟨hw, hr⟩ | ⟨hw, hr⟩
    · refine .inl ⟨hw, ?_⟩
      rcases hr with ⟨v, w2, hr, h⟩ | ⟨w2, hr, h⟩ | ⟨f, args, hr, h⟩
      · exact .inl ⟨v, w2, hr, key _ w2 h⟩
      · exact .inr (.inl ⟨w2, hr, key _ w2 h⟩)
      · exact .inr (.inr ⟨f, args, hr, h.mono fun v w2 h => key _ w2 h⟩)
    · exact .inr ⟨hw, key _ _ hr⟩
  · rintro dn c w' ⟨he, E', g', s1, lv, os, l1, l2, S1, hv, _⟩
    exact k c w' ⟨E', g', s1, l1, l2, S1, hv⟩
  · intro j o hj hl
    rw [rep_false] at hl; cases hl
  · exact ⟨by simpa using hord0, E, g, s, [], ords, EnvLe.refl E, Mono.refl g, S.le (Le.drew w), by rw [hl0]; exact h, fun r hr => by simpa using hr, fun p hp => (by cases hp), fun i hi => (by cases hi)⟩
  · intro i hl
    rw [rep_false] at hl; cases hl
  · simp
    exact Nat.le_trans (List.length_filter_le _ _) (by simp)
theorem draw_ok (hct : CtOkW W X.P X.ct) {K : Ov → Prop} {Q : Exit → Act → World → Prop} {id : Nat} (S : Sta n W F b E g w s a) (h : vRegion X n ops true b s K) (k : ∀ a' w', Step n W F b E g K a' w' → Q .normal a' w') : (Code.region id ops true).wp X.P Q a w := by
  unfold vRegion at h
  rw [if_pos rfl] at h
  obtain ⟨h0, h⟩ := if_ok h
  simp only [Bool.and_eq_true] at h0
  obtain ⟨⟨hm, hE⟩, hD⟩ := h0
  have h := forceB_eq _ h
  obtain ⟨ms, h, hms⟩ := rowsK_ok (ops := ops) h (fun j => by simp) (fun j i h => by simp [nthR, nthB] at h)
  have h := forceL_eq _ h
  generalize hpu : (List.range ops.size).map (pureAt X.P ops) = pu at h
  generalize hod : ordOf pu ms ops.size = ord at h
  by_cases ho : ordOk ops pu ms ord = true
  case neg =>
    rw [if_neg ho] at h
    exact tree_ok hct S hm hE hD hpu hms h k
  rw [if_pos ho] at h
  unfold ordOk at ho
  simp only [Bool.and_eq_true] at ho
  obtain ⟨⟨⟨⟨⟨h1, h2⟩, h3⟩, h4⟩, h5⟩, h6⟩ := ho
  have hnd : ord.Nodup := nodupN_iff.1 h1
  have hord : ∀ i, i ∈ ord ↔ i < ops.size := fun i => ⟨fun hi => by simpa using List.all_eq_true.1 h2 i hi, fun hi => memN_iff.1 (List.all_eq_true.1 h3 i (List.mem_range.2 hi))⟩
  have hpure : ∀ (i : Nat) (o : Oper), ops[i]? = some o → nthB pu i = true → pureOp X.P o = true := fun i o hi hp => by
    rw [← hpu, nthB_eq, List.getElem?_map, List.getElem?_range (Array.getElem?_eq_some_iff.1 hi).1] at hp
    have hp : pureAt X.P ops i = true := hp
    unfold pureAt at hp
    rw [hi] at hp
    simp only [Bool.and_eq_true] at hp
    exact hp.1
  have dne : ∀ (i j : Nat) (oi oj : Oper) (d : Nat), ops[i]? = some oi → ops[j]? = some oj → oi.dst = some d → oj.dst = some d → i = j := by
    have dne' : ∀ (i j : Nat) (oi oj : Oper) (d : Nat), j < i → ops[i]? = some oi → ops[j]? = some oj → oi.dst = some d → oj.dst = some d → False := fun i j oi oj d hji hi hj hdi hdj => by
      have hi' : i < ops.size := (Array.getElem?_eq_some_iff.1 hi).1
      have h1 := List.all_eq_true.1 hD i (List.mem_range.2 hi')
      simp only [hi, Option.bind_some, hdi, Bool.and_eq_true] at h1
      have h2 := List.all_eq_true.1 h1.2 j (List.mem_range.2 hji)
      simp [hj, hdj] at h2
    intro i j oi oj d hi hj hdi hdj
    rcases Nat.lt_trichotomy i j with h | h | h
    · exact (dne' j i oj oi d h hj hi hdj hdi).elim
    · exact h
    · exact (dne' i j oi oj d h hi hj hdi hdj).elim
  -- what has come early stands while others are done
  have stands : ∀ {dn rest : List Nat} {i : Nat} {o : Oper} {s1 s2 : Ov}, dn ++ i :: rest = ord → ops[i]? = some o → (∀ t, o.dst ≠ some t → b.slot s2 t = b.slot s1 t) → ∀ (p : Nat × List Nat), p.1 ∈ dn → nthB pu p.1 = true → (∀ l ∈ p.2, b.obj s2 l = b.obj s1 l) → (nthB pu i = true ∨ nthB (nthR ms i) p.1 = false) →
      (∃ o d sv, ops[p.1]? = some o ∧ Idem X n ops b s1 o d sv ∧ rdOf b s1 o = p.2) → ∃ o d sv, ops[p.1]? = some o ∧ Idem X n ops b s2 o d sv ∧ rdOf b s2 o = p.2 := by
    rintro dn rest i o s1 s2 he hi hsl p hpd hpp hob hor ⟨op, d, sv, q1, q2, q3⟩
    obtain ⟨d1, d2, hdd⟩ := List.append_of_mem hpd
    have hl := laterOk_ok h6 d1 p.1 (d2 ++ i :: rest) (by rw [← he, hdd]; simp) hpp op q1
    have hs : ∀ t ∈ slotsOf ops op, b.slot s1 t = b.slot s2 t := fun t ht => (hsl t ((hl t ht).2 i (by simp) o hi hor)).symm
    have hne : p.1 ≠ i := fun e => by
      have := hnd
      rw [← he, List.nodup_append] at this
      exact this.2.2 p.1 hpd i (by simp) e
    have hdd : b.slot s2 d = b.slot s1 d := hsl d fun e => hne (dne p.1 i op o d q1 hi q2.dst e)
    exact ⟨op, d, sv, q1, q2.keep hs hdd (fun l hl => (hob l (by rw [← q3]; exact hl)).symm), by rw [← rdOf_congr hs]; exact q3⟩
  refine wp_region_any hm ?_
  have h5o : ∀ dn rest c w' i, DrawT X n W F b E g ops ms pu ord K dn rest c w' → dn ++ rest = ord → i ∈ rest → (∀ j, Waits ops i j → nthB pu j = false → j ∈ dn) → ∃ r1 r2, dn ++ (r1 ++ i :: r2) = ord ∧ DrawT X n W F b E g ops ms pu ord K dn (r1 ++ i :: r2) c w' ∧ ∀ j ∈ r1, nthB pu j = true := fun dn rest c w' i hT he hir hw => by
    obtain ⟨r1, r2, hr⟩ := List.append_of_mem hir
    subst hr
    refine ⟨r1, r2, he, hT, fun j hj => ?_⟩
    cases hp : nthB pu j with
    | true => rfl
    | false =>
      have h1 := hw j (hms i j (aheadOk_ok h4 (dn ++ r1) i r2 (by rw [← he]; simp) j (.inr (by simp [hj])) hp)) hp
      have := hnd
      rw [← he, List.nodup_append] at this
      exact (this.2.2 j h1 j (by simp [hj]) rfl).elim
  refine any_T (Ord := fun l => l = ord) (pu := nthB pu) (T := DrawT X n W F b E g ops ms pu ord K) hE hD (fun l e => by rw [e]; exact hnd) (fun l e i => by rw [e]; exact hord i) h5o
    (fun i k oi ok d hi hk hd hm => (slotsOkB_ok h5 hi hk hd hm).imp (hms i k) fun q => q)
    (fun dn rest c w' ⟨_, E', g', s1, lv, _, _, S1, _⟩ => ⟨S1.size, S1.defers⟩) ?_ ?_ ?_ ?_ ops.size _ a _ [] ord a ⟨rfl, by simp, ?_, S.size, S.defers, ?_, fun t _ => rfl, fun i hi => (by cases hi), ?_⟩ ?_
  · rintro dn rest c w' i o ⟨he, E', g', s1, lv, l1, l2, S1, hv, hlv, hall⟩ hin hpi hi hnw
    obtain ⟨p, hp, rfl⟩ := hall i hin hpi hnw
    obtain ⟨_, _, op, d, sv, q1, q2, q3⟩ := hlv p hp
    rw [hi] at q1
    obtain rfl := Option.some.inj q1
    obtain ⟨v, v1, v2, v3⟩ := q2.again S1
    exact ⟨v, v1, v2, he, E', g', s1, lv, l1, l2, v3, hv, hlv, hall⟩
  · rintro dn i rest c w' o ⟨he, E', g', s1, lv, l1, l2, S1, hv, hlv, hall⟩ hpi hi
    unfold vDraw at hv
    simp only [hi, hpi] at hv
    obtain ⟨d, v, sv, s2, S2, hk, hid, hrd, hsl, hob⟩ := pure_step S1 (hpure i o hi hpi) (fun t ht => (laterOk_ok h6 dn i rest he hpi o hi t ht).1) hv
    refine ⟨v, by rw [← he]; simp, E', g', s2, _, l1, l2, S2, hk, fun p hp => ?_, fun j hj hpj hnw => ?_⟩
    · rcases List.mem_cons.1 hp with rfl | hp
      · exact ⟨by simp, hpi, o, d, sv, hi, hid, hrd⟩
      · obtain ⟨p1, p2, p3⟩ := hlv p hp
        exact ⟨List.mem_append_left _ p1, p2, stands he hi hsl p p1 p2 (fun l _ => hob l) (.inl hpi) p3⟩
    · rcases List.mem_append.1 hj with hj | hj
      · obtain ⟨p, hp, e⟩ := hall j hj hpj fun q hq hpq => hnw q (List.mem_append_left _ hq) hpq
        exact ⟨p, List.mem_cons_of_mem _ hp, e⟩
      · have hji : j = i := by simpa using hj
        exact ⟨_, List.mem_cons_self .., hji.symm⟩
  · rintro dn i rest c w' o ⟨he, E', g', s1, lv, l1, l2, S1, hv, hlv, hall⟩ hpi hi
    unfold vDraw at hv
    simp only [hi, hpi] at hv
    have key : ∀ a' w'', NonR n W F b E' g' s1 o.dst (fun s' ks => forceL (lv.filter fun p => !nthB (nthR ms i) p.1) fun lv => if lv.all (fun p => p.2.all fun l => !memN l ks) then vDraw X n ops b ms pu rest lv s' K else False) a' w'' → DrawT X n W F b E g ops ms pu ord K (dn ++ [i]) rest a' w'' := by
      rintro a' w'' ⟨E2, g2, s2, ks, m1, m2, S2, hk, hal⟩
      have hk := forceL_eq _ hk
      obtain ⟨hc, hk⟩ := if_ok hk
      refine ⟨by rw [← he]; simp, E2, g2, s2, _, l1.trans m1, l2.trans m2, S2, hk, fun p hp => ?_, fun j hj hpj hnw => ?_⟩
      · have hp' := (List.mem_filter.1 hp).1
        obtain ⟨p1, p2, p3⟩ := hlv p hp'
        have hw : nthB (nthR ms i) p.1 = false := by simpa using (List.mem_filter.1 hp).2
        refine ⟨List.mem_append_left _ p1, p2, stands he hi hal.slot p p1 p2 (fun l hl => hal.obj l fun hlk => ?_) (.inr hw) p3⟩
        have := List.all_eq_true.1 (List.all_eq_true.1 hc p hp) l hl
        rw [memN_iff.2 hlk] at this; cases this
      · have hj' : j ∈ dn := by
          rcases List.mem_append.1 hj with h | h
          · exact h
          · have : j = i := by simpa using h
            subst this
            rw [hpi] at hpj; cases hpj
        obtain ⟨p, hp, e⟩ := hall j hj' hpj fun q hq hpq => hnw q (List.mem_append_left _ hq) hpq
        refine ⟨p, List.mem_filter.2 ⟨hp, ?_⟩, e⟩
        cases hb : nthB (nthR ms i) p.1 with
        | false => rfl
        | true =>
          exfalso
          rw [e] at hb
          exact hnw i (by simp) hpi (hms i j hb)
    rcases non_step hct S1 hv with ⟨hw, hr⟩ | ⟨hw, hr⟩
    · refine .inl ⟨hw, ?_⟩
      rcases hr with ⟨v, w2, hr, h⟩ | ⟨w2, hr, h⟩ | ⟨f, args, hr, h⟩
      · exact .inl ⟨v, w2, hr, key _ w2 h⟩
      · exact .inr (.inl ⟨w2, hr, key _ w2 h⟩)
      · exact .inr (.inr ⟨f, args, hr, h.mono fun v w2 h => key _ w2 h⟩)
    · exact .inr ⟨hw, key _ _ hr⟩
  · rintro dn c w' ⟨he, E', g', s1, lv, l1, l2, S1, hv, _⟩
    exact k c w' ⟨E', g', s1, l1, l2, S1, hv⟩
  · intro j o hj hl
    rw [rep_false] at hl; cases hl
  · exact ⟨rfl, E, g, s, [], EnvLe.refl E, Mono.refl g, S.le (Le.drew w), h, fun p hp => (by cases hp), fun i hi => (by cases hi)⟩
  · intro i hl
    rw [rep_false] at hl; cases hl
  · simp
    exact Nat.le_trans (List.length_filter_le _ _) (by simp)
theorem vRegion_ok (hct : CtOkW W X.P X.ct) {K : Ov → Prop} {Q : Exit → Act → World → Prop} {id : Nat} {draw : Bool} (S : Sta n W F b E g w s a) (h : vRegion X n ops draw b s K) (k : ∀ a' w', Step n W F b E g K a' w' → Q .normal a' w') : (Code.region id ops draw).wp X.P Q a w := by
  cases draw with
  | true => exact draw_ok hct S h k
  | false =>
    unfold vRegion at h
    exact wp_region_lit (vOps_ok hct S h k)
end
end Go.Lm

namespace Go.Lm
open Go Go.RowKit
section
variable {W : Base} {F : List Atom} {E E' : Env} {g w : World}
theorem env_lt {l : Nat} {v : Value} (h : E[l]? = some v) : l < E.length := (List.getElem?_eq_some_iff.1 h).1
mutual
theorem RelC.lab : ∀ {c : Cl} {u : Value}, RelC E g c u → ∀ l ∈ c.labels, l < E.length
  | .k _, _, _, _, h => by cases h
  | .d _ _, _, _, _, h => by cases h
  | .de _ _ _ _, _, _, _, h => by cases h
  | .unk, _, _, _, h => by cases h
  | .p _ _, _, ⟨_, h1, _⟩, _, h => by rw [List.mem_singleton.1 h]; exact env_lt h1
  | .o _, _, ⟨h1, _⟩, _, h => by rw [List.mem_singleton.1 h]; exact env_lt h1
  | .os _ _ _ _, _, ⟨_, h1, _⟩, _, h => by rw [List.mem_singleton.1 h]; exact env_lt h1
  | .oe _ _ _ _, _, ⟨_, h1, _⟩, _, h => by rw [List.mem_singleton.1 h]; exact env_lt h1
  | .m _, _, ⟨_, h1, _⟩, _, h => by rw [List.mem_singleton.1 h]; exact env_lt h1
  | .sc _ _ _, _, ⟨_, _, h1, _⟩, _, h => by rw [List.mem_singleton.1 h]; exact env_lt h1
  | .kl _ _, _, ⟨⟨_, h1⟩, _⟩, _, h => by rw [List.mem_singleton.1 h]; exact env_lt h1
  | .fn _ _, _, ⟨_, h1, _⟩, l, h => RelCs.lab h1 l h
  | .ifc _ _, _, ⟨_, h1, _⟩, l, h => RelC.lab h1 l h
theorem RelCs.lab : ∀ {cs : List Cl} {us : List Value}, RelCs E g cs us → ∀ l ∈ Cl.labelss cs, l < E.length
  | [], _, _, _, h => by cases h
  | _ :: _, _, ⟨_, _, _, h1, h2⟩, l, h => by
    rcases List.mem_append.1 h with h | h
    · exact RelC.lab h1 l h
    · exact RelCs.lab h2 l h
end
mutual
theorem RelC.keep : ∀ {c : Cl} {u : Value}, (∀ l ∈ c.labels, E'[l]? = E[l]?) → RelC E g c u → RelC E' g c u
  | .k _, _, _, h => h
  | .d _ _, _, _, h => h
  | .de _ _ _ _, _, _, h => h
  | .unk, _, _, h => h
  | .p l _, _, k, ⟨b, h1, h2⟩ => ⟨b, by rw [k l (List.mem_singleton.2 rfl)]; exact h1, h2⟩
  | .o l, _, k, ⟨h1, h2⟩ => ⟨by rw [k l (List.mem_singleton.2 rfl)]; exact h1, h2⟩
  | .os l _ _ _, _, k, ⟨v, h1, h2⟩ => ⟨v, by rw [k l (List.mem_singleton.2 rfl)]; exact h1, h2⟩
  | .oe l _ _ _, _, k, ⟨v, h1, h2⟩ => ⟨v, by rw [k l (List.mem_singleton.2 rfl)]; exact h1, h2⟩
  | .m l, _, k, ⟨b, h1, h2⟩ => ⟨b, by rw [k l (List.mem_singleton.2 rfl)]; exact h1, h2⟩
  | .sc l _ _, _, k, ⟨b, c, h1, h2⟩ => ⟨b, c, by rw [k l (List.mem_singleton.2 rfl)]; exact h1, h2⟩
  | .kl l _, _, k, ⟨⟨x, h1⟩, h2⟩ => ⟨⟨x, by rw [k l (List.mem_singleton.2 rfl)]; exact h1⟩, h2⟩
  | .fn _ _, _, k, ⟨us, h1, h2⟩ => ⟨us, RelCs.keep k h1, h2⟩
  | .ifc _ _, _, k, ⟨v, h1, h2⟩ => ⟨v, RelC.keep k h1, h2⟩
theorem RelCs.keep : ∀ {cs : List Cl} {us : List Value}, (∀ l ∈ Cl.labelss cs, E'[l]? = E[l]?) → RelCs E g cs us → RelCs E' g cs us
  | [], _, _, h => h
  | _ :: _, _, k, ⟨u, r, e, h1, h2⟩ => ⟨u, r, e, RelC.keep (fun l hl => k l (List.mem_append_left _ hl)) h1, RelCs.keep (fun l hl => k l (List.mem_append_right _ hl)) h2⟩
end
theorem RelS.lab : ∀ {x : S1} {u : Value}, RelS E g x u → ∀ l ∈ x.labels, l < E.length
  | .c _, _, h, l, hl => RelC.lab h l hl
  | .agg _, _, ⟨_, h, _⟩, l, hl => RelCs.lab h l hl
theorem RelS.keep : ∀ {x : S1} {u : Value}, (∀ l ∈ x.labels, E'[l]? = E[l]?) → RelS E g x u → RelS E' g x u
  | .c _, _, k, h => RelC.keep k h
  | .agg _, _, k, ⟨us, h, e⟩ => ⟨us, RelCs.keep k h, e⟩
theorem RelSs.lab : ∀ {x : List S1} {us : List Value}, RelSs E g x us → ∀ l ∈ x.flatMap S1.labels, l < E.length
  | [], _, _, _, h => by cases h
  | _ :: _, _, ⟨_, _, _, h1, h2⟩, l, h => by
    rw [List.flatMap_cons] at h
    rcases List.mem_append.1 h with h | h
    · exact h1.lab l h
    · exact h2.lab l h
theorem RelSs.keep : ∀ {x : List S1} {us : List Value}, (∀ l ∈ x.flatMap S1.labels, E'[l]? = E[l]?) → RelSs E g x us → RelSs E' g x us
  | [], _, _, h => h
  | _ :: _, _, k, ⟨u, r, e, h1, h2⟩ => ⟨u, r, e, h1.keep fun l hl => k l (by rw [List.flatMap_cons]; exact List.mem_append_left _ hl), h2.keep fun l hl => k l (by rw [List.flatMap_cons]; exact List.mem_append_right _ hl)⟩
theorem RelV.lab : ∀ {x : SV} {u : Value}, RelV E g x u → ∀ l ∈ x.labels, l < E.length
  | .v _, _, h, l, hl => RelS.lab h l hl
  | .tup _, _, ⟨_, h, _⟩, l, hl => RelSs.lab h l hl
  | .any, _, _, _, hl => by cases hl
theorem RelV.keep : ∀ {x : SV} {u : Value}, (∀ l ∈ x.labels, E'[l]? = E[l]?) → RelV E g x u → RelV E' g x u
  | .v _, _, k, h => RelS.keep k h
  | .tup _, _, k, ⟨us, h, e⟩ => ⟨us, RelSs.keep k h, e⟩
  | .any, _, _, _ => trivial
theorem atomO.lab {l : Nat} : ∀ {o : HO} {h : Hp}, (atomO E l o).sat g h → ∀ k ∈ o.labels, k < E.length
  | .cells _ _, _, ⟨_, _, _, h2, _⟩, k, hk => RelCs.lab h2 k hk
  | .sl _ _ _, _, _, _, hk => by cases hk
  | .held _ _ _, _, _, _, hk => by cases hk
  | .map .., _, _, _, hk => by cases hk
  | .abs _, _, _, _, hk => by cases hk
  | .ab _, _, _, _, hk => by cases hk
  | .up .., _, _, _, hk => by cases hk
  | .gone, _, _, _, hk => by cases hk
theorem atomO.keep {l l' : Nat} : ∀ {o : HO} {h : Hp}, (∀ k ∈ o.labels, E'[k]? = E[k]?) → E'[l']? = E[l]? → (atomO E l o).sat g h → (atomO E' l' o).sat g h
  | .cells _ _, _, k, kl, ⟨b, us, h1, h2, h3⟩ => ⟨b, us, by rw [kl]; exact h1, RelCs.keep k h2, h3⟩
  | .sl _ _ _, _, _, kl, ⟨v, h1, h2⟩ => ⟨v, by rw [kl]; exact h1, h2⟩
  | .held _ _ _, _, _, kl, ⟨v, h1, h2⟩ => ⟨v, by rw [kl]; exact h1, h2⟩
  | .map .., _, _, kl, ⟨b, m, h1, h2⟩ => ⟨b, m, by rw [kl]; exact h1, h2⟩
  | .abs _, _, _, kl, ⟨v, h1, h2⟩ => ⟨v, by rw [kl]; exact h1, h2⟩
  | .ab _, _, _, kl, ⟨v, h1, h2⟩ => ⟨v, by rw [kl]; exact h1, h2⟩
  | .up .., _, _, kl, ⟨u, P, h1, h2⟩ => ⟨u, P, by rw [kl]; exact h1, h2⟩
  | .gone, _, _, _, h => h
end
section
variable {n : Nat} {W : Base} {F : List Atom} {b : Bs} {E E' : Env} {g g' w w' : World} {s s' : Ov} {a a' : Act}
theorem lookS_filter {p : Nat → Bool} : ∀ {l : Slots} {t : Nat}, lookS (l.filter fun q => p q.1) t = bif p t then lookS l t else none
  | [], t => by cases p t <;> rfl
  | (k, v) :: r, t => by
    rw [List.filter_cons]
    by_cases e : k = t
    · subst e
      cases hp : p k with
      | true => simp [lookS]
      | false =>
        have := lookS_filter (p := p) (l := r) (t := k)
        rw [hp] at this
        simpa using this
    · have ih := lookS_filter (p := p) (l := r) (t := t)
      split
      · simp only [lookS, beq_ne e, cond_false]; exact ih
      · simp only [lookS, beq_ne e, cond_false]; exact ih
theorem sect_slot {ks : List Nat} (t : Nat) : (sectB ks b s).slot (sectS ks b s) t = b.slot s t := by
  unfold Bs.slot sectB sectS
  simp only
  rw [lookS_filter (p := fun k => memN k ks), lookS_filter (p := fun k => !memN k ks), lookS_app]
  cases memN t ks with
  | true => simp only [cond_true, Bool.not_true, cond_false]; split <;> rename_i h <;> first | exact h.symm | (rw [h])
  | false => simp only [cond_false, Bool.not_false, cond_true]; rfl
theorem sect_obj {ks : List Nat} (h : ∀ l, s.n ≤ l → b.obj s l = .gone) {s2 s3 : Ov} (h3 : s3.h = s2.h ++ s.h) (l : Nat) : (sectB ks b s).obj s2 l = b.obj s3 l := by
  unfold Bs.obj
  rw [h3, lookO_app]
  show (match lookO s2.h l with | some o => o | none => nthH (b.heap s) l) = _
  cases lookO s2.h l with
  | some o => rfl
  | none => exact nthH_heap h l
theorem sect_heap {ks : List Nat} (h : ∀ l, s.n ≤ l → b.obj s l = .gone) {s2 s3 : Ov} (h3 : s3.h = s2.h ++ s.h) (hn : s3.n = s2.n) : (sectB ks b s).heap s2 = b.heap s3 := by
  unfold Bs.heap
  rw [hn]
  exact List.map_congr_left fun l _ => sect_obj h h3 l
theorem Sta.sect (S : Sta n W F b E g w s a) (ks : List Nat) : Sta n W F (sectB ks b s) E g w (sectS ks b s) a := by
  refine ⟨S.size, S.defers, fun t v hv => S.fr t v (by rw [← sect_slot (ks := ks)]; exact hv), ?_, fun l hl => ?_⟩
  · rw [sect_heap (s2 := sectS ks b s) (s3 := s) S.top rfl rfl]; exact S.sat
  · rw [sect_obj (s2 := sectS ks b s) (s3 := s) S.top rfl]; exact S.top l hl
theorem lookS_any {ks : List Nat} {t : Nat} : lookS (ks.map fun k => (k, SV.any)) t = bif memN t ks then some .any else none := by
  induction ks with
  | nil => rfl
  | cons k r ih =>
    simp only [List.map_cons, lookS, memN]
    by_cases e : k = t
    · subst e; simp
    · have e' : ¬ t = k := fun q => e q.symm
      rw [beq_ne e, beq_ne e', ih]; rfl
theorem Sta.out {ks : List Nat} (top : ∀ l, s.n ≤ l → b.obj s l = .gone) (S : Sta n W F (sectB ks b s) E' g' w' s' a') : Sta n W F b E' g' w' (sectOut ks s s') a' := by
  refine ⟨S.size, S.defers, fun t v hv => ?_, ?_, fun l hl => ?_⟩
  · have hv : (match lookS (s'.f ++ (ks.map (fun k => (k, SV.any)) ++ s.f)) t with
      | some v => some v
      | none => lookS b.f t) = some v := hv
    rw [lookS_app, lookS_app, lookS_any] at hv
    cases h1 : lookS s'.f t with
    | some u =>
      rw [h1] at hv
      refine S.fr t v ?_
      unfold Bs.slot
      rw [h1]; exact hv
    | none =>
      rw [h1] at hv
      cases hm : memN t ks with
      | true =>
        rw [hm] at hv
        obtain rfl : SV.any = v := Option.some.inj hv
        trivial
      | false =>
        rw [hm] at hv
        refine S.fr t v ?_
        unfold Bs.slot
        rw [h1]
        show lookS ((s.f ++ b.f).filter fun p => !memN p.1 ks) t = some v
        rw [lookS_filter (p := fun k => !memN k ks), hm, lookS_app]
        exact hv
  · rw [← sect_heap (s2 := s') (s3 := sectOut ks s s') top rfl rfl]; exact S.sat
  · rw [← sect_obj (s2 := s') (s3 := sectOut ks s s') top rfl]; exact S.top l hl
structure Old (n0 : Nat) (b1 : Bs) : Prop where
  slot : ∀ t v, lookS b1.f t = some v → ∀ l ∈ v.labels, l < n0
  obj : ∀ k, ∀ l ∈ (nthH b1.h k).labels, l < n0
  len : b1.h.length = n0
theorem Sta.old (S : Sta n W F b E g w s a) (ks : List Nat) : Old s.n (sectB ks b s) := by
  refine ⟨fun t v hv l hl => ?_, fun k l hl => ?_, heap_len⟩
  · rw [← S.len]
    have hv : lookS ((s.f ++ b.f).filter fun p => !memN p.1 ks) t = some v := hv
    rw [lookS_filter (p := fun k => !memN k ks)] at hv
    cases hm : memN t ks with
    | true => rw [hm] at hv; cases hv
    | false =>
      rw [hm, Bool.not_false, cond_true, lookS_app] at hv
      exact (S.fr t v hv).lab l hl
  · have hl : l ∈ (nthH (b.heap s) k).labels := hl
    rw [nthH_heap S.top] at hl
    rw [← S.len]
    by_cases hk : k < s.n
    · have hk' : k < E.length := by rw [S.len]; exact hk
      obtain ⟨h, _, _, _, h1, _, _, _, s1, _⟩ := S.pick (List.getElem?_eq_getElem hk')
      exact atomO.lab s1 l hl
    · rw [S.top k (by omega)] at hl; cases hl
theorem wp_loop_fam {P : Program} {Q : Exit → Act → World → Prop} {c : Code} {ι : Type} (I : ι → Act → World → Prop) (μ : ι → Nat) (i₀ : ι) (h₀ : I i₀ a w)
    (round : ∀ i a w, I i a w → c.wp P (Exit.then (fun a' w' => ∃ i', I i' a' w' ∧ μ i' < μ i) Q) a w) : (Code.loop c).wp P Q a w := by
  have key : ∀ k i a w, μ i = k → I i a w → ∀ (b : Frame) (kk : List Item) (cs : List Frame),
      ∃ e a' w', Q e a' w' ∧ Arrives P (lone (b.at a (.code c :: .inLoop c :: kk)) cs w) b kk cs e a' w' := by
    intro k
    induction k using Nat.strongRecOn with
    | _ k ih =>
      intro i a w hk hi b kk cs
      obtain ⟨e, a₁, w₁, hq, harr⟩ := round i a w hi b (.inLoop c :: kk) cs
      cases e with
      | normal =>
        obtain ⟨i', hI, hlt⟩ := hq
        obtain ⟨e₂, a₂, w₂, hq₂, harr₂⟩ := ih (μ i') (by omega) i' a₁ w₁ rfl hI b kk cs
        exact ⟨e₂, a₂, w₂, hq₂, .of_steps (Steps.trans harr (.one step_inLoop)) harr₂⟩
      | exit id => exact ⟨_, a₁, w₁, hq, .pass (x := .inLoop c) rfl (fun _ _ => .inl (by simp)) harr⟩
      | goto l => exact ⟨_, a₁, w₁, hq, .pass (x := .inLoop c) rfl (fun _ _ => .inl (by simp)) harr⟩
      | ret => exact ⟨_, a₁, w₁, hq, .pass (x := .inLoop c) rfl (fun _ _ => .inl (by simp)) harr⟩
      | panic ch => exact ⟨_, a₁, w₁, hq, .pass (x := .inLoop c) rfl (fun _ _ => .inl (by simp)) harr⟩
      | outgrown => exact ⟨_, a₁, w₁, hq, .pass (x := .inLoop c) rfl (fun _ _ => .inl (by simp)) harr⟩
  intro b kk cs
  obtain ⟨e, a', w', hq, harr⟩ := key _ i₀ a w rfl h₀ b kk cs
  exact ⟨e, a', w', hq, .of_steps (.one step_loop) harr⟩
end
end Go.Lm

namespace Go.Lm
open Go Go.RowKit
section
variable {n n0 : Nat} {W : Base} {F : List Atom} {b : Bs} {E E2 E3 : Env} {g w : World} {s s' : Ov} {a : Act}
def Mov : HO → Prop
  | .sl .. | .ab _ => True
  | _ => False
theorem Mov.sat {E2 E3 : Env} {g : World} {l i : Nat} {v : Value} {hh : Hp} : ∀ {o : HO}, Mov o → E2[l]? = some v → E3[i]? = some v → (atomO E2 l o).sat g hh → (atomO E3 i o).sat g hh
  | .sl .., _, h1, h2, ⟨z, z1, z2⟩ => by
    rw [h1] at z1
    obtain rfl := Option.some.inj z1
    exact ⟨_, h2, z2⟩
  | .ab _, _, h1, h2, ⟨z, z1, z2⟩ => by
    rw [h1] at z1
    obtain rfl := Option.some.inj z1
    exact ⟨_, h2, z2⟩
  | .cells .., h, _, _, _ | .held .., h, _, _, _ | .map .., h, _, _, _ | .abs _, h, _, _, _ | .up .., h, _, _, _ | .gone, h, _, _, _ => h.elim
def NewOk (E2 : Env) (b : Bs) (s' : Ov) (q : Option Nat × Value) (o : HO) : Prop :=
  (∃ l o', q.1 = some l ∧ E2[l]? = some q.2 ∧ b.obj s' l = o' ∧ o = o' ∧ Mov o') ∨ (q.1 = none ∧ q.2 = .slice none 0 0 ∧ ∃ t e, o = .sl t e [])
def AllNew (E2 : Env) (b : Bs) (s' : Ov) : List (Option Nat × Value) → List HO → Prop
  | [], os => os = []
  | q :: qs, os => ∃ o r, os = o :: r ∧ NewOk E2 b s' q o ∧ AllNew E2 b s' qs r
theorem AllNew.app : ∀ {q1 q2 : List (Option Nat × Value)} {o1 o2 : List HO}, AllNew E2 b s' q1 o1 → AllNew E2 b s' q2 o2 → AllNew E2 b s' (q1 ++ q2) (o1 ++ o2)
  | [], _, _, _, h, k => by rw [show _ = [] from h]; exact k
  | _ :: _, _, _, _, ⟨o, r, e, h1, h2⟩, k => by rw [e]; exact ⟨o, _, rfl, h1, h2.app k⟩
theorem AllNew.len : ∀ {q : List (Option Nat × Value)} {o : List HO}, AllNew E2 b s' q o → q.length = o.length
  | [], _, h => by rw [show _ = [] from h]; rfl
  | _ :: _, _, ⟨o, r, e, _, h⟩ => by rw [e, List.length_cons, List.length_cons, h.len]
theorem AllNew.get : ∀ {q : List (Option Nat × Value)} {o : List HO} {i : Nat} {x : Option Nat × Value} {y : HO}, AllNew E2 b s' q o → q[i]? = some x → o[i]? = some y → NewOk E2 b s' x y
  | [], _, _, _, _, _, h, _ => by simp at h
  | _ :: _, _, 0, x, y, ⟨o, r, e, h1, _⟩, h, k => by
    subst e
    obtain rfl : _ = x := by simpa using h
    obtain rfl : o = y := by simpa using k
    exact h1
  | _ :: _, _, i + 1, x, y, ⟨o, r, e, _, h2⟩, h, k => by
    subst e
    exact h2.get (i := i) (by simpa using h) (by simpa using k)
def Kept (n0 : Nat) (E2 E3 : Env) : Prop := ∀ l, l < n0 → E3[l]? = E2[l]?
def At (E3 : Env) (m : Nat) (qs : List (Option Nat × Value)) : Prop := ∀ j q, qs[j]? = some q → E3[m + j]? = some q.2
theorem At.left {m : Nat} {p q : List (Option Nat × Value)} (h : At E3 m (p ++ q)) : At E3 m p := fun j x hx => h j x (by rw [List.getElem?_append_left (List.getElem?_eq_some_iff.1 hx).1]; exact hx)
theorem At.right {m : Nat} {p q : List (Option Nat × Value)} (h : At E3 m (p ++ q)) : At E3 (m + p.length) q := fun j x hx => by
  have := h (p.length + j) x (by rw [List.getElem?_append_right (by omega)]; simpa using hx)
  rw [show m + p.length + j = m + (p.length + j) by omega]; exact this
abbrev srcs (qs : List (Option Nat × Value)) : List Nat := qs.filterMap (·.1)
theorem sh_rd (S : Sta n W F b E2 g w s' a) (hb : b.h.length = n0) : ∀ {h : Sh} {c : Cl} {x : h.den} {u : List Nat} {v0 : Value}, h.rd b s' c = some (x, u) → RelC E2 g c v0 →
    ∃ qs, srcs qs = u ∧ (∀ m, AllNew E2 b s' qs (h.mk x m).2) ∧ ∀ m E3, Kept n0 E2 E3 → At E3 m qs → ∀ v, RelC E2 g c v → RelC E3 g (h.mk x m).1 v := by
  intro h c x u v0 hr r0
  cases h with
  | int k =>
    dsimp only [Sh.rd] at hr
    split at hr
    · split at hr
      · rename_i hk
        obtain rfl := IntKind.eq_of_beq hk
        cases hr
        exact ⟨[], rfl, fun m => rfl, fun m E3 _ _ v h => h⟩
      · cases hr
    · cases hr
  | bool =>
    dsimp only [Sh.rd] at hr
    split at hr
    · cases hr
      exact ⟨[], rfl, fun m => rfl, fun m E3 _ _ v h => h⟩
    · cases hr
  | str =>
    dsimp only [Sh.rd] at hr
    split at hr
    · cases hr
      exact ⟨[], rfl, fun m => rfl, fun m E3 _ _ v h => h⟩
    · cases hr
  | d e =>
    dsimp only [Sh.rd] at hr
    split at hr
    · split at hr
      · rename_i y hy
        obtain ⟨q, e1⟩ := asD_some hy
        subst q
        cases hr
        subst e1
        exact ⟨[], rfl, fun m => rfl, fun m E3 _ _ v h => h⟩
      · cases hr
    · cases hr
      exact ⟨[], rfl, fun m => rfl, fun m E3 _ _ v h => by
        obtain ⟨rfl, _⟩ := h
        exact (@is_list e.den e.rep g _ _).2 (.inl ⟨rfl, rfl⟩)⟩
    · split at hr
      · rename_i hob
        split at hr
        · rename_i y hy
          obtain ⟨q, e1⟩ := asD_some hy
          subst q
          cases hr
          subst e1
          exact ⟨[], rfl, fun m => rfl, fun m E3 _ _ v h => St_held S h.1 hob⟩
        · cases hr
      · cases hr
    · cases hr
  | own t e =>
    dsimp only [Sh.rd] at hr
    split at hr
    · cases hr
      refine ⟨[(none, .slice none 0 0)], rfl, fun m => ⟨_, [], rfl, .inr ⟨rfl, rfl, t, e, rfl⟩, rfl⟩, fun m E3 _ hat v h => ?_⟩
      obtain ⟨rfl, _⟩ := h
      exact ⟨by have := hat 0 _ rfl; simpa using this, none, 0, 0, rfl⟩
    · rename_i l
      split at hr
      · rename_i t' e' xs hob
        split at hr
        · rename_i ht
          obtain rfl := Nat.eq_of_beq_eq_true ht
          split at hr
          · rename_i y hy
            obtain ⟨q, e1⟩ := asD_some hy
            subst q
            cases hr
            subst e1
            refine ⟨[(some l, v0)], rfl, fun m => ⟨_, [], rfl, .inl ⟨l, _, rfl, r0.1, hob, rfl, trivial⟩, rfl⟩, fun m E3 _ hat v h => ?_⟩
            have : v = v0 := by
              have h1 := h.1
              rw [r0.1] at h1
              exact (Option.some.inj h1).symm
            subst this
            exact ⟨by have := hat 0 _ rfl; simpa using this, h.2⟩
          · cases hr
        · cases hr
      · cases hr
    · cases hr
  | p l off =>
    dsimp only [Sh.rd] at hr
    split at hr
    · split at hr
      · rename_i hq
        simp only [Bool.and_eq_true] at hq
        obtain ⟨⟨h1, h2⟩, h3⟩ := hq
        obtain rfl := Nat.eq_of_beq_eq_true h1
        obtain rfl := Nat.eq_of_beq_eq_true h2
        cases hr
        refine ⟨[], rfl, fun m => rfl, fun m E3 hk _ v h => h.keep fun l hl => ?_⟩
        rw [List.mem_singleton.1 hl]
        exact hk _ (by rw [← hb]; simpa using h3)
      · cases hr
    · cases hr
  | m l =>
    dsimp only [Sh.rd] at hr
    split at hr
    · split at hr
      · rename_i hq
        simp only [Bool.and_eq_true] at hq
        obtain ⟨h1, h3⟩ := hq
        obtain rfl := Nat.eq_of_beq_eq_true h1
        cases hr
        refine ⟨[], rfl, fun m => rfl, fun m E3 hk _ v h => h.keep fun l hl => ?_⟩
        rw [List.mem_singleton.1 hl]
        exact hk _ (by rw [← hb]; simpa using h3)
      · cases hr
    · cases hr
  | pa t =>
    dsimp only [Sh.rd] at hr
    split at hr
    · rename_i l
      split at hr
      · rename_i k hob
        split at hr
        · rename_i y hy
          cases hr
          have hk := AbT.rd_ok hy
          obtain ⟨bb, hE, hv⟩ := r0
          have hv0 : v0 = ptr bb 0 := hv
          subst hv0
          refine ⟨[(some l, ptr bb 0)], rfl, fun m => ⟨_, [], rfl, .inl ⟨l, _, rfl, hE, hob, by rw [hk], trivial⟩, rfl⟩, fun m E3 _ hat v h => ?_⟩
          obtain ⟨b2, h1, h2⟩ := h
          rw [hE] at h1
          have e : ptr bb 0 = ptr b2 0 := Option.some.inj h1
          refine ⟨b2, ?_, h2⟩
          have := hat 0 _ rfl
          rw [← e]
          simpa using this
        · cases hr
      · cases hr
    · cases hr
theorem srcs_app {p q : List (Option Nat × Value)} : srcs (p ++ q) = srcs p ++ srcs q := by simp [srcs]
theorem shs_rd (S : Sta n W F b E2 g w s' a) (hb : b.h.length = n0) : ∀ {l : List Sh} {cs : List Cl} {x : Shs.den l} {u : List Nat} {us0 : List Value}, Shs.rd b s' l cs = some (x, u) → RelCs E2 g cs us0 →
    ∃ qs, srcs qs = u ∧ (∀ m, AllNew E2 b s' qs (Shs.mk l x m).2) ∧ ∀ m E3, Kept n0 E2 E3 → At E3 m qs → ∀ us, RelCs E2 g cs us → RelCs E3 g (Shs.mk l x m).1 us
  | [], [], x, u, us0, hr, r => by
    cases hr
    exact ⟨[], rfl, fun m => rfl, fun m E3 _ _ us h => h⟩
  | h :: l, c :: cs, x, u, us0, hr, ⟨v0, r0, e0, h1, h2⟩ => by
    unfold Shs.rd at hr
    split at hr
    · rename_i x1 u1 hx
      split at hr
      · rename_i y u2 hy
        cases hr
        obtain ⟨q1, e1, n1, k1⟩ := sh_rd S hb hx h1
        obtain ⟨q2, e2, n2, k2⟩ := shs_rd S hb hy h2
        refine ⟨q1 ++ q2, by rw [srcs_app, e1, e2], fun m => (n1 m).app (n2 _), fun m E3 hk hat us hus => ?_⟩
        obtain ⟨v, r, rfl, g1, g2⟩ := hus
        refine ⟨v, r, rfl, k1 m E3 hk hat.left v g1, k2 _ E3 hk ?_ r g2⟩
        rw [← (n1 m).len]; exact hat.right
      · cases hr
    · cases hr
  | [], _ :: _, _, _, _, hr, _ => by cases hr
  | _ :: _, [], _, _, _, hr, _ => by cases hr
theorem osh_rd (S : Sta n W F b E2 g w s' a) (hb : b.h.length = n0) {h : OSh} {x : h.den} {u : List Nat} {l : Nat} (hl : l < n0) (hs : n0 ≤ s'.n) (hr : h.rd b s' (b.obj s' l) = some (x, u)) :
    ∃ qs, srcs qs = u ∧ (∀ m, AllNew E2 b s' qs (h.mk x m).2) ∧ ∀ m E3, Kept n0 E2 E3 → At E3 m qs → ∀ hh, (atomO E2 l (b.obj s' l)).sat g hh → (atomO E3 l (h.mk x m).1).sat g hh := by
  have hl' : l < E2.length := by rw [S.len]; omega
  obtain ⟨_, _, _, _, hh0, _, _, _, sat0, _⟩ := S.pick (List.getElem?_eq_getElem hl')
  cases h with
  | cells t cs =>
    dsimp only [OSh.rd] at hr
    split at hr
    · rename_i t' c hob
      rw [hob] at sat0 ⊢
      split at hr
      · rename_i ht
        obtain rfl := Nat.eq_of_beq_eq_true ht
        obtain ⟨b0, us0, _, r0, _⟩ := sat0
        obtain ⟨qs, e1, n1, k1⟩ := shs_rd S hb hr r0
        exact ⟨qs, e1, n1, fun m E3 hk hat hh ⟨b1, us, h1, h2, h3⟩ => ⟨b1, us, by rw [hk l hl]; exact h1, k1 m E3 hk hat us h2, h3⟩⟩
      · cases hr
    · cases hr
  | sl t e =>
    dsimp only [OSh.rd] at hr
    split at hr
    · rename_i t' e' xs hob
      split at hr
      · rename_i ht
        obtain rfl := Nat.eq_of_beq_eq_true ht
        split at hr
        · rename_i y hy
          obtain ⟨q, e1⟩ := asD_some hy
          subst q
          cases hr
          subst e1
          rw [hob]
          exact ⟨[], rfl, fun m => rfl, fun m E3 hk _ hh ⟨v, h1, h2⟩ => ⟨v, by rw [hk l hl]; exact h1, h2⟩⟩
        · cases hr
      · cases hr
    · cases hr
  | map t k e =>
    dsimp only [OSh.rd] at hr
    split at hr
    · rename_i t' k' e' xs hob
      split at hr
      · rename_i ht
        obtain rfl := Nat.eq_of_beq_eq_true ht
        split at hr
        · rename_i y hy
          obtain ⟨p, q, e1⟩ := asM_some hy
          subst p
          subst q
          cases hr
          subst e1
          rw [hob]
          exact ⟨[], rfl, fun m => rfl, fun m E3 hk _ hh ⟨bb, mm, h1, h2⟩ => ⟨bb, mm, by rw [hk l hl]; exact h1, h2⟩⟩
        · cases hr
      · cases hr
    · cases hr
  | ab t =>
    dsimp only [OSh.rd] at hr
    split at hr
    · rename_i k hob
      split at hr
      · rename_i y hy
        cases hr
        rw [hob, AbT.rd_ok hy]
        exact ⟨[], rfl, fun m => rfl, fun m E3 hk _ hh ⟨v, h1, h2⟩ => ⟨v, by rw [hk l hl]; exact h1, h2⟩⟩
      · cases hr
    · cases hr
  | up T =>
    dsimp only [OSh.rd] at hr
    split at hr
    · rename_i T' q1 q2 mb nx L hob
      split at hr
      · rename_i ht
        obtain rfl := UTy.eq_of_beq ht
        cases hr
        rw [hob]
        exact ⟨[], rfl, fun m => rfl, fun m E3 hk _ hh ⟨u, P, h1, h2⟩ => ⟨u, P, by rw [hk l hl]; exact h1, h2⟩⟩
      · cases hr
    · cases hr
theorem slots_rd (S : Sta n W F b E2 g w s' a) (hb : b.h.length = n0) : ∀ {l : List (Nat × Sh)} {x : slotsDen l} {u : List Nat}, slotsRd b s' l = some (x, u) →
    ∃ qs, srcs qs = u ∧ (∀ m, AllNew E2 b s' qs (slotsMk l x m).2) ∧ ∀ m E3, Kept n0 E2 E3 → At E3 m qs → ∀ t v, lookS (slotsMk l x m).1 t = some v → RelV E3 g v (a.tmps.getD t undef)
  | [], x, u, hr => by
    cases hr
    exact ⟨[], rfl, fun m => rfl, fun m E3 _ _ t v h => by cases h⟩
  | p :: l, x, u, hr => by
    unfold slotsRd at hr
    split at hr
    · rename_i c hc
      split at hr
      · rename_i x1 u1 hx
        split at hr
        · rename_i y u2 hy
          cases hr
          obtain ⟨q1, e1, n1, k1⟩ := sh_rd S hb hx (S.fr _ _ hc)
          obtain ⟨q2, e2, n2, k2⟩ := slots_rd S hb hy
          refine ⟨q1 ++ q2, by rw [srcs_app, e1, e2], fun m => (n1 m).app (n2 _), fun m E3 hk hat t v hv => ?_⟩
          have hv : (bif Nat.beq p.1 t then some (SV.c (p.2.mk x1 m).1) else lookS (slotsMk l y (m + (p.2.mk x1 m).2.length)).1 t) = some v := hv
          by_cases e : p.1 = t
          · subst e
            have hbq : Nat.beq p.1 p.1 = true := by simp
            rw [hbq] at hv
            obtain rfl := Option.some.inj hv
            exact k1 m E3 hk hat.left _ (S.fr _ _ hc)
          · rw [beq_ne e] at hv
            refine k2 _ E3 hk ?_ t v hv
            rw [← (n1 m).len]; exact hat.right
        · cases hr
      · cases hr
    · cases hr
theorem objs_rd (S : Sta n W F b E2 g w s' a) (hb : b.h.length = n0) (hs : n0 ≤ s'.n) : ∀ {l : List (Nat × OSh)} {x : objsDen l} {u : List Nat}, (∀ p ∈ l, p.1 < n0) → objsRd b s' l = some (x, u) →
    ∃ qs, srcs qs = u ∧ (∀ m, AllNew E2 b s' qs (objsMk l x m).2) ∧ (∀ m E3, Kept n0 E2 E3 → At E3 m qs → ∀ k o, lookO (objsMk l x m).1 k = some o → ∀ hh, (atomO E2 k (b.obj s' k)).sat g hh → (atomO E3 k o).sat g hh) ∧ ∀ m k, lookO (objsMk l x m).1 k = none ↔ k ∉ l.map (·.1)
  | [], x, u, _, hr => by
    cases hr
    exact ⟨[], rfl, fun m => rfl, (fun m E3 _ _ t v h => by cases h), fun m k => by simp [objsMk, lookO]⟩
  | p :: l, x, u, hl, hr => by
    unfold objsRd at hr
    split at hr
    · rename_i x1 u1 hx
      split at hr
      · rename_i y u2 hy
        cases hr
        obtain ⟨q1, e1, n1, k1⟩ := osh_rd S hb (hl p (by simp)) hs hx
        obtain ⟨q2, e2, n2, k2, k3⟩ := objs_rd S hb hs (fun q hq => hl q (List.mem_cons_of_mem _ hq)) hy
        have look : ∀ m k, lookO (objsMk (p :: l) (x1, y) m).1 k = (bif Nat.beq p.1 k then some (p.2.mk x1 m).1 else lookO (objsMk l y (m + (p.2.mk x1 m).2.length)).1 k) := fun m k => rfl
        refine ⟨q1 ++ q2, by rw [srcs_app, e1, e2], fun m => (n1 m).app (n2 _), fun m E3 hk hat k o ho hh sat => ?_, fun m k => ?_⟩
        · rw [look] at ho
          by_cases e : p.1 = k
          · subst e
            have hbq : Nat.beq p.1 p.1 = true := by simp
            rw [hbq] at ho
            obtain rfl := Option.some.inj ho
            exact k1 m E3 hk hat.left hh sat
          · rw [beq_ne e] at ho
            refine k2 _ E3 hk ?_ k o ho hh sat
            rw [← (n1 m).len]; exact hat.right
        · rw [look]
          by_cases e : p.1 = k
          · subst e; simp
          · have e' : ¬ k = p.1 := fun q => e q.symm
            rw [beq_ne e, cond_false, k3]
            simp [e']
      · cases hr
    · cases hr
theorem sats.wider : ∀ {L : List Atom} {k1 k2 : Hp}, Hp.apart k1 k2 → sats g L k2 → sats g L (k1.join k2)
  | [], _, _, _, _ => trivial
  | a :: L, k1, k2, ap, ⟨m1, m2, ap3, e3, s4, s5⟩ => by
    subst e3
    obtain ⟨a1, a2⟩ := Hp.apart_join.1 ap
    refine ⟨m1, k1.join m2, Hp.apart_join.2 ⟨a1.symm, ap3⟩, ?_, s4, sats.wider a2 s5⟩
    rw [← Hp.join_assoc, Hp.join_comm a1, Hp.join_assoc]
theorem sats.shed : ∀ {A B : List Atom} {h : Hp}, sats g (A ++ B) h → sats g B h
  | [], _, _, s => s
  | a :: A, B, h, ⟨h1, h2, ap, e, _, s2⟩ => by rw [e]; exact sats.wider ap (sats.shed s2)
theorem sats.selGen {ob : Nat → HO} {X : List Atom} {sel : List (Option Nat)} : ∀ {H3 : List HO} {k : Nat} {h : Hp}, sel.length = H3.length →
    (∀ i l o, sel[i]? = some (some l) → H3[i]? = some o → ∀ h, (atomO E2 l (ob l)).sat g h → (atomO E3 (k + i) o).sat g h) → (∀ i o, sel[i]? = some none → H3[i]? = some o → (atomO E3 (k + i) o).sat g fun _ => none) →
    sats g (selA E2 ob (sel.filterMap id) ++ X) h → sats g (atomsO E3 k H3 ++ X) h := by
  induction sel with
  | nil =>
    intro H3 k h hl _ _ s
    obtain rfl := List.eq_nil_of_length_eq_zero hl.symm
    exact s
  | cons q sel ih =>
    intro H3 k h hl h1 h2 s
    obtain ⟨o, H4, rfl⟩ : ∃ o H4, H3 = o :: H4 := by
      cases H3 with
      | nil => cases hl
      | cons o H4 => exact ⟨o, H4, rfl⟩
    have h1' : ∀ i l o, sel[i]? = some (some l) → H4[i]? = some o → ∀ h, (atomO E2 l (ob l)).sat g h → (atomO E3 (k + 1 + i) o).sat g h := fun i l o' a1 a2 hh sat => by
      have := h1 (i + 1) l o' (by simpa using a1) (by simpa using a2) hh sat
      rw [show k + 1 + i = k + (i + 1) by omega]; exact this
    have h2' : ∀ i o, sel[i]? = some none → H4[i]? = some o → (atomO E3 (k + 1 + i) o).sat g fun _ => none := fun i o' a1 a2 => by
      have := h2 (i + 1) o' (by simpa using a1) (by simpa using a2)
      rw [show k + 1 + i = k + (i + 1) by omega]; exact this
    cases q with
    | none => exact ⟨fun _ => none, h, fun _ => .inl rfl, by funext b; rfl, h2 0 o rfl rfl, ih (by simpa using hl) h1' h2' s⟩
    | some l =>
      have s : sats g (atomO E2 l (ob l) :: (selA E2 ob (sel.filterMap id) ++ X)) h := s
      obtain ⟨p1, p2, ap, e, s1, s2⟩ := s
      exact ⟨p1, p2, ap, e, h1 0 l o rfl rfl p1 s1, ih (by simpa using hl) h1' h2' s2⟩
end
end Go.Lm

namespace Go.Lm
open Go Go.RowKit
section
variable {n n0 : Nat} {W : Base} {F : List Atom} {b : Bs} {E E2 : Env} {g w : World} {s' : Ov} {a : Act}
theorem zipN_in : ∀ {l : List HO} {k i : Nat} {o : HO}, l[i]? = some o → lookO (zipN k l) (k + i) = some o
  | [], _, _, _, h => by simp at h
  | x :: r, k, 0, o, h => by
    obtain rfl : x = o := by simpa using h
    simp [zipN, lookO]
  | x :: r, k, i + 1, o, h => by
    have := zipN_in (l := r) (k := k + 1) (i := i) (by simpa using h)
    rw [show k + (i + 1) = k + 1 + i by omega]
    simp only [zipN, lookO]
    rw [beq_ne (show ¬ k = k + 1 + i by omega)]
    exact this
theorem zipN_out : ∀ {l : List HO} {k j : Nat}, j < k ∨ k + l.length ≤ j → lookO (zipN k l) j = none
  | [], _, _, _ => rfl
  | x :: r, k, j, h => by
    simp only [zipN, lookO]
    rw [beq_ne (show ¬ k = j by simp at h; omega)]
    exact zipN_out (by simp at h; omega)
theorem lookO_gone : ∀ {us : List Nat} {j : Nat}, lookO (us.map fun l => (l, HO.gone)) j = if j ∈ us then some .gone else none
  | [], _ => by simp [lookO]
  | u :: r, j => by
    simp only [List.map_cons, lookO]
    by_cases e : u = j
    · subst e; simp
    · have e' : ¬ j = u := fun q => e q.symm
      rw [beq_ne e, cond_false, lookO_gone]
      simp [e']
theorem mid_ok {an : LAnn} {ks us0 : List Nat} {k : an.den → Prop} (S : Sta n W F b E2 g w s' a) (he : EnvLe E E2) (hl : E.length = n0) (old : Old n0 b) (hb : ∀ t ∈ ks, lookS b.f t = none) (hv : midV an ks n0 us0 b s' k) :
    ∃ i, k i ∧ ∃ E3, EnvLe E E3 ∧ Sta n W F b E3 g w (headS an us0 n0 i) a := by
  unfold midV at hv
  split at hv
  · rename_i x u y v hx hy
    obtain ⟨hm, hv⟩ := if_ok hv
    unfold midOk at hm
    simp only [Bool.and_eq_true] at hm
    obtain ⟨⟨⟨⟨m1, m2⟩, m3⟩, m4⟩, m5⟩ := hm
    have hEl : E.length ≤ E2.length := by
      rcases Nat.lt_or_ge E2.length E.length with h | h
      · have := he _ _ (List.getElem?_eq_getElem h)
        rw [List.getElem?_eq_none (Nat.le_refl _)] at this
        cases this
      · exact h
    have hs : n0 ≤ s'.n := by rw [← S.len, ← hl]; exact hEl
    have hkeys : ∀ j ∈ an.objs.map (·.1), j < n0 ∧ j ∉ us0 := fun j hj => by
      have := List.all_eq_true.1 m3 j hj
      simp only [Bool.and_eq_true, Bool.not_eq_true'] at this
      refine ⟨by simpa using this.1, fun h => ?_⟩
      rw [memN_iff.2 h] at this; cases this.2
    obtain ⟨q1, e1, n1, k1⟩ := slots_rd S old.len hx
    obtain ⟨q2, e2, n2, k2, k3⟩ := objs_rd S old.len hs (fun p hp => (hkeys p.1 (List.mem_map_of_mem hp)).1) hy
    refine ⟨(x, y), hv, ?_⟩
    generalize hqs : q1 ++ q2 = qs
    let E3 : Env := E ++ qs.map (·.2)
    have kept : Kept n0 E2 E3 := fun l h => by
      have h1 : l < E.length := by omega
      show (E ++ qs.map (·.2))[l]? = _
      rw [List.getElem?_append_left h1, List.getElem?_eq_getElem h1]
      exact (he _ _ (List.getElem?_eq_getElem h1)).symm
    have hat : At E3 n0 qs := fun j q hq => by
      show (E ++ qs.map (·.2))[n0 + j]? = _
      rw [List.getElem?_append_right (by omega), List.getElem?_map, show n0 + j - E.length = j by omega, hq]; rfl
    have hnew : AllNew E2 b s' qs (newsOf an n0 (x, y)) := by
      rw [← hqs]
      exact (n1 n0).app (n2 _)
    have hat1 : At E3 n0 q1 := by rw [← hqs] at hat; exact hat.left
    have hat2 : At E3 (n0 + (slotsMk an.slots x n0).2.length) q2 := by
      rw [← hqs] at hat
      rw [← (n1 n0).len]; exact hat.right
    have hob : ∀ j, b.obj (headS an us0 n0 (x, y)) j = match lookO (zipN n0 (newsOf an n0 (x, y))) j with
        | some o => o
        | none => match lookO (objsMk an.objs y (n0 + (slotsMk an.slots x n0).2.length)).1 j with
          | some o => o
          | none => if j ∈ us0 then .gone else nthH b.h j := fun j => by
      unfold Bs.obj headS
      simp only
      rw [lookO_app, lookO_app, lookO_gone]
      cases lookO (zipN n0 (newsOf an n0 (x, y))) j with
      | some o => rfl
      | none =>
        cases lookO (objsMk an.objs y (n0 + (slotsMk an.slots x n0).2.length)).1 j with
        | some o => rfl
        | none => by_cases h : j ∈ us0 <;> simp [h]
    have hold : ∀ j, j < n0 → j ∉ us0 → j ∉ an.objs.map (·.1) → b.obj s' j = nthH b.h j := fun j h1 h2 h3 => by
      unfold Bs.obj
      rw [lookO_none]
      intro hj
      obtain ⟨p, hp, e⟩ := List.mem_map.1 hj
      have := List.all_eq_true.1 m5 p hp
      simp only [Bool.or_eq_true] at this
      rw [e] at this
      rcases this with (h | h) | h
      · have : n0 ≤ j := by simpa using h
        omega
      · exact h3 (memN_iff.1 h)
      · exact h2 (memN_iff.1 h)
    refine ⟨E3, EnvLe.app E _, S.size, S.defers, fun t sv ht => ?_, ⟨?_, ?_⟩, fun l hl' => ?_⟩
    · -- the frame
      unfold Bs.slot headS at ht
      simp only at ht
      cases h1 : lookS (slotsMk an.slots x n0).1 t with
      | some u' =>
        rw [h1] at ht
        obtain rfl := Option.some.inj ht
        exact k1 n0 E3 kept hat1 t _ h1
      | none =>
        rw [h1] at ht
        have ht : lookS b.f t = some sv := ht
        have htk : t ∉ ks := fun h => by rw [hb t h] at ht; cases ht
        have hsl : b.slot s' t = some sv := by
          unfold Bs.slot
          have : lookS s'.f t = none := by
            cases h2 : lookS s'.f t with
            | none => rfl
            | some z =>
              exfalso
              have key : ∀ {L : Slots}, lookS L t = some z → ∃ p ∈ L, p.1 = t := by
                intro L
                induction L with
                | nil => intro h; cases h
                | cons q L ih =>
                  intro h
                  by_cases e : q.1 = t
                  · exact ⟨q, by simp, e⟩
                  · obtain ⟨q0, q3⟩ := q
                    simp only [lookS] at h
                    rw [beq_ne e] at h
                    obtain ⟨p, hp, e⟩ := ih h
                    exact ⟨p, List.mem_cons_of_mem _ hp, e⟩
              obtain ⟨p, hp, e⟩ := key h2
              have := List.all_eq_true.1 m4 p hp
              rw [e] at this
              exact htk (memN_iff.1 this)
          rw [this]; exact ht
        exact (S.fr t sv hsl).keep fun l hlm => kept l (old.slot t sv ht l hlm)
    · -- what is owned
      refine S.sat.sl.weak fun h sat => ?_
      let sel : List (Option Nat) := (List.range n0).map (fun l => if l ∈ us0 then none else some l) ++ qs.map (·.1)
      have hsel : sel.filterMap id = ((List.range n0).filter fun l => decide (l ∉ us0)) ++ srcs qs := by
        show List.filterMap id (_ ++ _) = _
        rw [List.filterMap_append, List.filterMap_map, List.filterMap_map]
        congr 1
        have key : ∀ L : List Nat, L.filterMap (id ∘ fun l => if l ∈ us0 then none else some l) = L.filter fun l => decide (l ∉ us0) := by
          intro L
          induction L with
          | nil => rfl
          | cons l L ih =>
            rw [List.filterMap_cons, List.filter_cons, ih]
            by_cases hm : l ∈ us0 <;> simp [hm]
        exact key _
      have hsrc : srcs qs = u ++ v := by rw [← hqs, srcs_app, e1, e2]
      have hnd := nodupN_iff.1 m1
      rw [List.nodup_append] at hnd
      have hin : ∀ l ∈ srcs qs, l < s'.n := fun l hl => by
        obtain ⟨q, hq, e⟩ := List.mem_filterMap.1 hl
        obtain ⟨j, hj⟩ := List.getElem?_of_mem hq
        have hlen := hnew.len
        have hj' : j < (newsOf an n0 (x, y)).length := by rw [← hlen]; exact (List.getElem?_eq_some_iff.1 hj).1
        rcases hnew.get hj (List.getElem?_eq_getElem hj') with ⟨l', o', p1, p2, _⟩ | ⟨p1, _⟩
        · rw [e] at p1
          obtain rfl := Option.some.inj p1
          exact S.lt p2
        · rw [e] at p1; cases p1
      have hls : (sel.filterMap id).Nodup := by
        rw [hsel, List.nodup_append]
        refine ⟨List.nodup_range.filter _, by rw [hsrc]; exact hnd.1, fun p hp q hq e => ?_⟩
        subst e
        obtain ⟨hp1, hp2⟩ := List.mem_filter.1 hp
        rw [hsrc] at hq
        have := List.all_eq_true.1 m2 p hq
        simp only [Bool.or_eq_true] at this
        rcases this with h | h
        · have h1 : n0 ≤ p := by simpa using h
          have h2 := List.mem_range.1 hp1
          omega
        · have h1 := memN_iff.1 h
          simp [h1] at hp2
      have s1 := sats.takeAll (ob := b.obj s') hls (fun l hlm => by
        rw [hsel] at hlm
        rcases List.mem_append.1 hlm with h | h
        · have := List.mem_range.1 (List.mem_filter.1 h).1
          exact heap_get (by omega)
        · exact heap_get (hin l h)) sat
      have s2 := sats.shed s1
      refine sats.selGen (E2 := E2) (E3 := E3) (sel := sel) (ob := b.obj s') (k := 0) ?_ (fun i l o hi ho hh hsat => ?_) (fun i o hi ho => ?_) s2
      · show ((List.range n0).map _ ++ qs.map fun q : Option Nat × Value => q.1).length = _
        rw [heap_len]
        show _ = n0 + (newsOf an n0 (x, y)).length
        rw [List.length_append, List.length_map, List.length_map, List.length_range, hnew.len]
      · rw [Nat.zero_add]
        have hin' : i < (headS an us0 n0 (x, y)).n := by
          have := (List.getElem?_eq_some_iff.1 ho).1
          rw [heap_len] at this; exact this
        rw [heap_get hin'] at ho
        obtain rfl := Option.some.inj ho
        by_cases hi0 : i < n0
        · have hi2 : ((List.range n0).map (fun l => if l ∈ us0 then none else some l))[i]? = some (some l) := by
            rw [List.getElem?_append_left (by simpa using hi0)] at hi
            exact hi
          rw [List.getElem?_map, List.getElem?_range hi0] at hi2
          by_cases hu : i ∈ us0
          · simp [hu] at hi2
          · simp [hu] at hi2
            subst hi2
            rw [hob, zipN_out (.inl hi0)]
            simp only
            cases ho2 : lookO (objsMk an.objs y (n0 + (slotsMk an.slots x n0).2.length)).1 i with
            | some o => exact k2 _ E3 kept hat2 i o ho2 hh hsat
            | none =>
              have hnk := (k3 _ i).1 ho2
              simp only [hu, if_false]
              rw [hold i hi0 hu hnk] at hsat
              exact atomO.keep (fun j hj => kept j (old.obj i j hj)) (kept i hi0) hsat
        · have hi3 : (qs.map fun q : Option Nat × Value => q.1)[i - n0]? = some (some l) := by
            rw [List.getElem?_append_right (by simp; omega)] at hi
            simpa using hi
          rw [List.getElem?_map] at hi3
          cases hq : qs[i - n0]? with
          | none => rw [hq] at hi3; cases hi3
          | some q =>
            rw [hq] at hi3
            have hq1 : q.1 = some l := by simpa using hi3
            have hj' : i - n0 < (newsOf an n0 (x, y)).length := by rw [← hnew.len]; exact (List.getElem?_eq_some_iff.1 hq).1
            have hno := hnew.get hq (List.getElem?_eq_getElem hj')
            rw [hob]
            have hz := zipN_in (k := n0) (List.getElem?_eq_getElem hj')
            rw [show n0 + (i - n0) = i by omega] at hz
            rw [hz]
            simp only
            rcases hno with ⟨l', o', p1, p2, p3, p4, pm⟩ | ⟨p1, _⟩
            · rw [hq1] at p1
              obtain rfl := Option.some.inj p1
              rw [p3] at hsat
              rw [p4]
              have := hat _ q hq
              rw [show n0 + (i - n0) = i by omega] at this
              exact pm.sat p2 this hsat
            · rw [hq1] at p1; cases p1
      · rw [Nat.zero_add]
        have hin' : i < (headS an us0 n0 (x, y)).n := by
          have := (List.getElem?_eq_some_iff.1 ho).1
          rw [heap_len] at this; exact this
        rw [heap_get hin'] at ho
        obtain rfl := Option.some.inj ho
        by_cases hi0 : i < n0
        · have hi2 : ((List.range n0).map (fun l => if l ∈ us0 then none else some l))[i]? = some none := by
            rw [List.getElem?_append_left (by simpa using hi0)] at hi
            exact hi
          rw [List.getElem?_map, List.getElem?_range hi0] at hi2
          by_cases hu : i ∈ us0
          · rw [hob, zipN_out (.inl hi0)]
            simp only
            rw [(k3 _ i).2 fun h => (hkeys i h).2 hu]
            simp only [hu, if_true]
            trivial
          · simp [hu] at hi2
        · have hi3 : (qs.map fun q : Option Nat × Value => q.1)[i - n0]? = some none := by
            rw [List.getElem?_append_right (by simp; omega)] at hi
            simpa using hi
          rw [List.getElem?_map] at hi3
          cases hq : qs[i - n0]? with
          | none => rw [hq] at hi3; cases hi3
          | some q =>
            rw [hq] at hi3
            have hq1 : q.1 = none := by simpa using hi3
            have hj' : i - n0 < (newsOf an n0 (x, y)).length := by rw [← hnew.len]; exact (List.getElem?_eq_some_iff.1 hq).1
            have hno := hnew.get hq (List.getElem?_eq_getElem hj')
            rw [hob]
            have hz := zipN_in (k := n0) (List.getElem?_eq_getElem hj')
            rw [show n0 + (i - n0) = i by omega] at hz
            rw [hz]
            simp only
            rcases hno with ⟨l', o', p1, _⟩ | ⟨_, p2, t, e', p4⟩
            · rw [hq1] at p1; cases p1
            · rw [p4]
              have := hat _ q hq
              rw [show n0 + (i - n0) = i by omega, p2] at this
              exact ⟨_, this, [], trivial, by simp, .inl ⟨rfl, rfl⟩⟩
    · rw [heap_len]
      show (E ++ qs.map (·.2)).length = n0 + (newsOf an n0 (x, y)).length
      rw [List.length_append, List.length_map, hl, hnew.len]
    · rw [hob]
      have hl' : n0 + (newsOf an n0 (x, y)).length ≤ l := hl'
      rw [zipN_out (.inr hl')]
      simp only
      rw [(k3 _ l).2 fun h => by have := (hkeys l h).1; omega]
      simp only
      split
      · rfl
      · exact nthH_none (by rw [old.len]; omega)
  · exact hv.elim
end
end Go.Lm

namespace Go.Lm
open Go Go.RowKit
def Ex.out : Ex → Exit
  | .normal => .normal
  | .exit i => .exit i
  | .ret => .ret
def CodeR (n : Nat) (W : Base) (F : List Atom) (b : Bs) (E : Env) (g : World) (Q : Ex → Ov → Prop) (e : Exit) (a' : Act) (w' : World) : Prop := ∃ E' g' s' ex, EnvLe E E' ∧ Mono g g' ∧ Sta n W F b E' g' w' s' a' ∧ e = ex.out ∧ Q ex s'
section
variable {X : Vx} {n : Nat} {an : FAnn} {W : Base} {F : List Atom}
theorem Ov.force_eq {s : Ov} {K : Ov → Prop} (h : s.force K) : K s := by
  have := forceL_eq _ (forceL_eq _ h)
  exact this
theorem Bs.force_eq {b : Bs} {K : Bs → Prop} (h : b.force K) : K b := by
  have := forceL_eq _ (forceL_eq _ h)
  exact this
theorem sectB_none {ks : List Nat} {b : Bs} {s : Ov} {t : Nat} (h : t ∈ ks) : lookS (sectB ks b s).f t = none := by
  show lookS ((s.f ++ b.f).filter fun p => !memN p.1 ks) t = none
  rw [lookS_filter (p := fun k => !memN k ks), memN_iff.2 h]
  rfl
theorem vCode_ok (hct : CtOkW W X.P X.ct) : ∀ (c : Code) {b : Bs} {s : Ov} {E : Env} {g w : World} {a : Act} {Q : Ex → Ov → Prop}, Sta n W F b E g w s a → vCode X n an c b s Q → c.wp X.P (CodeR n W F b E g Q) a w := by
  intro c
  induction c with
  | skip =>
    intro b s E g w a Q S h
    exact wp_skip ⟨E, g, s, .normal, EnvLe.refl E, Mono.refl g, S, rfl, h⟩
  | region id ops draw =>
    intro b s E g w a Q S h
    exact vRegion_ok hct S (Ov.force_eq h) fun a' w' ⟨E', g', s', l1, l2, S', k⟩ => ⟨E', g', s', .normal, l1, l2, S', rfl, k⟩
  | seq x y ihx ihy =>
    intro b s E g w a Q S h
    unfold vCode at h
    split at h
    · refine wp_seq (wp_mono (ihx S h) ?_)
      rintro e a1 w1 ⟨E1, g1, s1, ex, l1, l2, S1, rfl, hq⟩
      cases ex with
      | normal => exact wp_mono (ihy S1 hq) fun e a2 w2 ⟨E2, g2, s2, ex, m1, m2, S2, he, hq⟩ => ⟨E2, g2, s2, ex, l1.trans m1, l2.trans m2, S2, he, hq⟩
      | exit i => exact ⟨E1, g1, s1, .exit i, l1, l2, S1, rfl, hq⟩
      | ret => exact ⟨E1, g1, s1, .ret, l1, l2, S1, rfl, hq⟩
    · rename_i la _
      have h := forceL_eq _ (Ov.force_eq h)
      generalize hks : writesC x ++ la.slots.map (·.1) = ks at h
      have h := Bs.force_eq h
      obtain ⟨J, hA, hB⟩ := h
      refine wp_seq (wp_mono (ihx (S.sect ks) hA) ?_)
      rintro e a1 w1 ⟨E1, g1, s1, ex, l1, l2, S1, rfl, hq⟩
      cases ex with
      | normal =>
        obtain ⟨i, hi, E3, l3, S3⟩ := mid_ok S1 l1 S.len (S.old ks) (fun t ht => sectB_none ht) hq
        refine wp_mono (ihy S3 (hB i hi)) ?_
        rintro e a2 w2 ⟨E2, g2, s2, ex, m1, m2, S2, he, hq⟩
        exact ⟨E2, g2, _, ex, l3.trans m1, l2.trans m2, S2.out S.top, he, hq⟩
      | exit i => exact ⟨E1, g1, _, .exit i, l1, l2, S1.out S.top, rfl, hq⟩
      | ret => exact ⟨E1, g1, _, .ret, l1, l2, S1.out S.top, rfl, hq⟩
  | cond c x y ihx ihy =>
    intro b s E g w a Q S h
    unfold vCode at h
    split at h
    · rename_i v hv
      obtain ⟨hc, _⟩ := S.opd hv
      have told : ∀ q, a.eval c = .bool q → Sta n W F b E g w (s.told c q) a := fun q hq => by
        cases c with
        | tmp t => exact S.told (d := t) (by rw [show a.tmps.getD t undef = .bool q from hq]; exact relV_bool q)
        | const _ => exact S
        | global _ => exact S
        | func _ => exact S
      rcases br_cases h with ⟨e, h⟩ | ⟨e, h⟩ <;> subst e
      · exact wp_cond_true hc (ihx (told _ hc) h)
      · exact wp_cond_false hc (ihy (told _ hc) h)
    · exact h.elim
  | block id c ih =>
    intro b s E g w a Q S h
    unfold vCode at h
    refine wp_block (wp_mono (ih S h) ?_)
    rintro e a1 w1 ⟨E1, g1, s1, ex, l1, l2, S1, rfl, hq⟩
    cases ex with
    | normal => exact ⟨E1, g1, s1, .normal, l1, l2, S1, rfl, hq⟩
    | exit i =>
      show (if i = id then _ else _)
      simp only at hq
      split
      · rename_i e
        subst e
        rw [if_pos (by simp)] at hq
        exact ⟨E1, g1, s1, .normal, l1, l2, S1, rfl, hq⟩
      · rename_i e
        rw [if_neg (by simpa using e)] at hq
        exact ⟨E1, g1, s1, .exit i, l1, l2, S1, rfl, hq⟩
    | ret => exact ⟨E1, g1, s1, .ret, l1, l2, S1, rfl, hq⟩
  | loop c ih =>
    intro b s E g w a Q S h
    unfold vCode at h
    split at h
    · rename_i k0 _
      refine wp_loop_fam (fun k a' w' => ∃ s' E' g', EnvLe E E' ∧ Mono g g' ∧ Sta n W F b E' g' w' s' a' ∧ unrV (fun s q => vCode X n an c b s q) Q k s') (fun k => k) k0 ⟨s, E, g, EnvLe.refl E, Mono.refl g, S, h⟩ ?_
      rintro k a1 w1 ⟨s1, E1, g1, l1, l2, S1, hu⟩
      cases k with
      | zero => exact hu.elim
      | succ k =>
        refine wp_mono (ih S1 (Ov.force_eq hu)) ?_
        rintro e a2 w2 ⟨E2, g2, s2, ex, m1, m2, S2, rfl, hq⟩
        cases ex with
        | normal => exact ⟨k, ⟨s2, E2, g2, l1.trans m1, l2.trans m2, S2, hq⟩, Nat.lt_succ_self k⟩
        | exit i => exact ⟨E2, g2, s2, .exit i, l1.trans m1, l2.trans m2, S2, rfl, hq⟩
        | ret => exact ⟨E2, g2, s2, .ret, l1.trans m1, l2.trans m2, S2, rfl, hq⟩
    · exact h.elim
    · rename_i la _ _
      have h := forceL_eq _ (Ov.force_eq h)
      generalize hks : writesC c ++ la.slots.map (·.1) = ks at h
      have h := Bs.force_eq h
      obtain ⟨i0, h0, E0, l0, S0⟩ := mid_ok (S.sect ks) (EnvLe.refl E) S.len (S.old ks) (fun t ht => sectB_none ht) h
      obtain ⟨I, μ, hI0, hI⟩ := h0
      refine wp_loop_fam (fun i a' w' => I i ∧ ∃ E' g', EnvLe E E' ∧ Mono g g' ∧ Sta n W F (sectB ks b s) E' g' w' (headS la (ownsIn la b s) s.n i) a') μ i0 ⟨hI0, E0, g, l0, Mono.refl g, S0⟩ ?_
      rintro i a1 w1 ⟨hi, E1, g1, l1, l2, S1⟩
      refine wp_mono (ih S1 (hI i hi)) ?_
      rintro e a2 w2 ⟨E2, g2, s2, ex, m1, m2, S2, rfl, hq⟩
      cases ex with
      | normal =>
        obtain ⟨i', ⟨h1, h2⟩, E3, l3, S3⟩ := mid_ok S2 (l1.trans m1) S.len (S.old ks) (fun t ht => sectB_none ht) hq
        exact ⟨i', ⟨h1, E3, g2, l3, l2.trans m2, S3⟩, h2⟩
      | exit i => exact ⟨E2, g2, _, .exit i, l1.trans m1, l2.trans m2, S2.out S.top, rfl, hq⟩
      | ret => exact ⟨E2, g2, _, .ret, l1.trans m1, l2.trans m2, S2.out S.top, rfl, hq⟩
  | exit id =>
    intro b s E g w a Q S h
    exact wp_exit ⟨E, g, s, .exit id, EnvLe.refl E, Mono.refl g, S, rfl, h⟩
  | ret =>
    intro b s E g w a Q S h
    exact wp_ret ⟨E, g, s, .ret, EnvLe.refl E, Mono.refl g, S, rfl, h⟩
  | rangeFunc f ps x y ih1 ih2 => intro b s E g w a Q S h; exact h.elim
  | scope c ih => intro b s E g w a Q S h; exact h.elim
  | label l => intro b s E g w a Q S h; exact h.elim
  | goto l => intro b s E g w a Q S h; exact h.elim
  | refuse l => intro b s E g w a Q S h; exact h.elim
end
end Go.Lm

namespace Go.Lm
open Go Go.RowKit
section
variable {P : Program} {X : Vx} {n : Nat} {W : Base} {F : List Atom} {b : Bs} {E : Env} {g w : World} {s : Ov} {a : Act}
theorem loadVar_of {t : TypeId} {bb : Nat} {off : Nat} {u : Value} (h : (Instr.loadAt t (ptr bb off)).run P w = .ok u w) : ∃ q, ptr bb off = .pointer (some q) ∧ (loadVar t q).run P w = .ok u w := by
  refine ⟨_, rfl, ?_⟩
  simpa [Instr.loadAt, Instr.sureAddr, ptr] using h
def resF (tmps : Array Value) : ResultVar → Sem Value
  | .tmp t => pure (tmps.getD t undef)
  | .cell a t => do loadVar t (← asAddr (tmps.getD a undef))
theorem resultsV_ok (S : Sta n W F b E g w s a) : ∀ {rs : List ResultVar} {l : List S1}, resultsV P b s rs = some l →
    ∃ us, RelSs E g l us ∧ (rs.mapM (resF a.tmps)).run P w = .ok us w
  | [], l, h => by
    obtain rfl : [] = l := Option.some.inj h
    exact ⟨[], rfl, by simp⟩
  | .tmp t :: r, l, h => by
    unfold resultsV at h
    split at h
    · rename_i v hv
      split at h
      · rename_i q hq
        obtain rfl : v :: q = l := Option.some.inj h
        obtain ⟨us, h1, h2⟩ := resultsV_ok S hq
        refine ⟨_ :: us, ⟨_, us, rfl, S.fr t _ hv, h1⟩, ?_⟩
        rw [List.mapM_cons]
        simp [resF, Sem.run_bind, h2]
      · cases h
    · cases h
  | .cell t ty :: r, l, h => by
    unfold resultsV at h
    split at h
    · rename_i lb off hv
      split at h
      · rename_i ht cs hob
        split at h
        · rename_i v hp
          split at h
          · rename_i q hq
            obtain rfl : v :: q = l := Option.some.inj h
            obtain ⟨us, h1, h2⟩ := resultsV_ok S hq
            obtain ⟨bb, hE, hx⟩ := S.fr t _ hv
            obtain ⟨cs', k1, k2, _⟩ := St_cells S hE hob
            obtain ⟨u, h3, h4⟩ := load_blk k2 k1 hp
            obtain ⟨qa, h5, h6⟩ := loadVar_of h3
            refine ⟨u :: us, ⟨u, us, rfl, h4, h1⟩, ?_⟩
            rw [List.mapM_cons]
            simp [resF, Sem.run_bind, h2, hx, h5, asAddr, h6]
          · cases h
        · cases h
      · cases h
    · cases h
theorem pack_ok {l : List S1} {us : List Value} (h : RelSs E g l us) : RelV E g (pack l) (if h : us.toArray.size = 1 then us.toArray[0] else .tuple us.toArray) := by
  unfold pack
  split
  · obtain ⟨u, r, rfl, h1, h2⟩ := h
    obtain rfl : r = [] := h2
    exact h1
  · rename_i h0
    have : ¬ us.toArray.size = 1 := fun e => by
      have hl := h.length
      simp at e
      rw [e] at hl
      match l, hl, h0 with
      | [v], _, h0 => exact h0 v rfl
    rw [dif_neg this]
    exact ⟨us, h, rfl⟩
theorem results_ok (S : Sta n W F b E g w s a) {fn : Func} {l : List S1} (h : resultsV P b s fn.results.toList = some l) : ∃ v, (results fn a.tmps).run P w = .ok v w ∧ RelV E g (pack l) v := by
  obtain ⟨us, h1, h2⟩ := resultsV_ok S h
  refine ⟨_, ?_, pack_ok h1⟩
  have e : results fn a.tmps = (do
      let vs ← fn.results.mapM (resF a.tmps)
      pure (if h : vs.size = 1 then vs[0] else .tuple vs)) := by
    unfold results
    congr 1
  rw [e, Array.mapM_eq_mapM_toList]
  simp [Sem.run_bind, h2]
theorem vEnd_ok {E0 : Env} {g0 : World} {fn : Func} {Q : SV → List HO → Prop} (S : Sta n W F b E g w s a) (he : EnvLe E0 E) (m : Mono g0 g) (h : vEnd P fn E0.length b s Q) :
    ∃ v, (results fn a.tmps).run P w = .ok v w ∧ ∃ E' g' sv H', EnvLe E0 E' ∧ Mono g0 g' ∧ Sat W E' g' w H' F ∧ RelV E' g' sv v ∧ Q sv H' := by
  unfold vEnd at h
  split at h
  · exact h.elim
  · rename_i l hl
    have h := forceL_eq _ h
    generalize hrl : (reachL (b.obj s) 1000 ((pack l).labels ++ (List.range E0.length).flatMap fun i => (b.obj s i).labels) []).filter (fun l => Nat.ble E0.length l) = rl at h
    generalize hls : List.range E0.length ++ rl = ls at h
    obtain ⟨hc, h⟩ := if_ok h
    rw [Bool.and_eq_true, nodupN_iff] at hc
    obtain ⟨hn, hlt⟩ := hc
    have hlt' : ∀ l ∈ ls, l < s.n := fun l hl => by have := List.all_eq_true.1 hlt l hl; simpa using this
    obtain ⟨v, hr, hv⟩ := results_ok S hl
    have hr1 : RenOk (idxN ls) E (ls.map fun l => (E[l]?).getD undef) := fun l l' v h1 h2 => by
      have := idxN_get h1
      rw [List.getElem?_map, this]
      simp [h2]
    have hsat : Sat W (ls.map fun l => (E[l]?).getD undef) g w (ls.map fun l => (b.obj s l).ren (idxN ls)) F := by
      refine ⟨S.sat.sl.weak fun h0 x => ?_, by simp⟩
      have x1 := sats.takeAll (ob := b.obj s) hn (fun l hl => heap_get (hlt' l hl)) x
      have x2 := sats.shed x1
      exact sats.selRen hr1 (k := 0) (fun i l hi => by rw [Nat.zero_add]; exact idxN_mem hn hi) x2
    refine ⟨v, hr, _, g, _, _, fun k u hk => ?_, m, hsat, hv.ren hr1, h⟩
    have hk0 : k < E0.length := env_lt hk
    have : ls[k]? = some k := by
      rw [← hls, List.getElem?_append_left (by simpa using hk0)]
      simp [hk0]
    rw [List.getElem?_map, this]
    simp [he k u hk]
theorem startF_get : ∀ {args : List SV} {k t : Nat} {v : SV}, lookS (startF k args) t = some v → k ≤ t ∧ args[t - k]? = some v
  | [], _, _, _, h => by cases h
  | x :: r, k, t, v, h => by
    simp only [startF, lookS] at h
    by_cases e : k = t
    · subst e
      have hb : Nat.beq k k = true := by simp
      rw [hb] at h
      obtain rfl := Option.some.inj h
      exact ⟨Nat.le_refl _, by simp⟩
    · rw [beq_ne e] at h
      obtain ⟨h1, h2⟩ := startF_get h
      refine ⟨by omega, ?_⟩
      rw [show t - k = (t - (k + 1)) + 1 by omega]
      simpa using h2
theorem relVs_len : ∀ {l : List SV} {us : List Value}, RelVs E g l us → us.length = l.length
  | [], _, h => by rw [show _ = [] from h]; rfl
  | _ :: _, _, ⟨_, _, e, _, h⟩ => by rw [e, List.length_cons, List.length_cons, relVs_len h]
theorem relVs_get : ∀ {l : List SV} {us : List Value} {i : Nat} {c : SV}, RelVs E g l us → l[i]? = some c → ∃ u, us[i]? = some u ∧ RelV E g c u
  | [], _, _, _, _, h => by simp at h
  | x :: l, _, 0, c, ⟨u, r, e, h1, _⟩, h => by
    obtain rfl : x = c := by simpa using h
    exact ⟨u, by rw [e]; rfl, h1⟩
  | x :: l, _, i + 1, c, ⟨u, r, e, _, h2⟩, h => by
    obtain ⟨v, h3, h4⟩ := relVs_get (i := i) h2 (by simpa using h)
    exact ⟨v, by rw [e]; simpa using h3, h4⟩
theorem Wp.of_pureI {I : Base → Prop} {f : FuncId} {args : List SV} {H : List HO} {Q : SV → List HO → Prop} {sv : SV} (h : ∀ (W : Base) (E : Env) (g w : World) (vs : List Value), I W → Below W.n W.w w → Mono g w → RelVs E g args vs → Ret P f vs.toArray w fun v w' => RelV E g sv v ∧ Le w w') (hq : Q sv H) : Wp I P f args H Q := by
  intro W hW g w E F vs hs hv
  exact (h W E g w vs hW hs.sl.below hs.m hv).mono fun v w' ⟨r, l⟩ => ⟨E, g, sv, H, EnvLe.refl E, Mono.refl g, hs.le l, r, hq⟩
theorem Wp.of_pure {I : Base → Prop} {f : FuncId} {args : List SV} {H : List HO} {Q : SV → List HO → Prop} {sv : SV} (h : ∀ (E : Env) (g w : World) (vs : List Value), Mono g w → RelVs E g args vs → Ret P f vs.toArray w fun v w' => RelV E g sv v ∧ Le w w') (hq : Q sv H) : Wp I P f args H Q := by
  intro W _ g w E F vs hs hv
  exact (h E g w vs hs.m hv).mono fun v w' ⟨r, l⟩ => ⟨E, g, sv, H, EnvLe.refl E, Mono.refl g, hs.le l, r, hq⟩
theorem Wp.said {I : Base → Prop} {f : FuncId} {args args' : List SV} {H : List HO} {Q : SV → List HO → Prop} (h : ∀ (E : Env) (g : World) (us : List Value), RelVs E g args us → RelVs E g args' us) (k : Wp I P f args' H Q) : Wp I P f args H Q := fun W hW g w E F vs hs hv => k W hW g w E F vs hs (h E g vs hv)
theorem RelVs.cons1 {g : World} {c c' : SV} {l l' : List SV} (h1 : ∀ u, RelV E g c u → RelV E g c' u) (h2 : ∀ us, RelVs E g l us → RelVs E g l' us) : ∀ us, RelVs E g (c :: l) us → RelVs E g (c' :: l') us := fun _ ⟨u, r, e, a, b⟩ => ⟨u, r, e, h1 u a, h2 r b⟩
theorem of_row {g : World} {e : Ty} {l : List Cl} {x : e.den} (h : e.of l = some (x, [])) : ∀ u, RelV E g (.v (.agg l)) u → RelV E g (.v (.agg (e.cells x))) u := fun u ⟨us, h1, h2⟩ => by
  obtain ⟨u1, u2, e1, h3, h4⟩ := of_cells e h h1
  obtain rfl : u2 = [] := h4
  rw [List.append_nil] at e1
  subst e1
  exact ⟨us, (rel_cells E g e h3).1, h2⟩
theorem of_list {g : World} {e : Ty} {c : Cl} {x : List e.den} (h : (Ty.sl e).of [c] = some (x, [])) : ∀ u, RelV E g (.v (.c c)) u → RelV E g (.v (.c (.d e x))) u := fun u r => by
  have r1 : RelCs E g [c] [u] := ⟨u, [], rfl, r, rfl⟩
  obtain ⟨u1, u2, e1, h3, h4⟩ := of_cells (.sl e) h r1
  obtain rfl : u2 = [] := h4
  rw [List.append_nil] at e1
  subst e1
  obtain ⟨u', r', e2, h5, h6⟩ := (rel_cells E g (.sl e) h3).1
  obtain rfl : u = u' := (List.cons.inj e2).1
  exact h5
theorem br_of {c : Bool} {p q : Prop} (h1 : c = true → p) (h2 : c = false → q) : br c p q := by
  cases c
  · exact h2 rfl
  · exact h1 rfl
theorem Wp.enter {I : Base → Prop} (hct : CtOk I X.P X.ct) {f : FuncId} {fn : Func} (an : FAnn) (hf : X.P.funcs[f]? = some fn) {args : List SV} {H : List HO} {Q : SV → List HO → Prop} (h : vFun X an fn args H Q) : Wp I X.P f args H Q := by
  intro W hW g w E F vs hsat hvs
  replace hct := hct.at hW
  unfold vFun at h
  split at h
  · exact h.elim
  · rename_i c hb
    obtain ⟨hl, h⟩ := if_ok h
    have hl' : vs.length ≤ fn.ntmps := by rw [relVs_len hvs]; exact Nat.le_of_ble_eq_true hl
    have hobj : ∀ l, ({ f := startF 0 args, h := H } : Bs).obj { f := [], h := [], n := H.length } l = nthH H l := fun l => rfl
    have S : Sta fn.ntmps W F { f := startF 0 args, h := H } E g w { f := [], h := [], n := H.length } { tmps := vs.toArray ++ Array.replicate (fn.ntmps - vs.toArray.size) undef, defers := [] } := by
      refine ⟨by simp; omega, rfl, fun t v ht => ?_, ?_, fun l hl => ?_⟩
      · obtain ⟨_, h2⟩ := startF_get (k := 0) ht
        obtain ⟨u, h3, h4⟩ := relVs_get hvs h2
        simp only [Nat.sub_zero] at h3
        have h5 : t < vs.length := (List.getElem?_eq_some_iff.1 h3).1
        have : (vs.toArray ++ Array.replicate (fn.ntmps - vs.toArray.size) undef).getD t undef = u := by
          simp [Array.getD_eq_getD_getElem?, Array.getElem?_append, h5]
          rw [List.getElem?_eq_getElem h5] at h3
          exact Option.some.inj h3
        rw [this]; exact h4
      · have : ({ f := startF 0 args, h := H } : Bs).heap { f := [], h := [], n := H.length } = H := by
          apply List.ext_getElem?
          intro k
          by_cases hk : k < H.length
          · rw [heap_get (s := { f := [], h := [], n := H.length }) hk, hobj, List.getElem?_eq_getElem hk, nthH_get (List.getElem?_eq_getElem hk)]
          · rw [List.getElem?_eq_none (by rw [heap_len]; show H.length ≤ k; omega), List.getElem?_eq_none (by omega)]
        rw [this]; exact hsat
      · rw [hobj]; exact nthH_none hl
    have h := factVs_ok hvs h
    refine calls_of_wp hf hb (wp_mono (vCode_ok hct c S h) ?_)
    rintro e a' w' ⟨E', g', s', ex, l1, l2, S', rfl, hq⟩
    have hlen : E.length = H.length := hsat.len
    cases ex with
    | normal =>
      simp only at hq
      rw [← hlen] at hq
      obtain ⟨v, hr, hv⟩ := vEnd_ok S' l1 l2 hq
      exact ⟨S'.defers, v, hr, v, rfl, hv⟩
    | exit i => exact hq.elim
    | ret =>
      simp only at hq
      rw [← hlen] at hq
      obtain ⟨v, hr, hv⟩ := vEnd_ok S' l1 l2 hq
      exact ⟨S'.defers, v, hr, v, rfl, hv⟩
end
end Go.Lm

namespace Go.Lm
open Go Go.RowKit
def withinI (x a b : Int) : Bool := decide (a ≤ x) && decide (x ≤ b)
def nulAt (s : ByteArray) : Int := Lib.indexByte s.data.toList 0
def plainS (s : ByteArray) (m : Int) : Bool := withinI (s.size : Int) 1 m && decide (nulAt s < 0)
theorem sz_list (s : ByteArray) : s.size = s.data.toList.length := by
  cases s with
  | mk d => simp [ByteArray.size]
theorem indexByte_in (l : List UInt8) (c : UInt8) : -1 ≤ Lib.indexByte l c ∧ Lib.indexByte l c < max 1 (l.length : Int) := by
  induction l with
  | nil => simp [Lib.indexByte]; omega
  | cons b r ih =>
    unfold Lib.indexByte
    by_cases hb : (b == c) = true
    · rw [if_pos hb]; simp; omega
    · rw [if_neg hb]
      by_cases hm : (Lib.indexByte r c == -1) = true
      · simp only [hm, if_true, List.length_cons]; omega
      · simp only [hm]
        simp at hm
        simp only [List.length_cons]
        have : r ≠ [] := fun e => by subst e; simp [Lib.indexByte] at hm
        have : 0 < r.length := List.length_pos_iff.2 this
        simp
        omega
def nulB (s : ByteArray) (k : Nat) : Bool := (s.data.toList.drop k).any (· == 0)
theorem nulB_step {s : ByteArray} {k : Int} (h0 : 0 ≤ k) (h1 : k < s.size) : nulB s k.toNat = (((byteAt s k).toNat : Int) == 0 || nulB s (k + 1).toNat) := by
  have hlt : k.toNat < s.data.toList.length := by rw [← sz_list]; omega
  unfold nulB
  rw [List.drop_eq_getElem_cons hlt, List.any_cons, show k.toNat + 1 = (k + 1).toNat by omega]
  have e : s.data.toList[k.toNat] = byteAt s k := by
    have h2 : k.toNat < s.size := by omega
    have hb : s[k.toNat]? = some s[k.toNat] := by simp [h2]
    unfold byteAt
    rw [hb]
    show s.data.toList[k.toNat] = s[k.toNat]
    simp [ByteArray.getElem_eq_getElem_data]
  rw [e]
  congr 1
  rw [Bool.eq_iff_iff]
  simp only [beq_iff_eq]
  constructor
  · intro h; rw [h]; rfl
  · intro h; exact UInt8.toNat_inj.1 (by show (byteAt s k).toNat = 0; omega)
theorem nulB_end {s : ByteArray} {k : Int} (h : ¬ k < s.size) (h0 : 0 ≤ k) : nulB s k.toNat = false := by
  unfold nulB
  rw [List.drop_eq_nil_of_le (by rw [← sz_list]; omega)]; rfl
abbrev XaD := ByteArray × List UInt8 × Unit
def leB (a b : ByteArray) : Bool := sLt a b || sEq a b
def badX (x : XaD) (last : ByteArray) : Bool := !plainS x.1 40 || leB x.1 last || decide ((x.2.1.length : Int) > 200)
def xattrsGo : List XaD → ByteArray → Bool
  | [], _ => true
  | x :: r, last => if badX x last then false else xattrsGo r x.1
def xattrsB (l : List XaD) : Bool := xattrsGo l ⟨#[]⟩ && decide ((l.length : Int) ≤ 8)
theorem ixD_drop {e : Ty} {l : List e.den} {k : Int} (h0 : 0 ≤ k) (h1 : k < l.length) : l.drop k.toNat = ixD e l k :: l.drop (k + 1).toNat := by
  have hlt : k.toNat < l.length := by omega
  rw [List.drop_eq_getElem_cons hlt, show k.toNat + 1 = (k + 1).toNat by omega]
  congr 1
  unfold ixD
  rw [List.getD_eq_getElem?_getD, List.getElem?_eq_getElem hlt]; rfl
theorem drop_all {α : Type} {l : List α} {k : Int} (h : ¬ k < l.length) : l.drop k.toNat = [] := List.drop_eq_nil_of_le (by omega)
theorem bl_cons (a b : UInt8) (x y : List UInt8) : Op.bytesLess (a :: x) (b :: y) = (decide (a < b) || (a == b && Op.bytesLess x y)) := rfl
theorem bl_irr : ∀ x : List UInt8, Op.bytesLess x x = false
  | [] => rfl
  | a :: x => by rw [bl_cons, bl_irr x]; simp
theorem u8_tri (a b : UInt8) : a < b ∨ a = b ∨ b < a := by
  rcases UInt8.lt_or_le a b with h | h
  · exact .inl h
  · rcases UInt8.lt_or_eq_of_le h with h | h
    · exact .inr (.inr h)
    · exact .inr (.inl h.symm)
theorem bl_tri : ∀ x y : List UInt8, Op.bytesLess x y = true ∨ x = y ∨ Op.bytesLess y x = true
  | [], [] => .inr (.inl rfl)
  | [], _ :: _ => .inl rfl
  | _ :: _, [] => .inr (.inr rfl)
  | a :: x, b :: y => by
    rw [bl_cons, bl_cons]
    rcases u8_tri a b with h | h | h
    · exact .inl (by simp [h])
    · subst h
      rcases bl_tri x y with k | k | k
      · exact .inl (by simp [k])
      · exact .inr (.inl (by rw [k]))
      · exact .inr (.inr (by simp [k]))
    · exact .inr (.inr (by simp [h]))
theorem bl_trans : ∀ {x y z : List UInt8}, Op.bytesLess x y = true → Op.bytesLess y z = true → Op.bytesLess x z = true
  | _, [], _, h, _ => by simp [Op.bytesLess] at h
  | _, _ :: _, [], _, k => by simp [Op.bytesLess] at k
  | [], _ :: _, _ :: _, _, _ => rfl
  | a :: x, b :: y, c :: z, h, k => by
    rw [bl_cons] at *
    simp only [Bool.or_eq_true, Bool.and_eq_true, decide_eq_true_eq, beq_iff_eq] at *
    rcases h with h | ⟨rfl, h⟩
    · rcases k with k | ⟨rfl, k⟩
      · exact .inl (UInt8.lt_trans h k)
      · exact .inl h
    · rcases k with k | ⟨rfl, k⟩
      · exact .inl k
      · exact .inr ⟨rfl, bl_trans h k⟩
theorem bl_asymm {x y : List UInt8} (h : Op.bytesLess x y = true) : Op.bytesLess y x = false := by
  cases k : Op.bytesLess y x with
  | false => rfl
  | true => have := bl_trans h k; rw [bl_irr] at this; cases this
theorem leB_geq (a b : ByteArray) : leB a b = !sLt b a := by
  unfold leB sLt sEq
  rcases bl_tri a.toList b.toList with h | h | h
  · rw [h, bl_asymm h]; rfl
  · rw [h, bl_irr]; simp
  · rw [h, bl_asymm h]
    have : (a.toList == b.toList) = false := by
      apply beq_eq_false_iff_ne.2
      intro e; rw [e, bl_irr] at h; cases h
    rw [this]; rfl
theorem nil_lt {a : ByteArray} (h : 1 ≤ (a.size : Int)) : sLt ⟨#[]⟩ a = true := by
  unfold sLt
  have h0 : (⟨#[]⟩ : ByteArray).toList = [] := by rw [Lib.toList_data]
  rw [h0]
  rw [sz_list] at h
  rw [Lib.toList_data]
  cases h2 : a.data.toList with
  | nil => rw [h2] at h; simp at h
  | cons x r => rfl
theorem index_any : ∀ l : List UInt8, decide (Lib.indexByte l 0 < 0) = !l.any (· == 0)
  | [] => rfl
  | b :: r => by
    have ih := index_any r
    have ge := Lib.indexByte_ge r 0
    unfold Lib.indexByte
    by_cases hb : b = 0
    · subst hb; simp
    · have h1 : (b == 0) = false := by simpa using hb
      rw [h1]
      simp only [Bool.false_eq_true, if_false, List.any_cons, h1, Bool.false_or]
      rw [← ih]
      by_cases hm : Lib.indexByte r 0 = -1
      · simp [hm]
      · have : (Lib.indexByte r 0 == -1) = false := by simpa using hm
        simp only [this, Bool.false_eq_true, if_false]
        have h2 : ¬ Lib.indexByte r 0 < 0 := by omega
        have h3 : ¬ Lib.indexByte r 0 + 1 < 0 := by omega
        simp [h2, h3]
theorem nul_iff (s : ByteArray) : decide (nulAt s < 0) = !nulB s 0 := by
  unfold nulAt nulB
  rw [index_any]; simp
theorem badX_ref (x : XaD) (last : ByteArray) : badX x last = (decide ((x.1.size : Int) < 1) || decide ((x.1.size : Int) > 40) || nulB x.1 0 || decide ((x.2.1.length : Int) > 200) || !sLt last x.1) := by
  unfold badX plainS withinI
  rw [nul_iff, leB_geq]
  rw [Bool.eq_iff_iff]
  simp only [Bool.or_eq_true, Bool.not_eq_true', Bool.and_eq_false_iff, decide_eq_false_iff_not, decide_eq_true_eq, Bool.not_eq_false']
  constructor
  · rintro ((h | h) | h)
    · rcases h with (h | h) | h
      · exact .inl (.inl (.inl (.inl (by omega))))
      · exact .inl (.inl (.inl (.inr (by omega))))
      · exact .inl (.inl (.inr h))
    · exact .inr h
    · exact .inl (.inr h)
  · rintro ((((h | h) | h) | h) | h)
    · exact .inl (.inl (.inl (.inl (by omega))))
    · exact .inl (.inl (.inl (.inr (by omega))))
    · exact .inl (.inl (.inr h))
    · exact .inr h
    · exact .inl (.inr h)
def prevN (l : List XaD) (k : Int) : ByteArray := if k > 0 then (@List.getD XaD l (k - 1).toNat (⟨#[]⟩, [], ())).1 else ⟨#[]⟩
def noB (s : ByteArray) : Bool := sEq s ⟨#[]⟩
def may3 (m u g : Int) : Bool := withinI m 0 511 && withinI u 0 65535 && withinI g 0 65535
def mayT (x : NoD) : Bool :=
  if x.2.2.1 = 1 then ((x.2.2.2.2.1.length : Int) == 0) && noB x.2.2.2.2.2.1 && !x.2.2.2.2.2.2.2.1 && may3 x.2.2.2.1.1 x.2.2.2.1.2.1 x.2.2.2.1.2.2.1 && xattrsB x.2.2.2.2.2.2.1
  else if x.2.2.1 = 2 then decide ((x.2.2.2.2.1.length : Int) ≤ 4096) && noB x.2.2.2.2.2.1 && !x.2.2.2.2.2.2.2.1 && may3 x.2.2.2.1.1 x.2.2.2.1.2.1 x.2.2.2.1.2.2.1 && xattrsB x.2.2.2.2.2.2.1
  else if x.2.2.1 = 3 then ((x.2.2.2.2.1.length : Int) == 0) && plainS x.2.2.2.2.2.1 200 && !x.2.2.2.2.2.2.2.1 && may3 x.2.2.2.1.1 x.2.2.2.1.2.1 x.2.2.2.1.2.2.1 && xattrsB x.2.2.2.2.2.2.1
  else false
def badM (x : NoD) : Bool := x.2.2.1 == 4 && (!(x.2.2.2.1.1 == 0 && (x.2.2.2.1.2.1 == 0 && x.2.2.2.1.2.2.1 == 0)) || decide ((x.2.2.2.2.1.length : Int) > 0) || !sEq x.2.2.2.2.2.1 ⟨#[]⟩ || decide ((x.2.2.2.2.2.2.1.length : Int) > 0) || x.2.2.2.2.2.2.2.1)
def refMay (x : NoD) : Bool :=
  if decide (x.2.2.1 < 1) || (decide (x.2.2.1 > 3) || x.2.2.2.2.2.2.2.1) then false
  else if decide (x.2.2.2.1.1 < 0) || (decide (x.2.2.2.1.1 > 511) || (decide (x.2.2.2.1.2.1 < 0) || (decide (x.2.2.2.1.2.1 > 65535) || (decide (x.2.2.2.1.2.2.1 < 0) || decide (x.2.2.2.1.2.2.1 > 65535))))) then false
  else if (x.2.2.1 != 2 && decide ((x.2.2.2.2.1.length : Int) > 0)) || decide ((x.2.2.2.2.1.length : Int) > 4096) then false
  else if (x.2.2.1 != 3 && !sEq x.2.2.2.2.2.1 ⟨#[]⟩) || (x.2.2.1 == 3 && (sEq x.2.2.2.2.2.1 ⟨#[]⟩ || (decide ((x.2.2.2.2.2.1.size : Int) > 200) || nulB x.2.2.2.2.2.1 0))) then false
  else xattrsB x.2.2.2.2.2.2.1
theorem noB_size (s : ByteArray) : sEq s ⟨#[]⟩ = !decide (1 ≤ (s.size : Int)) := by
  unfold sEq
  have h1 : (⟨#[]⟩ : ByteArray).toList = [] := by rw [Lib.toList_data]
  rw [h1, Lib.toList_data, sz_list]
  cases s.data.toList with
  | nil => rfl
  | cons x r =>
    have : decide (1 ≤ ((x :: r).length : Int)) = true := by simp; omega
    rw [this]; rfl
theorem may3_ref (m u g : Int) : may3 m u g = !(decide (m < 0) || (decide (m > 511) || (decide (u < 0) || (decide (u > 65535) || (decide (g < 0) || decide (g > 65535)))))) := by
  unfold may3 withinI
  rw [Bool.eq_iff_iff]
  simp only [Bool.and_eq_true, decide_eq_true_eq, Bool.not_eq_true', Bool.or_eq_false_iff, decide_eq_false_iff_not]
  omega
theorem refMay_eq (x : NoD) : refMay x = mayT x := by
  obtain ⟨path, ino, kind, ⟨m, u, g, un⟩, data, target, xs, opq, un2⟩ := x
  unfold refMay mayT noB plainS
  simp only
  rw [nul_iff, noB_size, may3_ref]
  unfold withinI
  generalize (decide (m < 0) || (decide (m > 511) || (decide (u < 0) || (decide (u > 65535) || (decide (g < 0) || decide (g > 65535)))))) = M
  generalize nulB target 0 = N
  generalize xattrsB xs = X
  generalize target.size = ts
  generalize data.length = dl
  have D : (decide ((dl : Int) > 0) = false ∧ decide ((dl : Int) > 4096) = false ∧ decide ((dl : Int) ≤ 4096) = true ∧ ((dl : Int) == 0) = true) ∨ (decide ((dl : Int) > 0) = true ∧ decide ((dl : Int) > 4096) = false ∧ decide ((dl : Int) ≤ 4096) = true ∧ ((dl : Int) == 0) = false) ∨
      (decide ((dl : Int) > 0) = true ∧ decide ((dl : Int) > 4096) = true ∧ decide ((dl : Int) ≤ 4096) = false ∧ ((dl : Int) == 0) = false) := by
    simp only [decide_eq_true_eq, decide_eq_false_iff_not, beq_iff_eq, beq_eq_false_iff_ne]
    omega
  have T : (decide (1 ≤ (ts : Int)) = false ∧ decide ((ts : Int) > 200) = false ∧ decide ((ts : Int) ≤ 200) = true) ∨ (decide (1 ≤ (ts : Int)) = true ∧ decide ((ts : Int) > 200) = false ∧ decide ((ts : Int) ≤ 200) = true) ∨ (decide (1 ≤ (ts : Int)) = true ∧ decide ((ts : Int) > 200) = true ∧ decide ((ts : Int) ≤ 200) = false) := by
    simp only [decide_eq_true_eq, decide_eq_false_iff_not]
    omega
  by_cases k1 : kind = 1
  · subst k1
    rcases D with ⟨d1, d2, d3, d4⟩ | ⟨d1, d2, d3, d4⟩ | ⟨d1, d2, d3, d4⟩ <;> rcases T with ⟨t1, t2, t3⟩ | ⟨t1, t2, t3⟩ | ⟨t1, t2, t3⟩ <;> simp only [d1, d2, d3, d4, t1, t2, t3] <;> cases opq <;> cases M <;> cases X <;> cases N <;> rfl
  · by_cases k2 : kind = 2
    · subst k2
      rcases D with ⟨d1, d2, d3, d4⟩ | ⟨d1, d2, d3, d4⟩ | ⟨d1, d2, d3, d4⟩ <;> rcases T with ⟨t1, t2, t3⟩ | ⟨t1, t2, t3⟩ | ⟨t1, t2, t3⟩ <;> simp only [d1, d2, d3, d4, t1, t2, t3] <;> cases opq <;> cases M <;> cases X <;> cases N <;> rfl
    · by_cases k3 : kind = 3
      · subst k3
        rcases D with ⟨d1, d2, d3, d4⟩ | ⟨d1, d2, d3, d4⟩ | ⟨d1, d2, d3, d4⟩ <;> rcases T with ⟨t1, t2, t3⟩ | ⟨t1, t2, t3⟩ | ⟨t1, t2, t3⟩ <;> simp only [d1, d2, d3, d4, t1, t2, t3] <;> cases opq <;> cases M <;> cases X <;> cases N <;> rfl
      · have h : (decide (kind < 1) || (decide (kind > 3) || opq)) = true := by
          by_cases ha : kind < 1
          · simp [ha]
          · have : kind > 3 := by omega
            simp [this]
        rw [h]; simp [k1, k2, k3]
def slashB (s : ByteArray) (k : Nat) : Bool := (s.data.toList.drop k).any fun b => b == 0 || b == 47
theorem byte_eq {b : UInt8} {n : Nat} (h : n < 256) : (b == UInt8.ofNat n) = ((b.toNat : Int) == (n : Int)) := by
  rw [Bool.eq_iff_iff]
  simp only [beq_iff_eq]
  constructor
  · intro e; subst e
    have : (UInt8.ofNat n).toNat = n := UInt8.toNat_ofNat_of_lt' h
    rw [this]
  · intro e
    have e' : b.toNat = n := by omega
    exact UInt8.toNat_inj.1 (by rw [e', UInt8.toNat_ofNat_of_lt' h])
theorem drop_byte {s : ByteArray} {k : Int} (h0 : 0 ≤ k) (h1 : k < s.size) : s.data.toList.drop k.toNat = byteAt s k :: s.data.toList.drop (k + 1).toNat := by
  have hlt : k.toNat < s.data.toList.length := by rw [← sz_list]; omega
  rw [List.drop_eq_getElem_cons hlt, show k.toNat + 1 = (k + 1).toNat by omega]
  congr 1
  have h2 : k.toNat < s.size := by omega
  have hb : s[k.toNat]? = some s[k.toNat] := by simp [h2]
  unfold byteAt
  rw [hb]
  show s.data.toList[k.toNat] = s[k.toNat]
  simp [ByteArray.getElem_eq_getElem_data]
theorem slashB_step {s : ByteArray} {k : Int} (h0 : 0 ≤ k) (h1 : k < s.size) : slashB s k.toNat = (((byteAt s k).toNat : Int) == 0 || (((byteAt s k).toNat : Int) == 47 || slashB s (k + 1).toNat)) := by
  unfold slashB
  rw [drop_byte h0 h1, List.any_cons, show (0 : UInt8) = UInt8.ofNat 0 from rfl, show (47 : UInt8) = UInt8.ofNat 47 from rfl, byte_eq (n := 0) (by omega), byte_eq (n := 47) (by omega), Bool.or_assoc]
  rfl
theorem slashB_end {s : ByteArray} {k : Int} (h : ¬ k < s.size) (h0 : 0 ≤ k) : slashB s k.toNat = false := by
  unfold slashB
  rw [List.drop_eq_nil_of_le (by rw [← sz_list]; omega)]; rfl
def dotsB (s : ByteArray) : Bool := sEq s ⟨#[]⟩ || (sEq s ⟨#[46]⟩ || sEq s ⟨#[46, 46]⟩)
def validN (s : ByteArray) : Int := if (s.size : Int) > 255 then 23 else if slashB s 0 || dotsB s then 22 else 0
end Go.Lm

namespace Go.Lm
open Go Go.RowKit
section
variable {P : Program} {I : Base → Prop} {f : FuncId} {args : List SV} {H : List HO} {Q Q' : SV → List HO → Prop} {W : Base} {E : Env} {g w : World} {F : List Atom}
theorem Wp.fin (h : Wp I P f args H Q') (k : ∀ (W : Base) (E : Env) (g w : World) (F : List Atom) (H' : List HO) (sv : SV), Sat W E g w H' F → Q' sv H' → ∃ g' H'', Mono g g' ∧ Sat W E g' w H'' F ∧ Q sv H'') : Wp I P f args H Q := fun W hW g w E F vs hs hv =>
  (h W hW g w E F vs hs hv).mono fun v w' ⟨E1, g1, sv, H1, e1, m1, s1, r1, q1⟩ => by
    obtain ⟨g2, H2, m2, s2, q2⟩ := k W E1 g1 w' F H1 sv s1 q1
    exact ⟨E1, g2, sv, H2, e1, m1.trans m2, s2, r1.mono (EnvLe.refl _) m2, q2⟩
theorem Wp.mono (h : Wp I P f args H Q') (k : ∀ sv H', Q' sv H' → Q sv H') : Wp I P f args H Q :=
  h.fin fun _ _ g _ _ H' sv s q => ⟨g, H', Mono.refl g, s, k sv H' q⟩
theorem Wp.beg {H0 : List HO} (h : ∀ (W : Base) (E : Env) (g w : World) (F : List Atom), Sat W E g w H0 F → ∃ E' H1, EnvLe E E' ∧ Sat W E' g w H1 F ∧ Wp I P f args H1 Q) : Wp I P f args H0 Q := fun W hW g w E F vs hs hv => by
  obtain ⟨E1, H1, e1, s1, k⟩ := h W E g w F hs
  have hv1 : RelVs E1 g args vs := by
    have key : ∀ {l : List SV} {us : List Value}, RelVs E g l us → RelVs E1 g l us := by
      intro l
      induction l with
      | nil => intro us h; exact h
      | cons c l ih =>
        rintro us ⟨u, r, e, h1, h2⟩
        exact ⟨u, r, e, h1.mono e1 (Mono.refl g), ih h2⟩
    exact key hv
  exact (k W hW g w E1 F vs s1 hv1).mono fun v w' ⟨E2, g2, sv, H2, e2, m2, q⟩ => ⟨E2, g2, sv, H2, e1.trans e2, m2, q⟩
theorem Wp.sel (h : Wp I P f args H fun sv H' => ∃ ls : List Nat, ls.take H.length = List.range H.length ∧ ls.Nodup ∧ (∀ l ∈ ls, l < H'.length) ∧ Q (sv.ren (idxN ls)) (ls.map fun l => (nthH H' l).ren (idxN ls))) : Wp I P f args H Q := fun W hW g w E F vs hs hv =>
  (h W hW g w E F vs hs hv).mono fun v w' ⟨E1, g1, sv, H1, e1, m1, s1, r1, ls, h1, hn, hlt, q⟩ => by
    have hr1 : RenOk (idxN ls) E1 (ls.map fun l => (E1[l]?).getD undef) := fun l l' v h1 h2 => by
      have := idxN_get h1
      rw [List.getElem?_map, this]
      simp [h2]
    have hsat : Sat W (ls.map fun l => (E1[l]?).getD undef) g1 w' (ls.map fun l => (nthH H1 l).ren (idxN ls)) F := by
      refine ⟨s1.sl.weak fun h0 x => ?_, by simp⟩
      have x1 := sats.takeAll (ob := nthH H1) hn (fun l hl => by
        have hl' := hlt l hl
        rw [List.getElem?_eq_getElem hl', nthH_get (List.getElem?_eq_getElem hl')]) x
      have x2 := sats.shed x1
      exact sats.selRen hr1 (k := 0) (fun i l hi => by rw [Nat.zero_add]; exact idxN_mem hn hi) x2
    refine ⟨_, g1, _, _, fun k u hk => ?_, m1, hsat, r1.ren hr1, q⟩
    have hk0 : k < H.length := by
      have := (List.getElem?_eq_some_iff.1 hk).1
      rw [hs.len] at this; exact this
    have : ls[k]? = some k := by
      have h2 : (ls.take H.length)[k]? = some k := by rw [h1]; simp [hk0]
      rw [List.getElem?_take, if_pos hk0] at h2
      exact h2
    rw [List.getElem?_map, this]
    simp [e1 k u hk]
theorem Wp.ownNil {t : TypeId} {e : Ty} (h : Wp I P f args H fun sv H' => Q sv H' ∨ (sv = .c (.k (.slice none 0 0)) ∧ Q (.c (.o H'.length)) (H' ++ [.sl t e []]))) : Wp I P f args H Q := fun W hW g w E F vs hs hv =>
  (h W hW g w E F vs hs hv).mono fun v w' ⟨E1, g1, sv, H1, e1, m1, s1, r1, q⟩ => by
    rcases q with q | ⟨rfl, q⟩
    · exact ⟨E1, g1, sv, H1, e1, m1, s1, r1, q⟩
    · have hv0 : v = .slice none 0 0 := r1.1
      subst hv0
      letI := e.rep
      have H2 := SL.slNil e.den t s1.sl
      refine ⟨E1 ++ [.slice none 0 0], g1, .c (.o H1.length), H1 ++ [.sl t e []], e1.trans (EnvLe.app _ _), m1, Sat.push (o := .sl t e []) (v := .slice none 0 0) s1.len (H2.weak fun _ ⟨k1, k2, ap, q, x1, x2⟩ => ⟨k1, k2, ap, q, ⟨_, by rw [← s1.len]; simp, x1⟩, x2⟩), ⟨by rw [← s1.len]; simp, none, 0, 0, rfl⟩, q⟩
theorem Wp.ownNil2 {t : TypeId} {e : Ty} (h : Wp I P f args H fun sv H' => Q sv H' ∨ ∃ x : Int, sv = .tup [.c (.k (.slice none 0 0)), .c (.k (.int .i64 x))] ∧ Q (.tup [.c (.o H'.length), .c (.k (.int .i64 x))]) (H' ++ [.sl t e []])) : Wp I P f args H Q := fun W hW g w E F vs hs hv =>
  (h W hW g w E F vs hs hv).mono fun v w' ⟨E1, g1, sv, H1, e1, m1, s1, r1, q⟩ => by
    rcases q with q | ⟨x, rfl, q⟩
    · exact ⟨E1, g1, sv, H1, e1, m1, s1, r1, q⟩
    · obtain ⟨us, ⟨u1, us1, rfl, ⟨hu1, _⟩, u2, us2, rfl, hu2, hnil⟩, rfl⟩ := r1
      obtain rfl : us2 = [] := hnil
      subst hu1
      letI := e.rep
      have H2 := SL.slNil e.den t s1.sl
      refine ⟨E1 ++ [.slice none 0 0], g1, .tup [.c (.o H1.length), .c (.k (.int .i64 x))], H1 ++ [.sl t e []], e1.trans (EnvLe.app _ _), m1, Sat.push (o := .sl t e []) (v := .slice none 0 0) s1.len (H2.weak fun _ ⟨k1, k2, ap, q, x1, x2⟩ => ⟨k1, k2, ap, q, ⟨_, by rw [← s1.len]; simp, x1⟩, x2⟩), ⟨_, ⟨_, _, rfl, ⟨by rw [← s1.len]; simp, none, 0, 0, rfl⟩, _, _, rfl, hu2, rfl⟩, rfl⟩, q⟩
def UpIs (T : UTy) (Y : UpY) : HO → Prop
  | .up T' q1 q2 _ nx L => T' = T ∧ q1 = Y.q1 ∧ q2 = Y.q2 ∧ nx = Y.nx ∧ RepY L Y
  | .ab (.fz T' q1 q2 _ nx L _ _) => T' = T ∧ q1 = Y.q1 ∧ q2 = Y.q2 ∧ nx = Y.nx ∧ RepY L Y
  | .ab (.pw T' q1 q2 _ nx L r m _ xs) => T' = T ∧ q1 = Y.q1 ∧ q2 = Y.q2 ∧ nx = Y.nx ∧ ∀ vd, RepY (setK L r { m with vd := vd, data := xs }) Y
  | _ => False
theorem upIs_sat {l : Nat} {v : Value} {T : UTy} {Y : UpY} {o : HO} {R : List Atom} (hE : E[l]? = some v) (h : UpIs T Y o) (S : SL W g w (atomO E l o :: R)) : ∃ g', Mono g g' ∧ SL W g' w (atomO E l (.ab (.upr T Y)) :: R) := by
  have up : ∀ {P : Program} {u mb : Nat} {L : List (Int × LNode)} {g : World}, v = ptr u 0 → kk2 P T → UpIn Y.q1 Y.q2 Y.nx L → RepY L Y → SL W g w (upA P T u Y.q1 Y.q2 mb Y.nx L :: R) → SL W g w (atomO E l (.ab (.upr T Y)) :: R) := fun {P u mb L g} hv hk hin hr H => by
    subst hv
    exact H.weak fun _ ⟨k1, k2, ap, q, s1, s2⟩ => ⟨k1, k2, ap, q, ⟨_, hE, u, P, mb, L, rfl, hk, hin, hr, s1⟩, s2⟩
  cases o with
  | up T' q1 q2 mb nx L =>
    obtain ⟨rfl, rfl, rfl, rfl, hr⟩ := h
    refine ⟨g, Mono.refl g, ?_⟩
    obtain ⟨k, be, se, ow, h1, h2, ap, q, ⟨u, P', s1, hk, hin, s3⟩, s4⟩ := S
    rw [hE] at s1
    exact up (Option.some.inj s1) (kk2_ok.2 hk) hin hr ⟨k, be, se, ow, h1, h2, ap, q, s3, s4⟩
  | ab a =>
    cases a with
    | fz T' q1 q2 mb nx L z hz =>
      obtain ⟨rfl, rfl, rfl, rfl, hr⟩ := h
      refine ⟨g, Mono.refl g, ?_⟩
      obtain ⟨k, be, se, ow, h1, h2, ap, q, ⟨v', s1, u, P', hv, hk, hin, s3⟩, s4⟩ := S
      rw [hE] at s1
      obtain rfl := Option.some.inj s1
      have H1 : SL W g w (fzA P' T' u Y.q1 Y.q2 mb Y.nx L hz z :: R) := ⟨k, be, se, ow, h1, h2, ap, q, s3, s4⟩
      have H2 := H1.fzO.2
      refine up hv hk hin hr (H2.under fun _ s => ?_)
      exact sats.shed s
    | pw T' q1 q2 mb nx L r m e xs =>
      obtain ⟨rfl, rfl, rfl, rfl, hr⟩ := h
      obtain ⟨k, be, se, ow, h1, h2, ap, q, ⟨v', s1, u, P', hv, hk, hin, s3⟩, s4⟩ := S
      rw [hE] at s1
      obtain rfl := Option.some.inj s1
      have H1 : SL W g w (pwA P' T' u Y.q1 Y.q2 mb Y.nx L r m e xs :: R) := ⟨k, be, se, ow, h1, h2, ap, q, s3, s4⟩
      obtain ⟨⟨m0, l1, l2⟩, H2⟩ := SL.openE H1
      obtain ⟨⟨hout, hb, hni⟩, H3⟩ := SL.pure H2
      obtain ⟨g1, m1, H4, hi⟩ := SL.slHold0 (α := UInt8) H3
      obtain ⟨i2, H5⟩ := SL.isv H4
      obtain ⟨i3, H6⟩ := SL.pure H5
      have H7 : SL W g1 w (nodeA P' T' { m with data := xs } :: restA P' T' u Y.q1 Y.q2 mb Y.nx L l1 l2 :: R) := SL.nodeI (n := { m with data := xs }) hi i2 i3.1 i3.2 H6
      have H8 := SL.upJoin (m := m0) (m' := { m with data := xs }) hout hb.symm H7
      refine ⟨g1, m1, up hv hk ?_ (hr m.vd) H8⟩
      exact upIn_set hin ⟨hni.kind, hni.mode, hni.uid, hni.gid, hni.up, hni.links, hni.ents⟩
    | _ => exact h.elim
  | _ => exact h.elim
theorem Wp.uprO {T : UTy} {Y : UpY} (h : ∀ mb L, RepY L Y → Wp I P f args (.up T Y.q1 Y.q2 mb Y.nx L :: H) fun sv H' => ∃ o R Y', H' = o :: R ∧ UpIs T Y' o ∧ Q sv (.ab (.upr T Y') :: R)) : Wp I P f args (.ab (.upr T Y) :: H) Q := by
  refine Wp.beg fun W E g w F S => ?_
  have hl := S.len
  obtain ⟨v, hE⟩ : ∃ v, E[0]? = some v := ⟨E[0]'(by rw [hl]; simp), List.getElem?_eq_getElem _⟩
  obtain ⟨k, be, se, ow, h1, h2, ap, q, ⟨v', s1, u, P', mb, L, hv, hk, hin, hr, s3⟩, s4⟩ := S.sl
  refine ⟨E, .up T Y.q1 Y.q2 mb Y.nx L :: H, EnvLe.refl E, ⟨⟨k, be, se, ow, h1, h2, ap, q, ⟨u, P', by rw [s1, hv], kk2_ok.1 hk, hin, s3⟩, s4⟩, hl⟩, ?_⟩
  refine (h mb L hr).fin fun W E g w F H' sv S ⟨o, R, Y', e, hu, hq⟩ => ?_
  subst e
  obtain ⟨v, hE⟩ : ∃ v, E[0]? = some v := ⟨E[0]'(by rw [S.len]; simp), List.getElem?_eq_getElem _⟩
  obtain ⟨g', m', S'⟩ := upIs_sat hE hu S.sl
  exact ⟨g', .ab (.upr T Y') :: R, m', ⟨S', S.len⟩, hq⟩
theorem Wp.upNew {T : UTy} {p l : Nat} (h : Wp I P f args H fun sv H' => ∃ q1 q2 mb nx L Y, p ≠ l ∧ H'[p]? = some (.cells T.U [.k (.int .i64 q1), .k (.int .i64 q2), .kl l (.map (some mb)), .k (.int .i64 nx)]) ∧ H'[l]? = some (.ab (.um T mb L)) ∧ UpIs T Y (.up T q1 q2 mb nx L) ∧ Q sv ((H'.set l .gone).set p (.ab (.upr T Y)))) : Wp I P f args H Q := by
  refine h.fin fun W E g w F H' sv S ⟨q1, q2, mb, nx, L, Y, hne, hp, hl, hu, hq⟩ => ⟨g, _, Mono.refl g, ?_, hq⟩
  obtain ⟨_, rfl, rfl, rfl, hr⟩ := hu
  have hpl := (List.getElem?_eq_some_iff.1 hp).1
  obtain ⟨v, hE⟩ : ∃ v, E[p]? = some v := ⟨E[p]'(by rw [S.len]; exact hpl), List.getElem?_eq_getElem _⟩
  have H1 := S.sl
  have x0 : ∃ k, Below W.n W.w w ∧ True := ⟨0, S.sl.below, trivial⟩
  refine ⟨?_, by rw [S.len]; simp⟩
  refine H1.weak fun k s => ?_
  have s1 := sats.take1 hl s
  have hp' : (H'.set l .gone)[p]? = some (.cells T.U [.k (.int .i64 Y.q1), .k (.int .i64 Y.q2), .kl l (.map (some mb)), .k (.int .i64 Y.nx)]) := by rw [List.getElem?_set_ne (Ne.symm hne)]; exact hp
  obtain ⟨k1, k2, ap, e, sum, s2⟩ := s1
  have s3 := sats.take1 hp' s2
  obtain ⟨k3, k4, ap2, e2, scell, s4⟩ := s3
  subst e2
  have a2 := Hp.apart_join.1 ap
  -- the two together
  obtain ⟨bb, us, hEb, hrel, hblk⟩ := scell
  obtain ⟨_, u1, rfl, ⟨rfl, i1⟩, _, u2, rfl, ⟨rfl, i2⟩, _, u3, rfl, ⟨_, rfl, _⟩, _, u4, rfl, ⟨rfl, i3⟩, hnil⟩ := hrel
  obtain rfl : u4 = [] := hnil
  obtain ⟨_, _, P', sp⟩ := sum
  obtain ⟨m1, m2, ap3, e3, ⟨hk, hin⟩, su⟩ := sp
  have su' : sats g (mapA P' T.kI mb (ptrsV L) :: L.map fun p => nodeA P' T p.2) k1 := by
    rw [e3]
    have := sats.app (a := []) (l := mapA P' T.kI mb (ptrsV L) :: L.map fun p => nodeA P' T p.2) ap3 trivial su
    exact this
  have hup : (atomO E p (.ab (.upr T Y))).sat g (k1.join k3) := by
    refine ⟨_, hEb, bb, P', mb, L, rfl, hk, ⟨i1, i2, i3, hin⟩, hr, ?_⟩
    rw [Hp.join_comm a2.1]
    exact ⟨k3, k1, a2.1.symm, rfl, hblk, su'⟩
  have s5 : sats g (atomO E p (.ab (.upr T Y)) :: (atomsO E 0 ((H'.set l .gone).set p .gone) ++ F)) k := by
    refine ⟨k1.join k3, k4, ?_, by rw [e, Hp.join_assoc], hup, s4⟩
    exact (Hp.apart_join.2 ⟨a2.2.symm, ap2.symm⟩).symm
  have s6 := sats.put1 (l := p) (H := (H'.set l .gone).set p .gone) (by simp [hpl]) s5
  have : ((H'.set l .gone).set p .gone).set p (.ab (.upr T Y)) = (H'.set l .gone).set p (.ab (.upr T Y)) := List.set_set ..
  rw [this] at s6
  exact s6
theorem Wp.zomb {T : UTy} {q1 q2 nx : Int} {mb : Nat} {L : List (Int × LNode)} {z : LNode} {hz : Hp}
    (h : Wp I P f args [.up T q1 q2 mb nx L] fun sv H' => ∃ o L', H' = [o] ∧ (o = .up T q1 q2 mb nx L' ∨ ∃ z' hz', o = .ab (.fz T q1 q2 mb nx L' z' hz')) ∧ Q sv [.ab (.fz T q1 q2 mb nx L' (some z) hz)]) : Wp I P f args [.ab (.fz T q1 q2 mb nx L (some z) hz)] Q := by
  intro W hW g w E F vs S hv
  obtain ⟨k, be, se, ow, h1, h2, ap, q, ⟨v', s1, u, P', hv', hk, hin, hzi, hu, apz, e2, su, sz⟩, s4⟩ := S.sl
  subst e2
  have a2 := Hp.apart_join.1 ap.symm
  let A : Atom := ⟨fun g hh => hh = hz ∧ (nodeA P' T z).sat g hh, fun m ⟨e, s⟩ => ⟨e, Atom.mono _ m s⟩⟩
  have S1 : Sat W E g w [.up T q1 q2 mb nx L] (A :: F) := by
    refine ⟨⟨k, be, se, ow, hu, hz.join h2, Hp.apart_join.2 ⟨apz, a2.1.symm⟩, by rw [q, Hp.join_assoc], ⟨u, P', by rw [s1, hv'], kk2_ok.1 hk, hin, su⟩, hz, h2, a2.2.symm, rfl, ⟨rfl, sz⟩, s4⟩, S.len⟩
  refine (h W hW g w E (A :: F) vs S1 hv).mono fun v w' ⟨E1, g1, sv, H1, e1, m1, S2, r1, o, L', hH, ho, hq⟩ => ?_
  subst hH
  refine ⟨E1, g1, sv, [.ab (.fz T q1 q2 mb nx L' (some z) hz)], e1, m1, ⟨?_, S2.len⟩, r1, hq⟩
  refine S2.sl.weak fun kk s => ?_
  obtain ⟨p1, p2, ap2, e3, so, p3, p4, ap3, e4, ⟨rfl, sn⟩, sF⟩ := s
  subst e4
  have a3 := Hp.apart_join.1 ap2
  have hE1 : E1[0]? = some v' := e1 0 v' s1
  rcases ho with rfl | ⟨z', hz', rfl⟩
  · obtain ⟨u2, P2, s5, hk2, hin2, su2⟩ := so
    rw [hE1] at s5
    refine ⟨p1.join p3, p4, (Hp.apart_join.2 ⟨a3.2.symm, ap3.symm⟩).symm, by rw [e3, Hp.join_assoc], ⟨v', hE1, u2, P', Option.some.inj s5, hk, hin2, hzi, p1, a3.1, rfl, upA_re hk2 (kk2_ok.1 hk) su2, sn⟩, sF⟩
  · obtain ⟨v2, s5, u2, P2, hv2, hk2, hin2, su2⟩ := so
    rw [hE1] at s5
    obtain rfl := Option.some.inj s5
    cases z' with
    | none =>
      obtain ⟨_, su3⟩ := su2
      exact ⟨p1.join p3, p4, (Hp.apart_join.2 ⟨a3.2.symm, ap3.symm⟩).symm, by rw [e3, Hp.join_assoc], ⟨v', hE1, u2, P', hv2, hk, hin2, hzi, p1, a3.1, rfl, upA_re (kk2_ok.1 hk2) (kk2_ok.1 hk) su3, sn⟩, sF⟩
    | some zz =>
      obtain ⟨_, p5, apq, e6, su3, _⟩ := su2
      subst e6
      have a4 := Hp.apart_join.1 a3.1.symm
      have a5 := Hp.apart_join.1 a3.2.symm
      refine ⟨p5.join p3, hz'.join p4, ?_, ?_, ⟨v', hE1, u2, P', hv2, hk, hin2, hzi, p5, a4.1.symm, rfl, upA_re (kk2_ok.1 hk2) (kk2_ok.1 hk) su3, sn⟩, ?_⟩
      · refine (Hp.apart_join.2 ⟨?_, ?_⟩)
        · exact (Hp.apart_join.2 ⟨apq.symm, a4.2.symm⟩).symm
        · exact (Hp.apart_join.2 ⟨a5.1, ap3.symm⟩).symm
      · rw [e3, Hp.join_assoc, Hp.join_assoc]
        congr 1
        rw [← Hp.join_assoc, ← Hp.join_assoc, Hp.join_comm a4.2.symm]
      · exact sats.wider a5.2.symm sF
theorem Wp.rfO {tU tN tE : TypeId} {Y : UpY} (h : Wp I P f args [.cells tU [.k (.int .i64 Y.q1), .k (.int .i64 Y.q2), .o 1, .o 2, .k (.int .i64 Y.nx)], .sl tN noTy Y.L, .sl tE enTy Y.E] Q) : Wp I P f args [.ab (.rf tU tN tE Y)] Q := by
  refine Wp.beg fun W E g w F S => ?_
  obtain ⟨v, hE⟩ : ∃ v, E = [v] := by
    have := S.len
    match E, this with
    | [v], _ => exact ⟨v, rfl⟩
  subst hE
  have H0 := S.sl
  obtain ⟨k, be, se, ow, h1, h2, ap, q, ⟨v', s1, s3⟩, s4⟩ := H0
  obtain rfl : v = v' := Option.some.inj s1
  have H1 : SL W g w (rfA tU tN tE Y v :: F) := ⟨k, be, se, ow, h1, h2, ap, q, s3, s4⟩
  obtain ⟨⟨bb, v1, v2⟩, H2⟩ := SL.openE H1
  obtain ⟨⟨hv, i1, i2, i3⟩, H3⟩ := SL.pure H2
  have hv1 : ∃ a n c, v1 = .slice a n c := by
    obtain ⟨a, n, c, e, _⟩ := slO_nil (H3.pick 1 rfl)
    exact ⟨a, n, c, e⟩
  have hv2 : ∃ a n c, v2 = .slice a n c := by
    obtain ⟨a, n, c, e, _⟩ := slO_nil (H3.pick 2 rfl)
    exact ⟨a, n, c, e⟩
  refine ⟨[v, v1, v2], _, fun l u hl => ?_, ⟨?_, rfl⟩, h⟩
  · have := (List.getElem?_eq_some_iff.1 hl).1
    have hl0 : l = 0 := by simpa using this
    subst hl0
    exact hl
  · refine H3.weak fun _ ⟨k1, k2, ap, q, sb, k3, k4, ap2, q2, sl1, k5, k6, ap3, q3, sl2, sF⟩ => ?_
    exact ⟨k1, k2, ap, q, ⟨bb, _, by rw [hv]; rfl, ⟨_, _, rfl, ⟨rfl, i1⟩, _, _, rfl, ⟨rfl, i2⟩, _, _, rfl, ⟨rfl, hv1⟩, _, _, rfl, ⟨rfl, hv2⟩, _, _, rfl, ⟨rfl, i3⟩, rfl⟩, sb⟩, k3, k4, ap2, q2, ⟨v1, rfl, sl1⟩, k5, k6, ap3, q3, ⟨v2, rfl, sl2⟩, sF⟩
theorem Wp.rfI {tU tN tE : TypeId} {p a c : Nat} (h : Wp I P f args H fun sv H' => ∃ Y : UpY, p ≠ a ∧ p ≠ c ∧ a ≠ c ∧ H'[p]? = some (.cells tU [.k (.int .i64 Y.q1), .k (.int .i64 Y.q2), .o a, .o c, .k (.int .i64 Y.nx)]) ∧ H'[a]? = some (.sl tN noTy Y.L) ∧ H'[c]? = some (.sl tE enTy Y.E) ∧ Q sv (((H'.set a .gone).set c .gone).set p (.ab (.rf tU tN tE Y)))) : Wp I P f args H Q := by
  refine h.fin fun W E g w F H' sv S ⟨Y, n1, n2, n3, hp, ha, hc, hq⟩ => ⟨g, _, Mono.refl g, ⟨?_, by rw [S.len]; simp⟩, hq⟩
  have hpl := (List.getElem?_eq_some_iff.1 hp).1
  refine S.sl.weak fun k s => ?_
  obtain ⟨k1, k2, ap, e, sa, s1⟩ := sats.take1 ha s
  have hc' : (H'.set a .gone)[c]? = some (.sl tE enTy Y.E) := by rw [List.getElem?_set_ne n3]; exact hc
  obtain ⟨k3, k4, ap2, e2, sc, s2⟩ := sats.take1 hc' s1
  have hp' : ((H'.set a .gone).set c .gone)[p]? = some (.cells tU [.k (.int .i64 Y.q1), .k (.int .i64 Y.q2), .o a, .o c, .k (.int .i64 Y.nx)]) := by rw [List.getElem?_set_ne (Ne.symm n2), List.getElem?_set_ne (Ne.symm n1)]; exact hp
  obtain ⟨k5, k6, ap3, e3, sp, s3⟩ := sats.take1 hp' s2
  subst e3
  subst e2
  obtain ⟨a1, a2⟩ := Hp.apart_join.1 ap
  obtain ⟨a3, a4⟩ := Hp.apart_join.1 a2
  obtain ⟨b1, b2⟩ := Hp.apart_join.1 ap2
  obtain ⟨bb, us, hEb, hrel, hblk⟩ := sp
  obtain ⟨_, u1, rfl, ⟨rfl, i1⟩, _, u2, rfl, ⟨rfl, i2⟩, v1, u3, rfl, ⟨hEa, _⟩, v2, u4, rfl, ⟨hEc, _⟩, _, u5, rfl, ⟨rfl, i3⟩, hnil⟩ := hrel
  obtain rfl : u5 = [] := hnil
  obtain ⟨va, hEa', sa'⟩ := sa
  rw [hEa] at hEa'
  obtain rfl := Option.some.inj hEa'
  obtain ⟨vc, hEc', sc'⟩ := sc
  rw [hEc] at hEc'
  obtain rfl := Option.some.inj hEc'
  have hup : (atomO E p (.ab (.rf tU tN tE Y))).sat g (k5.join (k1.join k3)) := by
    refine ⟨_, hEb, ⟨bb, v1, v2⟩, fun _ => none, _, fun _ => .inl rfl, rfl, ⟨rfl, i1, i2, i3⟩, k5, k1.join k3, Hp.apart_join.2 ⟨a3.symm, b1.symm⟩, rfl, hblk, k1, k3, a1, rfl, sa', k3, fun _ => none, fun _ => .inr rfl, ?_, sc', trivial⟩
    funext z; unfold Hp.join; cases k3 z <;> rfl
  have s5 : sats g (atomO E p (.ab (.rf tU tN tE Y)) :: (atomsO E 0 (((H'.set a .gone).set c .gone).set p .gone) ++ F)) k := by
    refine ⟨k5.join (k1.join k3), k6, ?_, ?_, hup, s3⟩
    · exact (Hp.apart_join.2 ⟨ap3.symm, Hp.apart_join.2 ⟨a4.symm, b2.symm⟩⟩).symm
    · rw [e]
      rw [Hp.join_comm (Hp.apart_join.2 ⟨a3.symm, b1.symm⟩ : k5.apart (k1.join k3)), Hp.join_assoc, Hp.join_assoc]
  have s6 := sats.put1 (l := p) (H := ((H'.set a .gone).set c .gone).set p .gone) (by simp [hpl]) s5
  rw [show (((H'.set a HO.gone).set c .gone).set p .gone).set p (.ab (.rf tU tN tE Y)) = ((H'.set a .gone).set c .gone).set p (.ab (.rf tU tN tE Y)) from List.set_set ..] at s6
  exact s6
end
end Go.Lm

namespace Go.Lm
open Go Go.RowKit
abbrev AtD := Int × Int × Int × Unit
abbrev StD := Int × AtD × Int × Int × Unit
abbrev XeD := ByteArray × Int × Int × Unit
abbrev atTy : Ty := .pair (.int .i64) (.pair (.int .i64) (.pair (.int .i64) .unit))
abbrev stTy : Ty := .pair (.int .i64) (.pair atTy (.pair (.int .i64) (.pair (.int .i64) .unit)))
abbrev xeTy : Ty := .pair .str (.pair (.int .i64) (.pair (.int .i64) .unit))
theorem sEq_iff {a b : ByteArray} : sEq a b = true ↔ a = b := by
  unfold sEq
  rw [beq_iff_eq, Lib.toList_data, Lib.toList_data]
  constructor
  · intro h
    obtain ⟨x⟩ := a
    obtain ⟨y⟩ := b
    have : x = y := Array.ext' h
    rw [this]
  · intro h; rw [h]
theorem sEq_dec (a b : ByteArray) : sEq a b = decide (a = b) := by
  rw [Bool.eq_iff_iff, sEq_iff, decide_eq_true_eq]
def NoD.setA (n : NoD) (a : AtD) : NoD := (n.1, n.2.1, n.2.2.1, a, n.2.2.2.2)
def NoD.setD (n : NoD) (d : List UInt8) : NoD := (n.1, n.2.1, n.2.2.1, n.2.2.2.1, d, n.2.2.2.2.2)
def NoD.setX (n : NoD) (x : List XaD) : NoD := (n.1, n.2.1, n.2.2.1, n.2.2.2.1, n.2.2.2.2.1, n.2.2.2.2.2.1, x, n.2.2.2.2.2.2.2)
def NoD.setO (n : NoD) (q : Bool) : NoD := (n.1, n.2.1, n.2.2.1, n.2.2.2.1, n.2.2.2.2.1, n.2.2.2.2.2.1, n.2.2.2.2.2.2.1, q, ())
def setN (L : List NoD) (r : Int) (f : NoD → NoD) : List NoD := L.map fun n => bif isI r n then f n else n
def mayN (x : NoD) : Bool := if x.2.2.1 = 4 then !badM (x.setO false) else mayT (x.setO false)
def mayA (a : AtD) : Bool := may3 a.1 a.2.1 a.2.2.1
def sizeL (d : List UInt8) (n : Int) : List UInt8 := copyL (List.replicate n.toNat 0) 0 d
def writeL (d : List UInt8) (off : Int) (b : List UInt8) : List UInt8 := copyL (sizeL d (max (d.length : Int) (off + b.length))) off.toNat b
namespace UpY
variable (Y : UpY)
def dirE (r : Int) : Int := match Y.at r with
  | none => 1
  | some n => if n.2.2.1 = 1 then 0 else 24
def fileE (r : Int) : Int := match Y.at r with
  | none => 1
  | some n => if n.2.2.1 = 1 then 25 else if n.2.2.1 = 2 then 0 else 1
def atE (r : Int) : Int := match Y.at r with
  | none => 1
  | some _ => 0
def kindOf (r : Int) : Int := match Y.at r with
  | none => 0
  | some n => n.2.2.1
def statD (r : Int) : StD := match Y.at r with
  | none => (0, (0, 0, 0, ()), 0, 0, ())
  | some n => (n.2.2.1, n.2.2.2.1, Y.links r, (n.2.2.2.2.1.length : Int) + n.2.2.2.2.2.1.size + (Y.E.countP (ofD r) : Nat), ())
def lookE (d : Int) (s : ByteArray) : Int := if Y.dirE d = 0 then (match Y.ent d s with
  | none => 20
  | some _ => 0) else Y.dirE d
def lookD (d : Int) (s : ByteArray) : XeD := if Y.dirE d = 0 then (match Y.ent d s with
  | none => (⟨#[]⟩, 0, 0, ())
  | some e => (s, Y.kindOf e.2.2.1, e.2.2.1, ())) else (⟨#[]⟩, 0, 0, ())
def targetE (r : Int) : Int := match Y.at r with
  | none => 1
  | some n => if n.2.2.1 = 3 then 0 else 1
def targetD (r : Int) : ByteArray := match Y.at r with
  | none => ⟨#[]⟩
  | some n => if n.2.2.1 = 3 then n.2.2.2.2.2.1 else ⟨#[]⟩
def xattrsD (r : Int) : List XaD := match Y.at r with
  | none => []
  | some n => n.2.2.2.2.2.2.1
def opqD (r : Int) : Bool := match Y.at r with
  | none => false
  | some n => n.2.2.2.2.2.2.2.1
def readE (r off k : Int) : Int := if Y.fileE r = 0 then (if off < 0 ∨ k < 0 then 1 else 0) else Y.fileE r
def readD (r off k : Int) : List UInt8 := if Y.readE r off k = 0 then (match Y.at r with
  | none => []
  | some n => if off ≥ n.2.2.2.2.1.length then [] else (n.2.2.2.2.1.drop off.toNat).take (min k ((n.2.2.2.2.1.length : Int) - off)).toNat) else []
def freshE (d : Int) (s : ByteArray) : Int := if Y.dirE d = 0 then (if validN s = 0 then (match Y.ent d s with
  | none => 0
  | some _ => 21) else validN s) else Y.dirE d
def setAttrE (r : Int) (a : AtD) : Int := match Y.at r with
  | none => 1
  | some n => if n.2.2.1 = 4 ∨ mayA a = false then 1 else 0
def setAttrY (r : Int) (a : AtD) : UpY := if Y.setAttrE r a = 0 then { Y with L := setN Y.L r (·.setA a) } else Y
def setXattrsE (r : Int) (x : List XaD) : Int := match Y.at r with
  | none => 1
  | some n => if n.2.2.1 = 4 ∨ xattrsB x = false then 1 else 0
def setXattrsY (r : Int) (x : List XaD) : UpY := if Y.setXattrsE r x = 0 then { Y with L := setN Y.L r (·.setX x) } else Y
def setOpaqueY (r : Int) (q : Bool) : UpY := if Y.dirE r = 0 then { Y with L := setN Y.L r (·.setO q) } else Y
def resizeE (r k : Int) : Int := if Y.fileE r = 0 then (if k < 0 then 1 else if k > 4096 then 3 else 0) else Y.fileE r
def resizeY (r k : Int) : UpY := if Y.resizeE r k = 0 then { Y with L := setN Y.L r fun n => n.setD (sizeL n.2.2.2.2.1 k) } else Y
def writeE (r off : Int) (b : List UInt8) : Int := if Y.fileE r = 0 then (if off < 0 then 1 else if off > 4096 ∨ (b.length : Int) > 4096 - off then 3 else 0) else Y.fileE r
def writeY (r off : Int) (b : List UInt8) : UpY := if Y.writeE r off b = 0 ∧ b ≠ [] then { Y with L := setN Y.L r fun n => n.setD (writeL n.2.2.2.2.1 off b) } else Y
def makeE (d : Int) (s : ByteArray) (n : NoD) : Int := if Y.freshE d s = 0 then (if mayN n then 0 else 1) else Y.freshE d s
def makeR (d : Int) (s : ByteArray) (n : NoD) : Int := if Y.makeE d s n = 0 then Y.nx else 0
def newN (n : NoD) : NoD := ([], Y.nx, n.2.2.1, n.2.2.2.1, n.2.2.2.2.1, n.2.2.2.2.2.1, n.2.2.2.2.2.2.1, false, ())
def makeY (d : Int) (s : ByteArray) (n : NoD) : UpY := if Y.makeE d s n = 0 then { Y with L := Y.L ++ [Y.newN n], E := Y.E ++ [(d, s, Y.nx, ())], nx := Y.nx + 1 } else Y
def linkE (d : Int) (s : ByteArray) (r : Int) : Int := match Y.at r, Y.at d with
  | some n, some _ => if Y.freshE d s = 0 then (if n.2.2.1 = 1 then 25 else 0) else Y.freshE d s
  | _, _ => 1
def linkY (d : Int) (s : ByteArray) (r : Int) : UpY := if Y.linkE d s r = 0 then { Y with E := Y.E ++ [(d, s, r, ())] } else Y
def whites (r : Int) : Bool := Y.E.all fun e => !ofD r e || Y.kindOf e.2.2.1 == 4
def removeE (d : Int) (s : ByteArray) : Int := if Y.lookE d s = 0 then (match Y.ent d s with
  | none => 0
  | some e => if Y.whites e.2.2.1 then 0 else 26) else Y.lookE d s
def goneE (d : Int) (s : ByteArray) (r : Int) : List EnD := let E1 := Y.E.filter fun e => !isE d s e
  if E1.any (toR r) then E1 else E1.filter fun e => !ofD r e
def goneL (d : Int) (s : ByteArray) (r : Int) : List NoD := Y.L.filter fun n => isI 1 n || (Y.goneE d s r).any (toR n.2.1)
def removeY (d : Int) (s : ByteArray) : UpY := if Y.removeE d s = 0 then (match Y.ent d s with
  | none => Y
  | some e => { Y with L := Y.goneL d s e.2.2.1, E := Y.goneE d s e.2.2.1 }) else Y
def upOf (r : Int) : Int := match Y.E.find? (toR r) with
  | none => 0
  | some e => e.1
def inside (top : Int) : Nat → Int → Bool
  | 0, d => d == top
  | k + 1, d => d == top || (d != 1 && inside top k (Y.upOf d))
open Classical in
noncomputable def below (top d : Int) : Bool := decide (∃ k, Y.inside top k d = true)
noncomputable def moveE (d : Int) (s : ByteArray) (to : Int) (now : ByteArray) : Int := if Y.atE to ≠ 0 then Y.atE to else if Y.dirE d ≠ 0 then Y.dirE d else if Y.dirE to ≠ 0 then Y.dirE to else match Y.ent d s with
  | none => 20
  | some e => if Y.freshE to now ≠ 0 then Y.freshE to now else if Y.below e.2.2.1 to then 30 else 0
noncomputable def moveY (d : Int) (s : ByteArray) (to : Int) (now : ByteArray) : UpY := if Y.moveE d s to now = 0 then (match Y.ent d s with
  | none => Y
  | some e => { Y with E := (Y.E.filter fun e => !isE d s e) ++ [(to, now, e.2.2.1, ())] }) else Y
def costX (l : List XaD) : Int := (l.map fun x => (x.1.size : Int) + x.2.1.length).sum
def costN (n : NoD) : Int := 64 + n.2.2.2.2.1.length + n.2.2.2.2.2.1.size + costX n.2.2.2.2.2.2.1
def usedB : Int := (Y.L.map costN).sum + (Y.E.map fun e => (e.2.1.size : Int)).sum
def over : Bool := decide ((Y.L.length : Int) > Y.q1) || decide (Y.usedB > Y.q2)
end UpY
structure UpY.Wf (Y : UpY) : Prop where
  nd : (Y.L.map (·.2.1)).Nodup
  lo : ∀ n ∈ Y.L, 1 ≤ n.2.1 ∧ n.2.1 < Y.nx
  root : Y.dirE 1 = 0
  nm : ∀ n ∈ Y.L, n.1 = [] ∧ ((n.2.2.1 = 1 ∨ n.2.2.2.2.2.2.2.1 = false) ∧ mayN n = true)
  ne : (Y.E.map fun e => (e.1, e.2.1)).Nodup
  dir : ∀ e ∈ Y.E, Y.dirE e.1 = 0 ∧ validN e.2.1 = 0
  ref : ∀ e ∈ Y.E, e.2.2.1 ≠ 1 ∧ Y.atE e.2.2.1 = 0
  has : ∀ n ∈ Y.L, n.2.1 ≠ 1 → Y.E.any (toR n.2.1) = true
  one : ∀ e ∈ Y.E, Y.dirE e.2.2.1 = 0 → Y.E.countP (toR e.2.2.1) = 1
  dep : ∃ d : Int → Nat, ∀ e ∈ Y.E, Y.dirE e.2.2.1 = 0 → d e.1 < d e.2.2.1
section
variable {L : List (Int × LNode)} {Y : UpY}
theorem at_mem {r : Int} {y : NoD} (h : Y.at r = some y) : y ∈ Y.L ∧ y.2.1 = r := by
  unfold UpY.at at h
  refine ⟨List.mem_of_find?_eq_some h, ?_⟩
  have := List.find?_some h
  simpa [isI] using this
theorem at_none {r : Int} : Y.at r = none ↔ ∀ n ∈ Y.L, n.2.1 ≠ r := by
  unfold UpY.at
  rw [List.find?_eq_none]
  simp [isI]
theorem RepY.no (h : RepY L Y) {r : Int} (hr : getK L r = none) : Y.at r = none := by
  rw [at_none]
  intro n hn e
  have : r ∈ L.map (·.1) := h.keys.mem_iff.2 (List.mem_map.2 ⟨n, hn, e⟩)
  obtain ⟨p, hp, e2⟩ := List.mem_map.1 this
  exact getK_none.1 hr p hp e2
theorem RepY.get (h : RepY L Y) {r : Int} {y : NoD} (hr : Y.at r = some y) : ∃ m, getK L r = some m ∧ RepN Y r m y := by
  cases hg : getK L r with
  | none => rw [h.no hg] at hr; cases hr
  | some m =>
    obtain ⟨y', h1, h2⟩ := h.nodes r m hg
    rw [hr] at h1
    cases h1
    exact ⟨m, rfl, h2⟩
theorem RepY.both (h : RepY L Y) (r : Int) : (getK L r = none ∧ Y.at r = none) ∨ ∃ m y, getK L r = some m ∧ Y.at r = some y ∧ RepN Y r m y := by
  cases hg : getK L r with
  | none => exact .inl ⟨rfl, h.no hg⟩
  | some m =>
    obtain ⟨y, h1, h2⟩ := h.nodes r m hg
    exact .inr ⟨m, y, rfl, h1, h2⟩
theorem ents_nodup (w : Y.Wf) {r : Int} {m : LNode} {y : NoD} (h : RepN Y r m y) : (m.ents.map (·.1)).Nodup := by
  refine (h.ents.map (·.1)).nodup_iff.2 ?_
  rw [List.map_map]
  have e : ((fun x : ByteArray × Int => x.1) ∘ fun e : EnD => (e.2.1, e.2.2.1)) = fun e : EnD => e.2.1 := rfl
  rw [e]
  have h1 : ((Y.E.filter (ofD r)).map fun e => (e.1, e.2.1)).Nodup := ((List.filter_sublist (l := Y.E)).map _).nodup w.ne
  refine List.Pairwise.of_map (S := (· ≠ ·)) (fun s : ByteArray => (r, s)) (fun a b h e => h (by rw [e])) ?_
  rw [List.map_map]
  refine (List.map_congr_left fun e he => ?_) ▸ h1
  have : e.1 = r := by
    have := (List.mem_filter.1 he).2
    simpa [ofD] using this
  show (e.1, e.2.1) = (r, e.2.1)
  rw [this]
theorem ent_mem {d : Int} {s : ByteArray} {e : EnD} (h : Y.ent d s = some e) : e ∈ Y.E ∧ e.1 = d ∧ e.2.1 = s := by
  unfold UpY.ent at h
  refine ⟨List.mem_of_find?_eq_some h, ?_⟩
  have := List.find?_some h
  simpa [isE] using this
theorem ent_none {d : Int} {s : ByteArray} : Y.ent d s = none ↔ ∀ e ∈ Y.E, ¬ (e.1 = d ∧ e.2.1 = s) := by
  unfold UpY.ent
  rw [List.find?_eq_none]
  simp [isE]
theorem ents_mem {r : Int} {m : LNode} {y : NoD} (h : RepN Y r m y) {s : ByteArray} {x : Int} : (s, x) ∈ m.ents ↔ ∃ e ∈ Y.E, e.1 = r ∧ e.2.1 = s ∧ e.2.2.1 = x := by
  rw [h.ents.mem_iff, List.mem_map]
  constructor
  · rintro ⟨e, he, h1⟩
    obtain ⟨h2, h3⟩ := List.mem_filter.1 he
    cases h1
    exact ⟨e, h2, by simpa [ofD] using h3, rfl, rfl⟩
  · rintro ⟨e, he, h1, rfl, rfl⟩
    exact ⟨e, List.mem_filter.2 ⟨he, by simp [ofD, h1]⟩, rfl⟩
theorem ent_get (w : Y.Wf) {r : Int} {m : LNode} {y : NoD} (h : RepN Y r m y) (s : ByteArray) : getK m.ents s = (Y.ent r s).map fun e => e.2.2.1 := by
  cases he : Y.ent r s with
  | none =>
    have := ent_none.1 he
    refine getK_none.2 fun p hp e => ?_
    obtain ⟨e', h1, h2, h3, _⟩ := (ents_mem h (s := p.1) (x := p.2)).1 hp
    exact this e' h1 ⟨h2, h3.trans e⟩
  | some e =>
    obtain ⟨h1, h2, h3⟩ := ent_mem he
    exact getK_of_mem (ents_nodup w h) ((ents_mem h).2 ⟨e, h1, h2, h3, rfl⟩)
theorem ents_len {r : Int} {m : LNode} {y : NoD} (h : RepN Y r m y) : m.ents.length = Y.E.countP (ofD r) := by
  rw [h.ents.length_eq, List.length_map, List.countP_eq_length_filter]
theorem dirE_some {r : Int} {y : NoD} (h : Y.at r = some y) : Y.dirE r = if y.2.2.1 = 1 then 0 else 24 := by unfold UpY.dirE; rw [h]
theorem dirE_none {r : Int} (h : Y.at r = none) : Y.dirE r = 1 := by unfold UpY.dirE; rw [h]
theorem fileE_some {r : Int} {y : NoD} (h : Y.at r = some y) : Y.fileE r = if y.2.2.1 = 1 then 25 else if y.2.2.1 = 2 then 0 else 1 := by unfold UpY.fileE; rw [h]
theorem fileE_none {r : Int} (h : Y.at r = none) : Y.fileE r = 1 := by unfold UpY.fileE; rw [h]
theorem below_true {top d : Int} : Y.below top d = true ↔ ∃ k, Y.inside top k d = true := by
  unfold UpY.below
  exact @decide_eq_true_iff _ (Classical.propDecidable _)
theorem below_here (d : Int) : Y.below d d = true := below_true.2 ⟨0, by simp [UpY.inside]⟩
theorem below_root {top : Int} (h : top ≠ 1) : Y.below top 1 = false := by
  cases hb : Y.below top 1 with
  | false => rfl
  | true =>
    obtain ⟨k, hk⟩ := below_true.1 hb
    exfalso
    cases k <;> simp [UpY.inside, Ne.symm h] at hk
theorem below_up {top d : Int} (h1 : d ≠ top) (h2 : d ≠ 1) : Y.below top d = Y.below top (Y.upOf d) := by
  rw [Bool.eq_iff_iff, below_true, below_true]
  constructor
  · rintro ⟨k, hk⟩
    cases k with
    | zero => simp [UpY.inside, h1] at hk
    | succ k =>
      simp only [UpY.inside] at hk
      have e1 : (d == top) = false := by simpa using h1
      have e2 : (d != 1) = true := by simpa using h2
      rw [e1, e2] at hk
      exact ⟨k, by simpa using hk⟩
  · rintro ⟨k, hk⟩
    refine ⟨k + 1, ?_⟩
    simp only [UpY.inside]
    have e2 : (d != 1) = true := by simpa using h2
    rw [e2, hk]; simp
theorem upOf_some {d : Int} (h : Y.E.any (toR d) = true) : ∃ e ∈ Y.E, e.2.2.1 = d ∧ Y.upOf d = e.1 := by
  unfold UpY.upOf
  cases hf : Y.E.find? (toR d) with
  | none =>
    rw [List.find?_eq_none] at hf
    obtain ⟨e, he, h1⟩ := List.any_eq_true.1 h
    exact absurd h1 (hf e he)
  | some e => exact ⟨e, List.mem_of_find?_eq_some hf, by have := List.find?_some hf; simpa [toR] using this, rfl⟩
theorem dirE_zero {r : Int} : Y.dirE r = 0 ↔ ∃ y, Y.at r = some y ∧ y.2.2.1 = 1 := by
  unfold UpY.dirE
  cases Y.at r with
  | none => simp
  | some y =>
    simp only [Option.some.injEq, exists_eq_left']
    split <;> simp_all
structure UpY.Ok (Y : UpY) : Prop where
  wf : Y.Wf
  en : Y.E.length ≤ 1099511627776
  nb : Y.nx ≤ 1099511627776
theorem noB_zero {s : ByteArray} (h : noB s = true) : s.size = 0 := by
  unfold noB at h
  rw [sEq_iff] at h
  rw [h]; rfl
theorem mayN_lens {n : NoD} (h : mayN n = true) : n.2.2.2.2.1.length ≤ 4096 ∧ n.2.2.2.2.2.1.size ≤ 200 ∧ n.2.2.2.2.2.2.1.length ≤ 8 := by
  have hx : ∀ {l : List XaD}, xattrsB l = true → l.length ≤ 8 := fun {l} h => by
    unfold xattrsB at h
    simp only [Bool.and_eq_true, decide_eq_true_eq] at h
    omega
  unfold mayN at h
  split at h
  · rename_i hk
    unfold badM NoD.setO at h
    simp only [hk] at h
    simp only [beq_self_eq_true, Bool.true_and, Bool.not_eq_true', Bool.or_eq_false_iff, decide_eq_false_iff_not, Bool.not_eq_false'] at h
    obtain ⟨⟨⟨⟨_, h1⟩, h2⟩, h3⟩, _⟩ := h
    have h2' := noB_zero (s := n.2.2.2.2.2.1) h2
    simp only [Nat.lt_irrefl, gt_iff_lt] at h1 h3
    omega
  · unfold mayT NoD.setO at h
    simp only at h
    split at h
    · simp only [Bool.and_eq_true] at h
      have h1 := eq_of_beq h.1.1.1.1
      have h2 := noB_zero h.1.1.1.2
      have h3 := hx h.2
      omega
    · split at h
      · simp only [Bool.and_eq_true, decide_eq_true_eq] at h
        have h1 := h.1.1.1.1
        have h2 := noB_zero h.1.1.1.2
        have h3 := hx h.2
        omega
      · split at h
        · simp only [Bool.and_eq_true] at h
          have h1 := eq_of_beq h.1.1.1.1
          have h2 := h.1.1.1.2
          have h3 := hx h.2
          unfold plainS withinI at h2
          simp only [Bool.and_eq_true, decide_eq_true_eq] at h2
          omega
        · cases h
end
end Go.Lm

namespace Go.Lm
open Go Go.RowKit
section
variable {L : List (Int × LNode)} {Y : UpY}
theorem RepN.to {Y' : UpY} {r : Int} {m : LNode} {y : NoD} (h : RepN Y r m y) (e : Y'.E = Y.E) : RepN Y' r m y := ⟨h.kind, h.mode, h.uid, h.gid, h.data, h.target, h.xattrs, h.opq, by rw [e]; exact h.ents, by rw [h.links]; unfold UpY.links; rw [e], by rw [e]; exact h.up⟩
theorem find_map_same {α : Type} {p : α → Bool} {g : α → α} (h : ∀ x, p (g x) = p x) : ∀ l : List α, (l.map g).find? p = (l.find? p).map g
  | [] => rfl
  | x :: l => by
    simp only [List.map_cons, List.find?_cons, h]
    cases p x with
    | true => rfl
    | false => exact find_map_same h l
theorem at_setN {r : Int} {f : NoD → NoD} (hf : ∀ n, (f n).2.1 = n.2.1) (x : Int) : ({ Y with L := setN Y.L r f } : UpY).at x = (Y.at x).map fun n => bif isI r n then f n else n := by
  unfold UpY.at setN
  refine find_map_same (fun n => ?_) Y.L
  unfold isI
  cases n.2.1 == r <;> simp [hf]
theorem at_setN_eq {r : Int} {f : NoD → NoD} {y : NoD} (hf : ∀ n, (f n).2.1 = n.2.1) (h : Y.at r = some y) : ({ Y with L := setN Y.L r f } : UpY).at r = some (f y) := by
  rw [at_setN hf, h]
  have := (at_mem h).2
  simp [isI, this]
theorem at_setN_ne {r x : Int} {f : NoD → NoD} (hf : ∀ n, (f n).2.1 = n.2.1) (h : x ≠ r) : ({ Y with L := setN Y.L r f } : UpY).at x = Y.at x := by
  rw [at_setN hf]
  cases hy : Y.at x with
  | none => rfl
  | some y =>
    have := (at_mem hy).2
    have e : isI r y = false := by unfold isI; rw [this]; simpa using h
    simp [e]
theorem setN_inos {r : Int} {f : NoD → NoD} (hf : ∀ n, (f n).2.1 = n.2.1) (l : List NoD) : (setN l r f).map (·.2.1) = l.map (·.2.1) := by
  unfold setN
  rw [List.map_map]
  refine List.map_congr_left fun n _ => ?_
  show (bif isI r n then f n else n).2.1 = n.2.1
  cases isI r n <;> simp [hf]
theorem setK_keys {α : Type} (L : List (Int × α)) (r : Int) (m : α) : (setK L r m).map (·.1) = L.map (·.1) := by
  unfold setK
  rw [List.map_map]
  refine List.map_congr_left fun p _ => ?_
  simp only [Function.comp]
  split <;> rfl
theorem getK_setK_self {α : Type} {L : List (Int × α)} {r : Int} {m m' : α} (h : getK L r = some m) : getK (setK L r m') r = some m' := by
  induction L with
  | nil => cases h
  | cons p L ih =>
    have e : setK (p :: L) r m' = (if p.1 = r then (p.1, m') else p) :: setK L r m' := rfl
    rw [e, getK_cons']
    rw [getK_cons'] at h
    by_cases hp : p.1 = r
    · simp [hp]
    · rw [if_neg hp] at h ⊢
      simp [hp, ih h]
theorem getK_setK_other {α : Type} {L : List (Int × α)} {r x : Int} {m' : α} (h : x ≠ r) : getK (setK L r m') x = getK L x := by
  induction L with
  | nil => rfl
  | cons p L ih =>
    have e : setK (p :: L) r m' = (if p.1 = r then (p.1, m') else p) :: setK L r m' := rfl
    rw [e, getK_cons', getK_cons']
    by_cases hp : p.1 = r
    · rw [if_pos hp]
      have : ¬ p.1 = x := fun q => h (q.symm.trans hp)
      simp only [this, if_false]
      exact ih
    · rw [if_neg hp]
      by_cases hx : p.1 = x
      · simp [hx]
      · simp only [hx, if_false]
        exact ih
theorem RepY.setN (hr : RepY L Y) {r : Int} {m m' : LNode} {y : NoD} {f : NoD → NoD} (hf : ∀ n, (f n).2.1 = n.2.1) (hg : getK L r = some m) (hy : Y.at r = some y) (h : RepN Y r m' (f y)) : RepY (setK L r m') { Y with L := Lm.setN Y.L r f } := by
  refine ⟨?_, fun x n hn => ?_⟩
  · rw [setK_keys]
    show (L.map (·.1)).Perm ((Lm.setN Y.L r f).map (·.2.1))
    rw [setN_inos hf]
    exact hr.keys
  · by_cases e : x = r
    · subst e
      rw [getK_setK_self hg] at hn
      obtain rfl := Option.some.inj hn
      exact ⟨f y, at_setN_eq hf hy, h.to rfl⟩
    · rw [getK_setK_other e] at hn
      obtain ⟨y', h1, h2⟩ := hr.nodes x n hn
      exact ⟨y', by rw [at_setN_ne hf e]; exact h1, h2.to rfl⟩
theorem xaO_xaT (l : List XaD) : (l.map xaO).map xaT = l := by
  rw [List.map_map]
  conv => rhs; rw [← List.map_id l]
  exact List.map_congr_left fun _ _ => rfl
theorem xattrsB_len {l : List XaD} (h : xattrsB l = true) : l.length ≤ 8 := by
  unfold xattrsB at h
  simp only [Bool.and_eq_true, decide_eq_true_eq] at h
  omega
theorem xattrsGo_all : ∀ {l : List XaD} {last : ByteArray}, xattrsGo l last = true → ∀ x ∈ l, x.2.1.length ≤ 200 ∧ x.1.size ≤ 40
  | [], _, _, x, h => by cases h
  | y :: r, last, h, x, hx => by
    unfold xattrsGo at h
    split at h
    · cases h
    · rename_i hb
      rcases List.mem_cons.1 hx with rfl | hx
      · unfold badX plainS withinI at hb
        simp only [Bool.or_eq_true, Bool.not_eq_true', Bool.and_eq_false_iff, decide_eq_true_eq, decide_eq_false_iff_not] at hb
        refine ⟨?_, ?_⟩ <;> (apply Decidable.byContradiction; intro hc; apply hb; first | (exact .inr (by omega)) | (exact .inl (.inl (.inl (.inr (by omega))))))
      · exact xattrsGo_all h x hx
theorem xattrsB_all {l : List XaD} (h : xattrsB l = true) : ∀ x ∈ l, x.2.1.length ≤ 200 ∧ x.1.size ≤ 40 := by
  unfold xattrsB at h
  simp only [Bool.and_eq_true] at h
  exact xattrsGo_all h.1
theorem mayN_xattrs {n : NoD} (h : mayN n = true) : ∀ x ∈ n.2.2.2.2.2.2.1, x.2.1.length ≤ 200 ∧ x.1.size ≤ 40 := by
  unfold mayN at h
  split at h
  · rename_i hk
    unfold badM NoD.setO at h
    simp only [hk] at h
    simp only [beq_self_eq_true, Bool.true_and, Bool.not_eq_true', Bool.or_eq_false_iff, decide_eq_false_iff_not, Bool.not_eq_false'] at h
    have h3 := h.1.2
    have : n.2.2.2.2.2.2.1 = [] := List.eq_nil_of_length_eq_zero (by simp only [gt_iff_lt] at h3; omega)
    rw [this]
    exact fun _ h => by cases h
  · unfold mayT NoD.setO at h
    simp only at h
    split at h
    · simp only [Bool.and_eq_true] at h
      exact xattrsB_all h.2
    · split at h
      · simp only [Bool.and_eq_true] at h
        exact xattrsB_all h.2
      · split at h
        · simp only [Bool.and_eq_true] at h
          exact xattrsB_all h.2
        · cases h
theorem sizeL_len (d : List UInt8) (n : Int) : (sizeL d n).length = n.toNat := by
  unfold sizeL
  rw [copyL_length _ _ _ (by simp)]; simp
end
end Go.Lm

namespace Go.Lm
open Go Go.RowKit
section
variable {L : List (Int × LNode)} {Y : UpY}
def entsOf (E : List EnD) (r : Int) : List (ByteArray × Int) := (E.filter (ofD r)).map fun e => (e.2.1, e.2.2.1)
theorem entsOf_app (E F : List EnD) (r : Int) : entsOf (E ++ F) r = entsOf E r ++ entsOf F r := by
  unfold entsOf
  rw [List.filter_append, List.map_append]
theorem entsOf_ne (d : Int) (s : ByteArray) (x r : Int) (h : d ≠ r) : entsOf [(d, s, x, ())] r = [] := by
  unfold entsOf
  have : ofD r (d, s, x, ()) = false := by simpa [ofD] using h
  simp [this]
theorem entsOf_eq (s : ByteArray) (x r : Int) : entsOf [(r, s, x, ())] r = [(s, x)] := by
  unfold entsOf
  have : ofD r (r, s, x, ()) = true := by simp [ofD]
  simp [this]
theorem entsOf_del_ne (E : List EnD) (d r : Int) (s : ByteArray) (h : d ≠ r) : entsOf (E.filter fun e => !isE d s e) r = entsOf E r := by
  unfold entsOf
  congr 1
  rw [List.filter_filter]
  refine List.filter_congr fun e _ => ?_
  unfold ofD isE
  by_cases h1 : e.1 = r
  · have : ¬ e.1 = d := fun q => h (q.symm.trans h1)
    simp only [h1, beq_self_eq_true, Bool.true_and]
    have e2 : (r == d) = false := by simpa using Ne.symm h
    rw [e2]; rfl
  · simp [h1]
theorem entsOf_del_eq (E : List EnD) (d : Int) (s : ByteArray) : entsOf (E.filter fun e => !isE d s e) d = delK (entsOf E d) s := by
  unfold entsOf delK
  rw [List.filter_map]
  congr 1
  rw [List.filter_filter, List.filter_filter]
  refine List.filter_congr fun e _ => ?_
  unfold ofD isE
  by_cases h1 : e.1 = d <;> by_cases h2 : e.2.1 = s <;> simp [h1, h2]
theorem delK_perm {l l' : List (ByteArray × Int)} {s : ByteArray} (h : l.Perm l') : (delK l s).Perm (delK l' s) := h.filter _
theorem putK_perm {l l' : List (ByteArray × Int)} {s : ByteArray} {x : Int} (h : l.Perm l') (hn : getK l s = none) : (putK l s x).Perm (l' ++ [(s, x)]) := by
  unfold putK
  rw [delK_none hn]
  refine (h.cons _).trans ?_
  exact (List.perm_append_singleton _ _).symm
theorem cnt_app (E : List EnD) (d : Int) (s : ByteArray) (x r : Int) : (E ++ [(d, s, x, ())]).countP (toR r) = E.countP (toR r) + if x = r then 1 else 0 := by
  rw [List.countP_append]
  congr 1
  unfold toR
  by_cases h : x = r <;> simp [h]
theorem del_split (w : Y.Wf) {d : Int} {s : ByteArray} {e : EnD} (h : Y.ent d s = some e) : ∃ E1 E2, Y.E = E1 ++ e :: E2 ∧ (Y.E.filter fun e => !isE d s e) = E1 ++ E2 := by
  obtain ⟨h1, h2, h3⟩ := ent_mem h
  obtain ⟨E1, E2, he⟩ := List.append_of_mem h1
  refine ⟨E1, E2, he, ?_⟩
  have hn := w.ne
  rw [he, List.map_append, List.map_cons] at hn
  have n1 := List.nodup_append.1 hn
  have keep : ∀ l : List EnD, (∀ x ∈ l, (x.1, x.2.1) ≠ (e.1, e.2.1)) → l.filter (fun e => !isE d s e) = l := fun l hl => List.filter_eq_self.2 fun x hx => by
    have := hl x hx
    unfold isE
    by_cases a : x.1 = d
    · by_cases b : x.2.1 = s
      · exact absurd (by rw [a, b, h2, h3]) this
      · simp [b]
    · simp [a]
  rw [he, List.filter_append, List.filter_cons]
  have hee : isE d s e = true := by unfold isE; simp [h2, h3]
  simp only [hee, Bool.not_true, Bool.false_eq_true, if_false]
  rw [keep E1 fun x hx q => n1.2.2 _ (List.mem_map.2 ⟨x, hx, rfl⟩) (e.1, e.2.1) (by simp) q, keep E2 fun x hx q => (List.nodup_cons.1 n1.2.1).1 (q ▸ List.mem_map.2 ⟨x, hx, rfl⟩)]
theorem cnt_del (w : Y.Wf) {d : Int} {s : ByteArray} {e : EnD} (h : Y.ent d s = some e) (r : Int) : (Y.E.filter fun e => !isE d s e).countP (toR r) + (if e.2.2.1 = r then 1 else 0) = Y.E.countP (toR r) := by
  obtain ⟨E1, E2, h1, h2⟩ := del_split w h
  rw [h2, h1, List.countP_append, List.countP_append, List.countP_cons]
  unfold toR
  by_cases h : e.2.2.1 = r <;> simp [h] <;> omega
theorem RepN.turn {Y' : UpY} {r : Int} {m m' : LNode} {y : NoD} (h : RepN Y r m y) (hm : m' = { m with ents := m'.ents, up := m'.up, links := m'.links }) (he : m'.ents.Perm (entsOf Y'.E r)) (hl : m'.links = Y'.links r) (hu : m.kind = 1 → ∀ e ∈ Y'.E, e.2.2.1 = r → m'.up = e.1) : RepN Y' r m' y := by
  rw [hm]
  exact ⟨h.kind, h.mode, h.uid, h.gid, h.data, h.target, h.xattrs, h.opq, he, hl, hu⟩
theorem at_app_old {n : NoD} {r : Int} {y : NoD} (h : Y.at r = some y) (E : List EnD) (nx : Int) : ({ Y with L := Y.L ++ [n], E := E, nx := nx } : UpY).at r = some y := by
  show (Y.L ++ [n]).find? (isI r) = some y
  rw [List.find?_append]
  have : Y.L.find? (isI r) = some y := h
  rw [this]; rfl
theorem at_app_new {n : NoD} {r : Int} (h : Y.at r = none) (hn : n.2.1 = r) (E : List EnD) (nx : Int) : ({ Y with L := Y.L ++ [n], E := E, nx := nx } : UpY).at r = some n := by
  show (Y.L ++ [n]).find? (isI r) = some n
  rw [List.find?_append]
  have : Y.L.find? (isI r) = none := h
  rw [this]
  simp [isI, hn]
theorem nx_none (w : Y.Wf) : Y.at Y.nx = none := at_none.2 fun n hn e => by
  have := (w.lo n hn).2
  omega
theorem RepY.nx_no (hr : RepY L Y) (w : Y.Wf) : getK L Y.nx = none := by
  rcases hr.both Y.nx with ⟨h, _⟩ | ⟨m, y, _, h, _⟩
  · exact h
  · rw [nx_none w] at h; cases h
theorem at_dir (w : Y.Wf) {e : EnD} (he : e ∈ Y.E) : ∃ y, Y.at e.1 = some y ∧ y.2.2.1 = 1 := dirE_zero.1 (w.dir e he).1
theorem at_ref (w : Y.Wf) {e : EnD} (he : e ∈ Y.E) : ∃ y, Y.at e.2.2.1 = some y := by
  have := (w.ref e he).2
  unfold UpY.atE at this
  cases hy : Y.at e.2.2.1 with
  | none => rw [hy] at this; cases this
  | some y => exact ⟨y, rfl⟩
theorem nodup_len : ∀ (n : Nat) (l : List Int), l.Nodup → (∀ x ∈ l, 1 ≤ x ∧ x ≤ n) → l.length ≤ n
  | 0, l, _, h => by
    cases l with
    | nil => simp
    | cons x l => have := h x (by simp); omega
  | n + 1, l, hn, h => by
    have h1 := nodup_len n (l.filter fun x => decide (x ≠ ((n + 1 : Nat) : Int))) (List.filter_sublist.nodup hn) fun x hx => by
      obtain ⟨hx1, hx2⟩ := List.mem_filter.1 hx
      have := h x hx1
      have : x ≠ ((n + 1 : Nat) : Int) := by simpa using hx2
      omega
    have h2 : l.count ((n + 1 : Nat) : Int) ≤ 1 := List.nodup_iff_count.1 hn _
    have h3 : l.length = (l.filter fun x => decide (x ≠ ((n + 1 : Nat) : Int))).length + l.count ((n + 1 : Nat) : Int) := by
      clear h1 h2 hn h
      induction l with
      | nil => rfl
      | cons y l ih =>
        by_cases e : y = ((n + 1 : Nat) : Int)
        · subst e
          rw [List.filter_cons, List.count_cons]
          simp only [ne_eq, not_true_eq_false, decide_false, Bool.false_eq_true, if_false, beq_self_eq_true, if_true, List.length_cons]
          rw [ih]
          simp only [ne_eq]
          omega
        · rw [List.filter_cons, List.count_cons]
          have e2 : (y == ((n + 1 : Nat) : Int)) = false := by simpa using e
          simp only [ne_eq, e, not_false_eq_true, decide_true, if_true, e2, Bool.false_eq_true, if_false, List.length_cons]
          rw [ih]
          simp only [ne_eq]
          omega
    omega
theorem RepY.len (hr : RepY L Y) (w : Y.Wf) : (L.length : Int) < Y.nx := by
  have h1 : L.length = (Y.L.map (·.2.1)).length := by rw [← hr.keys.length_eq, List.length_map]
  obtain ⟨y1, hy1, _⟩ := dirE_zero.1 w.root
  have hp := w.lo y1 (at_mem hy1).1
  have h2 := nodup_len (Y.nx - 1).toNat (Y.L.map (·.2.1)) w.nd fun x hx => by
    obtain ⟨n, hn, rfl⟩ := List.mem_map.1 hx
    have := w.lo n hn
    omega
  omega
theorem nx_pos (w : Y.Wf) : 1 < Y.nx := by
  obtain ⟨y1, hy1, _⟩ := dirE_zero.1 w.root
  have := w.lo y1 (at_mem hy1).1
  omega
theorem getK_cons_ne' {α : Type} {L : List (Int × α)} {r x : Int} {n m : α} (h : x ≠ r) (hg : getK L r = some m) : getK ((x, n) :: L) r = some m := by
  rw [getK_cons', if_neg h]; exact hg
theorem freshE_some {d : Int} {s : ByteArray} {y : NoD} (h : Y.at d = some y) (hk : y.2.2.1 = 1) (hv : validN s = 0) : Y.freshE d s = match Y.ent d s with
    | none => 0
    | some _ => 21 := by
  unfold UpY.freshE
  rw [dirE_some h, if_pos hk, if_pos rfl, if_pos hv]
  try (cases Y.ent d s <;> rfl)
theorem freshE_bad {d : Int} {s : ByteArray} {y : NoD} (h : Y.at d = some y) (hk : y.2.2.1 = 1) (hv : validN s ≠ 0) : Y.freshE d s = validN s := by
  unfold UpY.freshE
  rw [dirE_some h, if_pos hk, if_pos rfl, if_neg hv]
theorem freshE_no {d : Int} {s : ByteArray} (h : Y.dirE d ≠ 0) : Y.freshE d s = Y.dirE d := by
  unfold UpY.freshE
  rw [if_neg h]
theorem RepY.make (hr : RepY L Y) (w : Y.Wf) {d : Int} {s : ByteArray} {m nd : LNode} {y : NoD} {x : NoD} (hg : getK L d = some m) (hy : Y.at d = some y) (hN : RepN Y d m y) (hent : getK m.ents s = none)
    (hnd : nd.kind = x.2.2.1 ∧ nd.mode = x.2.2.2.1.1 ∧ nd.uid = x.2.2.2.1.2.1 ∧ nd.gid = x.2.2.2.1.2.2.1 ∧ nd.data = x.2.2.2.2.1 ∧ nd.target = x.2.2.2.2.2.1 ∧ nd.xattrs.map xaT = x.2.2.2.2.2.2.1 ∧ nd.opq = false ∧ nd.ents = [] ∧ nd.links = 1 ∧ (nd.kind = 1 → nd.up = d)) :
    RepY (setK ((Y.nx, nd) :: L) d { m with ents := putK m.ents s Y.nx }) { Y with L := Y.L ++ [Y.newN x], E := Y.E ++ [(d, s, Y.nx, ())], nx := Y.nx + 1 } := by
  have hnx := nx_none w
  have hdn : d ≠ Y.nx := fun e => by rw [e, hnx] at hy; cases hy
  have hno : getK L Y.nx = none := hr.nx_no w
  have hn1 : Y.nx ≠ 1 := fun e => by
    obtain ⟨y1, h1, _⟩ := dirE_zero.1 w.root
    rw [← e, hnx] at h1; cases h1
  have old : ∀ {z : Int} {mz : LNode} {yz : NoD}, z ≠ Y.nx → RepN Y z mz yz → ∀ (m' : LNode), m' = { mz with ents := m'.ents, up := m'.up, links := m'.links } → m'.links = mz.links → m'.up = mz.up → m'.ents.Perm (entsOf (Y.E ++ [(d, s, Y.nx, ())]) z) → RepN { Y with L := Y.L ++ [Y.newN x], E := Y.E ++ [(d, s, Y.nx, ())], nx := Y.nx + 1 } z m' yz := fun {z mz yz} hz hN m' hm hl hu he => by
    refine hN.turn hm he ?_ ?_
    · rw [hl, hN.links]
      unfold UpY.links
      have := cnt_app Y.E d s Y.nx z
      rw [if_neg (Ne.symm hz)] at this
      show _ = if z = 1 then (1 : Int) else ((Y.E ++ [(d, s, Y.nx, ())]).countP (toR z) : Int)
      rw [this]; rfl
    · intro hk e he hez
      rw [hu]
      rcases List.mem_append.1 he with he | he
      · exact hN.up hk e he hez
      · have : e = (d, s, Y.nx, ()) := by simpa using he
        subst this
        exact absurd hez (Ne.symm hz)
  refine ⟨?_, fun z n hn => ?_⟩
  · rw [setK_keys]
    show (Y.nx :: L.map (·.1)).Perm ((Y.L ++ [Y.newN x]).map (·.2.1))
    rw [List.map_append]
    exact (hr.keys.cons _).trans (List.perm_append_singleton _ _).symm
  · by_cases hz : z = d
    · subst hz
      have hg' : getK ((Y.nx, nd) :: L) z = some m := by rw [getK_cons', if_neg (Ne.symm hdn)]; exact hg
      rw [getK_setK_self hg'] at hn
      obtain rfl := Option.some.inj hn
      refine ⟨y, at_app_old hy _ _, old hdn hN _ rfl rfl rfl ?_⟩
      rw [entsOf_app, entsOf_eq]
      exact putK_perm hN.ents hent
    · rw [getK_setK_other hz, getK_cons'] at hn
      by_cases hzn : Y.nx = z
      · rw [if_pos hzn] at hn
        obtain rfl := Option.some.inj hn
        subst hzn
        obtain ⟨a1, a2, a3, a4, a5, a6, a7, a8, a9, a10, a11⟩ := hnd
        have nodir : ∀ e ∈ Y.E, e.1 ≠ Y.nx := fun e he q => by
          obtain ⟨y1, h1, _⟩ := at_dir w he
          rw [q, hnx] at h1; cases h1
        have noref : ∀ e ∈ Y.E, e.2.2.1 ≠ Y.nx := fun e he q => by
          obtain ⟨y1, h1⟩ := at_ref w he
          rw [q, hnx] at h1; cases h1
        refine ⟨Y.newN x, at_app_new hnx rfl _ _, a1, a2, a3, a4, a5, a6, a7, a8, ?_, ?_, fun hk e he hez => ?_⟩
        · rw [a9]
          show List.Perm [] (entsOf (Y.E ++ [(d, s, Y.nx, ())]) Y.nx)
          rw [entsOf_app, entsOf_ne _ _ _ _ hdn, List.append_nil]
          unfold entsOf
          rw [List.filter_eq_nil_iff.2 fun e he => by simpa [ofD] using nodir e he]
          exact List.Perm.refl _
        · rw [a10]
          unfold UpY.links
          rw [if_neg hn1]
          show (1 : Int) = ((Y.E ++ [(d, s, Y.nx, ())]).countP (toR Y.nx) : Int)
          rw [cnt_app, if_pos rfl, List.countP_eq_zero.2 fun e he => by simpa [toR] using noref e he]; rfl
        · rw [a11 hk]
          rcases List.mem_append.1 he with he | he
          · exact absurd hez (noref e he)
          · have : e = (d, s, Y.nx, ()) := by simpa using he
            rw [this]
      · rw [if_neg hzn] at hn
        obtain ⟨yz, h1, h2⟩ := hr.nodes z n hn
        refine ⟨yz, at_app_old h1 _ _, old (Ne.symm hzn) h2 _ rfl rfl rfl ?_⟩
        rw [entsOf_app, entsOf_ne _ _ _ _ (Ne.symm hz), List.append_nil]
        exact h2.ents
theorem RepY.link (hr : RepY L Y) {d r : Int} {s : ByteArray} {m n : LNode} {y yr : NoD} (hg : getK L d = some m) (hy : Y.at d = some y) (hN : RepN Y d m y) (hent : getK m.ents s = none) (hgr : getK L r = some n) (hyr : Y.at r = some yr) (hNr : RepN Y r n yr) (hk : n.kind ≠ 1) (hdr : d ≠ r) (hr1 : r ≠ 1) :
    RepY (setK (setK L d { m with ents := putK m.ents s r }) r { n with links := n.links + 1 }) { Y with E := Y.E ++ [(d, s, r, ())] } := by
  have old : ∀ {z : Int} {mz : LNode} {yz : NoD}, z ≠ r → RepN Y z mz yz → ∀ (m' : LNode), m' = { mz with ents := m'.ents, up := m'.up, links := m'.links } → m'.links = mz.links → m'.up = mz.up → m'.ents.Perm (entsOf (Y.E ++ [(d, s, r, ())]) z) → RepN { Y with E := Y.E ++ [(d, s, r, ())] } z m' yz := fun {z mz yz} hz hN m' hm hl hu he => by
    refine hN.turn hm he ?_ ?_
    · rw [hl, hN.links]
      unfold UpY.links
      have := cnt_app Y.E d s r z
      rw [if_neg (Ne.symm hz)] at this
      show _ = if z = 1 then (1 : Int) else ((Y.E ++ [(d, s, r, ())]).countP (toR z) : Int)
      rw [this]; rfl
    · intro hk e he hez
      rw [hu]
      rcases List.mem_append.1 he with he | he
      · exact hN.up hk e he hez
      · have : e = (d, s, r, ()) := by simpa using he
        subst this
        exact absurd hez (Ne.symm hz)
  refine ⟨by rw [setK_keys, setK_keys]; exact hr.keys, fun z n' hn => ?_⟩
  by_cases hz : z = r
  · subst hz
    rw [getK_setK_self (m := n) (by rw [getK_setK_other (Ne.symm hdr)]; exact hgr)] at hn
    obtain rfl := Option.some.inj hn
    refine ⟨yr, hyr, hNr.turn rfl ?_ ?_ fun h => absurd h hk⟩
    · show n.ents.Perm (entsOf (Y.E ++ [(d, s, z, ())]) z)
      rw [entsOf_app, entsOf_ne _ _ _ _ hdr, List.append_nil]
      exact hNr.ents
    · show n.links + 1 = _
      rw [hNr.links]
      unfold UpY.links
      rw [if_neg hr1, if_neg hr1]
      show _ = ((Y.E ++ [(d, s, z, ())]).countP (toR z) : Int)
      rw [cnt_app, if_pos rfl]; rfl
  · rw [getK_setK_other hz] at hn
    by_cases hd : z = d
    · subst hd
      rw [getK_setK_self hg] at hn
      obtain rfl := Option.some.inj hn
      refine ⟨y, hy, old hz hN _ rfl rfl rfl ?_⟩
      rw [entsOf_app, entsOf_eq]
      exact putK_perm hN.ents hent
    · rw [getK_setK_other hd] at hn
      obtain ⟨yz, h1, h2⟩ := hr.nodes z n' hn
      refine ⟨yz, h1, old hz h2 _ rfl rfl rfl ?_⟩
      rw [entsOf_app, entsOf_ne _ _ _ _ (Ne.symm hd), List.append_nil]
      exact h2.ents
theorem RepY.move (hr : RepY L Y) (w : Y.Wf) {d to : Int} {s now : ByteArray} {e : EnD} (he : Y.ent d s = some e) {L' : List (Int × LNode)} (hk : L'.map (·.1) = L.map (·.1))
    (h : ∀ z n', getK L' z = some n' → ∃ n, getK L z = some n ∧ n' = { n with ents := n'.ents, up := n'.up } ∧ (z ≠ e.2.2.1 → n'.up = n.up) ∧ (z = e.2.2.1 → n.kind = 1 → n'.up = to) ∧ n'.ents.Perm (if z = to then putK (if z = d then delK n.ents s else n.ents) now e.2.2.1 else if z = d then delK n.ents s else n.ents))
    (hto : ∀ n, getK L to = some n → getK (if to = d then delK n.ents s else n.ents) now = none) :
    RepY L' { Y with E := (Y.E.filter fun e => !isE d s e) ++ [(to, now, e.2.2.1, ())] } := by
  refine ⟨by rw [hk]; exact hr.keys, fun z n' hn => ?_⟩
  obtain ⟨n, hg, hm, hu1, hu2, hp⟩ := h z n' hn
  obtain ⟨y, hy, hN⟩ := hr.nodes z n hg
  have hcnt : ((Y.E.filter fun e => !isE d s e) ++ [(to, now, e.2.2.1, ())]).countP (toR z) = Y.E.countP (toR z) := by
    rw [cnt_app]; exact cnt_del w he z
  refine ⟨y, hy, hN.turn ?_ (hp.trans ?_) ?_ ?_⟩
  · rw [hm]
  · show (if z = to then _ else _ : List (ByteArray × Int)).Perm (entsOf ((Y.E.filter fun e => !isE d s e) ++ [(to, now, e.2.2.1, ())]) z)
    rw [entsOf_app]
    have base : (if z = d then delK n.ents s else n.ents).Perm (entsOf (Y.E.filter fun e => !isE d s e) z) := by
      by_cases hzd : z = d
      · subst hzd
        rw [if_pos rfl, entsOf_del_eq]
        exact delK_perm hN.ents
      · rw [if_neg hzd, entsOf_del_ne _ _ _ _ (Ne.symm hzd)]
        exact hN.ents
    by_cases hzt : z = to
    · subst hzt
      rw [if_pos rfl, entsOf_eq]
      exact putK_perm base (hto n hg)
    · rw [if_neg hzt, entsOf_ne _ _ _ _ (Ne.symm hzt), List.append_nil]
      exact base
  · rw [hm]
    show n.links = _
    rw [hN.links]
    unfold UpY.links
    show _ = if z = 1 then (1 : Int) else (((Y.E.filter fun e => !isE d s e) ++ [(to, now, e.2.2.1, ())]).countP (toR z) : Int)
    rw [hcnt]
  · intro hkd e' he' hez
    rcases List.mem_append.1 he' with he' | he'
    · have he1 := (List.mem_filter.1 he').1
      by_cases hze : z = e.2.2.1
      · -- the directory's one entry is the one that went
        exfalso
        obtain ⟨e1, _, _⟩ := ent_mem he
        have hd1 : Y.dirE e.2.2.1 = 0 := dirE_zero.2 ⟨y, by rw [← hze]; exact hy, by rw [← hN.kind]; exact hkd⟩
        have h1 := w.one e e1 hd1
        have h2 := cnt_del w he e.2.2.1
        rw [if_pos rfl, h1] at h2
        have h3 : (Y.E.filter fun e => !isE d s e).countP (toR e.2.2.1) = 0 := by omega
        rw [List.countP_eq_zero] at h3
        exact h3 e' he' (by simp [toR, hez, hze])
      · rw [hu1 hze]
        exact hN.up hkd e' he1 hez
    · have : e' = (to, now, e.2.2.1, ()) := by simpa using he'
      subst this
      exact hu2 hez.symm hkd
theorem getK_delK_no {l : List (ByteArray × Int)} {s x : ByteArray} (h : getK l x = none) : getK (delK l s) x = none := getK_none.2 fun p hp => getK_none.1 h p (List.mem_filter.1 hp).1
theorem RepY.moved (hr : RepY L Y) (w : Y.Wf) {d to : Int} {s now : ByteArray} {e : EnD} {m t n : LNode} (he : Y.ent d s = some e) (hg : getK L d = some m) (ht : getK L to = some t) (hn : getK L e.2.2.1 = some n) (h0 : getK t.ents now = none) (hx1 : e.2.2.1 ≠ d) (hx2 : e.2.2.1 ≠ to) :
    ∃ m6, getK (setK L d { m with ents := delK m.ents s }) to = some m6 ∧ m6.blk = t.blk ∧ m6.kind = t.kind ∧ m6.ents.length ≤ t.ents.length ∧
      getK (setK (setK L d { m with ents := delK m.ents s }) to { m6 with ents := putK m6.ents now e.2.2.1 }) e.2.2.1 = some n ∧
      RepY (if n.kind = 1 then setK (setK (setK L d { m with ents := delK m.ents s }) to { m6 with ents := putK m6.ents now e.2.2.1 }) e.2.2.1 { n with up := to } else setK (setK L d { m with ents := delK m.ents s }) to { m6 with ents := putK m6.ents now e.2.2.1 }) { Y with E := (Y.E.filter fun e => !isE d s e) ++ [(to, now, e.2.2.1, ())] } := by
  have hm6 : ∃ m6, getK (setK L d { m with ents := delK m.ents s }) to = some m6 ∧ m6 = (if to = d then { m with ents := delK m.ents s } else t) := by
    by_cases htd : to = d
    · subst htd
      exact ⟨_, getK_setK_self hg, by rw [if_pos rfl]⟩
    · exact ⟨t, by rw [getK_setK_other htd]; exact ht, by rw [if_neg htd]⟩
  obtain ⟨m6, h6, e6⟩ := hm6
  have hmt : to = d → m = t := fun q => by
    subst q
    rw [hg] at ht
    exact Option.some.inj ht
  have h6e : m6.ents = if to = d then delK t.ents s else t.ents := by
    rw [e6]
    by_cases htd : to = d
    · rw [if_pos htd, if_pos htd, hmt htd]
    · rw [if_neg htd, if_neg htd]
  have h6s : m6 = { t with ents := m6.ents } := by
    rw [e6]
    by_cases htd : to = d
    · rw [if_pos htd, hmt htd]
    · rw [if_neg htd]
  have hxn : getK (setK (setK L d { m with ents := delK m.ents s }) to { m6 with ents := putK m6.ents now e.2.2.1 }) e.2.2.1 = some n := by
    rw [getK_setK_other hx2, getK_setK_other hx1]; exact hn
  refine ⟨m6, h6, by rw [h6s], by rw [h6s], ?_, hxn, ?_⟩
  · rw [h6e]
    split
    · exact List.length_filter_le ..
    · exact Nat.le_refl _
  refine hr.move w he ?_ (fun z n' hz => ?_) fun q hq => ?_
  · split
    · rw [setK_keys, setK_keys, setK_keys]
    · rw [setK_keys, setK_keys]
  · -- each node
    have two : ∀ n'', getK (setK (setK L d { m with ents := delK m.ents s }) to { m6 with ents := putK m6.ents now e.2.2.1 }) z = some n'' → ∃ q, getK L z = some q ∧ n'' = { q with ents := n''.ents } ∧ n''.ents.Perm (if z = to then putK (if z = d then delK q.ents s else q.ents) now e.2.2.1 else if z = d then delK q.ents s else q.ents) := fun n'' hz => by
      by_cases hzt : z = to
      · subst hzt
        rw [getK_setK_self h6] at hz
        obtain rfl := Option.some.inj hz
        refine ⟨t, ht, by simp only; rw [h6s], ?_⟩
        simp only [if_true]
        rw [h6e]
      · rw [getK_setK_other hzt] at hz
        by_cases hzd : z = d
        · subst hzd
          rw [getK_setK_self hg] at hz
          obtain rfl := Option.some.inj hz
          exact ⟨m, hg, rfl, by rw [if_neg hzt, if_pos rfl]⟩
        · rw [getK_setK_other hzd] at hz
          exact ⟨n'', hz, rfl, by rw [if_neg hzt, if_neg hzd]⟩
    by_cases hk : n.kind = 1
    · rw [if_pos hk] at hz
      by_cases hzx : z = e.2.2.1
      · subst hzx
        rw [getK_setK_self hxn] at hz
        obtain rfl := Option.some.inj hz
        exact ⟨n, hn, rfl, fun q => absurd rfl q, fun _ _ => rfl, by rw [if_neg hx2, if_neg hx1]⟩
      · rw [getK_setK_other hzx] at hz
        obtain ⟨q, h1, h2, h3⟩ := two n' hz
        exact ⟨q, h1, by rw [h2], fun _ => by rw [h2], fun h => absurd h hzx, h3⟩
    · rw [if_neg hk] at hz
      obtain ⟨q, h1, h2, h3⟩ := two n' hz
      refine ⟨q, h1, by rw [h2], fun _ => by rw [h2], fun h hk2 => ?_, h3⟩
      subst h
      rw [hn] at h1
      obtain rfl := Option.some.inj h1
      exact absurd hk2 hk
  · rw [ht] at hq
    obtain rfl := Option.some.inj hq
    split
    · exact getK_delK_no h0
    · exact h0
end
end Go.Lm

namespace Go.Proofs
open Go Go.Lm Go.RowKit
set_option maxRecDepth 1000000
abbrev quTy : Ty := .pair (.int .i64) (.pair (.int .i64) .unit)
abbrev Inv (_ : Base) : Prop := True
def tyTab : List (Nat × Ty) := [(36, noTy), (71, xaTy), (9, .str), (5, .u8), (54, xeTy), (119, enTy), (3, .int .i64)]
theorem beq_no {a b : Int} (h : (a != b) = true) : (a == b) = false := by simpa [bne] using h
theorem beq_yes {a b : Int} (h : (a != b) = false) : (a == b) = true := by simpa [bne] using h
theorem only {P : LNode → Prop} {L : List (Int × LNode)} {r : Int} {m : LNode} (h : getK L r = some m) (k : P m) : ∀ m', getK L r = some m' → P m' := fun m' h' => by
  rw [h] at h'
  obtain rfl := Option.some.inj h'
  exact k
theorem no_some {P : Prop} {L : List (Int × LNode)} {r : Int} {m : LNode} (h : getK L r = some m) : getK L r = none → P := fun h' => by rw [h] at h'; cases h'
def c_at : Ct
  | [.v (.c (.p 0 0)), .v (.c (.k (.int .i64 ref)))], [.up ⟨84, 81, 3, 9⟩ q1 q2 mb nx L], Q => (getK L ref = none → Q (.tup [.c (.k (.pointer none)), .c (.k (.int .i64 1))]) [.up ⟨84, 81, 3, 9⟩ q1 q2 mb nx L]) ∧ (∀ m, getK L ref = some m → NodeOk m → Q (.tup [.c (.kl 0 (.pointer (some ⟨m.blk, 0, none⟩))), .c (.k (.int .i64 0))]) [.up ⟨84, 81, 3, 9⟩ q1 q2 mb nx L])
  | _, _, _ => False
noncomputable def XU11 : Vx := { P := Tryz.prog, ct := [], ty := tyTab, hold := [] }
theorem XU11_ok : CtOk Inv Tryz.prog XU11.ct := CtOk.nil _ _
def vc_at : (Int) → (Int) → (Int) → (Nat) → (Int) → (List (Int × LNode)) → (SV → List HO → Prop) → Prop :=
 fun ref q1 q2 mb nx L Q => inK .i64 ref → inK .i64 q1 → inK .i64 q2 → inK .i64 nx → Value.map (some mb) = Value.map (some mb) ∧ (getK L ref = none → Q (.tup [.c (.k (.pointer none)), .c (.k (.int .i64 1))]) [.up ⟨84, 81, 3, 9⟩ q1 q2 mb nx 
 L]) ∧ ∀ (m : LNode), getK L ref = some m → NodeOk m → Q (SV.tup [S1.c (Cl.kl (0 : Nat) (Value.pointer (some (Addr.mk m.blk (0 : Nat) none)))), .c (.k (.int .i64 0))]) [.up ⟨84, 81, 3, 9⟩ q1 q2 mb nx L]
theorem vc_at_eq (ref : Int) (q1 : Int) (q2 : Int) (mb : Nat) (nx : Int) (L : List (Int × LNode)) (Q : SV → List HO → Prop) : vFun XU11 ⟨[], []⟩ Tryz.f71 [.v (.c (.p 0 0)), .int ref] [.up ⟨84, 81, 3, 9⟩ q1 q2 mb nx L] Q = vc_at ref q1 q2 mb nx L Q := by kernel_rfl
theorem w_at : ∀ args H Q, c_at args H Q → Wp Inv Tryz.prog 71 args H Q := by
  intro args H Q h
  unfold c_at at h
  split at h
  rotate_left
  · exact h.elim
  rename_i ref q1 q2 mb nx L
  refine Wp.enter (X := XU11) XU11_ok ⟨[], []⟩ (fn := Tryz.f71) (by kernel_rfl) ?_
  have hv := vc_at_eq ref q1 q2 mb nx L Q
  rw [show vFun _ _ _ _ _ _ = _ from hv]
  unfold vc_at
  intro _ _ _ _
  exact ⟨rfl, h.1, h.2⟩
def c_dir : Ct
  | [.v (.c (.p 0 0)), .v (.c (.k (.int .i64 ref)))], [.up ⟨84, 81, 3, 9⟩ q1 q2 mb nx L], Q => (getK L ref = none → Q (.tup [.c (.k (.pointer none)), .c (.k (.int .i64 1))]) [.up ⟨84, 81, 3, 9⟩ q1 q2 mb nx L]) ∧ (∀ m, getK L ref = some m → NodeOk m → br (m.kind == 1) (Q (.tup [.c (.kl 0 (.pointer (some ⟨m.blk, 0, none⟩))), .c (.k (.int .i64 0))]) [.up ⟨84, 81, 3, 9⟩ q1 q2 mb nx L]) (Q (.tup [.c (.kl 0 (.pointer (some ⟨m.blk, 0, none⟩))), .c (.k (.int .i64 24))]) [.up ⟨84, 81, 3, 9⟩ q1 q2 mb nx L]))
  | _, _, _ => False
noncomputable def XU12 : Vx := { P := Tryz.prog, ct := (71, c_at) :: XU11.ct, ty := tyTab, hold := [] }
theorem XU12_ok : CtOk Inv Tryz.prog XU12.ct := CtOk.cons w_at (XU11_ok)
def vc_dir : (Int) → (Int) → (Int) → (Nat) → (Int) → (List (Int × LNode)) → (SV → List HO → Prop) → Prop :=
 fun ref q1 q2 mb nx L Q => inK .i64 ref → (getK L ref = none → inK .i64 1 → Q (.tup [.c (.k (.pointer none)), .c (.k (.int .i64 1))]) [.up ⟨84, 81, 3, 9⟩ q1 q2 mb nx L]) ∧ ∀ (m : LNode), getK L ref = some m → NodeOk m → inK .i64 0 → ∃ r 
 m_1, getK L r = some m_1 ∧ m_1.blk = m.blk ∧ (NodeOk m_1 → br (m_1.kind != 1) (Q (SV.tup [S1.c (Cl.kl (0 : Nat) (Value.pointer (some (Addr.mk m.blk (0 : Nat) none)))), .c (.k (.int .i64 24))]) [.up ⟨84, 81, 3, 9⟩ q1 q2 mb nx L]) (Q (SV.tup 
 [S1.c (Cl.kl (0 : Nat) (Value.pointer (some (Addr.mk m.blk (0 : Nat) none)))), .c (.k (.int .i64 0))]) [.up ⟨84, 81, 3, 9⟩ q1 q2 mb nx L]))
theorem vc_dir_eq (ref : Int) (q1 : Int) (q2 : Int) (mb : Nat) (nx : Int) (L : List (Int × LNode)) (Q : SV → List HO → Prop) : vFun XU12 ⟨[], []⟩ Tryz.f58 [.v (.c (.p 0 0)), .int ref] [.up ⟨84, 81, 3, 9⟩ q1 q2 mb nx L] Q = vc_dir ref q1 q2 mb nx L Q := by kernel_rfl
theorem w_dir : ∀ args H Q, c_dir args H Q → Wp Inv Tryz.prog 58 args H Q := by
  intro args H Q h
  unfold c_dir at h
  split at h
  rotate_left
  · exact h.elim
  rename_i ref q1 q2 mb nx L
  refine Wp.enter (X := XU12) XU12_ok ⟨[], []⟩ (fn := Tryz.f58) (by kernel_rfl) ?_
  have hv := vc_dir_eq ref q1 q2 mb nx L Q
  rw [show vFun _ _ _ _ _ _ = _ from hv]
  unfold vc_dir
  intro _
  refine ⟨fun hn _ => h.1 hn, fun m hg hm _ => ⟨_, m, hg, rfl, fun _ => ?_⟩⟩
  have h2 := h.2 m hg hm
  refine br_of (fun hc => ?_) (fun hc => ?_)
  · rw [beq_no hc] at h2; exact h2
  · rw [beq_yes hc] at h2; exact h2
def c_file : Ct
  | [.v (.c (.p 0 0)), .v (.c (.k (.int .i64 ref)))], [.up ⟨84, 81, 3, 9⟩ q1 q2 mb nx L], Q => (getK L ref = none → Q (.tup [.c (.k (.pointer none)), .c (.k (.int .i64 1))]) [.up ⟨84, 81, 3, 9⟩ q1 q2 mb nx L]) ∧ (∀ m, getK L ref = some m → NodeOk m → br (m.kind == 1) (Q (.tup [.c (.kl 0 (.pointer (some ⟨m.blk, 0, none⟩))), .c (.k (.int .i64 25))]) [.up ⟨84, 81, 3, 9⟩ q1 q2 mb nx L]) (br (m.kind == 2) (Q (.tup [.c (.kl 0 (.pointer (some ⟨m.blk, 0, none⟩))), .c (.k (.int .i64 0))]) [.up ⟨84, 81, 3, 9⟩ q1 q2 mb nx L]) (Q (.tup [.c (.kl 0 (.pointer (some ⟨m.blk, 0, none⟩))), .c (.k (.int .i64 1))]) [.up ⟨84, 81, 3, 9⟩ q1 q2 mb nx L])))
  | _, _, _ => False
noncomputable def XU13 : Vx := { P := Tryz.prog, ct := (58, c_dir) :: XU12.ct, ty := tyTab, hold := [] }
theorem XU13_ok : CtOk Inv Tryz.prog XU13.ct := CtOk.cons w_dir (XU12_ok)
def vc_file : (Int) → (Int) → (Int) → (Nat) → (Int) → (List (Int × LNode)) → (SV → List HO → Prop) → Prop :=
 fun ref q1 q2 mb nx L Q => inK .i64 ref → (getK L ref = none → inK .i64 1 → Q (.tup [.c (.k (.pointer none)), .c (.k (.int .i64 1))]) [.up ⟨84, 81, 3, 9⟩ q1 q2 mb nx L]) ∧ ∀ (m : LNode), getK L ref = some m → NodeOk m → inK .i64 0 → ∃ r 
 m_1, getK L r = some m_1 ∧ m_1.blk = m.blk ∧ (NodeOk m_1 → br (m_1.kind == 1) (Q (SV.tup [S1.c (Cl.kl (0 : Nat) (Value.pointer (some (Addr.mk m.blk (0 : Nat) none)))), .c (.k (.int .i64 25))]) [.up ⟨84, 81, 3, 9⟩ q1 q2 mb nx L]) (∃ r m_2, 
 getK L r = some m_2 ∧ m_2.blk = m.blk ∧ (NodeOk m_2 → br (m_2.kind != 2) (Q (SV.tup [S1.c (Cl.kl (0 : Nat) (Value.pointer (some (Addr.mk m.blk (0 : Nat) none)))), .c (.k (.int .i64 1))]) [.up ⟨84, 81, 3, 9⟩ q1 q2 mb nx L]) (Q (SV.tup [S1.c 
 (Cl.kl (0 : Nat) (Value.pointer (some (Addr.mk m.blk (0 : Nat) none)))), .c (.k (.int .i64 0))]) [.up ⟨84, 81, 3, 9⟩ q1 q2 mb nx L]))))
theorem vc_file_eq (ref : Int) (q1 : Int) (q2 : Int) (mb : Nat) (nx : Int) (L : List (Int × LNode)) (Q : SV → List HO → Prop) : vFun XU13 ⟨[], []⟩ Tryz.f56 [.v (.c (.p 0 0)), .int ref] [.up ⟨84, 81, 3, 9⟩ q1 q2 mb nx L] Q = vc_file ref q1 q2 mb nx L Q := by kernel_rfl
theorem w_file : ∀ args H Q, c_file args H Q → Wp Inv Tryz.prog 56 args H Q := by
  intro args H Q h
  unfold c_file at h
  split at h
  rotate_left
  · exact h.elim
  rename_i ref q1 q2 mb nx L
  refine Wp.enter (X := XU13) XU13_ok ⟨[], []⟩ (fn := Tryz.f56) (by kernel_rfl) ?_
  have hv := vc_file_eq ref q1 q2 mb nx L Q
  rw [show vFun _ _ _ _ _ _ = _ from hv]
  unfold vc_file
  intro _
  refine ⟨fun hn _ => h.1 hn, fun m hg hm _ => ⟨_, m, hg, rfl, fun _ => ?_⟩⟩
  have h2 := h.2 m hg hm
  refine br_of (fun hc => ?_) (fun hc => ⟨_, m, hg, rfl, fun _ => ?_⟩)
  · rw [hc] at h2; exact h2
  · rw [hc] at h2
    refine br_of (fun hd => ?_) (fun hd => ?_)
    · rw [beq_no hd] at h2; exact h2
    · rw [beq_yes hd] at h2; exact h2
def c_entry : Ct
  | [.v (.c (.p 0 0)), .v (.c (.k (.string s))), .v (.c (.k (.int .i64 ref)))], [.up ⟨84, 81, 3, 9⟩ q1 q2 mb nx L], Q => ∃ m, getK L ref = some m ∧ Q (.v (.agg [.k (.string s), .k (.int .i64 m.kind), .k (.int .i64 ref)])) [.up ⟨84, 81, 3, 9⟩ q1 q2 mb nx L]
  | _, _, _ => False
noncomputable def XU14 : Vx := { P := Tryz.prog, ct := (56, c_file) :: XU13.ct, ty := tyTab, hold := [] }
theorem XU14_ok : CtOk Inv Tryz.prog XU14.ct := CtOk.cons w_file (XU13_ok)
def vc_entry : (ByteArray) → (Int) → (Int) → (Int) → (Nat) → (Int) → (List (Int × LNode)) → (SV → List HO → Prop) → Prop :=
 fun s ref q1 q2 mb nx L Q => ByteArray.size s ≤ 9223372036854775807 → inK .i64 ref → inK .i64 q1 → inK .i64 q2 → inK .i64 nx → Value.map (some mb) = Value.map (some mb) ∧ (getK L ref = none → False) ∧ ∀ (m : LNode), getK L ref = some m → 
 NodeOk m → ∃ r m_1, getK L r = some m_1 ∧ m_1.blk = m.blk ∧ (NodeOk m_1 → Q (SV.v (S1.agg [.k (.string s), .k (.int .i64 m_1.kind), .k (.int .i64 ref)])) [.up ⟨84, 81, 3, 9⟩ q1 q2 mb nx L])
theorem vc_entry_eq (s : ByteArray) (ref : Int) (q1 : Int) (q2 : Int) (mb : Nat) (nx : Int) (L : List (Int × LNode)) (Q : SV → List HO → Prop) : vFun XU14 ⟨[], []⟩ Tryz.f67 [.v (.c (.p 0 0)), .str s, .int ref] [.up ⟨84, 81, 3, 9⟩ q1 q2 mb nx L] Q = vc_entry s ref q1 q2 mb nx L Q := by kernel_rfl
theorem w_entry : ∀ args H Q, c_entry args H Q → Wp Inv Tryz.prog 67 args H Q := by
  intro args H Q h
  unfold c_entry at h
  split at h
  rotate_left
  · exact h.elim
  rename_i s ref q1 q2 mb nx L
  refine Wp.enter (X := XU14) XU14_ok ⟨[], []⟩ (fn := Tryz.f67) (by kernel_rfl) ?_
  have hv := vc_entry_eq s ref q1 q2 mb nx L Q
  rw [show vFun _ _ _ _ _ _ = _ from hv]
  unfold vc_entry
  intro _ _ _ _ _
  obtain ⟨m, hg, hq⟩ := h
  refine ⟨rfl, fun hn => (by rw [hg] at hn; cases hn), fun m' hg' _ => ⟨_, m', hg', rfl, fun _ => ?_⟩⟩
  rw [hg] at hg'
  obtain rfl := Option.some.inj hg'
  exact hq
def c_stat0 : Ct
  | [.v (.c (.p 0 0)), .v (.c (.k (.int .i64 ref)))], [.up ⟨84, 81, 3, 9⟩ q1 q2 mb nx L], Q => ∃ Y : UpY, (q1 = Y.q1 ∧ q2 = Y.q2 ∧ nx = Y.nx ∧ RepY L Y) ∧ (Y.Ok) ∧ ∀ o, UpIs ⟨84, 81, 3, 9⟩ (Y) o → Q (.tup [.agg (stTy.cells (Y.statD ref)), .c (.k (.int .i64 (Y.atE ref)))]) [o]
  | _, _, _ => False
noncomputable def XU15 : Vx := { P := Tryz.prog, ct := (67, c_entry) :: XU14.ct, ty := tyTab, hold := [] }
theorem XU15_ok : CtOk Inv Tryz.prog XU15.ct := CtOk.cons w_entry (XU14_ok)
def vc_stat0 : (Int) → (Int) → (Int) → (Nat) → (Int) → (List (Int × LNode)) → (SV → List HO → Prop) → Prop :=
 fun ref q1 q2 mb nx L Q => inK .i64 ref → (getK L ref = none → inK .i64 1 → Q (SV.tup [S1.agg [.k (.int .i64 0), .k (.int .i64 0), .k (.int .i64 0), .k (.int .i64 0), .k (.int .i64 0), .k (.int .i64 0)], .c (.k (.int .i64 1))]) [.up ⟨84, 
 81, 3, 9⟩ q1 q2 mb nx L]) ∧ ∀ (m : LNode), getK L ref = some m → NodeOk m → inK .i64 0 → ∃ r m_1, getK L r = some m_1 ∧ m_1.blk = m.blk ∧ (NodeOk m_1 → ∃ r m_2, getK L r = some m_2 ∧ m_2.blk = m.blk ∧ (NodeOk m_2 → ∃ r m_3, getK L r = some 
 m_3 ∧ m_3.blk = m.blk ∧ (NodeOk m_3 → ∃ r m_4, getK L r = some m_4 ∧ m_4.blk = m.blk ∧ (NodeOk m_4 → List.length m_4.data ≤ 9223372036854775807 → ∃ r m_5, getK L r = some m_5 ∧ m_5.blk = m.blk ∧ (NodeOk m_5 → inK .i64 ((↑(List.length 
 m_4.data) : Int) + (↑(ByteArray.size m_5.target) : Int)) ∧ ∃ r m_6, getK L r = some m_6 ∧ m_6.blk = m.blk ∧ (NodeOk m_6 → ∃ r m, getK L r = some m ∧ m.vi = m_6.vi ∧ (NodeOk m → inK .i64 ((↑(List.length m_4.data) : Int) + (↑(ByteArray.size 
 m_5.target) : Int) + (↑(List.length m.ents) : Int)) ∧ Q (SV.tup [S1.agg [.k (.int .i64 m_1.kind), .k (.int .i64 m_2.mode), .k (.int .i64 m_2.uid), .k (.int .i64 m_2.gid), .k (.int .i64 m_3.links), .k (.int .i64 ((↑(List.length m_4.data) : 
 Int) + (↑(ByteArray.size m_5.target) : Int) + (↑(List.length m.ents) : Int)))], .c (.k (.int .i64 0))]) [.up ⟨84, 81, 3, 9⟩ q1 q2 mb nx L])))))))
theorem vc_stat0_eq (ref : Int) (q1 : Int) (q2 : Int) (mb : Nat) (nx : Int) (L : List (Int × LNode)) (Q : SV → List HO → Prop) : vFun XU15 ⟨[], []⟩ Tryz.f33 [.v (.c (.p 0 0)), .int ref] [.up ⟨84, 81, 3, 9⟩ q1 q2 mb nx L] Q = vc_stat0 ref q1 q2 mb nx L Q := by kernel_rfl
theorem w_stat0 : ∀ args H Q, c_stat0 args H Q → Wp Inv Tryz.prog 33 args H Q := by
  intro args H Q h
  unfold c_stat0 at h
  split at h
  rotate_left
  · exact h.elim
  rename_i ref q1 q2 mb nx L
  refine Wp.enter (X := XU15) XU15_ok ⟨[], []⟩ (fn := Tryz.f33) (by kernel_rfl) ?_
  have hv := vc_stat0_eq ref q1 q2 mb nx L Q
  rw [show vFun _ _ _ _ _ _ = _ from hv]
  unfold vc_stat0
  obtain ⟨Y, ⟨rfl, rfl, rfl, hr⟩, hp, hq⟩ := h
  intro _
  rcases hr.both ref with ⟨hn, hy⟩ | ⟨m, y, hg, hy, hN⟩
  · refine ⟨fun _ _ => ?_, fun m hg => ?_⟩
    · refine Eq.mp (congrArg (fun z => Q z _) ?_) (hq _ ⟨rfl, rfl, rfl, rfl, hr⟩)
      simp only [UpY.statD, UpY.atE, hy]; rfl
    · rw [hn] at hg; cases hg
  · have hl := mayN_lens (hp.wf.nm y (at_mem hy).1).2.2
    have hen := hp.en
    have hel := ents_len hN
    have hcp : Y.E.countP (ofD ref) ≤ Y.E.length := List.countP_le_length
    refine ⟨no_some hg, only hg fun _ _ => ⟨_, m, hg, rfl, fun _ => ⟨_, m, hg, rfl, fun _ => ⟨_, m, hg, rfl, fun _ => ⟨_, m, hg, rfl, fun _ _ => ⟨_, m, hg, rfl, fun _ => ⟨?_, _, m, hg, rfl, fun _ => ⟨_, m, hg, rfl, fun _ => ⟨?_, ?_⟩⟩⟩⟩⟩⟩⟩⟩⟩
    · rw [hN.data, hN.target]; unfold inK; omega
    · rw [hN.data, hN.target, hel]; unfold inK; omega
    · refine Eq.mp (congrArg (fun z => Q z _) ?_) (hq _ ⟨rfl, rfl, rfl, rfl, hr⟩)
      simp only [UpY.statD, UpY.atE, hy]
      rw [hN.kind, hN.mode, hN.uid, hN.gid, hN.links, hN.data, hN.target, hel]; rfl
def c_stat : Ct
  | [.v (.c (.p 0 0)), .v (.c (.k (.int .i64 ref)))], [.ab (.upr ⟨84, 81, 3, 9⟩ Y)], Q => (Y.Ok) ∧ Q (.tup [.agg (stTy.cells (Y.statD ref)), .c (.k (.int .i64 (Y.atE ref)))]) [.ab (.upr ⟨84, 81, 3, 9⟩ (Y))]
  | _, _, _ => False
theorem w_stat : ∀ args H Q, c_stat args H Q → Wp Inv Tryz.prog 33 args H Q := by
  intro args H Q h
  unfold c_stat at h
  split at h
  · rename_i ref Y
    refine Wp.uprO fun mb L hr => w_stat0 _ _ _ ?_
    unfold c_stat0
    exact ⟨Y, ⟨rfl, rfl, rfl, hr⟩, h.1, fun o ho => ⟨o, _, _, rfl, ho, h.2⟩⟩
  · exact h.elim
def c_look0 : Ct
  | [.v (.c (.p 0 0)), .v (.c (.k (.int .i64 ref))), .v (.c (.k (.string s)))], [.up ⟨84, 81, 3, 9⟩ q1 q2 mb nx L], Q => ∃ Y : UpY, (q1 = Y.q1 ∧ q2 = Y.q2 ∧ nx = Y.nx ∧ RepY L Y) ∧ (Y.Ok) ∧ ∀ o, UpIs ⟨84, 81, 3, 9⟩ (Y) o → Q (.tup [.agg (xeTy.cells (Y.lookD ref s)), .c (.k (.int .i64 (Y.lookE ref s)))]) [o]
  | _, _, _ => False
noncomputable def XU16 : Vx := { P := Tryz.prog, ct := (33, c_stat) :: XU15.ct, ty := tyTab, hold := [] }
theorem XU16_ok : CtOk Inv Tryz.prog XU16.ct := CtOk.cons w_stat (XU15_ok)
def vc_look0 : (Int) → (ByteArray) → (Int) → (Int) → (Nat) → (Int) → (List (Int × LNode)) → (SV → List HO → Prop) → Prop :=
 fun ref s q1 q2 mb nx L Q => inK .i64 ref → ByteArray.size s ≤ 9223372036854775807 → (getK L ref = none → inK .i64 1 → Q (SV.tup [S1.agg [.k (.string (ByteArray.mk #[])), .k (.int .i64 0), .k (.int .i64 0)], .c (.k (.int .i64 1))]) [.up 
 ⟨84, 81, 3, 9⟩ q1 q2 mb nx L]) ∧ ∀ (m : LNode), getK L ref = some m → NodeOk m → br (m.kind == 1) (inK .i64 0 → ∃ r m_1, getK L r = some m_1 ∧ m_1.blk = m.blk ∧ (NodeOk m_1 → ∃ r m, getK L r = some m ∧ m.vi = m_1.vi ∧ (getK m.ents s = none 
 → Q (SV.tup [S1.agg [.k (.string (ByteArray.mk #[])), .k (.int .i64 0), .k (.int .i64 0)], .c (.k (.int .i64 20))]) [.up ⟨84, 81, 3, 9⟩ q1 q2 mb nx L]) ∧ ∀ (x : Int), getK m.ents s = some x → inK .i64 x → ∃ m, getK L x = some m ∧ 
 (ByteArray.size s ≤ 9223372036854775807 → inK .i64 m.kind → inK .i64 x → Q (SV.tup [S1.agg [.k (.string s), .k (.int .i64 m.kind), .k (.int .i64 x)], .c (.k (.int .i64 0))]) [.up ⟨84, 81, 3, 9⟩ q1 q2 mb nx L]))) (inK .i64 24 → Q (SV.tup 
 [S1.agg [.k (.string (ByteArray.mk #[])), .k (.int .i64 0), .k (.int .i64 0)], .c (.k (.int .i64 24))]) [.up ⟨84, 81, 3, 9⟩ q1 q2 mb nx L])
theorem vc_look0_eq (ref : Int) (s : ByteArray) (q1 : Int) (q2 : Int) (mb : Nat) (nx : Int) (L : List (Int × LNode)) (Q : SV → List HO → Prop) : vFun XU16 ⟨[], []⟩ Tryz.f22 [.v (.c (.p 0 0)), .int ref, .str s] [.up ⟨84, 81, 3, 9⟩ q1 q2 mb nx L] Q = vc_look0 ref s q1 q2 mb nx L Q := by kernel_rfl
theorem w_look0 : ∀ args H Q, c_look0 args H Q → Wp Inv Tryz.prog 22 args H Q := by
  intro args H Q h
  unfold c_look0 at h
  split at h
  rotate_left
  · exact h.elim
  rename_i ref s q1 q2 mb nx L
  refine Wp.enter (X := XU16) XU16_ok ⟨[], []⟩ (fn := Tryz.f22) (by kernel_rfl) ?_
  have hv := vc_look0_eq ref s q1 q2 mb nx L Q
  rw [show vFun _ _ _ _ _ _ = _ from hv]
  unfold vc_look0
  obtain ⟨Y, ⟨rfl, rfl, rfl, hr⟩, hp, hq⟩ := h
  intro _ _
  have fin : ∀ z, SV.tup [.agg (xeTy.cells (Y.lookD ref s)), .c (.k (.int .i64 (Y.lookE ref s)))] = z → Q z [.up ⟨84, 81, 3, 9⟩ Y.q1 Y.q2 mb Y.nx L] := fun z e => e ▸ hq _ ⟨rfl, rfl, rfl, rfl, hr⟩
  rcases hr.both ref with ⟨hn, hy⟩ | ⟨m, y, hg, hy, hN⟩
  · refine ⟨fun _ _ => fin _ ?_, fun m hg => ?_⟩
    · simp only [UpY.lookD, UpY.lookE, dirE_none hy]; rfl
    · rw [hn] at hg; cases hg
  · have hg2 := ent_get hp.wf hN s
    refine ⟨no_some hg, only hg fun _ => br_of (fun hc => fun _ => ⟨_, m, hg, rfl, fun _ => ⟨_, m, hg, rfl, fun h0 => ?_, fun x hx _ => ?_⟩⟩) (fun hc => fun _ => fin _ ?_)⟩
    · have hk : y.2.2.1 = 1 := by rw [← hN.kind]; exact eq_of_beq hc
      rw [hg2, Option.map_eq_none_iff] at h0
      refine fin _ ?_
      simp only [UpY.lookD, UpY.lookE, dirE_some hy, hk, h0]; rfl
    · have hk : y.2.2.1 = 1 := by rw [← hN.kind]; exact eq_of_beq hc
      rw [hg2] at hx
      obtain ⟨e, he, rfl⟩ := Option.map_eq_some_iff.1 hx
      obtain ⟨he1, _⟩ := ent_mem he
      rcases hr.both e.2.2.1 with ⟨_, hy2⟩ | ⟨m2, y2, hg3, hy2, hN2⟩
      · have := (hp.wf.ref e he1).2
        unfold UpY.atE at this
        rw [hy2] at this
        cases this
      · refine ⟨m2, hg3, fun _ _ _ => fin _ ?_⟩
        simp only [UpY.lookD, UpY.lookE, UpY.kindOf, dirE_some hy, hk, he, hy2]
        rw [hN2.kind]; rfl
    · have hk : ¬ y.2.2.1 = 1 := by rw [← hN.kind]; simpa using hc
      simp only [UpY.lookD, UpY.lookE, dirE_some hy, hk, if_false]; rfl
def c_look : Ct
  | [.v (.c (.p 0 0)), .v (.c (.k (.int .i64 ref))), .v (.c (.k (.string s)))], [.ab (.upr ⟨84, 81, 3, 9⟩ Y)], Q => (Y.Ok) ∧ Q (.tup [.agg (xeTy.cells (Y.lookD ref s)), .c (.k (.int .i64 (Y.lookE ref s)))]) [.ab (.upr ⟨84, 81, 3, 9⟩ (Y))]
  | _, _, _ => False
theorem w_look : ∀ args H Q, c_look args H Q → Wp Inv Tryz.prog 22 args H Q := by
  intro args H Q h
  unfold c_look at h
  split at h
  · rename_i ref s Y
    refine Wp.uprO fun mb L hr => w_look0 _ _ _ ?_
    unfold c_look0
    exact ⟨Y, ⟨rfl, rfl, rfl, hr⟩, h.1, fun o ho => ⟨o, _, _, rfl, ho, h.2⟩⟩
  · exact h.elim
def c_target0 : Ct
  | [.v (.c (.p 0 0)), .v (.c (.k (.int .i64 ref)))], [.up ⟨84, 81, 3, 9⟩ q1 q2 mb nx L], Q => ∃ Y : UpY, (q1 = Y.q1 ∧ q2 = Y.q2 ∧ nx = Y.nx ∧ RepY L Y) ∧ (Y.Ok) ∧ ∀ o, UpIs ⟨84, 81, 3, 9⟩ (Y) o → Q (.tup [.c (.k (.string (Y.targetD ref))), .c (.k (.int .i64 (Y.targetE ref)))]) [o]
  | _, _, _ => False
noncomputable def XU17 : Vx := { P := Tryz.prog, ct := (22, c_look) :: XU16.ct, ty := tyTab, hold := [] }
theorem XU17_ok : CtOk Inv Tryz.prog XU17.ct := CtOk.cons w_look (XU16_ok)
def vc_target0 : (Int) → (Int) → (Int) → (Nat) → (Int) → (List (Int × LNode)) → (SV → List HO → Prop) → Prop :=
 fun ref q1 q2 mb nx L Q => inK .i64 ref → (getK L ref = none → inK .i64 1 → Q (.tup [.c (.k (.string (ByteArray.mk #[]))), .c (.k (.int .i64 1))]) [.up ⟨84, 81, 3, 9⟩ q1 q2 mb nx L]) ∧ ∀ (m : LNode), getK L ref = some m → NodeOk m → inK 
 .i64 0 → ∃ r m_1, getK L r = some m_1 ∧ m_1.blk = m.blk ∧ (NodeOk m_1 → br (m_1.kind != 3) (Q (.tup [.c (.k (.string (ByteArray.mk #[]))), .c (.k (.int .i64 1))]) [.up ⟨84, 81, 3, 9⟩ q1 q2 mb nx L]) (∃ r m_2, getK L r = some m_2 ∧ m_2.blk = 
 m.blk ∧ (NodeOk m_2 → Q (.tup [.c (.k (.string m_2.target)), .c (.k (.int .i64 0))]) [.up ⟨84, 81, 3, 9⟩ q1 q2 mb nx L])))
theorem vc_target0_eq (ref : Int) (q1 : Int) (q2 : Int) (mb : Nat) (nx : Int) (L : List (Int × LNode)) (Q : SV → List HO → Prop) : vFun XU17 ⟨[], []⟩ Tryz.f97 [.v (.c (.p 0 0)), .int ref] [.up ⟨84, 81, 3, 9⟩ q1 q2 mb nx L] Q = vc_target0 ref q1 q2 mb nx L Q := by kernel_rfl
theorem w_target0 : ∀ args H Q, c_target0 args H Q → Wp Inv Tryz.prog 97 args H Q := by
  intro args H Q h
  unfold c_target0 at h
  split at h
  rotate_left
  · exact h.elim
  rename_i ref q1 q2 mb nx L
  refine Wp.enter (X := XU17) XU17_ok ⟨[], []⟩ (fn := Tryz.f97) (by kernel_rfl) ?_
  have hv := vc_target0_eq ref q1 q2 mb nx L Q
  rw [show vFun _ _ _ _ _ _ = _ from hv]
  unfold vc_target0
  obtain ⟨Y, ⟨rfl, rfl, rfl, hr⟩, hp, hq⟩ := h
  intro _
  have fin : ∀ z, SV.tup [.c (.k (.string (Y.targetD ref))), .c (.k (.int .i64 (Y.targetE ref)))] = z → Q z [.up ⟨84, 81, 3, 9⟩ Y.q1 Y.q2 mb Y.nx L] := fun z e => e ▸ hq _ ⟨rfl, rfl, rfl, rfl, hr⟩
  rcases hr.both ref with ⟨hn, hy⟩ | ⟨m, y, hg, hy, hN⟩
  · refine ⟨fun _ _ => fin _ ?_, fun m hg => ?_⟩
    · simp only [UpY.targetD, UpY.targetE, hy]
    · rw [hn] at hg; cases hg
  · refine ⟨no_some hg, only hg fun _ _ => ⟨_, m, hg, rfl, fun _ => br_of (fun hc => fin _ ?_) (fun hc => ⟨_, m, hg, rfl, fun _ => fin _ ?_⟩)⟩⟩
    · have hk : ¬ y.2.2.1 = 3 := by rw [← hN.kind]; simpa using hc
      simp only [UpY.targetD, UpY.targetE, hy, hk, if_false]
    · have hk : y.2.2.1 = 3 := by rw [← hN.kind]; simpa using hc
      simp only [UpY.targetD, UpY.targetE, hy, hk, if_true, hN.target]
def c_target : Ct
  | [.v (.c (.p 0 0)), .v (.c (.k (.int .i64 ref)))], [.ab (.upr ⟨84, 81, 3, 9⟩ Y)], Q => (Y.Ok) ∧ Q (.tup [.c (.k (.string (Y.targetD ref))), .c (.k (.int .i64 (Y.targetE ref)))]) [.ab (.upr ⟨84, 81, 3, 9⟩ (Y))]
  | _, _, _ => False
theorem w_target : ∀ args H Q, c_target args H Q → Wp Inv Tryz.prog 97 args H Q := by
  intro args H Q h
  unfold c_target at h
  split at h
  · rename_i ref Y
    refine Wp.uprO fun mb L hr => w_target0 _ _ _ ?_
    unfold c_target0
    exact ⟨Y, ⟨rfl, rfl, rfl, hr⟩, h.1, fun o ho => ⟨o, _, _, rfl, ho, h.2⟩⟩
  · exact h.elim
def c_opq0 : Ct
  | [.v (.c (.p 0 0)), .v (.c (.k (.int .i64 ref)))], [.up ⟨84, 81, 3, 9⟩ q1 q2 mb nx L], Q => ∃ Y : UpY, (q1 = Y.q1 ∧ q2 = Y.q2 ∧ nx = Y.nx ∧ RepY L Y) ∧ (True) ∧ ∀ o, UpIs ⟨84, 81, 3, 9⟩ (Y) o → Q (.bool (Y.opqD ref)) [o]
  | _, _, _ => False
noncomputable def XU18 : Vx := { P := Tryz.prog, ct := (97, c_target) :: XU17.ct, ty := tyTab, hold := [] }
theorem XU18_ok : CtOk Inv Tryz.prog XU18.ct := CtOk.cons w_target (XU17_ok)
def vc_opq0 : (Int) → (Int) → (Int) → (Nat) → (Int) → (List (Int × LNode)) → (SV → List HO → Prop) → Prop :=
 fun ref q1 q2 mb nx L Q => inK .i64 ref → (getK L ref = none → inK .i64 1 → Q (.v (.c (.k (.bool false)))) [.up ⟨84, 81, 3, 9⟩ q1 q2 mb nx L]) ∧ ∀ (m : LNode), getK L ref = some m → NodeOk m → inK .i64 0 → ∃ r m_1, getK L r = some m_1 ∧ 
 m_1.blk = m.blk ∧ (NodeOk m_1 → Q (.v (.c (.k (.bool m_1.opq)))) [.up ⟨84, 81, 3, 9⟩ q1 q2 mb nx L])
theorem vc_opq0_eq (ref : Int) (q1 : Int) (q2 : Int) (mb : Nat) (nx : Int) (L : List (Int × LNode)) (Q : SV → List HO → Prop) : vFun XU18 ⟨[], []⟩ Tryz.f101 [.v (.c (.p 0 0)), .int ref] [.up ⟨84, 81, 3, 9⟩ q1 q2 mb nx L] Q = vc_opq0 ref q1 q2 mb nx L Q := by kernel_rfl
theorem w_opq0 : ∀ args H Q, c_opq0 args H Q → Wp Inv Tryz.prog 101 args H Q := by
  intro args H Q h
  unfold c_opq0 at h
  split at h
  rotate_left
  · exact h.elim
  rename_i ref q1 q2 mb nx L
  refine Wp.enter (X := XU18) XU18_ok ⟨[], []⟩ (fn := Tryz.f101) (by kernel_rfl) ?_
  have hv := vc_opq0_eq ref q1 q2 mb nx L Q
  rw [show vFun _ _ _ _ _ _ = _ from hv]
  unfold vc_opq0
  obtain ⟨Y, ⟨rfl, rfl, rfl, hr⟩, hp, hq⟩ := h
  intro _
  rcases hr.both ref with ⟨hn, hy⟩ | ⟨m, y, hg, hy, hN⟩
  · refine ⟨fun _ _ => ?_, fun m hg => ?_⟩
    · refine Eq.mp (congrArg (fun z => Q (.bool z) _) ?_) (hq _ ⟨rfl, rfl, rfl, rfl, hr⟩)
      simp only [UpY.opqD, hy]
    · rw [hn] at hg; cases hg
  · refine ⟨no_some hg, only hg fun _ _ => ⟨_, m, hg, rfl, fun _ => ?_⟩⟩
    refine Eq.mp (congrArg (fun z => Q (.bool z) _) ?_) (hq _ ⟨rfl, rfl, rfl, rfl, hr⟩)
    simp only [UpY.opqD, hy, hN.opq]
def c_opq : Ct
  | [.v (.c (.p 0 0)), .v (.c (.k (.int .i64 ref)))], [.ab (.upr ⟨84, 81, 3, 9⟩ Y)], Q => (True) ∧ Q (.bool (Y.opqD ref)) [.ab (.upr ⟨84, 81, 3, 9⟩ (Y))]
  | _, _, _ => False
theorem w_opq : ∀ args H Q, c_opq args H Q → Wp Inv Tryz.prog 101 args H Q := by
  intro args H Q h
  unfold c_opq at h
  split at h
  · rename_i ref Y
    refine Wp.uprO fun mb L hr => w_opq0 _ _ _ ?_
    unfold c_opq0
    exact ⟨Y, ⟨rfl, rfl, rfl, hr⟩, h.1, fun o ho => ⟨o, _, _, rfl, ho, h.2⟩⟩
  · exact h.elim
end Go.Proofs

