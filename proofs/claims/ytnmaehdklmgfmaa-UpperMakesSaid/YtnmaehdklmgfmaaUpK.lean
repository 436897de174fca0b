/- Same; what reads, the places hidden. (Printed by a program of mine.) -/
import Derived.Test.YtnmaehdklmgfmaaUpJ
import Derived.Test.YtnmaehdklmgfmaaLmGC
namespace Go.Proofs.Ytnmaehdklmgfmaa
open Go Go.RowKit Go.Lm
set_option linter.unusedVariables false in
set_option linter.unusedSimpArgs false in
set_option maxHeartbeats 4000000 in
set_option maxRecDepth 100000 in
theorem same11_any (a b : List XattrD) (va vb : Value) (g w : World) (sees : Sees g w) (h_a : Is g va a) (h_b : Is g vb b) : Ret Try.prog 36 #[va, vb] w fun v w' => v = .bool (sameX a b) ∧ Le w w' := by
  have ln_h_a := h_a.len_le
  have ln_h_b := h_b.len_le
  have H := SL.start sees
  refine enter (args := [va, vb]) Try.func36 rfl rfl rfl ?_
  refine C_seq ?_
  refine C_region ?_
  refine Rv (.bool false) w ?_
  refine wpR_nil ?_
  refine E_then_normal ?_
  refine C_seq ?_
  refine C_seq ?_
  refine C_region ?_
  refine Rv va w ?_
  refine Rw (.int .i64 (a.length : Int)) w (X_len (h_a.mono H.m) rfl Try.underlying26 rfl) ?_
  refine Rv vb w ?_
  refine Rw (.int .i64 (b.length : Int)) w (X_len (h_b.mono H.m) rfl Try.underlying26 rfl) ?_
  refine Rv (.bool ((a.length : Int) != (b.length : Int))) w ?_
  refine wpR_nil ?_
  refine E_then_normal ?_
  refine C_cond rfl (fun c1 => ?_) (fun c1 => ?_)
  · have d1 : (a.length : Int) ≠ (b.length : Int) := bne_iff_ne.1 c1
    refine C_seq ?_
    refine Cs [(10, (.bool ((a.length : Int) != (b.length : Int)))), (4, (.bool false)), (0, va), (1, vb)] ?_
    refine C_region ?_
    refine Rv (.bool false) w ?_
    refine wpR_nil ?_
    refine E_then_normal ?_
    refine C_ret ?_
    refine E_then_ret ?_
    refine E_ret (res_one rfl rfl) ⟨_, rfl, ?_⟩
    exact ⟨congrArg Value.bool (sameX_len (by first | omega | (simp_all; omega) | simp_all)).symm, H.toLe⟩
  · have d1 : (a.length : Int) = (b.length : Int) := bne_eq_false_iff_eq.1 c1
    refine C_skip ?_
    refine E_then_normal ?_
    refine C_seq ?_
    refine C_seq ?_
    refine Cs [(10, (.bool ((a.length : Int) != (b.length : Int)))), (4, (.bool false)), (0, va), (1, vb)] ?_
    refine C_region ?_
    refine Rv (.int .i64 0) w ?_
    refine wpR_nil ?_
    refine E_then_normal ?_
    refine C_block ?_
    refine C_loop (ι := Int) (fun k : Int => [(5, (.int .i64 k)), (10, (.bool ((a.length : Int) != (b.length : Int)))), (0, va), (1, vb)]) (fun (k : Int) w' => 0 ≤ k ∧ k ≤ a.length ∧ a.length = b.length ∧ sameX (a.drop k.toNat) (b.drop k.toNat) = sameX a b ∧ SL ⟨w, g⟩ g w' []) (fun k : Int => ((a.length : Int) - k).toNat) 0 ⟨rfl, rfl, rfl, rfl, trivial⟩ ⟨by omega, by omega, by first | omega | (simp_all; omega) | simp_all, rfl, H⟩ ?_
    clear H
    rintro k w1 ⟨hk0, hks, hl, hc, H⟩
    refine Cs [(5, (.int .i64 k)), (10, (.bool ((a.length : Int) != (b.length : Int)))), (0, va), (1, vb)] ?_
    refine C_seq ?_
    refine C_seq ?_
    refine C_region ?_
    refine Rv (.int .i64 k) w1 ?_
    refine Rv va w1 ?_
    refine Rw (.int .i64 (a.length : Int)) w1 (X_len (h_a.mono H.m) rfl Try.underlying26 rfl) ?_
    refine Rv (.bool (decide (k < (a.length : Int)))) w1 ?_
    refine wpR_nil ?_
    refine E_then_normal ?_
    refine C_cond rfl (fun c2 => ?_) (fun c2 => ?_)
    · have d2 : k < (a.length : Int) := of_decide_eq_true c2
      refine C_skip ?_
      refine E_then_normal ?_
      refine C_seq ?_
      refine C_block ?_
      refine C_seq ?_
      refine Cs [(14, (.bool (decide (k < (a.length : Int))))), (5, (.int .i64 k)), (10, (.bool ((a.length : Int) != (b.length : Int)))), (0, va), (1, vb)] ?_
      obtain ⟨vx1, hc1, hx1, hn1⟩ := xattr_at (i := k) h_a (by omega) (by omega)
      have ln_hx1 := hx1.len_le
      unfold maxLen at hn1
      obtain ⟨vx2, hc2, hx2, hn2⟩ := xattr_at (i := k) h_b (by omega) (by omega)
      have ln_hx2 := hx2.len_le
      unfold maxLen at hn2
      rcases Bool.eq_false_or_eq_true (!(((nth a k).v.1).toList == ((nth b k).v.1).toList)) with c3 | c3
      · refine C_drawT 24 [fun _ v => v = va, fun _ v => v = (.int .i64 k), fun _ v => v = (elemP 2 va k), fun _ v => v = (addP (elemP 2 va k) 0), fun _ v => v = (.string ((nth a k).v.1)), fun _ v => v = vb, fun _ v => v = (.int .i64 k), fun _ v => v = (elemP 2 vb k), fun _ v => v = (addP (elemP 2 vb k) 0), fun _ v => v = (.string ((nth b k).v.1)), fun _ v => v = (.bool true), fun _ v => v = (.bool true), fun _ v => v = undef, fun _ v => v = undef, fun _ v => v = undef, fun _ v => v = undef, fun _ v => v = undef, fun _ v => v = undef, fun _ v => v = undef, fun _ v => v = undef, fun _ v => v = undef, fun _ v => v = undef, fun _ v => v = undef, fun _ v => v = undef] (by kernel_rfl) (by kernel_rfl) (by kernel_rfl) (by kernel_rfl) ⟨stab_exact _, stab_exact _, stab_exact _, stab_exact _, stab_exact _, stab_exact _, stab_exact _, stab_exact _, stab_exact _, stab_exact _, stab_exact _, stab_exact _, stab_exact _, stab_exact _, stab_exact _, stab_exact _, stab_exact _, stab_exact _, stab_exact _, stab_exact _, stab_exact _, stab_exact _, stab_exact _, stab_exact _, trivial⟩ ⟨?_, ?_, ?_, ?_, ?_, ?_, ?_, ?_, ?_, ?_, ?_, ?_, ?_, ?_, ?_, ?_, ?_, ?_, ?_, ?_, ?_, ?_, ?_, ?_, trivial⟩ ?_
        · intro aq wd ld hfd hdd
          have hfd := Fr.cast (s' := [(14, (.bool (decide (k < (a.length : Int))))), (5, (.int .i64 k)), (10, (.bool ((a.length : Int) != (b.length : Int)))), (0, va), (1, vb)]) hfd (by kernel_rfl)
          exact G_val (v := va) (w' := wd) hfd rfl (by kernel_rfl) (by kernel_rfl) (Le.refl _) rfl
        · intro aq wd ld hfd hdd
          have hfd := Fr.cast (s' := [(14, (.bool (decide (k < (a.length : Int))))), (5, (.int .i64 k)), (10, (.bool ((a.length : Int) != (b.length : Int)))), (0, va), (1, vb)]) hfd (by kernel_rfl)
          exact G_val (v := (.int .i64 k)) (w' := wd) hfd rfl (by kernel_rfl) (by kernel_rfl) (Le.refl _) rfl
        · intro aq wd ld hfd hdd
          have hfd := Fr.cast (s' := [(14, (.bool (decide (k < (a.length : Int))))), (5, (.int .i64 k)), (10, (.bool ((a.length : Int) != (b.length : Int)))), (0, va), (1, vb)]) hfd (by kernel_rfl)
          obtain ⟨e0, e1, _⟩ := hdd
          have hfd := Fr.add (t := 17) (v := va) hfd e0
          have hfd := Fr.add (t := 18) (v := (.int .i64 k)) hfd e1
          exact G_val (v := (elemP 2 va k)) (w' := wd) hfd rfl (by kernel_rfl) (X_indexAddr (h_a.mono (H.le ld).m) (by omega) (by omega) rfl Try.underlying26 (by kernel_rfl) rfl rfl) (Le.refl _) rfl
        · intro aq wd ld hfd hdd
          have hfd := Fr.cast (s' := [(14, (.bool (decide (k < (a.length : Int))))), (5, (.int .i64 k)), (10, (.bool ((a.length : Int) != (b.length : Int)))), (0, va), (1, vb)]) hfd (by kernel_rfl)
          obtain ⟨e2, _⟩ := hdd
          have hfd := Fr.add (t := 19) (v := (elemP 2 va k)) hfd e2
          exact G_val (v := (addP (elemP 2 va k) 0)) (w' := wd) hfd rfl (by kernel_rfl) (X_fieldAddr_elem hc1 (H.le ld).m rfl rfl Try.underlying47 rfl rfl (by kernel_rfl)) (Le.refl _) rfl
        · intro aq wd ld hfd hdd
          have hfd := Fr.cast (s' := [(14, (.bool (decide (k < (a.length : Int))))), (5, (.int .i64 k)), (10, (.bool ((a.length : Int) != (b.length : Int)))), (0, va), (1, vb)]) hfd (by kernel_rfl)
          obtain ⟨e3, _⟩ := hdd
          have hfd := Fr.add (t := 20) (v := (addP (elemP 2 va k) 0)) hfd e3
          exact G_val (v := (.string ((nth a k).v.1))) (w' := wd) hfd rfl (by kernel_rfl) (X_load rfl rfl (run_elem_field (off := 0) hc1 (H.le ld).m Try.underlying9 rfl rfl)) (Le.refl _) rfl
        · intro aq wd ld hfd hdd
          have hfd := Fr.cast (s' := [(14, (.bool (decide (k < (a.length : Int))))), (5, (.int .i64 k)), (10, (.bool ((a.length : Int) != (b.length : Int)))), (0, va), (1, vb)]) hfd (by kernel_rfl)
          exact G_val (v := vb) (w' := wd) hfd rfl (by kernel_rfl) (by kernel_rfl) (Le.refl _) rfl
        · intro aq wd ld hfd hdd
          have hfd := Fr.cast (s' := [(14, (.bool (decide (k < (a.length : Int))))), (5, (.int .i64 k)), (10, (.bool ((a.length : Int) != (b.length : Int)))), (0, va), (1, vb)]) hfd (by kernel_rfl)
          exact G_val (v := (.int .i64 k)) (w' := wd) hfd rfl (by kernel_rfl) (by kernel_rfl) (Le.refl _) rfl
        · intro aq wd ld hfd hdd
          have hfd := Fr.cast (s' := [(14, (.bool (decide (k < (a.length : Int))))), (5, (.int .i64 k)), (10, (.bool ((a.length : Int) != (b.length : Int)))), (0, va), (1, vb)]) hfd (by kernel_rfl)
          obtain ⟨e5, e6, _⟩ := hdd
          have hfd := Fr.add (t := 22) (v := vb) hfd e5
          have hfd := Fr.add (t := 23) (v := (.int .i64 k)) hfd e6
          exact G_val (v := (elemP 2 vb k)) (w' := wd) hfd rfl (by kernel_rfl) (X_indexAddr (h_b.mono (H.le ld).m) (by omega) (by omega) rfl Try.underlying26 (by kernel_rfl) rfl rfl) (Le.refl _) rfl
        · intro aq wd ld hfd hdd
          have hfd := Fr.cast (s' := [(14, (.bool (decide (k < (a.length : Int))))), (5, (.int .i64 k)), (10, (.bool ((a.length : Int) != (b.length : Int)))), (0, va), (1, vb)]) hfd (by kernel_rfl)
          obtain ⟨e7, _⟩ := hdd
          have hfd := Fr.add (t := 24) (v := (elemP 2 vb k)) hfd e7
          exact G_val (v := (addP (elemP 2 vb k) 0)) (w' := wd) hfd rfl (by kernel_rfl) (X_fieldAddr_elem hc2 (H.le ld).m rfl rfl Try.underlying47 rfl rfl (by kernel_rfl)) (Le.refl _) rfl
        · intro aq wd ld hfd hdd
          have hfd := Fr.cast (s' := [(14, (.bool (decide (k < (a.length : Int))))), (5, (.int .i64 k)), (10, (.bool ((a.length : Int) != (b.length : Int)))), (0, va), (1, vb)]) hfd (by kernel_rfl)
          obtain ⟨e8, _⟩ := hdd
          have hfd := Fr.add (t := 25) (v := (addP (elemP 2 vb k) 0)) hfd e8
          exact G_val (v := (.string ((nth b k).v.1))) (w' := wd) hfd rfl (by kernel_rfl) (X_load rfl rfl (run_elem_field (off := 0) hc2 (H.le ld).m Try.underlying9 rfl rfl)) (Le.refl _) rfl
        · intro aq wd ld hfd hdd
          have hfd := Fr.cast (s' := [(14, (.bool (decide (k < (a.length : Int))))), (5, (.int .i64 k)), (10, (.bool ((a.length : Int) != (b.length : Int)))), (0, va), (1, vb)]) hfd (by kernel_rfl)
          obtain ⟨e4, e9, _⟩ := hdd
          have hfd := Fr.add (t := 21) (v := (.string ((nth a k).v.1))) hfd e4
          have hfd := Fr.add (t := 26) (v := (.string ((nth b k).v.1))) hfd e9
          exact G_val (v := (.bool true)) (w' := wd) hfd rfl (by kernel_rfl) (eq_bool (by kernel_rfl) c3) (Le.refl _) rfl
        · intro aq wd ld hfd hdd
          have hfd := Fr.cast (s' := [(14, (.bool (decide (k < (a.length : Int))))), (5, (.int .i64 k)), (10, (.bool ((a.length : Int) != (b.length : Int)))), (0, va), (1, vb)]) hfd (by kernel_rfl)
          obtain ⟨e10, _⟩ := hdd
          have hfd := Fr.add (t := 27) (v := (.bool true)) hfd e10
          exact G_val (v := (.bool true)) (w' := wd) hfd rfl (by kernel_rfl) (by kernel_rfl) (Le.refl _) rfl
        · intro aq wd ld hfd hdd
          have hfd := Fr.cast (s' := [(14, (.bool (decide (k < (a.length : Int))))), (5, (.int .i64 k)), (10, (.bool ((a.length : Int) != (b.length : Int)))), (0, va), (1, vb)]) hfd (by kernel_rfl)
          obtain ⟨e11, _⟩ := hdd
          have hfd := Fr.add (t := 28) (v := (.bool true)) hfd e11
          exact G_skip hfd rfl rfl
        · intro aq wd ld hfd hdd
          have hfd := Fr.cast (s' := [(14, (.bool (decide (k < (a.length : Int))))), (5, (.int .i64 k)), (10, (.bool ((a.length : Int) != (b.length : Int)))), (0, va), (1, vb)]) hfd (by kernel_rfl)
          obtain ⟨e11, _⟩ := hdd
          have hfd := Fr.add (t := 28) (v := (.bool true)) hfd e11
          exact G_skip hfd rfl rfl
        · intro aq wd ld hfd hdd
          have hfd := Fr.cast (s' := [(14, (.bool (decide (k < (a.length : Int))))), (5, (.int .i64 k)), (10, (.bool ((a.length : Int) != (b.length : Int)))), (0, va), (1, vb)]) hfd (by kernel_rfl)
          obtain ⟨e12, e13, e11, _⟩ := hdd
          have hfd := Fr.add (t := 29) (v := undef) hfd e12
          have hfd := Fr.add (t := 30) (v := undef) hfd e13
          have hfd := Fr.add (t := 28) (v := (.bool true)) hfd e11
          exact G_skip hfd rfl rfl
        · intro aq wd ld hfd hdd
          have hfd := Fr.cast (s' := [(14, (.bool (decide (k < (a.length : Int))))), (5, (.int .i64 k)), (10, (.bool ((a.length : Int) != (b.length : Int)))), (0, va), (1, vb)]) hfd (by kernel_rfl)
          obtain ⟨e14, e11, _⟩ := hdd
          have hfd := Fr.add (t := 31) (v := undef) hfd e14
          have hfd := Fr.add (t := 28) (v := (.bool true)) hfd e11
          exact G_skip hfd rfl rfl
        · intro aq wd ld hfd hdd
          have hfd := Fr.cast (s' := [(14, (.bool (decide (k < (a.length : Int))))), (5, (.int .i64 k)), (10, (.bool ((a.length : Int) != (b.length : Int)))), (0, va), (1, vb)]) hfd (by kernel_rfl)
          obtain ⟨e15, e11, _⟩ := hdd
          have hfd := Fr.add (t := 32) (v := undef) hfd e15
          have hfd := Fr.add (t := 28) (v := (.bool true)) hfd e11
          exact G_skip hfd rfl rfl
        · intro aq wd ld hfd hdd
          have hfd := Fr.cast (s' := [(14, (.bool (decide (k < (a.length : Int))))), (5, (.int .i64 k)), (10, (.bool ((a.length : Int) != (b.length : Int)))), (0, va), (1, vb)]) hfd (by kernel_rfl)
          obtain ⟨e16, e11, _⟩ := hdd
          have hfd := Fr.add (t := 33) (v := undef) hfd e16
          have hfd := Fr.add (t := 28) (v := (.bool true)) hfd e11
          exact G_skip hfd rfl rfl
        · intro aq wd ld hfd hdd
          have hfd := Fr.cast (s' := [(14, (.bool (decide (k < (a.length : Int))))), (5, (.int .i64 k)), (10, (.bool ((a.length : Int) != (b.length : Int)))), (0, va), (1, vb)]) hfd (by kernel_rfl)
          obtain ⟨e11, _⟩ := hdd
          have hfd := Fr.add (t := 28) (v := (.bool true)) hfd e11
          exact G_skip hfd rfl rfl
        · intro aq wd ld hfd hdd
          have hfd := Fr.cast (s' := [(14, (.bool (decide (k < (a.length : Int))))), (5, (.int .i64 k)), (10, (.bool ((a.length : Int) != (b.length : Int)))), (0, va), (1, vb)]) hfd (by kernel_rfl)
          obtain ⟨e11, _⟩ := hdd
          have hfd := Fr.add (t := 28) (v := (.bool true)) hfd e11
          exact G_skip hfd rfl rfl
        · intro aq wd ld hfd hdd
          have hfd := Fr.cast (s' := [(14, (.bool (decide (k < (a.length : Int))))), (5, (.int .i64 k)), (10, (.bool ((a.length : Int) != (b.length : Int)))), (0, va), (1, vb)]) hfd (by kernel_rfl)
          obtain ⟨e18, e19, e11, _⟩ := hdd
          have hfd := Fr.add (t := 35) (v := undef) hfd e18
          have hfd := Fr.add (t := 36) (v := undef) hfd e19
          have hfd := Fr.add (t := 28) (v := (.bool true)) hfd e11
          exact G_skip hfd rfl rfl
        · intro aq wd ld hfd hdd
          have hfd := Fr.cast (s' := [(14, (.bool (decide (k < (a.length : Int))))), (5, (.int .i64 k)), (10, (.bool ((a.length : Int) != (b.length : Int)))), (0, va), (1, vb)]) hfd (by kernel_rfl)
          obtain ⟨e20, e11, _⟩ := hdd
          have hfd := Fr.add (t := 37) (v := undef) hfd e20
          have hfd := Fr.add (t := 28) (v := (.bool true)) hfd e11
          exact G_skip hfd rfl rfl
        · intro aq wd ld hfd hdd
          have hfd := Fr.cast (s' := [(14, (.bool (decide (k < (a.length : Int))))), (5, (.int .i64 k)), (10, (.bool ((a.length : Int) != (b.length : Int)))), (0, va), (1, vb)]) hfd (by kernel_rfl)
          obtain ⟨e21, e11, _⟩ := hdd
          have hfd := Fr.add (t := 38) (v := undef) hfd e21
          have hfd := Fr.add (t := 28) (v := (.bool true)) hfd e11
          exact G_skip hfd rfl rfl
        · intro aq wd ld hfd hdd
          have hfd := Fr.cast (s' := [(14, (.bool (decide (k < (a.length : Int))))), (5, (.int .i64 k)), (10, (.bool ((a.length : Int) != (b.length : Int)))), (0, va), (1, vb)]) hfd (by kernel_rfl)
          obtain ⟨e22, e11, _⟩ := hdd
          have hfd := Fr.add (t := 39) (v := undef) hfd e22
          have hfd := Fr.add (t := 28) (v := (.bool true)) hfd e11
          exact G_skip hfd rfl rfl
        intro aq1 w2 l1 hf1 fa1
        obtain ⟨_, _, _, _, _, _, _, _, _, _, _, qv1, _, _, _, _, _, qv2, _, _, _, _, _, qv3, _⟩ := fa1
        have hf1 := Fr.cast (s' := [(14, (.bool (decide (k < (a.length : Int))))), (5, (.int .i64 k)), (10, (.bool ((a.length : Int) != (b.length : Int)))), (0, va), (1, vb)]) hf1 (by kernel_rfl)
        have hf1 := Fr.add (t := 28) (v := (.bool true)) hf1 qv1
        have hf1 := Fr.add (t := 34) (v := undef) hf1 qv2
        have hf1 := Fr.add (t := 40) (v := undef) hf1 qv3
        replace H := H.le l1
        refine (?_ : wpR _ _ _ _ [(40, undef), (34, undef), (28, (.bool true)), (14, (.bool (decide (k < (a.length : Int))))), (5, (.int .i64 k)), (10, (.bool ((a.length : Int) != (b.length : Int)))), (0, va), (1, vb)] _ _) aq1 (hf1.sub ⟨rfl, rfl, rfl, rfl, rfl, rfl, rfl, rfl, trivial⟩)
        refine Rs ?_
        refine Rv (.bool true) w2 ?_
        refine wpR_nil ?_
        refine E_then_normal ?_
        refine C_true rfl ?_
        refine C_seq ?_
        refine Cs [(42, (.bool true)), (14, (.bool (decide (k < (a.length : Int))))), (5, (.int .i64 k)), (10, (.bool ((a.length : Int) != (b.length : Int)))), (0, va), (1, vb)] ?_
        refine C_region ?_
        refine Rv (.bool false) w2 ?_
        refine wpR_nil ?_
        refine E_then_normal ?_
        refine C_ret ?_
        refine E_block_ret ?_
        refine E_then_ret ?_
        refine E_then_ret ?_
        refine E_block_ret ?_
        refine E_then_ret ?_
        refine E_ret (res_one rfl rfl) ⟨_, rfl, ?_⟩
        exact ⟨congrArg Value.bool (by rw [← hc, sameX_step (k := k) (a := a) (b := b) (by omega) (by omega) (by omega)]; simp only [notB_t c3, Bool.false_and, Bool.and_false, Bool.true_and]), H.toLe⟩
      · refine C_drawT 24 [fun _ v => v = va, fun _ v => v = (.int .i64 k), fun _ v => v = (elemP 2 va k), fun _ v => v = (addP (elemP 2 va k) 0), fun _ v => v = (.string ((nth a k).v.1)), fun _ v => v = vb, fun _ v => v = (.int .i64 k), fun _ v => v = (elemP 2 vb k), fun _ v => v = (addP (elemP 2 vb k) 0), fun _ v => v = (.string ((nth b k).v.1)), fun _ v => v = (.bool false), fun _ v => v = (.bool false), fun _ v => v = va, fun _ v => v = (.int .i64 k), fun _ v => v = (elemP 2 va k), fun _ v => v = (addP (elemP 2 va k) 1), fun _ v => v = vx1, fun _ v => v = (.string (bstr ((nth a k).v.2.1))), fun _ v => v = vb, fun _ v => v = (.int .i64 k), fun _ v => v = (elemP 2 vb k), fun _ v => v = (addP (elemP 2 vb k) 1), fun _ v => v = vx2, fun _ v => v = (.string (bstr ((nth b k).v.2.1)))] (by kernel_rfl) (by kernel_rfl) (by kernel_rfl) (by kernel_rfl) ⟨stab_exact _, stab_exact _, stab_exact _, stab_exact _, stab_exact _, stab_exact _, stab_exact _, stab_exact _, stab_exact _, stab_exact _, stab_exact _, stab_exact _, stab_exact _, stab_exact _, stab_exact _, stab_exact _, stab_exact _, stab_exact _, stab_exact _, stab_exact _, stab_exact _, stab_exact _, stab_exact _, stab_exact _, trivial⟩ ⟨?_, ?_, ?_, ?_, ?_, ?_, ?_, ?_, ?_, ?_, ?_, ?_, ?_, ?_, ?_, ?_, ?_, ?_, ?_, ?_, ?_, ?_, ?_, ?_, trivial⟩ ?_
        · intro aq wd ld hfd hdd
          have hfd := Fr.cast (s' := [(14, (.bool (decide (k < (a.length : Int))))), (5, (.int .i64 k)), (10, (.bool ((a.length : Int) != (b.length : Int)))), (0, va), (1, vb)]) hfd (by kernel_rfl)
          exact G_val (v := va) (w' := wd) hfd rfl (by kernel_rfl) (by kernel_rfl) (Le.refl _) rfl
        · intro aq wd ld hfd hdd
          have hfd := Fr.cast (s' := [(14, (.bool (decide (k < (a.length : Int))))), (5, (.int .i64 k)), (10, (.bool ((a.length : Int) != (b.length : Int)))), (0, va), (1, vb)]) hfd (by kernel_rfl)
          exact G_val (v := (.int .i64 k)) (w' := wd) hfd rfl (by kernel_rfl) (by kernel_rfl) (Le.refl _) rfl
        · intro aq wd ld hfd hdd
          have hfd := Fr.cast (s' := [(14, (.bool (decide (k < (a.length : Int))))), (5, (.int .i64 k)), (10, (.bool ((a.length : Int) != (b.length : Int)))), (0, va), (1, vb)]) hfd (by kernel_rfl)
          obtain ⟨e0, e1, _⟩ := hdd
          have hfd := Fr.add (t := 17) (v := va) hfd e0
          have hfd := Fr.add (t := 18) (v := (.int .i64 k)) hfd e1
          exact G_val (v := (elemP 2 va k)) (w' := wd) hfd rfl (by kernel_rfl) (X_indexAddr (h_a.mono (H.le ld).m) (by omega) (by omega) rfl Try.underlying26 (by kernel_rfl) rfl rfl) (Le.refl _) rfl
        · intro aq wd ld hfd hdd
          have hfd := Fr.cast (s' := [(14, (.bool (decide (k < (a.length : Int))))), (5, (.int .i64 k)), (10, (.bool ((a.length : Int) != (b.length : Int)))), (0, va), (1, vb)]) hfd (by kernel_rfl)
          obtain ⟨e2, _⟩ := hdd
          have hfd := Fr.add (t := 19) (v := (elemP 2 va k)) hfd e2
          exact G_val (v := (addP (elemP 2 va k) 0)) (w' := wd) hfd rfl (by kernel_rfl) (X_fieldAddr_elem hc1 (H.le ld).m rfl rfl Try.underlying47 rfl rfl (by kernel_rfl)) (Le.refl _) rfl
        · intro aq wd ld hfd hdd
          have hfd := Fr.cast (s' := [(14, (.bool (decide (k < (a.length : Int))))), (5, (.int .i64 k)), (10, (.bool ((a.length : Int) != (b.length : Int)))), (0, va), (1, vb)]) hfd (by kernel_rfl)
          obtain ⟨e3, _⟩ := hdd
          have hfd := Fr.add (t := 20) (v := (addP (elemP 2 va k) 0)) hfd e3
          exact G_val (v := (.string ((nth a k).v.1))) (w' := wd) hfd rfl (by kernel_rfl) (X_load rfl rfl (run_elem_field (off := 0) hc1 (H.le ld).m Try.underlying9 rfl rfl)) (Le.refl _) rfl
        · intro aq wd ld hfd hdd
          have hfd := Fr.cast (s' := [(14, (.bool (decide (k < (a.length : Int))))), (5, (.int .i64 k)), (10, (.bool ((a.length : Int) != (b.length : Int)))), (0, va), (1, vb)]) hfd (by kernel_rfl)
          exact G_val (v := vb) (w' := wd) hfd rfl (by kernel_rfl) (by kernel_rfl) (Le.refl _) rfl
        · intro aq wd ld hfd hdd
          have hfd := Fr.cast (s' := [(14, (.bool (decide (k < (a.length : Int))))), (5, (.int .i64 k)), (10, (.bool ((a.length : Int) != (b.length : Int)))), (0, va), (1, vb)]) hfd (by kernel_rfl)
          exact G_val (v := (.int .i64 k)) (w' := wd) hfd rfl (by kernel_rfl) (by kernel_rfl) (Le.refl _) rfl
        · intro aq wd ld hfd hdd
          have hfd := Fr.cast (s' := [(14, (.bool (decide (k < (a.length : Int))))), (5, (.int .i64 k)), (10, (.bool ((a.length : Int) != (b.length : Int)))), (0, va), (1, vb)]) hfd (by kernel_rfl)
          obtain ⟨e5, e6, _⟩ := hdd
          have hfd := Fr.add (t := 22) (v := vb) hfd e5
          have hfd := Fr.add (t := 23) (v := (.int .i64 k)) hfd e6
          exact G_val (v := (elemP 2 vb k)) (w' := wd) hfd rfl (by kernel_rfl) (X_indexAddr (h_b.mono (H.le ld).m) (by omega) (by omega) rfl Try.underlying26 (by kernel_rfl) rfl rfl) (Le.refl _) rfl
        · intro aq wd ld hfd hdd
          have hfd := Fr.cast (s' := [(14, (.bool (decide (k < (a.length : Int))))), (5, (.int .i64 k)), (10, (.bool ((a.length : Int) != (b.length : Int)))), (0, va), (1, vb)]) hfd (by kernel_rfl)
          obtain ⟨e7, _⟩ := hdd
          have hfd := Fr.add (t := 24) (v := (elemP 2 vb k)) hfd e7
          exact G_val (v := (addP (elemP 2 vb k) 0)) (w' := wd) hfd rfl (by kernel_rfl) (X_fieldAddr_elem hc2 (H.le ld).m rfl rfl Try.underlying47 rfl rfl (by kernel_rfl)) (Le.refl _) rfl
        · intro aq wd ld hfd hdd
          have hfd := Fr.cast (s' := [(14, (.bool (decide (k < (a.length : Int))))), (5, (.int .i64 k)), (10, (.bool ((a.length : Int) != (b.length : Int)))), (0, va), (1, vb)]) hfd (by kernel_rfl)
          obtain ⟨e8, _⟩ := hdd
          have hfd := Fr.add (t := 25) (v := (addP (elemP 2 vb k) 0)) hfd e8
          exact G_val (v := (.string ((nth b k).v.1))) (w' := wd) hfd rfl (by kernel_rfl) (X_load rfl rfl (run_elem_field (off := 0) hc2 (H.le ld).m Try.underlying9 rfl rfl)) (Le.refl _) rfl
        · intro aq wd ld hfd hdd
          have hfd := Fr.cast (s' := [(14, (.bool (decide (k < (a.length : Int))))), (5, (.int .i64 k)), (10, (.bool ((a.length : Int) != (b.length : Int)))), (0, va), (1, vb)]) hfd (by kernel_rfl)
          obtain ⟨e4, e9, _⟩ := hdd
          have hfd := Fr.add (t := 21) (v := (.string ((nth a k).v.1))) hfd e4
          have hfd := Fr.add (t := 26) (v := (.string ((nth b k).v.1))) hfd e9
          exact G_val (v := (.bool false)) (w' := wd) hfd rfl (by kernel_rfl) (eq_bool (by kernel_rfl) c3) (Le.refl _) rfl
        · intro aq wd ld hfd hdd
          have hfd := Fr.cast (s' := [(14, (.bool (decide (k < (a.length : Int))))), (5, (.int .i64 k)), (10, (.bool ((a.length : Int) != (b.length : Int)))), (0, va), (1, vb)]) hfd (by kernel_rfl)
          obtain ⟨e10, _⟩ := hdd
          have hfd := Fr.add (t := 27) (v := (.bool false)) hfd e10
          exact G_val (v := (.bool false)) (w' := wd) hfd rfl (by kernel_rfl) (by kernel_rfl) (Le.refl _) rfl
        · intro aq wd ld hfd hdd
          have hfd := Fr.cast (s' := [(14, (.bool (decide (k < (a.length : Int))))), (5, (.int .i64 k)), (10, (.bool ((a.length : Int) != (b.length : Int)))), (0, va), (1, vb)]) hfd (by kernel_rfl)
          obtain ⟨e11, _⟩ := hdd
          have hfd := Fr.add (t := 28) (v := (.bool false)) hfd e11
          exact G_val (v := va) (w' := wd) hfd rfl (by kernel_rfl) (by kernel_rfl) (Le.refl _) rfl
        · intro aq wd ld hfd hdd
          have hfd := Fr.cast (s' := [(14, (.bool (decide (k < (a.length : Int))))), (5, (.int .i64 k)), (10, (.bool ((a.length : Int) != (b.length : Int)))), (0, va), (1, vb)]) hfd (by kernel_rfl)
          obtain ⟨e11, _⟩ := hdd
          have hfd := Fr.add (t := 28) (v := (.bool false)) hfd e11
          exact G_val (v := (.int .i64 k)) (w' := wd) hfd rfl (by kernel_rfl) (by kernel_rfl) (Le.refl _) rfl
        · intro aq wd ld hfd hdd
          have hfd := Fr.cast (s' := [(14, (.bool (decide (k < (a.length : Int))))), (5, (.int .i64 k)), (10, (.bool ((a.length : Int) != (b.length : Int)))), (0, va), (1, vb)]) hfd (by kernel_rfl)
          obtain ⟨e12, e13, e11, _⟩ := hdd
          have hfd := Fr.add (t := 29) (v := va) hfd e12
          have hfd := Fr.add (t := 30) (v := (.int .i64 k)) hfd e13
          have hfd := Fr.add (t := 28) (v := (.bool false)) hfd e11
          exact G_val (v := (elemP 2 va k)) (w' := wd) hfd rfl (by kernel_rfl) (X_indexAddr (h_a.mono (H.le ld).m) (by omega) (by omega) rfl Try.underlying26 (by kernel_rfl) rfl rfl) (Le.refl _) rfl
        · intro aq wd ld hfd hdd
          have hfd := Fr.cast (s' := [(14, (.bool (decide (k < (a.length : Int))))), (5, (.int .i64 k)), (10, (.bool ((a.length : Int) != (b.length : Int)))), (0, va), (1, vb)]) hfd (by kernel_rfl)
          obtain ⟨e14, e11, _⟩ := hdd
          have hfd := Fr.add (t := 31) (v := (elemP 2 va k)) hfd e14
          have hfd := Fr.add (t := 28) (v := (.bool false)) hfd e11
          exact G_val (v := (addP (elemP 2 va k) 1)) (w' := wd) hfd rfl (by kernel_rfl) (X_fieldAddr_elem hc1 (H.le ld).m rfl rfl Try.underlying47 rfl rfl (by kernel_rfl)) (Le.refl _) rfl
        · intro aq wd ld hfd hdd
          have hfd := Fr.cast (s' := [(14, (.bool (decide (k < (a.length : Int))))), (5, (.int .i64 k)), (10, (.bool ((a.length : Int) != (b.length : Int)))), (0, va), (1, vb)]) hfd (by kernel_rfl)
          obtain ⟨e15, e11, _⟩ := hdd
          have hfd := Fr.add (t := 32) (v := (addP (elemP 2 va k) 1)) hfd e15
          have hfd := Fr.add (t := 28) (v := (.bool false)) hfd e11
          exact G_val (v := vx1) (w' := wd) hfd rfl (by kernel_rfl) (X_load rfl rfl (run_elem_field (off := 1) hc1 (H.le ld).m Try.underlying25 rfl rfl)) (Le.refl _) rfl
        · intro aq wd ld hfd hdd
          have hfd := Fr.cast (s' := [(14, (.bool (decide (k < (a.length : Int))))), (5, (.int .i64 k)), (10, (.bool ((a.length : Int) != (b.length : Int)))), (0, va), (1, vb)]) hfd (by kernel_rfl)
          obtain ⟨e16, e11, _⟩ := hdd
          have hfd := Fr.add (t := 33) (v := vx1) hfd e16
          have hfd := Fr.add (t := 28) (v := (.bool false)) hfd e11
          exact G_val (v := (.string (bstr ((nth a k).v.2.1)))) (w' := wd) hfd rfl (by kernel_rfl) (X_convert_str (hx1.mono (H.le ld).m) rfl rfl Try.underlying25 Try.underlying5 Try.underlying9) (Le.refl _) rfl
        · intro aq wd ld hfd hdd
          have hfd := Fr.cast (s' := [(14, (.bool (decide (k < (a.length : Int))))), (5, (.int .i64 k)), (10, (.bool ((a.length : Int) != (b.length : Int)))), (0, va), (1, vb)]) hfd (by kernel_rfl)
          obtain ⟨e11, _⟩ := hdd
          have hfd := Fr.add (t := 28) (v := (.bool false)) hfd e11
          exact G_val (v := vb) (w' := wd) hfd rfl (by kernel_rfl) (by kernel_rfl) (Le.refl _) rfl
        · intro aq wd ld hfd hdd
          have hfd := Fr.cast (s' := [(14, (.bool (decide (k < (a.length : Int))))), (5, (.int .i64 k)), (10, (.bool ((a.length : Int) != (b.length : Int)))), (0, va), (1, vb)]) hfd (by kernel_rfl)
          obtain ⟨e11, _⟩ := hdd
          have hfd := Fr.add (t := 28) (v := (.bool false)) hfd e11
          exact G_val (v := (.int .i64 k)) (w' := wd) hfd rfl (by kernel_rfl) (by kernel_rfl) (Le.refl _) rfl
        · intro aq wd ld hfd hdd
          have hfd := Fr.cast (s' := [(14, (.bool (decide (k < (a.length : Int))))), (5, (.int .i64 k)), (10, (.bool ((a.length : Int) != (b.length : Int)))), (0, va), (1, vb)]) hfd (by kernel_rfl)
          obtain ⟨e18, e19, e11, _⟩ := hdd
          have hfd := Fr.add (t := 35) (v := vb) hfd e18
          have hfd := Fr.add (t := 36) (v := (.int .i64 k)) hfd e19
          have hfd := Fr.add (t := 28) (v := (.bool false)) hfd e11
          exact G_val (v := (elemP 2 vb k)) (w' := wd) hfd rfl (by kernel_rfl) (X_indexAddr (h_b.mono (H.le ld).m) (by omega) (by omega) rfl Try.underlying26 (by kernel_rfl) rfl rfl) (Le.refl _) rfl
        · intro aq wd ld hfd hdd
          have hfd := Fr.cast (s' := [(14, (.bool (decide (k < (a.length : Int))))), (5, (.int .i64 k)), (10, (.bool ((a.length : Int) != (b.length : Int)))), (0, va), (1, vb)]) hfd (by kernel_rfl)
          obtain ⟨e20, e11, _⟩ := hdd
          have hfd := Fr.add (t := 37) (v := (elemP 2 vb k)) hfd e20
          have hfd := Fr.add (t := 28) (v := (.bool false)) hfd e11
          exact G_val (v := (addP (elemP 2 vb k) 1)) (w' := wd) hfd rfl (by kernel_rfl) (X_fieldAddr_elem hc2 (H.le ld).m rfl rfl Try.underlying47 rfl rfl (by kernel_rfl)) (Le.refl _) rfl
        · intro aq wd ld hfd hdd
          have hfd := Fr.cast (s' := [(14, (.bool (decide (k < (a.length : Int))))), (5, (.int .i64 k)), (10, (.bool ((a.length : Int) != (b.length : Int)))), (0, va), (1, vb)]) hfd (by kernel_rfl)
          obtain ⟨e21, e11, _⟩ := hdd
          have hfd := Fr.add (t := 38) (v := (addP (elemP 2 vb k) 1)) hfd e21
          have hfd := Fr.add (t := 28) (v := (.bool false)) hfd e11
          exact G_val (v := vx2) (w' := wd) hfd rfl (by kernel_rfl) (X_load rfl rfl (run_elem_field (off := 1) hc2 (H.le ld).m Try.underlying25 rfl rfl)) (Le.refl _) rfl
        · intro aq wd ld hfd hdd
          have hfd := Fr.cast (s' := [(14, (.bool (decide (k < (a.length : Int))))), (5, (.int .i64 k)), (10, (.bool ((a.length : Int) != (b.length : Int)))), (0, va), (1, vb)]) hfd (by kernel_rfl)
          obtain ⟨e22, e11, _⟩ := hdd
          have hfd := Fr.add (t := 39) (v := vx2) hfd e22
          have hfd := Fr.add (t := 28) (v := (.bool false)) hfd e11
          exact G_val (v := (.string (bstr ((nth b k).v.2.1)))) (w' := wd) hfd rfl (by kernel_rfl) (X_convert_str (hx2.mono (H.le ld).m) rfl rfl Try.underlying25 Try.underlying5 Try.underlying9) (Le.refl _) rfl
        intro aq2 w3 l2 hf2 fa2
        obtain ⟨_, _, _, _, _, _, _, _, _, _, _, qv4, _, _, _, _, _, qv5, _, _, _, _, _, qv6, _⟩ := fa2
        have hf2 := Fr.cast (s' := [(14, (.bool (decide (k < (a.length : Int))))), (5, (.int .i64 k)), (10, (.bool ((a.length : Int) != (b.length : Int)))), (0, va), (1, vb)]) hf2 (by kernel_rfl)
        have hf2 := Fr.add (t := 28) (v := (.bool false)) hf2 qv4
        have hf2 := Fr.add (t := 34) (v := (.string (bstr ((nth a k).v.2.1)))) hf2 qv5
        have hf2 := Fr.add (t := 40) (v := (.string (bstr ((nth b k).v.2.1)))) hf2 qv6
        replace H := H.le l2
        refine (?_ : wpR _ _ _ _ [(40, (.string (bstr ((nth b k).v.2.1)))), (34, (.string (bstr ((nth a k).v.2.1)))), (28, (.bool false)), (14, (.bool (decide (k < (a.length : Int))))), (5, (.int .i64 k)), (10, (.bool ((a.length : Int) != (b.length : Int)))), (0, va), (1, vb)] _ _) aq2 (hf2.sub ⟨rfl, rfl, rfl, rfl, rfl, rfl, rfl, rfl, trivial⟩)
        refine Rv (.bool (!((bstr ((nth a k).v.2.1)).toList == (bstr ((nth b k).v.2.1)).toList))) w3 ?_
        refine Rv (.bool (!((bstr ((nth a k).v.2.1)).toList == (bstr ((nth b k).v.2.1)).toList))) w3 ?_
        refine wpR_nil ?_
        refine E_then_normal ?_
        refine C_cond rfl (fun c4 => ?_) (fun c4 => ?_)
        · refine C_seq ?_
          refine Cs [(42, (.bool (!((bstr ((nth a k).v.2.1)).toList == (bstr ((nth b k).v.2.1)).toList)))), (14, (.bool (decide (k < (a.length : Int))))), (5, (.int .i64 k)), (10, (.bool ((a.length : Int) != (b.length : Int)))), (0, va), (1, vb)] ?_
          refine C_region ?_
          refine Rv (.bool false) w3 ?_
          refine wpR_nil ?_
          refine E_then_normal ?_
          refine C_ret ?_
          refine E_block_ret ?_
          refine E_then_ret ?_
          refine E_then_ret ?_
          refine E_block_ret ?_
          refine E_then_ret ?_
          refine E_ret (res_one rfl rfl) ⟨_, rfl, ?_⟩
          exact ⟨congrArg Value.bool (by rw [← hc, sameX_step (k := k) (a := a) (b := b) (by omega) (by omega) (by omega)]; simp only [notB_f c3, notB_t c4, Bool.false_and, Bool.and_false, Bool.true_and]), H.toLe⟩
        · refine C_skip ?_
          refine E_block_normal ?_
          refine E_then_normal ?_
          refine Cs [(42, (.bool (!((bstr ((nth a k).v.2.1)).toList == (bstr ((nth b k).v.2.1)).toList)))), (14, (.bool (decide (k < (a.length : Int))))), (5, (.int .i64 k)), (10, (.bool ((a.length : Int) != (b.length : Int)))), (0, va), (1, vb)] ?_
          refine C_region ?_
          refine Rv (.int .i64 k) w3 ?_
          refine Rw (.int .i64 (k + 1)) w3 (eq_int (by kernel_rfl) (wrap64_in (by omega) (by omega))) ?_
          refine Rv (.int .i64 (k + 1)) w3 ?_
          refine wpR_nil ?_
          refine E_then_mid fun aq3 ha1 => ⟨k + 1, ha1.sub ⟨rfl, rfl, rfl, rfl, trivial⟩, ⟨by omega, by omega, hl, by rw [← hc, sameX_step (k := k) (a := a) (b := b) (by omega) (by omega) (by omega)]; simp only [notB_f c3, notB_f c4, Bool.false_and, Bool.and_false, Bool.true_and], H⟩, ?_⟩
          (first | omega | (dsimp only; omega))
    · have d2 : ¬ k < (a.length : Int) := of_decide_eq_false c2
      refine C_exit ?_
      refine E_then_exit ?_
      refine E_then_exit ?_
      refine E_block_here ?_
      refine E_then_normal ?_
      refine C_seq ?_
      refine Cs [(14, (.bool (decide (k < (a.length : Int))))), (5, (.int .i64 k)), (10, (.bool ((a.length : Int) != (b.length : Int)))), (0, va), (1, vb)] ?_
      refine C_region ?_
      refine Rv (.bool true) w1 ?_
      refine wpR_nil ?_
      refine E_then_normal ?_
      refine C_ret ?_
      refine E_ret (res_one rfl rfl) ⟨_, rfl, ?_⟩
      exact ⟨congrArg Value.bool (by rw [← hc, sameX_end (k := k) (by omega) hl]), H.toLe⟩

set_option linter.unusedVariables false in
set_option linter.unusedSimpArgs false in
set_option maxHeartbeats 4000000 in
set_option maxRecDepth 100000 in
theorem same17_any (a b : List XattrD) (va vb : Value) (g w : World) (sees : Sees g w) (h_a : Is g va a) (h_b : Is g vb b) : Ret Try.prog 14 #[va, vb] w fun v w' => v = .bool (sameX a b) ∧ Le w w' := by
  have ln_h_a := h_a.len_le
  have ln_h_b := h_b.len_le
  have H := SL.start sees
  refine enter (args := [va, vb]) Try.func14 rfl rfl rfl ?_
  refine C_seq ?_
  refine C_region ?_
  refine Rv (.bool false) w ?_
  refine wpR_nil ?_
  refine E_then_normal ?_
  refine C_seq ?_
  refine C_region ?_
  refine Rv va w ?_
  refine Rv vb w ?_
  refine Rc #[va, vb] w (same11_any a b va vb _ _ H.sees h_a h_b) ?_
  rintro _ w1 ⟨rfl, l1⟩
  replace H := H.le l1
  refine Rv (.bool (sameX a b)) w1 ?_
  refine wpR_nil ?_
  refine E_then_normal ?_
  refine C_ret ?_
  refine E_ret (res_one rfl rfl) ⟨_, rfl, ?_⟩
  exact ⟨rfl, H.toLe⟩

set_option linter.unusedVariables false in
set_option linter.unusedSimpArgs false in
set_option maxHeartbeats 4000000 in
set_option maxRecDepth 100000 in
theorem used_S (u : Nat) (q1 q2 nx : Int) (S : UL) (W : Base) (g w : World) (F : List Atom) (H : SL W g w (upS Try.prog uty u q1 q2 nx S :: F)) (e1 e2 : Int) (h1 : (S.length : Int) = e1) (h2 : usedB S = e2) (hb : e2 ≤ 1000000000000000) :
    Ret Try.prog 10 #[ptr u 0] w fun v w' => v = .agg #[.int .i64 e1, .int .i64 e2] ∧ Le w w' := by
  obtain ⟨mb, L, hl, H1⟩ := H.upSO
  subst hl
  refine (used_any u mb q1 q2 nx L g w H1.sees (H1.upR0 kI) (by omega)).mono ?_
  rintro v w' ⟨h3, h4⟩
  rw [er_len] at h1
  rw [h1, h2] at h3
  exact ⟨h3, h4⟩

set_option linter.unusedVariables false in
set_option linter.unusedSimpArgs false in
set_option maxHeartbeats 4000000 in
set_option maxRecDepth 100000 in
theorem xattrs_S (u : Nat) (q1 q2 nx : Int) (S : UL) (r : Int) (n : UNode) (W : Base) (g w : World) (F : List Atom) (H : SL W g w (upS Try.prog uty u q1 q2 nx S :: F)) (hr : getK S r = some n) (wf_r : (Lit.int .i64 r).wf = true) (hb0 : n.xattrs.length ≤ 1000000) (hbb : ∀ x ∈ n.xattrs, x.v.2.1.length ≤ 1000000000000) :
    Ret Try.prog 13 #[ptr u 0, .int .i64 r] w fun v w' => ∃ vb, v = .tuple #[vb, .int .i64 0] ∧ Is (graft g w w') vb n.xattrs ∧ Le w w' := by
  obtain ⟨mb, L, hl, H1⟩ := H.upSO
  subst hl
  obtain ⟨n', h1, h2⟩ := er_get hr
  subst h2
  exact xattrsM_yes u mb q1 q2 nx L r n' g w H1.sees (H1.upR0 kI) wf_r h1 hb0 hbb

set_option linter.unusedVariables false in
set_option linter.unusedSimpArgs false in
set_option maxHeartbeats 4000000 in
set_option maxRecDepth 100000 in
theorem opaque_S (u : Nat) (q1 q2 nx : Int) (S : UL) (r : Int) (n : UNode) (W : Base) (g w : World) (F : List Atom) (H : SL W g w (upS Try.prog uty u q1 q2 nx S :: F)) (hr : getK S r = some n) (wf_r : (Lit.int .i64 r).wf = true) :
    Ret Try.prog 15 #[ptr u 0, .int .i64 r] w fun v w' => v = .bool n.opq ∧ Le w w' := by
  obtain ⟨mb, L, hl, H1⟩ := H.upSO
  subst hl
  obtain ⟨n', h1, h2⟩ := er_get hr
  subst h2
  exact opaque_yes u mb q1 q2 nx L r n' g w H1.sees (H1.upR0 kI) wf_r h1
end Go.Proofs.Ytnmaehdklmgfmaa
