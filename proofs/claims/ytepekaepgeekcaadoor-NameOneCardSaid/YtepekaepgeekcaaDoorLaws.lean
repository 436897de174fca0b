/- What the laws come to. (Printed by a program of mine.) -/
import Derived.Test.YtepekaepgeekcaaDoorWalks
namespace Go.Proofs.YtepekaepgeekcaaDoor
open Go Go.RowKit Go.Lm
set_option linter.unusedVariables false in
set_option linter.unusedSimpArgs false in
set_option maxHeartbeats 4000000 in
set_option maxRecDepth 100000 in
theorem nameValid_any (s : ByteArray) (hs : s.size ≤ 9223372036854775807) (g w : World) (sees : Sees g w) (hm : MaxL 0 w) : Ret Tryd.prog 3 #[(.string s)] w fun v w' => v = .bool true ∧ Le w w' := by
  have be0 := Below.refl w.heap.size w
  refine enter (args := [(.string s)]) Tryd.func3 rfl rfl rfl ?_
  refine C_seq ?_
  refine C_region ?_
  refine Rv (.bool false) w ?_
  refine wpR_nil ?_
  refine E_then_normal ?_
  refine C_seq ?_
  refine C_region ?_
  refine Rc #[] w (shown_any g w sees (hm.below be0)) ?_
  rintro _ w1 ⟨rfl, l1⟩
  have sees1 := sees.le l1
  have be1 := l1.below' be0
  refine Rv (.bool true) w1 ?_
  refine wpR_nil ?_
  refine E_then_normal ?_
  refine C_seq ?_
  refine Cs [(3, (.bool true)), (2, (.bool false)), (0, (.string s))] ?_
  refine C_region ?_
  refine Rv (.bool true) w1 ?_
  refine Rv (.bool true) w1 ?_
  refine Rv (.string s) w1 ?_
  refine Rc #[(.string s)] w1 (valid_any s _) ?_
  rintro _ w2 ⟨rfl, l2⟩
  have sees2 := sees1.le l2
  have be2 := l2.below' be1
  refine Rv (.string s) w2 ?_
  refine Rc #[(.string s)] w2 (refvalid_any s (by omega) _) ?_
  rintro _ w3 ⟨rfl, l3⟩
  have sees3 := sees2.le l3
  have be3 := l3.below' be2
  refine Rv (.bool ((validN s) == (validN s))) w3 ?_
  refine Rv (.bool ((validN s) == (validN s))) w3 ?_
  refine Rv (.bool ((validN s) == (validN s))) w3 ?_
  refine wpR_nil ?_
  refine E_then_normal ?_
  refine C_ret ?_
  refine E_ret (res_one rfl rfl) ⟨_, rfl, ?_⟩
  first | exact ⟨congrArg Value.bool (by simp_all [cmpL_key]), be3⟩ | (exfalso; simp_all [cmpL_key]; done)

set_option linter.unusedVariables false in
set_option linter.unusedSimpArgs false in
set_option maxHeartbeats 4000000 in
set_option maxRecDepth 100000 in
theorem nameRows_any (a b : List ByteArray) (va vb : Value) (g w : World) (sees : Sees g w) (h_a : Is g va a) (h_b : Is g vb b)(hm : MaxL 0 w) : Ret Tryd.prog 4 #[va, vb] w fun v w' => v = .bool true ∧ Le w w' := by
  have ln_h_a := h_a.len_le
  have ln_h_b := h_b.len_le
  have be0 := Below.refl w.heap.size w
  refine enter (args := [va, vb]) Tryd.func4 rfl rfl rfl ?_
  refine C_seq ?_
  refine C_region ?_
  refine Rv (.bool false) w ?_
  refine wpR_nil ?_
  refine E_then_normal ?_
  refine C_seq ?_
  refine C_region ?_
  refine Rc #[] w (shown_any g w sees (hm.below be0)) ?_
  rintro _ w1 ⟨rfl, l1⟩
  have sees1 := sees.le l1
  have be1 := l1.below' be0
  refine Rv (.bool true) w1 ?_
  refine wpR_nil ?_
  refine E_then_normal ?_
  refine C_seq ?_
  refine Cs [(5, (.bool true)), (4, (.bool false)), (0, va), (1, vb)] ?_
  refine C_region ?_
  refine Rv va w1 ?_
  refine Rc #[va] w1 (few_any a va _ _ sees1 h_a) ?_
  rintro fv1 w2 ⟨hf1, l2⟩
  have sees2 := sees1.le l2
  have be2 := l2.below' be1
  have ln_hf1 := hf1.len_le
  refine Rv fv1 w2 ?_
  refine wpR_nil ?_
  refine E_then_normal ?_
  refine C_seq ?_
  refine Cs [(0, fv1), (5, (.bool true)), (4, (.bool false)), (1, vb)] ?_
  refine C_region ?_
  refine Rv vb w2 ?_
  refine Rc #[vb] w2 (few_any b vb _ _ sees2 h_b) ?_
  rintro fv2 w3 ⟨hf2, l3⟩
  have sees3 := sees2.le l3
  have be3 := l3.below' be2
  have ln_hf2 := hf2.len_le
  refine Rv fv2 w3 ?_
  refine wpR_nil ?_
  refine E_then_normal ?_
  refine C_seq ?_
  refine Cs [(1, fv2), (0, fv1), (5, (.bool true)), (4, (.bool false))] ?_
  refine C_region ?_
  refine Rv (.bool true) w3 ?_
  refine Rv (.bool true) w3 ?_
  refine Rv fv1 w3 ?_
  refine Rv fv2 w3 ?_
  refine Rc #[fv1, fv2] w3 (less_any (a.take 30) (b.take 30) fv1 fv2 _ _ sees3 hf1 hf2) ?_
  rintro _ w4 ⟨rfl, l4⟩
  have sees4 := sees3.le l4
  have be4 := l4.below' be3
  refine Rv fv1 w4 ?_
  refine Rv fv2 w4 ?_
  refine Rc #[fv1, fv2] w4 (refless_any (a.take 30) (b.take 30) fv1 fv2 _ _ sees4 hf1 hf2) ?_
  rintro _ w5 ⟨rfl, l5⟩
  have sees5 := sees4.le l5
  have be5 := l5.below' be4
  refine Rv (.bool ((decide (cmpL (a.take 30) (b.take 30) < 0)) == (lessL (a.take 30) (b.take 30)))) w5 ?_
  refine Rv (.bool ((decide (cmpL (a.take 30) (b.take 30) < 0)) == (lessL (a.take 30) (b.take 30)))) w5 ?_
  rcases Bool.eq_false_or_eq_true ((decide (cmpL (a.take 30) (b.take 30) < 0)) == (lessL (a.take 30) (b.take 30))) with c1 | c1
  · refine Rw (.bool true) w5 (eq_bool (by kernel_rfl) c1) ?_
    refine Rv fv2 w5 ?_
    refine Rv fv1 w5 ?_
    refine Rc #[fv2, fv1] w5 (less_any (b.take 30) (a.take 30) fv2 fv1 _ _ sees5 hf2 hf1) ?_
    rintro _ w6 ⟨rfl, l6⟩
    have sees6 := sees5.le l6
    have be6 := l6.below' be5
    refine Rv fv2 w6 ?_
    refine Rv fv1 w6 ?_
    refine Rc #[fv2, fv1] w6 (refless_any (b.take 30) (a.take 30) fv2 fv1 _ _ sees6 hf2 hf1) ?_
    rintro _ w7 ⟨rfl, l7⟩
    have sees7 := sees6.le l7
    have be7 := l7.below' be6
    refine Rv (.bool ((decide (cmpL (b.take 30) (a.take 30) < 0)) == (lessL (b.take 30) (a.take 30)))) w7 ?_
    refine Rv (.bool ((decide (cmpL (b.take 30) (a.take 30) < 0)) == (lessL (b.take 30) (a.take 30)))) w7 ?_
    rcases Bool.eq_false_or_eq_true ((decide (cmpL (b.take 30) (a.take 30) < 0)) == (lessL (b.take 30) (a.take 30))) with c2 | c2
    · refine Rw (.bool true) w7 (eq_bool (by kernel_rfl) c2) ?_
      refine Rv fv1 w7 ?_
      refine Rv fv2 w7 ?_
      refine Rc #[fv1, fv2] w7 (same_any (a.take 30) (b.take 30) fv1 fv2 _ _ sees7 hf1 hf2) ?_
      rintro _ w8 ⟨rfl, l8⟩
      have sees8 := sees7.le l8
      have be8 := l8.below' be7
      refine Rv fv1 w8 ?_
      refine Rv fv2 w8 ?_
      refine Rc #[fv1, fv2] w8 (refsame_any (a.take 30) (b.take 30) fv1 fv2 _ _ sees8 hf1 hf2) ?_
      rintro _ w9 ⟨rfl, l9⟩
      have sees9 := sees8.le l9
      have be9 := l9.below' be8
      refine Rv (.bool ((sameL (a.take 30) (b.take 30)) == (sameL (a.take 30) (b.take 30)))) w9 ?_
      refine Rv (.bool ((sameL (a.take 30) (b.take 30)) == (sameL (a.take 30) (b.take 30)))) w9 ?_
      rcases Bool.eq_false_or_eq_true ((sameL (a.take 30) (b.take 30)) == (sameL (a.take 30) (b.take 30))) with c3 | c3
      · refine Rw (.bool true) w9 (eq_bool (by kernel_rfl) c3) ?_
        refine Rv fv1 w9 ?_
        refine Rv fv2 w9 ?_
        refine Rc #[fv1, fv2] w9 (below_any (a.take 30) (b.take 30) fv1 fv2 _ _ sees9 hf1 hf2) ?_
        rintro _ w10 ⟨rfl, l10⟩
        have sees10 := sees9.le l10
        have be10 := l10.below' be9
        refine Rv fv1 w10 ?_
        refine Rv fv2 w10 ?_
        refine Rc #[fv1, fv2] w10 (refbelow_any (a.take 30) (b.take 30) fv1 fv2 _ _ sees10 hf1 hf2) ?_
        rintro _ w11 ⟨rfl, l11⟩
        have sees11 := sees10.le l11
        have be11 := l11.below' be10
        refine Rv (.bool ((belowL (a.take 30) (b.take 30)) == (belowL (a.take 30) (b.take 30)))) w11 ?_
        refine Rv (.bool ((belowL (a.take 30) (b.take 30)) == (belowL (a.take 30) (b.take 30)))) w11 ?_
        refine Rv (.bool ((belowL (a.take 30) (b.take 30)) == (belowL (a.take 30) (b.take 30)))) w11 ?_
        refine wpR_nil ?_
        refine E_then_normal ?_
        refine C_ret ?_
        refine E_ret (res_one rfl rfl) ⟨_, rfl, ?_⟩
        first | exact ⟨congrArg Value.bool (by simp_all [cmpL_key]), be11⟩ | (exfalso; simp_all [cmpL_key]; done)
      · refine Rw (.bool false) w9 (eq_bool (by kernel_rfl) c3) ?_
        iterate 7 refine Rs ?_
        refine Rv (.bool false) w9 ?_
        refine Rv (.bool false) w9 ?_
        refine wpR_nil ?_
        refine E_then_normal ?_
        refine C_ret ?_
        refine E_ret (res_one rfl rfl) ⟨_, rfl, ?_⟩
        first | exact ⟨congrArg Value.bool (by simp_all [cmpL_key]), be9⟩ | (exfalso; simp_all [cmpL_key]; done)
    · refine Rw (.bool false) w7 (eq_bool (by kernel_rfl) c2) ?_
      iterate 7 refine Rs ?_
      refine Rv (.bool false) w7 ?_
      refine Rv (.bool false) w7 ?_
      iterate 7 refine Rs ?_
      refine Rv (.bool false) w7 ?_
      refine Rv (.bool false) w7 ?_
      refine wpR_nil ?_
      refine E_then_normal ?_
      refine C_ret ?_
      refine E_ret (res_one rfl rfl) ⟨_, rfl, ?_⟩
      first | exact ⟨congrArg Value.bool (by simp_all [cmpL_key]), be7⟩ | (exfalso; simp_all [cmpL_key]; done)
  · refine Rw (.bool false) w5 (eq_bool (by kernel_rfl) c1) ?_
    iterate 7 refine Rs ?_
    refine Rv (.bool false) w5 ?_
    refine Rv (.bool false) w5 ?_
    iterate 7 refine Rs ?_
    refine Rv (.bool false) w5 ?_
    refine Rv (.bool false) w5 ?_
    iterate 7 refine Rs ?_
    refine Rv (.bool false) w5 ?_
    refine Rv (.bool false) w5 ?_
    refine wpR_nil ?_
    refine E_then_normal ?_
    refine C_ret ?_
    refine E_ret (res_one rfl rfl) ⟨_, rfl, ?_⟩
    first | exact ⟨congrArg Value.bool (by simp_all [cmpL_key]), be5⟩ | (exfalso; simp_all [cmpL_key]; done)

set_option linter.unusedVariables false in
set_option linter.unusedSimpArgs false in
set_option maxHeartbeats 4000000 in
set_option maxRecDepth 100000 in
theorem nameTotal_any (a b c : List ByteArray) (va vb vc : Value) (g w : World) (sees : Sees g w) (h_a : Is g va a) (h_b : Is g vb b) (h_c : Is g vc c)(hm : MaxL 0 w) : Ret Tryd.prog 5 #[va, vb, vc] w fun v w' => v = .bool true ∧ Le w w' := by
  have ln_h_a := h_a.len_le
  have ln_h_b := h_b.len_le
  have ln_h_c := h_c.len_le
  have be0 := Below.refl w.heap.size w
  refine enter (args := [va, vb, vc]) Tryd.func5 rfl rfl rfl ?_
  refine C_seq ?_
  refine C_region ?_
  refine Rv (.bool false) w ?_
  refine wpR_nil ?_
  refine E_then_normal ?_
  refine C_seq ?_
  refine C_region ?_
  refine Rc #[] w (shown_any g w sees (hm.below be0)) ?_
  rintro _ w1 ⟨rfl, l1⟩
  have sees1 := sees.le l1
  have be1 := l1.below' be0
  refine Rv (.bool true) w1 ?_
  refine wpR_nil ?_
  refine E_then_normal ?_
  refine C_seq ?_
  refine Cs [(7, (.bool true)), (6, (.bool false)), (0, va), (1, vb), (2, vc)] ?_
  refine C_region ?_
  refine Rv va w1 ?_
  refine Rc #[va] w1 (few_any a va _ _ sees1 h_a) ?_
  rintro fv1 w2 ⟨hf1, l2⟩
  have sees2 := sees1.le l2
  have be2 := l2.below' be1
  have ln_hf1 := hf1.len_le
  refine Rv fv1 w2 ?_
  refine wpR_nil ?_
  refine E_then_normal ?_
  refine C_seq ?_
  refine Cs [(0, fv1), (7, (.bool true)), (6, (.bool false)), (1, vb), (2, vc)] ?_
  refine C_region ?_
  refine Rv vb w2 ?_
  refine Rc #[vb] w2 (few_any b vb _ _ sees2 h_b) ?_
  rintro fv2 w3 ⟨hf2, l3⟩
  have sees3 := sees2.le l3
  have be3 := l3.below' be2
  have ln_hf2 := hf2.len_le
  refine Rv fv2 w3 ?_
  refine wpR_nil ?_
  refine E_then_normal ?_
  refine C_seq ?_
  refine Cs [(1, fv2), (0, fv1), (7, (.bool true)), (6, (.bool false)), (2, vc)] ?_
  refine C_region ?_
  refine Rv vc w3 ?_
  refine Rc #[vc] w3 (few_any c vc _ _ sees3 h_c) ?_
  rintro fv3 w4 ⟨hf3, l4⟩
  have sees4 := sees3.le l4
  have be4 := l4.below' be3
  have ln_hf3 := hf3.len_le
  refine Rv fv3 w4 ?_
  refine wpR_nil ?_
  refine E_then_normal ?_
  refine C_seq ?_
  refine Cs [(2, fv3), (1, fv2), (0, fv1), (7, (.bool true)), (6, (.bool false))] ?_
  refine C_region ?_
  refine Rv (.int .i64 0) w4 ?_
  refine wpR_nil ?_
  refine E_then_normal ?_
  refine C_seq ?_
  refine C_seq ?_
  refine C_region ?_
  refine Rv fv1 w4 ?_
  refine Rv fv2 w4 ?_
  refine Rc #[fv1, fv2] w4 (less_any (a.take 30) (b.take 30) fv1 fv2 _ _ sees4 hf1 hf2) ?_
  rintro _ w5 ⟨rfl, l5⟩
  have sees5 := sees4.le l5
  have be5 := l5.below' be4
  refine wpR_nil ?_
  refine E_then_normal ?_
  refine C_cond rfl (fun c1 => ?_) (fun c1 => ?_)
  · refine Cs [(21, (.bool (decide (cmpL (a.take 30) (b.take 30) < 0)))), (8, (.int .i64 0)), (2, fv3), (1, fv2), (0, fv1), (7, (.bool true)), (6, (.bool false))] ?_
    refine C_region ?_
    refine Rv (.int .i64 0) w5 ?_
    refine Rv (.int .i64 1) w5 ?_
    refine Rv (.int .i64 1) w5 ?_
    refine wpR_nil ?_
    refine E_then_normal ?_
    refine C_seq ?_
    refine C_seq ?_
    refine Cs [(8, (.int .i64 1)), (21, (.bool (decide (cmpL (a.take 30) (b.take 30) < 0)))), (2, fv3), (1, fv2), (0, fv1), (7, (.bool true)), (6, (.bool false))] ?_
    refine C_region ?_
    refine Rv fv2 w5 ?_
    refine Rv fv1 w5 ?_
    refine Rc #[fv2, fv1] w5 (less_any (b.take 30) (a.take 30) fv2 fv1 _ _ sees5 hf2 hf1) ?_
    rintro _ w6 ⟨rfl, l6⟩
    have sees6 := sees5.le l6
    have be6 := l6.below' be5
    refine wpR_nil ?_
    refine E_then_normal ?_
    refine C_cond rfl (fun c2 => ?_) (fun c2 => ?_)
    · have t1 := total_one (a.take 30) (b.take 30); simp_all [cmpL_key]
    · refine C_skip ?_
      refine E_then_normal ?_
      refine C_seq ?_
      refine C_seq ?_
      refine Cs [(26, (.bool (decide (cmpL (b.take 30) (a.take 30) < 0)))), (8, (.int .i64 1)), (21, (.bool (decide (cmpL (a.take 30) (b.take 30) < 0)))), (2, fv3), (1, fv2), (0, fv1), (7, (.bool true)), (6, (.bool false))] ?_
      refine C_region ?_
      refine Rv fv1 w6 ?_
      refine Rv fv2 w6 ?_
      refine Rc #[fv1, fv2] w6 (same_any (a.take 30) (b.take 30) fv1 fv2 _ _ sees6 hf1 hf2) ?_
      rintro _ w7 ⟨rfl, l7⟩
      have sees7 := sees6.le l7
      have be7 := l7.below' be6
      refine wpR_nil ?_
      refine E_then_normal ?_
      refine C_cond rfl (fun c3 => ?_) (fun c3 => ?_)
      · have t1 := total_one (a.take 30) (b.take 30); simp_all [cmpL_key]
      · refine C_skip ?_
        refine E_then_normal ?_
        refine C_seq ?_
        refine Cs [(31, (.bool (sameL (a.take 30) (b.take 30)))), (26, (.bool (decide (cmpL (b.take 30) (a.take 30) < 0)))), (8, (.int .i64 1)), (21, (.bool (decide (cmpL (a.take 30) (b.take 30) < 0)))), (2, fv3), (1, fv2), (0, fv1), (7, (.bool true)), (6, (.bool false))] ?_
        refine C_region ?_
        refine Rv fv1 w7 ?_
        refine Rv fv2 w7 ?_
        refine Rc #[fv1, fv2] w7 (less_any (a.take 30) (b.take 30) fv1 fv2 _ _ sees7 hf1 hf2) ?_
        rintro _ w8 ⟨rfl, l8⟩
        have sees8 := sees7.le l8
        have be8 := l8.below' be7
        refine Rw (.bool false) w8 (eq_bool (by kernel_rfl) (congrArg Bool.not c1)) ?_
        refine Rv (.bool false) w8 ?_
        refine Rv fv2 w8 ?_
        refine Rv fv3 w8 ?_
        refine Rc #[fv2, fv3] w8 (less_any (b.take 30) (c.take 30) fv2 fv3 _ _ sees8 hf2 hf3) ?_
        rintro _ w9 ⟨rfl, l9⟩
        have sees9 := sees8.le l9
        have be9 := l9.below' be8
        refine Rv (.bool (!(decide (cmpL (b.take 30) (c.take 30) < 0)))) w9 ?_
        refine Rv (.bool (!(decide (cmpL (b.take 30) (c.take 30) < 0)))) w9 ?_
        rcases Bool.eq_false_or_eq_true (!(decide (cmpL (b.take 30) (c.take 30) < 0))) with c4 | c4
        · refine Rw (.bool true) w9 (eq_bool (by kernel_rfl) c4) ?_
          iterate 3 refine Rs ?_
          refine Rv (.bool true) w9 ?_
          refine Rv (.bool true) w9 ?_
          refine wpR_nil ?_
          refine E_then_normal ?_
          refine C_seq ?_
          refine Cs [(9, (.bool true)), (31, (.bool (sameL (a.take 30) (b.take 30)))), (26, (.bool (decide (cmpL (b.take 30) (a.take 30) < 0)))), (8, (.int .i64 1)), (21, (.bool (decide (cmpL (a.take 30) (b.take 30) < 0)))), (2, fv3), (1, fv2), (0, fv1), (7, (.bool true)), (6, (.bool false))] ?_
          refine C_region ?_
          refine Rv fv1 w9 ?_
          refine Rv fv2 w9 ?_
          refine Rc #[fv1, fv2] w9 (below_any (a.take 30) (b.take 30) fv1 fv2 _ _ sees9 hf1 hf2) ?_
          rintro _ w10 ⟨rfl, l10⟩
          have sees10 := sees9.le l10
          have be10 := l10.below' be9
          refine Rv (.bool (!(belowL (a.take 30) (b.take 30)))) w10 ?_
          rcases Bool.eq_false_or_eq_true (!(belowL (a.take 30) (b.take 30))) with c5 | c5
          · refine Rw (.bool true) w10 (eq_bool (by kernel_rfl) c5) ?_
            iterate 9 refine Rs ?_
            refine Rv (.bool true) w10 ?_
            refine Rv (.bool true) w10 ?_
            refine wpR_nil ?_
            refine E_then_normal ?_
            refine C_seq ?_
            refine Cs [(10, (.bool true)), (9, (.bool true)), (31, (.bool (sameL (a.take 30) (b.take 30)))), (26, (.bool (decide (cmpL (b.take 30) (a.take 30) < 0)))), (8, (.int .i64 1)), (21, (.bool (decide (cmpL (a.take 30) (b.take 30) < 0)))), (2, fv3), (1, fv2), (0, fv1), (7, (.bool true)), (6, (.bool false))] ?_
            refine C_region ?_
            refine Rv fv1 w10 ?_
            refine Rv fv2 w10 ?_
            refine Rc #[fv1, fv2] w10 (below_any (a.take 30) (b.take 30) fv1 fv2 _ _ sees10 hf1 hf2) ?_
            rintro _ w11 ⟨rfl, l11⟩
            have sees11 := sees10.le l11
            have be11 := l11.below' be10
            refine Rw (.bool true) w11 (eq_bool (by kernel_rfl) c5) ?_
            refine Rv (.bool true) w11 ?_
            iterate 4 refine Rs ?_
            refine Rv (.bool true) w11 ?_
            refine Rv (.bool true) w11 ?_
            iterate 4 refine Rs ?_
            refine Rv (.bool true) w11 ?_
            refine Rv (.bool true) w11 ?_
            iterate 3 refine Rs ?_
            refine Rv (.bool true) w11 ?_
            refine Rv (.bool true) w11 ?_
            refine wpR_nil ?_
            refine E_then_normal ?_
            refine C_seq ?_
            refine Cs [(11, (.bool true)), (10, (.bool true)), (9, (.bool true)), (31, (.bool (sameL (a.take 30) (b.take 30)))), (26, (.bool (decide (cmpL (b.take 30) (a.take 30) < 0)))), (8, (.int .i64 1)), (21, (.bool (decide (cmpL (a.take 30) (b.take 30) < 0)))), (2, fv3), (1, fv2), (0, fv1), (7, (.bool true)), (6, (.bool false))] ?_
            refine C_region ?_
            refine Rv (.bool true) w11 ?_
            refine Rv (.bool true) w11 ?_
            refine Rv (.int .i64 1) w11 ?_
            refine Rv (.bool true) w11 ?_
            refine Rv (.bool true) w11 ?_
            refine Rv (.bool true) w11 ?_
            refine Rv (.bool true) w11 ?_
            refine Rv (.bool true) w11 ?_
            refine Rv (.bool true) w11 ?_
            refine Rv (.bool true) w11 ?_
            refine Rv (.bool true) w11 ?_
            refine Rv (.bool true) w11 ?_
            refine Rv (.bool true) w11 ?_
            refine Rv (.bool true) w11 ?_
            refine Rv (.bool true) w11 ?_
            refine wpR_nil ?_
            refine E_then_normal ?_
            refine C_ret ?_
            refine E_ret (res_one rfl rfl) ⟨_, rfl, ?_⟩
            have t1 := total_one (a.take 30) (b.take 30)
            have t2 := @total_chain (a.take 30) (b.take 30) (c.take 30)
            have t3 := @total_under (a.take 30) (b.take 30)
            have t4 := @total_between (a.take 30) (b.take 30) (c.take 30)
            simp only [cmpL_key] at *
            first | exact ⟨trivial, be11⟩ | exact ⟨congrArg Value.bool (by simp_all), be11⟩ | (exfalso; simp_all; done)
          · refine Rw (.bool false) w10 (eq_bool (by kernel_rfl) c5) ?_
            refine Rv fv2 w10 ?_
            refine Rv fv1 w10 ?_
            refine Rc #[fv2, fv1] w10 (less_any (b.take 30) (a.take 30) fv2 fv1 _ _ sees10 hf2 hf1) ?_
            rintro _ w12 ⟨rfl, l12⟩
            have sees12 := sees10.le l12
            have be12 := l12.below' be10
            refine Rw (.bool false) w12 (eq_bool (by kernel_rfl) c2) ?_
            iterate 4 refine Rs ?_
            refine Rv (.bool false) w12 ?_
            refine Rv (.bool false) w12 ?_
            refine Rv (.bool false) w12 ?_
            refine wpR_nil ?_
            refine E_then_normal ?_
            refine C_seq ?_
            refine Cs [(10, (.bool false)), (9, (.bool true)), (31, (.bool (sameL (a.take 30) (b.take 30)))), (26, (.bool (decide (cmpL (b.take 30) (a.take 30) < 0)))), (8, (.int .i64 1)), (21, (.bool (decide (cmpL (a.take 30) (b.take 30) < 0)))), (2, fv3), (1, fv2), (0, fv1), (7, (.bool true)), (6, (.bool false))] ?_
            refine C_region ?_
            refine Rv fv1 w12 ?_
            refine Rv fv2 w12 ?_
            refine Rc #[fv1, fv2] w12 (below_any (a.take 30) (b.take 30) fv1 fv2 _ _ sees12 hf1 hf2) ?_
            rintro _ w13 ⟨rfl, l13⟩
            have sees13 := sees12.le l13
            have be13 := l13.below' be12
            refine Rw (.bool false) w13 (eq_bool (by kernel_rfl) c5) ?_
            refine Rv (.bool false) w13 ?_
            refine Rv fv2 w13 ?_
            refine Rv fv3 w13 ?_
            refine Rc #[fv2, fv3] w13 (less_any (b.take 30) (c.take 30) fv2 fv3 _ _ sees13 hf2 hf3) ?_
            rintro _ w14 ⟨rfl, l14⟩
            have sees14 := sees13.le l14
            have be14 := l14.below' be13
            refine Rw (.bool true) w14 (eq_bool (by kernel_rfl) c4) ?_
            refine Rv (.bool true) w14 ?_
            refine Rv (.bool true) w14 ?_
            iterate 4 refine Rs ?_
            refine Rv (.bool true) w14 ?_
            refine Rv (.bool true) w14 ?_
            iterate 3 refine Rs ?_
            refine Rv (.bool true) w14 ?_
            refine Rv (.bool true) w14 ?_
            refine wpR_nil ?_
            refine E_then_normal ?_
            refine C_seq ?_
            refine Cs [(11, (.bool true)), (10, (.bool false)), (9, (.bool true)), (31, (.bool (sameL (a.take 30) (b.take 30)))), (26, (.bool (decide (cmpL (b.take 30) (a.take 30) < 0)))), (8, (.int .i64 1)), (21, (.bool (decide (cmpL (a.take 30) (b.take 30) < 0)))), (2, fv3), (1, fv2), (0, fv1), (7, (.bool true)), (6, (.bool false))] ?_
            refine C_region ?_
            refine Rv (.bool true) w14 ?_
            refine Rv (.bool true) w14 ?_
            refine Rv (.int .i64 1) w14 ?_
            refine Rv (.bool true) w14 ?_
            refine Rv (.bool true) w14 ?_
            refine Rv (.bool true) w14 ?_
            refine Rv (.bool true) w14 ?_
            refine Rv (.bool true) w14 ?_
            refine Rv (.bool true) w14 ?_
            refine Rv (.bool false) w14 ?_
            refine Rv (.bool false) w14 ?_
            refine Rv (.bool false) w14 ?_
            refine Rs ?_
            refine Rv (.bool false) w14 ?_
            refine Rv (.bool false) w14 ?_
            refine wpR_nil ?_
            refine E_then_normal ?_
            refine C_ret ?_
            refine E_ret (res_one rfl rfl) ⟨_, rfl, ?_⟩
            have t1 := total_one (a.take 30) (b.take 30)
            have t2 := @total_chain (a.take 30) (b.take 30) (c.take 30)
            have t3 := @total_under (a.take 30) (b.take 30)
            have t4 := @total_between (a.take 30) (b.take 30) (c.take 30)
            simp only [cmpL_key] at *
            first | exact ⟨trivial, be14⟩ | exact ⟨congrArg Value.bool (by simp_all), be14⟩ | (exfalso; simp_all; done)
        · refine Rw (.bool false) w9 (eq_bool (by kernel_rfl) c4) ?_
          refine Rv fv1 w9 ?_
          refine Rv fv3 w9 ?_
          refine Rc #[fv1, fv3] w9 (less_any (a.take 30) (c.take 30) fv1 fv3 _ _ sees9 hf1 hf3) ?_
          rintro _ w15 ⟨rfl, l15⟩
          have sees15 := sees9.le l15
          have be15 := l15.below' be9
          refine Rv (.bool (decide (cmpL (a.take 30) (c.take 30) < 0))) w15 ?_
          refine Rv (.bool (decide (cmpL (a.take 30) (c.take 30) < 0))) w15 ?_
          refine wpR_nil ?_
          refine E_then_normal ?_
          refine C_seq ?_
          refine Cs [(9, (.bool (decide (cmpL (a.take 30) (c.take 30) < 0)))), (31, (.bool (sameL (a.take 30) (b.take 30)))), (26, (.bool (decide (cmpL (b.take 30) (a.take 30) < 0)))), (8, (.int .i64 1)), (21, (.bool (decide (cmpL (a.take 30) (b.take 30) < 0)))), (2, fv3), (1, fv2), (0, fv1), (7, (.bool true)), (6, (.bool false))] ?_
          refine C_region ?_
          refine Rv fv1 w15 ?_
          refine Rv fv2 w15 ?_
          refine Rc #[fv1, fv2] w15 (below_any (a.take 30) (b.take 30) fv1 fv2 _ _ sees15 hf1 hf2) ?_
          rintro _ w16 ⟨rfl, l16⟩
          have sees16 := sees15.le l16
          have be16 := l16.below' be15
          refine Rv (.bool (!(belowL (a.take 30) (b.take 30)))) w16 ?_
          rcases Bool.eq_false_or_eq_true (!(belowL (a.take 30) (b.take 30))) with c6 | c6
          · refine Rw (.bool true) w16 (eq_bool (by kernel_rfl) c6) ?_
            iterate 9 refine Rs ?_
            refine Rv (.bool true) w16 ?_
            refine Rv (.bool true) w16 ?_
            refine wpR_nil ?_
            refine E_then_normal ?_
            refine C_seq ?_
            refine Cs [(10, (.bool true)), (9, (.bool (decide (cmpL (a.take 30) (c.take 30) < 0)))), (31, (.bool (sameL (a.take 30) (b.take 30)))), (26, (.bool (decide (cmpL (b.take 30) (a.take 30) < 0)))), (8, (.int .i64 1)), (21, (.bool (decide (cmpL (a.take 30) (b.take 30) < 0)))), (2, fv3), (1, fv2), (0, fv1), (7, (.bool true)), (6, (.bool false))] ?_
            refine C_region ?_
            refine Rv fv1 w16 ?_
            refine Rv fv2 w16 ?_
            refine Rc #[fv1, fv2] w16 (below_any (a.take 30) (b.take 30) fv1 fv2 _ _ sees16 hf1 hf2) ?_
            rintro _ w17 ⟨rfl, l17⟩
            have sees17 := sees16.le l17
            have be17 := l17.below' be16
            refine Rw (.bool true) w17 (eq_bool (by kernel_rfl) c6) ?_
            refine Rv (.bool true) w17 ?_
            iterate 4 refine Rs ?_
            refine Rv (.bool true) w17 ?_
            refine Rv (.bool true) w17 ?_
            iterate 4 refine Rs ?_
            refine Rv (.bool true) w17 ?_
            refine Rv (.bool true) w17 ?_
            iterate 3 refine Rs ?_
            refine Rv (.bool true) w17 ?_
            refine Rv (.bool true) w17 ?_
            refine wpR_nil ?_
            refine E_then_normal ?_
            refine C_seq ?_
            refine Cs [(11, (.bool true)), (10, (.bool true)), (9, (.bool (decide (cmpL (a.take 30) (c.take 30) < 0)))), (31, (.bool (sameL (a.take 30) (b.take 30)))), (26, (.bool (decide (cmpL (b.take 30) (a.take 30) < 0)))), (8, (.int .i64 1)), (21, (.bool (decide (cmpL (a.take 30) (b.take 30) < 0)))), (2, fv3), (1, fv2), (0, fv1), (7, (.bool true)), (6, (.bool false))] ?_
            refine C_region ?_
            refine Rv (.bool true) w17 ?_
            refine Rv (.bool true) w17 ?_
            refine Rv (.int .i64 1) w17 ?_
            refine Rv (.bool true) w17 ?_
            refine Rv (.bool true) w17 ?_
            refine Rv (.bool true) w17 ?_
            refine Rv (.bool (decide (cmpL (a.take 30) (c.take 30) < 0))) w17 ?_
            refine Rv (.bool (decide (cmpL (a.take 30) (c.take 30) < 0))) w17 ?_
            rcases Bool.eq_false_or_eq_true (decide (cmpL (a.take 30) (c.take 30) < 0)) with c7 | c7
            · refine Rw (.bool true) w17 (eq_bool (by kernel_rfl) c7) ?_
              refine Rv (.bool true) w17 ?_
              refine Rv (.bool true) w17 ?_
              refine Rv (.bool true) w17 ?_
              refine Rv (.bool true) w17 ?_
              refine Rv (.bool true) w17 ?_
              refine Rv (.bool true) w17 ?_
              refine wpR_nil ?_
              refine E_then_normal ?_
              refine C_ret ?_
              refine E_ret (res_one rfl rfl) ⟨_, rfl, ?_⟩
              have t1 := total_one (a.take 30) (b.take 30)
              have t2 := @total_chain (a.take 30) (b.take 30) (c.take 30)
              have t3 := @total_under (a.take 30) (b.take 30)
              have t4 := @total_between (a.take 30) (b.take 30) (c.take 30)
              simp only [cmpL_key] at *
              first | exact ⟨trivial, be17⟩ | exact ⟨congrArg Value.bool (by simp_all), be17⟩ | (exfalso; simp_all; done)
            · refine Rw (.bool false) w17 (eq_bool (by kernel_rfl) c7) ?_
              refine Rs ?_
              refine Rv (.bool false) w17 ?_
              refine Rv (.bool false) w17 ?_
              refine Rs ?_
              refine Rv (.bool false) w17 ?_
              refine Rv (.bool false) w17 ?_
              refine wpR_nil ?_
              refine E_then_normal ?_
              refine C_ret ?_
              refine E_ret (res_one rfl rfl) ⟨_, rfl, ?_⟩
              have t1 := total_one (a.take 30) (b.take 30)
              have t2 := @total_chain (a.take 30) (b.take 30) (c.take 30)
              have t3 := @total_under (a.take 30) (b.take 30)
              have t4 := @total_between (a.take 30) (b.take 30) (c.take 30)
              simp only [cmpL_key] at *
              first | exact ⟨trivial, be17⟩ | exact ⟨congrArg Value.bool (by simp_all), be17⟩ | (exfalso; simp_all; done)
          · refine Rw (.bool false) w16 (eq_bool (by kernel_rfl) c6) ?_
            refine Rv fv2 w16 ?_
            refine Rv fv1 w16 ?_
            refine Rc #[fv2, fv1] w16 (less_any (b.take 30) (a.take 30) fv2 fv1 _ _ sees16 hf2 hf1) ?_
            rintro _ w18 ⟨rfl, l18⟩
            have sees18 := sees16.le l18
            have be18 := l18.below' be16
            refine Rw (.bool false) w18 (eq_bool (by kernel_rfl) c2) ?_
            iterate 4 refine Rs ?_
            refine Rv (.bool false) w18 ?_
            refine Rv (.bool false) w18 ?_
            refine Rv (.bool false) w18 ?_
            refine wpR_nil ?_
            refine E_then_normal ?_
            refine C_seq ?_
            refine Cs [(10, (.bool false)), (9, (.bool (decide (cmpL (a.take 30) (c.take 30) < 0)))), (31, (.bool (sameL (a.take 30) (b.take 30)))), (26, (.bool (decide (cmpL (b.take 30) (a.take 30) < 0)))), (8, (.int .i64 1)), (21, (.bool (decide (cmpL (a.take 30) (b.take 30) < 0)))), (2, fv3), (1, fv2), (0, fv1), (7, (.bool true)), (6, (.bool false))] ?_
            refine C_region ?_
            refine Rv fv1 w18 ?_
            refine Rv fv2 w18 ?_
            refine Rc #[fv1, fv2] w18 (below_any (a.take 30) (b.take 30) fv1 fv2 _ _ sees18 hf1 hf2) ?_
            rintro _ w19 ⟨rfl, l19⟩
            have sees19 := sees18.le l19
            have be19 := l19.below' be18
            refine Rw (.bool false) w19 (eq_bool (by kernel_rfl) c6) ?_
            refine Rv (.bool false) w19 ?_
            refine Rv fv2 w19 ?_
            refine Rv fv3 w19 ?_
            refine Rc #[fv2, fv3] w19 (less_any (b.take 30) (c.take 30) fv2 fv3 _ _ sees19 hf2 hf3) ?_
            rintro _ w20 ⟨rfl, l20⟩
            have sees20 := sees19.le l20
            have be20 := l20.below' be19
            refine Rw (.bool false) w20 (eq_bool (by kernel_rfl) c4) ?_
            refine Rv (.bool false) w20 ?_
            refine Rv (.bool false) w20 ?_
            refine Rv fv3 w20 ?_
            refine Rv fv1 w20 ?_
            refine Rc #[fv3, fv1] w20 (less_any (c.take 30) (a.take 30) fv3 fv1 _ _ sees20 hf3 hf1) ?_
            rintro _ w21 ⟨rfl, l21⟩
            have sees21 := sees20.le l21
            have be21 := l21.below' be20
            refine Rv (.bool (!(decide (cmpL (c.take 30) (a.take 30) < 0)))) w21 ?_
            refine Rv (.bool (!(decide (cmpL (c.take 30) (a.take 30) < 0)))) w21 ?_
            rcases Bool.eq_false_or_eq_true (!(decide (cmpL (c.take 30) (a.take 30) < 0))) with c8 | c8
            · refine Rw (.bool true) w21 (eq_bool (by kernel_rfl) c8) ?_
              iterate 3 refine Rs ?_
              refine Rv (.bool true) w21 ?_
              refine Rv (.bool true) w21 ?_
              refine wpR_nil ?_
              refine E_then_normal ?_
              refine C_seq ?_
              refine Cs [(11, (.bool true)), (10, (.bool false)), (9, (.bool (decide (cmpL (a.take 30) (c.take 30) < 0)))), (31, (.bool (sameL (a.take 30) (b.take 30)))), (26, (.bool (decide (cmpL (b.take 30) (a.take 30) < 0)))), (8, (.int .i64 1)), (21, (.bool (decide (cmpL (a.take 30) (b.take 30) < 0)))), (2, fv3), (1, fv2), (0, fv1), (7, (.bool true)), (6, (.bool false))] ?_
              refine C_region ?_
              refine Rv (.bool true) w21 ?_
              refine Rv (.bool true) w21 ?_
              refine Rv (.int .i64 1) w21 ?_
              refine Rv (.bool true) w21 ?_
              refine Rv (.bool true) w21 ?_
              refine Rv (.bool true) w21 ?_
              refine Rv (.bool (decide (cmpL (a.take 30) (c.take 30) < 0))) w21 ?_
              refine Rv (.bool (decide (cmpL (a.take 30) (c.take 30) < 0))) w21 ?_
              rcases Bool.eq_false_or_eq_true (decide (cmpL (a.take 30) (c.take 30) < 0)) with c9 | c9
              · refine Rw (.bool true) w21 (eq_bool (by kernel_rfl) c9) ?_
                refine Rv (.bool false) w21 ?_
                refine Rv (.bool false) w21 ?_
                refine Rv (.bool false) w21 ?_
                refine Rs ?_
                refine Rv (.bool false) w21 ?_
                refine Rv (.bool false) w21 ?_
                refine wpR_nil ?_
                refine E_then_normal ?_
                refine C_ret ?_
                refine E_ret (res_one rfl rfl) ⟨_, rfl, ?_⟩
                have t1 := total_one (a.take 30) (b.take 30)
                have t2 := @total_chain (a.take 30) (b.take 30) (c.take 30)
                have t3 := @total_under (a.take 30) (b.take 30)
                have t4 := @total_between (a.take 30) (b.take 30) (c.take 30)
                simp only [cmpL_key] at *
                first | exact ⟨trivial, be21⟩ | exact ⟨congrArg Value.bool (by simp_all), be21⟩ | (exfalso; simp_all; done)
              · refine Rw (.bool false) w21 (eq_bool (by kernel_rfl) c9) ?_
                refine Rs ?_
                refine Rv (.bool false) w21 ?_
                refine Rv (.bool false) w21 ?_
                refine Rs ?_
                refine Rv (.bool false) w21 ?_
                refine Rv (.bool false) w21 ?_
                refine wpR_nil ?_
                refine E_then_normal ?_
                refine C_ret ?_
                refine E_ret (res_one rfl rfl) ⟨_, rfl, ?_⟩
                have t1 := total_one (a.take 30) (b.take 30)
                have t2 := @total_chain (a.take 30) (b.take 30) (c.take 30)
                have t3 := @total_under (a.take 30) (b.take 30)
                have t4 := @total_between (a.take 30) (b.take 30) (c.take 30)
                simp only [cmpL_key] at *
                first | exact ⟨trivial, be21⟩ | exact ⟨congrArg Value.bool (by simp_all), be21⟩ | (exfalso; simp_all; done)
            · refine Rw (.bool false) w21 (eq_bool (by kernel_rfl) c8) ?_
              refine Rv fv3 w21 ?_
              refine Rv fv2 w21 ?_
              refine Rc #[fv3, fv2] w21 (below_any (c.take 30) (b.take 30) fv3 fv2 _ _ sees21 hf3 hf2) ?_
              rintro _ w22 ⟨rfl, l22⟩
              have sees22 := sees21.le l22
              have be22 := l22.below' be21
              refine Rv (.bool (belowL (c.take 30) (b.take 30))) w22 ?_
              refine Rv (.bool (belowL (c.take 30) (b.take 30))) w22 ?_
              refine wpR_nil ?_
              refine E_then_normal ?_
              refine C_seq ?_
              refine Cs [(11, (.bool (belowL (c.take 30) (b.take 30)))), (10, (.bool false)), (9, (.bool (decide (cmpL (a.take 30) (c.take 30) < 0)))), (31, (.bool (sameL (a.take 30) (b.take 30)))), (26, (.bool (decide (cmpL (b.take 30) (a.take 30) < 0)))), (8, (.int .i64 1)), (21, (.bool (decide (cmpL (a.take 30) (b.take 30) < 0)))), (2, fv3), (1, fv2), (0, fv1), (7, (.bool true)), (6, (.bool false))] ?_
              refine C_region ?_
              refine Rv (.bool true) w22 ?_
              refine Rv (.bool true) w22 ?_
              refine Rv (.int .i64 1) w22 ?_
              refine Rv (.bool true) w22 ?_
              refine Rv (.bool true) w22 ?_
              refine Rv (.bool true) w22 ?_
              refine Rv (.bool (decide (cmpL (a.take 30) (c.take 30) < 0))) w22 ?_
              refine Rv (.bool (decide (cmpL (a.take 30) (c.take 30) < 0))) w22 ?_
              rcases Bool.eq_false_or_eq_true (decide (cmpL (a.take 30) (c.take 30) < 0)) with c10 | c10
              · refine Rw (.bool true) w22 (eq_bool (by kernel_rfl) c10) ?_
                refine Rv (.bool false) w22 ?_
                refine Rv (.bool false) w22 ?_
                refine Rv (.bool false) w22 ?_
                refine Rs ?_
                refine Rv (.bool false) w22 ?_
                refine Rv (.bool false) w22 ?_
                refine wpR_nil ?_
                refine E_then_normal ?_
                refine C_ret ?_
                refine E_ret (res_one rfl rfl) ⟨_, rfl, ?_⟩
                have t1 := total_one (a.take 30) (b.take 30)
                have t2 := @total_chain (a.take 30) (b.take 30) (c.take 30)
                have t3 := @total_under (a.take 30) (b.take 30)
                have t4 := @total_between (a.take 30) (b.take 30) (c.take 30)
                simp only [cmpL_key] at *
                first | exact ⟨trivial, be22⟩ | exact ⟨congrArg Value.bool (by simp_all), be22⟩ | (exfalso; simp_all; done)
              · refine Rw (.bool false) w22 (eq_bool (by kernel_rfl) c10) ?_
                refine Rs ?_
                refine Rv (.bool false) w22 ?_
                refine Rv (.bool false) w22 ?_
                refine Rs ?_
                refine Rv (.bool false) w22 ?_
                refine Rv (.bool false) w22 ?_
                refine wpR_nil ?_
                refine E_then_normal ?_
                refine C_ret ?_
                refine E_ret (res_one rfl rfl) ⟨_, rfl, ?_⟩
                have t1 := total_one (a.take 30) (b.take 30)
                have t2 := @total_chain (a.take 30) (b.take 30) (c.take 30)
                have t3 := @total_under (a.take 30) (b.take 30)
                have t4 := @total_between (a.take 30) (b.take 30) (c.take 30)
                simp only [cmpL_key] at *
                first | exact ⟨trivial, be22⟩ | exact ⟨congrArg Value.bool (by simp_all), be22⟩ | (exfalso; simp_all; done)
  · refine C_skip ?_
    refine E_then_normal ?_
    refine C_seq ?_
    refine C_seq ?_
    refine Cs [(21, (.bool (decide (cmpL (a.take 30) (b.take 30) < 0)))), (8, (.int .i64 0)), (2, fv3), (1, fv2), (0, fv1), (7, (.bool true)), (6, (.bool false))] ?_
    refine C_region ?_
    refine Rv fv2 w5 ?_
    refine Rv fv1 w5 ?_
    refine Rc #[fv2, fv1] w5 (less_any (b.take 30) (a.take 30) fv2 fv1 _ _ sees5 hf2 hf1) ?_
    rintro _ w23 ⟨rfl, l23⟩
    have sees23 := sees5.le l23
    have be23 := l23.below' be5
    refine wpR_nil ?_
    refine E_then_normal ?_
    refine C_cond rfl (fun c11 => ?_) (fun c11 => ?_)
    · refine Cs [(26, (.bool (decide (cmpL (b.take 30) (a.take 30) < 0)))), (21, (.bool (decide (cmpL (a.take 30) (b.take 30) < 0)))), (8, (.int .i64 0)), (2, fv3), (1, fv2), (0, fv1), (7, (.bool true)), (6, (.bool false))] ?_
      refine C_region ?_
      refine Rv (.int .i64 0) w23 ?_
      refine Rv (.int .i64 1) w23 ?_
      refine Rv (.int .i64 1) w23 ?_
      refine wpR_nil ?_
      refine E_then_normal ?_
      refine C_seq ?_
      refine C_seq ?_
      refine Cs [(8, (.int .i64 1)), (26, (.bool (decide (cmpL (b.take 30) (a.take 30) < 0)))), (21, (.bool (decide (cmpL (a.take 30) (b.take 30) < 0)))), (2, fv3), (1, fv2), (0, fv1), (7, (.bool true)), (6, (.bool false))] ?_
      refine C_region ?_
      refine Rv fv1 w23 ?_
      refine Rv fv2 w23 ?_
      refine Rc #[fv1, fv2] w23 (same_any (a.take 30) (b.take 30) fv1 fv2 _ _ sees23 hf1 hf2) ?_
      rintro _ w24 ⟨rfl, l24⟩
      have sees24 := sees23.le l24
      have be24 := l24.below' be23
      refine wpR_nil ?_
      refine E_then_normal ?_
      refine C_cond rfl (fun c12 => ?_) (fun c12 => ?_)
      · have t1 := total_one (a.take 30) (b.take 30); simp_all [cmpL_key]
      · refine C_skip ?_
        refine E_then_normal ?_
        refine C_seq ?_
        refine Cs [(31, (.bool (sameL (a.take 30) (b.take 30)))), (8, (.int .i64 1)), (26, (.bool (decide (cmpL (b.take 30) (a.take 30) < 0)))), (21, (.bool (decide (cmpL (a.take 30) (b.take 30) < 0)))), (2, fv3), (1, fv2), (0, fv1), (7, (.bool true)), (6, (.bool false))] ?_
        refine C_region ?_
        refine Rv fv1 w24 ?_
        refine Rv fv2 w24 ?_
        refine Rc #[fv1, fv2] w24 (less_any (a.take 30) (b.take 30) fv1 fv2 _ _ sees24 hf1 hf2) ?_
        rintro _ w25 ⟨rfl, l25⟩
        have sees25 := sees24.le l25
        have be25 := l25.below' be24
        refine Rw (.bool true) w25 (eq_bool (by kernel_rfl) (congrArg Bool.not c1)) ?_
        refine Rv (.bool true) w25 ?_
        iterate 4 refine Rs ?_
        refine Rv (.bool true) w25 ?_
        refine Rv (.bool true) w25 ?_
        iterate 3 refine Rs ?_
        refine Rv (.bool true) w25 ?_
        refine Rv (.bool true) w25 ?_
        refine wpR_nil ?_
        refine E_then_normal ?_
        refine C_seq ?_
        refine Cs [(9, (.bool true)), (31, (.bool (sameL (a.take 30) (b.take 30)))), (8, (.int .i64 1)), (26, (.bool (decide (cmpL (b.take 30) (a.take 30) < 0)))), (21, (.bool (decide (cmpL (a.take 30) (b.take 30) < 0)))), (2, fv3), (1, fv2), (0, fv1), (7, (.bool true)), (6, (.bool false))] ?_
        refine C_region ?_
        refine Rv fv1 w25 ?_
        refine Rv fv2 w25 ?_
        refine Rc #[fv1, fv2] w25 (below_any (a.take 30) (b.take 30) fv1 fv2 _ _ sees25 hf1 hf2) ?_
        rintro _ w26 ⟨rfl, l26⟩
        have sees26 := sees25.le l26
        have be26 := l26.below' be25
        refine Rv (.bool (!(belowL (a.take 30) (b.take 30)))) w26 ?_
        rcases Bool.eq_false_or_eq_true (!(belowL (a.take 30) (b.take 30))) with c13 | c13
        · refine Rw (.bool true) w26 (eq_bool (by kernel_rfl) c13) ?_
          iterate 9 refine Rs ?_
          refine Rv (.bool true) w26 ?_
          refine Rv (.bool true) w26 ?_
          refine wpR_nil ?_
          refine E_then_normal ?_
          refine C_seq ?_
          refine Cs [(10, (.bool true)), (9, (.bool true)), (31, (.bool (sameL (a.take 30) (b.take 30)))), (8, (.int .i64 1)), (26, (.bool (decide (cmpL (b.take 30) (a.take 30) < 0)))), (21, (.bool (decide (cmpL (a.take 30) (b.take 30) < 0)))), (2, fv3), (1, fv2), (0, fv1), (7, (.bool true)), (6, (.bool false))] ?_
          refine C_region ?_
          refine Rv fv1 w26 ?_
          refine Rv fv2 w26 ?_
          refine Rc #[fv1, fv2] w26 (below_any (a.take 30) (b.take 30) fv1 fv2 _ _ sees26 hf1 hf2) ?_
          rintro _ w27 ⟨rfl, l27⟩
          have sees27 := sees26.le l27
          have be27 := l27.below' be26
          refine Rw (.bool true) w27 (eq_bool (by kernel_rfl) c13) ?_
          refine Rv (.bool true) w27 ?_
          iterate 4 refine Rs ?_
          refine Rv (.bool true) w27 ?_
          refine Rv (.bool true) w27 ?_
          iterate 4 refine Rs ?_
          refine Rv (.bool true) w27 ?_
          refine Rv (.bool true) w27 ?_
          iterate 3 refine Rs ?_
          refine Rv (.bool true) w27 ?_
          refine Rv (.bool true) w27 ?_
          refine wpR_nil ?_
          refine E_then_normal ?_
          refine C_seq ?_
          refine Cs [(11, (.bool true)), (10, (.bool true)), (9, (.bool true)), (31, (.bool (sameL (a.take 30) (b.take 30)))), (8, (.int .i64 1)), (26, (.bool (decide (cmpL (b.take 30) (a.take 30) < 0)))), (21, (.bool (decide (cmpL (a.take 30) (b.take 30) < 0)))), (2, fv3), (1, fv2), (0, fv1), (7, (.bool true)), (6, (.bool false))] ?_
          refine C_region ?_
          refine Rv (.bool true) w27 ?_
          refine Rv (.bool true) w27 ?_
          refine Rv (.int .i64 1) w27 ?_
          refine Rv (.bool true) w27 ?_
          refine Rv (.bool true) w27 ?_
          refine Rv (.bool true) w27 ?_
          refine Rv (.bool true) w27 ?_
          refine Rv (.bool true) w27 ?_
          refine Rv (.bool true) w27 ?_
          refine Rv (.bool true) w27 ?_
          refine Rv (.bool true) w27 ?_
          refine Rv (.bool true) w27 ?_
          refine Rv (.bool true) w27 ?_
          refine Rv (.bool true) w27 ?_
          refine Rv (.bool true) w27 ?_
          refine wpR_nil ?_
          refine E_then_normal ?_
          refine C_ret ?_
          refine E_ret (res_one rfl rfl) ⟨_, rfl, ?_⟩
          have t1 := total_one (a.take 30) (b.take 30)
          have t2 := @total_chain (a.take 30) (b.take 30) (c.take 30)
          have t3 := @total_under (a.take 30) (b.take 30)
          have t4 := @total_between (a.take 30) (b.take 30) (c.take 30)
          simp only [cmpL_key] at *
          first | exact ⟨trivial, be27⟩ | exact ⟨congrArg Value.bool (by simp_all), be27⟩ | (exfalso; simp_all; done)
        · refine Rw (.bool false) w26 (eq_bool (by kernel_rfl) c13) ?_
          refine Rv fv2 w26 ?_
          refine Rv fv1 w26 ?_
          refine Rc #[fv2, fv1] w26 (less_any (b.take 30) (a.take 30) fv2 fv1 _ _ sees26 hf2 hf1) ?_
          rintro _ w28 ⟨rfl, l28⟩
          have sees28 := sees26.le l28
          have be28 := l28.below' be26
          refine Rw (.bool true) w28 (eq_bool (by kernel_rfl) c11) ?_
          refine Rv fv2 w28 ?_
          refine Rv fv1 w28 ?_
          refine Rc #[fv2, fv1] w28 (below_any (b.take 30) (a.take 30) fv2 fv1 _ _ sees28 hf2 hf1) ?_
          rintro _ w29 ⟨rfl, l29⟩
          have sees29 := sees28.le l29
          have be29 := l29.below' be28
          refine Rv (.bool (!(belowL (b.take 30) (a.take 30)))) w29 ?_
          refine Rv (.bool (!(belowL (b.take 30) (a.take 30)))) w29 ?_
          refine Rv (.bool (!(belowL (b.take 30) (a.take 30)))) w29 ?_
          refine Rv (.bool (!(belowL (b.take 30) (a.take 30)))) w29 ?_
          refine wpR_nil ?_
          refine E_then_normal ?_
          refine C_seq ?_
          refine Cs [(10, (.bool (!(belowL (b.take 30) (a.take 30))))), (9, (.bool true)), (31, (.bool (sameL (a.take 30) (b.take 30)))), (8, (.int .i64 1)), (26, (.bool (decide (cmpL (b.take 30) (a.take 30) < 0)))), (21, (.bool (decide (cmpL (a.take 30) (b.take 30) < 0)))), (2, fv3), (1, fv2), (0, fv1), (7, (.bool true)), (6, (.bool false))] ?_
          refine C_region ?_
          refine Rv fv1 w29 ?_
          refine Rv fv2 w29 ?_
          refine Rc #[fv1, fv2] w29 (below_any (a.take 30) (b.take 30) fv1 fv2 _ _ sees29 hf1 hf2) ?_
          rintro _ w30 ⟨rfl, l30⟩
          have sees30 := sees29.le l30
          have be30 := l30.below' be29
          refine Rw (.bool false) w30 (eq_bool (by kernel_rfl) c13) ?_
          refine Rv (.bool false) w30 ?_
          refine Rv fv2 w30 ?_
          refine Rv fv3 w30 ?_
          refine Rc #[fv2, fv3] w30 (less_any (b.take 30) (c.take 30) fv2 fv3 _ _ sees30 hf2 hf3) ?_
          rintro _ w31 ⟨rfl, l31⟩
          have sees31 := sees30.le l31
          have be31 := l31.below' be30
          refine Rv (.bool (!(decide (cmpL (b.take 30) (c.take 30) < 0)))) w31 ?_
          refine Rv (.bool (!(decide (cmpL (b.take 30) (c.take 30) < 0)))) w31 ?_
          rcases Bool.eq_false_or_eq_true (!(decide (cmpL (b.take 30) (c.take 30) < 0))) with c14 | c14
          · refine Rw (.bool true) w31 (eq_bool (by kernel_rfl) c14) ?_
            iterate 4 refine Rs ?_
            refine Rv (.bool true) w31 ?_
            refine Rv (.bool true) w31 ?_
            iterate 3 refine Rs ?_
            refine Rv (.bool true) w31 ?_
            refine Rv (.bool true) w31 ?_
            refine wpR_nil ?_
            refine E_then_normal ?_
            refine C_seq ?_
            refine Cs [(11, (.bool true)), (10, (.bool (!(belowL (b.take 30) (a.take 30))))), (9, (.bool true)), (31, (.bool (sameL (a.take 30) (b.take 30)))), (8, (.int .i64 1)), (26, (.bool (decide (cmpL (b.take 30) (a.take 30) < 0)))), (21, (.bool (decide (cmpL (a.take 30) (b.take 30) < 0)))), (2, fv3), (1, fv2), (0, fv1), (7, (.bool true)), (6, (.bool false))] ?_
            refine C_region ?_
            refine Rv (.bool true) w31 ?_
            refine Rv (.bool true) w31 ?_
            refine Rv (.int .i64 1) w31 ?_
            refine Rv (.bool true) w31 ?_
            refine Rv (.bool true) w31 ?_
            refine Rv (.bool true) w31 ?_
            refine Rv (.bool true) w31 ?_
            refine Rv (.bool true) w31 ?_
            refine Rv (.bool true) w31 ?_
            refine Rv (.bool (!(belowL (b.take 30) (a.take 30)))) w31 ?_
            refine Rv (.bool (!(belowL (b.take 30) (a.take 30)))) w31 ?_
            rcases Bool.eq_false_or_eq_true (!(belowL (b.take 30) (a.take 30))) with c15 | c15
            · refine Rw (.bool true) w31 (eq_bool (by kernel_rfl) c15) ?_
              refine Rv (.bool true) w31 ?_
              refine Rv (.bool true) w31 ?_
              refine Rv (.bool true) w31 ?_
              refine wpR_nil ?_
              refine E_then_normal ?_
              refine C_ret ?_
              refine E_ret (res_one rfl rfl) ⟨_, rfl, ?_⟩
              have t1 := total_one (a.take 30) (b.take 30)
              have t2 := @total_chain (a.take 30) (b.take 30) (c.take 30)
              have t3 := @total_under (a.take 30) (b.take 30)
              have t4 := @total_between (a.take 30) (b.take 30) (c.take 30)
              simp only [cmpL_key] at *
              first | exact ⟨trivial, be31⟩ | exact ⟨congrArg Value.bool (by simp_all), be31⟩ | (exfalso; simp_all; done)
            · refine Rw (.bool false) w31 (eq_bool (by kernel_rfl) c15) ?_
              refine Rs ?_
              refine Rv (.bool false) w31 ?_
              refine Rv (.bool false) w31 ?_
              refine wpR_nil ?_
              refine E_then_normal ?_
              refine C_ret ?_
              refine E_ret (res_one rfl rfl) ⟨_, rfl, ?_⟩
              have t1 := total_one (a.take 30) (b.take 30)
              have t2 := @total_chain (a.take 30) (b.take 30) (c.take 30)
              have t3 := @total_under (a.take 30) (b.take 30)
              have t4 := @total_between (a.take 30) (b.take 30) (c.take 30)
              simp only [cmpL_key] at *
              first | exact ⟨trivial, be31⟩ | exact ⟨congrArg Value.bool (by simp_all), be31⟩ | (exfalso; simp_all; done)
          · refine Rw (.bool false) w31 (eq_bool (by kernel_rfl) c14) ?_
            refine Rv fv3 w31 ?_
            refine Rv fv1 w31 ?_
            refine Rc #[fv3, fv1] w31 (less_any (c.take 30) (a.take 30) fv3 fv1 _ _ sees31 hf3 hf1) ?_
            rintro _ w32 ⟨rfl, l32⟩
            have sees32 := sees31.le l32
            have be32 := l32.below' be31
            refine Rv (.bool (!(decide (cmpL (c.take 30) (a.take 30) < 0)))) w32 ?_
            refine Rv (.bool (!(decide (cmpL (c.take 30) (a.take 30) < 0)))) w32 ?_
            rcases Bool.eq_false_or_eq_true (!(decide (cmpL (c.take 30) (a.take 30) < 0))) with c16 | c16
            · refine Rw (.bool true) w32 (eq_bool (by kernel_rfl) c16) ?_
              iterate 3 refine Rs ?_
              refine Rv (.bool true) w32 ?_
              refine Rv (.bool true) w32 ?_
              refine wpR_nil ?_
              refine E_then_normal ?_
              refine C_seq ?_
              refine Cs [(11, (.bool true)), (10, (.bool (!(belowL (b.take 30) (a.take 30))))), (9, (.bool true)), (31, (.bool (sameL (a.take 30) (b.take 30)))), (8, (.int .i64 1)), (26, (.bool (decide (cmpL (b.take 30) (a.take 30) < 0)))), (21, (.bool (decide (cmpL (a.take 30) (b.take 30) < 0)))), (2, fv3), (1, fv2), (0, fv1), (7, (.bool true)), (6, (.bool false))] ?_
              refine C_region ?_
              refine Rv (.bool true) w32 ?_
              refine Rv (.bool true) w32 ?_
              refine Rv (.int .i64 1) w32 ?_
              refine Rv (.bool true) w32 ?_
              refine Rv (.bool true) w32 ?_
              refine Rv (.bool true) w32 ?_
              refine Rv (.bool true) w32 ?_
              refine Rv (.bool true) w32 ?_
              refine Rv (.bool true) w32 ?_
              refine Rv (.bool (!(belowL (b.take 30) (a.take 30)))) w32 ?_
              refine Rv (.bool (!(belowL (b.take 30) (a.take 30)))) w32 ?_
              rcases Bool.eq_false_or_eq_true (!(belowL (b.take 30) (a.take 30))) with c17 | c17
              · refine Rw (.bool true) w32 (eq_bool (by kernel_rfl) c17) ?_
                refine Rv (.bool true) w32 ?_
                refine Rv (.bool true) w32 ?_
                refine Rv (.bool true) w32 ?_
                refine wpR_nil ?_
                refine E_then_normal ?_
                refine C_ret ?_
                refine E_ret (res_one rfl rfl) ⟨_, rfl, ?_⟩
                have t1 := total_one (a.take 30) (b.take 30)
                have t2 := @total_chain (a.take 30) (b.take 30) (c.take 30)
                have t3 := @total_under (a.take 30) (b.take 30)
                have t4 := @total_between (a.take 30) (b.take 30) (c.take 30)
                simp only [cmpL_key] at *
                first | exact ⟨trivial, be32⟩ | exact ⟨congrArg Value.bool (by simp_all), be32⟩ | (exfalso; simp_all; done)
              · refine Rw (.bool false) w32 (eq_bool (by kernel_rfl) c17) ?_
                refine Rs ?_
                refine Rv (.bool false) w32 ?_
                refine Rv (.bool false) w32 ?_
                refine wpR_nil ?_
                refine E_then_normal ?_
                refine C_ret ?_
                refine E_ret (res_one rfl rfl) ⟨_, rfl, ?_⟩
                have t1 := total_one (a.take 30) (b.take 30)
                have t2 := @total_chain (a.take 30) (b.take 30) (c.take 30)
                have t3 := @total_under (a.take 30) (b.take 30)
                have t4 := @total_between (a.take 30) (b.take 30) (c.take 30)
                simp only [cmpL_key] at *
                first | exact ⟨trivial, be32⟩ | exact ⟨congrArg Value.bool (by simp_all), be32⟩ | (exfalso; simp_all; done)
            · refine Rw (.bool false) w32 (eq_bool (by kernel_rfl) c16) ?_
              refine Rv fv3 w32 ?_
              refine Rv fv2 w32 ?_
              refine Rc #[fv3, fv2] w32 (below_any (c.take 30) (b.take 30) fv3 fv2 _ _ sees32 hf3 hf2) ?_
              rintro _ w33 ⟨rfl, l33⟩
              have sees33 := sees32.le l33
              have be33 := l33.below' be32
              refine Rv (.bool (belowL (c.take 30) (b.take 30))) w33 ?_
              refine Rv (.bool (belowL (c.take 30) (b.take 30))) w33 ?_
              refine wpR_nil ?_
              refine E_then_normal ?_
              refine C_seq ?_
              refine Cs [(11, (.bool (belowL (c.take 30) (b.take 30)))), (10, (.bool (!(belowL (b.take 30) (a.take 30))))), (9, (.bool true)), (31, (.bool (sameL (a.take 30) (b.take 30)))), (8, (.int .i64 1)), (26, (.bool (decide (cmpL (b.take 30) (a.take 30) < 0)))), (21, (.bool (decide (cmpL (a.take 30) (b.take 30) < 0)))), (2, fv3), (1, fv2), (0, fv1), (7, (.bool true)), (6, (.bool false))] ?_
              refine C_region ?_
              refine Rv (.bool true) w33 ?_
              refine Rv (.bool true) w33 ?_
              refine Rv (.int .i64 1) w33 ?_
              refine Rv (.bool true) w33 ?_
              refine Rv (.bool true) w33 ?_
              refine Rv (.bool true) w33 ?_
              refine Rv (.bool true) w33 ?_
              refine Rv (.bool true) w33 ?_
              refine Rv (.bool true) w33 ?_
              refine Rv (.bool (!(belowL (b.take 30) (a.take 30)))) w33 ?_
              refine Rv (.bool (!(belowL (b.take 30) (a.take 30)))) w33 ?_
              rcases Bool.eq_false_or_eq_true (!(belowL (b.take 30) (a.take 30))) with c18 | c18
              · refine Rw (.bool true) w33 (eq_bool (by kernel_rfl) c18) ?_
                refine Rv (.bool (belowL (c.take 30) (b.take 30))) w33 ?_
                refine Rv (.bool (belowL (c.take 30) (b.take 30))) w33 ?_
                refine Rv (.bool (belowL (c.take 30) (b.take 30))) w33 ?_
                refine wpR_nil ?_
                refine E_then_normal ?_
                refine C_ret ?_
                refine E_ret (res_one rfl rfl) ⟨_, rfl, ?_⟩
                have t1 := total_one (a.take 30) (b.take 30)
                have t2 := @total_chain (a.take 30) (b.take 30) (c.take 30)
                have t3 := @total_under (a.take 30) (b.take 30)
                have t4 := @total_between (a.take 30) (b.take 30) (c.take 30)
                simp only [cmpL_key] at *
                first | exact ⟨trivial, be33⟩ | exact ⟨congrArg Value.bool (by simp_all), be33⟩ | (exfalso; simp_all; done)
              · refine Rw (.bool false) w33 (eq_bool (by kernel_rfl) c18) ?_
                refine Rs ?_
                refine Rv (.bool false) w33 ?_
                refine Rv (.bool false) w33 ?_
                refine wpR_nil ?_
                refine E_then_normal ?_
                refine C_ret ?_
                refine E_ret (res_one rfl rfl) ⟨_, rfl, ?_⟩
                have t1 := total_one (a.take 30) (b.take 30)
                have t2 := @total_chain (a.take 30) (b.take 30) (c.take 30)
                have t3 := @total_under (a.take 30) (b.take 30)
                have t4 := @total_between (a.take 30) (b.take 30) (c.take 30)
                simp only [cmpL_key] at *
                first | exact ⟨trivial, be33⟩ | exact ⟨congrArg Value.bool (by simp_all), be33⟩ | (exfalso; simp_all; done)
    · refine C_skip ?_
      refine E_then_normal ?_
      refine C_seq ?_
      refine C_seq ?_
      refine Cs [(26, (.bool (decide (cmpL (b.take 30) (a.take 30) < 0)))), (21, (.bool (decide (cmpL (a.take 30) (b.take 30) < 0)))), (8, (.int .i64 0)), (2, fv3), (1, fv2), (0, fv1), (7, (.bool true)), (6, (.bool false))] ?_
      refine C_region ?_
      refine Rv fv1 w23 ?_
      refine Rv fv2 w23 ?_
      refine Rc #[fv1, fv2] w23 (same_any (a.take 30) (b.take 30) fv1 fv2 _ _ sees23 hf1 hf2) ?_
      rintro _ w34 ⟨rfl, l34⟩
      have sees34 := sees23.le l34
      have be34 := l34.below' be23
      refine wpR_nil ?_
      refine E_then_normal ?_
      refine C_cond rfl (fun c19 => ?_) (fun c19 => ?_)
      · refine Cs [(31, (.bool (sameL (a.take 30) (b.take 30)))), (26, (.bool (decide (cmpL (b.take 30) (a.take 30) < 0)))), (21, (.bool (decide (cmpL (a.take 30) (b.take 30) < 0)))), (8, (.int .i64 0)), (2, fv3), (1, fv2), (0, fv1), (7, (.bool true)), (6, (.bool false))] ?_
        refine C_region ?_
        refine Rv (.int .i64 0) w34 ?_
        refine Rv (.int .i64 1) w34 ?_
        refine Rv (.int .i64 1) w34 ?_
        refine wpR_nil ?_
        refine E_then_normal ?_
        refine C_seq ?_
        refine Cs [(8, (.int .i64 1)), (31, (.bool (sameL (a.take 30) (b.take 30)))), (26, (.bool (decide (cmpL (b.take 30) (a.take 30) < 0)))), (21, (.bool (decide (cmpL (a.take 30) (b.take 30) < 0)))), (2, fv3), (1, fv2), (0, fv1), (7, (.bool true)), (6, (.bool false))] ?_
        refine C_region ?_
        refine Rv fv1 w34 ?_
        refine Rv fv2 w34 ?_
        refine Rc #[fv1, fv2] w34 (less_any (a.take 30) (b.take 30) fv1 fv2 _ _ sees34 hf1 hf2) ?_
        rintro _ w35 ⟨rfl, l35⟩
        have sees35 := sees34.le l35
        have be35 := l35.below' be34
        refine Rw (.bool true) w35 (eq_bool (by kernel_rfl) (congrArg Bool.not c1)) ?_
        refine Rv (.bool true) w35 ?_
        iterate 4 refine Rs ?_
        refine Rv (.bool true) w35 ?_
        refine Rv (.bool true) w35 ?_
        iterate 3 refine Rs ?_
        refine Rv (.bool true) w35 ?_
        refine Rv (.bool true) w35 ?_
        refine wpR_nil ?_
        refine E_then_normal ?_
        refine C_seq ?_
        refine Cs [(9, (.bool true)), (8, (.int .i64 1)), (31, (.bool (sameL (a.take 30) (b.take 30)))), (26, (.bool (decide (cmpL (b.take 30) (a.take 30) < 0)))), (21, (.bool (decide (cmpL (a.take 30) (b.take 30) < 0)))), (2, fv3), (1, fv2), (0, fv1), (7, (.bool true)), (6, (.bool false))] ?_
        refine C_region ?_
        refine Rv fv1 w35 ?_
        refine Rv fv2 w35 ?_
        refine Rc #[fv1, fv2] w35 (below_any (a.take 30) (b.take 30) fv1 fv2 _ _ sees35 hf1 hf2) ?_
        rintro _ w36 ⟨rfl, l36⟩
        have sees36 := sees35.le l36
        have be36 := l36.below' be35
        refine Rv (.bool (!(belowL (a.take 30) (b.take 30)))) w36 ?_
        rcases Bool.eq_false_or_eq_true (!(belowL (a.take 30) (b.take 30))) with c20 | c20
        · refine Rw (.bool true) w36 (eq_bool (by kernel_rfl) c20) ?_
          iterate 9 refine Rs ?_
          refine Rv (.bool true) w36 ?_
          refine Rv (.bool true) w36 ?_
          refine wpR_nil ?_
          refine E_then_normal ?_
          refine C_seq ?_
          refine Cs [(10, (.bool true)), (9, (.bool true)), (8, (.int .i64 1)), (31, (.bool (sameL (a.take 30) (b.take 30)))), (26, (.bool (decide (cmpL (b.take 30) (a.take 30) < 0)))), (21, (.bool (decide (cmpL (a.take 30) (b.take 30) < 0)))), (2, fv3), (1, fv2), (0, fv1), (7, (.bool true)), (6, (.bool false))] ?_
          refine C_region ?_
          refine Rv fv1 w36 ?_
          refine Rv fv2 w36 ?_
          refine Rc #[fv1, fv2] w36 (below_any (a.take 30) (b.take 30) fv1 fv2 _ _ sees36 hf1 hf2) ?_
          rintro _ w37 ⟨rfl, l37⟩
          have sees37 := sees36.le l37
          have be37 := l37.below' be36
          refine Rw (.bool true) w37 (eq_bool (by kernel_rfl) c20) ?_
          refine Rv (.bool true) w37 ?_
          iterate 4 refine Rs ?_
          refine Rv (.bool true) w37 ?_
          refine Rv (.bool true) w37 ?_
          iterate 4 refine Rs ?_
          refine Rv (.bool true) w37 ?_
          refine Rv (.bool true) w37 ?_
          iterate 3 refine Rs ?_
          refine Rv (.bool true) w37 ?_
          refine Rv (.bool true) w37 ?_
          refine wpR_nil ?_
          refine E_then_normal ?_
          refine C_seq ?_
          refine Cs [(11, (.bool true)), (10, (.bool true)), (9, (.bool true)), (8, (.int .i64 1)), (31, (.bool (sameL (a.take 30) (b.take 30)))), (26, (.bool (decide (cmpL (b.take 30) (a.take 30) < 0)))), (21, (.bool (decide (cmpL (a.take 30) (b.take 30) < 0)))), (2, fv3), (1, fv2), (0, fv1), (7, (.bool true)), (6, (.bool false))] ?_
          refine C_region ?_
          refine Rv (.bool true) w37 ?_
          refine Rv (.bool true) w37 ?_
          refine Rv (.int .i64 1) w37 ?_
          refine Rv (.bool true) w37 ?_
          refine Rv (.bool true) w37 ?_
          refine Rv (.bool true) w37 ?_
          refine Rv (.bool true) w37 ?_
          refine Rv (.bool true) w37 ?_
          refine Rv (.bool true) w37 ?_
          refine Rv (.bool true) w37 ?_
          refine Rv (.bool true) w37 ?_
          refine Rv (.bool true) w37 ?_
          refine Rv (.bool true) w37 ?_
          refine Rv (.bool true) w37 ?_
          refine Rv (.bool true) w37 ?_
          refine wpR_nil ?_
          refine E_then_normal ?_
          refine C_ret ?_
          refine E_ret (res_one rfl rfl) ⟨_, rfl, ?_⟩
          have t1 := total_one (a.take 30) (b.take 30)
          have t2 := @total_chain (a.take 30) (b.take 30) (c.take 30)
          have t3 := @total_under (a.take 30) (b.take 30)
          have t4 := @total_between (a.take 30) (b.take 30) (c.take 30)
          simp only [cmpL_key] at *
          first | exact ⟨trivial, be37⟩ | exact ⟨congrArg Value.bool (by simp_all), be37⟩ | (exfalso; simp_all; done)
        · refine Rw (.bool false) w36 (eq_bool (by kernel_rfl) c20) ?_
          refine Rv fv2 w36 ?_
          refine Rv fv1 w36 ?_
          refine Rc #[fv2, fv1] w36 (less_any (b.take 30) (a.take 30) fv2 fv1 _ _ sees36 hf2 hf1) ?_
          rintro _ w38 ⟨rfl, l38⟩
          have sees38 := sees36.le l38
          have be38 := l38.below' be36
          refine Rw (.bool false) w38 (eq_bool (by kernel_rfl) c11) ?_
          iterate 4 refine Rs ?_
          refine Rv (.bool false) w38 ?_
          refine Rv (.bool false) w38 ?_
          refine Rv (.bool false) w38 ?_
          refine wpR_nil ?_
          refine E_then_normal ?_
          refine C_seq ?_
          refine Cs [(10, (.bool false)), (9, (.bool true)), (8, (.int .i64 1)), (31, (.bool (sameL (a.take 30) (b.take 30)))), (26, (.bool (decide (cmpL (b.take 30) (a.take 30) < 0)))), (21, (.bool (decide (cmpL (a.take 30) (b.take 30) < 0)))), (2, fv3), (1, fv2), (0, fv1), (7, (.bool true)), (6, (.bool false))] ?_
          refine C_region ?_
          refine Rv fv1 w38 ?_
          refine Rv fv2 w38 ?_
          refine Rc #[fv1, fv2] w38 (below_any (a.take 30) (b.take 30) fv1 fv2 _ _ sees38 hf1 hf2) ?_
          rintro _ w39 ⟨rfl, l39⟩
          have sees39 := sees38.le l39
          have be39 := l39.below' be38
          refine Rw (.bool false) w39 (eq_bool (by kernel_rfl) c20) ?_
          refine Rv (.bool false) w39 ?_
          refine Rv fv2 w39 ?_
          refine Rv fv3 w39 ?_
          refine Rc #[fv2, fv3] w39 (less_any (b.take 30) (c.take 30) fv2 fv3 _ _ sees39 hf2 hf3) ?_
          rintro _ w40 ⟨rfl, l40⟩
          have sees40 := sees39.le l40
          have be40 := l40.below' be39
          refine Rv (.bool (!(decide (cmpL (b.take 30) (c.take 30) < 0)))) w40 ?_
          refine Rv (.bool (!(decide (cmpL (b.take 30) (c.take 30) < 0)))) w40 ?_
          rcases Bool.eq_false_or_eq_true (!(decide (cmpL (b.take 30) (c.take 30) < 0))) with c21 | c21
          · refine Rw (.bool true) w40 (eq_bool (by kernel_rfl) c21) ?_
            iterate 4 refine Rs ?_
            refine Rv (.bool true) w40 ?_
            refine Rv (.bool true) w40 ?_
            iterate 3 refine Rs ?_
            refine Rv (.bool true) w40 ?_
            refine Rv (.bool true) w40 ?_
            refine wpR_nil ?_
            refine E_then_normal ?_
            refine C_seq ?_
            refine Cs [(11, (.bool true)), (10, (.bool false)), (9, (.bool true)), (8, (.int .i64 1)), (31, (.bool (sameL (a.take 30) (b.take 30)))), (26, (.bool (decide (cmpL (b.take 30) (a.take 30) < 0)))), (21, (.bool (decide (cmpL (a.take 30) (b.take 30) < 0)))), (2, fv3), (1, fv2), (0, fv1), (7, (.bool true)), (6, (.bool false))] ?_
            refine C_region ?_
            refine Rv (.bool true) w40 ?_
            refine Rv (.bool true) w40 ?_
            refine Rv (.int .i64 1) w40 ?_
            refine Rv (.bool true) w40 ?_
            refine Rv (.bool true) w40 ?_
            refine Rv (.bool true) w40 ?_
            refine Rv (.bool true) w40 ?_
            refine Rv (.bool true) w40 ?_
            refine Rv (.bool true) w40 ?_
            refine Rv (.bool false) w40 ?_
            refine Rv (.bool false) w40 ?_
            refine Rv (.bool false) w40 ?_
            refine Rs ?_
            refine Rv (.bool false) w40 ?_
            refine Rv (.bool false) w40 ?_
            refine wpR_nil ?_
            refine E_then_normal ?_
            refine C_ret ?_
            refine E_ret (res_one rfl rfl) ⟨_, rfl, ?_⟩
            have t1 := total_one (a.take 30) (b.take 30)
            have t2 := @total_chain (a.take 30) (b.take 30) (c.take 30)
            have t3 := @total_under (a.take 30) (b.take 30)
            have t4 := @total_between (a.take 30) (b.take 30) (c.take 30)
            simp only [cmpL_key] at *
            first | exact ⟨trivial, be40⟩ | exact ⟨congrArg Value.bool (by simp_all), be40⟩ | (exfalso; simp_all; done)
          · refine Rw (.bool false) w40 (eq_bool (by kernel_rfl) c21) ?_
            refine Rv fv3 w40 ?_
            refine Rv fv1 w40 ?_
            refine Rc #[fv3, fv1] w40 (less_any (c.take 30) (a.take 30) fv3 fv1 _ _ sees40 hf3 hf1) ?_
            rintro _ w41 ⟨rfl, l41⟩
            have sees41 := sees40.le l41
            have be41 := l41.below' be40
            refine Rv (.bool (!(decide (cmpL (c.take 30) (a.take 30) < 0)))) w41 ?_
            refine Rv (.bool (!(decide (cmpL (c.take 30) (a.take 30) < 0)))) w41 ?_
            rcases Bool.eq_false_or_eq_true (!(decide (cmpL (c.take 30) (a.take 30) < 0))) with c22 | c22
            · refine Rw (.bool true) w41 (eq_bool (by kernel_rfl) c22) ?_
              iterate 3 refine Rs ?_
              refine Rv (.bool true) w41 ?_
              refine Rv (.bool true) w41 ?_
              refine wpR_nil ?_
              refine E_then_normal ?_
              refine C_seq ?_
              refine Cs [(11, (.bool true)), (10, (.bool false)), (9, (.bool true)), (8, (.int .i64 1)), (31, (.bool (sameL (a.take 30) (b.take 30)))), (26, (.bool (decide (cmpL (b.take 30) (a.take 30) < 0)))), (21, (.bool (decide (cmpL (a.take 30) (b.take 30) < 0)))), (2, fv3), (1, fv2), (0, fv1), (7, (.bool true)), (6, (.bool false))] ?_
              refine C_region ?_
              refine Rv (.bool true) w41 ?_
              refine Rv (.bool true) w41 ?_
              refine Rv (.int .i64 1) w41 ?_
              refine Rv (.bool true) w41 ?_
              refine Rv (.bool true) w41 ?_
              refine Rv (.bool true) w41 ?_
              refine Rv (.bool true) w41 ?_
              refine Rv (.bool true) w41 ?_
              refine Rv (.bool true) w41 ?_
              refine Rv (.bool false) w41 ?_
              refine Rv (.bool false) w41 ?_
              refine Rv (.bool false) w41 ?_
              refine Rs ?_
              refine Rv (.bool false) w41 ?_
              refine Rv (.bool false) w41 ?_
              refine wpR_nil ?_
              refine E_then_normal ?_
              refine C_ret ?_
              refine E_ret (res_one rfl rfl) ⟨_, rfl, ?_⟩
              have t1 := total_one (a.take 30) (b.take 30)
              have t2 := @total_chain (a.take 30) (b.take 30) (c.take 30)
              have t3 := @total_under (a.take 30) (b.take 30)
              have t4 := @total_between (a.take 30) (b.take 30) (c.take 30)
              simp only [cmpL_key] at *
              first | exact ⟨trivial, be41⟩ | exact ⟨congrArg Value.bool (by simp_all), be41⟩ | (exfalso; simp_all; done)
            · refine Rw (.bool false) w41 (eq_bool (by kernel_rfl) c22) ?_
              refine Rv fv3 w41 ?_
              refine Rv fv2 w41 ?_
              refine Rc #[fv3, fv2] w41 (below_any (c.take 30) (b.take 30) fv3 fv2 _ _ sees41 hf3 hf2) ?_
              rintro _ w42 ⟨rfl, l42⟩
              have sees42 := sees41.le l42
              have be42 := l42.below' be41
              refine Rv (.bool (belowL (c.take 30) (b.take 30))) w42 ?_
              refine Rv (.bool (belowL (c.take 30) (b.take 30))) w42 ?_
              refine wpR_nil ?_
              refine E_then_normal ?_
              refine C_seq ?_
              refine Cs [(11, (.bool (belowL (c.take 30) (b.take 30)))), (10, (.bool false)), (9, (.bool true)), (8, (.int .i64 1)), (31, (.bool (sameL (a.take 30) (b.take 30)))), (26, (.bool (decide (cmpL (b.take 30) (a.take 30) < 0)))), (21, (.bool (decide (cmpL (a.take 30) (b.take 30) < 0)))), (2, fv3), (1, fv2), (0, fv1), (7, (.bool true)), (6, (.bool false))] ?_
              refine C_region ?_
              refine Rv (.bool true) w42 ?_
              refine Rv (.bool true) w42 ?_
              refine Rv (.int .i64 1) w42 ?_
              refine Rv (.bool true) w42 ?_
              refine Rv (.bool true) w42 ?_
              refine Rv (.bool true) w42 ?_
              refine Rv (.bool true) w42 ?_
              refine Rv (.bool true) w42 ?_
              refine Rv (.bool true) w42 ?_
              refine Rv (.bool false) w42 ?_
              refine Rv (.bool false) w42 ?_
              refine Rv (.bool false) w42 ?_
              refine Rs ?_
              refine Rv (.bool false) w42 ?_
              refine Rv (.bool false) w42 ?_
              refine wpR_nil ?_
              refine E_then_normal ?_
              refine C_ret ?_
              refine E_ret (res_one rfl rfl) ⟨_, rfl, ?_⟩
              have t1 := total_one (a.take 30) (b.take 30)
              have t2 := @total_chain (a.take 30) (b.take 30) (c.take 30)
              have t3 := @total_under (a.take 30) (b.take 30)
              have t4 := @total_between (a.take 30) (b.take 30) (c.take 30)
              simp only [cmpL_key] at *
              first | exact ⟨trivial, be42⟩ | exact ⟨congrArg Value.bool (by simp_all), be42⟩ | (exfalso; simp_all; done)
      · have t1 := total_one (a.take 30) (b.take 30); simp_all [cmpL_key]
end Go.Proofs.YtepekaepgeekcaaDoor
