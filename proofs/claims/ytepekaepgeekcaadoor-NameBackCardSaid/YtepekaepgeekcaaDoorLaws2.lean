/- What further laws come to. (Printed by a program of mine.) -/
import Derived.Test.YtepekaepgeekcaaDoorLaws
import Derived.Test.YtepekaepgeekcaaDoorRefs
import Derived.Test.YtepekaepgeekcaaDoorLmBack
namespace Go.Proofs.YtepekaepgeekcaaDoor
open Go Go.RowKit Go.Lm
set_option linter.unusedVariables false in
set_option linter.unusedSimpArgs false in
set_option maxHeartbeats 4000000 in
set_option maxRecDepth 100000 in
theorem nameSplits_any (s : ByteArray) (a : List ByteArray) (va : Value) (g w : World) (sees : Sees g w) (h_a : Is g va a)(hm : MaxL 0 w) (hb : (joinN (a.take 30)).size ≤ 140737488355328) : Ret Tryd.prog 6 #[(.string s), va] w fun v w' => v = .bool true ∧ Le w w' := by
  have ln_h_a := h_a.len_le
  have be0 := Below.refl w.heap.size w
  refine enter (args := [(.string s), va]) Tryd.func6 rfl rfl rfl ?_
  refine C_seq ?_
  refine C_region ?_
  refine Rv (.bool false) w ?_
  refine wpR_nil ?_
  refine E_then_normal ?_
  refine C_seq ?_
  refine C_region ?_
  refine Rc #[] w (shown_any g w sees (hm.below be0)) ?_
  rintro _ w1 ⟨rfl, l1⟩
  have sees1 := sees.le l1
  have be1 := l1.below' be0
  refine Rv (.bool true) w1 ?_
  refine wpR_nil ?_
  refine E_then_normal ?_
  refine C_seq ?_
  refine Cs [(5, (.bool true)), (4, (.bool false)), (0, (.string s)), (1, va)] ?_
  refine C_region ?_
  refine Rv va w1 ?_
  refine Rc #[va] w1 (few_any a va _ _ sees1 h_a) ?_
  rintro fv1 w2 ⟨hf1, l2⟩
  have sees2 := sees1.le l2
  have be2 := l2.below' be1
  have ln_hf1 := hf1.len_le
  refine Rv fv1 w2 ?_
  refine wpR_nil ?_
  refine E_then_normal ?_
  refine C_seq ?_
  refine Cs [(1, fv1), (5, (.bool true)), (4, (.bool false)), (0, (.string s))] ?_
  refine C_region ?_
  refine Rv (.string s) w2 ?_
  refine Rc #[(.string s)] w2 (split_any s g w2 sees2 (hm.below be2)) ?_
  rintro _ w3 ⟨sv1, rfl, hs1, l3⟩
  have sees3 := sees2.le l3
  have be3 := l3.below' be2
  obtain ⟨g1, hg1, sees4, gm1, nf1, agr1, gs1⟩ := heldFrom (g₀ := g) (w₀ := w) sees2 l3 be2.size
  rw [hg1] at hs1
  have agr1 := agr1 (Agr.refl g w)
  have hd1 := hf1.mono gm1
  refine Rv (.tuple #[sv1, (.bool ((splitN s).2.1)), (.int .i64 ((splitN s).2.2))]) w3 ?_
  refine Rv sv1 w3 ?_
  refine Rv (.bool ((splitN s).2.1)) w3 ?_
  refine Rv (.int .i64 ((splitN s).2.2)) w3 ?_
  refine Rv sv1 w3 ?_
  refine Rv (.bool ((splitN s).2.1)) w3 ?_
  refine Rv (.int .i64 ((splitN s).2.2)) w3 ?_
  refine wpR_nil ?_
  refine E_then_normal ?_
  refine C_seq ?_
  refine Cs [(8, (.int .i64 ((splitN s).2.2))), (7, (.bool ((splitN s).2.1))), (6, sv1), (1, fv1), (5, (.bool true)), (4, (.bool false)), (0, (.string s))] ?_
  refine C_region ?_
  refine Rv (.string s) w3 ?_
  refine Rc #[(.string s)] w3 (refsplit_any s g1 w3 sees4) ?_
  rintro _ w4 ⟨sv2, rfl, hs2, l4⟩
  have sees5 := sees4.le l4
  have be4 := l4.below' be3
  obtain ⟨g2, hg2, sees6, gm2, nf2, agr2, gs2⟩ := heldFrom (g₀ := g) (w₀ := w) sees4 l4 be3.size
  rw [hg2] at hs2
  have agr2 := agr2 agr1
  have hd2 := hs1.mono gm2
  have hd3 := hd1.mono gm2
  refine Rv (.tuple #[sv2, (.bool ((splitN s).2.1)), (.int .i64 ((splitN s).2.2))]) w4 ?_
  refine Rv sv2 w4 ?_
  refine Rv (.bool ((splitN s).2.1)) w4 ?_
  refine Rv (.int .i64 ((splitN s).2.2)) w4 ?_
  refine Rv sv2 w4 ?_
  refine Rv (.bool ((splitN s).2.1)) w4 ?_
  refine Rv (.int .i64 ((splitN s).2.2)) w4 ?_
  refine wpR_nil ?_
  refine E_then_normal ?_
  refine C_seq ?_
  refine Cs [(11, (.int .i64 ((splitN s).2.2))), (10, (.bool ((splitN s).2.1))), (9, sv2), (8, (.int .i64 ((splitN s).2.2))), (7, (.bool ((splitN s).2.1))), (6, sv1), (1, fv1), (5, (.bool true)), (4, (.bool false)), (0, (.string s))] ?_
  refine C_region ?_
  refine Rv sv1 w4 ?_
  refine Rv sv2 w4 ?_
  refine Rc #[sv1, sv2] w4 (refsame_any ((splitN s).1) ((splitN s).1) sv1 sv2 _ _ sees6 hd2 hs2) ?_
  rintro _ w5 ⟨rfl, l5⟩
  have sees7 := sees6.le l5
  have be5 := l5.below' be4
  refine Rv (.bool (sameL ((splitN s).1) ((splitN s).1))) w5 ?_
  refine wpR_nil ?_
  refine E_then_normal ?_
  refine C_seq ?_
  refine Cs [(12, (.bool (sameL ((splitN s).1) ((splitN s).1)))), (11, (.int .i64 ((splitN s).2.2))), (10, (.bool ((splitN s).2.1))), (9, sv2), (8, (.int .i64 ((splitN s).2.2))), (7, (.bool ((splitN s).2.1))), (6, sv1), (1, fv1), (5, (.bool true)), (4, (.bool false)), (0, (.string s))] ?_
  refine C_region ?_
  refine Rv (.bool true) w5 ?_
  refine Rv (.bool true) w5 ?_
  refine Rv (.bool (sameL ((splitN s).1) ((splitN s).1))) w5 ?_
  refine Rv (.bool (sameL ((splitN s).1) ((splitN s).1))) w5 ?_
  rcases Bool.eq_false_or_eq_true (sameL ((splitN s).1) ((splitN s).1)) with c1 | c1
  · refine Rw (.bool true) w5 (eq_bool (by kernel_rfl) c1) ?_
    refine Rv (.bool ((splitN s).2.1)) w5 ?_
    refine Rv (.bool ((splitN s).2.1)) w5 ?_
    refine Rv (.bool (((splitN s).2.1) == ((splitN s).2.1))) w5 ?_
    refine Rv (.bool (((splitN s).2.1) == ((splitN s).2.1))) w5 ?_
    rcases Bool.eq_false_or_eq_true (((splitN s).2.1) == ((splitN s).2.1)) with c2 | c2
    · refine Rw (.bool true) w5 (eq_bool (by kernel_rfl) c2) ?_
      refine Rv (.int .i64 ((splitN s).2.2)) w5 ?_
      refine Rv (.int .i64 ((splitN s).2.2)) w5 ?_
      refine Rv (.bool (((splitN s).2.2) == ((splitN s).2.2))) w5 ?_
      refine Rv (.bool (((splitN s).2.2) == ((splitN s).2.2))) w5 ?_
      rcases Bool.eq_false_or_eq_true (((splitN s).2.2) == ((splitN s).2.2)) with c3 | c3
      · have d3 : ((splitN s).2.2) = ((splitN s).2.2) := eq_of_beq c3
        refine Rw (.bool true) w5 (eq_bool (by kernel_rfl) c3) ?_
        refine Rv fv1 w5 ?_
        refine Rc #[fv1] w5 (join_any (a.take 30) fv1 _ _ sees7 hd3 (by assumption)) ?_
        rintro _ w6 ⟨rfl, l6⟩
        have sees8 := sees7.le l6
        have be6 := l6.below' be5
        refine Rv fv1 w6 ?_
        refine Rc #[fv1] w6 (refjoin_any (a.take 30) fv1 _ _ sees8 hd3 (by assumption)) ?_
        rintro _ w7 ⟨rfl, l7⟩
        have sees9 := sees8.le l7
        have be7 := l7.below' be6
        refine Rv (.bool ((joinN (a.take 30)).toList == (joinN (a.take 30)).toList)) w7 ?_
        refine Rv (.bool ((joinN (a.take 30)).toList == (joinN (a.take 30)).toList)) w7 ?_
        refine Rv (.bool ((joinN (a.take 30)).toList == (joinN (a.take 30)).toList)) w7 ?_
        refine wpR_nil ?_
        refine E_then_normal ?_
        refine C_ret ?_
        refine E_ret (res_one rfl rfl) ⟨_, rfl, ?_⟩
        first | exact ⟨congrArg Value.bool (by simp_all [same_self]), be7⟩ | (exfalso; simp_all [same_self]; done)
      · have d3 : ((splitN s).2.2) ≠ ((splitN s).2.2) := ne_of_beq_false c3
        refine Rw (.bool false) w5 (eq_bool (by kernel_rfl) c3) ?_
        iterate 5 refine Rs ?_
        refine Rv (.bool false) w5 ?_
        refine Rv (.bool false) w5 ?_
        refine wpR_nil ?_
        refine E_then_normal ?_
        refine C_ret ?_
        refine E_ret (res_one rfl rfl) ⟨_, rfl, ?_⟩
        first | exact ⟨congrArg Value.bool (by simp_all [same_self]), be5⟩ | (exfalso; simp_all [same_self]; done)
    · refine Rw (.bool false) w5 (eq_bool (by kernel_rfl) c2) ?_
      iterate 3 refine Rs ?_
      refine Rv (.bool false) w5 ?_
      refine Rv (.bool false) w5 ?_
      iterate 5 refine Rs ?_
      refine Rv (.bool false) w5 ?_
      refine Rv (.bool false) w5 ?_
      refine wpR_nil ?_
      refine E_then_normal ?_
      refine C_ret ?_
      refine E_ret (res_one rfl rfl) ⟨_, rfl, ?_⟩
      first | exact ⟨congrArg Value.bool (by simp_all [same_self]), be5⟩ | (exfalso; simp_all [same_self]; done)
  · refine Rw (.bool false) w5 (eq_bool (by kernel_rfl) c1) ?_
    iterate 3 refine Rs ?_
    refine Rv (.bool false) w5 ?_
    refine Rv (.bool false) w5 ?_
    iterate 3 refine Rs ?_
    refine Rv (.bool false) w5 ?_
    refine Rv (.bool false) w5 ?_
    iterate 5 refine Rs ?_
    refine Rv (.bool false) w5 ?_
    refine Rv (.bool false) w5 ?_
    refine wpR_nil ?_
    refine E_then_normal ?_
    refine C_ret ?_
    refine E_ret (res_one rfl rfl) ⟨_, rfl, ?_⟩
    first | exact ⟨congrArg Value.bool (by simp_all [same_self]), be5⟩ | (exfalso; simp_all [same_self]; done)

set_option linter.unusedVariables false in
set_option linter.unusedSimpArgs false in
set_option maxHeartbeats 4000000 in
set_option maxRecDepth 100000 in
theorem nameBack_any (a : List ByteArray) (va : Value) (g w : World) (sees : Sees g w) (h_a : Is g va a)(hm : MaxL 0 w) : Ret Tryd.prog 7 #[va] w fun v w' => v = .bool true ∧ Le w w' := by
  have ln_h_a := h_a.len_le
  have be0 := Below.refl w.heap.size w
  refine enter (args := [va]) Tryd.func7 rfl rfl rfl ?_
  refine C_seq ?_
  refine C_region ?_
  refine Rv (.bool false) w ?_
  refine wpR_nil ?_
  refine E_then_normal ?_
  refine C_seq ?_
  refine C_region ?_
  refine Rc #[] w (shown_any g w sees (hm.below be0)) ?_
  rintro _ w1 ⟨rfl, l1⟩
  have sees1 := sees.le l1
  have be1 := l1.below' be0
  refine Rv (.bool true) w1 ?_
  refine wpR_nil ?_
  refine E_then_normal ?_
  refine C_seq ?_
  refine Cs [(3, (.bool true)), (2, (.bool false)), (0, va)] ?_
  refine C_region ?_
  refine Rv va w1 ?_
  refine Rc #[va] w1 (few_any a va _ _ sees1 h_a) ?_
  rintro fv1 w2 ⟨hf1, l2⟩
  have sees2 := sees1.le l2
  have be2 := l2.below' be1
  have ln_hf1 := hf1.len_le
  refine Rv fv1 w2 ?_
  refine wpR_nil ?_
  refine E_then_normal ?_
  refine C_seq ?_
  refine C_seq ?_
  refine Cs [(0, fv1), (3, (.bool true)), (2, (.bool false))] ?_
  refine C_region ?_
  refine Rv (.int .i64 0) w2 ?_
  refine wpR_nil ?_
  refine E_then_normal ?_
  refine C_block ?_
  refine C_loop (ι := Int) (fun k : Int => [(4, (.int .i64 k)), (0, fv1), (3, (.bool true))]) (fun (k : Int) w' => 0 ≤ k ∧ k ≤ (a.take 30).length ∧ allV ((a.take 30).take k.toNat) ∧ Below w.heap.size w w' ∧ Sees g w' ∧ True) (fun k : Int => (((a.take 30).length : Int) - k).toNat) 0 ⟨rfl, rfl, rfl, trivial⟩ ⟨by omega, by omega, fun x hx => by simp at hx, be2, sees2, trivial⟩ ?_
  rintro k w3 ⟨hk0, hkl, hv, be3, sees3, -⟩
  refine Cs [(4, (.int .i64 k)), (0, fv1), (3, (.bool true))] ?_
  refine C_seq ?_
  refine C_seq ?_
  refine C_region ?_
  refine Rv (.int .i64 k) w3 ?_
  refine Rv fv1 w3 ?_
  refine Rw (.int .i64 ((a.take 30).length : Int)) w3 (X_len (hf1.mono sees3.mono) rfl Tryd.underlying26 rfl) ?_
  refine Rv (.bool (decide (k < ((a.take 30).length : Int)))) w3 ?_
  refine wpR_nil ?_
  refine E_then_normal ?_
  refine C_cond rfl (fun c1 => ?_) (fun c1 => ?_)
  · have d1 : k < ((a.take 30).length : Int) := of_decide_eq_true c1
    refine C_skip ?_
    refine E_then_normal ?_
    refine C_seq ?_
    refine C_block ?_
    refine C_seq ?_
    refine Cs [(20, (.bool (decide (k < ((a.take 30).length : Int))))), (4, (.int .i64 k)), (0, fv1), (3, (.bool true))] ?_
    refine C_region ?_
    refine Rv fv1 w3 ?_
    refine Rv (.int .i64 k) w3 ?_
    refine Rw (elemP 1 fv1 k) w3 (X_indexAddr (hf1.mono sees3.mono) (by first | omega | (have h3 : (⟨#[47]⟩ : ByteArray).size = 1 := rfl; omega)) (by first | omega | (have h3 : (⟨#[47]⟩ : ByteArray).size = 1 := rfl; omega)) rfl Tryd.underlying26 (by kernel_rfl) rfl rfl) ?_
    refine Rw (.string (nth (a.take 30) k)) w3 (X_load rfl rfl (run_load_str (hf1.mono sees3.mono) (by first | omega | (have h3 : (⟨#[47]⟩ : ByteArray).size = 1 := rfl; omega)) (by first | omega | (have h3 : (⟨#[47]⟩ : ByteArray).size = 1 := rfl; omega)) Tryd.underlying9 (by kernel_rfl))) ?_
    refine Rc #[(.string (nth (a.take 30) k))] w3 (valid_any (nth (a.take 30) k) _) ?_
    rintro _ w4 ⟨rfl, l3⟩
    have sees4 := sees3.le l3
    have be4 := l3.below' be3
    refine Rv (.bool ((validN (nth (a.take 30) k)) != 0)) w4 ?_
    refine wpR_nil ?_
    refine E_then_normal ?_
    refine C_cond rfl (fun c2 => ?_) (fun c2 => ?_)
    · have d2 : (validN (nth (a.take 30) k)) ≠ 0 := bne_iff_ne.1 c2
      refine C_seq ?_
      refine Cs [(28, (.bool ((validN (nth (a.take 30) k)) != 0))), (20, (.bool (decide (k < ((a.take 30).length : Int))))), (4, (.int .i64 k)), (0, fv1), (3, (.bool true))] ?_
      refine C_region ?_
      refine Rv (.bool true) w4 ?_
      refine Rv (.bool true) w4 ?_
      refine wpR_nil ?_
      refine E_then_normal ?_
      refine C_ret ?_
      refine E_block_ret ?_
      refine E_then_ret ?_
      refine E_then_ret ?_
      refine E_block_ret ?_
      refine E_then_ret ?_
      refine E_ret (res_one rfl rfl) ⟨_, rfl, ?_⟩
      exact ⟨rfl, be4⟩
    · have d2 : (validN (nth (a.take 30) k)) = 0 := bne_eq_false_iff_eq.1 c2
      refine C_skip ?_
      refine E_block_normal ?_
      refine E_then_normal ?_
      refine Cs [(28, (.bool ((validN (nth (a.take 30) k)) != 0))), (20, (.bool (decide (k < ((a.take 30).length : Int))))), (4, (.int .i64 k)), (0, fv1), (3, (.bool true))] ?_
      refine C_region ?_
      refine Rv (.int .i64 k) w4 ?_
      refine Rw (.int .i64 (k + 1)) w4 (eq_int (by kernel_rfl) (wrap64_in (by first | omega | (have h3 : (⟨#[47]⟩ : ByteArray).size = 1 := rfl; omega)) (by first | omega | (have h3 : (⟨#[47]⟩ : ByteArray).size = 1 := rfl; omega)))) ?_
      refine Rv (.int .i64 (k + 1)) w4 ?_
      refine wpR_nil ?_
      refine E_then_mid fun aq1 ha1 => ⟨k + 1, ha1.sub ⟨rfl, rfl, rfl, trivial⟩, ⟨by omega, by omega, allV_take (by omega) (by omega) hv c2, be4, sees4, trivial⟩, ?_⟩
      (first | omega | (dsimp only; omega))
  · have d1 : ¬ k < ((a.take 30).length : Int) := of_decide_eq_false c1
    refine C_exit ?_
    refine E_then_exit ?_
    refine E_then_exit ?_
    refine E_block_here ?_
    refine E_then_normal ?_
    refine C_seq ?_
    refine Cs [(20, (.bool (decide (k < ((a.take 30).length : Int))))), (4, (.int .i64 k)), (0, fv1), (3, (.bool true))] ?_
    refine C_region ?_
    refine Rv fv1 w3 ?_
    refine Rc #[fv1] w3 (join_any (a.take 30) fv1 _ _ sees3 hf1 (by have h1 := allV_size (allV_all (by omega) hv) (List.length_take_le _ _); omega)) ?_
    rintro _ w5 ⟨rfl, l4⟩
    have sees5 := sees3.le l4
    have be5 := l4.below' be3
    refine Rv (.string (joinN (a.take 30))) w5 ?_
    refine wpR_nil ?_
    refine E_then_normal ?_
    refine C_seq ?_
    refine Cs [(5, (.string (joinN (a.take 30)))), (20, (.bool (decide (k < ((a.take 30).length : Int))))), (4, (.int .i64 k)), (0, fv1), (3, (.bool true))] ?_
    refine C_region ?_
    refine Rv (.string (joinN (a.take 30))) w5 ?_
    refine Rc #[(.string (joinN (a.take 30)))] w5 (split_any (joinN (a.take 30)) g w5 sees5 (hm.below be5)) ?_
    rintro _ w6 ⟨sv1, rfl, hs1, l5⟩
    have sees6 := sees5.le l5
    have be6 := l5.below' be5
    obtain ⟨g1, hg1, sees7, gm1, nf1, agr1, gs1⟩ := heldFrom (g₀ := g) (w₀ := w) sees5 l5 be5.size
    rw [hg1] at hs1
    have agr1 := agr1 (Agr.refl g w)
    have hd1 := hf1.mono gm1
    refine Rv (.tuple #[sv1, (.bool ((splitN (joinN (a.take 30))).2.1)), (.int .i64 ((splitN (joinN (a.take 30))).2.2))]) w6 ?_
    refine Rv sv1 w6 ?_
    refine Rv (.bool ((splitN (joinN (a.take 30))).2.1)) w6 ?_
    refine Rv (.int .i64 ((splitN (joinN (a.take 30))).2.2)) w6 ?_
    refine Rv sv1 w6 ?_
    refine Rv (.bool ((splitN (joinN (a.take 30))).2.1)) w6 ?_
    refine Rv (.int .i64 ((splitN (joinN (a.take 30))).2.2)) w6 ?_
    refine wpR_nil ?_
    refine E_then_normal ?_
    refine C_seq ?_
    refine C_seq ?_
    refine Cs [(8, (.int .i64 ((splitN (joinN (a.take 30))).2.2))), (7, (.bool ((splitN (joinN (a.take 30))).2.1))), (6, sv1), (5, (.string (joinN (a.take 30)))), (20, (.bool (decide (k < ((a.take 30).length : Int))))), (4, (.int .i64 k)), (0, fv1), (3, (.bool true))] ?_
    refine C_region ?_
    refine Rv (.string (joinN (a.take 30))) w6 ?_
    refine Rw (.int .i64 ((joinN (a.take 30)).size : Int)) w6 (X_len_str rfl Tryd.underlying9 rfl) ?_
    refine Rv (.bool (decide (((joinN (a.take 30)).size : Int) ≥ 1000))) w6 ?_
    refine wpR_nil ?_
    refine E_then_normal ?_
    refine C_cond rfl (fun c3 => ?_) (fun c3 => ?_)
    · have d3 : ((joinN (a.take 30)).size : Int) ≥ 1000 := of_decide_eq_true c3
      refine C_seq ?_
      refine Cs [(40, (.bool (decide (((joinN (a.take 30)).size : Int) ≥ 1000)))), (8, (.int .i64 ((splitN (joinN (a.take 30))).2.2))), (7, (.bool ((splitN (joinN (a.take 30))).2.1))), (6, sv1), (5, (.string (joinN (a.take 30)))), (20, (.bool (decide (k < ((a.take 30).length : Int))))), (4, (.int .i64 k)), (0, fv1), (3, (.bool true))] ?_
      refine C_region ?_
      refine Rv (.bool true) w6 ?_
      refine Rv (.bool true) w6 ?_
      refine Rv (.string (joinN (a.take 30))) w6 ?_
      refine Rw (.int .i64 ((joinN (a.take 30)).size : Int)) w6 (X_len_str rfl Tryd.underlying9 rfl) ?_
      refine Rv (.bool (((joinN (a.take 30)).size : Int) == 1000)) w6 ?_
      rcases Bool.eq_false_or_eq_true (((joinN (a.take 30)).size : Int) == 1000) with c4 | c4
      · have d4 : ((joinN (a.take 30)).size : Int) = 1000 := eq_of_beq c4
        refine Rw (.bool true) w6 (eq_bool (by kernel_rfl) c4) ?_
        iterate 2 refine Rs ?_
        refine Rv (.bool true) w6 ?_
        refine Rv (.bool true) w6 ?_
        refine Rv (.bool true) w6 ?_
        refine wpR_nil ?_
        refine E_then_normal ?_
        refine C_ret ?_
        refine E_then_ret ?_
        refine E_ret (res_one rfl rfl) ⟨_, rfl, ?_⟩
        have hvv := allV_all (by omega) hv
        first | exact ⟨congrArg Value.bool (by first | rfl | (rw [splitN_long (s := joinN (a.take 30)) (by omega)]; rfl) | simp_all), be6⟩ | (exfalso; have b3 := splitN_long (s := joinN (a.take 30)) (by omega); simp_all; done)
      · have d4 : ((joinN (a.take 30)).size : Int) ≠ 1000 := ne_of_beq_false c4
        refine Rw (.bool false) w6 (eq_bool (by kernel_rfl) c4) ?_
        refine Rv (.int .i64 ((splitN (joinN (a.take 30))).2.2)) w6 ?_
        refine Rv (.bool (((splitN (joinN (a.take 30))).2.2) == 23)) w6 ?_
        refine Rv (.bool (((splitN (joinN (a.take 30))).2.2) == 23)) w6 ?_
        refine Rv (.bool (((splitN (joinN (a.take 30))).2.2) == 23)) w6 ?_
        refine Rv (.bool (((splitN (joinN (a.take 30))).2.2) == 23)) w6 ?_
        refine wpR_nil ?_
        refine E_then_normal ?_
        refine C_ret ?_
        refine E_then_ret ?_
        refine E_ret (res_one rfl rfl) ⟨_, rfl, ?_⟩
        have hvv := allV_all (by omega) hv
        first | exact ⟨congrArg Value.bool (by first | rfl | (rw [splitN_long (s := joinN (a.take 30)) (by omega)]; rfl) | simp_all), be6⟩ | (exfalso; have b3 := splitN_long (s := joinN (a.take 30)) (by omega); simp_all; done)
    · have d3 : ¬ ((joinN (a.take 30)).size : Int) ≥ 1000 := of_decide_eq_false c3
      refine C_skip ?_
      refine E_then_normal ?_
      refine C_seq ?_
      refine Cs [(40, (.bool (decide (((joinN (a.take 30)).size : Int) ≥ 1000)))), (8, (.int .i64 ((splitN (joinN (a.take 30))).2.2))), (7, (.bool ((splitN (joinN (a.take 30))).2.1))), (6, sv1), (5, (.string (joinN (a.take 30)))), (20, (.bool (decide (k < ((a.take 30).length : Int))))), (4, (.int .i64 k)), (0, fv1), (3, (.bool true))] ?_
      refine C_region ?_
      refine Rv (.string (joinN (a.take 30))) w6 ?_
      refine Rw (.string ((joinN (a.take 30)) ++ (⟨#[47]⟩ : ByteArray))) w6 (X_add_str (by first | omega | (have h3 : (⟨#[47]⟩ : ByteArray).size = 1 := rfl; omega)) rfl rfl rfl) ?_
      refine Rc #[(.string ((joinN (a.take 30)) ++ (⟨#[47]⟩ : ByteArray)))] w6 (split_any ((joinN (a.take 30)) ++ (⟨#[47]⟩ : ByteArray)) g1 w6 sees7 (hm.below be6)) ?_
      rintro _ w7 ⟨sv2, rfl, hs2, l6⟩
      have sees8 := sees7.le l6
      have be7 := l6.below' be6
      obtain ⟨g2, hg2, sees9, gm2, nf2, agr2, gs2⟩ := heldFrom (g₀ := g) (w₀ := w) sees7 l6 be6.size
      rw [hg2] at hs2
      have agr2 := agr2 agr1
      have hd2 := hs1.mono gm2
      have hd3 := hd1.mono gm2
      refine Rv (.tuple #[sv2, (.bool ((splitN ((joinN (a.take 30)) ++ (⟨#[47]⟩ : ByteArray))).2.1)), (.int .i64 ((splitN ((joinN (a.take 30)) ++ (⟨#[47]⟩ : ByteArray))).2.2))]) w7 ?_
      refine Rv sv2 w7 ?_
      refine Rv (.bool ((splitN ((joinN (a.take 30)) ++ (⟨#[47]⟩ : ByteArray))).2.1)) w7 ?_
      refine Rv (.int .i64 ((splitN ((joinN (a.take 30)) ++ (⟨#[47]⟩ : ByteArray))).2.2)) w7 ?_
      refine Rv sv2 w7 ?_
      refine Rv (.bool ((splitN ((joinN (a.take 30)) ++ (⟨#[47]⟩ : ByteArray))).2.1)) w7 ?_
      refine Rv (.int .i64 ((splitN ((joinN (a.take 30)) ++ (⟨#[47]⟩ : ByteArray))).2.2)) w7 ?_
      refine wpR_nil ?_
      refine E_then_normal ?_
      refine C_seq ?_
      refine Cs [(11, (.int .i64 ((splitN ((joinN (a.take 30)) ++ (⟨#[47]⟩ : ByteArray))).2.2))), (10, (.bool ((splitN ((joinN (a.take 30)) ++ (⟨#[47]⟩ : ByteArray))).2.1))), (9, sv2), (40, (.bool (decide (((joinN (a.take 30)).size : Int) ≥ 1000)))), (8, (.int .i64 ((splitN (joinN (a.take 30))).2.2))), (7, (.bool ((splitN (joinN (a.take 30))).2.1))), (6, sv1), (5, (.string (joinN (a.take 30)))), (20, (.bool (decide (k < ((a.take 30).length : Int))))), (4, (.int .i64 k)), (0, fv1), (3, (.bool true))] ?_
      refine C_region ?_
      refine Rv sv1 w7 ?_
      refine Rv fv1 w7 ?_
      refine Rc #[sv1, fv1] w7 (refsame_any ((splitN (joinN (a.take 30))).1) (a.take 30) sv1 fv1 _ _ sees9 hd2 hd3) ?_
      rintro _ w8 ⟨rfl, l7⟩
      have sees10 := sees9.le l7
      have be8 := l7.below' be7
      refine Rv (.bool (sameL ((splitN (joinN (a.take 30))).1) (a.take 30))) w8 ?_
      refine wpR_nil ?_
      refine E_then_normal ?_
      refine C_seq ?_
      refine Cs [(12, (.bool (sameL ((splitN (joinN (a.take 30))).1) (a.take 30)))), (11, (.int .i64 ((splitN ((joinN (a.take 30)) ++ (⟨#[47]⟩ : ByteArray))).2.2))), (10, (.bool ((splitN ((joinN (a.take 30)) ++ (⟨#[47]⟩ : ByteArray))).2.1))), (9, sv2), (40, (.bool (decide (((joinN (a.take 30)).size : Int) ≥ 1000)))), (8, (.int .i64 ((splitN (joinN (a.take 30))).2.2))), (7, (.bool ((splitN (joinN (a.take 30))).2.1))), (6, sv1), (5, (.string (joinN (a.take 30)))), (20, (.bool (decide (k < ((a.take 30).length : Int))))), (4, (.int .i64 k)), (0, fv1), (3, (.bool true))] ?_
      refine C_region ?_
      refine Rv sv2 w8 ?_
      refine Rv fv1 w8 ?_
      refine Rc #[sv2, fv1] w8 (refsame_any ((splitN ((joinN (a.take 30)) ++ (⟨#[47]⟩ : ByteArray))).1) (a.take 30) sv2 fv1 _ _ sees10 hs2 hd3) ?_
      rintro _ w9 ⟨rfl, l8⟩
      have sees11 := sees10.le l8
      have be9 := l8.below' be8
      refine Rv (.bool (sameL ((splitN ((joinN (a.take 30)) ++ (⟨#[47]⟩ : ByteArray))).1) (a.take 30))) w9 ?_
      refine wpR_nil ?_
      refine E_then_normal ?_
      refine C_seq ?_
      refine Cs [(13, (.bool (sameL ((splitN ((joinN (a.take 30)) ++ (⟨#[47]⟩ : ByteArray))).1) (a.take 30)))), (12, (.bool (sameL ((splitN (joinN (a.take 30))).1) (a.take 30)))), (11, (.int .i64 ((splitN ((joinN (a.take 30)) ++ (⟨#[47]⟩ : ByteArray))).2.2))), (10, (.bool ((splitN ((joinN (a.take 30)) ++ (⟨#[47]⟩ : ByteArray))).2.1))), (9, sv2), (40, (.bool (decide (((joinN (a.take 30)).size : Int) ≥ 1000)))), (8, (.int .i64 ((splitN (joinN (a.take 30))).2.2))), (7, (.bool ((splitN (joinN (a.take 30))).2.1))), (6, sv1), (5, (.string (joinN (a.take 30)))), (20, (.bool (decide (k < ((a.take 30).length : Int))))), (4, (.int .i64 k)), (0, fv1), (3, (.bool true))] ?_
      refine C_region ?_
      refine Rv (.bool true) w9 ?_
      refine Rv (.bool true) w9 ?_
      refine Rv (.bool (sameL ((splitN (joinN (a.take 30))).1) (a.take 30))) w9 ?_
      refine Rv (.bool (sameL ((splitN (joinN (a.take 30))).1) (a.take 30))) w9 ?_
      rcases Bool.eq_false_or_eq_true (sameL ((splitN (joinN (a.take 30))).1) (a.take 30)) with c5 | c5
      · refine Rw (.bool true) w9 (eq_bool (by kernel_rfl) c5) ?_
        refine Rv (.int .i64 ((splitN (joinN (a.take 30))).2.2)) w9 ?_
        refine Rv (.bool (((splitN (joinN (a.take 30))).2.2) == 0)) w9 ?_
        refine Rv (.bool (((splitN (joinN (a.take 30))).2.2) == 0)) w9 ?_
        rcases Bool.eq_false_or_eq_true (((splitN (joinN (a.take 30))).2.2) == 0) with c6 | c6
        · have d6 : ((splitN (joinN (a.take 30))).2.2) = 0 := eq_of_beq c6
          refine Rw (.bool true) w9 (eq_bool (by kernel_rfl) c6) ?_
          refine Rv (.bool ((splitN (joinN (a.take 30))).2.1)) w9 ?_
          refine Rv fv1 w9 ?_
          refine Rw (.int .i64 ((a.take 30).length : Int)) w9 (X_len (hd3.mono sees11.mono) rfl Tryd.underlying26 rfl) ?_
          refine Rv (.bool (((a.take 30).length : Int) == 0)) w9 ?_
          refine Rv (.bool (((splitN (joinN (a.take 30))).2.1) == (((a.take 30).length : Int) == 0))) w9 ?_
          refine Rv (.bool (((splitN (joinN (a.take 30))).2.1) == (((a.take 30).length : Int) == 0))) w9 ?_
          rcases Bool.eq_false_or_eq_true (((splitN (joinN (a.take 30))).2.1) == (((a.take 30).length : Int) == 0)) with c7 | c7
          · refine Rw (.bool true) w9 (eq_bool (by kernel_rfl) c7) ?_
            refine Rv (.bool (sameL ((splitN ((joinN (a.take 30)) ++ (⟨#[47]⟩ : ByteArray))).1) (a.take 30))) w9 ?_
            refine Rv (.bool (sameL ((splitN ((joinN (a.take 30)) ++ (⟨#[47]⟩ : ByteArray))).1) (a.take 30))) w9 ?_
            rcases Bool.eq_false_or_eq_true (sameL ((splitN ((joinN (a.take 30)) ++ (⟨#[47]⟩ : ByteArray))).1) (a.take 30)) with c8 | c8
            · refine Rw (.bool true) w9 (eq_bool (by kernel_rfl) c8) ?_
              refine Rv (.int .i64 ((splitN ((joinN (a.take 30)) ++ (⟨#[47]⟩ : ByteArray))).2.2)) w9 ?_
              refine Rv (.bool (((splitN ((joinN (a.take 30)) ++ (⟨#[47]⟩ : ByteArray))).2.2) == 0)) w9 ?_
              refine Rv (.bool (((splitN ((joinN (a.take 30)) ++ (⟨#[47]⟩ : ByteArray))).2.2) == 0)) w9 ?_
              rcases Bool.eq_false_or_eq_true (((splitN ((joinN (a.take 30)) ++ (⟨#[47]⟩ : ByteArray))).2.2) == 0) with c9 | c9
              · have d9 : ((splitN ((joinN (a.take 30)) ++ (⟨#[47]⟩ : ByteArray))).2.2) = 0 := eq_of_beq c9
                refine Rw (.bool true) w9 (eq_bool (by kernel_rfl) c9) ?_
                refine Rv (.bool ((splitN ((joinN (a.take 30)) ++ (⟨#[47]⟩ : ByteArray))).2.1)) w9 ?_
                refine Rv (.bool ((splitN ((joinN (a.take 30)) ++ (⟨#[47]⟩ : ByteArray))).2.1)) w9 ?_
                refine Rv (.bool ((splitN ((joinN (a.take 30)) ++ (⟨#[47]⟩ : ByteArray))).2.1)) w9 ?_
                refine wpR_nil ?_
                refine E_then_normal ?_
                refine C_ret ?_
                refine E_ret (res_one rfl rfl) ⟨_, rfl, ?_⟩
                have hvv := allV_all (by omega) hv
                have b1 := back_one hvv (by omega); have b2 := back_two hvv (by omega)
                simp only [b1, b2, same_self] at *
                first | exact ⟨trivial, be9⟩ | exact ⟨congrArg Value.bool (by simp_all), be9⟩ | (exfalso; simp_all; done)
              · have d9 : ((splitN ((joinN (a.take 30)) ++ (⟨#[47]⟩ : ByteArray))).2.2) ≠ 0 := ne_of_beq_false c9
                refine Rw (.bool false) w9 (eq_bool (by kernel_rfl) c9) ?_
                refine Rs ?_
                refine Rv (.bool false) w9 ?_
                refine Rv (.bool false) w9 ?_
                refine wpR_nil ?_
                refine E_then_normal ?_
                refine C_ret ?_
                refine E_ret (res_one rfl rfl) ⟨_, rfl, ?_⟩
                have hvv := allV_all (by omega) hv
                have b1 := back_one hvv (by omega); have b2 := back_two hvv (by omega)
                simp only [b1, b2, same_self] at *
                first | exact ⟨trivial, be9⟩ | exact ⟨congrArg Value.bool (by simp_all), be9⟩ | (exfalso; simp_all; done)
            · refine Rw (.bool false) w9 (eq_bool (by kernel_rfl) c8) ?_
              iterate 2 refine Rs ?_
              refine Rv (.bool false) w9 ?_
              refine Rv (.bool false) w9 ?_
              refine Rs ?_
              refine Rv (.bool false) w9 ?_
              refine Rv (.bool false) w9 ?_
              refine wpR_nil ?_
              refine E_then_normal ?_
              refine C_ret ?_
              refine E_ret (res_one rfl rfl) ⟨_, rfl, ?_⟩
              have hvv := allV_all (by omega) hv
              have b1 := back_one hvv (by omega); have b2 := back_two hvv (by omega)
              simp only [b1, b2, same_self] at *
              first | exact ⟨trivial, be9⟩ | exact ⟨congrArg Value.bool (by simp_all), be9⟩ | (exfalso; simp_all; done)
          · refine Rw (.bool false) w9 (eq_bool (by kernel_rfl) c7) ?_
            refine Rs ?_
            refine Rv (.bool false) w9 ?_
            refine Rv (.bool false) w9 ?_
            iterate 2 refine Rs ?_
            refine Rv (.bool false) w9 ?_
            refine Rv (.bool false) w9 ?_
            refine Rs ?_
            refine Rv (.bool false) w9 ?_
            refine Rv (.bool false) w9 ?_
            refine wpR_nil ?_
            refine E_then_normal ?_
            refine C_ret ?_
            refine E_ret (res_one rfl rfl) ⟨_, rfl, ?_⟩
            have hvv := allV_all (by omega) hv
            have b1 := back_one hvv (by omega); have b2 := back_two hvv (by omega)
            simp only [b1, b2, same_self] at *
            first | exact ⟨trivial, be9⟩ | exact ⟨congrArg Value.bool (by simp_all), be9⟩ | (exfalso; simp_all; done)
        · have d6 : ((splitN (joinN (a.take 30))).2.2) ≠ 0 := ne_of_beq_false c6
          refine Rw (.bool false) w9 (eq_bool (by kernel_rfl) c6) ?_
          iterate 5 refine Rs ?_
          refine Rv (.bool false) w9 ?_
          refine Rv (.bool false) w9 ?_
          refine Rs ?_
          refine Rv (.bool false) w9 ?_
          refine Rv (.bool false) w9 ?_
          iterate 2 refine Rs ?_
          refine Rv (.bool false) w9 ?_
          refine Rv (.bool false) w9 ?_
          refine Rs ?_
          refine Rv (.bool false) w9 ?_
          refine Rv (.bool false) w9 ?_
          refine wpR_nil ?_
          refine E_then_normal ?_
          refine C_ret ?_
          refine E_ret (res_one rfl rfl) ⟨_, rfl, ?_⟩
          have hvv := allV_all (by omega) hv
          have b1 := back_one hvv (by omega); have b2 := back_two hvv (by omega)
          simp only [b1, b2, same_self] at *
          first | exact ⟨trivial, be9⟩ | exact ⟨congrArg Value.bool (by simp_all), be9⟩ | (exfalso; simp_all; done)
      · refine Rw (.bool false) w9 (eq_bool (by kernel_rfl) c5) ?_
        iterate 2 refine Rs ?_
        refine Rv (.bool false) w9 ?_
        refine Rv (.bool false) w9 ?_
        iterate 5 refine Rs ?_
        refine Rv (.bool false) w9 ?_
        refine Rv (.bool false) w9 ?_
        refine Rs ?_
        refine Rv (.bool false) w9 ?_
        refine Rv (.bool false) w9 ?_
        iterate 2 refine Rs ?_
        refine Rv (.bool false) w9 ?_
        refine Rv (.bool false) w9 ?_
        refine Rs ?_
        refine Rv (.bool false) w9 ?_
        refine Rv (.bool false) w9 ?_
        refine wpR_nil ?_
        refine E_then_normal ?_
        refine C_ret ?_
        refine E_ret (res_one rfl rfl) ⟨_, rfl, ?_⟩
        have hvv := allV_all (by omega) hv
        have b1 := back_one hvv (by omega); have b2 := back_two hvv (by omega)
        simp only [b1, b2, same_self] at *
        first | exact ⟨trivial, be9⟩ | exact ⟨congrArg Value.bool (by simp_all), be9⟩ | (exfalso; simp_all; done)
end Go.Proofs.YtepekaepgeekcaaDoor
