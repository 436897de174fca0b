/- What further laws come to. (Printed by a program of mine.) -/
import Derived.Test.YtepekaepgeekcaaDoorLaws
import Derived.Test.YtepekaepgeekcaaDoorRefs
import Derived.Test.YtepekaepgeekcaaDoorLmBack
import Derived.Test.YtepekaepgeekcaaDoorLmTwo
namespace Go.Proofs.YtepekaepgeekcaaDoor
open Go Go.RowKit Go.Lm
set_option linter.unusedVariables false in
set_option linter.unusedSimpArgs false in
set_option maxHeartbeats 4000000 in
set_option maxRecDepth 100000 in
theorem nameSplits_any (s : ByteArray) (a : List ByteArray) (va : Value) (g w : World) (sees : Sees g w) (h_a : Is g va a)(hm : MaxL 0 w) (hb : (joinN (a.take 30)).size ≤ 140737488355328) : Ret Tryd.prog 6 #[(.string s), va] w fun v w' => v = .bool true ∧ Le w w' := by
  have ln_h_a := h_a.len_le
  have be0 := Below.refl w.heap.size w
  refine enter (args := [(.string s), va]) Tryd.func6 rfl rfl rfl ?_
  refine C_seq ?_
  refine C_region ?_
  refine Rv (.bool false) w ?_
  refine wpR_nil ?_
  refine E_then_normal ?_
  refine C_seq ?_
  refine C_region ?_
  refine Rc #[] w (shown_any g w sees (hm.below be0)) ?_
  rintro _ w1 ⟨rfl, l1⟩
  have sees1 := sees.le l1
  have be1 := l1.below' be0
  refine Rv (.bool true) w1 ?_
  refine wpR_nil ?_
  refine E_then_normal ?_
  refine C_seq ?_
  refine Cs [(5, (.bool true)), (4, (.bool false)), (0, (.string s)), (1, va)] ?_
  refine C_region ?_
  refine Rv va w1 ?_
  refine Rc #[va] w1 (few_any a va _ _ sees1 h_a) ?_
  rintro fv1 w2 ⟨hf1, l2⟩
  have sees2 := sees1.le l2
  have be2 := l2.below' be1
  have ln_hf1 := hf1.len_le
  refine Rv fv1 w2 ?_
  refine wpR_nil ?_
  refine E_then_normal ?_
  refine C_seq ?_
  refine Cs [(1, fv1), (5, (.bool true)), (4, (.bool false)), (0, (.string s))] ?_
  refine C_region ?_
  refine Rv (.string s) w2 ?_
  refine Rc #[(.string s)] w2 (split_any s g w2 sees2 (hm.below be2)) ?_
  rintro _ w3 ⟨sv1, rfl, hs1, l3⟩
  have sees3 := sees2.le l3
  have be3 := l3.below' be2
  obtain ⟨g1, hg1, sees4, gm1, nf1, agr1, gs1⟩ := heldFrom (g₀ := g) (w₀ := w) sees2 l3 be2.size
  rw [hg1] at hs1
  have agr1 := agr1 (Agr.refl g w)
  have hd1 := hf1.mono gm1
  refine Rv (.tuple #[sv1, (.bool ((splitN s).2.1)), (.int .i64 ((splitN s).2.2))]) w3 ?_
  refine Rv sv1 w3 ?_
  refine Rv (.bool ((splitN s).2.1)) w3 ?_
  refine Rv (.int .i64 ((splitN s).2.2)) w3 ?_
  refine Rv sv1 w3 ?_
  refine Rv (.bool ((splitN s).2.1)) w3 ?_
  refine Rv (.int .i64 ((splitN s).2.2)) w3 ?_
  refine wpR_nil ?_
  refine E_then_normal ?_
  refine C_seq ?_
  refine Cs [(8, (.int .i64 ((splitN s).2.2))), (7, (.bool ((splitN s).2.1))), (6, sv1), (1, fv1), (5, (.bool true)), (4, (.bool false)), (0, (.string s))] ?_
  refine C_region ?_
  refine Rv (.string s) w3 ?_
  refine Rc #[(.string s)] w3 (refsplit_any s g1 w3 sees4) ?_
  rintro _ w4 ⟨sv2, rfl, hs2, l4⟩
  have sees5 := sees4.le l4
  have be4 := l4.below' be3
  obtain ⟨g2, hg2, sees6, gm2, nf2, agr2, gs2⟩ := heldFrom (g₀ := g) (w₀ := w) sees4 l4 be3.size
  rw [hg2] at hs2
  have agr2 := agr2 agr1
  have hd2 := hs1.mono gm2
  have hd3 := hd1.mono gm2
  refine Rv (.tuple #[sv2, (.bool ((splitN s).2.1)), (.int .i64 ((splitN s).2.2))]) w4 ?_
  refine Rv sv2 w4 ?_
  refine Rv (.bool ((splitN s).2.1)) w4 ?_
  refine Rv (.int .i64 ((splitN s).2.2)) w4 ?_
  refine Rv sv2 w4 ?_
  refine Rv (.bool ((splitN s).2.1)) w4 ?_
  refine Rv (.int .i64 ((splitN s).2.2)) w4 ?_
  refine wpR_nil ?_
  refine E_then_normal ?_
  refine C_seq ?_
  refine Cs [(11, (.int .i64 ((splitN s).2.2))), (10, (.bool ((splitN s).2.1))), (9, sv2), (8, (.int .i64 ((splitN s).2.2))), (7, (.bool ((splitN s).2.1))), (6, sv1), (1, fv1), (5, (.bool true)), (4, (.bool false)), (0, (.string s))] ?_
  refine C_region ?_
  refine Rv sv1 w4 ?_
  refine Rv sv2 w4 ?_
  refine Rc #[sv1, sv2] w4 (refsame_any ((splitN s).1) ((splitN s).1) sv1 sv2 _ _ sees6 hd2 hs2) ?_
  rintro _ w5 ⟨rfl, l5⟩
  have sees7 := sees6.le l5
  have be5 := l5.below' be4
  refine Rv (.bool (sameL ((splitN s).1) ((splitN s).1))) w5 ?_
  refine wpR_nil ?_
  refine E_then_normal ?_
  refine C_seq ?_
  refine Cs [(12, (.bool (sameL ((splitN s).1) ((splitN s).1)))), (11, (.int .i64 ((splitN s).2.2))), (10, (.bool ((splitN s).2.1))), (9, sv2), (8, (.int .i64 ((splitN s).2.2))), (7, (.bool ((splitN s).2.1))), (6, sv1), (1, fv1), (5, (.bool true)), (4, (.bool false)), (0, (.string s))] ?_
  refine C_region ?_
  refine Rv (.bool true) w5 ?_
  refine Rv (.bool true) w5 ?_
  refine Rv (.bool (sameL ((splitN s).1) ((splitN s).1))) w5 ?_
  refine Rv (.bool (sameL ((splitN s).1) ((splitN s).1))) w5 ?_
  rcases Bool.eq_false_or_eq_true (sameL ((splitN s).1) ((splitN s).1)) with c1 | c1
  · refine Rw (.bool true) w5 (eq_bool (by kernel_rfl) c1) ?_
    refine Rv (.bool ((splitN s).2.1)) w5 ?_
    refine Rv (.bool ((splitN s).2.1)) w5 ?_
    refine Rv (.bool (((splitN s).2.1) == ((splitN s).2.1))) w5 ?_
    refine Rv (.bool (((splitN s).2.1) == ((splitN s).2.1))) w5 ?_
    rcases Bool.eq_false_or_eq_true (((splitN s).2.1) == ((splitN s).2.1)) with c2 | c2
    · refine Rw (.bool true) w5 (eq_bool (by kernel_rfl) c2) ?_
      refine Rv (.int .i64 ((splitN s).2.2)) w5 ?_
      refine Rv (.int .i64 ((splitN s).2.2)) w5 ?_
      refine Rv (.bool (((splitN s).2.2) == ((splitN s).2.2))) w5 ?_
      refine Rv (.bool (((splitN s).2.2) == ((splitN s).2.2))) w5 ?_
      rcases Bool.eq_false_or_eq_true (((splitN s).2.2) == ((splitN s).2.2)) with c3 | c3
      · have d3 : ((splitN s).2.2) = ((splitN s).2.2) := eq_of_beq c3
        refine Rw (.bool true) w5 (eq_bool (by kernel_rfl) c3) ?_
        refine Rv fv1 w5 ?_
        refine Rc #[fv1] w5 (join_any (a.take 30) fv1 _ _ sees7 hd3 (by assumption)) ?_
        rintro _ w6 ⟨rfl, l6⟩
        have sees8 := sees7.le l6
        have be6 := l6.below' be5
        refine Rv fv1 w6 ?_
        refine Rc #[fv1] w6 (refjoin_any (a.take 30) fv1 _ _ sees8 hd3 (by assumption)) ?_
        rintro _ w7 ⟨rfl, l7⟩
        have sees9 := sees8.le l7
        have be7 := l7.below' be6
        refine Rv (.bool ((joinN (a.take 30)).toList == (joinN (a.take 30)).toList)) w7 ?_
        refine Rv (.bool ((joinN (a.take 30)).toList == (joinN (a.take 30)).toList)) w7 ?_
        refine Rv (.bool ((joinN (a.take 30)).toList == (joinN (a.take 30)).toList)) w7 ?_
        refine wpR_nil ?_
        refine E_then_normal ?_
        refine C_ret ?_
        refine E_ret (res_one rfl rfl) ⟨_, rfl, ?_⟩
        first | exact ⟨congrArg Value.bool (by simp_all [same_self]), be7⟩ | (exfalso; simp_all [same_self]; done)
      · have d3 : ((splitN s).2.2) ≠ ((splitN s).2.2) := ne_of_beq_false c3
        refine Rw (.bool false) w5 (eq_bool (by kernel_rfl) c3) ?_
        iterate 5 refine Rs ?_
        refine Rv (.bool false) w5 ?_
        refine Rv (.bool false) w5 ?_
        refine wpR_nil ?_
        refine E_then_normal ?_
        refine C_ret ?_
        refine E_ret (res_one rfl rfl) ⟨_, rfl, ?_⟩
        first | exact ⟨congrArg Value.bool (by simp_all [same_self]), be5⟩ | (exfalso; simp_all [same_self]; done)
    · refine Rw (.bool false) w5 (eq_bool (by kernel_rfl) c2) ?_
      iterate 3 refine Rs ?_
      refine Rv (.bool false) w5 ?_
      refine Rv (.bool false) w5 ?_
      iterate 5 refine Rs ?_
      refine Rv (.bool false) w5 ?_
      refine Rv (.bool false) w5 ?_
      refine wpR_nil ?_
      refine E_then_normal ?_
      refine C_ret ?_
      refine E_ret (res_one rfl rfl) ⟨_, rfl, ?_⟩
      first | exact ⟨congrArg Value.bool (by simp_all [same_self]), be5⟩ | (exfalso; simp_all [same_self]; done)
  · refine Rw (.bool false) w5 (eq_bool (by kernel_rfl) c1) ?_
    iterate 3 refine Rs ?_
    refine Rv (.bool false) w5 ?_
    refine Rv (.bool false) w5 ?_
    iterate 3 refine Rs ?_
    refine Rv (.bool false) w5 ?_
    refine Rv (.bool false) w5 ?_
    iterate 5 refine Rs ?_
    refine Rv (.bool false) w5 ?_
    refine Rv (.bool false) w5 ?_
    refine wpR_nil ?_
    refine E_then_normal ?_
    refine C_ret ?_
    refine E_ret (res_one rfl rfl) ⟨_, rfl, ?_⟩
    first | exact ⟨congrArg Value.bool (by simp_all [same_self]), be5⟩ | (exfalso; simp_all [same_self]; done)

set_option linter.unusedVariables false in
set_option linter.unusedSimpArgs false in
set_option maxHeartbeats 4000000 in
set_option maxRecDepth 100000 in
theorem nameBack_any (a : List ByteArray) (va : Value) (g w : World) (sees : Sees g w) (h_a : Is g va a)(hm : MaxL 0 w) : Ret Tryd.prog 7 #[va] w fun v w' => v = .bool true ∧ Le w w' := by
  have ln_h_a := h_a.len_le
  have be0 := Below.refl w.heap.size w
  refine enter (args := [va]) Tryd.func7 rfl rfl rfl ?_
  refine C_seq ?_
  refine C_region ?_
  refine Rv (.bool false) w ?_
  refine wpR_nil ?_
  refine E_then_normal ?_
  refine C_seq ?_
  refine C_region ?_
  refine Rc #[] w (shown_any g w sees (hm.below be0)) ?_
  rintro _ w1 ⟨rfl, l1⟩
  have sees1 := sees.le l1
  have be1 := l1.below' be0
  refine Rv (.bool true) w1 ?_
  refine wpR_nil ?_
  refine E_then_normal ?_
  refine C_seq ?_
  refine Cs [(3, (.bool true)), (2, (.bool false)), (0, va)] ?_
  refine C_region ?_
  refine Rv va w1 ?_
  refine Rc #[va] w1 (few_any a va _ _ sees1 h_a) ?_
  rintro fv1 w2 ⟨hf1, l2⟩
  have sees2 := sees1.le l2
  have be2 := l2.below' be1
  have ln_hf1 := hf1.len_le
  refine Rv fv1 w2 ?_
  refine wpR_nil ?_
  refine E_then_normal ?_
  refine C_seq ?_
  refine C_seq ?_
  refine Cs [(0, fv1), (3, (.bool true)), (2, (.bool false))] ?_
  refine C_region ?_
  refine Rv (.int .i64 0) w2 ?_
  refine wpR_nil ?_
  refine E_then_normal ?_
  refine C_block ?_
  refine C_loop (ι := Int) (fun k : Int => [(4, (.int .i64 k)), (0, fv1), (3, (.bool true))]) (fun (k : Int) w' => 0 ≤ k ∧ k ≤ (a.take 30).length ∧ allV ((a.take 30).take k.toNat) ∧ Below w.heap.size w w' ∧ Sees g w' ∧ True) (fun k : Int => (((a.take 30).length : Int) - k).toNat) 0 ⟨rfl, rfl, rfl, trivial⟩ ⟨by omega, by omega, fun x hx => by simp at hx, be2, sees2, trivial⟩ ?_
  rintro k w3 ⟨hk0, hkl, hv, be3, sees3, -⟩
  refine Cs [(4, (.int .i64 k)), (0, fv1), (3, (.bool true))] ?_
  refine C_seq ?_
  refine C_seq ?_
  refine C_region ?_
  refine Rv (.int .i64 k) w3 ?_
  refine Rv fv1 w3 ?_
  refine Rw (.int .i64 ((a.take 30).length : Int)) w3 (X_len (hf1.mono sees3.mono) rfl Tryd.underlying26 rfl) ?_
  refine Rv (.bool (decide (k < ((a.take 30).length : Int)))) w3 ?_
  refine wpR_nil ?_
  refine E_then_normal ?_
  refine C_cond rfl (fun c1 => ?_) (fun c1 => ?_)
  · have d1 : k < ((a.take 30).length : Int) := of_decide_eq_true c1
    refine C_skip ?_
    refine E_then_normal ?_
    refine C_seq ?_
    refine C_block ?_
    refine C_seq ?_
    refine Cs [(20, (.bool (decide (k < ((a.take 30).length : Int))))), (4, (.int .i64 k)), (0, fv1), (3, (.bool true))] ?_
    refine C_region ?_
    refine Rv fv1 w3 ?_
    refine Rv (.int .i64 k) w3 ?_
    refine Rw (elemP 1 fv1 k) w3 (X_indexAddr (hf1.mono sees3.mono) (by first | omega | (have h3 : (⟨#[47]⟩ : ByteArray).size = 1 := rfl; omega)) (by first | omega | (have h3 : (⟨#[47]⟩ : ByteArray).size = 1 := rfl; omega)) rfl Tryd.underlying26 (by kernel_rfl) rfl rfl) ?_
    refine Rw (.string (nth (a.take 30) k)) w3 (X_load rfl rfl (run_load_str (hf1.mono sees3.mono) (by first | omega | (have h3 : (⟨#[47]⟩ : ByteArray).size = 1 := rfl; omega)) (by first | omega | (have h3 : (⟨#[47]⟩ : ByteArray).size = 1 := rfl; omega)) Tryd.underlying9 (by kernel_rfl))) ?_
    refine Rc #[(.string (nth (a.take 30) k))] w3 (valid_any (nth (a.take 30) k) _) ?_
    rintro _ w4 ⟨rfl, l3⟩
    have sees4 := sees3.le l3
    have be4 := l3.below' be3
    refine Rv (.bool ((validN (nth (a.take 30) k)) != 0)) w4 ?_
    refine wpR_nil ?_
    refine E_then_normal ?_
    refine C_cond rfl (fun c2 => ?_) (fun c2 => ?_)
    · have d2 : (validN (nth (a.take 30) k)) ≠ 0 := bne_iff_ne.1 c2
      refine C_seq ?_
      refine Cs [(28, (.bool ((validN (nth (a.take 30) k)) != 0))), (20, (.bool (decide (k < ((a.take 30).length : Int))))), (4, (.int .i64 k)), (0, fv1), (3, (.bool true))] ?_
      refine C_region ?_
      refine Rv (.bool true) w4 ?_
      refine Rv (.bool true) w4 ?_
      refine wpR_nil ?_
      refine E_then_normal ?_
      refine C_ret ?_
      refine E_block_ret ?_
      refine E_then_ret ?_
      refine E_then_ret ?_
      refine E_block_ret ?_
      refine E_then_ret ?_
      refine E_ret (res_one rfl rfl) ⟨_, rfl, ?_⟩
      exact ⟨rfl, be4⟩
    · have d2 : (validN (nth (a.take 30) k)) = 0 := bne_eq_false_iff_eq.1 c2
      refine C_skip ?_
      refine E_block_normal ?_
      refine E_then_normal ?_
      refine Cs [(28, (.bool ((validN (nth (a.take 30) k)) != 0))), (20, (.bool (decide (k < ((a.take 30).length : Int))))), (4, (.int .i64 k)), (0, fv1), (3, (.bool true))] ?_
      refine C_region ?_
      refine Rv (.int .i64 k) w4 ?_
      refine Rw (.int .i64 (k + 1)) w4 (eq_int (by kernel_rfl) (wrap64_in (by first | omega | (have h3 : (⟨#[47]⟩ : ByteArray).size = 1 := rfl; omega)) (by first | omega | (have h3 : (⟨#[47]⟩ : ByteArray).size = 1 := rfl; omega)))) ?_
      refine Rv (.int .i64 (k + 1)) w4 ?_
      refine wpR_nil ?_
      refine E_then_mid fun aq1 ha1 => ⟨k + 1, ha1.sub ⟨rfl, rfl, rfl, trivial⟩, ⟨by omega, by omega, allV_take (by omega) (by omega) hv c2, be4, sees4, trivial⟩, ?_⟩
      (first | omega | (dsimp only; omega))
  · have d1 : ¬ k < ((a.take 30).length : Int) := of_decide_eq_false c1
    refine C_exit ?_
    refine E_then_exit ?_
    refine E_then_exit ?_
    refine E_block_here ?_
    refine E_then_normal ?_
    refine C_seq ?_
    refine Cs [(20, (.bool (decide (k < ((a.take 30).length : Int))))), (4, (.int .i64 k)), (0, fv1), (3, (.bool true))] ?_
    refine C_region ?_
    refine Rv fv1 w3 ?_
    refine Rc #[fv1] w3 (join_any (a.take 30) fv1 _ _ sees3 hf1 (by have h1 := allV_size (allV_all (by omega) hv) (List.length_take_le _ _); omega)) ?_
    rintro _ w5 ⟨rfl, l4⟩
    have sees5 := sees3.le l4
    have be5 := l4.below' be3
    refine Rv (.string (joinN (a.take 30))) w5 ?_
    refine wpR_nil ?_
    refine E_then_normal ?_
    refine C_seq ?_
    refine Cs [(5, (.string (joinN (a.take 30)))), (20, (.bool (decide (k < ((a.take 30).length : Int))))), (4, (.int .i64 k)), (0, fv1), (3, (.bool true))] ?_
    refine C_region ?_
    refine Rv (.string (joinN (a.take 30))) w5 ?_
    refine Rc #[(.string (joinN (a.take 30)))] w5 (split_any (joinN (a.take 30)) g w5 sees5 (hm.below be5)) ?_
    rintro _ w6 ⟨sv1, rfl, hs1, l5⟩
    have sees6 := sees5.le l5
    have be6 := l5.below' be5
    obtain ⟨g1, hg1, sees7, gm1, nf1, agr1, gs1⟩ := heldFrom (g₀ := g) (w₀ := w) sees5 l5 be5.size
    rw [hg1] at hs1
    have agr1 := agr1 (Agr.refl g w)
    have hd1 := hf1.mono gm1
    refine Rv (.tuple #[sv1, (.bool ((splitN (joinN (a.take 30))).2.1)), (.int .i64 ((splitN (joinN (a.take 30))).2.2))]) w6 ?_
    refine Rv sv1 w6 ?_
    refine Rv (.bool ((splitN (joinN (a.take 30))).2.1)) w6 ?_
    refine Rv (.int .i64 ((splitN (joinN (a.take 30))).2.2)) w6 ?_
    refine Rv sv1 w6 ?_
    refine Rv (.bool ((splitN (joinN (a.take 30))).2.1)) w6 ?_
    refine Rv (.int .i64 ((splitN (joinN (a.take 30))).2.2)) w6 ?_
    refine wpR_nil ?_
    refine E_then_normal ?_
    refine C_seq ?_
    refine C_seq ?_
    refine Cs [(8, (.int .i64 ((splitN (joinN (a.take 30))).2.2))), (7, (.bool ((splitN (joinN (a.take 30))).2.1))), (6, sv1), (5, (.string (joinN (a.take 30)))), (20, (.bool (decide (k < ((a.take 30).length : Int))))), (4, (.int .i64 k)), (0, fv1), (3, (.bool true))] ?_
    refine C_region ?_
    refine Rv (.string (joinN (a.take 30))) w6 ?_
    refine Rw (.int .i64 ((joinN (a.take 30)).size : Int)) w6 (X_len_str rfl Tryd.underlying9 rfl) ?_
    refine Rv (.bool (decide (((joinN (a.take 30)).size : Int) ≥ 1000))) w6 ?_
    refine wpR_nil ?_
    refine E_then_normal ?_
    refine C_cond rfl (fun c3 => ?_) (fun c3 => ?_)
    · have d3 : ((joinN (a.take 30)).size : Int) ≥ 1000 := of_decide_eq_true c3
      refine C_seq ?_
      refine Cs [(40, (.bool (decide (((joinN (a.take 30)).size : Int) ≥ 1000)))), (8, (.int .i64 ((splitN (joinN (a.take 30))).2.2))), (7, (.bool ((splitN (joinN (a.take 30))).2.1))), (6, sv1), (5, (.string (joinN (a.take 30)))), (20, (.bool (decide (k < ((a.take 30).length : Int))))), (4, (.int .i64 k)), (0, fv1), (3, (.bool true))] ?_
      refine C_region ?_
      refine Rv (.bool true) w6 ?_
      refine Rv (.bool true) w6 ?_
      refine Rv (.string (joinN (a.take 30))) w6 ?_
      refine Rw (.int .i64 ((joinN (a.take 30)).size : Int)) w6 (X_len_str rfl Tryd.underlying9 rfl) ?_
      refine Rv (.bool (((joinN (a.take 30)).size : Int) == 1000)) w6 ?_
      rcases Bool.eq_false_or_eq_true (((joinN (a.take 30)).size : Int) == 1000) with c4 | c4
      · have d4 : ((joinN (a.take 30)).size : Int) = 1000 := eq_of_beq c4
        refine Rw (.bool true) w6 (eq_bool (by kernel_rfl) c4) ?_
        iterate 2 refine Rs ?_
        refine Rv (.bool true) w6 ?_
        refine Rv (.bool true) w6 ?_
        refine Rv (.bool true) w6 ?_
        refine wpR_nil ?_
        refine E_then_normal ?_
        refine C_ret ?_
        refine E_then_ret ?_
        refine E_ret (res_one rfl rfl) ⟨_, rfl, ?_⟩
        have hvv := allV_all (by omega) hv
        first | exact ⟨congrArg Value.bool (by first | rfl | (rw [splitN_long (s := joinN (a.take 30)) (by omega)]; rfl) | simp_all), be6⟩ | (exfalso; have b3 := splitN_long (s := joinN (a.take 30)) (by omega); simp_all; done)
      · have d4 : ((joinN (a.take 30)).size : Int) ≠ 1000 := ne_of_beq_false c4
        refine Rw (.bool false) w6 (eq_bool (by kernel_rfl) c4) ?_
        refine Rv (.int .i64 ((splitN (joinN (a.take 30))).2.2)) w6 ?_
        refine Rv (.bool (((splitN (joinN (a.take 30))).2.2) == 23)) w6 ?_
        refine Rv (.bool (((splitN (joinN (a.take 30))).2.2) == 23)) w6 ?_
        refine Rv (.bool (((splitN (joinN (a.take 30))).2.2) == 23)) w6 ?_
        refine Rv (.bool (((splitN (joinN (a.take 30))).2.2) == 23)) w6 ?_
        refine wpR_nil ?_
        refine E_then_normal ?_
        refine C_ret ?_
        refine E_then_ret ?_
        refine E_ret (res_one rfl rfl) ⟨_, rfl, ?_⟩
        have hvv := allV_all (by omega) hv
        first | exact ⟨congrArg Value.bool (by first | rfl | (rw [splitN_long (s := joinN (a.take 30)) (by omega)]; rfl) | simp_all), be6⟩ | (exfalso; have b3 := splitN_long (s := joinN (a.take 30)) (by omega); simp_all; done)
    · have d3 : ¬ ((joinN (a.take 30)).size : Int) ≥ 1000 := of_decide_eq_false c3
      refine C_skip ?_
      refine E_then_normal ?_
      refine C_seq ?_
      refine Cs [(40, (.bool (decide (((joinN (a.take 30)).size : Int) ≥ 1000)))), (8, (.int .i64 ((splitN (joinN (a.take 30))).2.2))), (7, (.bool ((splitN (joinN (a.take 30))).2.1))), (6, sv1), (5, (.string (joinN (a.take 30)))), (20, (.bool (decide (k < ((a.take 30).length : Int))))), (4, (.int .i64 k)), (0, fv1), (3, (.bool true))] ?_
      refine C_region ?_
      refine Rv (.string (joinN (a.take 30))) w6 ?_
      refine Rw (.string ((joinN (a.take 30)) ++ (⟨#[47]⟩ : ByteArray))) w6 (X_add_str (by first | omega | (have h3 : (⟨#[47]⟩ : ByteArray).size = 1 := rfl; omega)) rfl rfl rfl) ?_
      refine Rc #[(.string ((joinN (a.take 30)) ++ (⟨#[47]⟩ : ByteArray)))] w6 (split_any ((joinN (a.take 30)) ++ (⟨#[47]⟩ : ByteArray)) g1 w6 sees7 (hm.below be6)) ?_
      rintro _ w7 ⟨sv2, rfl, hs2, l6⟩
      have sees8 := sees7.le l6
      have be7 := l6.below' be6
      obtain ⟨g2, hg2, sees9, gm2, nf2, agr2, gs2⟩ := heldFrom (g₀ := g) (w₀ := w) sees7 l6 be6.size
      rw [hg2] at hs2
      have agr2 := agr2 agr1
      have hd2 := hs1.mono gm2
      have hd3 := hd1.mono gm2
      refine Rv (.tuple #[sv2, (.bool ((splitN ((joinN (a.take 30)) ++ (⟨#[47]⟩ : ByteArray))).2.1)), (.int .i64 ((splitN ((joinN (a.take 30)) ++ (⟨#[47]⟩ : ByteArray))).2.2))]) w7 ?_
      refine Rv sv2 w7 ?_
      refine Rv (.bool ((splitN ((joinN (a.take 30)) ++ (⟨#[47]⟩ : ByteArray))).2.1)) w7 ?_
      refine Rv (.int .i64 ((splitN ((joinN (a.take 30)) ++ (⟨#[47]⟩ : ByteArray))).2.2)) w7 ?_
      refine Rv sv2 w7 ?_
      refine Rv (.bool ((splitN ((joinN (a.take 30)) ++ (⟨#[47]⟩ : ByteArray))).2.1)) w7 ?_
      refine Rv (.int .i64 ((splitN ((joinN (a.take 30)) ++ (⟨#[47]⟩ : ByteArray))).2.2)) w7 ?_
      refine wpR_nil ?_
      refine E_then_normal ?_
      refine C_seq ?_
      refine Cs [(11, (.int .i64 ((splitN ((joinN (a.take 30)) ++ (⟨#[47]⟩ : ByteArray))).2.2))), (10, (.bool ((splitN ((joinN (a.take 30)) ++ (⟨#[47]⟩ : ByteArray))).2.1))), (9, sv2), (40, (.bool (decide (((joinN (a.take 30)).size : Int) ≥ 1000)))), (8, (.int .i64 ((splitN (joinN (a.take 30))).2.2))), (7, (.bool ((splitN (joinN (a.take 30))).2.1))), (6, sv1), (5, (.string (joinN (a.take 30)))), (20, (.bool (decide (k < ((a.take 30).length : Int))))), (4, (.int .i64 k)), (0, fv1), (3, (.bool true))] ?_
      refine C_region ?_
      refine Rv sv1 w7 ?_
      refine Rv fv1 w7 ?_
      refine Rc #[sv1, fv1] w7 (refsame_any ((splitN (joinN (a.take 30))).1) (a.take 30) sv1 fv1 _ _ sees9 hd2 hd3) ?_
      rintro _ w8 ⟨rfl, l7⟩
      have sees10 := sees9.le l7
      have be8 := l7.below' be7
      refine Rv (.bool (sameL ((splitN (joinN (a.take 30))).1) (a.take 30))) w8 ?_
      refine wpR_nil ?_
      refine E_then_normal ?_
      refine C_seq ?_
      refine Cs [(12, (.bool (sameL ((splitN (joinN (a.take 30))).1) (a.take 30)))), (11, (.int .i64 ((splitN ((joinN (a.take 30)) ++ (⟨#[47]⟩ : ByteArray))).2.2))), (10, (.bool ((splitN ((joinN (a.take 30)) ++ (⟨#[47]⟩ : ByteArray))).2.1))), (9, sv2), (40, (.bool (decide (((joinN (a.take 30)).size : Int) ≥ 1000)))), (8, (.int .i64 ((splitN (joinN (a.take 30))).2.2))), (7, (.bool ((splitN (joinN (a.take 30))).2.1))), (6, sv1), (5, (.string (joinN (a.take 30)))), (20, (.bool (decide (k < ((a.take 30).length : Int))))), (4, (.int .i64 k)), (0, fv1), (3, (.bool true))] ?_
      refine C_region ?_
      refine Rv sv2 w8 ?_
      refine Rv fv1 w8 ?_
      refine Rc #[sv2, fv1] w8 (refsame_any ((splitN ((joinN (a.take 30)) ++ (⟨#[47]⟩ : ByteArray))).1) (a.take 30) sv2 fv1 _ _ sees10 hs2 hd3) ?_
      rintro _ w9 ⟨rfl, l8⟩
      have sees11 := sees10.le l8
      have be9 := l8.below' be8
      refine Rv (.bool (sameL ((splitN ((joinN (a.take 30)) ++ (⟨#[47]⟩ : ByteArray))).1) (a.take 30))) w9 ?_
      refine wpR_nil ?_
      refine E_then_normal ?_
      refine C_seq ?_
      refine Cs [(13, (.bool (sameL ((splitN ((joinN (a.take 30)) ++ (⟨#[47]⟩ : ByteArray))).1) (a.take 30)))), (12, (.bool (sameL ((splitN (joinN (a.take 30))).1) (a.take 30)))), (11, (.int .i64 ((splitN ((joinN (a.take 30)) ++ (⟨#[47]⟩ : ByteArray))).2.2))), (10, (.bool ((splitN ((joinN (a.take 30)) ++ (⟨#[47]⟩ : ByteArray))).2.1))), (9, sv2), (40, (.bool (decide (((joinN (a.take 30)).size : Int) ≥ 1000)))), (8, (.int .i64 ((splitN (joinN (a.take 30))).2.2))), (7, (.bool ((splitN (joinN (a.take 30))).2.1))), (6, sv1), (5, (.string (joinN (a.take 30)))), (20, (.bool (decide (k < ((a.take 30).length : Int))))), (4, (.int .i64 k)), (0, fv1), (3, (.bool true))] ?_
      refine C_region ?_
      refine Rv (.bool true) w9 ?_
      refine Rv (.bool true) w9 ?_
      refine Rv (.bool (sameL ((splitN (joinN (a.take 30))).1) (a.take 30))) w9 ?_
      refine Rv (.bool (sameL ((splitN (joinN (a.take 30))).1) (a.take 30))) w9 ?_
      rcases Bool.eq_false_or_eq_true (sameL ((splitN (joinN (a.take 30))).1) (a.take 30)) with c5 | c5
      · refine Rw (.bool true) w9 (eq_bool (by kernel_rfl) c5) ?_
        refine Rv (.int .i64 ((splitN (joinN (a.take 30))).2.2)) w9 ?_
        refine Rv (.bool (((splitN (joinN (a.take 30))).2.2) == 0)) w9 ?_
        refine Rv (.bool (((splitN (joinN (a.take 30))).2.2) == 0)) w9 ?_
        rcases Bool.eq_false_or_eq_true (((splitN (joinN (a.take 30))).2.2) == 0) with c6 | c6
        · have d6 : ((splitN (joinN (a.take 30))).2.2) = 0 := eq_of_beq c6
          refine Rw (.bool true) w9 (eq_bool (by kernel_rfl) c6) ?_
          refine Rv (.bool ((splitN (joinN (a.take 30))).2.1)) w9 ?_
          refine Rv fv1 w9 ?_
          refine Rw (.int .i64 ((a.take 30).length : Int)) w9 (X_len (hd3.mono sees11.mono) rfl Tryd.underlying26 rfl) ?_
          refine Rv (.bool (((a.take 30).length : Int) == 0)) w9 ?_
          refine Rv (.bool (((splitN (joinN (a.take 30))).2.1) == (((a.take 30).length : Int) == 0))) w9 ?_
          refine Rv (.bool (((splitN (joinN (a.take 30))).2.1) == (((a.take 30).length : Int) == 0))) w9 ?_
          rcases Bool.eq_false_or_eq_true (((splitN (joinN (a.take 30))).2.1) == (((a.take 30).length : Int) == 0)) with c7 | c7
          · refine Rw (.bool true) w9 (eq_bool (by kernel_rfl) c7) ?_
            refine Rv (.bool (sameL ((splitN ((joinN (a.take 30)) ++ (⟨#[47]⟩ : ByteArray))).1) (a.take 30))) w9 ?_
            refine Rv (.bool (sameL ((splitN ((joinN (a.take 30)) ++ (⟨#[47]⟩ : ByteArray))).1) (a.take 30))) w9 ?_
            rcases Bool.eq_false_or_eq_true (sameL ((splitN ((joinN (a.take 30)) ++ (⟨#[47]⟩ : ByteArray))).1) (a.take 30)) with c8 | c8
            · refine Rw (.bool true) w9 (eq_bool (by kernel_rfl) c8) ?_
              refine Rv (.int .i64 ((splitN ((joinN (a.take 30)) ++ (⟨#[47]⟩ : ByteArray))).2.2)) w9 ?_
              refine Rv (.bool (((splitN ((joinN (a.take 30)) ++ (⟨#[47]⟩ : ByteArray))).2.2) == 0)) w9 ?_
              refine Rv (.bool (((splitN ((joinN (a.take 30)) ++ (⟨#[47]⟩ : ByteArray))).2.2) == 0)) w9 ?_
              rcases Bool.eq_false_or_eq_true (((splitN ((joinN (a.take 30)) ++ (⟨#[47]⟩ : ByteArray))).2.2) == 0) with c9 | c9
              · have d9 : ((splitN ((joinN (a.take 30)) ++ (⟨#[47]⟩ : ByteArray))).2.2) = 0 := eq_of_beq c9
                refine Rw (.bool true) w9 (eq_bool (by kernel_rfl) c9) ?_
                refine Rv (.bool ((splitN ((joinN (a.take 30)) ++ (⟨#[47]⟩ : ByteArray))).2.1)) w9 ?_
                refine Rv (.bool ((splitN ((joinN (a.take 30)) ++ (⟨#[47]⟩ : ByteArray))).2.1)) w9 ?_
                refine Rv (.bool ((splitN ((joinN (a.take 30)) ++ (⟨#[47]⟩ : ByteArray))).2.1)) w9 ?_
                refine wpR_nil ?_
                refine E_then_normal ?_
                refine C_ret ?_
                refine E_ret (res_one rfl rfl) ⟨_, rfl, ?_⟩
                have hvv := allV_all (by omega) hv
                have b1 := back_one hvv (by omega); have b2 := back_two hvv (by omega)
                simp only [b1, b2, same_self] at *
                first | exact ⟨trivial, be9⟩ | exact ⟨congrArg Value.bool (by simp_all), be9⟩ | (exfalso; simp_all; done)
              · have d9 : ((splitN ((joinN (a.take 30)) ++ (⟨#[47]⟩ : ByteArray))).2.2) ≠ 0 := ne_of_beq_false c9
                refine Rw (.bool false) w9 (eq_bool (by kernel_rfl) c9) ?_
                refine Rs ?_
                refine Rv (.bool false) w9 ?_
                refine Rv (.bool false) w9 ?_
                refine wpR_nil ?_
                refine E_then_normal ?_
                refine C_ret ?_
                refine E_ret (res_one rfl rfl) ⟨_, rfl, ?_⟩
                have hvv := allV_all (by omega) hv
                have b1 := back_one hvv (by omega); have b2 := back_two hvv (by omega)
                simp only [b1, b2, same_self] at *
                first | exact ⟨trivial, be9⟩ | exact ⟨congrArg Value.bool (by simp_all), be9⟩ | (exfalso; simp_all; done)
            · refine Rw (.bool false) w9 (eq_bool (by kernel_rfl) c8) ?_
              iterate 2 refine Rs ?_
              refine Rv (.bool false) w9 ?_
              refine Rv (.bool false) w9 ?_
              refine Rs ?_
              refine Rv (.bool false) w9 ?_
              refine Rv (.bool false) w9 ?_
              refine wpR_nil ?_
              refine E_then_normal ?_
              refine C_ret ?_
              refine E_ret (res_one rfl rfl) ⟨_, rfl, ?_⟩
              have hvv := allV_all (by omega) hv
              have b1 := back_one hvv (by omega); have b2 := back_two hvv (by omega)
              simp only [b1, b2, same_self] at *
              first | exact ⟨trivial, be9⟩ | exact ⟨congrArg Value.bool (by simp_all), be9⟩ | (exfalso; simp_all; done)
          · refine Rw (.bool false) w9 (eq_bool (by kernel_rfl) c7) ?_
            refine Rs ?_
            refine Rv (.bool false) w9 ?_
            refine Rv (.bool false) w9 ?_
            iterate 2 refine Rs ?_
            refine Rv (.bool false) w9 ?_
            refine Rv (.bool false) w9 ?_
            refine Rs ?_
            refine Rv (.bool false) w9 ?_
            refine Rv (.bool false) w9 ?_
            refine wpR_nil ?_
            refine E_then_normal ?_
            refine C_ret ?_
            refine E_ret (res_one rfl rfl) ⟨_, rfl, ?_⟩
            have hvv := allV_all (by omega) hv
            have b1 := back_one hvv (by omega); have b2 := back_two hvv (by omega)
            simp only [b1, b2, same_self] at *
            first | exact ⟨trivial, be9⟩ | exact ⟨congrArg Value.bool (by simp_all), be9⟩ | (exfalso; simp_all; done)
        · have d6 : ((splitN (joinN (a.take 30))).2.2) ≠ 0 := ne_of_beq_false c6
          refine Rw (.bool false) w9 (eq_bool (by kernel_rfl) c6) ?_
          iterate 5 refine Rs ?_
          refine Rv (.bool false) w9 ?_
          refine Rv (.bool false) w9 ?_
          refine Rs ?_
          refine Rv (.bool false) w9 ?_
          refine Rv (.bool false) w9 ?_
          iterate 2 refine Rs ?_
          refine Rv (.bool false) w9 ?_
          refine Rv (.bool false) w9 ?_
          refine Rs ?_
          refine Rv (.bool false) w9 ?_
          refine Rv (.bool false) w9 ?_
          refine wpR_nil ?_
          refine E_then_normal ?_
          refine C_ret ?_
          refine E_ret (res_one rfl rfl) ⟨_, rfl, ?_⟩
          have hvv := allV_all (by omega) hv
          have b1 := back_one hvv (by omega); have b2 := back_two hvv (by omega)
          simp only [b1, b2, same_self] at *
          first | exact ⟨trivial, be9⟩ | exact ⟨congrArg Value.bool (by simp_all), be9⟩ | (exfalso; simp_all; done)
      · refine Rw (.bool false) w9 (eq_bool (by kernel_rfl) c5) ?_
        iterate 2 refine Rs ?_
        refine Rv (.bool false) w9 ?_
        refine Rv (.bool false) w9 ?_
        iterate 5 refine Rs ?_
        refine Rv (.bool false) w9 ?_
        refine Rv (.bool false) w9 ?_
        refine Rs ?_
        refine Rv (.bool false) w9 ?_
        refine Rv (.bool false) w9 ?_
        iterate 2 refine Rs ?_
        refine Rv (.bool false) w9 ?_
        refine Rv (.bool false) w9 ?_
        refine Rs ?_
        refine Rv (.bool false) w9 ?_
        refine Rv (.bool false) w9 ?_
        refine wpR_nil ?_
        refine E_then_normal ?_
        refine C_ret ?_
        refine E_ret (res_one rfl rfl) ⟨_, rfl, ?_⟩
        have hvv := allV_all (by omega) hv
        have b1 := back_one hvv (by omega); have b2 := back_two hvv (by omega)
        simp only [b1, b2, same_self] at *
        first | exact ⟨trivial, be9⟩ | exact ⟨congrArg Value.bool (by simp_all), be9⟩ | (exfalso; simp_all; done)

set_option linter.unusedVariables false in
set_option linter.unusedSimpArgs false in
set_option maxHeartbeats 4000000 in
set_option maxRecDepth 100000 in
theorem nameOne_any (a b : List ByteArray) (va vb : Value) (g w : World) (sees : Sees g w) (h_a : Is g va a) (h_b : Is g vb b)(hm : MaxL 0 w) : Ret Tryd.prog 8 #[va, vb] w fun v w' => v = .bool true ∧ Le w w' := by
  have ln_h_a := h_a.len_le
  have ln_h_b := h_b.len_le
  have be0 := Below.refl w.heap.size w
  refine enter (args := [va, vb]) Tryd.func8 rfl rfl rfl ?_
  refine C_seq ?_
  refine C_region ?_
  refine Rv (.bool false) w ?_
  refine wpR_nil ?_
  refine E_then_normal ?_
  refine C_seq ?_
  refine C_region ?_
  refine Rc #[] w (shown_any g w sees (hm.below be0)) ?_
  rintro _ w1 ⟨rfl, l1⟩
  have sees1 := sees.le l1
  have be1 := l1.below' be0
  refine Rv (.bool true) w1 ?_
  refine wpR_nil ?_
  refine E_then_normal ?_
  refine C_seq ?_
  refine Cs [(5, (.bool true)), (4, (.bool false)), (0, va), (1, vb)] ?_
  refine C_region ?_
  refine S_new (fun b => .slice (some ⟨b, 0, none⟩) 0 0) (.cells #[] 9) (by kernel_rfl) (by kernel_rfl) rfl rfl rfl fun b1 w2 n1 => ?_
  have ni1 := n1.notIn sees1
  have sees2 := sees1.le n1.le
  have k1 := n1.blk
  have o1 := n1.own be1
  have be2 := n1.below' be1
  have ow1 := OwnsL.empty (α := ByteArray) (g := g) n1 o1
  refine Rv (.slice (some ⟨b1, 0, none⟩) 0 0) w2 ?_
  refine wpR_nil ?_
  refine E_then_normal ?_
  refine C_seq ?_
  refine Cs [(6, (.slice (some ⟨b1, 0, none⟩) 0 0)), (5, (.bool true)), (4, (.bool false)), (0, va), (1, vb)] ?_
  refine C_region ?_
  refine S_new (fun b => .slice (some ⟨b, 0, none⟩) 0 0) (.cells #[] 9) (by kernel_rfl) (by kernel_rfl) rfl rfl rfl fun b2 w3 n2 => ?_
  have sz1 := n2.le.size
  have ow2 := ow1.le n2.le
  have ni2 := n2.notIn sees2
  have sees3 := sees2.le n2.le
  have k2 := n2.blk
  have o2 := n2.own be2
  have be3 := n2.below' be2
  have ow3 := OwnsL.empty (α := ByteArray) (g := g) n2 o2
  have dj1 := Disj.fresh ow1 n2
  refine Rv (.slice (some ⟨b2, 0, none⟩) 0 0) w3 ?_
  refine wpR_nil ?_
  refine E_then_normal ?_
  refine C_seq ?_
  refine C_seq ?_
  refine Cs [(7, (.slice (some ⟨b2, 0, none⟩) 0 0)), (6, (.slice (some ⟨b1, 0, none⟩) 0 0)), (5, (.bool true)), (4, (.bool false)), (0, va), (1, vb)] ?_
  refine C_region ?_
  refine Rv (.int .i64 0) w3 ?_
  refine wpR_nil ?_
  refine E_then_normal ?_
  refine C_block ?_
  refine C_loop (ι := Int × List ByteArray × Value) (fun i : Int × List ByteArray × Value => match i with | (k, pa, vp) => [(8, (.int .i64 k)), (6, vp), (7, (.slice (some ⟨b2, 0, none⟩) 0 0)), (5, (.bool true)), (4, (.bool false)), (0, va), (1, vb)]) (fun (i : Int × List ByteArray × Value) w' => match i with | (k, pa, vp) => 0 ≤ k ∧ k ≤ a.length ∧ k ≤ 30 ∧ allV pa ∧ pa.length ≤ k ∧ OwnsL g w' w.heap.size 9 vp pa ∧ OwnsL g w' w.heap.size 9 (.slice (some ⟨b2, 0, none⟩) 0 0) ([] : List ByteArray) ∧ Disj vp (.slice (some ⟨b2, 0, none⟩) 0 0) ∧ w.heap.size ≤ w'.heap.size ∧ Below w.heap.size w w' ∧ Sees g w' ∧ True) (fun i : Int × List ByteArray × Value => match i with | (k, pa, vp) => ((a.length : Int) - k).toNat) (0, [], (.slice (some ⟨b1, 0, none⟩) 0 0)) ⟨rfl, rfl, rfl, rfl, rfl, rfl, rfl, trivial⟩ ⟨by omega, by omega, by omega, fun x hx => by simp at hx, by simp, ow2, ow3, dj1, Below.size be3, be3, sees3, trivial⟩ ?_
  rintro ⟨k, pa, vp⟩ w4 ⟨hk0, hka, hk3, av1, hl1, hop, hoq, hdj, hdjb, be4, sees4, -⟩
  refine Cs [(8, (.int .i64 k)), (6, vp), (7, (.slice (some ⟨b2, 0, none⟩) 0 0)), (5, (.bool true)), (4, (.bool false)), (0, va), (1, vb)] ?_
  refine C_seq ?_
  refine C_seq ?_
  refine C_region ?_
  refine Rv (.int .i64 k) w4 ?_
  refine Rv va w4 ?_
  refine Rw (.int .i64 (a.length : Int)) w4 (X_len (h_a.mono sees4.mono) rfl Tryd.underlying26 rfl) ?_
  refine Rv (.bool (decide (k < (a.length : Int)))) w4 ?_
  rcases Bool.eq_false_or_eq_true (decide (k < (a.length : Int))) with c1 | c1
  · have d1 : k < (a.length : Int) := of_decide_eq_true c1
    refine Rw (.bool true) w4 (eq_bool (by kernel_rfl) c1) ?_
    refine Rv (.int .i64 k) w4 ?_
    refine Rv (.bool (decide (k < 30))) w4 ?_
    refine Rv (.bool (decide (k < 30))) w4 ?_
    refine wpR_nil ?_
    refine E_then_normal ?_
    refine C_cond rfl (fun c2 => ?_) (fun c2 => ?_)
    · have d2 : k < 30 := of_decide_eq_true c2
      refine C_skip ?_
      refine E_then_normal ?_
      refine C_seq ?_
      refine C_block ?_
      refine C_seq ?_
      refine Cs [(20, (.bool (decide (k < 30)))), (8, (.int .i64 k)), (6, vp), (7, (.slice (some ⟨b2, 0, none⟩) 0 0)), (5, (.bool true)), (4, (.bool false)), (0, va), (1, vb)] ?_
      refine C_region ?_
      refine Rv va w4 ?_
      refine Rv (.int .i64 k) w4 ?_
      refine Rw (elemP 1 va k) w4 (X_indexAddr (h_a.mono sees4.mono) (by omega) (by omega) rfl Tryd.underlying26 (by kernel_rfl) rfl rfl) ?_
      refine Rw (.string (nth a k)) w4 (X_load rfl rfl (run_load_str (h_a.mono sees4.mono) (by omega) (by omega) Tryd.underlying9 (by kernel_rfl))) ?_
      refine Rc #[(.string (nth a k))] w4 (valid_any (nth a k) _) ?_
      rintro _ w5 ⟨rfl, l2⟩
      have sz2 := l2.size
      have ow4 := hop.le l2
      have ow5 := hoq.le l2
      have sees5 := sees4.le l2
      have be5 := l2.below' be4
      refine Rv (.bool ((validN (nth a k)) == 0)) w5 ?_
      refine wpR_nil ?_
      refine E_then_normal ?_
      refine C_cond rfl (fun c3 => ?_) (fun c3 => ?_)
      · have d3 : (validN (nth a k)) = 0 := eq_of_beq c3
        refine Cs [(28, (.bool ((validN (nth a k)) == 0))), (20, (.bool (decide (k < 30)))), (8, (.int .i64 k)), (6, vp), (7, (.slice (some ⟨b2, 0, none⟩) 0 0)), (5, (.bool true)), (4, (.bool false)), (0, va), (1, vb)] ?_
        refine C_region ?_
        refine Rv vp w5 ?_
        refine Rv va w5 ?_
        refine Rv (.int .i64 k) w5 ?_
        refine Rw (elemP 1 va k) w5 (X_indexAddr (h_a.mono sees5.mono) (by omega) (by omega) rfl Tryd.underlying26 (by kernel_rfl) rfl rfl) ?_
        refine Rw (.string (nth a k)) w5 (X_load rfl rfl (run_load_str (h_a.mono sees5.mono) (by omega) (by omega) Tryd.underlying9 (by kernel_rfl))) ?_
        refine S_new (fun b => .slice (some ⟨b, 0, none⟩) 1 1) (.cells #[(.string (nth a k))] 9) (by kernel_rfl) (by kernel_rfl) rfl rfl rfl fun b3 w6 n3 => ?_
        have sz3 := n3.le.size
        have ow6 := ow4.le n3.le
        have ow7 := ow5.le n3.le
        have ni3 := n3.notIn sees5
        have sees6 := sees5.le n3.le
        have k3 := n3.blk
        have o3 := n3.own be5
        have be6 := n3.below' be5
        refine S_append2 (bytes := 16) (a := nth a k) (c := [(.string (nth a k))]) ow6 k3 ⟨rfl, (by have h5 := (valid_facts (eq_of_beq c3)).1; unfold maxLen; omega)⟩ Tryd.underlying26 (by kernel_rfl) (by kernel_rfl) (by decide) rfl (by omega) (by omega) (by omega) rfl rfl rfl rfl rfl rfl fun v1 w7 ow8 bl1 gw1 wh1 => ?_
        have dj2 := Disj.grown hdj ow7 wh1
        have ow9 := OwnsL.grown ow7 hdj gw1
        have sz4 := bl1.size
        have sees7 := sees6.grew sees.size bl1
        have be7 := be6.trans (bl1.mono (Nat.le_refl _))
        refine Rv v1 w7 ?_
        refine wpR_nil ?_
        refine E_block_normal ?_
        refine E_then_normal ?_
        refine Cs [(6, v1), (28, (.bool ((validN (nth a k)) == 0))), (20, (.bool (decide (k < 30)))), (8, (.int .i64 k)), (7, (.slice (some ⟨b2, 0, none⟩) 0 0)), (5, (.bool true)), (4, (.bool false)), (0, va), (1, vb)] ?_
        refine C_region ?_
        refine Rv (.int .i64 k) w7 ?_
        refine Rw (.int .i64 (k + 1)) w7 (eq_int (by kernel_rfl) (wrap64_in (by omega) (by omega))) ?_
        refine Rv (.int .i64 (k + 1)) w7 ?_
        refine wpR_nil ?_
        refine E_then_mid fun aq1 ha1 => ⟨(k + 1, pa ++ [nth a k], v1), ha1.sub ⟨rfl, rfl, rfl, rfl, rfl, rfl, rfl, trivial⟩, ⟨by omega, by omega, by omega, allV_snoc av1 c3, by simp only [List.length_append, List.length_cons, List.length_nil]; omega, ow8, ow9, dj2, by omega, be7, sees7, trivial⟩, ?_⟩
        (first | omega | (dsimp only; omega))
      · have d3 : (validN (nth a k)) ≠ 0 := ne_of_beq_false c3
        refine C_skip ?_
        refine E_block_normal ?_
        refine E_then_normal ?_
        refine Cs [(28, (.bool ((validN (nth a k)) == 0))), (20, (.bool (decide (k < 30)))), (8, (.int .i64 k)), (6, vp), (7, (.slice (some ⟨b2, 0, none⟩) 0 0)), (5, (.bool true)), (4, (.bool false)), (0, va), (1, vb)] ?_
        refine C_region ?_
        refine Rv (.int .i64 k) w5 ?_
        refine Rw (.int .i64 (k + 1)) w5 (eq_int (by kernel_rfl) (wrap64_in (by omega) (by omega))) ?_
        refine Rv (.int .i64 (k + 1)) w5 ?_
        refine wpR_nil ?_
        refine E_then_mid fun aq2 ha2 => ⟨(k + 1, pa, vp), ha2.sub ⟨rfl, rfl, rfl, rfl, rfl, rfl, rfl, trivial⟩, ⟨by omega, by omega, by omega, av1, by omega, ow4, ow5, hdj, by omega, be5, sees5, trivial⟩, ?_⟩
        (first | omega | (dsimp only; omega))
    · have d2 : ¬ k < 30 := of_decide_eq_false c2
      refine C_exit ?_
      refine E_then_exit ?_
      refine E_then_exit ?_
      refine E_block_here ?_
      refine E_then_normal ?_
      refine C_seq ?_
      refine C_seq ?_
      refine Cs [(20, (.bool (decide (k < 30)))), (8, (.int .i64 k)), (6, vp), (7, (.slice (some ⟨b2, 0, none⟩) 0 0)), (5, (.bool true)), (4, (.bool false)), (0, va), (1, vb)] ?_
      refine C_region ?_
      refine Rv (.int .i64 0) w4 ?_
      refine wpR_nil ?_
      refine E_then_normal ?_
      refine C_block ?_
      refine C_loop (ι := Int × List ByteArray × Value) (fun i : Int × List ByteArray × Value => match i with | (m, qa, vq) => [(9, (.int .i64 m)), (7, vq), (6, vp), (20, (.bool (decide (k < 30)))), (8, (.int .i64 k)), (5, (.bool true)), (4, (.bool false)), (0, va), (1, vb)]) (fun (i : Int × List ByteArray × Value) w' => match i with | (m, qa, vq) => 0 ≤ m ∧ m ≤ b.length ∧ m ≤ 30 ∧ allV qa ∧ qa.length ≤ m ∧ OwnsL g w' w.heap.size 9 vq qa ∧ OwnsL g w' w.heap.size 9 vp (pa : List ByteArray) ∧ Disj vq vp ∧ w.heap.size ≤ w'.heap.size ∧ Below w.heap.size w w' ∧ Sees g w' ∧ True) (fun i : Int × List ByteArray × Value => match i with | (m, qa, vq) => ((b.length : Int) - m).toNat) (0, [], (.slice (some ⟨b2, 0, none⟩) 0 0)) ⟨rfl, rfl, rfl, rfl, rfl, rfl, rfl, rfl, rfl, trivial⟩ ⟨by omega, by omega, by omega, fun x hx => by simp at hx, by simp, hoq, hop, (hdj).symm, Below.size be4, be4, sees4, trivial⟩ ?_
      rintro ⟨m, qa, vq⟩ w8 ⟨hm0, hma, hm3, av2, hl2, hoq2, hop2, hdk, hdkb, be8, sees8, -⟩
      refine Cs [(9, (.int .i64 m)), (7, vq), (6, vp), (20, (.bool (decide (k < 30)))), (8, (.int .i64 k)), (5, (.bool true)), (4, (.bool false)), (0, va), (1, vb)] ?_
      refine C_seq ?_
      refine C_seq ?_
      refine C_region ?_
      refine Rv (.int .i64 m) w8 ?_
      refine Rv vb w8 ?_
      refine Rw (.int .i64 (b.length : Int)) w8 (X_len (h_b.mono sees8.mono) rfl Tryd.underlying26 rfl) ?_
      refine Rv (.bool (decide (m < (b.length : Int)))) w8 ?_
      rcases Bool.eq_false_or_eq_true (decide (m < (b.length : Int))) with c4 | c4
      · have d4 : m < (b.length : Int) := of_decide_eq_true c4
        refine Rw (.bool true) w8 (eq_bool (by kernel_rfl) c4) ?_
        refine Rv (.int .i64 m) w8 ?_
        refine Rv (.bool (decide (m < 30))) w8 ?_
        refine Rv (.bool (decide (m < 30))) w8 ?_
        refine wpR_nil ?_
        refine E_then_normal ?_
        refine C_cond rfl (fun c5 => ?_) (fun c5 => ?_)
        · have d5 : m < 30 := of_decide_eq_true c5
          refine C_skip ?_
          refine E_then_normal ?_
          refine C_seq ?_
          refine C_block ?_
          refine C_seq ?_
          refine Cs [(43, (.bool (decide (m < 30)))), (9, (.int .i64 m)), (7, vq), (6, vp), (20, (.bool (decide (k < 30)))), (8, (.int .i64 k)), (5, (.bool true)), (4, (.bool false)), (0, va), (1, vb)] ?_
          refine C_region ?_
          refine Rv vb w8 ?_
          refine Rv (.int .i64 m) w8 ?_
          refine Rw (elemP 1 vb m) w8 (X_indexAddr (h_b.mono sees8.mono) (by omega) (by omega) rfl Tryd.underlying26 (by kernel_rfl) rfl rfl) ?_
          refine Rw (.string (nth b m)) w8 (X_load rfl rfl (run_load_str (h_b.mono sees8.mono) (by omega) (by omega) Tryd.underlying9 (by kernel_rfl))) ?_
          refine Rc #[(.string (nth b m))] w8 (valid_any (nth b m) _) ?_
          rintro _ w9 ⟨rfl, l3⟩
          have sz5 := l3.size
          have ow10 := hoq2.le l3
          have ow11 := hop2.le l3
          have sees9 := sees8.le l3
          have be9 := l3.below' be8
          refine Rv (.bool ((validN (nth b m)) == 0)) w9 ?_
          refine wpR_nil ?_
          refine E_then_normal ?_
          refine C_cond rfl (fun c6 => ?_) (fun c6 => ?_)
          · have d6 : (validN (nth b m)) = 0 := eq_of_beq c6
            refine Cs [(51, (.bool ((validN (nth b m)) == 0))), (43, (.bool (decide (m < 30)))), (9, (.int .i64 m)), (7, vq), (6, vp), (20, (.bool (decide (k < 30)))), (8, (.int .i64 k)), (5, (.bool true)), (4, (.bool false)), (0, va), (1, vb)] ?_
            refine C_region ?_
            refine Rv vq w9 ?_
            refine Rv vb w9 ?_
            refine Rv (.int .i64 m) w9 ?_
            refine Rw (elemP 1 vb m) w9 (X_indexAddr (h_b.mono sees9.mono) (by omega) (by omega) rfl Tryd.underlying26 (by kernel_rfl) rfl rfl) ?_
            refine Rw (.string (nth b m)) w9 (X_load rfl rfl (run_load_str (h_b.mono sees9.mono) (by omega) (by omega) Tryd.underlying9 (by kernel_rfl))) ?_
            refine S_new (fun b => .slice (some ⟨b, 0, none⟩) 1 1) (.cells #[(.string (nth b m))] 9) (by kernel_rfl) (by kernel_rfl) rfl rfl rfl fun b4 w10 n4 => ?_
            have sz6 := n4.le.size
            have ow12 := ow10.le n4.le
            have ow13 := ow11.le n4.le
            have ni4 := n4.notIn sees9
            have sees10 := sees9.le n4.le
            have k4 := n4.blk
            have o4 := n4.own be9
            have be10 := n4.below' be9
            refine S_append2 (bytes := 16) (a := nth b m) (c := [(.string (nth b m))]) ow12 k4 ⟨rfl, (by have h5 := (valid_facts (eq_of_beq c6)).1; unfold maxLen; omega)⟩ Tryd.underlying26 (by kernel_rfl) (by kernel_rfl) (by decide) rfl (by omega) (by omega) (by omega) rfl rfl rfl rfl rfl rfl fun v2 w11 ow14 bl2 gw2 wh2 => ?_
            have dj3 := Disj.grown hdk ow13 wh2
            have ow15 := OwnsL.grown ow13 hdk gw2
            have sz7 := bl2.size
            have sees11 := sees10.grew sees.size bl2
            have be11 := be10.trans (bl2.mono (Nat.le_refl _))
            refine Rv v2 w11 ?_
            refine wpR_nil ?_
            refine E_block_normal ?_
            refine E_then_normal ?_
            refine Cs [(7, v2), (51, (.bool ((validN (nth b m)) == 0))), (43, (.bool (decide (m < 30)))), (9, (.int .i64 m)), (6, vp), (20, (.bool (decide (k < 30)))), (8, (.int .i64 k)), (5, (.bool true)), (4, (.bool false)), (0, va), (1, vb)] ?_
            refine C_region ?_
            refine Rv (.int .i64 m) w11 ?_
            refine Rw (.int .i64 (m + 1)) w11 (eq_int (by kernel_rfl) (wrap64_in (by omega) (by omega))) ?_
            refine Rv (.int .i64 (m + 1)) w11 ?_
            refine wpR_nil ?_
            refine E_then_mid fun aq3 ha3 => ⟨(m + 1, qa ++ [nth b m], v2), ha3.sub ⟨rfl, rfl, rfl, rfl, rfl, rfl, rfl, rfl, rfl, trivial⟩, ⟨by omega, by omega, by omega, allV_snoc av2 c6, by simp only [List.length_append, List.length_cons, List.length_nil]; omega, ow14, ow15, dj3, by omega, be11, sees11, trivial⟩, ?_⟩
            (first | omega | (dsimp only; omega))
          · have d6 : (validN (nth b m)) ≠ 0 := ne_of_beq_false c6
            refine C_skip ?_
            refine E_block_normal ?_
            refine E_then_normal ?_
            refine Cs [(51, (.bool ((validN (nth b m)) == 0))), (43, (.bool (decide (m < 30)))), (9, (.int .i64 m)), (7, vq), (6, vp), (20, (.bool (decide (k < 30)))), (8, (.int .i64 k)), (5, (.bool true)), (4, (.bool false)), (0, va), (1, vb)] ?_
            refine C_region ?_
            refine Rv (.int .i64 m) w9 ?_
            refine Rw (.int .i64 (m + 1)) w9 (eq_int (by kernel_rfl) (wrap64_in (by omega) (by omega))) ?_
            refine Rv (.int .i64 (m + 1)) w9 ?_
            refine wpR_nil ?_
            refine E_then_mid fun aq4 ha4 => ⟨(m + 1, qa, vq), ha4.sub ⟨rfl, rfl, rfl, rfl, rfl, rfl, rfl, rfl, rfl, trivial⟩, ⟨by omega, by omega, by omega, av2, by omega, ow10, ow11, hdk, by omega, be9, sees9, trivial⟩, ?_⟩
            (first | omega | (dsimp only; omega))
        · have d5 : ¬ m < 30 := of_decide_eq_false c5
          refine C_exit ?_
          refine E_then_exit ?_
          refine E_then_exit ?_
          refine E_block_here ?_
          refine E_then_normal ?_
          refine C_seq ?_
          refine Cs [(43, (.bool (decide (m < 30)))), (9, (.int .i64 m)), (7, vq), (6, vp), (20, (.bool (decide (k < 30)))), (8, (.int .i64 k)), (5, (.bool true)), (4, (.bool false)), (0, va), (1, vb)] ?_
          refine C_region ?_
          refine Rv (.bool true) w8 ?_
          refine Rv (.bool true) w8 ?_
          refine Rv vp w8 ?_
          have hz1 := OwnsL.fin hop2 (Agr.refl g w) sees sees8 be8.size (Nat.le_refl _)
          have hz2 := OwnsL.fin hoq2 (Agr.refl g w) sees sees8 be8.size (Nat.le_refl _)
          obtain ⟨g1, hg1, sees12, gm1, nf1, agr1, gs1⟩ := heldFrom (g₀ := g) (w₀ := w) sees be8 be0.size
          rw [hg1] at hz1
          rw [hg1] at hz2
          have agr1 := agr1 (Agr.refl g w)
          have hd1 := h_a.mono gm1
          have hd2 := h_b.mono gm1
          refine Rc #[vp] w8 (join_any pa vp _ _ sees12 hz1 (by first | (have h1 := allV_size av1 (by omega); omega) | (have h1 := allV_size av2 (by omega); omega))) ?_
          rintro _ w12 ⟨rfl, l4⟩
          have sees13 := sees12.le l4
          have be12 := l4.below' be8
          refine Rv vq w12 ?_
          refine Rc #[vq] w12 (join_any qa vq _ _ sees13 hz2 (by first | (have h1 := allV_size av1 (by omega); omega) | (have h1 := allV_size av2 (by omega); omega))) ?_
          rintro _ w13 ⟨rfl, l5⟩
          have sees14 := sees13.le l5
          have be13 := l5.below' be12
          refine Rv (.bool ((joinN pa).toList == (joinN qa).toList)) w13 ?_
          refine Rv vp w13 ?_
          refine Rv vq w13 ?_
          refine Rc #[vp, vq] w13 (same_any pa qa vp vq _ _ sees14 hz1 hz2) ?_
          rintro _ w14 ⟨rfl, l6⟩
          have sees15 := sees14.le l6
          have be14 := l6.below' be13
          refine Rv (.bool (((joinN pa).toList == (joinN qa).toList) == (sameL pa qa))) w14 ?_
          refine Rv (.bool (((joinN pa).toList == (joinN qa).toList) == (sameL pa qa))) w14 ?_
          rcases Bool.eq_false_or_eq_true (((joinN pa).toList == (joinN qa).toList) == (sameL pa qa)) with c7 | c7
          · refine Rw (.bool true) w14 (eq_bool (by kernel_rfl) c7) ?_
            refine Rv vp w14 ?_
            refine Rv vp w14 ?_
            refine Rc #[vp, vp] w14 (same_any pa pa vp vp _ _ sees15 hz1 hz1) ?_
            rintro _ w15 ⟨rfl, l7⟩
            have sees16 := sees15.le l7
            have be15 := l7.below' be14
            refine Rv (.bool (sameL pa pa)) w15 ?_
            rcases Bool.eq_false_or_eq_true (sameL pa pa) with c8 | c8
            · refine Rw (.bool true) w15 (eq_bool (by kernel_rfl) c8) ?_
              refine Rv vp w15 ?_
              refine Rv vp w15 ?_
              refine Rc #[vp, vp] w15 (less_any pa pa vp vp _ _ sees16 hz1 hz1) ?_
              rintro _ w16 ⟨rfl, l8⟩
              have sees17 := sees16.le l8
              have be16 := l8.below' be15
              refine Rv (.bool (!(decide (cmpL pa pa < 0)))) w16 ?_
              refine Rv (.bool (!(decide (cmpL pa pa < 0)))) w16 ?_
              rcases Bool.eq_false_or_eq_true (!(decide (cmpL pa pa < 0))) with c9 | c9
              · refine Rw (.bool true) w16 (eq_bool (by kernel_rfl) c9) ?_
                refine Rv vp w16 ?_
                refine Rv vp w16 ?_
                refine Rc #[vp, vp] w16 (below_any pa pa vp vp _ _ sees17 hz1 hz1) ?_
                rintro _ w17 ⟨rfl, l9⟩
                have sees18 := sees17.le l9
                have be17 := l9.below' be16
                refine Rv (.bool (!(belowL pa pa))) w17 ?_
                refine Rv (.bool (!(belowL pa pa))) w17 ?_
                refine Rv (.bool (!(belowL pa pa))) w17 ?_
                refine wpR_nil ?_
                refine E_then_normal ?_
                refine C_ret ?_
                refine E_ret (res_one rfl rfl) ⟨_, rfl, ?_⟩
                have j1 := join_inj av1 av2
                simp only [j1, same_self, less_self, below_self, cmpL_key] at *
                first | exact ⟨trivial, be17⟩ | exact ⟨congrArg Value.bool (by simp_all), be17⟩ | (exfalso; simp_all; done)
              · refine Rw (.bool false) w16 (eq_bool (by kernel_rfl) c9) ?_
                iterate 4 refine Rs ?_
                refine Rv (.bool false) w16 ?_
                refine Rv (.bool false) w16 ?_
                refine wpR_nil ?_
                refine E_then_normal ?_
                refine C_ret ?_
                refine E_ret (res_one rfl rfl) ⟨_, rfl, ?_⟩
                have j1 := join_inj av1 av2
                simp only [j1, same_self, less_self, below_self, cmpL_key] at *
                first | exact ⟨trivial, be16⟩ | exact ⟨congrArg Value.bool (by simp_all), be16⟩ | (exfalso; simp_all; done)
            · refine Rw (.bool false) w15 (eq_bool (by kernel_rfl) c8) ?_
              iterate 4 refine Rs ?_
              refine Rv (.bool false) w15 ?_
              refine Rv (.bool false) w15 ?_
              iterate 4 refine Rs ?_
              refine Rv (.bool false) w15 ?_
              refine Rv (.bool false) w15 ?_
              refine wpR_nil ?_
              refine E_then_normal ?_
              refine C_ret ?_
              refine E_ret (res_one rfl rfl) ⟨_, rfl, ?_⟩
              have j1 := join_inj av1 av2
              simp only [j1, same_self, less_self, below_self, cmpL_key] at *
              first | exact ⟨trivial, be15⟩ | exact ⟨congrArg Value.bool (by simp_all), be15⟩ | (exfalso; simp_all; done)
          · refine Rw (.bool false) w14 (eq_bool (by kernel_rfl) c7) ?_
            iterate 3 refine Rs ?_
            refine Rv (.bool false) w14 ?_
            refine Rv (.bool false) w14 ?_
            iterate 4 refine Rs ?_
            refine Rv (.bool false) w14 ?_
            refine Rv (.bool false) w14 ?_
            iterate 4 refine Rs ?_
            refine Rv (.bool false) w14 ?_
            refine Rv (.bool false) w14 ?_
            refine wpR_nil ?_
            refine E_then_normal ?_
            refine C_ret ?_
            refine E_ret (res_one rfl rfl) ⟨_, rfl, ?_⟩
            have j1 := join_inj av1 av2
            simp only [j1, same_self, less_self, below_self, cmpL_key] at *
            first | exact ⟨trivial, be14⟩ | exact ⟨congrArg Value.bool (by simp_all), be14⟩ | (exfalso; simp_all; done)
      · have d4 : ¬ m < (b.length : Int) := of_decide_eq_false c4
        refine Rw (.bool false) w8 (eq_bool (by kernel_rfl) c4) ?_
        iterate 2 refine Rs ?_
        refine Rv (.bool false) w8 ?_
        refine wpR_nil ?_
        refine E_then_normal ?_
        refine C_false rfl ?_
        refine C_exit ?_
        refine E_then_exit ?_
        refine E_then_exit ?_
        refine E_block_here ?_
        refine E_then_normal ?_
        refine C_seq ?_
        refine Cs [(43, (.bool false)), (9, (.int .i64 m)), (7, vq), (6, vp), (20, (.bool (decide (k < 30)))), (8, (.int .i64 k)), (5, (.bool true)), (4, (.bool false)), (0, va), (1, vb)] ?_
        refine C_region ?_
        refine Rv (.bool true) w8 ?_
        refine Rv (.bool true) w8 ?_
        refine Rv vp w8 ?_
        have hz3 := OwnsL.fin hop2 (Agr.refl g w) sees sees8 be8.size (Nat.le_refl _)
        have hz4 := OwnsL.fin hoq2 (Agr.refl g w) sees sees8 be8.size (Nat.le_refl _)
        obtain ⟨g2, hg2, sees19, gm2, nf2, agr2, gs2⟩ := heldFrom (g₀ := g) (w₀ := w) sees be8 be0.size
        rw [hg2] at hz3
        rw [hg2] at hz4
        have agr2 := agr2 (Agr.refl g w)
        have hd3 := h_a.mono gm2
        have hd4 := h_b.mono gm2
        refine Rc #[vp] w8 (join_any pa vp _ _ sees19 hz3 (by first | (have h1 := allV_size av1 (by omega); omega) | (have h1 := allV_size av2 (by omega); omega))) ?_
        rintro _ w18 ⟨rfl, l10⟩
        have sees20 := sees19.le l10
        have be18 := l10.below' be8
        refine Rv vq w18 ?_
        refine Rc #[vq] w18 (join_any qa vq _ _ sees20 hz4 (by first | (have h1 := allV_size av1 (by omega); omega) | (have h1 := allV_size av2 (by omega); omega))) ?_
        rintro _ w19 ⟨rfl, l11⟩
        have sees21 := sees20.le l11
        have be19 := l11.below' be18
        refine Rv (.bool ((joinN pa).toList == (joinN qa).toList)) w19 ?_
        refine Rv vp w19 ?_
        refine Rv vq w19 ?_
        refine Rc #[vp, vq] w19 (same_any pa qa vp vq _ _ sees21 hz3 hz4) ?_
        rintro _ w20 ⟨rfl, l12⟩
        have sees22 := sees21.le l12
        have be20 := l12.below' be19
        refine Rv (.bool (((joinN pa).toList == (joinN qa).toList) == (sameL pa qa))) w20 ?_
        refine Rv (.bool (((joinN pa).toList == (joinN qa).toList) == (sameL pa qa))) w20 ?_
        rcases Bool.eq_false_or_eq_true (((joinN pa).toList == (joinN qa).toList) == (sameL pa qa)) with c10 | c10
        · refine Rw (.bool true) w20 (eq_bool (by kernel_rfl) c10) ?_
          refine Rv vp w20 ?_
          refine Rv vp w20 ?_
          refine Rc #[vp, vp] w20 (same_any pa pa vp vp _ _ sees22 hz3 hz3) ?_
          rintro _ w21 ⟨rfl, l13⟩
          have sees23 := sees22.le l13
          have be21 := l13.below' be20
          refine Rv (.bool (sameL pa pa)) w21 ?_
          rcases Bool.eq_false_or_eq_true (sameL pa pa) with c11 | c11
          · refine Rw (.bool true) w21 (eq_bool (by kernel_rfl) c11) ?_
            refine Rv vp w21 ?_
            refine Rv vp w21 ?_
            refine Rc #[vp, vp] w21 (less_any pa pa vp vp _ _ sees23 hz3 hz3) ?_
            rintro _ w22 ⟨rfl, l14⟩
            have sees24 := sees23.le l14
            have be22 := l14.below' be21
            refine Rv (.bool (!(decide (cmpL pa pa < 0)))) w22 ?_
            refine Rv (.bool (!(decide (cmpL pa pa < 0)))) w22 ?_
            rcases Bool.eq_false_or_eq_true (!(decide (cmpL pa pa < 0))) with c12 | c12
            · refine Rw (.bool true) w22 (eq_bool (by kernel_rfl) c12) ?_
              refine Rv vp w22 ?_
              refine Rv vp w22 ?_
              refine Rc #[vp, vp] w22 (below_any pa pa vp vp _ _ sees24 hz3 hz3) ?_
              rintro _ w23 ⟨rfl, l15⟩
              have sees25 := sees24.le l15
              have be23 := l15.below' be22
              refine Rv (.bool (!(belowL pa pa))) w23 ?_
              refine Rv (.bool (!(belowL pa pa))) w23 ?_
              refine Rv (.bool (!(belowL pa pa))) w23 ?_
              refine wpR_nil ?_
              refine E_then_normal ?_
              refine C_ret ?_
              refine E_ret (res_one rfl rfl) ⟨_, rfl, ?_⟩
              have j1 := join_inj av1 av2
              simp only [j1, same_self, less_self, below_self, cmpL_key] at *
              first | exact ⟨trivial, be23⟩ | exact ⟨congrArg Value.bool (by simp_all), be23⟩ | (exfalso; simp_all; done)
            · refine Rw (.bool false) w22 (eq_bool (by kernel_rfl) c12) ?_
              iterate 4 refine Rs ?_
              refine Rv (.bool false) w22 ?_
              refine Rv (.bool false) w22 ?_
              refine wpR_nil ?_
              refine E_then_normal ?_
              refine C_ret ?_
              refine E_ret (res_one rfl rfl) ⟨_, rfl, ?_⟩
              have j1 := join_inj av1 av2
              simp only [j1, same_self, less_self, below_self, cmpL_key] at *
              first | exact ⟨trivial, be22⟩ | exact ⟨congrArg Value.bool (by simp_all), be22⟩ | (exfalso; simp_all; done)
          · refine Rw (.bool false) w21 (eq_bool (by kernel_rfl) c11) ?_
            iterate 4 refine Rs ?_
            refine Rv (.bool false) w21 ?_
            refine Rv (.bool false) w21 ?_
            iterate 4 refine Rs ?_
            refine Rv (.bool false) w21 ?_
            refine Rv (.bool false) w21 ?_
            refine wpR_nil ?_
            refine E_then_normal ?_
            refine C_ret ?_
            refine E_ret (res_one rfl rfl) ⟨_, rfl, ?_⟩
            have j1 := join_inj av1 av2
            simp only [j1, same_self, less_self, below_self, cmpL_key] at *
            first | exact ⟨trivial, be21⟩ | exact ⟨congrArg Value.bool (by simp_all), be21⟩ | (exfalso; simp_all; done)
        · refine Rw (.bool false) w20 (eq_bool (by kernel_rfl) c10) ?_
          iterate 3 refine Rs ?_
          refine Rv (.bool false) w20 ?_
          refine Rv (.bool false) w20 ?_
          iterate 4 refine Rs ?_
          refine Rv (.bool false) w20 ?_
          refine Rv (.bool false) w20 ?_
          iterate 4 refine Rs ?_
          refine Rv (.bool false) w20 ?_
          refine Rv (.bool false) w20 ?_
          refine wpR_nil ?_
          refine E_then_normal ?_
          refine C_ret ?_
          refine E_ret (res_one rfl rfl) ⟨_, rfl, ?_⟩
          have j1 := join_inj av1 av2
          simp only [j1, same_self, less_self, below_self, cmpL_key] at *
          first | exact ⟨trivial, be20⟩ | exact ⟨congrArg Value.bool (by simp_all), be20⟩ | (exfalso; simp_all; done)
  · have d1 : ¬ k < (a.length : Int) := of_decide_eq_false c1
    refine Rw (.bool false) w4 (eq_bool (by kernel_rfl) c1) ?_
    iterate 2 refine Rs ?_
    refine Rv (.bool false) w4 ?_
    refine wpR_nil ?_
    refine E_then_normal ?_
    refine C_false rfl ?_
    refine C_exit ?_
    refine E_then_exit ?_
    refine E_then_exit ?_
    refine E_block_here ?_
    refine E_then_normal ?_
    refine C_seq ?_
    refine C_seq ?_
    refine Cs [(20, (.bool false)), (8, (.int .i64 k)), (6, vp), (7, (.slice (some ⟨b2, 0, none⟩) 0 0)), (5, (.bool true)), (4, (.bool false)), (0, va), (1, vb)] ?_
    refine C_region ?_
    refine Rv (.int .i64 0) w4 ?_
    refine wpR_nil ?_
    refine E_then_normal ?_
    refine C_block ?_
    refine C_loop (ι := Int × List ByteArray × Value) (fun i : Int × List ByteArray × Value => match i with | (m, qa, vq) => [(9, (.int .i64 m)), (7, vq), (6, vp), (20, (.bool false)), (8, (.int .i64 k)), (5, (.bool true)), (4, (.bool false)), (0, va), (1, vb)]) (fun (i : Int × List ByteArray × Value) w' => match i with | (m, qa, vq) => 0 ≤ m ∧ m ≤ b.length ∧ m ≤ 30 ∧ allV qa ∧ qa.length ≤ m ∧ OwnsL g w' w.heap.size 9 vq qa ∧ OwnsL g w' w.heap.size 9 vp (pa : List ByteArray) ∧ Disj vq vp ∧ w.heap.size ≤ w'.heap.size ∧ Below w.heap.size w w' ∧ Sees g w' ∧ True) (fun i : Int × List ByteArray × Value => match i with | (m, qa, vq) => ((b.length : Int) - m).toNat) (0, [], (.slice (some ⟨b2, 0, none⟩) 0 0)) ⟨rfl, rfl, rfl, rfl, rfl, rfl, rfl, rfl, rfl, trivial⟩ ⟨by omega, by omega, by omega, fun x hx => by simp at hx, by simp, hoq, hop, (hdj).symm, Below.size be4, be4, sees4, trivial⟩ ?_
    rintro ⟨m, qa, vq⟩ w24 ⟨hm0, hma, hm3, av2, hl2, hoq2, hop2, hdk, hdkb, be24, sees26, -⟩
    refine Cs [(9, (.int .i64 m)), (7, vq), (6, vp), (20, (.bool false)), (8, (.int .i64 k)), (5, (.bool true)), (4, (.bool false)), (0, va), (1, vb)] ?_
    refine C_seq ?_
    refine C_seq ?_
    refine C_region ?_
    refine Rv (.int .i64 m) w24 ?_
    refine Rv vb w24 ?_
    refine Rw (.int .i64 (b.length : Int)) w24 (X_len (h_b.mono sees26.mono) rfl Tryd.underlying26 rfl) ?_
    refine Rv (.bool (decide (m < (b.length : Int)))) w24 ?_
    rcases Bool.eq_false_or_eq_true (decide (m < (b.length : Int))) with c13 | c13
    · have d13 : m < (b.length : Int) := of_decide_eq_true c13
      refine Rw (.bool true) w24 (eq_bool (by kernel_rfl) c13) ?_
      refine Rv (.int .i64 m) w24 ?_
      refine Rv (.bool (decide (m < 30))) w24 ?_
      refine Rv (.bool (decide (m < 30))) w24 ?_
      refine wpR_nil ?_
      refine E_then_normal ?_
      refine C_cond rfl (fun c14 => ?_) (fun c14 => ?_)
      · have d14 : m < 30 := of_decide_eq_true c14
        refine C_skip ?_
        refine E_then_normal ?_
        refine C_seq ?_
        refine C_block ?_
        refine C_seq ?_
        refine Cs [(43, (.bool (decide (m < 30)))), (9, (.int .i64 m)), (7, vq), (6, vp), (20, (.bool false)), (8, (.int .i64 k)), (5, (.bool true)), (4, (.bool false)), (0, va), (1, vb)] ?_
        refine C_region ?_
        refine Rv vb w24 ?_
        refine Rv (.int .i64 m) w24 ?_
        refine Rw (elemP 1 vb m) w24 (X_indexAddr (h_b.mono sees26.mono) (by omega) (by omega) rfl Tryd.underlying26 (by kernel_rfl) rfl rfl) ?_
        refine Rw (.string (nth b m)) w24 (X_load rfl rfl (run_load_str (h_b.mono sees26.mono) (by omega) (by omega) Tryd.underlying9 (by kernel_rfl))) ?_
        refine Rc #[(.string (nth b m))] w24 (valid_any (nth b m) _) ?_
        rintro _ w25 ⟨rfl, l16⟩
        have sz8 := l16.size
        have ow16 := hoq2.le l16
        have ow17 := hop2.le l16
        have sees27 := sees26.le l16
        have be25 := l16.below' be24
        refine Rv (.bool ((validN (nth b m)) == 0)) w25 ?_
        refine wpR_nil ?_
        refine E_then_normal ?_
        refine C_cond rfl (fun c15 => ?_) (fun c15 => ?_)
        · have d15 : (validN (nth b m)) = 0 := eq_of_beq c15
          refine Cs [(51, (.bool ((validN (nth b m)) == 0))), (43, (.bool (decide (m < 30)))), (9, (.int .i64 m)), (7, vq), (6, vp), (20, (.bool false)), (8, (.int .i64 k)), (5, (.bool true)), (4, (.bool false)), (0, va), (1, vb)] ?_
          refine C_region ?_
          refine Rv vq w25 ?_
          refine Rv vb w25 ?_
          refine Rv (.int .i64 m) w25 ?_
          refine Rw (elemP 1 vb m) w25 (X_indexAddr (h_b.mono sees27.mono) (by omega) (by omega) rfl Tryd.underlying26 (by kernel_rfl) rfl rfl) ?_
          refine Rw (.string (nth b m)) w25 (X_load rfl rfl (run_load_str (h_b.mono sees27.mono) (by omega) (by omega) Tryd.underlying9 (by kernel_rfl))) ?_
          refine S_new (fun b => .slice (some ⟨b, 0, none⟩) 1 1) (.cells #[(.string (nth b m))] 9) (by kernel_rfl) (by kernel_rfl) rfl rfl rfl fun b5 w26 n5 => ?_
          have sz9 := n5.le.size
          have ow18 := ow16.le n5.le
          have ow19 := ow17.le n5.le
          have ni5 := n5.notIn sees27
          have sees28 := sees27.le n5.le
          have k5 := n5.blk
          have o5 := n5.own be25
          have be26 := n5.below' be25
          refine S_append2 (bytes := 16) (a := nth b m) (c := [(.string (nth b m))]) ow18 k5 ⟨rfl, (by have h5 := (valid_facts (eq_of_beq c15)).1; unfold maxLen; omega)⟩ Tryd.underlying26 (by kernel_rfl) (by kernel_rfl) (by decide) rfl (by omega) (by omega) (by omega) rfl rfl rfl rfl rfl rfl fun v3 w27 ow20 bl3 gw3 wh3 => ?_
          have dj4 := Disj.grown hdk ow19 wh3
          have ow21 := OwnsL.grown ow19 hdk gw3
          have sz10 := bl3.size
          have sees29 := sees28.grew sees.size bl3
          have be27 := be26.trans (bl3.mono (Nat.le_refl _))
          refine Rv v3 w27 ?_
          refine wpR_nil ?_
          refine E_block_normal ?_
          refine E_then_normal ?_
          refine Cs [(7, v3), (51, (.bool ((validN (nth b m)) == 0))), (43, (.bool (decide (m < 30)))), (9, (.int .i64 m)), (6, vp), (20, (.bool false)), (8, (.int .i64 k)), (5, (.bool true)), (4, (.bool false)), (0, va), (1, vb)] ?_
          refine C_region ?_
          refine Rv (.int .i64 m) w27 ?_
          refine Rw (.int .i64 (m + 1)) w27 (eq_int (by kernel_rfl) (wrap64_in (by omega) (by omega))) ?_
          refine Rv (.int .i64 (m + 1)) w27 ?_
          refine wpR_nil ?_
          refine E_then_mid fun aq5 ha5 => ⟨(m + 1, qa ++ [nth b m], v3), ha5.sub ⟨rfl, rfl, rfl, rfl, rfl, rfl, rfl, rfl, rfl, trivial⟩, ⟨by omega, by omega, by omega, allV_snoc av2 c15, by simp only [List.length_append, List.length_cons, List.length_nil]; omega, ow20, ow21, dj4, by omega, be27, sees29, trivial⟩, ?_⟩
          (first | omega | (dsimp only; omega))
        · have d15 : (validN (nth b m)) ≠ 0 := ne_of_beq_false c15
          refine C_skip ?_
          refine E_block_normal ?_
          refine E_then_normal ?_
          refine Cs [(51, (.bool ((validN (nth b m)) == 0))), (43, (.bool (decide (m < 30)))), (9, (.int .i64 m)), (7, vq), (6, vp), (20, (.bool false)), (8, (.int .i64 k)), (5, (.bool true)), (4, (.bool false)), (0, va), (1, vb)] ?_
          refine C_region ?_
          refine Rv (.int .i64 m) w25 ?_
          refine Rw (.int .i64 (m + 1)) w25 (eq_int (by kernel_rfl) (wrap64_in (by omega) (by omega))) ?_
          refine Rv (.int .i64 (m + 1)) w25 ?_
          refine wpR_nil ?_
          refine E_then_mid fun aq6 ha6 => ⟨(m + 1, qa, vq), ha6.sub ⟨rfl, rfl, rfl, rfl, rfl, rfl, rfl, rfl, rfl, trivial⟩, ⟨by omega, by omega, by omega, av2, by omega, ow16, ow17, hdk, by omega, be25, sees27, trivial⟩, ?_⟩
          (first | omega | (dsimp only; omega))
      · have d14 : ¬ m < 30 := of_decide_eq_false c14
        refine C_exit ?_
        refine E_then_exit ?_
        refine E_then_exit ?_
        refine E_block_here ?_
        refine E_then_normal ?_
        refine C_seq ?_
        refine Cs [(43, (.bool (decide (m < 30)))), (9, (.int .i64 m)), (7, vq), (6, vp), (20, (.bool false)), (8, (.int .i64 k)), (5, (.bool true)), (4, (.bool false)), (0, va), (1, vb)] ?_
        refine C_region ?_
        refine Rv (.bool true) w24 ?_
        refine Rv (.bool true) w24 ?_
        refine Rv vp w24 ?_
        have hz5 := OwnsL.fin hop2 (Agr.refl g w) sees sees26 be24.size (Nat.le_refl _)
        have hz6 := OwnsL.fin hoq2 (Agr.refl g w) sees sees26 be24.size (Nat.le_refl _)
        obtain ⟨g3, hg3, sees30, gm3, nf3, agr3, gs3⟩ := heldFrom (g₀ := g) (w₀ := w) sees be24 be0.size
        rw [hg3] at hz5
        rw [hg3] at hz6
        have agr3 := agr3 (Agr.refl g w)
        have hd5 := h_a.mono gm3
        have hd6 := h_b.mono gm3
        refine Rc #[vp] w24 (join_any pa vp _ _ sees30 hz5 (by first | (have h1 := allV_size av1 (by omega); omega) | (have h1 := allV_size av2 (by omega); omega))) ?_
        rintro _ w28 ⟨rfl, l17⟩
        have sees31 := sees30.le l17
        have be28 := l17.below' be24
        refine Rv vq w28 ?_
        refine Rc #[vq] w28 (join_any qa vq _ _ sees31 hz6 (by first | (have h1 := allV_size av1 (by omega); omega) | (have h1 := allV_size av2 (by omega); omega))) ?_
        rintro _ w29 ⟨rfl, l18⟩
        have sees32 := sees31.le l18
        have be29 := l18.below' be28
        refine Rv (.bool ((joinN pa).toList == (joinN qa).toList)) w29 ?_
        refine Rv vp w29 ?_
        refine Rv vq w29 ?_
        refine Rc #[vp, vq] w29 (same_any pa qa vp vq _ _ sees32 hz5 hz6) ?_
        rintro _ w30 ⟨rfl, l19⟩
        have sees33 := sees32.le l19
        have be30 := l19.below' be29
        refine Rv (.bool (((joinN pa).toList == (joinN qa).toList) == (sameL pa qa))) w30 ?_
        refine Rv (.bool (((joinN pa).toList == (joinN qa).toList) == (sameL pa qa))) w30 ?_
        rcases Bool.eq_false_or_eq_true (((joinN pa).toList == (joinN qa).toList) == (sameL pa qa)) with c16 | c16
        · refine Rw (.bool true) w30 (eq_bool (by kernel_rfl) c16) ?_
          refine Rv vp w30 ?_
          refine Rv vp w30 ?_
          refine Rc #[vp, vp] w30 (same_any pa pa vp vp _ _ sees33 hz5 hz5) ?_
          rintro _ w31 ⟨rfl, l20⟩
          have sees34 := sees33.le l20
          have be31 := l20.below' be30
          refine Rv (.bool (sameL pa pa)) w31 ?_
          rcases Bool.eq_false_or_eq_true (sameL pa pa) with c17 | c17
          · refine Rw (.bool true) w31 (eq_bool (by kernel_rfl) c17) ?_
            refine Rv vp w31 ?_
            refine Rv vp w31 ?_
            refine Rc #[vp, vp] w31 (less_any pa pa vp vp _ _ sees34 hz5 hz5) ?_
            rintro _ w32 ⟨rfl, l21⟩
            have sees35 := sees34.le l21
            have be32 := l21.below' be31
            refine Rv (.bool (!(decide (cmpL pa pa < 0)))) w32 ?_
            refine Rv (.bool (!(decide (cmpL pa pa < 0)))) w32 ?_
            rcases Bool.eq_false_or_eq_true (!(decide (cmpL pa pa < 0))) with c18 | c18
            · refine Rw (.bool true) w32 (eq_bool (by kernel_rfl) c18) ?_
              refine Rv vp w32 ?_
              refine Rv vp w32 ?_
              refine Rc #[vp, vp] w32 (below_any pa pa vp vp _ _ sees35 hz5 hz5) ?_
              rintro _ w33 ⟨rfl, l22⟩
              have sees36 := sees35.le l22
              have be33 := l22.below' be32
              refine Rv (.bool (!(belowL pa pa))) w33 ?_
              refine Rv (.bool (!(belowL pa pa))) w33 ?_
              refine Rv (.bool (!(belowL pa pa))) w33 ?_
              refine wpR_nil ?_
              refine E_then_normal ?_
              refine C_ret ?_
              refine E_ret (res_one rfl rfl) ⟨_, rfl, ?_⟩
              have j1 := join_inj av1 av2
              simp only [j1, same_self, less_self, below_self, cmpL_key] at *
              first | exact ⟨trivial, be33⟩ | exact ⟨congrArg Value.bool (by simp_all), be33⟩ | (exfalso; simp_all; done)
            · refine Rw (.bool false) w32 (eq_bool (by kernel_rfl) c18) ?_
              iterate 4 refine Rs ?_
              refine Rv (.bool false) w32 ?_
              refine Rv (.bool false) w32 ?_
              refine wpR_nil ?_
              refine E_then_normal ?_
              refine C_ret ?_
              refine E_ret (res_one rfl rfl) ⟨_, rfl, ?_⟩
              have j1 := join_inj av1 av2
              simp only [j1, same_self, less_self, below_self, cmpL_key] at *
              first | exact ⟨trivial, be32⟩ | exact ⟨congrArg Value.bool (by simp_all), be32⟩ | (exfalso; simp_all; done)
          · refine Rw (.bool false) w31 (eq_bool (by kernel_rfl) c17) ?_
            iterate 4 refine Rs ?_
            refine Rv (.bool false) w31 ?_
            refine Rv (.bool false) w31 ?_
            iterate 4 refine Rs ?_
            refine Rv (.bool false) w31 ?_
            refine Rv (.bool false) w31 ?_
            refine wpR_nil ?_
            refine E_then_normal ?_
            refine C_ret ?_
            refine E_ret (res_one rfl rfl) ⟨_, rfl, ?_⟩
            have j1 := join_inj av1 av2
            simp only [j1, same_self, less_self, below_self, cmpL_key] at *
            first | exact ⟨trivial, be31⟩ | exact ⟨congrArg Value.bool (by simp_all), be31⟩ | (exfalso; simp_all; done)
        · refine Rw (.bool false) w30 (eq_bool (by kernel_rfl) c16) ?_
          iterate 3 refine Rs ?_
          refine Rv (.bool false) w30 ?_
          refine Rv (.bool false) w30 ?_
          iterate 4 refine Rs ?_
          refine Rv (.bool false) w30 ?_
          refine Rv (.bool false) w30 ?_
          iterate 4 refine Rs ?_
          refine Rv (.bool false) w30 ?_
          refine Rv (.bool false) w30 ?_
          refine wpR_nil ?_
          refine E_then_normal ?_
          refine C_ret ?_
          refine E_ret (res_one rfl rfl) ⟨_, rfl, ?_⟩
          have j1 := join_inj av1 av2
          simp only [j1, same_self, less_self, below_self, cmpL_key] at *
          first | exact ⟨trivial, be30⟩ | exact ⟨congrArg Value.bool (by simp_all), be30⟩ | (exfalso; simp_all; done)
    · have d13 : ¬ m < (b.length : Int) := of_decide_eq_false c13
      refine Rw (.bool false) w24 (eq_bool (by kernel_rfl) c13) ?_
      iterate 2 refine Rs ?_
      refine Rv (.bool false) w24 ?_
      refine wpR_nil ?_
      refine E_then_normal ?_
      refine C_false rfl ?_
      refine C_exit ?_
      refine E_then_exit ?_
      refine E_then_exit ?_
      refine E_block_here ?_
      refine E_then_normal ?_
      refine C_seq ?_
      refine Cs [(43, (.bool false)), (9, (.int .i64 m)), (7, vq), (6, vp), (20, (.bool false)), (8, (.int .i64 k)), (5, (.bool true)), (4, (.bool false)), (0, va), (1, vb)] ?_
      refine C_region ?_
      refine Rv (.bool true) w24 ?_
      refine Rv (.bool true) w24 ?_
      refine Rv vp w24 ?_
      have hz7 := OwnsL.fin hop2 (Agr.refl g w) sees sees26 be24.size (Nat.le_refl _)
      have hz8 := OwnsL.fin hoq2 (Agr.refl g w) sees sees26 be24.size (Nat.le_refl _)
      obtain ⟨g4, hg4, sees37, gm4, nf4, agr4, gs4⟩ := heldFrom (g₀ := g) (w₀ := w) sees be24 be0.size
      rw [hg4] at hz7
      rw [hg4] at hz8
      have agr4 := agr4 (Agr.refl g w)
      have hd7 := h_a.mono gm4
      have hd8 := h_b.mono gm4
      refine Rc #[vp] w24 (join_any pa vp _ _ sees37 hz7 (by first | (have h1 := allV_size av1 (by omega); omega) | (have h1 := allV_size av2 (by omega); omega))) ?_
      rintro _ w34 ⟨rfl, l23⟩
      have sees38 := sees37.le l23
      have be34 := l23.below' be24
      refine Rv vq w34 ?_
      refine Rc #[vq] w34 (join_any qa vq _ _ sees38 hz8 (by first | (have h1 := allV_size av1 (by omega); omega) | (have h1 := allV_size av2 (by omega); omega))) ?_
      rintro _ w35 ⟨rfl, l24⟩
      have sees39 := sees38.le l24
      have be35 := l24.below' be34
      refine Rv (.bool ((joinN pa).toList == (joinN qa).toList)) w35 ?_
      refine Rv vp w35 ?_
      refine Rv vq w35 ?_
      refine Rc #[vp, vq] w35 (same_any pa qa vp vq _ _ sees39 hz7 hz8) ?_
      rintro _ w36 ⟨rfl, l25⟩
      have sees40 := sees39.le l25
      have be36 := l25.below' be35
      refine Rv (.bool (((joinN pa).toList == (joinN qa).toList) == (sameL pa qa))) w36 ?_
      refine Rv (.bool (((joinN pa).toList == (joinN qa).toList) == (sameL pa qa))) w36 ?_
      rcases Bool.eq_false_or_eq_true (((joinN pa).toList == (joinN qa).toList) == (sameL pa qa)) with c19 | c19
      · refine Rw (.bool true) w36 (eq_bool (by kernel_rfl) c19) ?_
        refine Rv vp w36 ?_
        refine Rv vp w36 ?_
        refine Rc #[vp, vp] w36 (same_any pa pa vp vp _ _ sees40 hz7 hz7) ?_
        rintro _ w37 ⟨rfl, l26⟩
        have sees41 := sees40.le l26
        have be37 := l26.below' be36
        refine Rv (.bool (sameL pa pa)) w37 ?_
        rcases Bool.eq_false_or_eq_true (sameL pa pa) with c20 | c20
        · refine Rw (.bool true) w37 (eq_bool (by kernel_rfl) c20) ?_
          refine Rv vp w37 ?_
          refine Rv vp w37 ?_
          refine Rc #[vp, vp] w37 (less_any pa pa vp vp _ _ sees41 hz7 hz7) ?_
          rintro _ w38 ⟨rfl, l27⟩
          have sees42 := sees41.le l27
          have be38 := l27.below' be37
          refine Rv (.bool (!(decide (cmpL pa pa < 0)))) w38 ?_
          refine Rv (.bool (!(decide (cmpL pa pa < 0)))) w38 ?_
          rcases Bool.eq_false_or_eq_true (!(decide (cmpL pa pa < 0))) with c21 | c21
          · refine Rw (.bool true) w38 (eq_bool (by kernel_rfl) c21) ?_
            refine Rv vp w38 ?_
            refine Rv vp w38 ?_
            refine Rc #[vp, vp] w38 (below_any pa pa vp vp _ _ sees42 hz7 hz7) ?_
            rintro _ w39 ⟨rfl, l28⟩
            have sees43 := sees42.le l28
            have be39 := l28.below' be38
            refine Rv (.bool (!(belowL pa pa))) w39 ?_
            refine Rv (.bool (!(belowL pa pa))) w39 ?_
            refine Rv (.bool (!(belowL pa pa))) w39 ?_
            refine wpR_nil ?_
            refine E_then_normal ?_
            refine C_ret ?_
            refine E_ret (res_one rfl rfl) ⟨_, rfl, ?_⟩
            have j1 := join_inj av1 av2
            simp only [j1, same_self, less_self, below_self, cmpL_key] at *
            first | exact ⟨trivial, be39⟩ | exact ⟨congrArg Value.bool (by simp_all), be39⟩ | (exfalso; simp_all; done)
          · refine Rw (.bool false) w38 (eq_bool (by kernel_rfl) c21) ?_
            iterate 4 refine Rs ?_
            refine Rv (.bool false) w38 ?_
            refine Rv (.bool false) w38 ?_
            refine wpR_nil ?_
            refine E_then_normal ?_
            refine C_ret ?_
            refine E_ret (res_one rfl rfl) ⟨_, rfl, ?_⟩
            have j1 := join_inj av1 av2
            simp only [j1, same_self, less_self, below_self, cmpL_key] at *
            first | exact ⟨trivial, be38⟩ | exact ⟨congrArg Value.bool (by simp_all), be38⟩ | (exfalso; simp_all; done)
        · refine Rw (.bool false) w37 (eq_bool (by kernel_rfl) c20) ?_
          iterate 4 refine Rs ?_
          refine Rv (.bool false) w37 ?_
          refine Rv (.bool false) w37 ?_
          iterate 4 refine Rs ?_
          refine Rv (.bool false) w37 ?_
          refine Rv (.bool false) w37 ?_
          refine wpR_nil ?_
          refine E_then_normal ?_
          refine C_ret ?_
          refine E_ret (res_one rfl rfl) ⟨_, rfl, ?_⟩
          have j1 := join_inj av1 av2
          simp only [j1, same_self, less_self, below_self, cmpL_key] at *
          first | exact ⟨trivial, be37⟩ | exact ⟨congrArg Value.bool (by simp_all), be37⟩ | (exfalso; simp_all; done)
      · refine Rw (.bool false) w36 (eq_bool (by kernel_rfl) c19) ?_
        iterate 3 refine Rs ?_
        refine Rv (.bool false) w36 ?_
        refine Rv (.bool false) w36 ?_
        iterate 4 refine Rs ?_
        refine Rv (.bool false) w36 ?_
        refine Rv (.bool false) w36 ?_
        iterate 4 refine Rs ?_
        refine Rv (.bool false) w36 ?_
        refine Rv (.bool false) w36 ?_
        refine wpR_nil ?_
        refine E_then_normal ?_
        refine C_ret ?_
        refine E_ret (res_one rfl rfl) ⟨_, rfl, ?_⟩
        have j1 := join_inj av1 av2
        simp only [j1, same_self, less_self, below_self, cmpL_key] at *
        first | exact ⟨trivial, be36⟩ | exact ⟨congrArg Value.bool (by simp_all), be36⟩ | (exfalso; simp_all; done)
end Go.Proofs.YtepekaepgeekcaaDoor
