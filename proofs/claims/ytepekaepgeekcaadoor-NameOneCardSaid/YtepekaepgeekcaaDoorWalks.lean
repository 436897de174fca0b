/- What the functions of layer 6 come to. (Printed by a program of mine.) -/
import Derived.Test.YtepekaepgeekcaaDoorRows
import Derived.Test.YtepekaepgeekcaaDoorLib
import Derived.Test.YtepekaepgeekcaaDoorLmOrd
import Derived.Test.YtepekaepgeekcaaDoorLmShort
namespace Go.Proofs.YtepekaepgeekcaaDoor
open Go Go.RowKit Go.Lm
set_option linter.unusedVariables false in
set_option linter.unusedSimpArgs false in
set_option maxHeartbeats 4000000 in
set_option maxRecDepth 100000 in
theorem isNaN_any (s : ByteArray) (w : World) : Ret Tryd.prog 34 #[(.string s)] w fun v w' => v = .bool false ∧ Le w w' := by
  have be0 := Below.refl w.heap.size w
  refine enter (args := [(.string s)]) Tryd.func34 rfl rfl rfl ?_
  refine C_seq ?_
  refine C_region ?_
  refine Rv (.bool false) w ?_
  refine wpR_nil ?_
  refine E_then_normal ?_
  refine C_seq ?_
  refine C_region ?_
  refine Rv (.string s) w ?_
  refine Rv (.string s) w ?_
  refine Rv (.bool (!(s.toList == s.toList))) w ?_
  refine Rv (.bool (!(s.toList == s.toList))) w ?_
  refine wpR_nil ?_
  refine E_then_normal ?_
  refine C_ret ?_
  refine E_ret (res_one rfl rfl) ⟨_, rfl, ?_⟩
  exact ⟨congrArg Value.bool (by first | rfl | simp), be0⟩

set_option linter.unusedVariables false in
set_option linter.unusedSimpArgs false in
set_option maxHeartbeats 4000000 in
set_option maxRecDepth 100000 in
theorem cmp_any (a b : ByteArray) (w : World) : Ret Tryd.prog 28 #[(.string a), (.string b)] w fun v w' => v = .int .i64 (cmpB a b) ∧ Le w w' := by
  have be0 := Below.refl w.heap.size w
  refine enter (args := [(.string a), (.string b)]) Tryd.func28 rfl rfl rfl ?_
  refine C_seq ?_
  refine C_region ?_
  refine Rv (.int .i64 0) w ?_
  refine wpR_nil ?_
  refine E_then_normal ?_
  refine C_seq ?_
  refine C_region ?_
  refine Rv (.string a) w ?_
  refine Rc #[(.string a)] w (isNaN_any a _) ?_
  rintro _ w1 ⟨rfl, l1⟩
  have be1 := l1.below' be0
  refine Rv (.bool false) w1 ?_
  refine wpR_nil ?_
  refine E_then_normal ?_
  refine C_seq ?_
  refine Cs [(5, (.bool false)), (4, (.int .i64 0)), (0, (.string a)), (1, (.string b))] ?_
  refine C_region ?_
  refine Rv (.string b) w1 ?_
  refine Rc #[(.string b)] w1 (isNaN_any b _) ?_
  rintro _ w2 ⟨rfl, l2⟩
  have be2 := l2.below' be1
  refine Rv (.bool false) w2 ?_
  refine wpR_nil ?_
  refine E_then_normal ?_
  refine C_seq ?_
  refine C_seq ?_
  refine Cs [(6, (.bool false)), (5, (.bool false)), (4, (.int .i64 0)), (0, (.string a)), (1, (.string b))] ?_
  refine C_region ?_
  refine Rv (.bool false) w2 ?_
  refine wpR_nil ?_
  refine E_then_normal ?_
  refine C_false rfl ?_
  refine C_skip ?_
  refine E_then_normal ?_
  refine C_seq ?_
  refine C_seq ?_
  refine C_region ?_
  refine Rv (.bool false) w2 ?_
  refine wpR_nil ?_
  refine E_then_normal ?_
  refine C_false rfl ?_
  refine C_skip ?_
  refine E_then_normal ?_
  refine C_seq ?_
  refine C_seq ?_
  refine C_region ?_
  refine Rv (.string a) w2 ?_
  refine Rv (.string b) w2 ?_
  refine Rv (.bool (Op.bytesLess a.toList b.toList)) w2 ?_
  refine wpR_nil ?_
  refine E_then_normal ?_
  refine C_cond rfl (fun c1 => ?_) (fun c1 => ?_)
  · refine C_seq ?_
    refine Cs [(16, (.bool (Op.bytesLess a.toList b.toList))), (13, (.bool false)), (11, (.bool false)), (6, (.bool false)), (5, (.bool false)), (4, (.int .i64 0)), (0, (.string a)), (1, (.string b))] ?_
    refine C_region ?_
    refine Rv (.int .i64 (-1)) w2 ?_
    refine wpR_nil ?_
    refine E_then_normal ?_
    refine C_ret ?_
    refine E_then_ret ?_
    refine E_ret (res_one rfl rfl) ⟨_, rfl, ?_⟩
    exact ⟨congrArg (Value.int .i64) (by unfold cmpB ltB eqB; simp_all), be2⟩
  · refine C_skip ?_
    refine E_then_normal ?_
    refine C_seq ?_
    refine C_seq ?_
    refine Cs [(16, (.bool (Op.bytesLess a.toList b.toList))), (13, (.bool false)), (11, (.bool false)), (6, (.bool false)), (5, (.bool false)), (4, (.int .i64 0)), (0, (.string a)), (1, (.string b))] ?_
    refine C_region ?_
    refine Rv (.string a) w2 ?_
    refine Rv (.string b) w2 ?_
    refine Rv (.bool (!(Op.bytesLess a.toList b.toList || a.toList == b.toList))) w2 ?_
    refine wpR_nil ?_
    refine E_then_normal ?_
    refine C_cond rfl (fun c2 => ?_) (fun c2 => ?_)
    · refine C_seq ?_
      refine Cs [(19, (.bool (!(Op.bytesLess a.toList b.toList || a.toList == b.toList)))), (16, (.bool (Op.bytesLess a.toList b.toList))), (13, (.bool false)), (11, (.bool false)), (6, (.bool false)), (5, (.bool false)), (4, (.int .i64 0)), (0, (.string a)), (1, (.string b))] ?_
      refine C_region ?_
      refine Rv (.int .i64 1) w2 ?_
      refine wpR_nil ?_
      refine E_then_normal ?_
      refine C_ret ?_
      refine E_then_ret ?_
      refine E_ret (res_one rfl rfl) ⟨_, rfl, ?_⟩
      exact ⟨congrArg (Value.int .i64) (by unfold cmpB ltB eqB; simp_all), be2⟩
    · refine C_skip ?_
      refine E_then_normal ?_
      refine C_seq ?_
      refine Cs [(19, (.bool (!(Op.bytesLess a.toList b.toList || a.toList == b.toList)))), (16, (.bool (Op.bytesLess a.toList b.toList))), (13, (.bool false)), (11, (.bool false)), (6, (.bool false)), (5, (.bool false)), (4, (.int .i64 0)), (0, (.string a)), (1, (.string b))] ?_
      refine C_region ?_
      refine Rv (.int .i64 0) w2 ?_
      refine wpR_nil ?_
      refine E_then_normal ?_
      refine C_ret ?_
      refine E_ret (res_one rfl rfl) ⟨_, rfl, ?_⟩
      exact ⟨congrArg (Value.int .i64) (by unfold cmpB ltB eqB; simp_all), be2⟩

set_option linter.unusedVariables false in
set_option linter.unusedSimpArgs false in
set_option maxHeartbeats 4000000 in
set_option maxRecDepth 100000 in
theorem compare_any (a b : List ByteArray) (va vb : Value) (g w : World) (sees : Sees g w) (h_a : Is g va a) (h_b : Is g vb b) : Ret Tryd.prog 23 #[va, vb] w fun v w' => v = .int .i64 (cmpL a b) ∧ Le w w' := by
  have ln_h_a := h_a.len_le
  have ln_h_b := h_b.len_le
  have be0 := Below.refl w.heap.size w
  refine enter (args := [va, vb]) Tryd.func23 rfl rfl rfl ?_
  refine C_seq ?_
  refine C_region ?_
  refine Rv (.int .i64 0) w ?_
  refine wpR_nil ?_
  refine E_then_normal ?_
  refine C_seq ?_
  refine C_seq ?_
  refine C_region ?_
  refine Rv va w ?_
  refine Rw (.int .i64 (a.length : Int)) w (X_len (h_a.mono sees.mono) rfl Tryd.underlying26 rfl) ?_
  refine Rv (.int .i64 0) w ?_
  refine wpR_nil ?_
  refine E_then_normal ?_
  refine C_block ?_
  refine C_loop (ι := Int) (fun k : Int => [(11, (.int .i64 k)), (10, (.int .i64 (a.length : Int))), (9, va), (0, va), (1, vb)]) (fun (k : Int) w' => 0 ≤ k ∧ k ≤ a.length ∧ k ≤ b.length ∧ cmpL (a.drop k.toNat) (b.drop k.toNat) = cmpL a b ∧ Below w.heap.size w w' ∧ Sees g w' ∧ True) (fun k : Int => ((a.length : Int) - k).toNat) 0 ⟨rfl, rfl, rfl, rfl, rfl, trivial⟩ ⟨by omega, by omega, by omega, rfl, be0, sees, trivial⟩ ?_
  rintro k w1 ⟨hk0, hka, hkb, hc, be1, sees1, -⟩
  refine Cs [(11, (.int .i64 k)), (10, (.int .i64 (a.length : Int))), (9, va), (0, va), (1, vb)] ?_
  refine C_seq ?_
  refine C_region ?_
  refine Rv (.bool (decide (k < (a.length : Int)))) w1 ?_
  refine wpR_nil ?_
  refine E_then_normal ?_
  refine C_seq ?_
  refine C_cond rfl (fun c1 => ?_) (fun c1 => ?_)
  · have d1 : k < (a.length : Int) := of_decide_eq_true c1
    refine C_skip ?_
    refine E_then_normal ?_
    refine C_seq ?_
    refine C_block ?_
    refine C_seq ?_
    refine C_region ?_
    refine Rv (.int .i64 k) w1 ?_
    refine Rw (elemP 1 va k) w1 (X_indexAddr (h_a.mono sees1.mono) (by omega) (by omega) rfl Tryd.underlying26 (by kernel_rfl) rfl rfl) ?_
    refine Rw (.string (nth a k)) w1 (X_load rfl rfl (run_load_str (h_a.mono sees1.mono) (by omega) (by omega) Tryd.underlying9 (by kernel_rfl))) ?_
    refine Rv (.int .i64 k) w1 ?_
    refine Rv (.string (nth a k)) w1 ?_
    refine wpR_nil ?_
    refine E_then_normal ?_
    refine C_seq ?_
    refine C_seq ?_
    refine Cs [(6, (.string (nth a k))), (5, (.int .i64 k)), (12, (.bool (decide (k < (a.length : Int))))), (11, (.int .i64 k)), (10, (.int .i64 (a.length : Int))), (9, va), (0, va), (1, vb)] ?_
    refine C_region ?_
    refine Rv (.int .i64 k) w1 ?_
    refine Rv vb w1 ?_
    refine Rw (.int .i64 (b.length : Int)) w1 (X_len (h_b.mono sees1.mono) rfl Tryd.underlying26 rfl) ?_
    refine Rv (.bool (decide (k ≥ (b.length : Int)))) w1 ?_
    refine wpR_nil ?_
    refine E_then_normal ?_
    refine C_cond rfl (fun c2 => ?_) (fun c2 => ?_)
    · have d2 : k ≥ (b.length : Int) := of_decide_eq_true c2
      refine C_seq ?_
      refine Cs [(19, (.bool (decide (k ≥ (b.length : Int))))), (6, (.string (nth a k))), (5, (.int .i64 k)), (12, (.bool (decide (k < (a.length : Int))))), (11, (.int .i64 k)), (10, (.int .i64 (a.length : Int))), (9, va), (0, va), (1, vb)] ?_
      refine C_region ?_
      refine Rv (.int .i64 1) w1 ?_
      refine wpR_nil ?_
      refine E_then_normal ?_
      refine C_ret ?_
      refine E_then_ret ?_
      refine E_block_ret ?_
      refine E_then_ret ?_
      refine E_then_ret ?_
      refine E_block_ret ?_
      refine E_then_ret ?_
      refine E_ret (res_one rfl rfl) ⟨_, rfl, ?_⟩
      exact ⟨congrArg (Value.int .i64) (by first | exact cmpL_gt (by omega) (by omega) (by omega) hc | exact cmpL_ne (by omega) (by omega) (by omega) (by assumption) hc | exact cmpL_lt (by omega) (by omega) (by omega) (by omega) hc | exact cmpL_eq (by omega) (by omega) (by omega) (by omega) hc), be1⟩
    · have d2 : ¬ k ≥ (b.length : Int) := of_decide_eq_false c2
      refine C_skip ?_
      refine E_then_normal ?_
      refine C_seq ?_
      refine Cs [(19, (.bool (decide (k ≥ (b.length : Int))))), (6, (.string (nth a k))), (5, (.int .i64 k)), (12, (.bool (decide (k < (a.length : Int))))), (11, (.int .i64 k)), (10, (.int .i64 (a.length : Int))), (9, va), (0, va), (1, vb)] ?_
      refine C_region ?_
      refine Rv vb w1 ?_
      refine Rv (.int .i64 k) w1 ?_
      refine Rw (elemP 1 vb k) w1 (X_indexAddr (h_b.mono sees1.mono) (by omega) (by omega) rfl Tryd.underlying26 (by kernel_rfl) rfl rfl) ?_
      refine Rw (.string (nth b k)) w1 (X_load rfl rfl (run_load_str (h_b.mono sees1.mono) (by omega) (by omega) Tryd.underlying9 (by kernel_rfl))) ?_
      refine Rv (.string (nth b k)) w1 ?_
      refine wpR_nil ?_
      refine E_then_normal ?_
      refine C_seq ?_
      refine Cs [(7, (.string (nth b k))), (19, (.bool (decide (k ≥ (b.length : Int))))), (6, (.string (nth a k))), (5, (.int .i64 k)), (12, (.bool (decide (k < (a.length : Int))))), (11, (.int .i64 k)), (10, (.int .i64 (a.length : Int))), (9, va), (0, va), (1, vb)] ?_
      refine C_region ?_
      refine Rv (.string (nth a k)) w1 ?_
      refine Rv (.string (nth b k)) w1 ?_
      refine Rc #[(.string (nth a k)), (.string (nth b k))] w1 (cmp_any (nth a k) (nth b k) _) ?_
      rintro _ w2 ⟨rfl, l1⟩
      have sees2 := sees1.le l1
      have be2 := l1.below' be1
      refine Rv (.int .i64 (cmpB (nth a k) (nth b k))) w2 ?_
      refine wpR_nil ?_
      refine E_then_normal ?_
      refine C_seq ?_
      refine Cs [(8, (.int .i64 (cmpB (nth a k) (nth b k)))), (7, (.string (nth b k))), (19, (.bool (decide (k ≥ (b.length : Int))))), (6, (.string (nth a k))), (5, (.int .i64 k)), (12, (.bool (decide (k < (a.length : Int))))), (11, (.int .i64 k)), (10, (.int .i64 (a.length : Int))), (9, va), (0, va), (1, vb)] ?_
      refine C_region ?_
      refine Rv (.int .i64 (cmpB (nth a k) (nth b k))) w2 ?_
      refine Rv (.bool ((cmpB (nth a k) (nth b k)) != 0)) w2 ?_
      refine wpR_nil ?_
      refine E_then_normal ?_
      refine C_cond rfl (fun c3 => ?_) (fun c3 => ?_)
      · have d3 : (cmpB (nth a k) (nth b k)) ≠ 0 := bne_iff_ne.1 c3
        refine C_seq ?_
        refine Cs [(28, (.bool ((cmpB (nth a k) (nth b k)) != 0))), (8, (.int .i64 (cmpB (nth a k) (nth b k)))), (7, (.string (nth b k))), (19, (.bool (decide (k ≥ (b.length : Int))))), (6, (.string (nth a k))), (5, (.int .i64 k)), (12, (.bool (decide (k < (a.length : Int))))), (11, (.int .i64 k)), (10, (.int .i64 (a.length : Int))), (9, va), (0, va), (1, vb)] ?_
        refine C_region ?_
        refine Rv (.int .i64 (cmpB (nth a k) (nth b k))) w2 ?_
        refine Rv (.int .i64 (cmpB (nth a k) (nth b k))) w2 ?_
        refine wpR_nil ?_
        refine E_then_normal ?_
        refine C_ret ?_
        refine E_block_ret ?_
        refine E_then_ret ?_
        refine E_then_ret ?_
        refine E_block_ret ?_
        refine E_then_ret ?_
        refine E_ret (res_one rfl rfl) ⟨_, rfl, ?_⟩
        exact ⟨congrArg (Value.int .i64) (by first | exact cmpL_gt (by omega) (by omega) (by omega) hc | exact cmpL_ne (by omega) (by omega) (by omega) (by assumption) hc | exact cmpL_lt (by omega) (by omega) (by omega) (by omega) hc | exact cmpL_eq (by omega) (by omega) (by omega) (by omega) hc), be2⟩
      · have d3 : (cmpB (nth a k) (nth b k)) = 0 := bne_eq_false_iff_eq.1 c3
        refine C_skip ?_
        refine E_block_normal ?_
        refine E_then_normal ?_
        refine Cs [(28, (.bool ((cmpB (nth a k) (nth b k)) != 0))), (8, (.int .i64 (cmpB (nth a k) (nth b k)))), (7, (.string (nth b k))), (19, (.bool (decide (k ≥ (b.length : Int))))), (6, (.string (nth a k))), (5, (.int .i64 k)), (12, (.bool (decide (k < (a.length : Int))))), (11, (.int .i64 k)), (10, (.int .i64 (a.length : Int))), (9, va), (0, va), (1, vb)] ?_
        refine C_region ?_
        refine Rw (.int .i64 (k + 1)) w2 (eq_int (by kernel_rfl) (wrap64_in (by omega) (by omega))) ?_
        refine Rv (.int .i64 (k + 1)) w2 ?_
        refine wpR_nil ?_
        refine E_then_mid fun aq1 ha1 => ⟨k + 1, ha1.sub ⟨rfl, rfl, rfl, rfl, rfl, trivial⟩, ⟨by omega, by omega, by omega, cmpL_step (by omega) (by omega) (by omega) (by assumption) hc, be2, sees2, trivial⟩, ?_⟩
        (first | omega | (dsimp only; omega))
  · have d1 : ¬ k < (a.length : Int) := of_decide_eq_false c1
    refine C_exit ?_
    refine E_then_exit ?_
    refine E_then_exit ?_
    refine E_block_here ?_
    refine E_then_normal ?_
    refine C_seq ?_
    refine C_seq ?_
    refine C_region ?_
    refine Rv va w1 ?_
    refine Rw (.int .i64 (a.length : Int)) w1 (X_len (h_a.mono sees1.mono) rfl Tryd.underlying26 rfl) ?_
    refine Rv vb w1 ?_
    refine Rw (.int .i64 (b.length : Int)) w1 (X_len (h_b.mono sees1.mono) rfl Tryd.underlying26 rfl) ?_
    refine Rv (.bool (decide ((a.length : Int) < (b.length : Int)))) w1 ?_
    refine wpR_nil ?_
    refine E_then_normal ?_
    refine C_cond rfl (fun c4 => ?_) (fun c4 => ?_)
    · have d4 : (a.length : Int) < (b.length : Int) := of_decide_eq_true c4
      refine C_seq ?_
      refine Cs [(35, (.bool (decide ((a.length : Int) < (b.length : Int))))), (12, (.bool (decide (k < (a.length : Int))))), (11, (.int .i64 k)), (10, (.int .i64 (a.length : Int))), (9, va), (0, va), (1, vb)] ?_
      refine C_region ?_
      refine Rv (.int .i64 (-1)) w1 ?_
      refine wpR_nil ?_
      refine E_then_normal ?_
      refine C_ret ?_
      refine E_then_ret ?_
      refine E_ret (res_one rfl rfl) ⟨_, rfl, ?_⟩
      exact ⟨congrArg (Value.int .i64) (by first | exact cmpL_gt (by omega) (by omega) (by omega) hc | exact cmpL_ne (by omega) (by omega) (by omega) (by assumption) hc | exact cmpL_lt (by omega) (by omega) (by omega) (by omega) hc | exact cmpL_eq (by omega) (by omega) (by omega) (by omega) hc), be1⟩
    · have d4 : ¬ (a.length : Int) < (b.length : Int) := of_decide_eq_false c4
      refine C_skip ?_
      refine E_then_normal ?_
      refine C_seq ?_
      refine Cs [(35, (.bool (decide ((a.length : Int) < (b.length : Int))))), (12, (.bool (decide (k < (a.length : Int))))), (11, (.int .i64 k)), (10, (.int .i64 (a.length : Int))), (9, va), (0, va), (1, vb)] ?_
      refine C_region ?_
      refine Rv (.int .i64 0) w1 ?_
      refine wpR_nil ?_
      refine E_then_normal ?_
      refine C_ret ?_
      refine E_ret (res_one rfl rfl) ⟨_, rfl, ?_⟩
      exact ⟨congrArg (Value.int .i64) (by first | exact cmpL_gt (by omega) (by omega) (by omega) hc | exact cmpL_ne (by omega) (by omega) (by omega) (by assumption) hc | exact cmpL_lt (by omega) (by omega) (by omega) (by omega) hc | exact cmpL_eq (by omega) (by omega) (by omega) (by omega) hc), be1⟩

set_option linter.unusedVariables false in
set_option linter.unusedSimpArgs false in
set_option maxHeartbeats 4000000 in
set_option maxRecDepth 100000 in
theorem less_any (a b : List ByteArray) (va vb : Value) (g w : World) (sees : Sees g w) (h_a : Is g va a) (h_b : Is g vb b) : Ret Tryd.prog 13 #[va, vb] w fun v w' => v = .bool (decide (cmpL a b < 0)) ∧ Le w w' := by
  have ln_h_a := h_a.len_le
  have ln_h_b := h_b.len_le
  have be0 := Below.refl w.heap.size w
  refine enter (args := [va, vb]) Tryd.func13 rfl rfl rfl ?_
  refine C_seq ?_
  refine C_region ?_
  refine Rv (.bool false) w ?_
  refine wpR_nil ?_
  refine E_then_normal ?_
  refine C_seq ?_
  refine C_region ?_
  refine Rv va w ?_
  refine Rv vb w ?_
  refine Rc #[va, vb] w (compare_any a b va vb _ _ sees h_a h_b) ?_
  rintro _ w1 ⟨rfl, l1⟩
  have sees1 := sees.le l1
  have be1 := l1.below' be0
  refine Rv (.bool (decide ((cmpL a b) < 0))) w1 ?_
  refine Rv (.bool (decide ((cmpL a b) < 0))) w1 ?_
  refine wpR_nil ?_
  refine E_then_normal ?_
  refine C_ret ?_
  refine E_ret (res_one rfl rfl) ⟨_, rfl, ?_⟩
  exact ⟨congrArg Value.bool (by first | rfl), be1⟩

set_option linter.unusedVariables false in
set_option linter.unusedSimpArgs false in
set_option maxHeartbeats 4000000 in
set_option maxRecDepth 100000 in
theorem equal_any (a b : List ByteArray) (va vb : Value) (g w : World) (sees : Sees g w) (h_a : Is g va a) (h_b : Is g vb b) : Ret Tryd.prog 24 #[va, vb] w fun v w' => v = .bool (sameL a b) ∧ Le w w' := by
  have ln_h_a := h_a.len_le
  have ln_h_b := h_b.len_le
  have be0 := Below.refl w.heap.size w
  refine enter (args := [va, vb]) Tryd.func24 rfl rfl rfl ?_
  refine C_seq ?_
  refine C_region ?_
  refine Rv (.bool false) w ?_
  refine wpR_nil ?_
  refine E_then_normal ?_
  refine C_seq ?_
  refine C_seq ?_
  refine C_region ?_
  refine Rv va w ?_
  refine Rw (.int .i64 (a.length : Int)) w (X_len (h_a.mono sees.mono) rfl Tryd.underlying26 rfl) ?_
  refine Rv vb w ?_
  refine Rw (.int .i64 (b.length : Int)) w (X_len (h_b.mono sees.mono) rfl Tryd.underlying26 rfl) ?_
  refine Rv (.bool ((a.length : Int) != (b.length : Int))) w ?_
  refine wpR_nil ?_
  refine E_then_normal ?_
  refine C_cond rfl (fun c1 => ?_) (fun c1 => ?_)
  · have d1 : (a.length : Int) ≠ (b.length : Int) := bne_iff_ne.1 c1
    refine C_seq ?_
    refine Cs [(10, (.bool ((a.length : Int) != (b.length : Int)))), (4, (.bool false)), (0, va), (1, vb)] ?_
    refine C_region ?_
    refine Rv (.bool false) w ?_
    refine wpR_nil ?_
    refine E_then_normal ?_
    refine C_ret ?_
    refine E_then_ret ?_
    refine E_ret (res_one rfl rfl) ⟨_, rfl, ?_⟩
    exact ⟨congrArg Value.bool (by first | exact sameL_ne (by assumption) | exact sameL_no (by omega) (by omega) (by omega) (notB_t hc) hc | exact sameL_yes (by omega) (by omega) hc), be0⟩
  · have d1 : (a.length : Int) = (b.length : Int) := bne_eq_false_iff_eq.1 c1
    refine C_skip ?_
    refine E_then_normal ?_
    refine C_seq ?_
    refine C_seq ?_
    refine Cs [(10, (.bool ((a.length : Int) != (b.length : Int)))), (4, (.bool false)), (0, va), (1, vb)] ?_
    refine C_region ?_
    refine Rv va w ?_
    refine Rw (.int .i64 (a.length : Int)) w (X_len (h_a.mono sees.mono) rfl Tryd.underlying26 rfl) ?_
    refine Rv (.int .i64 0) w ?_
    refine wpR_nil ?_
    refine E_then_normal ?_
    refine C_block ?_
    refine Cs [(13, (.int .i64 0)), (12, (.int .i64 (a.length : Int))), (10, (.bool ((a.length : Int) != (b.length : Int)))), (4, (.bool false)), (0, va), (1, vb)] ?_
    refine C_loop (ι := Int) (fun k : Int => [(13, (.int .i64 k)), (12, (.int .i64 (a.length : Int))), (10, (.bool ((a.length : Int) != (b.length : Int)))), (0, va), (1, vb)]) (fun (k : Int) w' => 0 ≤ k ∧ k ≤ a.length ∧ k ≤ b.length ∧ sameL (a.drop k.toNat) (b.drop k.toNat) = sameL a b ∧ Below w.heap.size w w' ∧ Sees g w' ∧ True) (fun k : Int => ((a.length : Int) - k).toNat) 0 ⟨rfl, rfl, rfl, rfl, rfl, trivial⟩ ⟨by omega, by omega, by omega, rfl, be0, sees, trivial⟩ ?_
    rintro k w1 ⟨hk0, hka, hkb, hc, be1, sees1, -⟩
    refine Cs [(13, (.int .i64 k)), (12, (.int .i64 (a.length : Int))), (10, (.bool ((a.length : Int) != (b.length : Int)))), (0, va), (1, vb)] ?_
    refine C_seq ?_
    refine C_region ?_
    refine Rv (.bool (decide (k < (a.length : Int)))) w1 ?_
    refine wpR_nil ?_
    refine E_then_normal ?_
    refine C_seq ?_
    refine C_cond rfl (fun c2 => ?_) (fun c2 => ?_)
    · have d2 : k < (a.length : Int) := of_decide_eq_true c2
      refine C_skip ?_
      refine E_then_normal ?_
      refine C_seq ?_
      refine C_block ?_
      refine C_seq ?_
      refine C_region ?_
      refine Rv (.int .i64 k) w1 ?_
      refine Rv (.int .i64 k) w1 ?_
      refine wpR_nil ?_
      refine E_then_normal ?_
      refine C_seq ?_
      refine Cs [(5, (.int .i64 k)), (14, (.bool (decide (k < (a.length : Int))))), (13, (.int .i64 k)), (12, (.int .i64 (a.length : Int))), (10, (.bool ((a.length : Int) != (b.length : Int)))), (0, va), (1, vb)] ?_
      refine C_draw [fun _ v => v = va, fun _ v => v = (.int .i64 k), fun _ v => v = (elemP 1 va k), fun _ v => v = (.string (nth a k)), fun _ v => v = vb, fun _ v => v = (.int .i64 k), fun _ v => v = (elemP 1 vb k), fun _ v => v = (.string (nth b k)), fun _ v => v = (.bool (!((nth a k).toList == (nth b k).toList)))] (by kernel_rfl) (by kernel_rfl) (by kernel_rfl) ⟨stab_exact _, stab_exact _, stab_exact _, stab_exact _, stab_exact _, stab_exact _, stab_exact _, stab_exact _, stab_exact _, trivial⟩ ⟨?_, ?_, ?_, ?_, ?_, ?_, ?_, ?_, ?_, trivial⟩ ?_
      · intro aq wd ld hfd hdd
        have hfd := Fr.cast (s' := [(5, (.int .i64 k)), (14, (.bool (decide (k < (a.length : Int))))), (13, (.int .i64 k)), (12, (.int .i64 (a.length : Int))), (10, (.bool ((a.length : Int) != (b.length : Int)))), (0, va), (1, vb)]) hfd (by kernel_rfl)
        exact G_val (v := va) (w' := wd) hfd rfl (by kernel_rfl) (by kernel_rfl) (Le.refl _) rfl
      · intro aq wd ld hfd hdd
        have hfd := Fr.cast (s' := [(5, (.int .i64 k)), (14, (.bool (decide (k < (a.length : Int))))), (13, (.int .i64 k)), (12, (.int .i64 (a.length : Int))), (10, (.bool ((a.length : Int) != (b.length : Int)))), (0, va), (1, vb)]) hfd (by kernel_rfl)
        exact G_val (v := (.int .i64 k)) (w' := wd) hfd rfl (by kernel_rfl) (by kernel_rfl) (Le.refl _) rfl
      · intro aq wd ld hfd hdd
        have hfd := Fr.cast (s' := [(5, (.int .i64 k)), (14, (.bool (decide (k < (a.length : Int))))), (13, (.int .i64 k)), (12, (.int .i64 (a.length : Int))), (10, (.bool ((a.length : Int) != (b.length : Int)))), (0, va), (1, vb)]) hfd (by kernel_rfl)
        obtain ⟨e0, e1, _⟩ := hdd
        have hfd := Fr.add (t := 16) (v := va) hfd e0
        have hfd := Fr.add (t := 17) (v := (.int .i64 k)) hfd e1
        exact G_val (v := (elemP 1 va k)) (w' := wd) hfd rfl (by kernel_rfl) (X_indexAddr (h_a.mono (sees1.le ld).mono) (by omega) (by omega) rfl Tryd.underlying26 (by kernel_rfl) rfl rfl) (Le.refl _) rfl
      · intro aq wd ld hfd hdd
        have hfd := Fr.cast (s' := [(5, (.int .i64 k)), (14, (.bool (decide (k < (a.length : Int))))), (13, (.int .i64 k)), (12, (.int .i64 (a.length : Int))), (10, (.bool ((a.length : Int) != (b.length : Int)))), (0, va), (1, vb)]) hfd (by kernel_rfl)
        obtain ⟨e2, _⟩ := hdd
        have hfd := Fr.add (t := 18) (v := (elemP 1 va k)) hfd e2
        exact G_val (v := (.string (nth a k))) (w' := wd) hfd rfl (by kernel_rfl) (X_load rfl rfl (run_load_str (h_a.mono (sees1.le ld).mono) (by omega) (by omega) Tryd.underlying9 (by kernel_rfl))) (Le.refl _) rfl
      · intro aq wd ld hfd hdd
        have hfd := Fr.cast (s' := [(5, (.int .i64 k)), (14, (.bool (decide (k < (a.length : Int))))), (13, (.int .i64 k)), (12, (.int .i64 (a.length : Int))), (10, (.bool ((a.length : Int) != (b.length : Int)))), (0, va), (1, vb)]) hfd (by kernel_rfl)
        exact G_val (v := vb) (w' := wd) hfd rfl (by kernel_rfl) (by kernel_rfl) (Le.refl _) rfl
      · intro aq wd ld hfd hdd
        have hfd := Fr.cast (s' := [(5, (.int .i64 k)), (14, (.bool (decide (k < (a.length : Int))))), (13, (.int .i64 k)), (12, (.int .i64 (a.length : Int))), (10, (.bool ((a.length : Int) != (b.length : Int)))), (0, va), (1, vb)]) hfd (by kernel_rfl)
        exact G_val (v := (.int .i64 k)) (w' := wd) hfd rfl (by kernel_rfl) (by kernel_rfl) (Le.refl _) rfl
      · intro aq wd ld hfd hdd
        have hfd := Fr.cast (s' := [(5, (.int .i64 k)), (14, (.bool (decide (k < (a.length : Int))))), (13, (.int .i64 k)), (12, (.int .i64 (a.length : Int))), (10, (.bool ((a.length : Int) != (b.length : Int)))), (0, va), (1, vb)]) hfd (by kernel_rfl)
        obtain ⟨e4, e5, _⟩ := hdd
        have hfd := Fr.add (t := 20) (v := vb) hfd e4
        have hfd := Fr.add (t := 21) (v := (.int .i64 k)) hfd e5
        exact G_val (v := (elemP 1 vb k)) (w' := wd) hfd rfl (by kernel_rfl) (X_indexAddr (h_b.mono (sees1.le ld).mono) (by omega) (by omega) rfl Tryd.underlying26 (by kernel_rfl) rfl rfl) (Le.refl _) rfl
      · intro aq wd ld hfd hdd
        have hfd := Fr.cast (s' := [(5, (.int .i64 k)), (14, (.bool (decide (k < (a.length : Int))))), (13, (.int .i64 k)), (12, (.int .i64 (a.length : Int))), (10, (.bool ((a.length : Int) != (b.length : Int)))), (0, va), (1, vb)]) hfd (by kernel_rfl)
        obtain ⟨e6, _⟩ := hdd
        have hfd := Fr.add (t := 22) (v := (elemP 1 vb k)) hfd e6
        exact G_val (v := (.string (nth b k))) (w' := wd) hfd rfl (by kernel_rfl) (X_load rfl rfl (run_load_str (h_b.mono (sees1.le ld).mono) (by omega) (by omega) Tryd.underlying9 (by kernel_rfl))) (Le.refl _) rfl
      · intro aq wd ld hfd hdd
        have hfd := Fr.cast (s' := [(5, (.int .i64 k)), (14, (.bool (decide (k < (a.length : Int))))), (13, (.int .i64 k)), (12, (.int .i64 (a.length : Int))), (10, (.bool ((a.length : Int) != (b.length : Int)))), (0, va), (1, vb)]) hfd (by kernel_rfl)
        obtain ⟨e3, e7, _⟩ := hdd
        have hfd := Fr.add (t := 19) (v := (.string (nth a k))) hfd e3
        have hfd := Fr.add (t := 23) (v := (.string (nth b k))) hfd e7
        exact G_val (v := (.bool (!((nth a k).toList == (nth b k).toList)))) (w' := wd) hfd rfl (by kernel_rfl) (by kernel_rfl) (Le.refl _) rfl
      intro aq1 w2 l1 hf1 fa1
      obtain ⟨q1, q2, q3, q4, q5, q6, q7, q8, q9, _⟩ := fa1
      have hf1 := Fr.cast (s' := [(5, (.int .i64 k)), (14, (.bool (decide (k < (a.length : Int))))), (13, (.int .i64 k)), (12, (.int .i64 (a.length : Int))), (10, (.bool ((a.length : Int) != (b.length : Int)))), (0, va), (1, vb)]) hf1 (by kernel_rfl)
      have hf1 := Fr.add (t := 24) (v := (.bool (!((nth a k).toList == (nth b k).toList)))) hf1 q9
      have sees2 := sees1.le l1
      have be2 := l1.below' be1
      refine (?_ : okE .normal _ [(24, (.bool (!((nth a k).toList == (nth b k).toList)))), (5, (.int .i64 k)), (14, (.bool (decide (k < (a.length : Int))))), (13, (.int .i64 k)), (12, (.int .i64 (a.length : Int))), (10, (.bool ((a.length : Int) != (b.length : Int)))), (0, va), (1, vb)] _ _) aq1 (hf1.sub ⟨rfl, rfl, rfl, rfl, rfl, rfl, rfl, rfl, trivial⟩)
      refine E_then_normal ?_
      refine C_cond rfl (fun c3 => ?_) (fun c3 => ?_)
      · refine C_seq ?_
        refine C_region ?_
        refine Rv (.bool false) w2 ?_
        refine wpR_nil ?_
        refine E_then_normal ?_
        refine C_ret ?_
        refine E_block_ret ?_
        refine E_then_ret ?_
        refine E_then_ret ?_
        refine E_block_ret ?_
        refine E_then_ret ?_
        refine E_ret (res_one rfl rfl) ⟨_, rfl, ?_⟩
        exact ⟨congrArg Value.bool (by first | exact sameL_ne (by assumption) | exact sameL_no (by omega) (by omega) (by omega) (notB_t c3) hc | exact sameL_yes (by omega) (by omega) hc), be2⟩
      · refine C_skip ?_
        refine E_block_normal ?_
        refine E_then_normal ?_
        refine C_region ?_
        refine Rw (.int .i64 (k + 1)) w2 (eq_int (by kernel_rfl) (wrap64_in (by omega) (by omega))) ?_
        refine Rv (.int .i64 (k + 1)) w2 ?_
        refine wpR_nil ?_
        refine E_then_mid fun aq2 ha1 => ⟨k + 1, ha1.sub ⟨rfl, rfl, rfl, rfl, rfl, trivial⟩, ⟨by omega, by omega, by omega, sameL_step (by omega) (by omega) (by omega) (notB_f c3) hc, be2, sees2, trivial⟩, ?_⟩
        (first | omega | (dsimp only; omega))
    · have d2 : ¬ k < (a.length : Int) := of_decide_eq_false c2
      refine C_exit ?_
      refine E_then_exit ?_
      refine E_then_exit ?_
      refine E_block_here ?_
      refine E_then_normal ?_
      refine C_seq ?_
      refine C_region ?_
      refine Rv (.bool true) w1 ?_
      refine wpR_nil ?_
      refine E_then_normal ?_
      refine C_ret ?_
      refine E_ret (res_one rfl rfl) ⟨_, rfl, ?_⟩
      exact ⟨congrArg Value.bool (by first | exact sameL_ne (by assumption) | exact sameL_no (by omega) (by omega) (by omega) (notB_t hc) hc | exact sameL_yes (by omega) (by omega) hc), be1⟩

set_option linter.unusedVariables false in
set_option linter.unusedSimpArgs false in
set_option maxHeartbeats 4000000 in
set_option maxRecDepth 100000 in
theorem refsame_any (a b : List ByteArray) (va vb : Value) (g w : World) (sees : Sees g w) (h_a : Is g va a) (h_b : Is g vb b) : Ret Tryd.prog 16 #[va, vb] w fun v w' => v = .bool (sameL a b) ∧ Le w w' := by
  have ln_h_a := h_a.len_le
  have ln_h_b := h_b.len_le
  have be0 := Below.refl w.heap.size w
  refine enter (args := [va, vb]) Tryd.func16 rfl rfl rfl ?_
  refine C_seq ?_
  refine C_region ?_
  refine Rv (.bool false) w ?_
  refine wpR_nil ?_
  refine E_then_normal ?_
  refine C_seq ?_
  refine C_seq ?_
  refine C_region ?_
  refine Rv va w ?_
  refine Rw (.int .i64 (a.length : Int)) w (X_len (h_a.mono sees.mono) rfl Tryd.underlying26 rfl) ?_
  refine Rv vb w ?_
  refine Rw (.int .i64 (b.length : Int)) w (X_len (h_b.mono sees.mono) rfl Tryd.underlying26 rfl) ?_
  refine Rv (.bool ((a.length : Int) != (b.length : Int))) w ?_
  refine wpR_nil ?_
  refine E_then_normal ?_
  refine C_cond rfl (fun c1 => ?_) (fun c1 => ?_)
  · have d1 : (a.length : Int) ≠ (b.length : Int) := bne_iff_ne.1 c1
    refine C_seq ?_
    refine Cs [(10, (.bool ((a.length : Int) != (b.length : Int)))), (4, (.bool false)), (0, va), (1, vb)] ?_
    refine C_region ?_
    refine Rv (.bool false) w ?_
    refine wpR_nil ?_
    refine E_then_normal ?_
    refine C_ret ?_
    refine E_then_ret ?_
    refine E_ret (res_one rfl rfl) ⟨_, rfl, ?_⟩
    exact ⟨congrArg Value.bool (by first | exact sameL_ne (by assumption) | exact sameL_no (by omega) (by omega) (by omega) (notB_t hc) hc | exact sameL_yes (by omega) (by omega) hc), be0⟩
  · have d1 : (a.length : Int) = (b.length : Int) := bne_eq_false_iff_eq.1 c1
    refine C_skip ?_
    refine E_then_normal ?_
    refine C_seq ?_
    refine C_seq ?_
    refine Cs [(10, (.bool ((a.length : Int) != (b.length : Int)))), (4, (.bool false)), (0, va), (1, vb)] ?_
    refine C_region ?_
    refine Rv (.int .i64 0) w ?_
    refine wpR_nil ?_
    refine E_then_normal ?_
    refine C_block ?_
    refine C_loop (ι := Int) (fun k : Int => [(5, (.int .i64 k)), (10, (.bool ((a.length : Int) != (b.length : Int)))), (0, va), (1, vb)]) (fun (k : Int) w' => 0 ≤ k ∧ k ≤ a.length ∧ k ≤ b.length ∧ sameL (a.drop k.toNat) (b.drop k.toNat) = sameL a b ∧ Below w.heap.size w w' ∧ Sees g w' ∧ True) (fun k : Int => ((a.length : Int) - k).toNat) 0 ⟨rfl, rfl, rfl, rfl, trivial⟩ ⟨by omega, by omega, by omega, rfl, be0, sees, trivial⟩ ?_
    rintro k w1 ⟨hk0, hka, hkb, hc, be1, sees1, -⟩
    refine Cs [(5, (.int .i64 k)), (10, (.bool ((a.length : Int) != (b.length : Int)))), (0, va), (1, vb)] ?_
    refine C_seq ?_
    refine C_seq ?_
    refine C_region ?_
    refine Rv (.int .i64 k) w1 ?_
    refine Rv va w1 ?_
    refine Rw (.int .i64 (a.length : Int)) w1 (X_len (h_a.mono sees1.mono) rfl Tryd.underlying26 rfl) ?_
    refine Rv (.bool (decide (k < (a.length : Int)))) w1 ?_
    refine wpR_nil ?_
    refine E_then_normal ?_
    refine C_cond rfl (fun c2 => ?_) (fun c2 => ?_)
    · have d2 : k < (a.length : Int) := of_decide_eq_true c2
      refine C_skip ?_
      refine E_then_normal ?_
      refine C_seq ?_
      refine C_block ?_
      refine C_seq ?_
      refine Cs [(14, (.bool (decide (k < (a.length : Int))))), (5, (.int .i64 k)), (10, (.bool ((a.length : Int) != (b.length : Int)))), (0, va), (1, vb)] ?_
      refine C_draw [fun _ v => v = va, fun _ v => v = (.int .i64 k), fun _ v => v = (elemP 1 va k), fun _ v => v = (.string (nth a k)), fun _ v => v = vb, fun _ v => v = (.int .i64 k), fun _ v => v = (elemP 1 vb k), fun _ v => v = (.string (nth b k)), fun _ v => v = (.bool (!((nth a k).toList == (nth b k).toList)))] (by kernel_rfl) (by kernel_rfl) (by kernel_rfl) ⟨stab_exact _, stab_exact _, stab_exact _, stab_exact _, stab_exact _, stab_exact _, stab_exact _, stab_exact _, stab_exact _, trivial⟩ ⟨?_, ?_, ?_, ?_, ?_, ?_, ?_, ?_, ?_, trivial⟩ ?_
      · intro aq wd ld hfd hdd
        have hfd := Fr.cast (s' := [(14, (.bool (decide (k < (a.length : Int))))), (5, (.int .i64 k)), (10, (.bool ((a.length : Int) != (b.length : Int)))), (0, va), (1, vb)]) hfd (by kernel_rfl)
        exact G_val (v := va) (w' := wd) hfd rfl (by kernel_rfl) (by kernel_rfl) (Le.refl _) rfl
      · intro aq wd ld hfd hdd
        have hfd := Fr.cast (s' := [(14, (.bool (decide (k < (a.length : Int))))), (5, (.int .i64 k)), (10, (.bool ((a.length : Int) != (b.length : Int)))), (0, va), (1, vb)]) hfd (by kernel_rfl)
        exact G_val (v := (.int .i64 k)) (w' := wd) hfd rfl (by kernel_rfl) (by kernel_rfl) (Le.refl _) rfl
      · intro aq wd ld hfd hdd
        have hfd := Fr.cast (s' := [(14, (.bool (decide (k < (a.length : Int))))), (5, (.int .i64 k)), (10, (.bool ((a.length : Int) != (b.length : Int)))), (0, va), (1, vb)]) hfd (by kernel_rfl)
        obtain ⟨e0, e1, _⟩ := hdd
        have hfd := Fr.add (t := 17) (v := va) hfd e0
        have hfd := Fr.add (t := 18) (v := (.int .i64 k)) hfd e1
        exact G_val (v := (elemP 1 va k)) (w' := wd) hfd rfl (by kernel_rfl) (X_indexAddr (h_a.mono (sees1.le ld).mono) (by omega) (by omega) rfl Tryd.underlying26 (by kernel_rfl) rfl rfl) (Le.refl _) rfl
      · intro aq wd ld hfd hdd
        have hfd := Fr.cast (s' := [(14, (.bool (decide (k < (a.length : Int))))), (5, (.int .i64 k)), (10, (.bool ((a.length : Int) != (b.length : Int)))), (0, va), (1, vb)]) hfd (by kernel_rfl)
        obtain ⟨e2, _⟩ := hdd
        have hfd := Fr.add (t := 19) (v := (elemP 1 va k)) hfd e2
        exact G_val (v := (.string (nth a k))) (w' := wd) hfd rfl (by kernel_rfl) (X_load rfl rfl (run_load_str (h_a.mono (sees1.le ld).mono) (by omega) (by omega) Tryd.underlying9 (by kernel_rfl))) (Le.refl _) rfl
      · intro aq wd ld hfd hdd
        have hfd := Fr.cast (s' := [(14, (.bool (decide (k < (a.length : Int))))), (5, (.int .i64 k)), (10, (.bool ((a.length : Int) != (b.length : Int)))), (0, va), (1, vb)]) hfd (by kernel_rfl)
        exact G_val (v := vb) (w' := wd) hfd rfl (by kernel_rfl) (by kernel_rfl) (Le.refl _) rfl
      · intro aq wd ld hfd hdd
        have hfd := Fr.cast (s' := [(14, (.bool (decide (k < (a.length : Int))))), (5, (.int .i64 k)), (10, (.bool ((a.length : Int) != (b.length : Int)))), (0, va), (1, vb)]) hfd (by kernel_rfl)
        exact G_val (v := (.int .i64 k)) (w' := wd) hfd rfl (by kernel_rfl) (by kernel_rfl) (Le.refl _) rfl
      · intro aq wd ld hfd hdd
        have hfd := Fr.cast (s' := [(14, (.bool (decide (k < (a.length : Int))))), (5, (.int .i64 k)), (10, (.bool ((a.length : Int) != (b.length : Int)))), (0, va), (1, vb)]) hfd (by kernel_rfl)
        obtain ⟨e4, e5, _⟩ := hdd
        have hfd := Fr.add (t := 21) (v := vb) hfd e4
        have hfd := Fr.add (t := 22) (v := (.int .i64 k)) hfd e5
        exact G_val (v := (elemP 1 vb k)) (w' := wd) hfd rfl (by kernel_rfl) (X_indexAddr (h_b.mono (sees1.le ld).mono) (by omega) (by omega) rfl Tryd.underlying26 (by kernel_rfl) rfl rfl) (Le.refl _) rfl
      · intro aq wd ld hfd hdd
        have hfd := Fr.cast (s' := [(14, (.bool (decide (k < (a.length : Int))))), (5, (.int .i64 k)), (10, (.bool ((a.length : Int) != (b.length : Int)))), (0, va), (1, vb)]) hfd (by kernel_rfl)
        obtain ⟨e6, _⟩ := hdd
        have hfd := Fr.add (t := 23) (v := (elemP 1 vb k)) hfd e6
        exact G_val (v := (.string (nth b k))) (w' := wd) hfd rfl (by kernel_rfl) (X_load rfl rfl (run_load_str (h_b.mono (sees1.le ld).mono) (by omega) (by omega) Tryd.underlying9 (by kernel_rfl))) (Le.refl _) rfl
      · intro aq wd ld hfd hdd
        have hfd := Fr.cast (s' := [(14, (.bool (decide (k < (a.length : Int))))), (5, (.int .i64 k)), (10, (.bool ((a.length : Int) != (b.length : Int)))), (0, va), (1, vb)]) hfd (by kernel_rfl)
        obtain ⟨e3, e7, _⟩ := hdd
        have hfd := Fr.add (t := 20) (v := (.string (nth a k))) hfd e3
        have hfd := Fr.add (t := 24) (v := (.string (nth b k))) hfd e7
        exact G_val (v := (.bool (!((nth a k).toList == (nth b k).toList)))) (w' := wd) hfd rfl (by kernel_rfl) (by kernel_rfl) (Le.refl _) rfl
      intro aq1 w2 l1 hf1 fa1
      obtain ⟨q1, q2, q3, q4, q5, q6, q7, q8, q9, _⟩ := fa1
      have hf1 := Fr.cast (s' := [(14, (.bool (decide (k < (a.length : Int))))), (5, (.int .i64 k)), (10, (.bool ((a.length : Int) != (b.length : Int)))), (0, va), (1, vb)]) hf1 (by kernel_rfl)
      have hf1 := Fr.add (t := 25) (v := (.bool (!((nth a k).toList == (nth b k).toList)))) hf1 q9
      have sees2 := sees1.le l1
      have be2 := l1.below' be1
      refine (?_ : okE .normal _ [(25, (.bool (!((nth a k).toList == (nth b k).toList)))), (14, (.bool (decide (k < (a.length : Int))))), (5, (.int .i64 k)), (10, (.bool ((a.length : Int) != (b.length : Int)))), (0, va), (1, vb)] _ _) aq1 (hf1.sub ⟨rfl, rfl, rfl, rfl, rfl, rfl, trivial⟩)
      refine E_then_normal ?_
      refine C_cond rfl (fun c3 => ?_) (fun c3 => ?_)
      · refine C_seq ?_
        refine C_region ?_
        refine Rv (.bool false) w2 ?_
        refine wpR_nil ?_
        refine E_then_normal ?_
        refine C_ret ?_
        refine E_block_ret ?_
        refine E_then_ret ?_
        refine E_then_ret ?_
        refine E_block_ret ?_
        refine E_then_ret ?_
        refine E_ret (res_one rfl rfl) ⟨_, rfl, ?_⟩
        exact ⟨congrArg Value.bool (by first | exact sameL_ne (by assumption) | exact sameL_no (by omega) (by omega) (by omega) (notB_t c3) hc | exact sameL_yes (by omega) (by omega) hc), be2⟩
      · refine C_skip ?_
        refine E_block_normal ?_
        refine E_then_normal ?_
        refine C_region ?_
        refine Rv (.int .i64 k) w2 ?_
        refine Rw (.int .i64 (k + 1)) w2 (eq_int (by kernel_rfl) (wrap64_in (by omega) (by omega))) ?_
        refine Rv (.int .i64 (k + 1)) w2 ?_
        refine wpR_nil ?_
        refine E_then_mid fun aq2 ha1 => ⟨k + 1, ha1.sub ⟨rfl, rfl, rfl, rfl, trivial⟩, ⟨by omega, by omega, by omega, sameL_step (by omega) (by omega) (by omega) (notB_f c3) hc, be2, sees2, trivial⟩, ?_⟩
        (first | omega | (dsimp only; omega))
    · have d2 : ¬ k < (a.length : Int) := of_decide_eq_false c2
      refine C_exit ?_
      refine E_then_exit ?_
      refine E_then_exit ?_
      refine E_block_here ?_
      refine E_then_normal ?_
      refine C_seq ?_
      refine Cs [(14, (.bool (decide (k < (a.length : Int))))), (5, (.int .i64 k)), (10, (.bool ((a.length : Int) != (b.length : Int)))), (0, va), (1, vb)] ?_
      refine C_region ?_
      refine Rv (.bool true) w1 ?_
      refine wpR_nil ?_
      refine E_then_normal ?_
      refine C_ret ?_
      refine E_ret (res_one rfl rfl) ⟨_, rfl, ?_⟩
      exact ⟨congrArg Value.bool (by first | exact sameL_ne (by assumption) | exact sameL_no (by omega) (by omega) (by omega) (notB_t hc) hc | exact sameL_yes (by omega) (by omega) hc), be1⟩

set_option linter.unusedVariables false in
set_option linter.unusedSimpArgs false in
set_option maxHeartbeats 4000000 in
set_option maxRecDepth 100000 in
theorem same_any (a b : List ByteArray) (va vb : Value) (g w : World) (sees : Sees g w) (h_a : Is g va a) (h_b : Is g vb b) : Ret Tryd.prog 15 #[va, vb] w fun v w' => v = .bool (sameL a b) ∧ Le w w' := by
  have ln_h_a := h_a.len_le
  have ln_h_b := h_b.len_le
  have be0 := Below.refl w.heap.size w
  refine enter (args := [va, vb]) Tryd.func15 rfl rfl rfl ?_
  refine C_seq ?_
  refine C_region ?_
  refine Rv (.bool false) w ?_
  refine wpR_nil ?_
  refine E_then_normal ?_
  refine C_seq ?_
  refine C_region ?_
  refine Rv va w ?_
  refine Rv vb w ?_
  refine Rc #[va, vb] w (equal_any a b va vb _ _ sees h_a h_b) ?_
  rintro _ w1 ⟨rfl, l1⟩
  have sees1 := sees.le l1
  have be1 := l1.below' be0
  refine Rv (.bool (sameL a b)) w1 ?_
  refine wpR_nil ?_
  refine E_then_normal ?_
  refine C_ret ?_
  refine E_ret (res_one rfl rfl) ⟨_, rfl, ?_⟩
  exact ⟨congrArg Value.bool (by first | rfl), be1⟩

set_option linter.unusedVariables false in
set_option linter.unusedSimpArgs false in
set_option maxHeartbeats 4000000 in
set_option maxRecDepth 100000 in
theorem refless_any (a b : List ByteArray) (va vb : Value) (g w : World) (sees : Sees g w) (h_a : Is g va a) (h_b : Is g vb b) : Ret Tryd.prog 14 #[va, vb] w fun v w' => v = .bool (lessL a b) ∧ Le w w' := by
  have ln_h_a := h_a.len_le
  have ln_h_b := h_b.len_le
  have be0 := Below.refl w.heap.size w
  refine enter (args := [va, vb]) Tryd.func14 rfl rfl rfl ?_
  refine C_seq ?_
  refine C_region ?_
  refine Rv (.bool false) w ?_
  refine wpR_nil ?_
  refine E_then_normal ?_
  refine C_seq ?_
  refine C_seq ?_
  refine C_region ?_
  refine Rv (.int .i64 0) w ?_
  refine wpR_nil ?_
  refine E_then_normal ?_
  refine C_block ?_
  refine C_loop (ι := Int) (fun k : Int => [(5, (.int .i64 k)), (0, va), (1, vb)]) (fun (k : Int) w' => 0 ≤ k ∧ k ≤ a.length ∧ k ≤ b.length ∧ lessL (a.drop k.toNat) (b.drop k.toNat) = lessL a b ∧ Below w.heap.size w w' ∧ Sees g w' ∧ True) (fun k : Int => ((a.length : Int) - k).toNat) 0 ⟨rfl, rfl, rfl, trivial⟩ ⟨by omega, by omega, by omega, rfl, be0, sees, trivial⟩ ?_
  rintro k w1 ⟨hk0, hka, hkb, hc, be1, sees1, -⟩
  refine Cs [(5, (.int .i64 k)), (0, va), (1, vb)] ?_
  refine C_seq ?_
  refine C_seq ?_
  refine C_region ?_
  refine Rv (.int .i64 k) w1 ?_
  refine Rv va w1 ?_
  refine Rw (.int .i64 (a.length : Int)) w1 (X_len (h_a.mono sees1.mono) rfl Tryd.underlying26 rfl) ?_
  refine Rv (.bool (decide (k < (a.length : Int)))) w1 ?_
  rcases Bool.eq_false_or_eq_true (decide (k < (a.length : Int))) with c1 | c1
  · have d1 : k < (a.length : Int) := of_decide_eq_true c1
    refine Rw (.bool true) w1 (eq_bool (by kernel_rfl) c1) ?_
    refine Rv (.int .i64 k) w1 ?_
    refine Rv vb w1 ?_
    refine Rw (.int .i64 (b.length : Int)) w1 (X_len (h_b.mono sees1.mono) rfl Tryd.underlying26 rfl) ?_
    refine Rv (.bool (decide (k < (b.length : Int)))) w1 ?_
    refine Rv (.bool (decide (k < (b.length : Int)))) w1 ?_
    refine wpR_nil ?_
    refine E_then_normal ?_
    refine C_cond rfl (fun c2 => ?_) (fun c2 => ?_)
    · have d2 : k < (b.length : Int) := of_decide_eq_true c2
      refine C_skip ?_
      refine E_then_normal ?_
      refine C_seq ?_
      refine C_block ?_
      refine C_seq ?_
      refine Cs [(15, (.bool (decide (k < (b.length : Int))))), (5, (.int .i64 k)), (0, va), (1, vb)] ?_
      refine C_draw [fun _ v => v = va, fun _ v => v = (.int .i64 k), fun _ v => v = (elemP 1 va k), fun _ v => v = (.string (nth a k)), fun _ v => v = vb, fun _ v => v = (.int .i64 k), fun _ v => v = (elemP 1 vb k), fun _ v => v = (.string (nth b k)), fun _ v => v = (.bool (!((nth a k).toList == (nth b k).toList)))] (by kernel_rfl) (by kernel_rfl) (by kernel_rfl) ⟨stab_exact _, stab_exact _, stab_exact _, stab_exact _, stab_exact _, stab_exact _, stab_exact _, stab_exact _, stab_exact _, trivial⟩ ⟨?_, ?_, ?_, ?_, ?_, ?_, ?_, ?_, ?_, trivial⟩ ?_
      · intro aq wd ld hfd hdd
        have hfd := Fr.cast (s' := [(15, (.bool (decide (k < (b.length : Int))))), (5, (.int .i64 k)), (0, va), (1, vb)]) hfd (by kernel_rfl)
        exact G_val (v := va) (w' := wd) hfd rfl (by kernel_rfl) (by kernel_rfl) (Le.refl _) rfl
      · intro aq wd ld hfd hdd
        have hfd := Fr.cast (s' := [(15, (.bool (decide (k < (b.length : Int))))), (5, (.int .i64 k)), (0, va), (1, vb)]) hfd (by kernel_rfl)
        exact G_val (v := (.int .i64 k)) (w' := wd) hfd rfl (by kernel_rfl) (by kernel_rfl) (Le.refl _) rfl
      · intro aq wd ld hfd hdd
        have hfd := Fr.cast (s' := [(15, (.bool (decide (k < (b.length : Int))))), (5, (.int .i64 k)), (0, va), (1, vb)]) hfd (by kernel_rfl)
        obtain ⟨e0, e1, _⟩ := hdd
        have hfd := Fr.add (t := 18) (v := va) hfd e0
        have hfd := Fr.add (t := 19) (v := (.int .i64 k)) hfd e1
        exact G_val (v := (elemP 1 va k)) (w' := wd) hfd rfl (by kernel_rfl) (X_indexAddr (h_a.mono (sees1.le ld).mono) (by omega) (by omega) rfl Tryd.underlying26 (by kernel_rfl) rfl rfl) (Le.refl _) rfl
      · intro aq wd ld hfd hdd
        have hfd := Fr.cast (s' := [(15, (.bool (decide (k < (b.length : Int))))), (5, (.int .i64 k)), (0, va), (1, vb)]) hfd (by kernel_rfl)
        obtain ⟨e2, _⟩ := hdd
        have hfd := Fr.add (t := 20) (v := (elemP 1 va k)) hfd e2
        exact G_val (v := (.string (nth a k))) (w' := wd) hfd rfl (by kernel_rfl) (X_load rfl rfl (run_load_str (h_a.mono (sees1.le ld).mono) (by omega) (by omega) Tryd.underlying9 (by kernel_rfl))) (Le.refl _) rfl
      · intro aq wd ld hfd hdd
        have hfd := Fr.cast (s' := [(15, (.bool (decide (k < (b.length : Int))))), (5, (.int .i64 k)), (0, va), (1, vb)]) hfd (by kernel_rfl)
        exact G_val (v := vb) (w' := wd) hfd rfl (by kernel_rfl) (by kernel_rfl) (Le.refl _) rfl
      · intro aq wd ld hfd hdd
        have hfd := Fr.cast (s' := [(15, (.bool (decide (k < (b.length : Int))))), (5, (.int .i64 k)), (0, va), (1, vb)]) hfd (by kernel_rfl)
        exact G_val (v := (.int .i64 k)) (w' := wd) hfd rfl (by kernel_rfl) (by kernel_rfl) (Le.refl _) rfl
      · intro aq wd ld hfd hdd
        have hfd := Fr.cast (s' := [(15, (.bool (decide (k < (b.length : Int))))), (5, (.int .i64 k)), (0, va), (1, vb)]) hfd (by kernel_rfl)
        obtain ⟨e4, e5, _⟩ := hdd
        have hfd := Fr.add (t := 22) (v := vb) hfd e4
        have hfd := Fr.add (t := 23) (v := (.int .i64 k)) hfd e5
        exact G_val (v := (elemP 1 vb k)) (w' := wd) hfd rfl (by kernel_rfl) (X_indexAddr (h_b.mono (sees1.le ld).mono) (by omega) (by omega) rfl Tryd.underlying26 (by kernel_rfl) rfl rfl) (Le.refl _) rfl
      · intro aq wd ld hfd hdd
        have hfd := Fr.cast (s' := [(15, (.bool (decide (k < (b.length : Int))))), (5, (.int .i64 k)), (0, va), (1, vb)]) hfd (by kernel_rfl)
        obtain ⟨e6, _⟩ := hdd
        have hfd := Fr.add (t := 24) (v := (elemP 1 vb k)) hfd e6
        exact G_val (v := (.string (nth b k))) (w' := wd) hfd rfl (by kernel_rfl) (X_load rfl rfl (run_load_str (h_b.mono (sees1.le ld).mono) (by omega) (by omega) Tryd.underlying9 (by kernel_rfl))) (Le.refl _) rfl
      · intro aq wd ld hfd hdd
        have hfd := Fr.cast (s' := [(15, (.bool (decide (k < (b.length : Int))))), (5, (.int .i64 k)), (0, va), (1, vb)]) hfd (by kernel_rfl)
        obtain ⟨e3, e7, _⟩ := hdd
        have hfd := Fr.add (t := 21) (v := (.string (nth a k))) hfd e3
        have hfd := Fr.add (t := 25) (v := (.string (nth b k))) hfd e7
        exact G_val (v := (.bool (!((nth a k).toList == (nth b k).toList)))) (w' := wd) hfd rfl (by kernel_rfl) (by kernel_rfl) (Le.refl _) rfl
      intro aq1 w2 l1 hf1 fa1
      obtain ⟨q1, q2, q3, q4, q5, q6, q7, q8, q9, _⟩ := fa1
      have hf1 := Fr.cast (s' := [(15, (.bool (decide (k < (b.length : Int))))), (5, (.int .i64 k)), (0, va), (1, vb)]) hf1 (by kernel_rfl)
      have hf1 := Fr.add (t := 26) (v := (.bool (!((nth a k).toList == (nth b k).toList)))) hf1 q9
      have sees2 := sees1.le l1
      have be2 := l1.below' be1
      refine (?_ : okE .normal _ [(26, (.bool (!((nth a k).toList == (nth b k).toList)))), (15, (.bool (decide (k < (b.length : Int))))), (5, (.int .i64 k)), (0, va), (1, vb)] _ _) aq1 (hf1.sub ⟨rfl, rfl, rfl, rfl, rfl, trivial⟩)
      refine E_then_normal ?_
      refine C_cond rfl (fun c3 => ?_) (fun c3 => ?_)
      · refine C_seq ?_
        refine C_draw [fun _ v => v = va, fun _ v => v = (.int .i64 k), fun _ v => v = (elemP 1 va k), fun _ v => v = (.string (nth a k)), fun _ v => v = vb, fun _ v => v = (.int .i64 k), fun _ v => v = (elemP 1 vb k), fun _ v => v = (.string (nth b k)), fun _ v => v = (.bool (Op.bytesLess (nth a k).toList (nth b k).toList)), fun _ v => v = (.bool (Op.bytesLess (nth a k).toList (nth b k).toList))] (by kernel_rfl) (by kernel_rfl) (by kernel_rfl) ⟨stab_exact _, stab_exact _, stab_exact _, stab_exact _, stab_exact _, stab_exact _, stab_exact _, stab_exact _, stab_exact _, stab_exact _, trivial⟩ ⟨?_, ?_, ?_, ?_, ?_, ?_, ?_, ?_, ?_, ?_, trivial⟩ ?_
        · intro aq wd ld hfd hdd
          have hfd := Fr.cast (s' := [(26, (.bool (!((nth a k).toList == (nth b k).toList)))), (15, (.bool (decide (k < (b.length : Int))))), (5, (.int .i64 k)), (0, va), (1, vb)]) hfd (by kernel_rfl)
          exact G_val (v := va) (w' := wd) hfd rfl (by kernel_rfl) (by kernel_rfl) (Le.refl _) rfl
        · intro aq wd ld hfd hdd
          have hfd := Fr.cast (s' := [(26, (.bool (!((nth a k).toList == (nth b k).toList)))), (15, (.bool (decide (k < (b.length : Int))))), (5, (.int .i64 k)), (0, va), (1, vb)]) hfd (by kernel_rfl)
          exact G_val (v := (.int .i64 k)) (w' := wd) hfd rfl (by kernel_rfl) (by kernel_rfl) (Le.refl _) rfl
        · intro aq wd ld hfd hdd
          have hfd := Fr.cast (s' := [(26, (.bool (!((nth a k).toList == (nth b k).toList)))), (15, (.bool (decide (k < (b.length : Int))))), (5, (.int .i64 k)), (0, va), (1, vb)]) hfd (by kernel_rfl)
          obtain ⟨e0, e1, _⟩ := hdd
          have hfd := Fr.add (t := 27) (v := va) hfd e0
          have hfd := Fr.add (t := 28) (v := (.int .i64 k)) hfd e1
          exact G_val (v := (elemP 1 va k)) (w' := wd) hfd rfl (by kernel_rfl) (X_indexAddr (h_a.mono (sees2.le ld).mono) (by omega) (by omega) rfl Tryd.underlying26 (by kernel_rfl) rfl rfl) (Le.refl _) rfl
        · intro aq wd ld hfd hdd
          have hfd := Fr.cast (s' := [(26, (.bool (!((nth a k).toList == (nth b k).toList)))), (15, (.bool (decide (k < (b.length : Int))))), (5, (.int .i64 k)), (0, va), (1, vb)]) hfd (by kernel_rfl)
          obtain ⟨e2, _⟩ := hdd
          have hfd := Fr.add (t := 29) (v := (elemP 1 va k)) hfd e2
          exact G_val (v := (.string (nth a k))) (w' := wd) hfd rfl (by kernel_rfl) (X_load rfl rfl (run_load_str (h_a.mono (sees2.le ld).mono) (by omega) (by omega) Tryd.underlying9 (by kernel_rfl))) (Le.refl _) rfl
        · intro aq wd ld hfd hdd
          have hfd := Fr.cast (s' := [(26, (.bool (!((nth a k).toList == (nth b k).toList)))), (15, (.bool (decide (k < (b.length : Int))))), (5, (.int .i64 k)), (0, va), (1, vb)]) hfd (by kernel_rfl)
          exact G_val (v := vb) (w' := wd) hfd rfl (by kernel_rfl) (by kernel_rfl) (Le.refl _) rfl
        · intro aq wd ld hfd hdd
          have hfd := Fr.cast (s' := [(26, (.bool (!((nth a k).toList == (nth b k).toList)))), (15, (.bool (decide (k < (b.length : Int))))), (5, (.int .i64 k)), (0, va), (1, vb)]) hfd (by kernel_rfl)
          exact G_val (v := (.int .i64 k)) (w' := wd) hfd rfl (by kernel_rfl) (by kernel_rfl) (Le.refl _) rfl
        · intro aq wd ld hfd hdd
          have hfd := Fr.cast (s' := [(26, (.bool (!((nth a k).toList == (nth b k).toList)))), (15, (.bool (decide (k < (b.length : Int))))), (5, (.int .i64 k)), (0, va), (1, vb)]) hfd (by kernel_rfl)
          obtain ⟨e4, e5, _⟩ := hdd
          have hfd := Fr.add (t := 31) (v := vb) hfd e4
          have hfd := Fr.add (t := 32) (v := (.int .i64 k)) hfd e5
          exact G_val (v := (elemP 1 vb k)) (w' := wd) hfd rfl (by kernel_rfl) (X_indexAddr (h_b.mono (sees2.le ld).mono) (by omega) (by omega) rfl Tryd.underlying26 (by kernel_rfl) rfl rfl) (Le.refl _) rfl
        · intro aq wd ld hfd hdd
          have hfd := Fr.cast (s' := [(26, (.bool (!((nth a k).toList == (nth b k).toList)))), (15, (.bool (decide (k < (b.length : Int))))), (5, (.int .i64 k)), (0, va), (1, vb)]) hfd (by kernel_rfl)
          obtain ⟨e6, _⟩ := hdd
          have hfd := Fr.add (t := 33) (v := (elemP 1 vb k)) hfd e6
          exact G_val (v := (.string (nth b k))) (w' := wd) hfd rfl (by kernel_rfl) (X_load rfl rfl (run_load_str (h_b.mono (sees2.le ld).mono) (by omega) (by omega) Tryd.underlying9 (by kernel_rfl))) (Le.refl _) rfl
        · intro aq wd ld hfd hdd
          have hfd := Fr.cast (s' := [(26, (.bool (!((nth a k).toList == (nth b k).toList)))), (15, (.bool (decide (k < (b.length : Int))))), (5, (.int .i64 k)), (0, va), (1, vb)]) hfd (by kernel_rfl)
          obtain ⟨e3, e7, _⟩ := hdd
          have hfd := Fr.add (t := 30) (v := (.string (nth a k))) hfd e3
          have hfd := Fr.add (t := 34) (v := (.string (nth b k))) hfd e7
          exact G_val (v := (.bool (Op.bytesLess (nth a k).toList (nth b k).toList))) (w' := wd) hfd rfl (by kernel_rfl) (by kernel_rfl) (Le.refl _) rfl
        · intro aq wd ld hfd hdd
          have hfd := Fr.cast (s' := [(26, (.bool (!((nth a k).toList == (nth b k).toList)))), (15, (.bool (decide (k < (b.length : Int))))), (5, (.int .i64 k)), (0, va), (1, vb)]) hfd (by kernel_rfl)
          obtain ⟨e8, _, _, _, _, _, _, _, _, _, _⟩ := hdd
          have hfd := Fr.add (t := 35) (v := (.bool (Op.bytesLess (nth a k).toList (nth b k).toList))) hfd e8
          exact G_val (v := (.bool (Op.bytesLess (nth a k).toList (nth b k).toList))) (w' := wd) hfd rfl (by kernel_rfl) (by kernel_rfl) (Le.refl _) rfl
        intro aq2 w3 l2 hf2 fa2
        obtain ⟨q10, q11, q12, q13, q14, q15, q16, q17, q18, q19, _⟩ := fa2
        have hf2 := Fr.cast (s' := [(26, (.bool (!((nth a k).toList == (nth b k).toList)))), (15, (.bool (decide (k < (b.length : Int))))), (5, (.int .i64 k)), (0, va), (1, vb)]) hf2 (by kernel_rfl)
        have hf2 := Fr.add (t := 4) (v := (.bool (Op.bytesLess (nth a k).toList (nth b k).toList))) hf2 q19
        have sees3 := sees2.le l2
        have be3 := l2.below' be2
        refine (?_ : okE .normal _ [(4, (.bool (Op.bytesLess (nth a k).toList (nth b k).toList))), (26, (.bool (!((nth a k).toList == (nth b k).toList)))), (15, (.bool (decide (k < (b.length : Int))))), (5, (.int .i64 k)), (0, va), (1, vb)] _ _) aq2 (hf2.sub ⟨rfl, rfl, rfl, rfl, rfl, rfl, trivial⟩)
        refine E_then_normal ?_
        refine C_ret ?_
        refine E_block_ret ?_
        refine E_then_ret ?_
        refine E_then_ret ?_
        refine E_block_ret ?_
        refine E_then_ret ?_
        refine E_ret (res_one rfl rfl) ⟨_, rfl, ?_⟩
        exact ⟨congrArg Value.bool (by first | exact lessL_ne (by omega) (by omega) (by omega) (notB_t c3) hc | exact lessL_fin (by omega) (by omega) (by omega) (by omega) hc), be3⟩
      · refine C_skip ?_
        refine E_block_normal ?_
        refine E_then_normal ?_
        refine C_region ?_
        refine Rv (.int .i64 k) w2 ?_
        refine Rw (.int .i64 (k + 1)) w2 (eq_int (by kernel_rfl) (wrap64_in (by omega) (by omega))) ?_
        refine Rv (.int .i64 (k + 1)) w2 ?_
        refine wpR_nil ?_
        refine E_then_mid fun aq3 ha1 => ⟨k + 1, ha1.sub ⟨rfl, rfl, rfl, trivial⟩, ⟨by omega, by omega, by omega, lessL_step (by omega) (by omega) (by omega) (notB_f c3) hc, be2, sees2, trivial⟩, ?_⟩
        (first | omega | (dsimp only; omega))
    · have d2 : ¬ k < (b.length : Int) := of_decide_eq_false c2
      refine C_exit ?_
      refine E_then_exit ?_
      refine E_then_exit ?_
      refine E_block_here ?_
      refine E_then_normal ?_
      refine C_seq ?_
      refine Cs [(15, (.bool (decide (k < (b.length : Int))))), (5, (.int .i64 k)), (0, va), (1, vb)] ?_
      refine C_region ?_
      refine Rv va w1 ?_
      refine Rw (.int .i64 (a.length : Int)) w1 (X_len (h_a.mono sees1.mono) rfl Tryd.underlying26 rfl) ?_
      refine Rv vb w1 ?_
      refine Rw (.int .i64 (b.length : Int)) w1 (X_len (h_b.mono sees1.mono) rfl Tryd.underlying26 rfl) ?_
      refine Rv (.bool (decide ((a.length : Int) < (b.length : Int)))) w1 ?_
      refine Rv (.bool (decide ((a.length : Int) < (b.length : Int)))) w1 ?_
      refine wpR_nil ?_
      refine E_then_normal ?_
      refine C_ret ?_
      refine E_ret (res_one rfl rfl) ⟨_, rfl, ?_⟩
      exact ⟨congrArg Value.bool (by first | exact lessL_ne (by omega) (by omega) (by omega) (notB_t hc) hc | exact lessL_fin (by omega) (by omega) (by omega) (by omega) hc), be1⟩
  · have d1 : ¬ k < (a.length : Int) := of_decide_eq_false c1
    refine Rw (.bool false) w1 (eq_bool (by kernel_rfl) c1) ?_
    iterate 4 refine Rs ?_
    refine Rv (.bool false) w1 ?_
    refine wpR_nil ?_
    refine E_then_normal ?_
    refine C_false rfl ?_
    refine C_exit ?_
    refine E_then_exit ?_
    refine E_then_exit ?_
    refine E_block_here ?_
    refine E_then_normal ?_
    refine C_seq ?_
    refine Cs [(15, (.bool false)), (5, (.int .i64 k)), (0, va), (1, vb)] ?_
    refine C_region ?_
    refine Rv va w1 ?_
    refine Rw (.int .i64 (a.length : Int)) w1 (X_len (h_a.mono sees1.mono) rfl Tryd.underlying26 rfl) ?_
    refine Rv vb w1 ?_
    refine Rw (.int .i64 (b.length : Int)) w1 (X_len (h_b.mono sees1.mono) rfl Tryd.underlying26 rfl) ?_
    refine Rv (.bool (decide ((a.length : Int) < (b.length : Int)))) w1 ?_
    refine Rv (.bool (decide ((a.length : Int) < (b.length : Int)))) w1 ?_
    refine wpR_nil ?_
    refine E_then_normal ?_
    refine C_ret ?_
    refine E_ret (res_one rfl rfl) ⟨_, rfl, ?_⟩
    exact ⟨congrArg Value.bool (by first | exact lessL_ne (by omega) (by omega) (by omega) (notB_t hc) hc | exact lessL_fin (by omega) (by omega) (by omega) (by omega) hc), be1⟩

set_option linter.unusedVariables false in
set_option linter.unusedSimpArgs false in
set_option maxHeartbeats 4000000 in
set_option maxRecDepth 100000 in
theorem below_any (a b : List ByteArray) (va vb : Value) (g w : World) (sees : Sees g w) (h_a : Is g va a) (h_b : Is g vb b) : Ret Tryd.prog 17 #[va, vb] w fun v w' => v = .bool (belowL a b) ∧ Le w w' := by
  have ln_h_a := h_a.len_le
  have ln_h_b := h_b.len_le
  have be0 := Below.refl w.heap.size w
  refine enter (args := [va, vb]) Tryd.func17 rfl rfl rfl ?_
  refine C_seq ?_
  refine C_region ?_
  refine Rv (.bool false) w ?_
  refine wpR_nil ?_
  refine E_then_normal ?_
  refine C_seq ?_
  refine C_region ?_
  refine Rv va w ?_
  refine Rw (.int .i64 (a.length : Int)) w (X_len (h_a.mono sees.mono) rfl Tryd.underlying26 rfl) ?_
  refine Rv vb w ?_
  refine Rw (.int .i64 (b.length : Int)) w (X_len (h_b.mono sees.mono) rfl Tryd.underlying26 rfl) ?_
  refine Rv (.bool (decide ((a.length : Int) > (b.length : Int)))) w ?_
  rcases Bool.eq_false_or_eq_true (decide ((a.length : Int) > (b.length : Int))) with c1 | c1
  · have d1 : (a.length : Int) > (b.length : Int) := of_decide_eq_true c1
    refine Rw (.bool true) w (eq_bool (by kernel_rfl) c1) ?_
    refine Rv va w ?_
    refine Rv vb w ?_
    refine Rw (.int .i64 (b.length : Int)) w (X_len (h_b.mono sees.mono) rfl Tryd.underlying26 rfl) ?_
    refine Rw (sliceV 1 va 0 (b.length : Int)) w (X_slice (l := 0) (h := (b.length : Int)) (h_a.mono sees.mono) (by omega) (by omega) (by omega) rfl Tryd.underlying26 (by kernel_rfl) rfl (.inl ⟨rfl, rfl⟩) (.inr ⟨_, rfl, rfl⟩)) ?_
    refine Rv vb w ?_
    refine Rc #[(sliceV 1 va 0 (b.length : Int)), vb] w (same_any ((a.drop (0 : Int).toNat).take (((b.length : Int) : Int).toNat - (0 : Int).toNat)) b (sliceV 1 va 0 (b.length : Int)) vb _ _ sees (Is.slice (l := 0) (h := (b.length : Int)) h_a (by omega) (by omega) (by omega)) h_b) ?_
    rintro _ w1 ⟨rfl, l1⟩
    have sees1 := sees.le l1
    have be1 := l1.below' be0
    refine Rv (.bool (sameL ((a.drop (0 : Int).toNat).take (((b.length : Int) : Int).toNat - (0 : Int).toNat)) b)) w1 ?_
    refine Rv (.bool (sameL ((a.drop (0 : Int).toNat).take (((b.length : Int) : Int).toNat - (0 : Int).toNat)) b)) w1 ?_
    refine wpR_nil ?_
    refine E_then_normal ?_
    refine C_ret ?_
    refine E_ret (res_one rfl rfl) ⟨_, rfl, ?_⟩
    exact ⟨congrArg Value.bool (by unfold belowL; rw [c1]; first | rfl | simp), be1⟩
  · have d1 : ¬ (a.length : Int) > (b.length : Int) := of_decide_eq_false c1
    refine Rw (.bool false) w (eq_bool (by kernel_rfl) c1) ?_
    iterate 6 refine Rs ?_
    refine Rv (.bool false) w ?_
    refine Rv (.bool false) w ?_
    refine wpR_nil ?_
    refine E_then_normal ?_
    refine C_ret ?_
    refine E_ret (res_one rfl rfl) ⟨_, rfl, ?_⟩
    exact ⟨congrArg Value.bool (by unfold belowL; rw [c1]; first | rfl | simp), be0⟩

set_option linter.unusedVariables false in
set_option linter.unusedSimpArgs false in
set_option maxHeartbeats 4000000 in
set_option maxRecDepth 100000 in
theorem refbelow_any (a b : List ByteArray) (va vb : Value) (g w : World) (sees : Sees g w) (h_a : Is g va a) (h_b : Is g vb b) : Ret Tryd.prog 18 #[va, vb] w fun v w' => v = .bool (belowL a b) ∧ Le w w' := by
  have ln_h_a := h_a.len_le
  have ln_h_b := h_b.len_le
  have be0 := Below.refl w.heap.size w
  refine enter (args := [va, vb]) Tryd.func18 rfl rfl rfl ?_
  refine C_seq ?_
  refine C_region ?_
  refine Rv (.bool false) w ?_
  refine wpR_nil ?_
  refine E_then_normal ?_
  refine C_seq ?_
  refine C_region ?_
  refine Rv va w ?_
  refine Rw (.int .i64 (a.length : Int)) w (X_len (h_a.mono sees.mono) rfl Tryd.underlying26 rfl) ?_
  refine Rv vb w ?_
  refine Rw (.int .i64 (b.length : Int)) w (X_len (h_b.mono sees.mono) rfl Tryd.underlying26 rfl) ?_
  refine Rv (.bool (decide ((a.length : Int) > (b.length : Int)))) w ?_
  rcases Bool.eq_false_or_eq_true (decide ((a.length : Int) > (b.length : Int))) with c1 | c1
  · have d1 : (a.length : Int) > (b.length : Int) := of_decide_eq_true c1
    refine Rw (.bool true) w (eq_bool (by kernel_rfl) c1) ?_
    refine Rv va w ?_
    refine Rv vb w ?_
    refine Rw (.int .i64 (b.length : Int)) w (X_len (h_b.mono sees.mono) rfl Tryd.underlying26 rfl) ?_
    refine Rw (sliceV 1 va 0 (b.length : Int)) w (X_slice (l := 0) (h := (b.length : Int)) (h_a.mono sees.mono) (by omega) (by omega) (by omega) rfl Tryd.underlying26 (by kernel_rfl) rfl (.inl ⟨rfl, rfl⟩) (.inr ⟨_, rfl, rfl⟩)) ?_
    refine Rv vb w ?_
    refine Rc #[(sliceV 1 va 0 (b.length : Int)), vb] w (refsame_any ((a.drop (0 : Int).toNat).take (((b.length : Int) : Int).toNat - (0 : Int).toNat)) b (sliceV 1 va 0 (b.length : Int)) vb _ _ sees (Is.slice (l := 0) (h := (b.length : Int)) h_a (by omega) (by omega) (by omega)) h_b) ?_
    rintro _ w1 ⟨rfl, l1⟩
    have sees1 := sees.le l1
    have be1 := l1.below' be0
    refine Rv (.bool (sameL ((a.drop (0 : Int).toNat).take (((b.length : Int) : Int).toNat - (0 : Int).toNat)) b)) w1 ?_
    refine Rv (.bool (sameL ((a.drop (0 : Int).toNat).take (((b.length : Int) : Int).toNat - (0 : Int).toNat)) b)) w1 ?_
    refine wpR_nil ?_
    refine E_then_normal ?_
    refine C_ret ?_
    refine E_ret (res_one rfl rfl) ⟨_, rfl, ?_⟩
    exact ⟨congrArg Value.bool (by unfold belowL; rw [c1]; first | rfl | simp), be1⟩
  · have d1 : ¬ (a.length : Int) > (b.length : Int) := of_decide_eq_false c1
    refine Rw (.bool false) w (eq_bool (by kernel_rfl) c1) ?_
    iterate 6 refine Rs ?_
    refine Rv (.bool false) w ?_
    refine Rv (.bool false) w ?_
    refine wpR_nil ?_
    refine E_then_normal ?_
    refine C_ret ?_
    refine E_ret (res_one rfl rfl) ⟨_, rfl, ?_⟩
    exact ⟨congrArg Value.bool (by unfold belowL; rw [c1]; first | rfl | simp), be0⟩

set_option linter.unusedVariables false in
set_option linter.unusedSimpArgs false in
set_option maxHeartbeats 4000000 in
set_option maxRecDepth 100000 in
theorem valid_any (s : ByteArray) (w : World) : Ret Tryd.prog 10 #[(.string s)] w fun v w' => v = .int .i64 (validN s) ∧ Le w w' := by
  have be0 := Below.refl w.heap.size w
  refine enter (args := [(.string s)]) Tryd.func10 rfl rfl rfl ?_
  refine C_seq ?_
  refine C_region ?_
  refine Rv (.int .i64 0) w ?_
  refine wpR_nil ?_
  refine E_then_normal ?_
  refine C_seq ?_
  refine C_block ?_
  refine C_seq ?_
  refine C_region ?_
  refine Rv (.string s) w ?_
  refine Rw (.int .i64 (s.size : Int)) w (X_len_str rfl Tryd.underlying9 rfl) ?_
  refine Rv (.bool (decide ((s.size : Int) > 255))) w ?_
  refine Rv (.bool (decide ((s.size : Int) > 255))) w ?_
  refine wpR_nil ?_
  refine E_then_normal ?_
  refine C_cond rfl (fun c1 => ?_) (fun c1 => ?_)
  · have d1 : (s.size : Int) > 255 := of_decide_eq_true c1
    refine C_seq ?_
    refine Cs [(5, (.bool (decide ((s.size : Int) > 255)))), (2, (.int .i64 0)), (0, (.string s))] ?_
    refine C_region ?_
    refine Rv (.int .i64 23) w ?_
    refine wpR_nil ?_
    refine E_then_normal ?_
    refine C_ret ?_
    refine E_block_ret ?_
    refine E_then_ret ?_
    refine E_ret (res_one rfl rfl) ⟨_, rfl, ?_⟩
    exact ⟨congrArg (Value.int .i64) (by unfold validN dots; simp_all [badB_end]), be0⟩
  · have d1 : ¬ (s.size : Int) > 255 := of_decide_eq_false c1
    refine C_seq ?_
    refine Cs [(5, (.bool (decide ((s.size : Int) > 255)))), (2, (.int .i64 0)), (0, (.string s))] ?_
    refine C_region ?_
    refine Rv (.string s) w ?_
    refine Rv (.bool (s.toList == (⟨#[]⟩ : ByteArray).toList)) w ?_
    rcases Bool.eq_false_or_eq_true (s.toList == (⟨#[]⟩ : ByteArray).toList) with c2 | c2
    · refine Rw (.bool true) w (eq_bool (by kernel_rfl) c2) ?_
      iterate 2 refine Rs ?_
      refine Rv (.bool true) w ?_
      refine Rv (.bool true) w ?_
      iterate 2 refine Rs ?_
      refine Rv (.bool true) w ?_
      refine Rv (.bool true) w ?_
      refine wpR_nil ?_
      refine E_then_normal ?_
      refine C_true rfl ?_
      refine C_seq ?_
      refine Cs [(9, (.bool true)), (5, (.bool (decide ((s.size : Int) > 255)))), (2, (.int .i64 0)), (0, (.string s))] ?_
      refine C_region ?_
      refine Rv (.int .i64 22) w ?_
      refine wpR_nil ?_
      refine E_then_normal ?_
      refine C_ret ?_
      refine E_block_ret ?_
      refine E_then_ret ?_
      refine E_ret (res_one rfl rfl) ⟨_, rfl, ?_⟩
      exact ⟨congrArg (Value.int .i64) (by unfold validN dots; simp_all [badB_end]), be0⟩
    · refine Rw (.bool false) w (eq_bool (by kernel_rfl) c2) ?_
      refine Rv (.string s) w ?_
      refine Rv (.bool (s.toList == (⟨#[46]⟩ : ByteArray).toList)) w ?_
      refine Rv (.bool (s.toList == (⟨#[46]⟩ : ByteArray).toList)) w ?_
      rcases Bool.eq_false_or_eq_true (s.toList == (⟨#[46]⟩ : ByteArray).toList) with c3 | c3
      · refine Rw (.bool true) w (eq_bool (by kernel_rfl) c3) ?_
        iterate 2 refine Rs ?_
        refine Rv (.bool true) w ?_
        refine Rv (.bool true) w ?_
        refine wpR_nil ?_
        refine E_then_normal ?_
        refine C_true rfl ?_
        refine C_seq ?_
        refine Cs [(9, (.bool true)), (5, (.bool (decide ((s.size : Int) > 255)))), (2, (.int .i64 0)), (0, (.string s))] ?_
        refine C_region ?_
        refine Rv (.int .i64 22) w ?_
        refine wpR_nil ?_
        refine E_then_normal ?_
        refine C_ret ?_
        refine E_block_ret ?_
        refine E_then_ret ?_
        refine E_ret (res_one rfl rfl) ⟨_, rfl, ?_⟩
        exact ⟨congrArg (Value.int .i64) (by unfold validN dots; simp_all [badB_end]), be0⟩
      · refine Rw (.bool false) w (eq_bool (by kernel_rfl) c3) ?_
        refine Rv (.string s) w ?_
        refine Rv (.bool (s.toList == (⟨#[46, 46]⟩ : ByteArray).toList)) w ?_
        refine Rv (.bool (s.toList == (⟨#[46, 46]⟩ : ByteArray).toList)) w ?_
        refine Rv (.bool (s.toList == (⟨#[46, 46]⟩ : ByteArray).toList)) w ?_
        refine wpR_nil ?_
        refine E_then_normal ?_
        refine C_cond rfl (fun c4 => ?_) (fun c4 => ?_)
        · refine C_seq ?_
          refine Cs [(9, (.bool (s.toList == (⟨#[46, 46]⟩ : ByteArray).toList))), (5, (.bool (decide ((s.size : Int) > 255)))), (2, (.int .i64 0)), (0, (.string s))] ?_
          refine C_region ?_
          refine Rv (.int .i64 22) w ?_
          refine wpR_nil ?_
          refine E_then_normal ?_
          refine C_ret ?_
          refine E_block_ret ?_
          refine E_then_ret ?_
          refine E_ret (res_one rfl rfl) ⟨_, rfl, ?_⟩
          exact ⟨congrArg (Value.int .i64) (by unfold validN dots; simp_all [badB_end]), be0⟩
        · refine C_skip ?_
          refine E_block_normal ?_
          refine E_then_normal ?_
          refine C_seq ?_
          refine C_seq ?_
          refine Cs [(9, (.bool (s.toList == (⟨#[46, 46]⟩ : ByteArray).toList))), (5, (.bool (decide ((s.size : Int) > 255)))), (2, (.int .i64 0)), (0, (.string s))] ?_
          refine C_region ?_
          refine Rv (.string s) w ?_
          refine S_range_str rfl Tryd.underlying9 rfl rfl rfl rfl fun b1 w1 n1 => ?_
          have k1 := n1.here
          have o1 := n1.own be0
          have be1 := n1.below' be0
          refine wpR_nil ?_
          refine E_then_normal ?_
          refine C_block ?_
          refine Cs [(21, (ptr b1 0)), (9, (.bool (s.toList == (⟨#[46, 46]⟩ : ByteArray).toList))), (5, (.bool (decide ((s.size : Int) > 255)))), (2, (.int .i64 0)), (0, (.string s))] ?_
          refine C_loop (ι := Nat) (fun p : Nat => [(21, (ptr b1 0)), (9, (.bool (s.toList == (⟨#[46, 46]⟩ : ByteArray).toList))), (5, (.bool (decide ((s.size : Int) > 255)))), (0, (.string s))]) (fun (p : Nat) w' => badB s p = badB s 0 ∧ Below w.heap.size w w' ∧ w'.heap[b1]? = some (.stringIter s p) ∧ True) (fun p : Nat => s.size - p) 0 ⟨rfl, rfl, rfl, rfl, trivial⟩ ⟨rfl, be1, k1, trivial⟩ ?_
          rintro p w2 ⟨hc, be2, k2, -⟩
          refine Cs [(21, (ptr b1 0)), (9, (.bool (s.toList == (⟨#[46, 46]⟩ : ByteArray).toList))), (5, (.bool (decide ((s.size : Int) > 255)))), (0, (.string s))] ?_
          refine C_seq ?_
          refine C_region ?_
          by_cases hN1 : p < s.size
          · refine S_next_yes k2 hN1 rfl rfl rfl rfl rfl fun w3 u1 => ?_
            have k2 := u1.here
            have be3 := u1.below be2 o1
            refine Rv (.bool true) w3 ?_
            refine wpR_nil ?_
            refine E_then_normal ?_
            refine C_seq ?_
            refine C_true rfl ?_
            refine C_skip ?_
            refine E_then_normal ?_
            refine C_block ?_
            refine C_seq ?_
            refine C_region ?_
            refine Rv (.int .i32 ((Utf8.decode s p).1 : Int)) w3 ?_
            refine Rv (.int .i32 ((Utf8.decode s p).1 : Int)) w3 ?_
            refine wpR_nil ?_
            refine E_then_normal ?_
            refine C_seq ?_
            refine Cs [(4, (.int .i32 ((Utf8.decode s p).1 : Int))), (23, (.bool true)), (22, (.tuple #[(.bool true), (.int .i64 (p : Int)), (.int .i32 ((Utf8.decode s p).1 : Int))])), (21, (ptr b1 0)), (9, (.bool (s.toList == (⟨#[46, 46]⟩ : ByteArray).toList))), (5, (.bool (decide ((s.size : Int) > 255)))), (0, (.string s))] ?_
            refine C_region ?_
            refine Rv (.int .i32 ((Utf8.decode s p).1 : Int)) w3 ?_
            refine Rv (.bool (((Utf8.decode s p).1 : Int) == 0)) w3 ?_
            rcases Bool.eq_false_or_eq_true (((Utf8.decode s p).1 : Int) == 0) with c5 | c5
            · have d5 : ((Utf8.decode s p).1 : Int) = 0 := eq_of_beq c5
              refine Rw (.bool true) w3 (eq_bool (by kernel_rfl) c5) ?_
              iterate 2 refine Rs ?_
              refine Rv (.bool true) w3 ?_
              refine wpR_nil ?_
              refine E_then_normal ?_
              refine C_true rfl ?_
              refine C_seq ?_
              refine Cs [(30, (.bool true)), (4, (.int .i32 ((Utf8.decode s p).1 : Int))), (23, (.bool true)), (22, (.tuple #[(.bool true), (.int .i64 (p : Int)), (.int .i32 ((Utf8.decode s p).1 : Int))])), (21, (ptr b1 0)), (9, (.bool (s.toList == (⟨#[46, 46]⟩ : ByteArray).toList))), (5, (.bool (decide ((s.size : Int) > 255)))), (0, (.string s))] ?_
              refine C_region ?_
              refine Rv (.int .i64 22) w3 ?_
              refine wpR_nil ?_
              refine E_then_normal ?_
              refine C_ret ?_
              refine E_block_ret ?_
              refine E_then_ret ?_
              refine E_block_ret ?_
              refine E_then_ret ?_
              refine E_ret (res_one rfl rfl) ⟨_, rfl, ?_⟩
              have hb : badB s 0 = true := by rw [← hc, badB_rune s p hN1]; simp [c5]
              exact ⟨congrArg (Value.int .i64) (by unfold validN; rw [if_neg (by omega), hb, Bool.or_true, if_pos rfl]), be3⟩
            · have d5 : ((Utf8.decode s p).1 : Int) ≠ 0 := ne_of_beq_false c5
              refine Rw (.bool false) w3 (eq_bool (by kernel_rfl) c5) ?_
              refine Rv (.int .i32 ((Utf8.decode s p).1 : Int)) w3 ?_
              refine Rv (.bool (((Utf8.decode s p).1 : Int) == 47)) w3 ?_
              refine Rv (.bool (((Utf8.decode s p).1 : Int) == 47)) w3 ?_
              refine wpR_nil ?_
              refine E_then_normal ?_
              refine C_cond rfl (fun c6 => ?_) (fun c6 => ?_)
              · have d6 : ((Utf8.decode s p).1 : Int) = 47 := eq_of_beq c6
                refine C_seq ?_
                refine Cs [(30, (.bool (((Utf8.decode s p).1 : Int) == 47))), (4, (.int .i32 ((Utf8.decode s p).1 : Int))), (23, (.bool true)), (22, (.tuple #[(.bool true), (.int .i64 (p : Int)), (.int .i32 ((Utf8.decode s p).1 : Int))])), (21, (ptr b1 0)), (9, (.bool (s.toList == (⟨#[46, 46]⟩ : ByteArray).toList))), (5, (.bool (decide ((s.size : Int) > 255)))), (0, (.string s))] ?_
                refine C_region ?_
                refine Rv (.int .i64 22) w3 ?_
                refine wpR_nil ?_
                refine E_then_normal ?_
                refine C_ret ?_
                refine E_block_ret ?_
                refine E_then_ret ?_
                refine E_block_ret ?_
                refine E_then_ret ?_
                refine E_ret (res_one rfl rfl) ⟨_, rfl, ?_⟩
                have hb : badB s 0 = true := by rw [← hc, badB_rune s p hN1]; simp [c6]
                exact ⟨congrArg (Value.int .i64) (by unfold validN; rw [if_neg (by omega), hb, Bool.or_true, if_pos rfl]), be3⟩
              · have d6 : ((Utf8.decode s p).1 : Int) ≠ 47 := ne_of_beq_false c6
                refine C_skip ?_
                refine E_block_normal ?_
                refine E_then_mid fun aq1 ha1 => ⟨p + (Utf8.decode s p).2, ha1.sub ⟨rfl, rfl, rfl, rfl, trivial⟩, ⟨(by rw [← hc, badB_rune s p hN1]; simp_all), be3, k2, trivial⟩, ?_⟩
                have hdp := decode_pos s p hN1; first | omega | (dsimp only; omega)
          · refine S_next_no k2 hN1 rfl rfl rfl rfl rfl ?_
            refine Rv (.bool false) w2 ?_
            refine wpR_nil ?_
            refine E_then_normal ?_
            refine C_seq ?_
            refine C_false rfl ?_
            refine C_exit ?_
            refine E_then_exit ?_
            refine E_then_exit ?_
            refine E_block_here ?_
            refine E_then_normal ?_
            refine C_seq ?_
            refine C_region ?_
            refine Rv (.int .i64 0) w2 ?_
            refine wpR_nil ?_
            refine E_then_normal ?_
            refine C_ret ?_
            refine E_ret (res_one rfl rfl) ⟨_, rfl, ?_⟩
            exact ⟨congrArg (Value.int .i64) (by unfold validN dots; simp_all [badB_end]), be2⟩

set_option linter.unusedVariables false in
set_option linter.unusedSimpArgs false in
set_option maxHeartbeats 4000000 in
set_option maxRecDepth 100000 in
theorem refvalid_any (s : ByteArray) (hs : s.size ≤ 9223372036854775807) (w : World) : Ret Tryd.prog 11 #[(.string s)] w fun v w' => v = .int .i64 (validN s) ∧ Le w w' := by
  have be0 := Below.refl w.heap.size w
  refine enter (args := [(.string s)]) Tryd.func11 rfl rfl rfl ?_
  refine C_seq ?_
  refine C_region ?_
  refine Rv (.int .i64 0) w ?_
  refine wpR_nil ?_
  refine E_then_normal ?_
  refine C_seq ?_
  refine C_seq ?_
  refine C_region ?_
  refine Rv (.string s) w ?_
  refine Rw (.int .i64 (s.size : Int)) w (X_len_str rfl Tryd.underlying9 rfl) ?_
  refine Rv (.bool (decide ((s.size : Int) > 255))) w ?_
  refine wpR_nil ?_
  refine E_then_normal ?_
  refine C_cond rfl (fun c1 => ?_) (fun c1 => ?_)
  · have d1 : (s.size : Int) > 255 := of_decide_eq_true c1
    refine C_seq ?_
    refine Cs [(6, (.bool (decide ((s.size : Int) > 255)))), (2, (.int .i64 0)), (0, (.string s))] ?_
    refine C_region ?_
    refine Rv (.int .i64 23) w ?_
    refine wpR_nil ?_
    refine E_then_normal ?_
    refine C_ret ?_
    refine E_then_ret ?_
    refine E_ret (res_one rfl rfl) ⟨_, rfl, ?_⟩
    exact ⟨congrArg (Value.int .i64) (by unfold validN dots; simp_all [badB_end]), be0⟩
  · have d1 : ¬ (s.size : Int) > 255 := of_decide_eq_false c1
    refine C_skip ?_
    refine E_then_normal ?_
    refine C_seq ?_
    refine C_seq ?_
    refine Cs [(6, (.bool (decide ((s.size : Int) > 255)))), (2, (.int .i64 0)), (0, (.string s))] ?_
    refine C_region ?_
    refine Rv (.int .i64 0) w ?_
    refine wpR_nil ?_
    refine E_then_normal ?_
    refine C_block ?_
    refine C_loop (ι := Int) (fun k : Int => [(3, (.int .i64 k)), (6, (.bool (decide ((s.size : Int) > 255)))), (0, (.string s))]) (fun (k : Int) w' => 0 ≤ k ∧ k ≤ s.size ∧ badB s k.toNat = badB s 0 ∧ Below w.heap.size w w' ∧ True) (fun k : Int => ((s.size : Int) - k).toNat) 0 ⟨rfl, rfl, rfl, trivial⟩ ⟨by omega, by omega, rfl, be0, trivial⟩ ?_
    rintro k w1 ⟨hk0, hks, hc, be1, -⟩
    refine Cs [(3, (.int .i64 k)), (6, (.bool (decide ((s.size : Int) > 255)))), (0, (.string s))] ?_
    refine C_seq ?_
    refine C_seq ?_
    refine C_region ?_
    refine Rv (.int .i64 k) w1 ?_
    refine Rv (.string s) w1 ?_
    refine Rw (.int .i64 (s.size : Int)) w1 (X_len_str rfl Tryd.underlying9 rfl) ?_
    refine Rv (.bool (decide (k < (s.size : Int)))) w1 ?_
    refine wpR_nil ?_
    refine E_then_normal ?_
    refine C_cond rfl (fun c2 => ?_) (fun c2 => ?_)
    · have d2 : k < (s.size : Int) := of_decide_eq_true c2
      refine C_skip ?_
      refine E_then_normal ?_
      refine C_seq ?_
      refine C_block ?_
      refine C_seq ?_
      refine Cs [(10, (.bool (decide (k < (s.size : Int))))), (3, (.int .i64 k)), (6, (.bool (decide ((s.size : Int) > 255)))), (0, (.string s))] ?_
      refine C_region ?_
      refine Rv (.string s) w1 ?_
      refine Rv (.int .i64 k) w1 ?_
      refine Rw (.int .u8 ((byteAt s k).toNat : Int)) w1 (X_index_str (by omega) (by omega) rfl Tryd.underlying9 rfl rfl) ?_
      refine Rv (.bool (((byteAt s k).toNat : Int) == 0)) w1 ?_
      rcases Bool.eq_false_or_eq_true (((byteAt s k).toNat : Int) == 0) with c3 | c3
      · have d3 : ((byteAt s k).toNat : Int) = 0 := eq_of_beq c3
        refine Rw (.bool true) w1 (eq_bool (by kernel_rfl) c3) ?_
        iterate 4 refine Rs ?_
        refine Rv (.bool true) w1 ?_
        refine wpR_nil ?_
        refine E_then_normal ?_
        refine C_true rfl ?_
        refine C_seq ?_
        refine Cs [(22, (.bool true)), (10, (.bool (decide (k < (s.size : Int))))), (3, (.int .i64 k)), (6, (.bool (decide ((s.size : Int) > 255)))), (0, (.string s))] ?_
        refine C_region ?_
        refine Rv (.int .i64 22) w1 ?_
        refine wpR_nil ?_
        refine E_then_normal ?_
        refine C_ret ?_
        refine E_block_ret ?_
        refine E_then_ret ?_
        refine E_then_ret ?_
        refine E_block_ret ?_
        refine E_then_ret ?_
        refine E_ret (res_one rfl rfl) ⟨_, rfl, ?_⟩
        have hb : badB s 0 = true := by rw [← hc, badB_byte s k (by omega) (by omega)]; simp [c3]
        exact ⟨congrArg (Value.int .i64) (by unfold validN; rw [if_neg (by omega), hb, Bool.or_true, if_pos rfl]), be1⟩
      · have d3 : ((byteAt s k).toNat : Int) ≠ 0 := ne_of_beq_false c3
        refine Rw (.bool false) w1 (eq_bool (by kernel_rfl) c3) ?_
        refine Rv (.string s) w1 ?_
        refine Rv (.int .i64 k) w1 ?_
        refine Rw (.int .u8 ((byteAt s k).toNat : Int)) w1 (X_index_str (by omega) (by omega) rfl Tryd.underlying9 rfl rfl) ?_
        refine Rv (.bool (((byteAt s k).toNat : Int) == 47)) w1 ?_
        refine Rv (.bool (((byteAt s k).toNat : Int) == 47)) w1 ?_
        refine wpR_nil ?_
        refine E_then_normal ?_
        refine C_cond rfl (fun c4 => ?_) (fun c4 => ?_)
        · have d4 : ((byteAt s k).toNat : Int) = 47 := eq_of_beq c4
          refine C_seq ?_
          refine Cs [(22, (.bool (((byteAt s k).toNat : Int) == 47))), (10, (.bool (decide (k < (s.size : Int))))), (3, (.int .i64 k)), (6, (.bool (decide ((s.size : Int) > 255)))), (0, (.string s))] ?_
          refine C_region ?_
          refine Rv (.int .i64 22) w1 ?_
          refine wpR_nil ?_
          refine E_then_normal ?_
          refine C_ret ?_
          refine E_block_ret ?_
          refine E_then_ret ?_
          refine E_then_ret ?_
          refine E_block_ret ?_
          refine E_then_ret ?_
          refine E_ret (res_one rfl rfl) ⟨_, rfl, ?_⟩
          have hb : badB s 0 = true := by rw [← hc, badB_byte s k (by omega) (by omega)]; simp [c4]
          exact ⟨congrArg (Value.int .i64) (by unfold validN; rw [if_neg (by omega), hb, Bool.or_true, if_pos rfl]), be1⟩
        · have d4 : ((byteAt s k).toNat : Int) ≠ 47 := ne_of_beq_false c4
          refine C_skip ?_
          refine E_block_normal ?_
          refine E_then_normal ?_
          refine Cs [(22, (.bool (((byteAt s k).toNat : Int) == 47))), (10, (.bool (decide (k < (s.size : Int))))), (3, (.int .i64 k)), (6, (.bool (decide ((s.size : Int) > 255)))), (0, (.string s))] ?_
          refine C_region ?_
          refine Rv (.int .i64 k) w1 ?_
          refine Rw (.int .i64 (k + 1)) w1 (eq_int (by kernel_rfl) (wrap64_in (by omega) (by omega))) ?_
          refine Rv (.int .i64 (k + 1)) w1 ?_
          refine wpR_nil ?_
          refine E_then_mid fun aq1 ha1 => ⟨k + 1, ha1.sub ⟨rfl, rfl, rfl, trivial⟩, ⟨by omega, by omega, (by rw [← hc, badB_byte s k (by omega) (by omega)]; simp_all), be1, trivial⟩, ?_⟩
          (first | omega | (dsimp only; omega))
    · have d2 : ¬ k < (s.size : Int) := of_decide_eq_false c2
      refine C_exit ?_
      refine E_then_exit ?_
      refine E_then_exit ?_
      refine E_block_here ?_
      refine E_then_normal ?_
      refine C_seq ?_
      refine C_seq ?_
      refine Cs [(10, (.bool (decide (k < (s.size : Int))))), (3, (.int .i64 k)), (6, (.bool (decide ((s.size : Int) > 255)))), (0, (.string s))] ?_
      refine C_region ?_
      refine Rv (.string s) w1 ?_
      refine Rv (.bool (s.toList == (⟨#[]⟩ : ByteArray).toList)) w1 ?_
      rcases Bool.eq_false_or_eq_true (s.toList == (⟨#[]⟩ : ByteArray).toList) with c5 | c5
      · refine Rw (.bool true) w1 (eq_bool (by kernel_rfl) c5) ?_
        iterate 2 refine Rs ?_
        refine Rv (.bool true) w1 ?_
        refine Rv (.bool true) w1 ?_
        iterate 2 refine Rs ?_
        refine Rv (.bool true) w1 ?_
        refine wpR_nil ?_
        refine E_then_normal ?_
        refine C_true rfl ?_
        refine C_seq ?_
        refine Cs [(32, (.bool true)), (10, (.bool (decide (k < (s.size : Int))))), (3, (.int .i64 k)), (6, (.bool (decide ((s.size : Int) > 255)))), (0, (.string s))] ?_
        refine C_region ?_
        refine Rv (.int .i64 22) w1 ?_
        refine wpR_nil ?_
        refine E_then_normal ?_
        refine C_ret ?_
        refine E_then_ret ?_
        refine E_ret (res_one rfl rfl) ⟨_, rfl, ?_⟩
        exact ⟨congrArg (Value.int .i64) (by unfold validN dots; simp_all [badB_end]), be1⟩
      · refine Rw (.bool false) w1 (eq_bool (by kernel_rfl) c5) ?_
        refine Rv (.string s) w1 ?_
        refine Rv (.bool (s.toList == (⟨#[46]⟩ : ByteArray).toList)) w1 ?_
        refine Rv (.bool (s.toList == (⟨#[46]⟩ : ByteArray).toList)) w1 ?_
        rcases Bool.eq_false_or_eq_true (s.toList == (⟨#[46]⟩ : ByteArray).toList) with c6 | c6
        · refine Rw (.bool true) w1 (eq_bool (by kernel_rfl) c6) ?_
          iterate 2 refine Rs ?_
          refine Rv (.bool true) w1 ?_
          refine wpR_nil ?_
          refine E_then_normal ?_
          refine C_true rfl ?_
          refine C_seq ?_
          refine Cs [(32, (.bool true)), (10, (.bool (decide (k < (s.size : Int))))), (3, (.int .i64 k)), (6, (.bool (decide ((s.size : Int) > 255)))), (0, (.string s))] ?_
          refine C_region ?_
          refine Rv (.int .i64 22) w1 ?_
          refine wpR_nil ?_
          refine E_then_normal ?_
          refine C_ret ?_
          refine E_then_ret ?_
          refine E_ret (res_one rfl rfl) ⟨_, rfl, ?_⟩
          exact ⟨congrArg (Value.int .i64) (by unfold validN dots; simp_all [badB_end]), be1⟩
        · refine Rw (.bool false) w1 (eq_bool (by kernel_rfl) c6) ?_
          refine Rv (.string s) w1 ?_
          refine Rv (.bool (s.toList == (⟨#[46, 46]⟩ : ByteArray).toList)) w1 ?_
          refine Rv (.bool (s.toList == (⟨#[46, 46]⟩ : ByteArray).toList)) w1 ?_
          refine wpR_nil ?_
          refine E_then_normal ?_
          refine C_cond rfl (fun c7 => ?_) (fun c7 => ?_)
          · refine C_seq ?_
            refine Cs [(32, (.bool (s.toList == (⟨#[46, 46]⟩ : ByteArray).toList))), (10, (.bool (decide (k < (s.size : Int))))), (3, (.int .i64 k)), (6, (.bool (decide ((s.size : Int) > 255)))), (0, (.string s))] ?_
            refine C_region ?_
            refine Rv (.int .i64 22) w1 ?_
            refine wpR_nil ?_
            refine E_then_normal ?_
            refine C_ret ?_
            refine E_then_ret ?_
            refine E_ret (res_one rfl rfl) ⟨_, rfl, ?_⟩
            exact ⟨congrArg (Value.int .i64) (by unfold validN dots; simp_all [badB_end]), be1⟩
          · refine C_skip ?_
            refine E_then_normal ?_
            refine C_seq ?_
            refine Cs [(32, (.bool (s.toList == (⟨#[46, 46]⟩ : ByteArray).toList))), (10, (.bool (decide (k < (s.size : Int))))), (3, (.int .i64 k)), (6, (.bool (decide ((s.size : Int) > 255)))), (0, (.string s))] ?_
            refine C_region ?_
            refine Rv (.int .i64 0) w1 ?_
            refine wpR_nil ?_
            refine E_then_normal ?_
            refine C_ret ?_
            refine E_ret (res_one rfl rfl) ⟨_, rfl, ?_⟩
            exact ⟨congrArg (Value.int .i64) (by unfold validN dots; simp_all [badB_end]), be1⟩

set_option linter.unusedVariables false in
set_option linter.unusedSimpArgs false in
set_option maxHeartbeats 4000000 in
set_option maxRecDepth 100000 in
theorem split_any (s : ByteArray) (g w : World) (sees : Sees g w) (hm : MaxL 0 w) : Ret Tryd.prog 19 #[(.string s)] w fun v w' => ∃ sv, v = .tuple #[sv, .bool (splitN s).2.1, .int .i64 (splitN s).2.2] ∧ Is (graft g w w') sv (splitN s).1 ∧ Le w w' := by
  have hrs := restB_size s
  have hpl := partsB_len_le (restB s)
  have be0 := Below.refl w.heap.size w
  refine enter (args := [(.string s)]) Tryd.func19 rfl rfl rfl ?_
  refine C_seq ?_
  refine C_region ?_
  refine Rv (.slice none 0 0) w ?_
  refine Rv (.bool false) w ?_
  refine Rv (.int .i64 0) w ?_
  refine wpR_nil ?_
  refine E_then_normal ?_
  refine C_seq ?_
  refine C_region ?_
  refine Rv (.string s) w ?_
  refine Rc #[(.string s), (.string (⟨#[47]⟩ : ByteArray))] w (cut_any s _) ?_
  rintro _ w1 ⟨rfl, l1⟩
  have sees1 := sees.le l1
  have be1 := l1.below' be0
  refine Rv (.tuple #[(.string (restB s)), (.bool (startsB s))]) w1 ?_
  refine Rv (.string (restB s)) w1 ?_
  refine Rv (.bool (startsB s)) w1 ?_
  refine Rv (.string (restB s)) w1 ?_
  refine Rv (.bool (startsB s)) w1 ?_
  refine wpR_nil ?_
  refine E_then_normal ?_
  refine C_seq ?_
  refine C_block ?_
  refine C_seq ?_
  refine Cs [(6, (.bool (startsB s))), (5, (.string (restB s))), (4, (.int .i64 0)), (3, (.bool false)), (2, (.slice none 0 0)), (0, (.string s))] ?_
  refine C_region ?_
  refine Rv (.string s) w1 ?_
  refine Rw (.int .i64 (s.size : Int)) w1 (X_len_str rfl Tryd.underlying9 rfl) ?_
  refine Rv (.bool (decide ((s.size : Int) > 1000))) w1 ?_
  refine Rv (.bool (decide ((s.size : Int) > 1000))) w1 ?_
  refine wpR_nil ?_
  refine E_then_normal ?_
  refine C_cond rfl (fun c1 => ?_) (fun c1 => ?_)
  · have d1 : (s.size : Int) > 1000 := of_decide_eq_true c1
    refine C_seq ?_
    refine Cs [(17, (.bool (decide ((s.size : Int) > 1000)))), (6, (.bool (startsB s))), (5, (.string (restB s))), (4, (.int .i64 0)), (3, (.bool false)), (2, (.slice none 0 0)), (0, (.string s))] ?_
    refine C_region ?_
    refine Rv (.slice none 0 0) w1 ?_
    refine Rv (.bool false) w1 ?_
    refine Rv (.int .i64 23) w1 ?_
    refine wpR_nil ?_
    refine E_then_normal ?_
    refine C_ret ?_
    refine E_block_ret ?_
    refine E_then_ret ?_
    refine E_ret (res_three rfl rfl rfl rfl) ⟨_, rfl, ?_⟩
    rw [splitN_long d1]
    exact ⟨_, rfl, is_nil _, be1⟩
  · have d1 : ¬ (s.size : Int) > 1000 := of_decide_eq_false c1
    refine C_seq ?_
    refine Cs [(17, (.bool (decide ((s.size : Int) > 1000)))), (6, (.bool (startsB s))), (5, (.string (restB s))), (4, (.int .i64 0)), (3, (.bool false)), (2, (.slice none 0 0)), (0, (.string s))] ?_
    refine C_region ?_
    refine Rv (.bool (startsB s)) w1 ?_
    refine Rv (.bool (!(startsB s))) w1 ?_
    refine Rv (.bool (!(startsB s))) w1 ?_
    refine wpR_nil ?_
    refine E_then_normal ?_
    refine C_cond rfl (fun c2 => ?_) (fun c2 => ?_)
    · refine C_seq ?_
      refine Cs [(21, (.bool (!(startsB s)))), (17, (.bool (decide ((s.size : Int) > 1000)))), (6, (.bool (startsB s))), (5, (.string (restB s))), (4, (.int .i64 0)), (3, (.bool false)), (2, (.slice none 0 0)), (0, (.string s))] ?_
      refine C_region ?_
      refine Rv (.slice none 0 0) w1 ?_
      refine Rv (.bool false) w1 ?_
      refine Rv (.int .i64 22) w1 ?_
      refine wpR_nil ?_
      refine E_then_normal ?_
      refine C_ret ?_
      refine E_block_ret ?_
      refine E_then_ret ?_
      refine E_ret (res_three rfl rfl rfl rfl) ⟨_, rfl, ?_⟩
      rw [splitN_no d1 c2]
      exact ⟨_, rfl, is_nil _, be1⟩
    · refine C_skip ?_
      refine E_block_normal ?_
      refine E_then_normal ?_
      refine C_seq ?_
      refine Cs [(21, (.bool (!(startsB s)))), (17, (.bool (decide ((s.size : Int) > 1000)))), (6, (.bool (startsB s))), (5, (.string (restB s))), (4, (.int .i64 0)), (3, (.bool false)), (2, (.slice none 0 0)), (0, (.string s))] ?_
      refine C_region ?_
      refine Rv (.slice none 0 0) w1 ?_
      refine wpR_nil ?_
      refine E_then_normal ?_
      refine C_seq ?_
      refine C_region ?_
      refine Rv (.bool false) w1 ?_
      refine wpR_nil ?_
      refine E_then_normal ?_
      refine C_seq ?_
      refine C_seq ?_
      refine C_region ?_
      refine Rv (.string (restB s)) w1 ?_
      refine Rc #[(.string (restB s)), (.string (⟨#[47]⟩ : ByteArray))] w1 (split_lib (restB s) g w1 (hm.below be1) (by omega)) ?_
      rintro v1 w2 ⟨hx1, l2⟩
      have sees2 := sees1.le l2
      have be2 := l2.below' be1
      obtain ⟨g1, hg1, sees3, gm1, nf1, agr1, gs1⟩ := heldFrom (g₀ := g) (w₀ := w) sees1 l2 be1.size
      rw [hg1] at hx1
      have agr1 := agr1 (Agr.refl g w)
      refine Rw (.int .i64 ((partsB (restB s)).length : Int)) w2 (X_len (hx1.mono sees3.mono) rfl Tryd.underlying26 rfl) ?_
      refine Rv (.int .i64 0) w2 ?_
      refine wpR_nil ?_
      refine E_then_normal ?_
      refine C_block ?_
      refine Cs [(27, (.int .i64 0)), (26, (.int .i64 ((partsB (restB s)).length : Int))), (25, v1), (8, (.bool false)), (7, (.slice none 0 0)), (21, (.bool (!(startsB s)))), (17, (.bool (decide ((s.size : Int) > 1000)))), (6, (.bool (startsB s))), (5, (.string (restB s))), (4, (.int .i64 0)), (3, (.bool false)), (2, (.slice none 0 0)), (0, (.string s))] ?_
      refine C_loop (ι := Int × List ByteArray × Bool × Value) (fun i : Int × List ByteArray × Bool × Value => match i with | (k, acc, dir, vl) => [(27, (.int .i64 k)), (8, (.bool dir)), (7, vl), (26, (.int .i64 ((partsB (restB s)).length : Int))), (25, v1), (21, (.bool (!(startsB s)))), (17, (.bool (decide ((s.size : Int) > 1000)))), (6, (.bool (startsB s))), (5, (.string (restB s))), (0, (.string s))]) (fun (i : Int × List ByteArray × Bool × Value) w' => match i with | (k, acc, dir, vl) => 0 ≤ k ∧ k ≤ (partsB (restB s)).length ∧ acc.length ≤ k ∧ splitGo ((partsB (restB s)).drop k.toNat) acc dir = splitGo (partsB (restB s)) [] false ∧ OwnsL g1 w' w2.heap.size 9 vl acc ∧ w2.heap.size ≤ w'.heap.size ∧ Below w.heap.size w w' ∧ Sees g1 w' ∧ True) (fun i : Int × List ByteArray × Bool × Value => match i with | (k, acc, dir, vl) => (((partsB (restB s)).length : Int) - k).toNat) (0, [], false, .slice none 0 0) ⟨rfl, rfl, rfl, rfl, rfl, rfl, rfl, rfl, rfl, rfl, trivial⟩ ⟨by omega, by omega, by simp, rfl, OwnsL.nil _ _ _ _, Nat.le_refl _, be2, sees3, trivial⟩ ?_
      rintro ⟨k, acc, dir, vl⟩ w3 ⟨hk0, hkl, hal, hc, how, hbs, be3, sees4, -⟩
      refine Cs [(27, (.int .i64 k)), (8, (.bool dir)), (7, vl), (26, (.int .i64 ((partsB (restB s)).length : Int))), (25, v1), (21, (.bool (!(startsB s)))), (17, (.bool (decide ((s.size : Int) > 1000)))), (6, (.bool (startsB s))), (5, (.string (restB s))), (0, (.string s))] ?_
      have hst : ∀ j : Int, 0 ≤ j → j < (partsB (restB s)).length → (nth (partsB (restB s)) j).size ≤ 1000 := fun j h0 h1 => by have h2 := partsB_size (nth_mem h0 h1); omega
      refine C_seq ?_
      refine C_region ?_
      refine Rv (.bool (decide (k < ((partsB (restB s)).length : Int)))) w3 ?_
      refine wpR_nil ?_
      refine E_then_normal ?_
      refine C_seq ?_
      refine C_cond rfl (fun c3 => ?_) (fun c3 => ?_)
      · have d3 : k < ((partsB (restB s)).length : Int) := of_decide_eq_true c3
        refine C_skip ?_
        refine E_then_normal ?_
        refine C_seq ?_
        refine C_block ?_
        refine C_seq ?_
        refine C_region ?_
        refine Rw (elemP 1 v1 k) w3 (X_indexAddr (hx1.mono sees4.mono) (by omega) (by omega) rfl Tryd.underlying26 (by kernel_rfl) rfl rfl) ?_
        refine Rw (.string (nth (partsB (restB s)) k)) w3 (X_load rfl rfl (run_load_str (hx1.mono sees4.mono) (by omega) (by omega) Tryd.underlying9 (by kernel_rfl))) ?_
        refine Rv (.string (nth (partsB (restB s)) k)) w3 ?_
        refine wpR_nil ?_
        refine E_then_normal ?_
        refine C_seq ?_
        refine Cs [(10, (.string (nth (partsB (restB s)) k))), (28, (.bool (decide (k < ((partsB (restB s)).length : Int))))), (27, (.int .i64 k)), (8, (.bool dir)), (7, vl), (26, (.int .i64 ((partsB (restB s)).length : Int))), (25, v1), (21, (.bool (!(startsB s)))), (17, (.bool (decide ((s.size : Int) > 1000)))), (6, (.bool (startsB s))), (5, (.string (restB s))), (0, (.string s))] ?_
        refine C_region ?_
        refine Rv (.bool true) w3 ?_
        refine wpR_nil ?_
        refine E_then_normal ?_
        refine C_seq ?_
        refine C_seq ?_
        refine Cs [(8, (.bool true)), (10, (.string (nth (partsB (restB s)) k))), (28, (.bool (decide (k < ((partsB (restB s)).length : Int))))), (27, (.int .i64 k)), (7, vl), (26, (.int .i64 ((partsB (restB s)).length : Int))), (25, v1), (21, (.bool (!(startsB s)))), (17, (.bool (decide ((s.size : Int) > 1000)))), (6, (.bool (startsB s))), (5, (.string (restB s))), (0, (.string s))] ?_
        refine C_region ?_
        refine Rv (.string (nth (partsB (restB s)) k)) w3 ?_
        refine wpR_nil ?_
        refine E_then_normal ?_
        refine C_block ?_
        refine C_seq ?_
        refine C_seq ?_
        refine C_region ?_
        refine Rv (.bool ((nth (partsB (restB s)) k).toList == (⟨#[]⟩ : ByteArray).toList)) w3 ?_
        refine Rv (.bool ((nth (partsB (restB s)) k).toList == (⟨#[]⟩ : ByteArray).toList)) w3 ?_
        refine wpR_nil ?_
        refine E_then_normal ?_
        refine C_cond rfl (fun c4 => ?_) (fun c4 => ?_)
        · refine C_skip ?_
          refine E_then_normal ?_
          refine C_cond rfl (fun _ => ?_) (fun hf => absurd (hf.symm.trans c4) (by decide))
          refine C_exit ?_
          refine E_block_other rfl ?_
          refine E_then_exit ?_
          refine E_block_here ?_
          refine E_then_normal ?_
          refine Cs [(37, (.bool ((nth (partsB (restB s)) k).toList == (⟨#[]⟩ : ByteArray).toList))), (31, (.string (nth (partsB (restB s)) k))), (8, (.bool true)), (10, (.string (nth (partsB (restB s)) k))), (28, (.bool (decide (k < ((partsB (restB s)).length : Int))))), (27, (.int .i64 k)), (7, vl), (26, (.int .i64 ((partsB (restB s)).length : Int))), (25, v1), (21, (.bool (!(startsB s)))), (17, (.bool (decide ((s.size : Int) > 1000)))), (6, (.bool (startsB s))), (5, (.string (restB s))), (0, (.string s))] ?_
          refine C_region ?_
          refine Rw (.int .i64 (k + 1)) w3 (eq_int (by kernel_rfl) (wrap64_in (by omega) (by omega))) ?_
          refine Rv (.int .i64 (k + 1)) w3 ?_
          refine wpR_nil ?_
          refine E_then_mid fun aq1 ha1 => ⟨(k + 1, acc, true, vl), ha1.sub ⟨rfl, rfl, rfl, rfl, rfl, rfl, rfl, rfl, rfl, rfl, trivial⟩, ⟨by omega, by omega, by omega, go_skip_ (by omega) (by omega) (by first | (unfold emptyB; rw [c4]; rfl) | (unfold emptyB hereB; rw [c4, hc]; rfl)) hc, how, by omega, be3, sees4, trivial⟩, ?_⟩
          (first | omega | (dsimp only; omega))
        · refine Cs [(37, (.bool ((nth (partsB (restB s)) k).toList == (⟨#[]⟩ : ByteArray).toList))), (31, (.string (nth (partsB (restB s)) k))), (8, (.bool true)), (10, (.string (nth (partsB (restB s)) k))), (28, (.bool (decide (k < ((partsB (restB s)).length : Int))))), (27, (.int .i64 k)), (7, vl), (26, (.int .i64 ((partsB (restB s)).length : Int))), (25, v1), (21, (.bool (!(startsB s)))), (17, (.bool (decide ((s.size : Int) > 1000)))), (6, (.bool (startsB s))), (5, (.string (restB s))), (0, (.string s))] ?_
          refine C_region ?_
          refine Rv (.bool ((nth (partsB (restB s)) k).toList == (⟨#[46]⟩ : ByteArray).toList)) w3 ?_
          refine Rv (.bool ((nth (partsB (restB s)) k).toList == (⟨#[46]⟩ : ByteArray).toList)) w3 ?_
          refine wpR_nil ?_
          refine E_then_normal ?_
          refine C_cond rfl (fun c5 => ?_) (fun c5 => ?_)
          · refine C_exit ?_
            refine E_block_other rfl ?_
            refine E_then_exit ?_
            refine E_block_here ?_
            refine E_then_normal ?_
            refine Cs [(37, (.bool ((nth (partsB (restB s)) k).toList == (⟨#[46]⟩ : ByteArray).toList))), (31, (.string (nth (partsB (restB s)) k))), (8, (.bool true)), (10, (.string (nth (partsB (restB s)) k))), (28, (.bool (decide (k < ((partsB (restB s)).length : Int))))), (27, (.int .i64 k)), (7, vl), (26, (.int .i64 ((partsB (restB s)).length : Int))), (25, v1), (21, (.bool (!(startsB s)))), (17, (.bool (decide ((s.size : Int) > 1000)))), (6, (.bool (startsB s))), (5, (.string (restB s))), (0, (.string s))] ?_
            refine C_region ?_
            refine Rw (.int .i64 (k + 1)) w3 (eq_int (by kernel_rfl) (wrap64_in (by omega) (by omega))) ?_
            refine Rv (.int .i64 (k + 1)) w3 ?_
            refine wpR_nil ?_
            refine E_then_mid fun aq2 ha2 => ⟨(k + 1, acc, true, vl), ha2.sub ⟨rfl, rfl, rfl, rfl, rfl, rfl, rfl, rfl, rfl, rfl, trivial⟩, ⟨by omega, by omega, by omega, go_skip_ (by omega) (by omega) (by first | (unfold emptyB; rw [c4]; rfl) | (unfold emptyB hereB; rw [c4, c5]; rfl)) hc, how, by omega, be3, sees4, trivial⟩, ?_⟩
            (first | omega | (dsimp only; omega))
          · refine C_seq ?_
            refine Cs [(37, (.bool ((nth (partsB (restB s)) k).toList == (⟨#[46]⟩ : ByteArray).toList))), (31, (.string (nth (partsB (restB s)) k))), (8, (.bool true)), (10, (.string (nth (partsB (restB s)) k))), (28, (.bool (decide (k < ((partsB (restB s)).length : Int))))), (27, (.int .i64 k)), (7, vl), (26, (.int .i64 ((partsB (restB s)).length : Int))), (25, v1), (21, (.bool (!(startsB s)))), (17, (.bool (decide ((s.size : Int) > 1000)))), (6, (.bool (startsB s))), (5, (.string (restB s))), (0, (.string s))] ?_
            refine C_region ?_
            refine Rv (.bool ((nth (partsB (restB s)) k).toList == (⟨#[46, 46]⟩ : ByteArray).toList)) w3 ?_
            refine Rv (.bool ((nth (partsB (restB s)) k).toList == (⟨#[46, 46]⟩ : ByteArray).toList)) w3 ?_
            refine wpR_nil ?_
            refine E_then_normal ?_
            refine C_cond rfl (fun c6 => ?_) (fun c6 => ?_)
            · refine C_skip ?_
              refine E_block_normal ?_
              refine E_then_normal ?_
              refine Cs [(40, (.bool ((nth (partsB (restB s)) k).toList == (⟨#[46, 46]⟩ : ByteArray).toList))), (37, (.bool ((nth (partsB (restB s)) k).toList == (⟨#[46]⟩ : ByteArray).toList))), (31, (.string (nth (partsB (restB s)) k))), (8, (.bool true)), (10, (.string (nth (partsB (restB s)) k))), (28, (.bool (decide (k < ((partsB (restB s)).length : Int))))), (27, (.int .i64 k)), (7, vl), (26, (.int .i64 ((partsB (restB s)).length : Int))), (25, v1), (21, (.bool (!(startsB s)))), (17, (.bool (decide ((s.size : Int) > 1000)))), (6, (.bool (startsB s))), (5, (.string (restB s))), (0, (.string s))] ?_
              refine C_region ?_
              refine Rv vl w3 ?_
              refine Rv (.string (nth (partsB (restB s)) k)) w3 ?_
              refine S_new (fun b => .slice (some ⟨b, 0, none⟩) 1 1) (.cells #[(.string (nth (partsB (restB s)) k))] 9) (by kernel_rfl) (by kernel_rfl) rfl rfl rfl fun b1 w4 n1 => ?_
              have sz1 := n1.le.size
              have ow1 := how.le n1.le
              have ni1 := n1.notIn sees4
              have sees5 := sees4.le n1.le
              have k1 := n1.blk
              have o1 := n1.own be3
              have be4 := n1.below' be3
              refine S_append1 (bytes := 16) (a := nth (partsB (restB s)) k) (c := [(.string (nth (partsB (restB s)) k))]) ow1 k1 ⟨rfl, (by have h3 := hst k (by omega) (by omega); unfold maxLen; omega)⟩ Tryd.underlying26 (by kernel_rfl) (by kernel_rfl) (by decide) rfl (by omega) (by omega) (by omega) rfl rfl rfl rfl rfl rfl fun v2 w5 ow2 bl1 => ?_
              have sz2 := bl1.size
              have sees6 := sees5.grew sees3.size bl1
              have be5 := be4.trans (bl1.mono be2.size)
              refine Rv v2 w5 ?_
              refine wpR_nil ?_
              refine E_block_normal ?_
              refine E_then_normal ?_
              refine Cs [(7, v2), (40, (.bool ((nth (partsB (restB s)) k).toList == (⟨#[46, 46]⟩ : ByteArray).toList))), (37, (.bool ((nth (partsB (restB s)) k).toList == (⟨#[46]⟩ : ByteArray).toList))), (31, (.string (nth (partsB (restB s)) k))), (8, (.bool true)), (10, (.string (nth (partsB (restB s)) k))), (28, (.bool (decide (k < ((partsB (restB s)).length : Int))))), (27, (.int .i64 k)), (26, (.int .i64 ((partsB (restB s)).length : Int))), (25, v1), (21, (.bool (!(startsB s)))), (17, (.bool (decide ((s.size : Int) > 1000)))), (6, (.bool (startsB s))), (5, (.string (restB s))), (0, (.string s))] ?_
              refine C_region ?_
              refine Rw (.int .i64 (k + 1)) w5 (eq_int (by kernel_rfl) (wrap64_in (by omega) (by omega))) ?_
              refine Rv (.int .i64 (k + 1)) w5 ?_
              refine wpR_nil ?_
              refine E_then_mid fun aq3 ha3 => ⟨(k + 1, acc ++ [nth (partsB (restB s)) k], true, v2), ha3.sub ⟨rfl, rfl, rfl, rfl, rfl, rfl, rfl, rfl, rfl, rfl, trivial⟩, ⟨by omega, by omega, by simp only [List.length_append, List.length_cons, List.length_nil]; omega, go_above (by omega) (by omega) c4 c5 c6 hc, ow2, by omega, be5, sees6, trivial⟩, ?_⟩
              (first | omega | (dsimp only; omega))
            · refine C_seq ?_
              refine Cs [(40, (.bool ((nth (partsB (restB s)) k).toList == (⟨#[46, 46]⟩ : ByteArray).toList))), (37, (.bool ((nth (partsB (restB s)) k).toList == (⟨#[46]⟩ : ByteArray).toList))), (31, (.string (nth (partsB (restB s)) k))), (8, (.bool true)), (10, (.string (nth (partsB (restB s)) k))), (28, (.bool (decide (k < ((partsB (restB s)).length : Int))))), (27, (.int .i64 k)), (7, vl), (26, (.int .i64 ((partsB (restB s)).length : Int))), (25, v1), (21, (.bool (!(startsB s)))), (17, (.bool (decide ((s.size : Int) > 1000)))), (6, (.bool (startsB s))), (5, (.string (restB s))), (0, (.string s))] ?_
              refine C_region ?_
              refine Rv (.bool false) w3 ?_
              refine wpR_nil ?_
              refine E_then_normal ?_
              refine C_seq ?_
              refine Cs [(8, (.bool false)), (40, (.bool ((nth (partsB (restB s)) k).toList == (⟨#[46, 46]⟩ : ByteArray).toList))), (37, (.bool ((nth (partsB (restB s)) k).toList == (⟨#[46]⟩ : ByteArray).toList))), (31, (.string (nth (partsB (restB s)) k))), (10, (.string (nth (partsB (restB s)) k))), (28, (.bool (decide (k < ((partsB (restB s)).length : Int))))), (27, (.int .i64 k)), (7, vl), (26, (.int .i64 ((partsB (restB s)).length : Int))), (25, v1), (21, (.bool (!(startsB s)))), (17, (.bool (decide ((s.size : Int) > 1000)))), (6, (.bool (startsB s))), (5, (.string (restB s))), (0, (.string s))] ?_
              refine C_region ?_
              refine Rv (.string (nth (partsB (restB s)) k)) w3 ?_
              refine Rc #[(.string (nth (partsB (restB s)) k))] w3 (valid_any (nth (partsB (restB s)) k) _) ?_
              rintro _ w6 ⟨rfl, l3⟩
              have sz3 := l3.size
              have ow3 := how.le l3
              have sees7 := sees4.le l3
              have be6 := l3.below' be3
              refine Rv (.int .i64 (validN (nth (partsB (restB s)) k))) w6 ?_
              refine wpR_nil ?_
              refine E_then_normal ?_
              refine C_seq ?_
              refine Cs [(11, (.int .i64 (validN (nth (partsB (restB s)) k)))), (8, (.bool false)), (40, (.bool ((nth (partsB (restB s)) k).toList == (⟨#[46, 46]⟩ : ByteArray).toList))), (37, (.bool ((nth (partsB (restB s)) k).toList == (⟨#[46]⟩ : ByteArray).toList))), (31, (.string (nth (partsB (restB s)) k))), (10, (.string (nth (partsB (restB s)) k))), (28, (.bool (decide (k < ((partsB (restB s)).length : Int))))), (27, (.int .i64 k)), (7, vl), (26, (.int .i64 ((partsB (restB s)).length : Int))), (25, v1), (21, (.bool (!(startsB s)))), (17, (.bool (decide ((s.size : Int) > 1000)))), (6, (.bool (startsB s))), (5, (.string (restB s))), (0, (.string s))] ?_
              refine C_region ?_
              refine Rv (.int .i64 (validN (nth (partsB (restB s)) k))) w6 ?_
              refine Rv (.bool ((validN (nth (partsB (restB s)) k)) != 0)) w6 ?_
              refine wpR_nil ?_
              refine E_then_normal ?_
              refine C_cond rfl (fun c7 => ?_) (fun c7 => ?_)
              · have d7 : (validN (nth (partsB (restB s)) k)) ≠ 0 := bne_iff_ne.1 c7
                refine C_seq ?_
                refine Cs [(35, (.bool ((validN (nth (partsB (restB s)) k)) != 0))), (11, (.int .i64 (validN (nth (partsB (restB s)) k)))), (8, (.bool false)), (40, (.bool ((nth (partsB (restB s)) k).toList == (⟨#[46, 46]⟩ : ByteArray).toList))), (37, (.bool ((nth (partsB (restB s)) k).toList == (⟨#[46]⟩ : ByteArray).toList))), (31, (.string (nth (partsB (restB s)) k))), (10, (.string (nth (partsB (restB s)) k))), (28, (.bool (decide (k < ((partsB (restB s)).length : Int))))), (27, (.int .i64 k)), (7, vl), (26, (.int .i64 ((partsB (restB s)).length : Int))), (25, v1), (21, (.bool (!(startsB s)))), (17, (.bool (decide ((s.size : Int) > 1000)))), (6, (.bool (startsB s))), (5, (.string (restB s))), (0, (.string s))] ?_
                refine C_region ?_
                refine Rv (.int .i64 (validN (nth (partsB (restB s)) k))) w6 ?_
                refine Rv (.slice none 0 0) w6 ?_
                refine Rv (.bool false) w6 ?_
                refine Rv (.int .i64 (validN (nth (partsB (restB s)) k))) w6 ?_
                refine wpR_nil ?_
                refine E_then_normal ?_
                refine C_ret ?_
                refine E_block_ret ?_
                refine E_then_ret ?_
                refine E_block_ret ?_
                refine E_then_ret ?_
                refine E_then_ret ?_
                refine E_block_ret ?_
                refine E_then_ret ?_
                refine E_ret (res_three rfl rfl rfl rfl) ⟨_, rfl, ?_⟩
                rw [(splitN_go d1 c2).trans (go_bad (by omega) (by omega) c4 c5 c6 c7 hc)]
                exact ⟨_, rfl, is_nil _, be6⟩
              · have d7 : (validN (nth (partsB (restB s)) k)) = 0 := bne_eq_false_iff_eq.1 c7
                refine C_skip ?_
                refine E_block_normal ?_
                refine E_then_normal ?_
                refine Cs [(35, (.bool ((validN (nth (partsB (restB s)) k)) != 0))), (11, (.int .i64 (validN (nth (partsB (restB s)) k)))), (8, (.bool false)), (40, (.bool ((nth (partsB (restB s)) k).toList == (⟨#[46, 46]⟩ : ByteArray).toList))), (37, (.bool ((nth (partsB (restB s)) k).toList == (⟨#[46]⟩ : ByteArray).toList))), (31, (.string (nth (partsB (restB s)) k))), (10, (.string (nth (partsB (restB s)) k))), (28, (.bool (decide (k < ((partsB (restB s)).length : Int))))), (27, (.int .i64 k)), (7, vl), (26, (.int .i64 ((partsB (restB s)).length : Int))), (25, v1), (21, (.bool (!(startsB s)))), (17, (.bool (decide ((s.size : Int) > 1000)))), (6, (.bool (startsB s))), (5, (.string (restB s))), (0, (.string s))] ?_
                refine C_region ?_
                refine Rv vl w6 ?_
                refine Rv (.string (nth (partsB (restB s)) k)) w6 ?_
                refine S_new (fun b => .slice (some ⟨b, 0, none⟩) 1 1) (.cells #[(.string (nth (partsB (restB s)) k))] 9) (by kernel_rfl) (by kernel_rfl) rfl rfl rfl fun b2 w7 n2 => ?_
                have sz4 := n2.le.size
                have ow4 := ow3.le n2.le
                have ni2 := n2.notIn sees7
                have sees8 := sees7.le n2.le
                have k2 := n2.blk
                have o2 := n2.own be6
                have be7 := n2.below' be6
                refine S_append1 (bytes := 16) (a := nth (partsB (restB s)) k) (c := [(.string (nth (partsB (restB s)) k))]) ow4 k2 ⟨rfl, (by have h3 := hst k (by omega) (by omega); unfold maxLen; omega)⟩ Tryd.underlying26 (by kernel_rfl) (by kernel_rfl) (by decide) rfl (by omega) (by omega) (by omega) rfl rfl rfl rfl rfl rfl fun v3 w8 ow5 bl2 => ?_
                have sz5 := bl2.size
                have sees9 := sees8.grew sees3.size bl2
                have be8 := be7.trans (bl2.mono be2.size)
                refine Rv v3 w8 ?_
                refine wpR_nil ?_
                refine E_block_normal ?_
                refine E_then_normal ?_
                refine Cs [(7, v3), (35, (.bool ((validN (nth (partsB (restB s)) k)) != 0))), (11, (.int .i64 (validN (nth (partsB (restB s)) k)))), (8, (.bool false)), (40, (.bool ((nth (partsB (restB s)) k).toList == (⟨#[46, 46]⟩ : ByteArray).toList))), (37, (.bool ((nth (partsB (restB s)) k).toList == (⟨#[46]⟩ : ByteArray).toList))), (31, (.string (nth (partsB (restB s)) k))), (10, (.string (nth (partsB (restB s)) k))), (28, (.bool (decide (k < ((partsB (restB s)).length : Int))))), (27, (.int .i64 k)), (26, (.int .i64 ((partsB (restB s)).length : Int))), (25, v1), (21, (.bool (!(startsB s)))), (17, (.bool (decide ((s.size : Int) > 1000)))), (6, (.bool (startsB s))), (5, (.string (restB s))), (0, (.string s))] ?_
                refine C_region ?_
                refine Rw (.int .i64 (k + 1)) w8 (eq_int (by kernel_rfl) (wrap64_in (by omega) (by omega))) ?_
                refine Rv (.int .i64 (k + 1)) w8 ?_
                refine wpR_nil ?_
                refine E_then_mid fun aq4 ha4 => ⟨(k + 1, acc ++ [nth (partsB (restB s)) k], false, v3), ha4.sub ⟨rfl, rfl, rfl, rfl, rfl, rfl, rfl, rfl, rfl, rfl, trivial⟩, ⟨by omega, by omega, by simp only [List.length_append, List.length_cons, List.length_nil]; omega, go_good (by omega) (by omega) c4 c5 c6 c7 hc, ow5, by omega, be8, sees9, trivial⟩, ?_⟩
                (first | omega | (dsimp only; omega))
      · have d3 : ¬ k < ((partsB (restB s)).length : Int) := of_decide_eq_false c3
        refine C_exit ?_
        refine E_then_exit ?_
        refine E_then_exit ?_
        refine E_block_here ?_
        refine E_then_normal ?_
        refine C_seq ?_
        refine C_region ?_
        refine Rv vl w3 ?_
        refine Rv (.bool dir) w3 ?_
        refine Rv vl w3 ?_
        refine Rv (.bool dir) w3 ?_
        refine Rv (.int .i64 0) w3 ?_
        refine wpR_nil ?_
        refine E_then_normal ?_
        refine C_ret ?_
        refine E_ret (res_three rfl rfl rfl rfl) ⟨_, rfl, ?_⟩
        have hsp := (splitN_go d1 c2).trans (go_fin (by omega) hc)
        rw [hsp]
        exact ⟨_, rfl, OwnsL.fin how agr1 sees sees4 be3.size be2.size, be3⟩

set_option linter.unusedVariables false in
set_option linter.unusedSimpArgs false in
set_option maxHeartbeats 4000000 in
set_option maxRecDepth 100000 in
theorem split_lit {g w : World} {s : ByteArray} (xs : List ByteArray) (b : Bool) (e : Int) (h : splitN s = (xs, b, e)) (v : Value) (w' : World) :
    (∃ sv, v = .tuple #[sv, .bool (splitN s).2.1, .int .i64 (splitN s).2.2] ∧ Is (graft g w w') sv (splitN s).1 ∧ Le w w') → ∃ sv, v = .tuple #[sv, .bool b, .int .i64 e] ∧ Is (graft g w w') sv xs ∧ Le w w' := by rw [h]; exact id

set_option linter.unusedVariables false in
set_option linter.unusedSimpArgs false in
set_option maxHeartbeats 4000000 in
set_option maxRecDepth 100000 in
theorem shown_any  (g w : World) (sees : Sees g w) (hm : MaxL 0 w) : Ret Tryd.prog 9 #[] w fun v w' => v = .bool true ∧ Le w w' := by
  have be0 := Below.refl w.heap.size w
  refine enter (args := []) Tryd.func9 rfl rfl rfl ?_
  refine C_seq ?_
  refine C_region ?_
  refine Rv (.bool false) w ?_
  refine wpR_nil ?_
  refine E_then_normal ?_
  refine C_seq ?_
  refine C_region ?_
  refine Rc #[(.string (⟨#[47, 97, 47, 47, 46, 47, 98]⟩ : ByteArray))] w ((split_any (⟨#[47, 97, 47, 47, 46, 47, 98]⟩ : ByteArray) g w sees (hm.below be0)).mono (split_lit [(⟨#[97]⟩ : ByteArray), (⟨#[98]⟩ : ByteArray)] false 0 (by decide +kernel))) ?_
  rintro _ w1 ⟨sv1, rfl, hs1, l1⟩
  have sees1 := sees.le l1
  have be1 := l1.below' be0
  obtain ⟨g1, hg1, sees2, gm1, nf1, agr1, gs1⟩ := heldFrom (g₀ := g) (w₀ := w) sees l1 be0.size
  rw [hg1] at hs1
  have agr1 := agr1 (Agr.refl g w)
  refine Rv (.tuple #[sv1, (.bool false), (.int .i64 0)]) w1 ?_
  refine Rv sv1 w1 ?_
  refine Rv (.bool false) w1 ?_
  refine Rv (.int .i64 0) w1 ?_
  refine Rv sv1 w1 ?_
  refine Rv (.bool false) w1 ?_
  refine Rv (.int .i64 0) w1 ?_
  refine wpR_nil ?_
  refine E_then_normal ?_
  refine C_seq ?_
  refine Cs [(3, (.int .i64 0)), (2, (.bool false)), (1, sv1), (0, (.bool false))] ?_
  refine C_region ?_
  refine Rc #[(.string (⟨#[47, 97, 47, 46, 46, 47, 98, 47]⟩ : ByteArray))] w1 ((split_any (⟨#[47, 97, 47, 46, 46, 47, 98, 47]⟩ : ByteArray) g1 w1 sees2 (hm.below be1)).mono (split_lit [(⟨#[97]⟩ : ByteArray), (⟨#[46, 46]⟩ : ByteArray), (⟨#[98]⟩ : ByteArray)] true 0 (by decide +kernel))) ?_
  rintro _ w2 ⟨sv2, rfl, hs2, l2⟩
  have sees3 := sees2.le l2
  have be2 := l2.below' be1
  obtain ⟨g2, hg2, sees4, gm2, nf2, agr2, gs2⟩ := heldFrom (g₀ := g) (w₀ := w) sees2 l2 be1.size
  rw [hg2] at hs2
  have agr2 := agr2 agr1
  have hd1 := hs1.mono gm2
  refine Rv (.tuple #[sv2, (.bool true), (.int .i64 0)]) w2 ?_
  refine Rv sv2 w2 ?_
  refine Rv (.bool true) w2 ?_
  refine Rv (.int .i64 0) w2 ?_
  refine Rv sv2 w2 ?_
  refine Rv (.bool true) w2 ?_
  refine Rv (.int .i64 0) w2 ?_
  refine wpR_nil ?_
  refine E_then_normal ?_
  refine C_seq ?_
  refine Cs [(6, (.int .i64 0)), (5, (.bool true)), (4, sv2), (3, (.int .i64 0)), (2, (.bool false)), (1, sv1), (0, (.bool false))] ?_
  refine C_region ?_
  refine Rc #[(.string (⟨#[47]⟩ : ByteArray))] w2 ((split_any (⟨#[47]⟩ : ByteArray) g2 w2 sees4 (hm.below be2)).mono (split_lit [] true 0 (by decide +kernel))) ?_
  rintro _ w3 ⟨sv3, rfl, hs3, l3⟩
  have sees5 := sees4.le l3
  have be3 := l3.below' be2
  obtain ⟨g3, hg3, sees6, gm3, nf3, agr3, gs3⟩ := heldFrom (g₀ := g) (w₀ := w) sees4 l3 be2.size
  rw [hg3] at hs3
  have agr3 := agr3 agr2
  have hd2 := hs2.mono gm3
  have hd3 := hd1.mono gm3
  refine Rv (.tuple #[sv3, (.bool true), (.int .i64 0)]) w3 ?_
  refine Rv sv3 w3 ?_
  refine Rv (.bool true) w3 ?_
  refine Rv (.int .i64 0) w3 ?_
  refine Rv sv3 w3 ?_
  refine Rv (.bool true) w3 ?_
  refine Rv (.int .i64 0) w3 ?_
  refine wpR_nil ?_
  refine E_then_normal ?_
  refine C_seq ?_
  refine Cs [(9, (.int .i64 0)), (8, (.bool true)), (7, sv3), (6, (.int .i64 0)), (5, (.bool true)), (4, sv2), (3, (.int .i64 0)), (2, (.bool false)), (1, sv1), (0, (.bool false))] ?_
  refine C_region ?_
  refine Rc #[(.string (⟨#[97]⟩ : ByteArray))] w3 ((split_any (⟨#[97]⟩ : ByteArray) g3 w3 sees6 (hm.below be3)).mono (split_lit [] false 22 (by decide +kernel))) ?_
  rintro _ w4 ⟨sv4, rfl, hs4, l4⟩
  have sees7 := sees6.le l4
  have be4 := l4.below' be3
  obtain ⟨g4, hg4, sees8, gm4, nf4, agr4, gs4⟩ := heldFrom (g₀ := g) (w₀ := w) sees6 l4 be3.size
  rw [hg4] at hs4
  have agr4 := agr4 agr3
  have hd4 := hs3.mono gm4
  have hd5 := hd2.mono gm4
  have hd6 := hd3.mono gm4
  refine Rv (.tuple #[sv4, (.bool false), (.int .i64 22)]) w4 ?_
  refine Rv sv4 w4 ?_
  refine Rv (.bool false) w4 ?_
  refine Rv (.int .i64 22) w4 ?_
  refine Rv sv4 w4 ?_
  refine Rv (.bool false) w4 ?_
  refine Rv (.int .i64 22) w4 ?_
  refine wpR_nil ?_
  refine E_then_normal ?_
  refine C_seq ?_
  refine Cs [(12, (.int .i64 22)), (9, (.int .i64 0)), (8, (.bool true)), (7, sv3), (6, (.int .i64 0)), (5, (.bool true)), (4, sv2), (3, (.int .i64 0)), (2, (.bool false)), (1, sv1), (0, (.bool false))] ?_
  refine C_region ?_
  refine Rv sv1 w4 ?_
  refine Rw (.int .i64 2) w4 (X_len (hd6.mono sees8.mono) rfl Tryd.underlying26 rfl) ?_
  refine Rv (.bool true) w4 ?_
  refine Rv (.bool true) w4 ?_
  refine Rv sv1 w4 ?_
  refine Rw (elemP 1 sv1 0) w4 (X_indexAddr (hd6.mono sees8.mono) (by first | omega | decide) (by first | omega | decide) rfl Tryd.underlying26 (by kernel_rfl) rfl rfl) ?_
  refine Rw (.string (⟨#[97]⟩ : ByteArray)) w4 (X_load rfl rfl (run_load_str (hd6.mono sees8.mono) (by first | omega | decide) (by first | omega | decide) Tryd.underlying9 (by kernel_rfl))) ?_
  refine Rv (.bool true) w4 ?_
  refine Rv (.bool true) w4 ?_
  refine Rv (.bool true) w4 ?_
  refine Rv sv1 w4 ?_
  refine Rw (elemP 1 sv1 1) w4 (X_indexAddr (hd6.mono sees8.mono) (by first | omega | decide) (by first | omega | decide) rfl Tryd.underlying26 (by kernel_rfl) rfl rfl) ?_
  refine Rw (.string (⟨#[98]⟩ : ByteArray)) w4 (X_load rfl rfl (run_load_str (hd6.mono sees8.mono) (by first | omega | decide) (by first | omega | decide) Tryd.underlying9 (by kernel_rfl))) ?_
  refine Rv (.bool true) w4 ?_
  refine Rv (.bool true) w4 ?_
  refine Rv (.bool true) w4 ?_
  refine Rv (.bool false) w4 ?_
  refine Rv (.bool true) w4 ?_
  refine Rv (.bool true) w4 ?_
  refine Rv (.bool true) w4 ?_
  refine Rv (.int .i64 0) w4 ?_
  refine Rv (.bool true) w4 ?_
  refine Rv (.bool true) w4 ?_
  refine Rv (.bool true) w4 ?_
  refine wpR_nil ?_
  refine E_then_normal ?_
  refine C_seq ?_
  refine Cs [(13, (.bool true)), (12, (.int .i64 22)), (9, (.int .i64 0)), (8, (.bool true)), (7, sv3), (6, (.int .i64 0)), (5, (.bool true)), (4, sv2), (3, (.int .i64 0)), (2, (.bool false)), (1, sv1), (0, (.bool false))] ?_
  refine C_region ?_
  refine Rv sv2 w4 ?_
  refine Rw (.int .i64 3) w4 (X_len (hd5.mono sees8.mono) rfl Tryd.underlying26 rfl) ?_
  refine Rv (.bool true) w4 ?_
  refine Rv (.bool true) w4 ?_
  refine Rv sv2 w4 ?_
  refine Rw (elemP 1 sv2 1) w4 (X_indexAddr (hd5.mono sees8.mono) (by first | omega | decide) (by first | omega | decide) rfl Tryd.underlying26 (by kernel_rfl) rfl rfl) ?_
  refine Rw (.string (⟨#[46, 46]⟩ : ByteArray)) w4 (X_load rfl rfl (run_load_str (hd5.mono sees8.mono) (by first | omega | decide) (by first | omega | decide) Tryd.underlying9 (by kernel_rfl))) ?_
  refine Rv (.bool true) w4 ?_
  refine Rv (.bool true) w4 ?_
  refine Rv (.bool true) w4 ?_
  refine Rv (.bool true) w4 ?_
  refine Rv (.bool true) w4 ?_
  refine Rv (.bool true) w4 ?_
  refine Rv (.int .i64 0) w4 ?_
  refine Rv (.bool true) w4 ?_
  refine Rv (.bool true) w4 ?_
  refine Rv (.bool true) w4 ?_
  refine Rv sv3 w4 ?_
  refine Rw (.int .i64 0) w4 (X_len (hd4.mono sees8.mono) rfl Tryd.underlying26 rfl) ?_
  refine Rv (.bool true) w4 ?_
  refine Rv (.bool true) w4 ?_
  refine Rv (.bool true) w4 ?_
  refine Rv (.bool true) w4 ?_
  refine Rv (.bool true) w4 ?_
  refine Rv (.bool true) w4 ?_
  refine Rv (.int .i64 0) w4 ?_
  refine Rv (.bool true) w4 ?_
  refine Rv (.bool true) w4 ?_
  refine Rv (.bool true) w4 ?_
  refine Rv (.int .i64 22) w4 ?_
  refine Rv (.bool true) w4 ?_
  refine Rv (.bool true) w4 ?_
  refine Rv (.bool true) w4 ?_
  refine wpR_nil ?_
  refine E_then_normal ?_
  refine C_seq ?_
  refine Cs [(14, (.bool true)), (13, (.bool true)), (12, (.int .i64 22)), (9, (.int .i64 0)), (8, (.bool true)), (7, sv3), (6, (.int .i64 0)), (5, (.bool true)), (4, sv2), (3, (.int .i64 0)), (2, (.bool false)), (1, sv1), (0, (.bool false))] ?_
  refine C_region ?_
  refine Rv (.bool true) w4 ?_
  refine Rv (.bool true) w4 ?_
  refine Rv (.bool true) w4 ?_
  refine Rv (.bool true) w4 ?_
  refine Rv (.bool true) w4 ?_
  refine S_new (fun b => .slice (some ⟨b, 0, none⟩) 1 1) (.cells #[(.string (⟨#[97]⟩ : ByteArray))] 9) (by kernel_rfl) (by kernel_rfl) rfl rfl rfl fun b1 w5 n1 => ?_
  have ni1 := n1.notIn sees8
  have sees9 := sees8.le n1.le
  have k1 := n1.blk
  have o1 := n1.own be4
  have be5 := n1.below' be4
  have hx1 := is_new_strs (g := g4) (xs := [(⟨#[97]⟩ : ByteArray)]) n1 (by decide) (by decide)
  obtain ⟨g5, hg5, sees10, gm5, nf5, agr5, gs5⟩ := heldFrom (g₀ := g) (w₀ := w) sees8 n1.le be4.size
  rw [hg5] at hx1
  have agr5 := agr5 agr4
  have hd7 := hd4.mono gm5
  have hd8 := hd5.mono gm5
  have hd9 := hd6.mono gm5
  refine S_new (fun b => .slice (some ⟨b, 0, none⟩) 2 2) (.cells #[(.string (⟨#[97]⟩ : ByteArray)), (.string (⟨#[98]⟩ : ByteArray))] 9) (by kernel_rfl) (by kernel_rfl) rfl rfl rfl fun b2 w6 n2 => ?_
  have ni2 := n2.notIn sees10
  have sees11 := sees10.le n2.le
  have k2 := n2.blk
  have o2 := n2.own be5
  have be6 := n2.below' be5
  have hx2 := is_new_strs (g := g5) (xs := [(⟨#[97]⟩ : ByteArray), (⟨#[98]⟩ : ByteArray)]) n2 (by decide) (by decide)
  obtain ⟨g6, hg6, sees12, gm6, nf6, agr6, gs6⟩ := heldFrom (g₀ := g) (w₀ := w) sees10 n2.le be5.size
  rw [hg6] at hx2
  have agr6 := agr6 agr5
  have hd10 := hx1.mono gm6
  have hd11 := hd7.mono gm6
  have hd12 := hd8.mono gm6
  have hd13 := hd9.mono gm6
  refine Rc #[(.slice (some ⟨b1, 0, none⟩) 1 1), (.slice (some ⟨b2, 0, none⟩) 2 2)] w6 (less_any ([(⟨#[97]⟩ : ByteArray)]) ([(⟨#[97]⟩ : ByteArray), (⟨#[98]⟩ : ByteArray)]) (.slice (some ⟨b1, 0, none⟩) 1 1) (.slice (some ⟨b2, 0, none⟩) 2 2) _ _ sees12 hd10 hx2) ?_
  rintro _ w7 ⟨rfl, l5⟩
  have sees13 := sees12.le l5
  have be7 := l5.below' be6
  refine Rv (.bool (decide (cmpL ([(⟨#[97]⟩ : ByteArray)]) ([(⟨#[97]⟩ : ByteArray), (⟨#[98]⟩ : ByteArray)]) < 0))) w7 ?_
  rcases Bool.eq_false_or_eq_true (decide (cmpL ([(⟨#[97]⟩ : ByteArray)]) ([(⟨#[97]⟩ : ByteArray), (⟨#[98]⟩ : ByteArray)]) < 0)) with c1 | c1
  · refine Rw (.bool true) w7 (eq_bool (by kernel_rfl) c1) ?_
    refine S_new (fun b => .slice (some ⟨b, 0, none⟩) 2 2) (.cells #[(.string (⟨#[97]⟩ : ByteArray)), (.string (⟨#[122]⟩ : ByteArray))] 9) (by kernel_rfl) (by kernel_rfl) rfl rfl rfl fun b3 w8 n3 => ?_
    have ni3 := n3.notIn sees13
    have sees14 := sees13.le n3.le
    have k3 := n3.blk
    have o3 := n3.own be7
    have be8 := n3.below' be7
    have hx3 := is_new_strs (g := g6) (xs := [(⟨#[97]⟩ : ByteArray), (⟨#[122]⟩ : ByteArray)]) n3 (by decide) (by decide)
    obtain ⟨g7, hg7, sees15, gm7, nf7, agr7, gs7⟩ := heldFrom (g₀ := g) (w₀ := w) sees13 n3.le be7.size
    rw [hg7] at hx3
    have agr7 := agr7 agr6
    have hd14 := hx2.mono gm7
    have hd15 := hd10.mono gm7
    have hd16 := hd11.mono gm7
    have hd17 := hd12.mono gm7
    have hd18 := hd13.mono gm7
    refine S_new (fun b => .slice (some ⟨b, 0, none⟩) 1 1) (.cells #[(.string (⟨#[97, 98]⟩ : ByteArray))] 9) (by kernel_rfl) (by kernel_rfl) rfl rfl rfl fun b4 w9 n4 => ?_
    have ni4 := n4.notIn sees15
    have sees16 := sees15.le n4.le
    have k4 := n4.blk
    have o4 := n4.own be8
    have be9 := n4.below' be8
    have hx4 := is_new_strs (g := g7) (xs := [(⟨#[97, 98]⟩ : ByteArray)]) n4 (by decide) (by decide)
    obtain ⟨g8, hg8, sees17, gm8, nf8, agr8, gs8⟩ := heldFrom (g₀ := g) (w₀ := w) sees15 n4.le be8.size
    rw [hg8] at hx4
    have agr8 := agr8 agr7
    have hd19 := hx3.mono gm8
    have hd20 := hd14.mono gm8
    have hd21 := hd15.mono gm8
    have hd22 := hd16.mono gm8
    have hd23 := hd17.mono gm8
    have hd24 := hd18.mono gm8
    refine Rc #[(.slice (some ⟨b3, 0, none⟩) 2 2), (.slice (some ⟨b4, 0, none⟩) 1 1)] w9 (less_any ([(⟨#[97]⟩ : ByteArray), (⟨#[122]⟩ : ByteArray)]) ([(⟨#[97, 98]⟩ : ByteArray)]) (.slice (some ⟨b3, 0, none⟩) 2 2) (.slice (some ⟨b4, 0, none⟩) 1 1) _ _ sees17 hd19 hx4) ?_
    rintro _ w10 ⟨rfl, l6⟩
    have sees18 := sees17.le l6
    have be10 := l6.below' be9
    refine Rv (.bool (decide (cmpL ([(⟨#[97]⟩ : ByteArray), (⟨#[122]⟩ : ByteArray)]) ([(⟨#[97, 98]⟩ : ByteArray)]) < 0))) w10 ?_
    refine Rv (.bool (decide (cmpL ([(⟨#[97]⟩ : ByteArray), (⟨#[122]⟩ : ByteArray)]) ([(⟨#[97, 98]⟩ : ByteArray)]) < 0))) w10 ?_
    refine wpR_nil ?_
    refine E_then_normal ?_
    refine C_ret ?_
    refine E_ret (res_one rfl rfl) ⟨_, rfl, ?_⟩
    first | exact ⟨congrArg Value.bool (by decide +kernel), be10⟩ | exact absurd c1 (by decide +kernel)
  · refine Rw (.bool false) w7 (eq_bool (by kernel_rfl) c1) ?_
    iterate 3 refine Rs ?_
    refine Rv (.bool false) w7 ?_
    refine Rv (.bool false) w7 ?_
    refine wpR_nil ?_
    refine E_then_normal ?_
    refine C_ret ?_
    refine E_ret (res_one rfl rfl) ⟨_, rfl, ?_⟩
    first | exact ⟨congrArg Value.bool (by decide +kernel), be7⟩ | exact absurd c1 (by decide +kernel)

set_option linter.unusedVariables false in
set_option linter.unusedSimpArgs false in
set_option maxHeartbeats 4000000 in
set_option maxRecDepth 100000 in
theorem few_short {g : World} {v : Value} {a : List ByteArray} (h : ¬ (a.length : Int) > 30) (hv : Is g v a) : Is g v (a.take 30) := by rw [List.take_of_length_le (by omega)]; exact hv
theorem few_long {g : World} {v : Value} {a : List ByteArray} (hv : Is g v ((a.drop (0 : Int).toNat).take ((30 : Int).toNat - (0 : Int).toNat))) : Is g v (a.take 30) := hv

set_option linter.unusedVariables false in
set_option linter.unusedSimpArgs false in
set_option maxHeartbeats 4000000 in
set_option maxRecDepth 100000 in
theorem few_any (a : List ByteArray) (va : Value) (g w : World) (sees : Sees g w) (h_a : Is g va a) : Ret Tryd.prog 12 #[va] w fun v w' => Is g v (a.take 30) ∧ Le w w' := by
  have ln_h_a := h_a.len_le
  have be0 := Below.refl w.heap.size w
  refine enter (args := [va]) Tryd.func12 rfl rfl rfl ?_
  refine C_seq ?_
  refine C_region ?_
  refine Rv (.slice none 0 0) w ?_
  refine wpR_nil ?_
  refine E_then_normal ?_
  refine C_seq ?_
  refine C_seq ?_
  refine C_region ?_
  refine Rv va w ?_
  refine Rw (.int .i64 (a.length : Int)) w (X_len (h_a.mono sees.mono) rfl Tryd.underlying26 rfl) ?_
  refine Rv (.bool (decide ((a.length : Int) > 30))) w ?_
  refine wpR_nil ?_
  refine E_then_normal ?_
  refine C_cond rfl (fun c1 => ?_) (fun c1 => ?_)
  · have d1 : (a.length : Int) > 30 := of_decide_eq_true c1
    refine C_seq ?_
    refine Cs [(5, (.bool (decide ((a.length : Int) > 30)))), (2, (.slice none 0 0)), (0, va)] ?_
    refine C_region ?_
    refine Rv va w ?_
    refine Rw (sliceV 1 va 0 30) w (X_slice (l := 0) (h := 30) (h_a.mono sees.mono) (by omega) (by omega) (by omega) rfl Tryd.underlying26 (by kernel_rfl) rfl (.inl ⟨rfl, rfl⟩) (.inr ⟨_, rfl, rfl⟩)) ?_
    refine Rv (sliceV 1 va 0 30) w ?_
    refine wpR_nil ?_
    refine E_then_normal ?_
    refine C_ret ?_
    refine E_then_ret ?_
    refine E_ret (res_one rfl rfl) ⟨_, rfl, ?_⟩
    exact ⟨(by first | exact few_short (by omega) (Is.slice (l := 0) (h := 30) h_a (by omega) (by omega) (by omega)) | exact few_long (Is.slice (l := 0) (h := 30) h_a (by omega) (by omega) (by omega))), be0⟩
  · have d1 : ¬ (a.length : Int) > 30 := of_decide_eq_false c1
    refine C_skip ?_
    refine E_then_normal ?_
    refine C_seq ?_
    refine Cs [(5, (.bool (decide ((a.length : Int) > 30)))), (2, (.slice none 0 0)), (0, va)] ?_
    refine C_region ?_
    refine Rv va w ?_
    refine Rv va w ?_
    refine wpR_nil ?_
    refine E_then_normal ?_
    refine C_ret ?_
    refine E_ret (res_one rfl rfl) ⟨_, rfl, ?_⟩
    exact ⟨(by first | exact few_short (by omega) h_a | exact few_long h_a), be0⟩
end Go.Proofs.YtepekaepgeekcaaDoor
