/- What the methods of layer 17 come to. (Printed by a program of mine.) -/
import Derived.Test.YtnmaehdklmgfmaaUpA
namespace Go.Proofs.Ytnmaehdklmgfmaa
open Go Go.RowKit Go.Lm
set_option linter.unusedVariables false in
set_option linter.unusedSimpArgs false in
set_option maxHeartbeats 4000000 in
set_option maxRecDepth 100000 in
theorem at_no (u mb : Nat) (q1 q2 nx : Int) (L : List (Int × LNode)) (r : Int) (g w : World) (sees : Sees g w)  (hU : UpR Try.prog uty g w u q1 q2 mb nx L) (wf_r : (Lit.int .i64 r).wf = true) (hr : getK L r = none) : Ret Try.prog 35 #[(ptr u 0), (.int .i64 r)] w fun v w' => v = .tuple #[(.pointer none), .int .i64 1] ∧ Le w w' := by
  have H := SL.start sees
  refine enter (args := [(ptr u 0), (.int .i64 r)]) Try.func35 rfl rfl rfl ?_
  refine C_seq ?_
  refine C_region ?_
  refine Rv (Go.Value.pointer none) w ?_
  refine Rv (.int .i64 0) w ?_
  refine wpR_nil ?_
  refine E_then_normal ?_
  refine C_seq ?_
  refine C_region ?_
  refine Rv (ptr u 0) w ?_
  refine Rv (ptr u 0) w ?_
  refine Rv (ptr u 2) w ?_
  refine S_load (run_load_one (hU.le H.toLe).ublk Try.underlying83 rfl rfl) rfl rfl rfl rfl rfl ?_
  refine Rv (.int .i64 r) w ?_
  refine Rw (.tuple #[(.pointer none), (.bool false)]) w (X_lookup rfl rfl rfl (by have hl := MapV.look true (hU.le H.toLe).map kI Try.underlying83 (z := (.pointer none)) (by kernel_rfl) r wf_r; rw [getK_ptrs, hr] at hl; exact hl)) ?_
  refine Rv (.tuple #[(.pointer none), (.bool false)]) w ?_
  refine Rv (.pointer none) w ?_
  refine Rv (.bool false) w ?_
  refine Rv (.pointer none) w ?_
  refine Rv (.bool false) w ?_
  refine wpR_nil ?_
  refine E_then_normal ?_
  refine C_seq ?_
  refine C_seq ?_
  refine Cs [(7, (.bool false)), (6, (.pointer none)), (5, (.int .i64 0)), (4, (Go.Value.pointer none)), (0, (ptr u 0)), (1, (.int .i64 r))] ?_
  refine C_region ?_
  refine Rv (.bool false) w ?_
  refine Rv (.bool true) w ?_
  refine wpR_nil ?_
  refine E_then_normal ?_
  refine C_true rfl ?_
  refine C_seq ?_
  refine Cs [(18, (.bool true)), (7, (.bool false)), (6, (.pointer none)), (5, (.int .i64 0)), (4, (Go.Value.pointer none)), (0, (ptr u 0)), (1, (.int .i64 r))] ?_
  refine C_region ?_
  refine Rv (Go.Value.pointer none) w ?_
  refine Rv (.int .i64 1) w ?_
  refine wpR_nil ?_
  refine E_then_normal ?_
  refine C_ret ?_
  refine E_then_ret ?_
  refine E_ret (res_two rfl rfl rfl) ⟨_, rfl, ?_⟩
  exact ⟨rfl, H.toLe⟩

set_option linter.unusedVariables false in
set_option linter.unusedSimpArgs false in
set_option maxHeartbeats 4000000 in
set_option maxRecDepth 100000 in
theorem at_yes (u mb : Nat) (q1 q2 nx : Int) (L : List (Int × LNode)) (r : Int) (n : LNode) (g w : World) (sees : Sees g w)  (hU : UpR Try.prog uty g w u q1 q2 mb nx L) (wf_r : (Lit.int .i64 r).wf = true) (hr : getK L r = some n) : Ret Try.prog 35 #[(ptr u 0), (.int .i64 r)] w fun v w' => v = .tuple #[ptr n.blk 0, .int .i64 0] ∧ Le w w' := by
  have H := SL.start sees
  obtain ⟨l1_n, l2_n, l3_n, l4_n⟩ := (hU.nodes _ _ hr).lens
  refine enter (args := [(ptr u 0), (.int .i64 r)]) Try.func35 rfl rfl rfl ?_
  refine C_seq ?_
  refine C_region ?_
  refine Rv (Go.Value.pointer none) w ?_
  refine Rv (.int .i64 0) w ?_
  refine wpR_nil ?_
  refine E_then_normal ?_
  refine C_seq ?_
  refine C_region ?_
  refine Rv (ptr u 0) w ?_
  refine Rv (ptr u 0) w ?_
  refine Rv (ptr u 2) w ?_
  refine S_load (run_load_one (hU.le H.toLe).ublk Try.underlying83 rfl rfl) rfl rfl rfl rfl rfl ?_
  refine Rv (.int .i64 r) w ?_
  refine Rw (.tuple #[(ptr n.blk 0), (.bool true)]) w (X_lookup rfl rfl rfl (by have hl := MapV.look true (hU.le H.toLe).map kI Try.underlying83 (z := (.pointer none)) (by kernel_rfl) r wf_r; rw [getK_ptrs, hr] at hl; exact hl)) ?_
  refine Rv (.tuple #[(ptr n.blk 0), (.bool true)]) w ?_
  refine Rv (ptr n.blk 0) w ?_
  refine Rv (.bool true) w ?_
  refine Rv (ptr n.blk 0) w ?_
  refine Rv (.bool true) w ?_
  refine wpR_nil ?_
  refine E_then_normal ?_
  refine C_seq ?_
  refine C_seq ?_
  refine Cs [(7, (.bool true)), (6, (ptr n.blk 0)), (5, (.int .i64 0)), (4, (Go.Value.pointer none)), (0, (ptr u 0)), (1, (.int .i64 r))] ?_
  refine C_region ?_
  refine Rv (.bool true) w ?_
  refine Rv (.bool false) w ?_
  refine wpR_nil ?_
  refine E_then_normal ?_
  refine C_false rfl ?_
  refine C_skip ?_
  refine E_then_normal ?_
  refine C_seq ?_
  refine Cs [(18, (.bool false)), (7, (.bool true)), (6, (ptr n.blk 0)), (5, (.int .i64 0)), (4, (Go.Value.pointer none)), (0, (ptr u 0)), (1, (.int .i64 r))] ?_
  refine C_region ?_
  refine Rv (ptr n.blk 0) w ?_
  refine Rv (ptr n.blk 0) w ?_
  refine Rv (.int .i64 0) w ?_
  refine wpR_nil ?_
  refine E_then_normal ?_
  refine C_ret ?_
  refine E_ret (res_two rfl rfl rfl) ⟨_, rfl, ?_⟩
  exact ⟨rfl, H.toLe⟩

set_option linter.unusedVariables false in
set_option linter.unusedSimpArgs false in
set_option maxHeartbeats 4000000 in
set_option maxRecDepth 100000 in
theorem dir_no (u mb : Nat) (q1 q2 nx : Int) (L : List (Int × LNode)) (r : Int) (g w : World) (sees : Sees g w)  (hU : UpR Try.prog uty g w u q1 q2 mb nx L) (wf_r : (Lit.int .i64 r).wf = true) (hr : getK L r = none) : Ret Try.prog 37 #[(ptr u 0), (.int .i64 r)] w fun v w' => v = .tuple #[(.pointer none), .int .i64 1] ∧ Le w w' := by
  have H := SL.start sees
  refine enter (args := [(ptr u 0), (.int .i64 r)]) Try.func37 rfl rfl rfl ?_
  refine C_seq ?_
  refine C_region ?_
  refine Rv (Go.Value.pointer none) w ?_
  refine Rv (.int .i64 0) w ?_
  refine wpR_nil ?_
  refine E_then_normal ?_
  refine C_seq ?_
  refine C_region ?_
  refine Rv (ptr u 0) w ?_
  refine Rv (.int .i64 r) w ?_
  refine Rc #[(ptr u 0), (.int .i64 r)] w (at_no u mb q1 q2 nx L r _ _ H.sees (hU.le H.toLe) wf_r hr) ?_
  rintro _ w1 ⟨rfl, l1⟩
  replace H := H.le l1
  refine Rv (.tuple #[(.pointer none), (.int .i64 1)]) w1 ?_
  refine Rv (.pointer none) w1 ?_
  refine Rv (.int .i64 1) w1 ?_
  refine Rv (.pointer none) w1 ?_
  refine Rv (.int .i64 1) w1 ?_
  refine wpR_nil ?_
  refine E_then_normal ?_
  refine C_seq ?_
  refine C_seq ?_
  refine Cs [(7, (.int .i64 1)), (6, (.pointer none)), (5, (.int .i64 0)), (4, (Go.Value.pointer none)), (0, (ptr u 0)), (1, (.int .i64 r))] ?_
  refine C_region ?_
  refine Rv (.int .i64 1) w1 ?_
  refine Rv (.bool false) w1 ?_
  refine Rv (.bool false) w1 ?_
  iterate 6 refine Rs ?_
  refine Rv (.bool false) w1 ?_
  refine wpR_nil ?_
  refine E_then_normal ?_
  refine C_false rfl ?_
  refine C_skip ?_
  refine E_then_normal ?_
  refine C_seq ?_
  refine Cs [(23, (.bool false)), (7, (.int .i64 1)), (6, (.pointer none)), (5, (.int .i64 0)), (4, (Go.Value.pointer none)), (0, (ptr u 0)), (1, (.int .i64 r))] ?_
  refine C_region ?_
  refine Rv (.pointer none) w1 ?_
  refine Rv (.int .i64 1) w1 ?_
  refine Rv (.pointer none) w1 ?_
  refine Rv (.int .i64 1) w1 ?_
  refine wpR_nil ?_
  refine E_then_normal ?_
  refine C_ret ?_
  refine E_ret (res_two rfl rfl rfl) ⟨_, rfl, ?_⟩
  exact ⟨rfl, H.toLe⟩

set_option linter.unusedVariables false in
set_option linter.unusedSimpArgs false in
set_option maxHeartbeats 4000000 in
set_option maxRecDepth 100000 in
theorem dir_bad (u mb : Nat) (q1 q2 nx : Int) (L : List (Int × LNode)) (r : Int) (n : LNode) (g w : World) (sees : Sees g w)  (hU : UpR Try.prog uty g w u q1 q2 mb nx L) (wf_r : (Lit.int .i64 r).wf = true) (hr : getK L r = some n) (hk : (n.kind == 1) = false) : Ret Try.prog 37 #[(ptr u 0), (.int .i64 r)] w fun v w' => v = .tuple #[ptr n.blk 0, .int .i64 24] ∧ Le w w' := by
  have H := SL.start sees
  obtain ⟨l1_n, l2_n, l3_n, l4_n⟩ := (hU.nodes _ _ hr).lens
  refine enter (args := [(ptr u 0), (.int .i64 r)]) Try.func37 rfl rfl rfl ?_
  refine C_seq ?_
  refine C_region ?_
  refine Rv (Go.Value.pointer none) w ?_
  refine Rv (.int .i64 0) w ?_
  refine wpR_nil ?_
  refine E_then_normal ?_
  refine C_seq ?_
  refine C_region ?_
  refine Rv (ptr u 0) w ?_
  refine Rv (.int .i64 r) w ?_
  refine Rc #[(ptr u 0), (.int .i64 r)] w (at_yes u mb q1 q2 nx L r n _ _ H.sees (hU.le H.toLe) wf_r hr) ?_
  rintro _ w1 ⟨rfl, l1⟩
  replace H := H.le l1
  refine Rv (.tuple #[(ptr n.blk 0), (.int .i64 0)]) w1 ?_
  refine Rv (ptr n.blk 0) w1 ?_
  refine Rv (.int .i64 0) w1 ?_
  refine Rv (ptr n.blk 0) w1 ?_
  refine Rv (.int .i64 0) w1 ?_
  refine wpR_nil ?_
  refine E_then_normal ?_
  refine C_seq ?_
  refine C_seq ?_
  refine Cs [(7, (.int .i64 0)), (6, (ptr n.blk 0)), (5, (.int .i64 0)), (4, (Go.Value.pointer none)), (0, (ptr u 0)), (1, (.int .i64 r))] ?_
  refine C_region ?_
  refine Rv (.int .i64 0) w1 ?_
  refine Rv (.bool true) w1 ?_
  refine Rv (.bool true) w1 ?_
  refine Rv (ptr n.blk 0) w1 ?_
  refine Rv (ptr n.blk 0) w1 ?_
  refine Rv (ptr n.blk 0) w1 ?_
  refine Rv (ptr n.blk 2) w1 ?_
  refine S_load (run_load_one ((hU.le H.toLe).nodes _ _ hr).blk Try.underlying3 rfl rfl) rfl rfl rfl rfl rfl ?_
  refine Rw (.bool true) w1 (eq_bool (by kernel_rfl) (congrArg Bool.not hk)) ?_
  refine Rv (.bool true) w1 ?_
  refine wpR_nil ?_
  refine E_then_normal ?_
  refine C_true rfl ?_
  refine Cs [(23, (.bool true)), (7, (.int .i64 0)), (6, (ptr n.blk 0)), (5, (.int .i64 0)), (4, (Go.Value.pointer none)), (0, (ptr u 0)), (1, (.int .i64 r))] ?_
  refine C_region ?_
  refine Rv (.int .i64 24) w1 ?_
  refine wpR_nil ?_
  refine E_then_normal ?_
  refine C_seq ?_
  refine Cs [(7, (.int .i64 24)), (23, (.bool true)), (6, (ptr n.blk 0)), (5, (.int .i64 0)), (4, (Go.Value.pointer none)), (0, (ptr u 0)), (1, (.int .i64 r))] ?_
  refine C_region ?_
  refine Rv (ptr n.blk 0) w1 ?_
  refine Rv (.int .i64 24) w1 ?_
  refine Rv (ptr n.blk 0) w1 ?_
  refine Rv (.int .i64 24) w1 ?_
  refine wpR_nil ?_
  refine E_then_normal ?_
  refine C_ret ?_
  refine E_ret (res_two rfl rfl rfl) ⟨_, rfl, ?_⟩
  exact ⟨rfl, H.toLe⟩

set_option linter.unusedVariables false in
set_option linter.unusedSimpArgs false in
set_option maxHeartbeats 4000000 in
set_option maxRecDepth 100000 in
theorem dir_yes (u mb : Nat) (q1 q2 nx : Int) (L : List (Int × LNode)) (r : Int) (n : LNode) (g w : World) (sees : Sees g w)  (hU : UpR Try.prog uty g w u q1 q2 mb nx L) (wf_r : (Lit.int .i64 r).wf = true) (hr : getK L r = some n) (hk : (n.kind == 1) = true) : Ret Try.prog 37 #[(ptr u 0), (.int .i64 r)] w fun v w' => v = .tuple #[ptr n.blk 0, .int .i64 0] ∧ Le w w' := by
  have H := SL.start sees
  obtain ⟨l1_n, l2_n, l3_n, l4_n⟩ := (hU.nodes _ _ hr).lens
  refine enter (args := [(ptr u 0), (.int .i64 r)]) Try.func37 rfl rfl rfl ?_
  refine C_seq ?_
  refine C_region ?_
  refine Rv (Go.Value.pointer none) w ?_
  refine Rv (.int .i64 0) w ?_
  refine wpR_nil ?_
  refine E_then_normal ?_
  refine C_seq ?_
  refine C_region ?_
  refine Rv (ptr u 0) w ?_
  refine Rv (.int .i64 r) w ?_
  refine Rc #[(ptr u 0), (.int .i64 r)] w (at_yes u mb q1 q2 nx L r n _ _ H.sees (hU.le H.toLe) wf_r hr) ?_
  rintro _ w1 ⟨rfl, l1⟩
  replace H := H.le l1
  refine Rv (.tuple #[(ptr n.blk 0), (.int .i64 0)]) w1 ?_
  refine Rv (ptr n.blk 0) w1 ?_
  refine Rv (.int .i64 0) w1 ?_
  refine Rv (ptr n.blk 0) w1 ?_
  refine Rv (.int .i64 0) w1 ?_
  refine wpR_nil ?_
  refine E_then_normal ?_
  refine C_seq ?_
  refine C_seq ?_
  refine Cs [(7, (.int .i64 0)), (6, (ptr n.blk 0)), (5, (.int .i64 0)), (4, (Go.Value.pointer none)), (0, (ptr u 0)), (1, (.int .i64 r))] ?_
  refine C_region ?_
  refine Rv (.int .i64 0) w1 ?_
  refine Rv (.bool true) w1 ?_
  refine Rv (.bool true) w1 ?_
  refine Rv (ptr n.blk 0) w1 ?_
  refine Rv (ptr n.blk 0) w1 ?_
  refine Rv (ptr n.blk 0) w1 ?_
  refine Rv (ptr n.blk 2) w1 ?_
  refine S_load (run_load_one ((hU.le H.toLe).nodes _ _ hr).blk Try.underlying3 rfl rfl) rfl rfl rfl rfl rfl ?_
  refine Rw (.bool false) w1 (eq_bool (by kernel_rfl) (congrArg Bool.not hk)) ?_
  refine Rv (.bool false) w1 ?_
  refine wpR_nil ?_
  refine E_then_normal ?_
  refine C_false rfl ?_
  refine C_skip ?_
  refine E_then_normal ?_
  refine C_seq ?_
  refine Cs [(23, (.bool false)), (7, (.int .i64 0)), (6, (ptr n.blk 0)), (5, (.int .i64 0)), (4, (Go.Value.pointer none)), (0, (ptr u 0)), (1, (.int .i64 r))] ?_
  refine C_region ?_
  refine Rv (ptr n.blk 0) w1 ?_
  refine Rv (.int .i64 0) w1 ?_
  refine Rv (ptr n.blk 0) w1 ?_
  refine Rv (.int .i64 0) w1 ?_
  refine wpR_nil ?_
  refine E_then_normal ?_
  refine C_ret ?_
  refine E_ret (res_two rfl rfl rfl) ⟨_, rfl, ?_⟩
  exact ⟨rfl, H.toLe⟩

set_option linter.unusedVariables false in
set_option linter.unusedSimpArgs false in
set_option maxHeartbeats 4000000 in
set_option maxRecDepth 100000 in
theorem file_no (u mb : Nat) (q1 q2 nx : Int) (L : List (Int × LNode)) (r : Int) (g w : World) (sees : Sees g w)  (hU : UpR Try.prog uty g w u q1 q2 mb nx L) (wf_r : (Lit.int .i64 r).wf = true) (hr : getK L r = none) : Ret Try.prog 39 #[(ptr u 0), (.int .i64 r)] w fun v w' => v = .tuple #[(.pointer none), .int .i64 1] ∧ Le w w' := by
  have H := SL.start sees
  refine enter (args := [(ptr u 0), (.int .i64 r)]) Try.func39 rfl rfl rfl ?_
  refine C_seq ?_
  refine C_region ?_
  refine Rv (Go.Value.pointer none) w ?_
  refine Rv (.int .i64 0) w ?_
  refine wpR_nil ?_
  refine E_then_normal ?_
  refine C_seq ?_
  refine C_region ?_
  refine Rv (ptr u 0) w ?_
  refine Rv (.int .i64 r) w ?_
  refine Rc #[(ptr u 0), (.int .i64 r)] w (at_no u mb q1 q2 nx L r _ _ H.sees (hU.le H.toLe) wf_r hr) ?_
  rintro _ w1 ⟨rfl, l1⟩
  replace H := H.le l1
  refine Rv (.tuple #[(.pointer none), (.int .i64 1)]) w1 ?_
  refine Rv (.pointer none) w1 ?_
  refine Rv (.int .i64 1) w1 ?_
  refine Rv (.pointer none) w1 ?_
  refine Rv (.int .i64 1) w1 ?_
  refine wpR_nil ?_
  refine E_then_normal ?_
  refine C_seq ?_
  refine C_block ?_
  refine C_seq ?_
  refine Cs [(7, (.int .i64 1)), (6, (.pointer none)), (5, (.int .i64 0)), (4, (Go.Value.pointer none)), (0, (ptr u 0)), (1, (.int .i64 r))] ?_
  refine C_region ?_
  refine Rv (.int .i64 1) w1 ?_
  refine Rv (.bool true) w1 ?_
  refine Rv (.bool true) w1 ?_
  refine wpR_nil ?_
  refine E_then_normal ?_
  refine C_true rfl ?_
  refine C_skip ?_
  refine E_block_normal ?_
  refine E_then_normal ?_
  refine C_seq ?_
  refine Cs [(14, (.bool true)), (7, (.int .i64 1)), (6, (.pointer none)), (5, (.int .i64 0)), (4, (Go.Value.pointer none)), (0, (ptr u 0)), (1, (.int .i64 r))] ?_
  refine C_region ?_
  refine Rv (.pointer none) w1 ?_
  refine Rv (.int .i64 1) w1 ?_
  refine Rv (.pointer none) w1 ?_
  refine Rv (.int .i64 1) w1 ?_
  refine wpR_nil ?_
  refine E_then_normal ?_
  refine C_ret ?_
  refine E_ret (res_two rfl rfl rfl) ⟨_, rfl, ?_⟩
  exact ⟨rfl, H.toLe⟩

set_option linter.unusedVariables false in
set_option linter.unusedSimpArgs false in
set_option maxHeartbeats 4000000 in
set_option maxRecDepth 100000 in
theorem file_dir (u mb : Nat) (q1 q2 nx : Int) (L : List (Int × LNode)) (r : Int) (n : LNode) (g w : World) (sees : Sees g w)  (hU : UpR Try.prog uty g w u q1 q2 mb nx L) (wf_r : (Lit.int .i64 r).wf = true) (hr : getK L r = some n) (hk : (n.kind == 1) = true) : Ret Try.prog 39 #[(ptr u 0), (.int .i64 r)] w fun v w' => v = .tuple #[ptr n.blk 0, .int .i64 25] ∧ Le w w' := by
  have H := SL.start sees
  obtain ⟨l1_n, l2_n, l3_n, l4_n⟩ := (hU.nodes _ _ hr).lens
  refine enter (args := [(ptr u 0), (.int .i64 r)]) Try.func39 rfl rfl rfl ?_
  refine C_seq ?_
  refine C_region ?_
  refine Rv (Go.Value.pointer none) w ?_
  refine Rv (.int .i64 0) w ?_
  refine wpR_nil ?_
  refine E_then_normal ?_
  refine C_seq ?_
  refine C_region ?_
  refine Rv (ptr u 0) w ?_
  refine Rv (.int .i64 r) w ?_
  refine Rc #[(ptr u 0), (.int .i64 r)] w (at_yes u mb q1 q2 nx L r n _ _ H.sees (hU.le H.toLe) wf_r hr) ?_
  rintro _ w1 ⟨rfl, l1⟩
  replace H := H.le l1
  refine Rv (.tuple #[(ptr n.blk 0), (.int .i64 0)]) w1 ?_
  refine Rv (ptr n.blk 0) w1 ?_
  refine Rv (.int .i64 0) w1 ?_
  refine Rv (ptr n.blk 0) w1 ?_
  refine Rv (.int .i64 0) w1 ?_
  refine wpR_nil ?_
  refine E_then_normal ?_
  refine C_seq ?_
  refine C_block ?_
  refine C_seq ?_
  refine Cs [(7, (.int .i64 0)), (6, (ptr n.blk 0)), (5, (.int .i64 0)), (4, (Go.Value.pointer none)), (0, (ptr u 0)), (1, (.int .i64 r))] ?_
  refine C_region ?_
  refine Rv (.int .i64 0) w1 ?_
  refine Rv (.bool false) w1 ?_
  refine Rv (.bool false) w1 ?_
  refine wpR_nil ?_
  refine E_then_normal ?_
  refine C_false rfl ?_
  refine C_seq ?_
  refine Cs [(14, (.bool false)), (7, (.int .i64 0)), (6, (ptr n.blk 0)), (5, (.int .i64 0)), (4, (Go.Value.pointer none)), (0, (ptr u 0)), (1, (.int .i64 r))] ?_
  refine C_region ?_
  refine Rv (ptr n.blk 0) w1 ?_
  refine Rv (ptr n.blk 0) w1 ?_
  refine Rv (ptr n.blk 0) w1 ?_
  refine Rv (ptr n.blk 2) w1 ?_
  refine S_load (run_load_one ((hU.le H.toLe).nodes _ _ hr).blk Try.underlying3 rfl rfl) rfl rfl rfl rfl rfl ?_
  refine Rw (.bool true) w1 (eq_bool (by kernel_rfl) hk) ?_
  refine Rv (.bool true) w1 ?_
  refine wpR_nil ?_
  refine E_then_normal ?_
  refine C_true rfl ?_
  refine Cs [(17, (.bool true)), (14, (.bool false)), (7, (.int .i64 0)), (6, (ptr n.blk 0)), (5, (.int .i64 0)), (4, (Go.Value.pointer none)), (0, (ptr u 0)), (1, (.int .i64 r))] ?_
  refine C_region ?_
  refine Rv (.int .i64 25) w1 ?_
  refine wpR_nil ?_
  refine E_block_normal ?_
  refine E_then_normal ?_
  refine C_seq ?_
  refine Cs [(7, (.int .i64 25)), (17, (.bool true)), (14, (.bool false)), (6, (ptr n.blk 0)), (5, (.int .i64 0)), (4, (Go.Value.pointer none)), (0, (ptr u 0)), (1, (.int .i64 r))] ?_
  refine C_region ?_
  refine Rv (ptr n.blk 0) w1 ?_
  refine Rv (.int .i64 25) w1 ?_
  refine Rv (ptr n.blk 0) w1 ?_
  refine Rv (.int .i64 25) w1 ?_
  refine wpR_nil ?_
  refine E_then_normal ?_
  refine C_ret ?_
  refine E_ret (res_two rfl rfl rfl) ⟨_, rfl, ?_⟩
  exact ⟨rfl, H.toLe⟩

set_option linter.unusedVariables false in
set_option linter.unusedSimpArgs false in
set_option maxHeartbeats 4000000 in
set_option maxRecDepth 100000 in
theorem file_bad (u mb : Nat) (q1 q2 nx : Int) (L : List (Int × LNode)) (r : Int) (n : LNode) (g w : World) (sees : Sees g w)  (hU : UpR Try.prog uty g w u q1 q2 mb nx L) (wf_r : (Lit.int .i64 r).wf = true) (hr : getK L r = some n) (hk : (n.kind == 1) = false) (hk2 : (n.kind == 2) = false) : Ret Try.prog 39 #[(ptr u 0), (.int .i64 r)] w fun v w' => v = .tuple #[ptr n.blk 0, .int .i64 1] ∧ Le w w' := by
  have H := SL.start sees
  obtain ⟨l1_n, l2_n, l3_n, l4_n⟩ := (hU.nodes _ _ hr).lens
  refine enter (args := [(ptr u 0), (.int .i64 r)]) Try.func39 rfl rfl rfl ?_
  refine C_seq ?_
  refine C_region ?_
  refine Rv (Go.Value.pointer none) w ?_
  refine Rv (.int .i64 0) w ?_
  refine wpR_nil ?_
  refine E_then_normal ?_
  refine C_seq ?_
  refine C_region ?_
  refine Rv (ptr u 0) w ?_
  refine Rv (.int .i64 r) w ?_
  refine Rc #[(ptr u 0), (.int .i64 r)] w (at_yes u mb q1 q2 nx L r n _ _ H.sees (hU.le H.toLe) wf_r hr) ?_
  rintro _ w1 ⟨rfl, l1⟩
  replace H := H.le l1
  refine Rv (.tuple #[(ptr n.blk 0), (.int .i64 0)]) w1 ?_
  refine Rv (ptr n.blk 0) w1 ?_
  refine Rv (.int .i64 0) w1 ?_
  refine Rv (ptr n.blk 0) w1 ?_
  refine Rv (.int .i64 0) w1 ?_
  refine wpR_nil ?_
  refine E_then_normal ?_
  refine C_seq ?_
  refine C_block ?_
  refine C_seq ?_
  refine Cs [(7, (.int .i64 0)), (6, (ptr n.blk 0)), (5, (.int .i64 0)), (4, (Go.Value.pointer none)), (0, (ptr u 0)), (1, (.int .i64 r))] ?_
  refine C_region ?_
  refine Rv (.int .i64 0) w1 ?_
  refine Rv (.bool false) w1 ?_
  refine Rv (.bool false) w1 ?_
  refine wpR_nil ?_
  refine E_then_normal ?_
  refine C_false rfl ?_
  refine C_seq ?_
  refine Cs [(14, (.bool false)), (7, (.int .i64 0)), (6, (ptr n.blk 0)), (5, (.int .i64 0)), (4, (Go.Value.pointer none)), (0, (ptr u 0)), (1, (.int .i64 r))] ?_
  refine C_region ?_
  refine Rv (ptr n.blk 0) w1 ?_
  refine Rv (ptr n.blk 0) w1 ?_
  refine Rv (ptr n.blk 0) w1 ?_
  refine Rv (ptr n.blk 2) w1 ?_
  refine S_load (run_load_one ((hU.le H.toLe).nodes _ _ hr).blk Try.underlying3 rfl rfl) rfl rfl rfl rfl rfl ?_
  refine Rw (.bool false) w1 (eq_bool (by kernel_rfl) hk) ?_
  refine Rv (.bool false) w1 ?_
  refine wpR_nil ?_
  refine E_then_normal ?_
  refine C_false rfl ?_
  refine C_seq ?_
  refine Cs [(17, (.bool false)), (14, (.bool false)), (7, (.int .i64 0)), (6, (ptr n.blk 0)), (5, (.int .i64 0)), (4, (Go.Value.pointer none)), (0, (ptr u 0)), (1, (.int .i64 r))] ?_
  refine C_region ?_
  refine Rv (ptr n.blk 0) w1 ?_
  refine Rv (ptr n.blk 0) w1 ?_
  refine Rv (ptr n.blk 0) w1 ?_
  refine Rv (ptr n.blk 2) w1 ?_
  refine S_load (run_load_one ((hU.le H.toLe).nodes _ _ hr).blk Try.underlying3 rfl rfl) rfl rfl rfl rfl rfl ?_
  refine Rw (.bool true) w1 (eq_bool (by kernel_rfl) (congrArg Bool.not hk2)) ?_
  refine Rv (.bool true) w1 ?_
  refine wpR_nil ?_
  refine E_then_normal ?_
  refine C_true rfl ?_
  refine Cs [(24, (.bool true)), (17, (.bool false)), (14, (.bool false)), (7, (.int .i64 0)), (6, (ptr n.blk 0)), (5, (.int .i64 0)), (4, (Go.Value.pointer none)), (0, (ptr u 0)), (1, (.int .i64 r))] ?_
  refine C_region ?_
  refine Rv (.int .i64 1) w1 ?_
  refine wpR_nil ?_
  refine E_block_normal ?_
  refine E_then_normal ?_
  refine C_seq ?_
  refine Cs [(7, (.int .i64 1)), (24, (.bool true)), (17, (.bool false)), (14, (.bool false)), (6, (ptr n.blk 0)), (5, (.int .i64 0)), (4, (Go.Value.pointer none)), (0, (ptr u 0)), (1, (.int .i64 r))] ?_
  refine C_region ?_
  refine Rv (ptr n.blk 0) w1 ?_
  refine Rv (.int .i64 1) w1 ?_
  refine Rv (ptr n.blk 0) w1 ?_
  refine Rv (.int .i64 1) w1 ?_
  refine wpR_nil ?_
  refine E_then_normal ?_
  refine C_ret ?_
  refine E_ret (res_two rfl rfl rfl) ⟨_, rfl, ?_⟩
  exact ⟨rfl, H.toLe⟩

set_option linter.unusedVariables false in
set_option linter.unusedSimpArgs false in
set_option maxHeartbeats 4000000 in
set_option maxRecDepth 100000 in
theorem file_yes (u mb : Nat) (q1 q2 nx : Int) (L : List (Int × LNode)) (r : Int) (n : LNode) (g w : World) (sees : Sees g w)  (hU : UpR Try.prog uty g w u q1 q2 mb nx L) (wf_r : (Lit.int .i64 r).wf = true) (hr : getK L r = some n) (hk : (n.kind == 2) = true) : Ret Try.prog 39 #[(ptr u 0), (.int .i64 r)] w fun v w' => v = .tuple #[ptr n.blk 0, .int .i64 0] ∧ Le w w' := by
  have H := SL.start sees
  obtain ⟨l1_n, l2_n, l3_n, l4_n⟩ := (hU.nodes _ _ hr).lens
  refine enter (args := [(ptr u 0), (.int .i64 r)]) Try.func39 rfl rfl rfl ?_
  refine C_seq ?_
  refine C_region ?_
  refine Rv (Go.Value.pointer none) w ?_
  refine Rv (.int .i64 0) w ?_
  refine wpR_nil ?_
  refine E_then_normal ?_
  refine C_seq ?_
  refine C_region ?_
  refine Rv (ptr u 0) w ?_
  refine Rv (.int .i64 r) w ?_
  refine Rc #[(ptr u 0), (.int .i64 r)] w (at_yes u mb q1 q2 nx L r n _ _ H.sees (hU.le H.toLe) wf_r hr) ?_
  rintro _ w1 ⟨rfl, l1⟩
  replace H := H.le l1
  refine Rv (.tuple #[(ptr n.blk 0), (.int .i64 0)]) w1 ?_
  refine Rv (ptr n.blk 0) w1 ?_
  refine Rv (.int .i64 0) w1 ?_
  refine Rv (ptr n.blk 0) w1 ?_
  refine Rv (.int .i64 0) w1 ?_
  refine wpR_nil ?_
  refine E_then_normal ?_
  refine C_seq ?_
  refine C_block ?_
  refine C_seq ?_
  refine Cs [(7, (.int .i64 0)), (6, (ptr n.blk 0)), (5, (.int .i64 0)), (4, (Go.Value.pointer none)), (0, (ptr u 0)), (1, (.int .i64 r))] ?_
  refine C_region ?_
  refine Rv (.int .i64 0) w1 ?_
  refine Rv (.bool false) w1 ?_
  refine Rv (.bool false) w1 ?_
  refine wpR_nil ?_
  refine E_then_normal ?_
  refine C_false rfl ?_
  refine C_seq ?_
  refine Cs [(14, (.bool false)), (7, (.int .i64 0)), (6, (ptr n.blk 0)), (5, (.int .i64 0)), (4, (Go.Value.pointer none)), (0, (ptr u 0)), (1, (.int .i64 r))] ?_
  refine C_region ?_
  refine Rv (ptr n.blk 0) w1 ?_
  refine Rv (ptr n.blk 0) w1 ?_
  refine Rv (ptr n.blk 0) w1 ?_
  refine Rv (ptr n.blk 2) w1 ?_
  refine S_load (run_load_one ((hU.le H.toLe).nodes _ _ hr).blk Try.underlying3 rfl rfl) rfl rfl rfl rfl rfl ?_
  refine Rw (.bool false) w1 (eq_bool (by kernel_rfl) (beq_of_eq (c := 1) hk (by decide))) ?_
  refine Rv (.bool false) w1 ?_
  refine wpR_nil ?_
  refine E_then_normal ?_
  refine C_false rfl ?_
  refine C_seq ?_
  refine Cs [(17, (.bool false)), (14, (.bool false)), (7, (.int .i64 0)), (6, (ptr n.blk 0)), (5, (.int .i64 0)), (4, (Go.Value.pointer none)), (0, (ptr u 0)), (1, (.int .i64 r))] ?_
  refine C_region ?_
  refine Rv (ptr n.blk 0) w1 ?_
  refine Rv (ptr n.blk 0) w1 ?_
  refine Rv (ptr n.blk 0) w1 ?_
  refine Rv (ptr n.blk 2) w1 ?_
  refine S_load (run_load_one ((hU.le H.toLe).nodes _ _ hr).blk Try.underlying3 rfl rfl) rfl rfl rfl rfl rfl ?_
  refine Rw (.bool false) w1 (eq_bool (by kernel_rfl) (congrArg Bool.not hk)) ?_
  refine Rv (.bool false) w1 ?_
  refine wpR_nil ?_
  refine E_then_normal ?_
  refine C_false rfl ?_
  refine C_skip ?_
  refine E_block_normal ?_
  refine E_then_normal ?_
  refine C_seq ?_
  refine Cs [(24, (.bool false)), (17, (.bool false)), (14, (.bool false)), (7, (.int .i64 0)), (6, (ptr n.blk 0)), (5, (.int .i64 0)), (4, (Go.Value.pointer none)), (0, (ptr u 0)), (1, (.int .i64 r))] ?_
  refine C_region ?_
  refine Rv (ptr n.blk 0) w1 ?_
  refine Rv (.int .i64 0) w1 ?_
  refine Rv (ptr n.blk 0) w1 ?_
  refine Rv (.int .i64 0) w1 ?_
  refine wpR_nil ?_
  refine E_then_normal ?_
  refine C_ret ?_
  refine E_ret (res_two rfl rfl rfl) ⟨_, rfl, ?_⟩
  exact ⟨rfl, H.toLe⟩

set_option linter.unusedVariables false in
set_option linter.unusedSimpArgs false in
set_option maxHeartbeats 4000000 in
set_option maxRecDepth 100000 in
theorem fresh_no (u mb : Nat) (q1 q2 nx : Int) (L : List (Int × LNode)) (d : Int) (s : ByteArray) (g w : World) (sees : Sees g w)  (hU : UpR Try.prog uty g w u q1 q2 mb nx L) (wf_d : (Lit.int .i64 d).wf = true) (hs : s.size ≤ 9223372036854775807) (hf : ¬ freshE L d s = 0) : Ret Try.prog 31 #[(ptr u 0), (.int .i64 d), (.string s)] w fun v w' => v = .tuple #[(.pointer none), .int .i64 (freshE L d s)] ∧ Le w w' := by
  have H := SL.start sees
  refine enter (args := [(ptr u 0), (.int .i64 d), (.string s)]) Try.func31 rfl rfl rfl ?_
  refine C_seq ?_
  refine C_region ?_
  refine Rv (Go.Value.pointer none) w ?_
  refine Rv (.int .i64 0) w ?_
  refine wpR_nil ?_
  refine E_then_normal ?_
  refine C_seq ?_
  refine C_region ?_
  refine Rv (ptr u 0) w ?_
  refine Rv (.int .i64 d) w ?_
  rcases hr1 : getK L d with _ | n1
  · refine Rc #[(ptr u 0), (.int .i64 d)] w (dir_no u mb q1 q2 nx L d _ _ H.sees (hU.le H.toLe) wf_d hr1 ) ?_
    rintro _ w1 ⟨rfl, l1⟩
    replace H := H.le l1
    refine Rv (.tuple #[(.pointer none), (.int .i64 1)]) w1 ?_
    refine Rv (.pointer none) w1 ?_
    refine Rv (.int .i64 1) w1 ?_
    refine Rv (.pointer none) w1 ?_
    refine Rv (.int .i64 1) w1 ?_
    refine wpR_nil ?_
    refine E_then_normal ?_
    refine C_seq ?_
    refine C_seq ?_
    refine Cs [(9, (.int .i64 1)), (8, (.pointer none)), (7, (.int .i64 0)), (6, (Go.Value.pointer none)), (0, (ptr u 0)), (1, (.int .i64 d)), (2, (.string s))] ?_
    refine C_region ?_
    refine Rv (.int .i64 1) w1 ?_
    refine Rv (.bool false) w1 ?_
    refine wpR_nil ?_
    refine E_then_normal ?_
    refine C_false rfl ?_
    refine C_skip ?_
    refine E_then_normal ?_
    refine C_seq ?_
    refine C_seq ?_
    refine Cs [(19, (.bool false)), (9, (.int .i64 1)), (8, (.pointer none)), (7, (.int .i64 0)), (6, (Go.Value.pointer none)), (0, (ptr u 0)), (1, (.int .i64 d)), (2, (.string s))] ?_
    refine C_region ?_
    refine Rv (.int .i64 1) w1 ?_
    refine Rv (.bool true) w1 ?_
    refine wpR_nil ?_
    refine E_then_normal ?_
    refine C_true rfl ?_
    refine C_seq ?_
    refine Cs [(23, (.bool true)), (19, (.bool false)), (9, (.int .i64 1)), (8, (.pointer none)), (7, (.int .i64 0)), (6, (Go.Value.pointer none)), (0, (ptr u 0)), (1, (.int .i64 d)), (2, (.string s))] ?_
    refine C_region ?_
    refine Rv (.int .i64 1) w1 ?_
    refine Rv (Go.Value.pointer none) w1 ?_
    refine Rv (.int .i64 1) w1 ?_
    refine wpR_nil ?_
    refine E_then_normal ?_
    refine C_ret ?_
    refine E_then_ret ?_
    refine E_ret (res_two rfl rfl rfl) ⟨_, rfl, ?_⟩
    exact ⟨congrArg (fun x => Value.tuple #[.pointer none, .int .i64 x]) (by unfold freshE; simp_all), H.toLe⟩
  · obtain ⟨l1_n1, l2_n1, l3_n1, l4_n1⟩ := ((hU.le H.toLe).nodes _ _ hr1).lens
    rcases Bool.eq_false_or_eq_true (n1.kind == 1) with c1 | c1
    · have d1 : n1.kind = 1 := eq_of_beq c1
      refine Rc #[(ptr u 0), (.int .i64 d)] w (dir_yes u mb q1 q2 nx L d n1 _ _ H.sees (hU.le H.toLe) wf_d hr1 c1) ?_
      rintro _ w2 ⟨rfl, l2⟩
      replace H := H.le l2
      refine Rv (.tuple #[(ptr n1.blk 0), (.int .i64 0)]) w2 ?_
      refine Rv (ptr n1.blk 0) w2 ?_
      refine Rv (.int .i64 0) w2 ?_
      refine Rv (ptr n1.blk 0) w2 ?_
      refine Rv (.int .i64 0) w2 ?_
      refine wpR_nil ?_
      refine E_then_normal ?_
      refine C_seq ?_
      refine C_seq ?_
      refine Cs [(9, (.int .i64 0)), (8, (ptr n1.blk 0)), (7, (.int .i64 0)), (6, (Go.Value.pointer none)), (0, (ptr u 0)), (1, (.int .i64 d)), (2, (.string s))] ?_
      refine C_region ?_
      refine Rv (.int .i64 0) w2 ?_
      refine Rv (.bool true) w2 ?_
      refine wpR_nil ?_
      refine E_then_normal ?_
      refine C_true rfl ?_
      refine Cs [(19, (.bool true)), (9, (.int .i64 0)), (8, (ptr n1.blk 0)), (7, (.int .i64 0)), (6, (Go.Value.pointer none)), (0, (ptr u 0)), (1, (.int .i64 d)), (2, (.string s))] ?_
      refine C_region ?_
      refine Rv (.string s) w2 ?_
      refine Rc #[(.string s)] w2 (valid_any s _) ?_
      rintro _ w3 ⟨rfl, l3⟩
      replace H := H.le l3
      refine Rv (.int .i64 (validN s)) w3 ?_
      refine wpR_nil ?_
      refine E_then_normal ?_
      refine C_seq ?_
      refine C_seq ?_
      refine Cs [(9, (.int .i64 (validN s))), (19, (.bool true)), (8, (ptr n1.blk 0)), (7, (.int .i64 0)), (6, (Go.Value.pointer none)), (0, (ptr u 0)), (1, (.int .i64 d)), (2, (.string s))] ?_
      refine C_region ?_
      refine Rv (.int .i64 (validN s)) w3 ?_
      refine Rv (.bool ((validN s) != 0)) w3 ?_
      refine wpR_nil ?_
      refine E_then_normal ?_
      refine C_cond rfl (fun c2 => ?_) (fun c2 => ?_)
      · have d2 : (validN s) ≠ 0 := bne_iff_ne.1 c2
        refine C_seq ?_
        refine Cs [(23, (.bool ((validN s) != 0))), (9, (.int .i64 (validN s))), (19, (.bool true)), (8, (ptr n1.blk 0)), (7, (.int .i64 0)), (6, (Go.Value.pointer none)), (0, (ptr u 0)), (1, (.int .i64 d)), (2, (.string s))] ?_
        refine C_region ?_
        refine Rv (.int .i64 (validN s)) w3 ?_
        refine Rv (Go.Value.pointer none) w3 ?_
        refine Rv (.int .i64 (validN s)) w3 ?_
        refine wpR_nil ?_
        refine E_then_normal ?_
        refine C_ret ?_
        refine E_then_ret ?_
        refine E_ret (res_two rfl rfl rfl) ⟨_, rfl, ?_⟩
        exact ⟨congrArg (fun x => Value.tuple #[.pointer none, .int .i64 x]) (by unfold freshE; simp_all), H.toLe⟩
      · have d2 : (validN s) = 0 := bne_eq_false_iff_eq.1 c2
        refine C_skip ?_
        refine E_then_normal ?_
        refine C_seq ?_
        refine C_seq ?_
        refine Cs [(23, (.bool ((validN s) != 0))), (9, (.int .i64 (validN s))), (19, (.bool true)), (8, (ptr n1.blk 0)), (7, (.int .i64 0)), (6, (Go.Value.pointer none)), (0, (ptr u 0)), (1, (.int .i64 d)), (2, (.string s))] ?_
        refine C_region ?_
        refine Rv (ptr n1.blk 0) w3 ?_
        refine Rv (ptr n1.blk 0) w3 ?_
        refine Rv (ptr n1.blk 10) w3 ?_
        refine S_load (run_load_one ((hU.le H.toLe).nodes _ _ hr1).blk Try.underlying80 rfl rfl) rfl rfl rfl rfl rfl ?_
        refine Rv (.string s) w3 ?_
        rcases hr2 : getK n1.ents s with _ | x1
        · refine Rw (.tuple #[(.int .i64 0), (.bool false)]) w3 (X_lookup rfl rfl rfl (by have hl := MapV.look true ((hU.le H.toLe).nodes _ _ hr1).ents kS Try.underlying80 (z := (.int .i64 0)) (by kernel_rfl) s (sz_ok (by omega)); rw [getK_ents, hr2] at hl; exact hl)) ?_
          refine Rv (.tuple #[(.int .i64 0), (.bool false)]) w3 ?_
          refine Rv (.int .i64 0) w3 ?_
          refine Rv (.bool false) w3 ?_
          refine Rv (.int .i64 0) w3 ?_
          refine Rv (.bool false) w3 ?_
          refine wpR_nil ?_
          refine E_then_normal ?_
          refine C_seq ?_
          refine Cs [(11, (.bool false)), (23, (.bool ((validN s) != 0))), (9, (.int .i64 (validN s))), (19, (.bool true)), (8, (ptr n1.blk 0)), (7, (.int .i64 0)), (6, (Go.Value.pointer none)), (0, (ptr u 0)), (1, (.int .i64 d)), (2, (.string s))] ?_
          refine C_region ?_
          refine Rv (.bool false) w3 ?_
          refine wpR_nil ?_
          refine E_then_normal ?_
          refine C_false rfl ?_
          refine C_skip ?_
          refine E_then_normal ?_
          refine C_seq ?_
          refine C_region ?_
          refine Rv (ptr n1.blk 0) w3 ?_
          refine Rv (ptr n1.blk 0) w3 ?_
          refine Rv (.int .i64 0) w3 ?_
          refine wpR_nil ?_
          refine E_then_normal ?_
          refine C_ret ?_
          refine E_ret (res_two rfl rfl rfl) ⟨_, rfl, ?_⟩
          exact absurd (by unfold freshE; simp_all) hf
        · refine Rw (.tuple #[(.int .i64 x1), (.bool true)]) w3 (X_lookup rfl rfl rfl (by have hl := MapV.look true ((hU.le H.toLe).nodes _ _ hr1).ents kS Try.underlying80 (z := (.int .i64 0)) (by kernel_rfl) s (sz_ok (by omega)); rw [getK_ents, hr2] at hl; exact hl)) ?_
          refine Rv (.tuple #[(.int .i64 x1), (.bool true)]) w3 ?_
          refine Rv (.int .i64 x1) w3 ?_
          refine Rv (.bool true) w3 ?_
          refine Rv (.int .i64 x1) w3 ?_
          refine Rv (.bool true) w3 ?_
          refine wpR_nil ?_
          refine E_then_normal ?_
          refine C_seq ?_
          refine Cs [(11, (.bool true)), (23, (.bool ((validN s) != 0))), (9, (.int .i64 (validN s))), (19, (.bool true)), (8, (ptr n1.blk 0)), (7, (.int .i64 0)), (6, (Go.Value.pointer none)), (0, (ptr u 0)), (1, (.int .i64 d)), (2, (.string s))] ?_
          refine C_region ?_
          refine Rv (.bool true) w3 ?_
          refine wpR_nil ?_
          refine E_then_normal ?_
          refine C_true rfl ?_
          refine C_seq ?_
          refine C_region ?_
          refine Rv (Go.Value.pointer none) w3 ?_
          refine Rv (.int .i64 21) w3 ?_
          refine wpR_nil ?_
          refine E_then_normal ?_
          refine C_ret ?_
          refine E_then_ret ?_
          refine E_ret (res_two rfl rfl rfl) ⟨_, rfl, ?_⟩
          exact ⟨congrArg (fun x => Value.tuple #[.pointer none, .int .i64 x]) (by unfold freshE; simp_all), H.toLe⟩
    · have d1 : n1.kind ≠ 1 := ne_of_beq_false c1
      refine Rc #[(ptr u 0), (.int .i64 d)] w (dir_bad u mb q1 q2 nx L d n1 _ _ H.sees (hU.le H.toLe) wf_d hr1 c1) ?_
      rintro _ w4 ⟨rfl, l4⟩
      replace H := H.le l4
      refine Rv (.tuple #[(ptr n1.blk 0), (.int .i64 24)]) w4 ?_
      refine Rv (ptr n1.blk 0) w4 ?_
      refine Rv (.int .i64 24) w4 ?_
      refine Rv (ptr n1.blk 0) w4 ?_
      refine Rv (.int .i64 24) w4 ?_
      refine wpR_nil ?_
      refine E_then_normal ?_
      refine C_seq ?_
      refine C_seq ?_
      refine Cs [(9, (.int .i64 24)), (8, (ptr n1.blk 0)), (7, (.int .i64 0)), (6, (Go.Value.pointer none)), (0, (ptr u 0)), (1, (.int .i64 d)), (2, (.string s))] ?_
      refine C_region ?_
      refine Rv (.int .i64 24) w4 ?_
      refine Rv (.bool false) w4 ?_
      refine wpR_nil ?_
      refine E_then_normal ?_
      refine C_false rfl ?_
      refine C_skip ?_
      refine E_then_normal ?_
      refine C_seq ?_
      refine C_seq ?_
      refine Cs [(19, (.bool false)), (9, (.int .i64 24)), (8, (ptr n1.blk 0)), (7, (.int .i64 0)), (6, (Go.Value.pointer none)), (0, (ptr u 0)), (1, (.int .i64 d)), (2, (.string s))] ?_
      refine C_region ?_
      refine Rv (.int .i64 24) w4 ?_
      refine Rv (.bool true) w4 ?_
      refine wpR_nil ?_
      refine E_then_normal ?_
      refine C_true rfl ?_
      refine C_seq ?_
      refine Cs [(23, (.bool true)), (19, (.bool false)), (9, (.int .i64 24)), (8, (ptr n1.blk 0)), (7, (.int .i64 0)), (6, (Go.Value.pointer none)), (0, (ptr u 0)), (1, (.int .i64 d)), (2, (.string s))] ?_
      refine C_region ?_
      refine Rv (.int .i64 24) w4 ?_
      refine Rv (Go.Value.pointer none) w4 ?_
      refine Rv (.int .i64 24) w4 ?_
      refine wpR_nil ?_
      refine E_then_normal ?_
      refine C_ret ?_
      refine E_then_ret ?_
      refine E_ret (res_two rfl rfl rfl) ⟨_, rfl, ?_⟩
      exact ⟨congrArg (fun x => Value.tuple #[.pointer none, .int .i64 x]) (by unfold freshE; simp_all), H.toLe⟩

set_option linter.unusedVariables false in
set_option linter.unusedSimpArgs false in
set_option maxHeartbeats 4000000 in
set_option maxRecDepth 100000 in
theorem fresh_yes (u mb : Nat) (q1 q2 nx : Int) (L : List (Int × LNode)) (d : Int) (s : ByteArray) (n : LNode) (g w : World) (sees : Sees g w)  (hU : UpR Try.prog uty g w u q1 q2 mb nx L) (wf_d : (Lit.int .i64 d).wf = true) (hs : s.size ≤ 9223372036854775807) (hr : getK L d = some n) (hf : freshE L d s = 0) : Ret Try.prog 31 #[(ptr u 0), (.int .i64 d), (.string s)] w fun v w' => v = .tuple #[ptr n.blk 0, .int .i64 0] ∧ Le w w' := by
  have H := SL.start sees
  obtain ⟨hk0, hv0, he0⟩ := fresh_some hr hf
  have hk1 := beq_iff_eq.2 hk0
  have hv1 := beq_iff_eq.2 hv0
  obtain ⟨l1_n, l2_n, l3_n, l4_n⟩ := (hU.nodes _ _ hr).lens
  refine enter (args := [(ptr u 0), (.int .i64 d), (.string s)]) Try.func31 rfl rfl rfl ?_
  refine C_seq ?_
  refine C_region ?_
  refine Rv (Go.Value.pointer none) w ?_
  refine Rv (.int .i64 0) w ?_
  refine wpR_nil ?_
  refine E_then_normal ?_
  refine C_seq ?_
  refine C_region ?_
  refine Rv (ptr u 0) w ?_
  refine Rv (.int .i64 d) w ?_
  refine Rc #[(ptr u 0), (.int .i64 d)] w (dir_yes u mb q1 q2 nx L d n _ _ H.sees (hU.le H.toLe) wf_d hr hk1) ?_
  rintro _ w1 ⟨rfl, l1⟩
  replace H := H.le l1
  refine Rv (.tuple #[(ptr n.blk 0), (.int .i64 0)]) w1 ?_
  refine Rv (ptr n.blk 0) w1 ?_
  refine Rv (.int .i64 0) w1 ?_
  refine Rv (ptr n.blk 0) w1 ?_
  refine Rv (.int .i64 0) w1 ?_
  refine wpR_nil ?_
  refine E_then_normal ?_
  refine C_seq ?_
  refine C_seq ?_
  refine Cs [(9, (.int .i64 0)), (8, (ptr n.blk 0)), (7, (.int .i64 0)), (6, (Go.Value.pointer none)), (0, (ptr u 0)), (1, (.int .i64 d)), (2, (.string s))] ?_
  refine C_region ?_
  refine Rv (.int .i64 0) w1 ?_
  refine Rv (.bool true) w1 ?_
  refine wpR_nil ?_
  refine E_then_normal ?_
  refine C_true rfl ?_
  refine Cs [(19, (.bool true)), (9, (.int .i64 0)), (8, (ptr n.blk 0)), (7, (.int .i64 0)), (6, (Go.Value.pointer none)), (0, (ptr u 0)), (1, (.int .i64 d)), (2, (.string s))] ?_
  refine C_region ?_
  refine Rv (.string s) w1 ?_
  refine Rc #[(.string s)] w1 (valid_any s _) ?_
  rintro _ w2 ⟨rfl, l2⟩
  replace H := H.le l2
  refine Rv (.int .i64 (validN s)) w2 ?_
  refine wpR_nil ?_
  refine E_then_normal ?_
  refine C_seq ?_
  refine C_seq ?_
  refine Cs [(9, (.int .i64 (validN s))), (19, (.bool true)), (8, (ptr n.blk 0)), (7, (.int .i64 0)), (6, (Go.Value.pointer none)), (0, (ptr u 0)), (1, (.int .i64 d)), (2, (.string s))] ?_
  refine C_region ?_
  refine Rv (.int .i64 (validN s)) w2 ?_
  refine Rw (.bool false) w2 (eq_bool (by kernel_rfl) (congrArg Bool.not hv1)) ?_
  refine wpR_nil ?_
  refine E_then_normal ?_
  refine C_false rfl ?_
  refine C_skip ?_
  refine E_then_normal ?_
  refine C_seq ?_
  refine C_seq ?_
  refine Cs [(23, (.bool false)), (9, (.int .i64 (validN s))), (19, (.bool true)), (8, (ptr n.blk 0)), (7, (.int .i64 0)), (6, (Go.Value.pointer none)), (0, (ptr u 0)), (1, (.int .i64 d)), (2, (.string s))] ?_
  refine C_region ?_
  refine Rv (ptr n.blk 0) w2 ?_
  refine Rv (ptr n.blk 0) w2 ?_
  refine Rv (ptr n.blk 10) w2 ?_
  refine S_load (run_load_one ((hU.le H.toLe).nodes _ _ hr).blk Try.underlying80 rfl rfl) rfl rfl rfl rfl rfl ?_
  refine Rv (.string s) w2 ?_
  refine Rw (.tuple #[(.int .i64 0), (.bool false)]) w2 (X_lookup rfl rfl rfl (by have hl := MapV.look true ((hU.le H.toLe).nodes _ _ hr).ents kS Try.underlying80 (z := (.int .i64 0)) (by kernel_rfl) s (sz_ok (by omega)); rw [getK_ents, he0] at hl; exact hl)) ?_
  refine Rv (.tuple #[(.int .i64 0), (.bool false)]) w2 ?_
  refine Rv (.int .i64 0) w2 ?_
  refine Rv (.bool false) w2 ?_
  refine Rv (.int .i64 0) w2 ?_
  refine Rv (.bool false) w2 ?_
  refine wpR_nil ?_
  refine E_then_normal ?_
  refine C_seq ?_
  refine Cs [(11, (.bool false)), (23, (.bool false)), (9, (.int .i64 (validN s))), (19, (.bool true)), (8, (ptr n.blk 0)), (7, (.int .i64 0)), (6, (Go.Value.pointer none)), (0, (ptr u 0)), (1, (.int .i64 d)), (2, (.string s))] ?_
  refine C_region ?_
  refine Rv (.bool false) w2 ?_
  refine wpR_nil ?_
  refine E_then_normal ?_
  refine C_false rfl ?_
  refine C_skip ?_
  refine E_then_normal ?_
  refine C_seq ?_
  refine C_region ?_
  refine Rv (ptr n.blk 0) w2 ?_
  refine Rv (ptr n.blk 0) w2 ?_
  refine Rv (.int .i64 0) w2 ?_
  refine wpR_nil ?_
  refine E_then_normal ?_
  refine C_ret ?_
  refine E_ret (res_two rfl rfl rfl) ⟨_, rfl, ?_⟩
  exact ⟨rfl, H.toLe⟩
end Go.Proofs.Ytnmaehdklmgfmaa
