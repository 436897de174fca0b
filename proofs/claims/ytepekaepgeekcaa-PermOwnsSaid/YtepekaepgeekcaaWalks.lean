/- What the functions of perm come to: each answers, and changes nothing that was there. No conditions. (Printed by a program of mine.) -/
import Derived.Test.YtepekaepgeekcaaRows
import Derived.Test.YtepekaepgeekcaaPlain
import Derived.Test.YtepekaepgeekcaaLmOps
namespace Go.Proofs.Ytepekaepgeekcaa
open Go Go.RowKit Go.Lm
set_option linter.unusedSimpArgs false in
set_option maxHeartbeats 4000000 in
set_option maxRecDepth 100000 in
theorem may_any (uid gid : Int) (kind mode auid agid links size : Int) (want : Int) (w : World) : Ret Try.prog 6 #[(.agg #[(.int .i64 uid), (.int .i64 gid)]), (.agg #[(.int .i64 kind), (.int .i64 mode), (.int .i64 auid), (.int .i64 agid), (.int .i64 links), (.int .i64 size)]), (.int .i64 want)] w fun v w' => v = .bool (mayB uid gid mode auid agid want) ∧ Le w w' := by
  have be0 := Below.refl w.heap.size w
  refine enter (args := [(.agg #[(.int .i64 uid), (.int .i64 gid)]), (.agg #[(.int .i64 kind), (.int .i64 mode), (.int .i64 auid), (.int .i64 agid), (.int .i64 links), (.int .i64 size)]), (.int .i64 want)]) Try.func6 rfl rfl rfl ?_
  refine C_seq ?_
  refine C_region ?_
  refine S_box rfl rfl rfl rfl rfl _ rfl fun b1 w1 n1 => ?_
  have k1 := n1.blk
  have o1 := n1.own be0
  have be1 := n1.below' be0
  refine S_box rfl rfl rfl rfl rfl _ rfl fun b2 w2 n2 => ?_
  have lt1 := n2.lt k1
  have k1 := n2.keep k1
  have k2 := n2.blk
  have o2 := n2.own be1
  have be2 := n2.below' be1
  refine R_val (v := (.bool false)) (w' := w2) rfl (by kernel_rfl) rfl rfl (by kernel_rfl) ?_
  refine wpR_nil ?_
  refine E_then_normal ?_
  refine C_seq ?_
  refine C_block ?_
  refine C_seq ?_
  refine C_region ?_
  refine R_val (v := (.int .i64 want)) (w' := w2) rfl (by kernel_rfl) rfl rfl (by kernel_rfl) ?_
  refine R_val (v := (.bool (decide (want < 0)))) (w' := w2) rfl (by kernel_rfl) rfl rfl (by kernel_rfl) ?_
  rcases Bool.eq_false_or_eq_true (decide (want < 0)) with c1 | c1
  · refine R_val (v := (.bool true)) (w' := w2) rfl (by kernel_rfl) rfl rfl (eq_bool (by kernel_rfl) c1) ?_
    refine R_skip rfl rfl rfl ?_
    refine R_skip rfl rfl rfl ?_
    refine R_val (v := (.bool true)) (w' := w2) rfl (by kernel_rfl) rfl rfl (by kernel_rfl) ?_
    refine R_val (v := (.bool true)) (w' := w2) rfl (by kernel_rfl) rfl rfl (by kernel_rfl) ?_
    refine wpR_nil ?_
    refine E_then_normal ?_
    refine C_true rfl ?_
    refine C_seq ?_
    refine C_sub [(9, (.bool true)), (6, (.bool false)), (4, (ptr b2 0)), (3, (ptr b1 0)), (0, (.agg #[(.int .i64 uid), (.int .i64 gid)])), (1, (.agg #[(.int .i64 kind), (.int .i64 mode), (.int .i64 auid), (.int .i64 agid), (.int .i64 links), (.int .i64 size)])), (2, (.int .i64 want))] ⟨rfl, rfl, rfl, rfl, rfl, rfl, rfl, trivial⟩ ?_
    refine C_region ?_
    refine R_val (v := (.bool false)) (w' := w2) rfl (by kernel_rfl) rfl rfl (by kernel_rfl) ?_
    refine wpR_nil ?_
    refine E_then_normal ?_
    refine C_ret ?_
    refine E_block_ret ?_
    refine E_then_ret ?_
    refine E_ret (res_one rfl rfl) ⟨_, rfl, ?_⟩
    exact ⟨congrArg Value.bool (by first | rfl | (simp [mayB, partOf, c1]; done) | (exfalso; revert c1; decide) | (exfalso; simp_all [mayB, partOf]; done)), be2⟩
  · refine R_val (v := (.bool false)) (w' := w2) rfl (by kernel_rfl) rfl rfl (eq_bool (by kernel_rfl) c1) ?_
    refine R_val (v := (.int .i64 want)) (w' := w2) rfl (by kernel_rfl) rfl rfl (by kernel_rfl) ?_
    refine R_val (v := (.bool (decide (want > 7)))) (w' := w2) rfl (by kernel_rfl) rfl rfl (by kernel_rfl) ?_
    refine R_val (v := (.bool (decide (want > 7)))) (w' := w2) rfl (by kernel_rfl) rfl rfl (by kernel_rfl) ?_
    refine R_val (v := (.bool (decide (want > 7)))) (w' := w2) rfl (by kernel_rfl) rfl rfl (by kernel_rfl) ?_
    refine wpR_nil ?_
    refine E_then_normal ?_
    refine C_cond rfl (fun c2 => ?_) (fun c2 => ?_)
    · refine C_seq ?_
      refine C_sub [(9, (.bool (decide (want > 7)))), (6, (.bool false)), (4, (ptr b2 0)), (3, (ptr b1 0)), (0, (.agg #[(.int .i64 uid), (.int .i64 gid)])), (1, (.agg #[(.int .i64 kind), (.int .i64 mode), (.int .i64 auid), (.int .i64 agid), (.int .i64 links), (.int .i64 size)])), (2, (.int .i64 want))] ⟨rfl, rfl, rfl, rfl, rfl, rfl, rfl, trivial⟩ ?_
      refine C_region ?_
      refine R_val (v := (.bool false)) (w' := w2) rfl (by kernel_rfl) rfl rfl (by kernel_rfl) ?_
      refine wpR_nil ?_
      refine E_then_normal ?_
      refine C_ret ?_
      refine E_block_ret ?_
      refine E_then_ret ?_
      refine E_ret (res_one rfl rfl) ⟨_, rfl, ?_⟩
      exact ⟨congrArg Value.bool (by first | rfl | (simp [mayB, partOf, c1, c2]; done) | (exfalso; revert c1 c2; decide) | (exfalso; simp_all [mayB, partOf]; done)), be2⟩
    · refine C_seq ?_
      refine C_sub [(9, (.bool (decide (want > 7)))), (6, (.bool false)), (4, (ptr b2 0)), (3, (ptr b1 0)), (0, (.agg #[(.int .i64 uid), (.int .i64 gid)])), (1, (.agg #[(.int .i64 kind), (.int .i64 mode), (.int .i64 auid), (.int .i64 agid), (.int .i64 links), (.int .i64 size)])), (2, (.int .i64 want))] ⟨rfl, rfl, rfl, rfl, rfl, rfl, rfl, trivial⟩ ?_
      refine C_region ?_
      refine R_val (v := (ptr b1 0)) (w' := w2) rfl (by kernel_rfl) rfl rfl (by kernel_rfl) ?_
      refine S_load (run_load_one k1 Try.underlying3 rfl rfl) rfl rfl rfl rfl rfl ?_
      refine R_val (v := (.bool (uid == 0))) (w' := w2) rfl (by kernel_rfl) rfl rfl (by kernel_rfl) ?_
      refine R_val (v := (.bool (uid == 0))) (w' := w2) rfl (by kernel_rfl) rfl rfl (by kernel_rfl) ?_
      refine wpR_nil ?_
      refine E_then_normal ?_
      refine C_cond rfl (fun c3 => ?_) (fun c3 => ?_)
      · refine C_seq ?_
        refine C_sub [(16, (.bool (uid == 0))), (9, (.bool (decide (want > 7)))), (6, (.bool false)), (4, (ptr b2 0)), (3, (ptr b1 0)), (0, (.agg #[(.int .i64 uid), (.int .i64 gid)])), (1, (.agg #[(.int .i64 kind), (.int .i64 mode), (.int .i64 auid), (.int .i64 agid), (.int .i64 links), (.int .i64 size)])), (2, (.int .i64 want))] ⟨rfl, rfl, rfl, rfl, rfl, rfl, rfl, rfl, trivial⟩ ?_
        refine C_region ?_
        refine R_val (v := (.bool true)) (w' := w2) rfl (by kernel_rfl) rfl rfl (by kernel_rfl) ?_
        refine wpR_nil ?_
        refine E_then_normal ?_
        refine C_ret ?_
        refine E_block_ret ?_
        refine E_then_ret ?_
        refine E_ret (res_one rfl rfl) ⟨_, rfl, ?_⟩
        exact ⟨congrArg Value.bool (by first | rfl | (simp [mayB, partOf, c1, c2, c3]; done) | (exfalso; revert c1 c2 c3; decide) | (exfalso; simp_all [mayB, partOf]; done)), be2⟩
      · refine C_skip ?_
        refine E_block_normal ?_
        refine E_then_normal ?_
        refine C_seq ?_
        refine C_sub [(16, (.bool (uid == 0))), (9, (.bool (decide (want > 7)))), (6, (.bool false)), (4, (ptr b2 0)), (3, (ptr b1 0)), (0, (.agg #[(.int .i64 uid), (.int .i64 gid)])), (1, (.agg #[(.int .i64 kind), (.int .i64 mode), (.int .i64 auid), (.int .i64 agid), (.int .i64 links), (.int .i64 size)])), (2, (.int .i64 want))] ⟨rfl, rfl, rfl, rfl, rfl, rfl, rfl, rfl, trivial⟩ ?_
        refine C_region ?_
        refine R_val (v := (ptr b2 1)) (w' := w2) rfl (by kernel_rfl) rfl rfl (by kernel_rfl) ?_
        refine R_val (v := (ptr b2 1)) (w' := w2) rfl (by kernel_rfl) rfl rfl (by kernel_rfl) ?_
        refine S_load (run_load_one k2 Try.underlying3 rfl rfl) rfl rfl rfl rfl rfl ?_
        refine R_val (v := (.int .i64 (mode.fdiv (2 ^ (min 6 64))))) (w' := w2) rfl (by kernel_rfl) rfl rfl (by kernel_rfl) ?_
        refine R_val (v := (.int .i64 (bits .and .i64 (mode.fdiv (2 ^ (min 6 64))) 7))) (w' := w2) rfl (by kernel_rfl) rfl rfl (by kernel_rfl) ?_
        refine R_val (v := (ptr b2 1)) (w' := w2) rfl (by kernel_rfl) rfl rfl (by kernel_rfl) ?_
        refine R_val (v := (ptr b2 1)) (w' := w2) rfl (by kernel_rfl) rfl rfl (by kernel_rfl) ?_
        refine S_load (run_load_one k2 Try.underlying3 rfl rfl) rfl rfl rfl rfl rfl ?_
        refine R_val (v := (.int .i64 (mode.fdiv (2 ^ (min 3 64))))) (w' := w2) rfl (by kernel_rfl) rfl rfl (by kernel_rfl) ?_
        refine R_val (v := (.int .i64 (bits .and .i64 (mode.fdiv (2 ^ (min 3 64))) 7))) (w' := w2) rfl (by kernel_rfl) rfl rfl (by kernel_rfl) ?_
        refine R_val (v := (ptr b2 1)) (w' := w2) rfl (by kernel_rfl) rfl rfl (by kernel_rfl) ?_
        refine R_val (v := (ptr b2 1)) (w' := w2) rfl (by kernel_rfl) rfl rfl (by kernel_rfl) ?_
        refine S_load (run_load_one k2 Try.underlying3 rfl rfl) rfl rfl rfl rfl rfl ?_
        refine R_val (v := (.int .i64 (bits .and .i64 mode 7))) (w' := w2) rfl (by kernel_rfl) rfl rfl (by kernel_rfl) ?_
        refine R_val (v := (.agg #[(.int .i64 (bits .and .i64 (mode.fdiv (2 ^ (min 6 64))) 7)), (.int .i64 (bits .and .i64 (mode.fdiv (2 ^ (min 3 64))) 7)), (.int .i64 (bits .and .i64 mode 7))])) (w' := w2) rfl (by kernel_rfl) rfl rfl (by kernel_rfl) ?_
        refine S_alloc #[(.int .i64 0), (.int .i64 0), (.int .i64 0)] (by kernel_rfl) rfl rfl rfl rfl fun b3 w3 n3 => ?_
        have lt2 := n3.lt k1
        have lt3 := n3.lt k2
        have k1 := n3.keep k1
        have k2 := n3.keep k2
        have k3 := n3.blk
        have o3 := n3.own be2
        have be3 := n3.below' be2
        refine S_store k3 rfl rfl rfl rfl rfl (by kernel_rfl) rfl (Nat.le_of_ble_eq_true rfl) #[(.int .i64 (bits .and .i64 (mode.fdiv (2 ^ (min 6 64))) 7)), (.int .i64 (bits .and .i64 (mode.fdiv (2 ^ (min 3 64))) 7)), (.int .i64 (bits .and .i64 mode 7))] rfl fun w4 u1 => ?_
        have k1 := u1.keep (Nat.ne_of_lt lt2) k1
        have k2 := u1.keep (Nat.ne_of_lt lt3) k2
        have k3 := u1.blk k3
        have be4 := u1.below be3 o3
        refine wpR_nil ?_
        refine E_then_normal ?_
        refine C_seq ?_
        refine C_sub [(7, (ptr b3 0)), (16, (.bool (uid == 0))), (9, (.bool (decide (want > 7)))), (6, (.bool false)), (4, (ptr b2 0)), (3, (ptr b1 0)), (0, (.agg #[(.int .i64 uid), (.int .i64 gid)])), (1, (.agg #[(.int .i64 kind), (.int .i64 mode), (.int .i64 auid), (.int .i64 agid), (.int .i64 links), (.int .i64 size)])), (2, (.int .i64 want))] ⟨rfl, rfl, rfl, rfl, rfl, rfl, rfl, rfl, rfl, trivial⟩ ?_
        refine C_region ?_
        refine R_val (v := (.int .i64 2)) (w' := w4) rfl (by kernel_rfl) rfl rfl (by kernel_rfl) ?_
        refine wpR_nil ?_
        refine E_then_normal ?_
        refine C_seq ?_
        refine C_block ?_
        refine C_seq ?_
        refine C_region ?_
        refine R_val (v := (ptr b2 1)) (w' := w4) rfl (by kernel_rfl) rfl rfl (by kernel_rfl) ?_
        refine R_val (v := (ptr b2 2)) (w' := w4) rfl (by kernel_rfl) rfl rfl (by kernel_rfl) ?_
        refine S_load (run_load_one k2 Try.underlying3 rfl rfl) rfl rfl rfl rfl rfl ?_
        refine R_val (v := (ptr b1 0)) (w' := w4) rfl (by kernel_rfl) rfl rfl (by kernel_rfl) ?_
        refine S_load (run_load_one k1 Try.underlying3 rfl rfl) rfl rfl rfl rfl rfl ?_
        refine R_val (v := (.bool (auid == uid))) (w' := w4) rfl (by kernel_rfl) rfl rfl (by kernel_rfl) ?_
        refine R_val (v := (.bool (auid == uid))) (w' := w4) rfl (by kernel_rfl) rfl rfl (by kernel_rfl) ?_
        refine wpR_nil ?_
        refine E_then_normal ?_
        refine C_cond rfl (fun c4 => ?_) (fun c4 => ?_)
        · refine C_sub [(35, (.bool (auid == uid))), (8, (.int .i64 2)), (7, (ptr b3 0)), (16, (.bool (uid == 0))), (9, (.bool (decide (want > 7)))), (6, (.bool false)), (4, (ptr b2 0)), (3, (ptr b1 0)), (0, (.agg #[(.int .i64 uid), (.int .i64 gid)])), (1, (.agg #[(.int .i64 kind), (.int .i64 mode), (.int .i64 auid), (.int .i64 agid), (.int .i64 links), (.int .i64 size)])), (2, (.int .i64 want))] ⟨rfl, rfl, rfl, rfl, rfl, rfl, rfl, rfl, rfl, rfl, rfl, trivial⟩ ?_
          refine C_region ?_
          refine R_val (v := (.int .i64 0)) (w' := w4) rfl (by kernel_rfl) rfl rfl (by kernel_rfl) ?_
          refine wpR_nil ?_
          refine E_block_normal ?_
          refine E_then_normal ?_
          refine C_seq ?_
          refine C_sub [(8, (.int .i64 0)), (35, (.bool (auid == uid))), (7, (ptr b3 0)), (16, (.bool (uid == 0))), (9, (.bool (decide (want > 7)))), (6, (.bool false)), (4, (ptr b2 0)), (3, (ptr b1 0)), (0, (.agg #[(.int .i64 uid), (.int .i64 gid)])), (1, (.agg #[(.int .i64 kind), (.int .i64 mode), (.int .i64 auid), (.int .i64 agid), (.int .i64 links), (.int .i64 size)])), (2, (.int .i64 want))] ⟨rfl, rfl, rfl, rfl, rfl, rfl, rfl, rfl, rfl, rfl, rfl, trivial⟩ ?_
          refine C_region ?_
          refine R_val (v := (.int .i64 0)) (w' := w4) rfl (by kernel_rfl) rfl rfl (by kernel_rfl) ?_
          refine R_val (v := (ptr b3 0)) (w' := w4) rfl (by kernel_rfl) rfl rfl (by kernel_rfl) ?_
          refine S_load (run_load_one k3 Try.underlying3 rfl rfl) rfl rfl rfl rfl rfl ?_
          refine R_val (v := (.int .i64 want)) (w' := w4) rfl (by kernel_rfl) rfl rfl (by kernel_rfl) ?_
          refine R_val (v := (.int .i64 (bits .and .i64 (bits .and .i64 (mode.fdiv (2 ^ (min 6 64))) 7) want))) (w' := w4) rfl (by kernel_rfl) rfl rfl (by kernel_rfl) ?_
          refine R_val (v := (.int .i64 want)) (w' := w4) rfl (by kernel_rfl) rfl rfl (by kernel_rfl) ?_
          refine R_val (v := (.bool ((bits .and .i64 (bits .and .i64 (mode.fdiv (2 ^ (min 6 64))) 7) want) == want))) (w' := w4) rfl (by kernel_rfl) rfl rfl (by kernel_rfl) ?_
          refine R_val (v := (.bool ((bits .and .i64 (bits .and .i64 (mode.fdiv (2 ^ (min 6 64))) 7) want) == want))) (w' := w4) rfl (by kernel_rfl) rfl rfl (by kernel_rfl) ?_
          refine wpR_nil ?_
          refine E_then_normal ?_
          refine C_ret ?_
          refine E_ret (res_one rfl rfl) ⟨_, rfl, ?_⟩
          exact ⟨congrArg Value.bool (by first | rfl | (simp [mayB, partOf, c1, c2, c3, c4]; done) | (exfalso; revert c1 c2 c3 c4; decide) | (exfalso; simp_all [mayB, partOf]; done)), be4⟩
        · refine C_seq ?_
          refine C_sub [(35, (.bool (auid == uid))), (8, (.int .i64 2)), (7, (ptr b3 0)), (16, (.bool (uid == 0))), (9, (.bool (decide (want > 7)))), (6, (.bool false)), (4, (ptr b2 0)), (3, (ptr b1 0)), (0, (.agg #[(.int .i64 uid), (.int .i64 gid)])), (1, (.agg #[(.int .i64 kind), (.int .i64 mode), (.int .i64 auid), (.int .i64 agid), (.int .i64 links), (.int .i64 size)])), (2, (.int .i64 want))] ⟨rfl, rfl, rfl, rfl, rfl, rfl, rfl, rfl, rfl, rfl, rfl, trivial⟩ ?_
          refine C_region ?_
          refine R_val (v := (ptr b2 1)) (w' := w4) rfl (by kernel_rfl) rfl rfl (by kernel_rfl) ?_
          refine R_val (v := (ptr b2 3)) (w' := w4) rfl (by kernel_rfl) rfl rfl (by kernel_rfl) ?_
          refine S_load (run_load_one k2 Try.underlying3 rfl rfl) rfl rfl rfl rfl rfl ?_
          refine R_val (v := (ptr b1 1)) (w' := w4) rfl (by kernel_rfl) rfl rfl (by kernel_rfl) ?_
          refine S_load (run_load_one k1 Try.underlying3 rfl rfl) rfl rfl rfl rfl rfl ?_
          refine R_val (v := (.bool (agid == gid))) (w' := w4) rfl (by kernel_rfl) rfl rfl (by kernel_rfl) ?_
          refine R_val (v := (.bool (agid == gid))) (w' := w4) rfl (by kernel_rfl) rfl rfl (by kernel_rfl) ?_
          refine wpR_nil ?_
          refine E_then_normal ?_
          refine C_cond rfl (fun c5 => ?_) (fun c5 => ?_)
          · refine C_sub [(42, (.bool (agid == gid))), (35, (.bool (auid == uid))), (8, (.int .i64 2)), (7, (ptr b3 0)), (16, (.bool (uid == 0))), (9, (.bool (decide (want > 7)))), (6, (.bool false)), (4, (ptr b2 0)), (3, (ptr b1 0)), (0, (.agg #[(.int .i64 uid), (.int .i64 gid)])), (1, (.agg #[(.int .i64 kind), (.int .i64 mode), (.int .i64 auid), (.int .i64 agid), (.int .i64 links), (.int .i64 size)])), (2, (.int .i64 want))] ⟨rfl, rfl, rfl, rfl, rfl, rfl, rfl, rfl, rfl, rfl, rfl, rfl, trivial⟩ ?_
            refine C_region ?_
            refine R_val (v := (.int .i64 1)) (w' := w4) rfl (by kernel_rfl) rfl rfl (by kernel_rfl) ?_
            refine wpR_nil ?_
            refine E_block_normal ?_
            refine E_then_normal ?_
            refine C_seq ?_
            refine C_sub [(8, (.int .i64 1)), (42, (.bool (agid == gid))), (35, (.bool (auid == uid))), (7, (ptr b3 0)), (16, (.bool (uid == 0))), (9, (.bool (decide (want > 7)))), (6, (.bool false)), (4, (ptr b2 0)), (3, (ptr b1 0)), (0, (.agg #[(.int .i64 uid), (.int .i64 gid)])), (1, (.agg #[(.int .i64 kind), (.int .i64 mode), (.int .i64 auid), (.int .i64 agid), (.int .i64 links), (.int .i64 size)])), (2, (.int .i64 want))] ⟨rfl, rfl, rfl, rfl, rfl, rfl, rfl, rfl, rfl, rfl, rfl, rfl, trivial⟩ ?_
            refine C_region ?_
            refine R_val (v := (.int .i64 1)) (w' := w4) rfl (by kernel_rfl) rfl rfl (by kernel_rfl) ?_
            refine R_val (v := (ptr b3 1)) (w' := w4) rfl (by kernel_rfl) rfl rfl (by kernel_rfl) ?_
            refine S_load (run_load_one k3 Try.underlying3 rfl rfl) rfl rfl rfl rfl rfl ?_
            refine R_val (v := (.int .i64 want)) (w' := w4) rfl (by kernel_rfl) rfl rfl (by kernel_rfl) ?_
            refine R_val (v := (.int .i64 (bits .and .i64 (bits .and .i64 (mode.fdiv (2 ^ (min 3 64))) 7) want))) (w' := w4) rfl (by kernel_rfl) rfl rfl (by kernel_rfl) ?_
            refine R_val (v := (.int .i64 want)) (w' := w4) rfl (by kernel_rfl) rfl rfl (by kernel_rfl) ?_
            refine R_val (v := (.bool ((bits .and .i64 (bits .and .i64 (mode.fdiv (2 ^ (min 3 64))) 7) want) == want))) (w' := w4) rfl (by kernel_rfl) rfl rfl (by kernel_rfl) ?_
            refine R_val (v := (.bool ((bits .and .i64 (bits .and .i64 (mode.fdiv (2 ^ (min 3 64))) 7) want) == want))) (w' := w4) rfl (by kernel_rfl) rfl rfl (by kernel_rfl) ?_
            refine wpR_nil ?_
            refine E_then_normal ?_
            refine C_ret ?_
            refine E_ret (res_one rfl rfl) ⟨_, rfl, ?_⟩
            exact ⟨congrArg Value.bool (by first | rfl | (simp [mayB, partOf, c1, c2, c3, c4, c5]; done) | (exfalso; revert c1 c2 c3 c4 c5; decide) | (exfalso; simp_all [mayB, partOf]; done)), be4⟩
          · refine C_skip ?_
            refine E_block_normal ?_
            refine E_then_normal ?_
            refine C_seq ?_
            refine C_sub [(42, (.bool (agid == gid))), (35, (.bool (auid == uid))), (8, (.int .i64 2)), (7, (ptr b3 0)), (16, (.bool (uid == 0))), (9, (.bool (decide (want > 7)))), (6, (.bool false)), (4, (ptr b2 0)), (3, (ptr b1 0)), (0, (.agg #[(.int .i64 uid), (.int .i64 gid)])), (1, (.agg #[(.int .i64 kind), (.int .i64 mode), (.int .i64 auid), (.int .i64 agid), (.int .i64 links), (.int .i64 size)])), (2, (.int .i64 want))] ⟨rfl, rfl, rfl, rfl, rfl, rfl, rfl, rfl, rfl, rfl, rfl, rfl, trivial⟩ ?_
            refine C_region ?_
            refine R_val (v := (.int .i64 2)) (w' := w4) rfl (by kernel_rfl) rfl rfl (by kernel_rfl) ?_
            refine R_val (v := (ptr b3 2)) (w' := w4) rfl (by kernel_rfl) rfl rfl (by kernel_rfl) ?_
            refine S_load (run_load_one k3 Try.underlying3 rfl rfl) rfl rfl rfl rfl rfl ?_
            refine R_val (v := (.int .i64 want)) (w' := w4) rfl (by kernel_rfl) rfl rfl (by kernel_rfl) ?_
            refine R_val (v := (.int .i64 (bits .and .i64 (bits .and .i64 mode 7) want))) (w' := w4) rfl (by kernel_rfl) rfl rfl (by kernel_rfl) ?_
            refine R_val (v := (.int .i64 want)) (w' := w4) rfl (by kernel_rfl) rfl rfl (by kernel_rfl) ?_
            refine R_val (v := (.bool ((bits .and .i64 (bits .and .i64 mode 7) want) == want))) (w' := w4) rfl (by kernel_rfl) rfl rfl (by kernel_rfl) ?_
            refine R_val (v := (.bool ((bits .and .i64 (bits .and .i64 mode 7) want) == want))) (w' := w4) rfl (by kernel_rfl) rfl rfl (by kernel_rfl) ?_
            refine wpR_nil ?_
            refine E_then_normal ?_
            refine C_ret ?_
            refine E_ret (res_one rfl rfl) ⟨_, rfl, ?_⟩
            exact ⟨congrArg Value.bool (by first | rfl | (simp [mayB, partOf, c1, c2, c3, c4, c5]; done) | (exfalso; revert c1 c2 c3 c4 c5; decide) | (exfalso; simp_all [mayB, partOf]; done)), be4⟩

set_option linter.unusedSimpArgs false in
set_option maxHeartbeats 4000000 in
set_option maxRecDepth 100000 in
theorem owns_any (uid gid : Int) (kind mode auid agid links size : Int) (w : World) : Ret Try.prog 7 #[(.agg #[(.int .i64 uid), (.int .i64 gid)]), (.agg #[(.int .i64 kind), (.int .i64 mode), (.int .i64 auid), (.int .i64 agid), (.int .i64 links), (.int .i64 size)])] w fun v w' => v = .bool (uid == 0 || uid == auid) ∧ Le w w' := by
  have be0 := Below.refl w.heap.size w
  refine enter (args := [(.agg #[(.int .i64 uid), (.int .i64 gid)]), (.agg #[(.int .i64 kind), (.int .i64 mode), (.int .i64 auid), (.int .i64 agid), (.int .i64 links), (.int .i64 size)])]) Try.func7 rfl rfl rfl ?_
  refine C_seq ?_
  refine C_region ?_
  refine S_box rfl rfl rfl rfl rfl _ rfl fun b1 w1 n1 => ?_
  have k1 := n1.blk
  have o1 := n1.own be0
  have be1 := n1.below' be0
  refine S_box rfl rfl rfl rfl rfl _ rfl fun b2 w2 n2 => ?_
  have lt1 := n2.lt k1
  have k1 := n2.keep k1
  have k2 := n2.blk
  have o2 := n2.own be1
  have be2 := n2.below' be1
  refine R_val (v := (.bool false)) (w' := w2) rfl (by kernel_rfl) rfl rfl (by kernel_rfl) ?_
  refine wpR_nil ?_
  refine E_then_normal ?_
  refine C_seq ?_
  refine C_region ?_
  refine R_val (v := (ptr b1 0)) (w' := w2) rfl (by kernel_rfl) rfl rfl (by kernel_rfl) ?_
  refine S_load (run_load_one k1 Try.underlying3 rfl rfl) rfl rfl rfl rfl rfl ?_
  refine R_val (v := (.bool (uid == 0))) (w' := w2) rfl (by kernel_rfl) rfl rfl (by kernel_rfl) ?_
  rcases Bool.eq_false_or_eq_true (uid == 0) with c1 | c1
  · refine R_val (v := (.bool true)) (w' := w2) rfl (by kernel_rfl) rfl rfl (eq_bool (by kernel_rfl) c1) ?_
    refine R_skip rfl rfl rfl ?_
    refine R_skip rfl rfl rfl ?_
    refine R_skip rfl rfl rfl ?_
    refine R_skip rfl rfl rfl ?_
    refine R_skip rfl rfl rfl ?_
    refine R_skip rfl rfl rfl ?_
    refine R_val (v := (.bool true)) (w' := w2) rfl (by kernel_rfl) rfl rfl (by kernel_rfl) ?_
    refine R_val (v := (.bool true)) (w' := w2) rfl (by kernel_rfl) rfl rfl (by kernel_rfl) ?_
    refine wpR_nil ?_
    refine E_then_normal ?_
    refine C_ret ?_
    refine E_ret (res_one rfl rfl) ⟨_, rfl, ?_⟩
    exact ⟨congrArg Value.bool (by first | rfl | (simp [c1]; done) | (exfalso; revert c1; decide) | (exfalso; simp_all []; done)), be2⟩
  · refine R_val (v := (.bool false)) (w' := w2) rfl (by kernel_rfl) rfl rfl (eq_bool (by kernel_rfl) c1) ?_
    refine R_val (v := (ptr b1 0)) (w' := w2) rfl (by kernel_rfl) rfl rfl (by kernel_rfl) ?_
    refine S_load (run_load_one k1 Try.underlying3 rfl rfl) rfl rfl rfl rfl rfl ?_
    refine R_val (v := (ptr b2 1)) (w' := w2) rfl (by kernel_rfl) rfl rfl (by kernel_rfl) ?_
    refine R_val (v := (ptr b2 2)) (w' := w2) rfl (by kernel_rfl) rfl rfl (by kernel_rfl) ?_
    refine S_load (run_load_one k2 Try.underlying3 rfl rfl) rfl rfl rfl rfl rfl ?_
    refine R_val (v := (.bool (uid == auid))) (w' := w2) rfl (by kernel_rfl) rfl rfl (by kernel_rfl) ?_
    refine R_val (v := (.bool (uid == auid))) (w' := w2) rfl (by kernel_rfl) rfl rfl (by kernel_rfl) ?_
    refine R_val (v := (.bool (uid == auid))) (w' := w2) rfl (by kernel_rfl) rfl rfl (by kernel_rfl) ?_
    refine wpR_nil ?_
    refine E_then_normal ?_
    refine C_ret ?_
    refine E_ret (res_one rfl rfl) ⟨_, rfl, ?_⟩
    exact ⟨congrArg Value.bool (by first | rfl | (simp [c1]; done) | (exfalso; revert c1; decide) | (exfalso; simp_all []; done)), be2⟩

set_option linter.unusedSimpArgs false in
set_option maxHeartbeats 4000000 in
set_option maxRecDepth 100000 in
theorem refowns_any (uid : Int) (kind mode auid agid links size : Int) (w : World) : Ret Try.prog 8 #[(.int .i64 uid), (.agg #[(.int .i64 kind), (.int .i64 mode), (.int .i64 auid), (.int .i64 agid), (.int .i64 links), (.int .i64 size)])] w fun v w' => v = .bool (uid == 0 || uid == auid) ∧ Le w w' := by
  have be0 := Below.refl w.heap.size w
  refine enter (args := [(.int .i64 uid), (.agg #[(.int .i64 kind), (.int .i64 mode), (.int .i64 auid), (.int .i64 agid), (.int .i64 links), (.int .i64 size)])]) Try.func8 rfl rfl rfl ?_
  refine C_seq ?_
  refine C_region ?_
  refine S_box rfl rfl rfl rfl rfl _ rfl fun b1 w1 n1 => ?_
  have k1 := n1.blk
  have o1 := n1.own be0
  have be1 := n1.below' be0
  refine R_val (v := (.bool false)) (w' := w1) rfl (by kernel_rfl) rfl rfl (by kernel_rfl) ?_
  refine wpR_nil ?_
  refine E_then_normal ?_
  refine C_seq ?_
  refine C_region ?_
  refine R_val (v := (.int .i64 uid)) (w' := w1) rfl (by kernel_rfl) rfl rfl (by kernel_rfl) ?_
  refine R_val (v := (.bool (uid == 0))) (w' := w1) rfl (by kernel_rfl) rfl rfl (by kernel_rfl) ?_
  rcases Bool.eq_false_or_eq_true (uid == 0) with c1 | c1
  · refine R_val (v := (.bool true)) (w' := w1) rfl (by kernel_rfl) rfl rfl (eq_bool (by kernel_rfl) c1) ?_
    refine R_skip rfl rfl rfl ?_
    refine R_skip rfl rfl rfl ?_
    refine R_skip rfl rfl rfl ?_
    refine R_skip rfl rfl rfl ?_
    refine R_skip rfl rfl rfl ?_
    refine R_val (v := (.bool true)) (w' := w1) rfl (by kernel_rfl) rfl rfl (by kernel_rfl) ?_
    refine R_val (v := (.bool true)) (w' := w1) rfl (by kernel_rfl) rfl rfl (by kernel_rfl) ?_
    refine wpR_nil ?_
    refine E_then_normal ?_
    refine C_ret ?_
    refine E_ret (res_one rfl rfl) ⟨_, rfl, ?_⟩
    exact ⟨congrArg Value.bool (by first | rfl | (simp [c1]; done) | (exfalso; revert c1; decide) | (exfalso; simp_all []; done)), be1⟩
  · refine R_val (v := (.bool false)) (w' := w1) rfl (by kernel_rfl) rfl rfl (eq_bool (by kernel_rfl) c1) ?_
    refine R_val (v := (.int .i64 uid)) (w' := w1) rfl (by kernel_rfl) rfl rfl (by kernel_rfl) ?_
    refine R_val (v := (ptr b1 1)) (w' := w1) rfl (by kernel_rfl) rfl rfl (by kernel_rfl) ?_
    refine R_val (v := (ptr b1 2)) (w' := w1) rfl (by kernel_rfl) rfl rfl (by kernel_rfl) ?_
    refine S_load (run_load_one k1 Try.underlying3 rfl rfl) rfl rfl rfl rfl rfl ?_
    refine R_val (v := (.bool (uid == auid))) (w' := w1) rfl (by kernel_rfl) rfl rfl (by kernel_rfl) ?_
    refine R_val (v := (.bool (uid == auid))) (w' := w1) rfl (by kernel_rfl) rfl rfl (by kernel_rfl) ?_
    refine R_val (v := (.bool (uid == auid))) (w' := w1) rfl (by kernel_rfl) rfl rfl (by kernel_rfl) ?_
    refine wpR_nil ?_
    refine E_then_normal ?_
    refine C_ret ?_
    refine E_ret (res_one rfl rfl) ⟨_, rfl, ?_⟩
    exact ⟨congrArg Value.bool (by first | rfl | (simp [c1]; done) | (exfalso; revert c1; decide) | (exfalso; simp_all []; done)), be1⟩

set_option linter.unusedSimpArgs false in
set_option maxHeartbeats 4000000 in
set_option maxRecDepth 100000 in
theorem attr_any (uid gid mode : Int) (w : World) : Ret Try.prog 9 #[(.agg #[(.int .i64 uid), (.int .i64 gid)]), (.int .i64 mode)] w fun v w' => v = .agg #[.int .i64 mode, .int .i64 uid, .int .i64 gid] ∧ Le w w' := by
  have be0 := Below.refl w.heap.size w
  refine enter (args := [(.agg #[(.int .i64 uid), (.int .i64 gid)]), (.int .i64 mode)]) Try.func9 rfl rfl rfl ?_
  refine C_seq ?_
  refine C_region ?_
  refine S_box rfl rfl rfl rfl rfl _ rfl fun b1 w1 n1 => ?_
  have k1 := n1.blk
  have o1 := n1.own be0
  have be1 := n1.below' be0
  refine S_alloc #[(.int .i64 0), (.int .i64 0), (.int .i64 0)] (by kernel_rfl) rfl rfl rfl rfl fun b2 w2 n2 => ?_
  have lt1 := n2.lt k1
  have k1 := n2.keep k1
  have k2 := n2.blk
  have o2 := n2.own be1
  have be2 := n2.below' be1
  refine wpR_nil ?_
  refine E_then_normal ?_
  refine C_seq ?_
  refine C_region ?_
  refine R_val (v := (.int .i64 mode)) (w' := w2) rfl (by kernel_rfl) rfl rfl (by kernel_rfl) ?_
  refine R_val (v := (ptr b1 0)) (w' := w2) rfl (by kernel_rfl) rfl rfl (by kernel_rfl) ?_
  refine S_load (run_load_one k1 Try.underlying3 rfl rfl) rfl rfl rfl rfl rfl ?_
  refine R_val (v := (ptr b1 1)) (w' := w2) rfl (by kernel_rfl) rfl rfl (by kernel_rfl) ?_
  refine S_load (run_load_one k1 Try.underlying3 rfl rfl) rfl rfl rfl rfl rfl ?_
  refine R_val (v := (.agg #[(.int .i64 mode), (.int .i64 uid), (.int .i64 gid)])) (w' := w2) rfl (by kernel_rfl) rfl rfl (by kernel_rfl) ?_
  refine S_store k2 rfl rfl rfl rfl rfl (by kernel_rfl) rfl (Nat.le_of_ble_eq_true rfl) #[(.int .i64 mode), (.int .i64 uid), (.int .i64 gid)] rfl fun w3 u1 => ?_
  have k1 := u1.keep (Nat.ne_of_lt lt1) k1
  have k2 := u1.blk k2
  have be3 := u1.below be2 o2
  refine wpR_nil ?_
  refine E_then_normal ?_
  refine C_ret ?_
  refine E_ret (res_cell rfl rfl (run_load_row k2 Try.underlying24 rfl (vs := [(.int .i64 mode), (.int .i64 uid), (.int .i64 gid)]) (by kernel_rfl) rfl)) ⟨_, rfl, ?_⟩
  exact ⟨rfl, be3⟩

set_option linter.unusedSimpArgs false in
set_option maxHeartbeats 4000000 in
set_option maxRecDepth 100000 in
theorem shown_any  (w : World) : Ret Try.prog 5 #[] w fun v w' => v = .bool true ∧ Le w w' := by
  have be0 := Below.refl w.heap.size w
  refine enter (args := []) Try.func5 rfl rfl rfl ?_
  refine C_seq ?_
  refine C_region ?_
  refine R_val (v := (.bool false)) (w' := w) rfl (by kernel_rfl) rfl rfl (by kernel_rfl) ?_
  refine wpR_nil ?_
  refine E_then_normal ?_
  refine C_seq ?_
  refine C_region ?_
  refine R_val (v := (.agg #[(.int .i64 5), (.int .i64 7)])) (w' := w) rfl (by kernel_rfl) rfl rfl (by kernel_rfl) ?_
  refine S_alloc #[(.int .i64 0), (.int .i64 0)] (by kernel_rfl) rfl rfl rfl rfl fun b1 w1 n1 => ?_
  have k1 := n1.blk
  have o1 := n1.own be0
  have be1 := n1.below' be0
  refine S_store k1 rfl rfl rfl rfl rfl (by kernel_rfl) rfl (Nat.le_of_ble_eq_true rfl) #[(.int .i64 5), (.int .i64 7)] rfl fun w2 u1 => ?_
  have k1 := u1.blk k1
  have be2 := u1.below be1 o1
  refine wpR_nil ?_
  refine E_then_normal ?_
  refine C_seq ?_
  refine C_sub [(1, (ptr b1 0)), (0, (.bool false))] ⟨rfl, rfl, trivial⟩ ?_
  refine C_region ?_
  refine R_val (v := (.agg #[(.int .i64 448), (.int .i64 5), (.int .i64 9)])) (w' := w2) rfl (by kernel_rfl) rfl rfl (by kernel_rfl) ?_
  refine R_val (v := (.agg #[(.int .i64 0), (.int .i64 448), (.int .i64 5), (.int .i64 9), (.int .i64 0), (.int .i64 0)])) (w' := w2) rfl (by kernel_rfl) rfl rfl (by kernel_rfl) ?_
  refine S_alloc #[(.int .i64 0), (.int .i64 0), (.int .i64 0), (.int .i64 0), (.int .i64 0), (.int .i64 0)] (by kernel_rfl) rfl rfl rfl rfl fun b2 w3 n2 => ?_
  have lt1 := n2.lt k1
  have k1 := n2.keep k1
  have k2 := n2.blk
  have o2 := n2.own be2
  have be3 := n2.below' be2
  refine S_store k2 rfl rfl rfl rfl rfl (by kernel_rfl) rfl (Nat.le_of_ble_eq_true rfl) #[(.int .i64 0), (.int .i64 448), (.int .i64 5), (.int .i64 9), (.int .i64 0), (.int .i64 0)] rfl fun w4 u2 => ?_
  have k1 := u2.keep (Nat.ne_of_lt lt1) k1
  have k2 := u2.blk k2
  have be4 := u2.below be3 o2
  refine wpR_nil ?_
  refine E_then_normal ?_
  refine C_seq ?_
  refine C_sub [(2, (ptr b2 0)), (1, (ptr b1 0)), (0, (.bool false))] ⟨rfl, rfl, rfl, trivial⟩ ?_
  refine C_region ?_
  refine R_val (v := (.agg #[(.int .i64 7), (.int .i64 5), (.int .i64 9)])) (w' := w4) rfl (by kernel_rfl) rfl rfl (by kernel_rfl) ?_
  refine R_val (v := (.agg #[(.int .i64 0), (.int .i64 7), (.int .i64 5), (.int .i64 9), (.int .i64 0), (.int .i64 0)])) (w' := w4) rfl (by kernel_rfl) rfl rfl (by kernel_rfl) ?_
  refine S_alloc #[(.int .i64 0), (.int .i64 0), (.int .i64 0), (.int .i64 0), (.int .i64 0), (.int .i64 0)] (by kernel_rfl) rfl rfl rfl rfl fun b3 w5 n3 => ?_
  have lt2 := n3.lt k1
  have lt3 := n3.lt k2
  have k1 := n3.keep k1
  have k2 := n3.keep k2
  have k3 := n3.blk
  have o3 := n3.own be4
  have be5 := n3.below' be4
  refine S_store k3 rfl rfl rfl rfl rfl (by kernel_rfl) rfl (Nat.le_of_ble_eq_true rfl) #[(.int .i64 0), (.int .i64 7), (.int .i64 5), (.int .i64 9), (.int .i64 0), (.int .i64 0)] rfl fun w6 u3 => ?_
  have k1 := u3.keep (Nat.ne_of_lt lt2) k1
  have k2 := u3.keep (Nat.ne_of_lt lt3) k2
  have k3 := u3.blk k3
  have be6 := u3.below be5 o3
  refine wpR_nil ?_
  refine E_then_normal ?_
  refine C_seq ?_
  refine C_sub [(3, (ptr b3 0)), (2, (ptr b2 0)), (1, (ptr b1 0)), (0, (.bool false))] ⟨rfl, rfl, rfl, rfl, trivial⟩ ?_
  refine C_region ?_
  refine S_load (run_load_row k1 Try.underlying29 rfl (vs := [(.int .i64 5), (.int .i64 7)]) (by kernel_rfl) rfl) rfl rfl rfl rfl rfl ?_
  refine S_load (run_load_row k2 Try.underlying26 rfl (vs := [(.int .i64 0), (.int .i64 448), (.int .i64 5), (.int .i64 9), (.int .i64 0), (.int .i64 0)]) (by kernel_rfl) rfl) rfl rfl rfl rfl rfl ?_
  refine R_call (args := #[(.agg #[(.int .i64 5), (.int .i64 7)]), (.agg #[(.int .i64 0), (.int .i64 448), (.int .i64 5), (.int .i64 9), (.int .i64 0), (.int .i64 0)]), (.int .i64 7)]) (w := w6) rfl (by kernel_rfl) rfl rfl (by kernel_rfl) (may_any 5 7 0 448 5 9 0 0 7 _) ?_
  rintro _ w7 ⟨rfl, l1⟩
  have k1 := l1.blk k1
  have k2 := l1.blk k2
  have k3 := l1.blk k3
  have be7 := l1.below' be6
  rcases Bool.eq_false_or_eq_true (mayB 5 7 448 5 9 7) with c1 | c1
  · refine R_val (v := (.bool true)) (w' := w7) rfl (by kernel_rfl) rfl rfl (eq_bool (by kernel_rfl) c1) ?_
    refine S_load (run_load_row k1 Try.underlying29 rfl (vs := [(.int .i64 5), (.int .i64 7)]) (by kernel_rfl) rfl) rfl rfl rfl rfl rfl ?_
    refine S_load (run_load_row k3 Try.underlying26 rfl (vs := [(.int .i64 0), (.int .i64 7), (.int .i64 5), (.int .i64 9), (.int .i64 0), (.int .i64 0)]) (by kernel_rfl) rfl) rfl rfl rfl rfl rfl ?_
    refine R_call (args := #[(.agg #[(.int .i64 5), (.int .i64 7)]), (.agg #[(.int .i64 0), (.int .i64 7), (.int .i64 5), (.int .i64 9), (.int .i64 0), (.int .i64 0)]), (.int .i64 1)]) (w := w7) rfl (by kernel_rfl) rfl rfl (by kernel_rfl) (may_any 5 7 0 7 5 9 0 0 1 _) ?_
    rintro _ w8 ⟨rfl, l2⟩
    have k1 := l2.blk k1
    have k2 := l2.blk k2
    have k3 := l2.blk k3
    have be8 := l2.below' be7
    refine R_val (v := (.bool (!(mayB 5 7 7 5 9 1)))) (w' := w8) rfl (by kernel_rfl) rfl rfl (by kernel_rfl) ?_
    refine R_val (v := (.bool (!(mayB 5 7 7 5 9 1)))) (w' := w8) rfl (by kernel_rfl) rfl rfl (by kernel_rfl) ?_
    refine R_val (v := (.bool (!(mayB 5 7 7 5 9 1)))) (w' := w8) rfl (by kernel_rfl) rfl rfl (by kernel_rfl) ?_
    refine wpR_nil ?_
    refine E_then_normal ?_
    refine C_ret ?_
    refine E_ret (res_one rfl rfl) ⟨_, rfl, ?_⟩
    exact ⟨congrArg Value.bool (by first | rfl | (simp [mayB, partOf, c1]; done) | (exfalso; revert c1; decide) | (exfalso; simp_all [mayB, partOf]; done)), be8⟩
  · refine R_val (v := (.bool false)) (w' := w7) rfl (by kernel_rfl) rfl rfl (eq_bool (by kernel_rfl) c1) ?_
    refine R_skip rfl rfl rfl ?_
    refine R_skip rfl rfl rfl ?_
    refine R_skip rfl rfl rfl ?_
    refine R_skip rfl rfl rfl ?_
    refine R_val (v := (.bool false)) (w' := w7) rfl (by kernel_rfl) rfl rfl (by kernel_rfl) ?_
    refine R_val (v := (.bool false)) (w' := w7) rfl (by kernel_rfl) rfl rfl (by kernel_rfl) ?_
    refine wpR_nil ?_
    refine E_then_normal ?_
    refine C_ret ?_
    refine E_ret (res_one rfl rfl) ⟨_, rfl, ?_⟩
    exact ⟨congrArg Value.bool (by first | rfl | (simp [mayB, partOf, c1]; done) | (exfalso; revert c1; decide) | (exfalso; simp_all [mayB, partOf]; done)), be7⟩
end Go.Proofs.Ytepekaepgeekcaa
