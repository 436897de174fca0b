/- The statement PermEach, walked: it answers true, and changes nothing that was there. No conditions. (Printed by a program of mine.) -/
import Derived.Test.YtepekaepgeekcaaRows
import Derived.Test.YtepekaepgeekcaaPlain
import Derived.Test.YtepekaepgeekcaaLmOps
import Derived.Test.YtepekaepgeekcaaWalks
namespace Go.Proofs.Ytepekaepgeekcaa
open Go Go.RowKit Go.Lm
set_option linter.unusedSimpArgs false in
set_option maxHeartbeats 4000000 in
set_option maxRecDepth 100000 in
theorem each_walk (uid gid : Int) (kind mode auid agid links size : Int) (x y : Int) (w : World) : Ret Try.prog 3 #[(.agg #[(.int .i64 uid), (.int .i64 gid)]), (.agg #[(.int .i64 kind), (.int .i64 mode), (.int .i64 auid), (.int .i64 agid), (.int .i64 links), (.int .i64 size)]), (.agg #[(.int .i64 x), (.int .i64 y)])] w fun v w' => v = .bool true ∧ Le w w' := by
  have be0 := Below.refl w.heap.size w
  refine enter (args := [(.agg #[(.int .i64 uid), (.int .i64 gid)]), (.agg #[(.int .i64 kind), (.int .i64 mode), (.int .i64 auid), (.int .i64 agid), (.int .i64 links), (.int .i64 size)]), (.agg #[(.int .i64 x), (.int .i64 y)])]) Try.func3 rfl rfl rfl ?_
  refine C_seq ?_
  refine C_region ?_
  refine S_box rfl rfl rfl rfl rfl _ rfl fun b1 w1 n1 => ?_
  have k1 := n1.blk
  have o1 := n1.own be0
  have be1 := n1.below' be0
  refine S_box rfl rfl rfl rfl rfl _ rfl fun b2 w2 n2 => ?_
  have lt1 := n2.lt k1
  have k1 := n2.keep k1
  have k2 := n2.blk
  have o2 := n2.own be1
  have be2 := n2.below' be1
  refine S_box rfl rfl rfl rfl rfl _ rfl fun b3 w3 n3 => ?_
  have lt2 := n3.lt k1
  have lt3 := n3.lt k2
  have k1 := n3.keep k1
  have k2 := n3.keep k2
  have k3 := n3.blk
  have o3 := n3.own be2
  have be3 := n3.below' be2
  refine R_val (v := (.bool false)) (w' := w3) rfl (by kernel_rfl) rfl rfl (by kernel_rfl) ?_
  refine wpR_nil ?_
  refine E_then_normal ?_
  refine C_seq ?_
  refine C_region ?_
  refine R_call (args := #[]) (w := w3) rfl (by kernel_rfl) rfl rfl (by kernel_rfl) (shown_any _) ?_
  rintro _ w4 ⟨rfl, l1⟩
  have k1 := l1.blk k1
  have k2 := l1.blk k2
  have k3 := l1.blk k3
  have be4 := l1.below' be3
  refine R_val (v := (.bool true)) (w' := w4) rfl (by kernel_rfl) rfl rfl (by kernel_rfl) ?_
  refine wpR_nil ?_
  refine E_then_normal ?_
  refine C_seq ?_
  refine C_sub [(7, (.bool true)), (6, (.bool false)), (5, (ptr b3 0)), (4, (ptr b2 0)), (3, (ptr b1 0)), (0, (.agg #[(.int .i64 uid), (.int .i64 gid)])), (1, (.agg #[(.int .i64 kind), (.int .i64 mode), (.int .i64 auid), (.int .i64 agid), (.int .i64 links), (.int .i64 size)])), (2, (.agg #[(.int .i64 x), (.int .i64 y)]))] ⟨rfl, rfl, rfl, rfl, rfl, rfl, rfl, rfl, trivial⟩ ?_
  refine C_region ?_
  refine R_val (v := (ptr b1 0)) (w' := w4) rfl (by kernel_rfl) rfl rfl (by kernel_rfl) ?_
  refine S_load (run_load_one k1 Try.underlying3 rfl rfl) rfl rfl rfl rfl rfl ?_
  refine R_val (v := (ptr b1 1)) (w' := w4) rfl (by kernel_rfl) rfl rfl (by kernel_rfl) ?_
  refine S_load (run_load_one k1 Try.underlying3 rfl rfl) rfl rfl rfl rfl rfl ?_
  refine R_val (v := (.agg #[(.int .i64 uid), (.int .i64 gid)])) (w' := w4) rfl (by kernel_rfl) rfl rfl (by kernel_rfl) ?_
  refine S_alloc #[(.int .i64 0), (.int .i64 0)] (by kernel_rfl) rfl rfl rfl rfl fun b4 w5 n4 => ?_
  have lt4 := n4.lt k1
  have lt5 := n4.lt k2
  have lt6 := n4.lt k3
  have k1 := n4.keep k1
  have k2 := n4.keep k2
  have k3 := n4.keep k3
  have k4 := n4.blk
  have o4 := n4.own be4
  have be5 := n4.below' be4
  refine S_store k4 rfl rfl rfl rfl rfl (by kernel_rfl) rfl (Nat.le_of_ble_eq_true rfl) #[(.int .i64 uid), (.int .i64 gid)] rfl fun w6 u1 => ?_
  have k1 := u1.keep (Nat.ne_of_lt lt4) k1
  have k2 := u1.keep (Nat.ne_of_lt lt5) k2
  have k3 := u1.keep (Nat.ne_of_lt lt6) k3
  have k4 := u1.blk k4
  have be6 := u1.below be5 o4
  refine wpR_nil ?_
  refine E_then_normal ?_
  refine C_seq ?_
  refine C_sub [(8, (ptr b4 0)), (7, (.bool true)), (6, (.bool false)), (5, (ptr b3 0)), (4, (ptr b2 0)), (3, (ptr b1 0)), (0, (.agg #[(.int .i64 uid), (.int .i64 gid)])), (1, (.agg #[(.int .i64 kind), (.int .i64 mode), (.int .i64 auid), (.int .i64 agid), (.int .i64 links), (.int .i64 size)])), (2, (.agg #[(.int .i64 x), (.int .i64 y)]))] ⟨rfl, rfl, rfl, rfl, rfl, rfl, rfl, rfl, rfl, trivial⟩ ?_
  refine C_region ?_
  refine R_val (v := (ptr b3 0)) (w' := w6) rfl (by kernel_rfl) rfl rfl (by kernel_rfl) ?_
  refine S_load (run_load_one k3 Try.underlying3 rfl rfl) rfl rfl rfl rfl rfl ?_
  refine R_val (v := (.int .i64 (bits .and .i64 x 7))) (w' := w6) rfl (by kernel_rfl) rfl rfl (by kernel_rfl) ?_
  refine R_val (v := (.int .i64 (bits .and .i64 x 7))) (w' := w6) rfl (by kernel_rfl) rfl rfl (by kernel_rfl) ?_
  refine wpR_nil ?_
  refine E_then_normal ?_
  refine C_seq ?_
  refine C_sub [(9, (.int .i64 (bits .and .i64 x 7))), (8, (ptr b4 0)), (7, (.bool true)), (6, (.bool false)), (5, (ptr b3 0)), (4, (ptr b2 0)), (3, (ptr b1 0)), (0, (.agg #[(.int .i64 uid), (.int .i64 gid)])), (1, (.agg #[(.int .i64 kind), (.int .i64 mode), (.int .i64 auid), (.int .i64 agid), (.int .i64 links), (.int .i64 size)])), (2, (.agg #[(.int .i64 x), (.int .i64 y)]))] ⟨rfl, rfl, rfl, rfl, rfl, rfl, rfl, rfl, rfl, rfl, trivial⟩ ?_
  refine C_region ?_
  refine R_val (v := (ptr b3 1)) (w' := w6) rfl (by kernel_rfl) rfl rfl (by kernel_rfl) ?_
  refine S_load (run_load_one k3 Try.underlying3 rfl rfl) rfl rfl rfl rfl rfl ?_
  refine R_val (v := (.int .i64 (bits .and .i64 y 7))) (w' := w6) rfl (by kernel_rfl) rfl rfl (by kernel_rfl) ?_
  refine R_val (v := (.int .i64 (bits .and .i64 y 7))) (w' := w6) rfl (by kernel_rfl) rfl rfl (by kernel_rfl) ?_
  refine wpR_nil ?_
  refine E_then_normal ?_
  refine C_seq ?_
  refine C_sub [(10, (.int .i64 (bits .and .i64 y 7))), (9, (.int .i64 (bits .and .i64 x 7))), (8, (ptr b4 0)), (7, (.bool true)), (6, (.bool false)), (5, (ptr b3 0)), (4, (ptr b2 0)), (3, (ptr b1 0)), (0, (.agg #[(.int .i64 uid), (.int .i64 gid)])), (1, (.agg #[(.int .i64 kind), (.int .i64 mode), (.int .i64 auid), (.int .i64 agid), (.int .i64 links), (.int .i64 size)])), (2, (.agg #[(.int .i64 x), (.int .i64 y)]))] ⟨rfl, rfl, rfl, rfl, rfl, rfl, rfl, rfl, rfl, rfl, rfl, trivial⟩ ?_
  refine C_region ?_
  refine R_val (v := (ptr b1 1)) (w' := w6) rfl (by kernel_rfl) rfl rfl (by kernel_rfl) ?_
  refine S_load (run_load_one k1 Try.underlying3 rfl rfl) rfl rfl rfl rfl rfl ?_
  refine R_val (v := (.agg #[(.int .i64 0), (.int .i64 gid)])) (w' := w6) rfl (by kernel_rfl) rfl rfl (by kernel_rfl) ?_
  refine S_alloc #[(.int .i64 0), (.int .i64 0)] (by kernel_rfl) rfl rfl rfl rfl fun b5 w7 n5 => ?_
  have lt7 := n5.lt k1
  have lt8 := n5.lt k2
  have lt9 := n5.lt k3
  have lt10 := n5.lt k4
  have k1 := n5.keep k1
  have k2 := n5.keep k2
  have k3 := n5.keep k3
  have k4 := n5.keep k4
  have k5 := n5.blk
  have o5 := n5.own be6
  have be7 := n5.below' be6
  refine S_store k5 rfl rfl rfl rfl rfl (by kernel_rfl) rfl (Nat.le_of_ble_eq_true rfl) #[(.int .i64 0), (.int .i64 gid)] rfl fun w8 u2 => ?_
  have k1 := u2.keep (Nat.ne_of_lt lt7) k1
  have k2 := u2.keep (Nat.ne_of_lt lt8) k2
  have k3 := u2.keep (Nat.ne_of_lt lt9) k3
  have k4 := u2.keep (Nat.ne_of_lt lt10) k4
  have k5 := u2.blk k5
  have be8 := u2.below be7 o5
  refine wpR_nil ?_
  refine E_then_normal ?_
  refine C_seq ?_
  refine C_sub [(11, (ptr b5 0)), (10, (.int .i64 (bits .and .i64 y 7))), (9, (.int .i64 (bits .and .i64 x 7))), (8, (ptr b4 0)), (7, (.bool true)), (6, (.bool false)), (5, (ptr b3 0)), (4, (ptr b2 0)), (3, (ptr b1 0)), (0, (.agg #[(.int .i64 uid), (.int .i64 gid)])), (1, (.agg #[(.int .i64 kind), (.int .i64 mode), (.int .i64 auid), (.int .i64 agid), (.int .i64 links), (.int .i64 size)])), (2, (.agg #[(.int .i64 x), (.int .i64 y)]))] ⟨rfl, rfl, rfl, rfl, rfl, rfl, rfl, rfl, rfl, rfl, rfl, rfl, trivial⟩ ?_
  rcases Bool.eq_false_or_eq_true (mayB uid gid mode auid agid (bits .and .i64 x 7)) with c1 | c1
  · rcases Bool.eq_false_or_eq_true ((mayB uid gid mode auid agid (bits .or .i64 (bits .and .i64 x 7) (bits .and .i64 y 7))) == (mayB uid gid mode auid agid (bits .and .i64 y 7))) with c2 | c2
    · rcases Bool.eq_false_or_eq_true (mayB uid gid mode auid agid 0) with c3 | c3
      · refine C_draw [fun _ v => v = (.bool true), fun _ v => v = (.bool true), fun _ v => v = (.agg #[(.int .i64 uid), (.int .i64 gid)]), fun _ v => v = (.agg #[(.int .i64 kind), (.int .i64 mode), (.int .i64 auid), (.int .i64 agid), (.int .i64 links), (.int .i64 size)]), fun _ v => v = (.int .i64 (bits .and .i64 x 7)), fun _ v => v = (.int .i64 (bits .and .i64 y 7)), fun _ v => v = (.int .i64 (bits .or .i64 (bits .and .i64 x 7) (bits .and .i64 y 7))), fun _ v => v = (.bool (mayB uid gid mode auid agid (bits .or .i64 (bits .and .i64 x 7) (bits .and .i64 y 7)))), fun _ v => v = (.agg #[(.int .i64 uid), (.int .i64 gid)]), fun _ v => v = (.agg #[(.int .i64 kind), (.int .i64 mode), (.int .i64 auid), (.int .i64 agid), (.int .i64 links), (.int .i64 size)]), fun _ v => v = (.int .i64 (bits .and .i64 x 7)), fun _ v => v = (.bool true), fun _ v => v = (.bool true), fun _ v => v = (.agg #[(.int .i64 uid), (.int .i64 gid)]), fun _ v => v = (.agg #[(.int .i64 kind), (.int .i64 mode), (.int .i64 auid), (.int .i64 agid), (.int .i64 links), (.int .i64 size)]), fun _ v => v = (.int .i64 (bits .and .i64 y 7)), fun _ v => v = (.bool (mayB uid gid mode auid agid (bits .and .i64 y 7))), fun _ v => v = (.bool (mayB uid gid mode auid agid (bits .and .i64 y 7))), fun _ v => v = (.bool true), fun _ v => v = (.bool true), fun _ v => v = (.bool true), fun _ v => v = (.agg #[(.int .i64 uid), (.int .i64 gid)]), fun _ v => v = (.agg #[(.int .i64 kind), (.int .i64 mode), (.int .i64 auid), (.int .i64 agid), (.int .i64 links), (.int .i64 size)]), fun _ v => v = (.bool true), fun _ v => v = (.bool true), fun _ v => v = (.bool true), fun _ v => v = (.agg #[(.int .i64 0), (.int .i64 gid)]), fun _ v => v = (.agg #[(.int .i64 kind), (.int .i64 mode), (.int .i64 auid), (.int .i64 agid), (.int .i64 links), (.int .i64 size)]), fun _ v => v = (.int .i64 (bits .and .i64 x 7)), fun _ v => v = (.bool (mayB 0 gid mode auid agid (bits .and .i64 x 7))), fun _ v => v = (.bool (mayB 0 gid mode auid agid (bits .and .i64 x 7))), fun _ v => v = (.bool (mayB 0 gid mode auid agid (bits .and .i64 x 7)))] (by kernel_rfl) (by kernel_rfl) (by kernel_rfl) ⟨stab_exact _, stab_exact _, stab_exact _, stab_exact _, stab_exact _, stab_exact _, stab_exact _, stab_exact _, stab_exact _, stab_exact _, stab_exact _, stab_exact _, stab_exact _, stab_exact _, stab_exact _, stab_exact _, stab_exact _, stab_exact _, stab_exact _, stab_exact _, stab_exact _, stab_exact _, stab_exact _, stab_exact _, stab_exact _, stab_exact _, stab_exact _, stab_exact _, stab_exact _, stab_exact _, stab_exact _, stab_exact _, trivial⟩ ⟨?_, ?_, ?_, ?_, ?_, ?_, ?_, ?_, ?_, ?_, ?_, ?_, ?_, ?_, ?_, ?_, ?_, ?_, ?_, ?_, ?_, ?_, ?_, ?_, ?_, ?_, ?_, ?_, ?_, ?_, ?_, ?_, trivial⟩ ?_
        · intro a wd ld hfd hdd
          have hfd := Fr.cast (s' := [(11, (ptr b5 0)), (10, (.int .i64 (bits .and .i64 y 7))), (9, (.int .i64 (bits .and .i64 x 7))), (8, (ptr b4 0)), (7, (.bool true)), (6, (.bool false)), (5, (ptr b3 0)), (4, (ptr b2 0)), (3, (ptr b1 0)), (0, (.agg #[(.int .i64 uid), (.int .i64 gid)])), (1, (.agg #[(.int .i64 kind), (.int .i64 mode), (.int .i64 auid), (.int .i64 agid), (.int .i64 links), (.int .i64 size)])), (2, (.agg #[(.int .i64 x), (.int .i64 y)]))]) hfd (by kernel_rfl)
          exact G_val (v := (.bool true)) (w' := wd) hfd rfl (by kernel_rfl) (by kernel_rfl) (Le.refl _) rfl
        · intro a wd ld hfd hdd
          have hfd := Fr.cast (s' := [(11, (ptr b5 0)), (10, (.int .i64 (bits .and .i64 y 7))), (9, (.int .i64 (bits .and .i64 x 7))), (8, (ptr b4 0)), (7, (.bool true)), (6, (.bool false)), (5, (ptr b3 0)), (4, (ptr b2 0)), (3, (ptr b1 0)), (0, (.agg #[(.int .i64 uid), (.int .i64 gid)])), (1, (.agg #[(.int .i64 kind), (.int .i64 mode), (.int .i64 auid), (.int .i64 agid), (.int .i64 links), (.int .i64 size)])), (2, (.agg #[(.int .i64 x), (.int .i64 y)]))]) hfd (by kernel_rfl)
          obtain ⟨e0, _⟩ := hdd
          have hfd := Fr.add (t := 27) (v := (.bool true)) hfd e0
          exact G_val (v := (.bool true)) (w' := wd) hfd rfl (by kernel_rfl) (by kernel_rfl) (Le.refl _) rfl
        · intro a wd ld hfd hdd
          have hfd := Fr.cast (s' := [(11, (ptr b5 0)), (10, (.int .i64 (bits .and .i64 y 7))), (9, (.int .i64 (bits .and .i64 x 7))), (8, (ptr b4 0)), (7, (.bool true)), (6, (.bool false)), (5, (ptr b3 0)), (4, (ptr b2 0)), (3, (ptr b1 0)), (0, (.agg #[(.int .i64 uid), (.int .i64 gid)])), (1, (.agg #[(.int .i64 kind), (.int .i64 mode), (.int .i64 auid), (.int .i64 agid), (.int .i64 links), (.int .i64 size)])), (2, (.agg #[(.int .i64 x), (.int .i64 y)]))]) hfd (by kernel_rfl)
          obtain ⟨e1, _⟩ := hdd
          have hfd := Fr.add (t := 28) (v := (.bool true)) hfd e1
          exact G_val hfd rfl (by kernel_rfl) (load_ev (run_load_row (ld.blk k4) Try.underlying29 rfl (vs := [(.int .i64 uid), (.int .i64 gid)]) (by kernel_rfl) rfl) rfl rfl) (Le.refl _) rfl
        · intro a wd ld hfd hdd
          have hfd := Fr.cast (s' := [(11, (ptr b5 0)), (10, (.int .i64 (bits .and .i64 y 7))), (9, (.int .i64 (bits .and .i64 x 7))), (8, (ptr b4 0)), (7, (.bool true)), (6, (.bool false)), (5, (ptr b3 0)), (4, (ptr b2 0)), (3, (ptr b1 0)), (0, (.agg #[(.int .i64 uid), (.int .i64 gid)])), (1, (.agg #[(.int .i64 kind), (.int .i64 mode), (.int .i64 auid), (.int .i64 agid), (.int .i64 links), (.int .i64 size)])), (2, (.agg #[(.int .i64 x), (.int .i64 y)]))]) hfd (by kernel_rfl)
          obtain ⟨e1, _⟩ := hdd
          have hfd := Fr.add (t := 28) (v := (.bool true)) hfd e1
          exact G_val hfd rfl (by kernel_rfl) (load_ev (run_load_row (ld.blk k2) Try.underlying26 rfl (vs := [(.int .i64 kind), (.int .i64 mode), (.int .i64 auid), (.int .i64 agid), (.int .i64 links), (.int .i64 size)]) (by kernel_rfl) rfl) rfl rfl) (Le.refl _) rfl
        · intro a wd ld hfd hdd
          have hfd := Fr.cast (s' := [(11, (ptr b5 0)), (10, (.int .i64 (bits .and .i64 y 7))), (9, (.int .i64 (bits .and .i64 x 7))), (8, (ptr b4 0)), (7, (.bool true)), (6, (.bool false)), (5, (ptr b3 0)), (4, (ptr b2 0)), (3, (ptr b1 0)), (0, (.agg #[(.int .i64 uid), (.int .i64 gid)])), (1, (.agg #[(.int .i64 kind), (.int .i64 mode), (.int .i64 auid), (.int .i64 agid), (.int .i64 links), (.int .i64 size)])), (2, (.agg #[(.int .i64 x), (.int .i64 y)]))]) hfd (by kernel_rfl)
          obtain ⟨e1, _⟩ := hdd
          have hfd := Fr.add (t := 28) (v := (.bool true)) hfd e1
          exact G_val (v := (.int .i64 (bits .and .i64 x 7))) (w' := wd) hfd rfl (by kernel_rfl) (by kernel_rfl) (Le.refl _) rfl
        · intro a wd ld hfd hdd
          have hfd := Fr.cast (s' := [(11, (ptr b5 0)), (10, (.int .i64 (bits .and .i64 y 7))), (9, (.int .i64 (bits .and .i64 x 7))), (8, (ptr b4 0)), (7, (.bool true)), (6, (.bool false)), (5, (ptr b3 0)), (4, (ptr b2 0)), (3, (ptr b1 0)), (0, (.agg #[(.int .i64 uid), (.int .i64 gid)])), (1, (.agg #[(.int .i64 kind), (.int .i64 mode), (.int .i64 auid), (.int .i64 agid), (.int .i64 links), (.int .i64 size)])), (2, (.agg #[(.int .i64 x), (.int .i64 y)]))]) hfd (by kernel_rfl)
          obtain ⟨e1, _⟩ := hdd
          have hfd := Fr.add (t := 28) (v := (.bool true)) hfd e1
          exact G_val (v := (.int .i64 (bits .and .i64 y 7))) (w' := wd) hfd rfl (by kernel_rfl) (by kernel_rfl) (Le.refl _) rfl
        · intro a wd ld hfd hdd
          have hfd := Fr.cast (s' := [(11, (ptr b5 0)), (10, (.int .i64 (bits .and .i64 y 7))), (9, (.int .i64 (bits .and .i64 x 7))), (8, (ptr b4 0)), (7, (.bool true)), (6, (.bool false)), (5, (ptr b3 0)), (4, (ptr b2 0)), (3, (ptr b1 0)), (0, (.agg #[(.int .i64 uid), (.int .i64 gid)])), (1, (.agg #[(.int .i64 kind), (.int .i64 mode), (.int .i64 auid), (.int .i64 agid), (.int .i64 links), (.int .i64 size)])), (2, (.agg #[(.int .i64 x), (.int .i64 y)]))]) hfd (by kernel_rfl)
          obtain ⟨e4, e5, e1, _⟩ := hdd
          have hfd := Fr.add (t := 31) (v := (.int .i64 (bits .and .i64 x 7))) hfd e4
          have hfd := Fr.add (t := 32) (v := (.int .i64 (bits .and .i64 y 7))) hfd e5
          have hfd := Fr.add (t := 28) (v := (.bool true)) hfd e1
          exact G_val (v := (.int .i64 (bits .or .i64 (bits .and .i64 x 7) (bits .and .i64 y 7)))) (w' := wd) hfd rfl (by kernel_rfl) (by kernel_rfl) (Le.refl _) rfl
        · intro a wd ld hfd hdd
          have hfd := Fr.cast (s' := [(11, (ptr b5 0)), (10, (.int .i64 (bits .and .i64 y 7))), (9, (.int .i64 (bits .and .i64 x 7))), (8, (ptr b4 0)), (7, (.bool true)), (6, (.bool false)), (5, (ptr b3 0)), (4, (ptr b2 0)), (3, (ptr b1 0)), (0, (.agg #[(.int .i64 uid), (.int .i64 gid)])), (1, (.agg #[(.int .i64 kind), (.int .i64 mode), (.int .i64 auid), (.int .i64 agid), (.int .i64 links), (.int .i64 size)])), (2, (.agg #[(.int .i64 x), (.int .i64 y)]))]) hfd (by kernel_rfl)
          obtain ⟨e2, e3, e6, e1, _, _⟩ := hdd
          have hfd := Fr.add (t := 29) (v := (.agg #[(.int .i64 uid), (.int .i64 gid)])) hfd e2
          have hfd := Fr.add (t := 30) (v := (.agg #[(.int .i64 kind), (.int .i64 mode), (.int .i64 auid), (.int .i64 agid), (.int .i64 links), (.int .i64 size)])) hfd e3
          have hfd := Fr.add (t := 33) (v := (.int .i64 (bits .or .i64 (bits .and .i64 x 7) (bits .and .i64 y 7)))) hfd e6
          have hfd := Fr.add (t := 28) (v := (.bool true)) hfd e1
          exact G_call (args := #[(.agg #[(.int .i64 uid), (.int .i64 gid)]), (.agg #[(.int .i64 kind), (.int .i64 mode), (.int .i64 auid), (.int .i64 agid), (.int .i64 links), (.int .i64 size)]), (.int .i64 (bits .or .i64 (bits .and .i64 x 7) (bits .and .i64 y 7)))]) (w := wd) hfd rfl (by kernel_rfl) (by kernel_rfl) (may_any uid gid kind mode auid agid links size (bits .or .i64 (bits .and .i64 x 7) (bits .and .i64 y 7)) _) fun v w' ⟨he, hl⟩ => ⟨hl, he⟩
        · intro a wd ld hfd hdd
          have hfd := Fr.cast (s' := [(11, (ptr b5 0)), (10, (.int .i64 (bits .and .i64 y 7))), (9, (.int .i64 (bits .and .i64 x 7))), (8, (ptr b4 0)), (7, (.bool true)), (6, (.bool false)), (5, (ptr b3 0)), (4, (ptr b2 0)), (3, (ptr b1 0)), (0, (.agg #[(.int .i64 uid), (.int .i64 gid)])), (1, (.agg #[(.int .i64 kind), (.int .i64 mode), (.int .i64 auid), (.int .i64 agid), (.int .i64 links), (.int .i64 size)])), (2, (.agg #[(.int .i64 x), (.int .i64 y)]))]) hfd (by kernel_rfl)
          obtain ⟨e1, _⟩ := hdd
          have hfd := Fr.add (t := 28) (v := (.bool true)) hfd e1
          exact G_val hfd rfl (by kernel_rfl) (load_ev (run_load_row (ld.blk k4) Try.underlying29 rfl (vs := [(.int .i64 uid), (.int .i64 gid)]) (by kernel_rfl) rfl) rfl rfl) (Le.refl _) rfl
        · intro a wd ld hfd hdd
          have hfd := Fr.cast (s' := [(11, (ptr b5 0)), (10, (.int .i64 (bits .and .i64 y 7))), (9, (.int .i64 (bits .and .i64 x 7))), (8, (ptr b4 0)), (7, (.bool true)), (6, (.bool false)), (5, (ptr b3 0)), (4, (ptr b2 0)), (3, (ptr b1 0)), (0, (.agg #[(.int .i64 uid), (.int .i64 gid)])), (1, (.agg #[(.int .i64 kind), (.int .i64 mode), (.int .i64 auid), (.int .i64 agid), (.int .i64 links), (.int .i64 size)])), (2, (.agg #[(.int .i64 x), (.int .i64 y)]))]) hfd (by kernel_rfl)
          obtain ⟨e1, _⟩ := hdd
          have hfd := Fr.add (t := 28) (v := (.bool true)) hfd e1
          exact G_val hfd rfl (by kernel_rfl) (load_ev (run_load_row (ld.blk k2) Try.underlying26 rfl (vs := [(.int .i64 kind), (.int .i64 mode), (.int .i64 auid), (.int .i64 agid), (.int .i64 links), (.int .i64 size)]) (by kernel_rfl) rfl) rfl rfl) (Le.refl _) rfl
        · intro a wd ld hfd hdd
          have hfd := Fr.cast (s' := [(11, (ptr b5 0)), (10, (.int .i64 (bits .and .i64 y 7))), (9, (.int .i64 (bits .and .i64 x 7))), (8, (ptr b4 0)), (7, (.bool true)), (6, (.bool false)), (5, (ptr b3 0)), (4, (ptr b2 0)), (3, (ptr b1 0)), (0, (.agg #[(.int .i64 uid), (.int .i64 gid)])), (1, (.agg #[(.int .i64 kind), (.int .i64 mode), (.int .i64 auid), (.int .i64 agid), (.int .i64 links), (.int .i64 size)])), (2, (.agg #[(.int .i64 x), (.int .i64 y)]))]) hfd (by kernel_rfl)
          obtain ⟨e1, _⟩ := hdd
          have hfd := Fr.add (t := 28) (v := (.bool true)) hfd e1
          exact G_val (v := (.int .i64 (bits .and .i64 x 7))) (w' := wd) hfd rfl (by kernel_rfl) (by kernel_rfl) (Le.refl _) rfl
        · intro a wd ld hfd hdd
          have hfd := Fr.cast (s' := [(11, (ptr b5 0)), (10, (.int .i64 (bits .and .i64 y 7))), (9, (.int .i64 (bits .and .i64 x 7))), (8, (ptr b4 0)), (7, (.bool true)), (6, (.bool false)), (5, (ptr b3 0)), (4, (ptr b2 0)), (3, (ptr b1 0)), (0, (.agg #[(.int .i64 uid), (.int .i64 gid)])), (1, (.agg #[(.int .i64 kind), (.int .i64 mode), (.int .i64 auid), (.int .i64 agid), (.int .i64 links), (.int .i64 size)])), (2, (.agg #[(.int .i64 x), (.int .i64 y)]))]) hfd (by kernel_rfl)
          obtain ⟨e8, e9, e10, _, e1, _⟩ := hdd
          have hfd := Fr.add (t := 35) (v := (.agg #[(.int .i64 uid), (.int .i64 gid)])) hfd e8
          have hfd := Fr.add (t := 36) (v := (.agg #[(.int .i64 kind), (.int .i64 mode), (.int .i64 auid), (.int .i64 agid), (.int .i64 links), (.int .i64 size)])) hfd e9
          have hfd := Fr.add (t := 37) (v := (.int .i64 (bits .and .i64 x 7))) hfd e10
          have hfd := Fr.add (t := 28) (v := (.bool true)) hfd e1
          exact G_call (args := #[(.agg #[(.int .i64 uid), (.int .i64 gid)]), (.agg #[(.int .i64 kind), (.int .i64 mode), (.int .i64 auid), (.int .i64 agid), (.int .i64 links), (.int .i64 size)]), (.int .i64 (bits .and .i64 x 7))]) (w := wd) hfd rfl (by kernel_rfl) (by kernel_rfl) (may_any uid gid kind mode auid agid links size (bits .and .i64 x 7) _) fun v w' ⟨he, hl⟩ => ⟨hl, (he.trans (congrArg Value.bool c1))⟩
        · intro a wd ld hfd hdd
          have hfd := Fr.cast (s' := [(11, (ptr b5 0)), (10, (.int .i64 (bits .and .i64 y 7))), (9, (.int .i64 (bits .and .i64 x 7))), (8, (ptr b4 0)), (7, (.bool true)), (6, (.bool false)), (5, (ptr b3 0)), (4, (ptr b2 0)), (3, (ptr b1 0)), (0, (.agg #[(.int .i64 uid), (.int .i64 gid)])), (1, (.agg #[(.int .i64 kind), (.int .i64 mode), (.int .i64 auid), (.int .i64 agid), (.int .i64 links), (.int .i64 size)])), (2, (.agg #[(.int .i64 x), (.int .i64 y)]))]) hfd (by kernel_rfl)
          obtain ⟨e11, _, e1, _⟩ := hdd
          have hfd := Fr.add (t := 38) (v := (.bool true)) hfd e11
          have hfd := Fr.add (t := 28) (v := (.bool true)) hfd e1
          exact G_val (v := (.bool true)) (w' := wd) hfd rfl (by kernel_rfl) (by kernel_rfl) (Le.refl _) rfl
        · intro a wd ld hfd hdd
          have hfd := Fr.cast (s' := [(11, (ptr b5 0)), (10, (.int .i64 (bits .and .i64 y 7))), (9, (.int .i64 (bits .and .i64 x 7))), (8, (ptr b4 0)), (7, (.bool true)), (6, (.bool false)), (5, (ptr b3 0)), (4, (ptr b2 0)), (3, (ptr b1 0)), (0, (.agg #[(.int .i64 uid), (.int .i64 gid)])), (1, (.agg #[(.int .i64 kind), (.int .i64 mode), (.int .i64 auid), (.int .i64 agid), (.int .i64 links), (.int .i64 size)])), (2, (.agg #[(.int .i64 x), (.int .i64 y)]))]) hfd (by kernel_rfl)
          obtain ⟨e12, _⟩ := hdd
          have hfd := Fr.add (t := 39) (v := (.bool true)) hfd e12
          exact G_val hfd rfl (by kernel_rfl) (load_ev (run_load_row (ld.blk k4) Try.underlying29 rfl (vs := [(.int .i64 uid), (.int .i64 gid)]) (by kernel_rfl) rfl) rfl rfl) (Le.refl _) rfl
        · intro a wd ld hfd hdd
          have hfd := Fr.cast (s' := [(11, (ptr b5 0)), (10, (.int .i64 (bits .and .i64 y 7))), (9, (.int .i64 (bits .and .i64 x 7))), (8, (ptr b4 0)), (7, (.bool true)), (6, (.bool false)), (5, (ptr b3 0)), (4, (ptr b2 0)), (3, (ptr b1 0)), (0, (.agg #[(.int .i64 uid), (.int .i64 gid)])), (1, (.agg #[(.int .i64 kind), (.int .i64 mode), (.int .i64 auid), (.int .i64 agid), (.int .i64 links), (.int .i64 size)])), (2, (.agg #[(.int .i64 x), (.int .i64 y)]))]) hfd (by kernel_rfl)
          obtain ⟨e12, _⟩ := hdd
          have hfd := Fr.add (t := 39) (v := (.bool true)) hfd e12
          exact G_val hfd rfl (by kernel_rfl) (load_ev (run_load_row (ld.blk k2) Try.underlying26 rfl (vs := [(.int .i64 kind), (.int .i64 mode), (.int .i64 auid), (.int .i64 agid), (.int .i64 links), (.int .i64 size)]) (by kernel_rfl) rfl) rfl rfl) (Le.refl _) rfl
        · intro a wd ld hfd hdd
          have hfd := Fr.cast (s' := [(11, (ptr b5 0)), (10, (.int .i64 (bits .and .i64 y 7))), (9, (.int .i64 (bits .and .i64 x 7))), (8, (ptr b4 0)), (7, (.bool true)), (6, (.bool false)), (5, (ptr b3 0)), (4, (ptr b2 0)), (3, (ptr b1 0)), (0, (.agg #[(.int .i64 uid), (.int .i64 gid)])), (1, (.agg #[(.int .i64 kind), (.int .i64 mode), (.int .i64 auid), (.int .i64 agid), (.int .i64 links), (.int .i64 size)])), (2, (.agg #[(.int .i64 x), (.int .i64 y)]))]) hfd (by kernel_rfl)
          obtain ⟨e12, _⟩ := hdd
          have hfd := Fr.add (t := 39) (v := (.bool true)) hfd e12
          exact G_val (v := (.int .i64 (bits .and .i64 y 7))) (w' := wd) hfd rfl (by kernel_rfl) (by kernel_rfl) (Le.refl _) rfl
        · intro a wd ld hfd hdd
          have hfd := Fr.cast (s' := [(11, (ptr b5 0)), (10, (.int .i64 (bits .and .i64 y 7))), (9, (.int .i64 (bits .and .i64 x 7))), (8, (ptr b4 0)), (7, (.bool true)), (6, (.bool false)), (5, (ptr b3 0)), (4, (ptr b2 0)), (3, (ptr b1 0)), (0, (.agg #[(.int .i64 uid), (.int .i64 gid)])), (1, (.agg #[(.int .i64 kind), (.int .i64 mode), (.int .i64 auid), (.int .i64 agid), (.int .i64 links), (.int .i64 size)])), (2, (.agg #[(.int .i64 x), (.int .i64 y)]))]) hfd (by kernel_rfl)
          obtain ⟨e13, e14, e15, e12, _, _⟩ := hdd
          have hfd := Fr.add (t := 40) (v := (.agg #[(.int .i64 uid), (.int .i64 gid)])) hfd e13
          have hfd := Fr.add (t := 41) (v := (.agg #[(.int .i64 kind), (.int .i64 mode), (.int .i64 auid), (.int .i64 agid), (.int .i64 links), (.int .i64 size)])) hfd e14
          have hfd := Fr.add (t := 42) (v := (.int .i64 (bits .and .i64 y 7))) hfd e15
          have hfd := Fr.add (t := 39) (v := (.bool true)) hfd e12
          exact G_call (args := #[(.agg #[(.int .i64 uid), (.int .i64 gid)]), (.agg #[(.int .i64 kind), (.int .i64 mode), (.int .i64 auid), (.int .i64 agid), (.int .i64 links), (.int .i64 size)]), (.int .i64 (bits .and .i64 y 7))]) (w := wd) hfd rfl (by kernel_rfl) (by kernel_rfl) (may_any uid gid kind mode auid agid links size (bits .and .i64 y 7) _) fun v w' ⟨he, hl⟩ => ⟨hl, he⟩
        · intro a wd ld hfd hdd
          have hfd := Fr.cast (s' := [(11, (ptr b5 0)), (10, (.int .i64 (bits .and .i64 y 7))), (9, (.int .i64 (bits .and .i64 x 7))), (8, (ptr b4 0)), (7, (.bool true)), (6, (.bool false)), (5, (ptr b3 0)), (4, (ptr b2 0)), (3, (ptr b1 0)), (0, (.agg #[(.int .i64 uid), (.int .i64 gid)])), (1, (.agg #[(.int .i64 kind), (.int .i64 mode), (.int .i64 auid), (.int .i64 agid), (.int .i64 links), (.int .i64 size)])), (2, (.agg #[(.int .i64 x), (.int .i64 y)]))]) hfd (by kernel_rfl)
          obtain ⟨e12, e16, e1, _⟩ := hdd
          have hfd := Fr.add (t := 39) (v := (.bool true)) hfd e12
          have hfd := Fr.add (t := 43) (v := (.bool (mayB uid gid mode auid agid (bits .and .i64 y 7)))) hfd e16
          have hfd := Fr.add (t := 28) (v := (.bool true)) hfd e1
          exact G_val (v := (.bool (mayB uid gid mode auid agid (bits .and .i64 y 7)))) (w' := wd) hfd rfl (by kernel_rfl) (by kernel_rfl) (Le.refl _) rfl
        · intro a wd ld hfd hdd
          have hfd := Fr.cast (s' := [(11, (ptr b5 0)), (10, (.int .i64 (bits .and .i64 y 7))), (9, (.int .i64 (bits .and .i64 x 7))), (8, (ptr b4 0)), (7, (.bool true)), (6, (.bool false)), (5, (ptr b3 0)), (4, (ptr b2 0)), (3, (ptr b1 0)), (0, (.agg #[(.int .i64 uid), (.int .i64 gid)])), (1, (.agg #[(.int .i64 kind), (.int .i64 mode), (.int .i64 auid), (.int .i64 agid), (.int .i64 links), (.int .i64 size)])), (2, (.agg #[(.int .i64 x), (.int .i64 y)]))]) hfd (by kernel_rfl)
          obtain ⟨e7, e17, e1, _⟩ := hdd
          have hfd := Fr.add (t := 34) (v := (.bool (mayB uid gid mode auid agid (bits .or .i64 (bits .and .i64 x 7) (bits .and .i64 y 7))))) hfd e7
          have hfd := Fr.add (t := 44) (v := (.bool (mayB uid gid mode auid agid (bits .and .i64 y 7)))) hfd e17
          have hfd := Fr.add (t := 28) (v := (.bool true)) hfd e1
          exact G_val (v := (.bool true)) (w' := wd) hfd rfl (by kernel_rfl) (eq_bool (by kernel_rfl) c2) (Le.refl _) rfl
        · intro a wd ld hfd hdd
          have hfd := Fr.cast (s' := [(11, (ptr b5 0)), (10, (.int .i64 (bits .and .i64 y 7))), (9, (.int .i64 (bits .and .i64 x 7))), (8, (ptr b4 0)), (7, (.bool true)), (6, (.bool false)), (5, (ptr b3 0)), (4, (ptr b2 0)), (3, (ptr b1 0)), (0, (.agg #[(.int .i64 uid), (.int .i64 gid)])), (1, (.agg #[(.int .i64 kind), (.int .i64 mode), (.int .i64 auid), (.int .i64 agid), (.int .i64 links), (.int .i64 size)])), (2, (.agg #[(.int .i64 x), (.int .i64 y)]))]) hfd (by kernel_rfl)
          obtain ⟨e1, e18, _⟩ := hdd
          have hfd := Fr.add (t := 28) (v := (.bool true)) hfd e1
          have hfd := Fr.add (t := 45) (v := (.bool true)) hfd e18
          exact G_val (v := (.bool true)) (w' := wd) hfd rfl (by kernel_rfl) (by kernel_rfl) (Le.refl _) rfl
        · intro a wd ld hfd hdd
          have hfd := Fr.cast (s' := [(11, (ptr b5 0)), (10, (.int .i64 (bits .and .i64 y 7))), (9, (.int .i64 (bits .and .i64 x 7))), (8, (ptr b4 0)), (7, (.bool true)), (6, (.bool false)), (5, (ptr b3 0)), (4, (ptr b2 0)), (3, (ptr b1 0)), (0, (.agg #[(.int .i64 uid), (.int .i64 gid)])), (1, (.agg #[(.int .i64 kind), (.int .i64 mode), (.int .i64 auid), (.int .i64 agid), (.int .i64 links), (.int .i64 size)])), (2, (.agg #[(.int .i64 x), (.int .i64 y)]))]) hfd (by kernel_rfl)
          obtain ⟨e19, _, _⟩ := hdd
          have hfd := Fr.add (t := 46) (v := (.bool true)) hfd e19
          exact G_val (v := (.bool true)) (w' := wd) hfd rfl (by kernel_rfl) (by kernel_rfl) (Le.refl _) rfl
        · intro a wd ld hfd hdd
          have hfd := Fr.cast (s' := [(11, (ptr b5 0)), (10, (.int .i64 (bits .and .i64 y 7))), (9, (.int .i64 (bits .and .i64 x 7))), (8, (ptr b4 0)), (7, (.bool true)), (6, (.bool false)), (5, (ptr b3 0)), (4, (ptr b2 0)), (3, (ptr b1 0)), (0, (.agg #[(.int .i64 uid), (.int .i64 gid)])), (1, (.agg #[(.int .i64 kind), (.int .i64 mode), (.int .i64 auid), (.int .i64 agid), (.int .i64 links), (.int .i64 size)])), (2, (.agg #[(.int .i64 x), (.int .i64 y)]))]) hfd (by kernel_rfl)
          obtain ⟨e20, _⟩ := hdd
          have hfd := Fr.add (t := 47) (v := (.bool true)) hfd e20
          exact G_val hfd rfl (by kernel_rfl) (load_ev (run_load_row (ld.blk k4) Try.underlying29 rfl (vs := [(.int .i64 uid), (.int .i64 gid)]) (by kernel_rfl) rfl) rfl rfl) (Le.refl _) rfl
        · intro a wd ld hfd hdd
          have hfd := Fr.cast (s' := [(11, (ptr b5 0)), (10, (.int .i64 (bits .and .i64 y 7))), (9, (.int .i64 (bits .and .i64 x 7))), (8, (ptr b4 0)), (7, (.bool true)), (6, (.bool false)), (5, (ptr b3 0)), (4, (ptr b2 0)), (3, (ptr b1 0)), (0, (.agg #[(.int .i64 uid), (.int .i64 gid)])), (1, (.agg #[(.int .i64 kind), (.int .i64 mode), (.int .i64 auid), (.int .i64 agid), (.int .i64 links), (.int .i64 size)])), (2, (.agg #[(.int .i64 x), (.int .i64 y)]))]) hfd (by kernel_rfl)
          obtain ⟨e20, _⟩ := hdd
          have hfd := Fr.add (t := 47) (v := (.bool true)) hfd e20
          exact G_val hfd rfl (by kernel_rfl) (load_ev (run_load_row (ld.blk k2) Try.underlying26 rfl (vs := [(.int .i64 kind), (.int .i64 mode), (.int .i64 auid), (.int .i64 agid), (.int .i64 links), (.int .i64 size)]) (by kernel_rfl) rfl) rfl rfl) (Le.refl _) rfl
        · intro a wd ld hfd hdd
          have hfd := Fr.cast (s' := [(11, (ptr b5 0)), (10, (.int .i64 (bits .and .i64 y 7))), (9, (.int .i64 (bits .and .i64 x 7))), (8, (ptr b4 0)), (7, (.bool true)), (6, (.bool false)), (5, (ptr b3 0)), (4, (ptr b2 0)), (3, (ptr b1 0)), (0, (.agg #[(.int .i64 uid), (.int .i64 gid)])), (1, (.agg #[(.int .i64 kind), (.int .i64 mode), (.int .i64 auid), (.int .i64 agid), (.int .i64 links), (.int .i64 size)])), (2, (.agg #[(.int .i64 x), (.int .i64 y)]))]) hfd (by kernel_rfl)
          obtain ⟨e21, e22, e20, _, _⟩ := hdd
          have hfd := Fr.add (t := 48) (v := (.agg #[(.int .i64 uid), (.int .i64 gid)])) hfd e21
          have hfd := Fr.add (t := 49) (v := (.agg #[(.int .i64 kind), (.int .i64 mode), (.int .i64 auid), (.int .i64 agid), (.int .i64 links), (.int .i64 size)])) hfd e22
          have hfd := Fr.add (t := 47) (v := (.bool true)) hfd e20
          exact G_call (args := #[(.agg #[(.int .i64 uid), (.int .i64 gid)]), (.agg #[(.int .i64 kind), (.int .i64 mode), (.int .i64 auid), (.int .i64 agid), (.int .i64 links), (.int .i64 size)]), (.int .i64 0)]) (w := wd) hfd rfl (by kernel_rfl) (by kernel_rfl) (may_any uid gid kind mode auid agid links size 0 _) fun v w' ⟨he, hl⟩ => ⟨hl, (he.trans (congrArg Value.bool c3))⟩
        · intro a wd ld hfd hdd
          have hfd := Fr.cast (s' := [(11, (ptr b5 0)), (10, (.int .i64 (bits .and .i64 y 7))), (9, (.int .i64 (bits .and .i64 x 7))), (8, (ptr b4 0)), (7, (.bool true)), (6, (.bool false)), (5, (ptr b3 0)), (4, (ptr b2 0)), (3, (ptr b1 0)), (0, (.agg #[(.int .i64 uid), (.int .i64 gid)])), (1, (.agg #[(.int .i64 kind), (.int .i64 mode), (.int .i64 auid), (.int .i64 agid), (.int .i64 links), (.int .i64 size)])), (2, (.agg #[(.int .i64 x), (.int .i64 y)]))]) hfd (by kernel_rfl)
          obtain ⟨e20, e23, _⟩ := hdd
          have hfd := Fr.add (t := 47) (v := (.bool true)) hfd e20
          have hfd := Fr.add (t := 50) (v := (.bool true)) hfd e23
          exact G_val (v := (.bool true)) (w' := wd) hfd rfl (by kernel_rfl) (by kernel_rfl) (Le.refl _) rfl
        · intro a wd ld hfd hdd
          have hfd := Fr.cast (s' := [(11, (ptr b5 0)), (10, (.int .i64 (bits .and .i64 y 7))), (9, (.int .i64 (bits .and .i64 x 7))), (8, (ptr b4 0)), (7, (.bool true)), (6, (.bool false)), (5, (ptr b3 0)), (4, (ptr b2 0)), (3, (ptr b1 0)), (0, (.agg #[(.int .i64 uid), (.int .i64 gid)])), (1, (.agg #[(.int .i64 kind), (.int .i64 mode), (.int .i64 auid), (.int .i64 agid), (.int .i64 links), (.int .i64 size)])), (2, (.agg #[(.int .i64 x), (.int .i64 y)]))]) hfd (by kernel_rfl)
          obtain ⟨e24, _, _⟩ := hdd
          have hfd := Fr.add (t := 51) (v := (.bool true)) hfd e24
          exact G_val (v := (.bool true)) (w' := wd) hfd rfl (by kernel_rfl) (by kernel_rfl) (Le.refl _) rfl
        · intro a wd ld hfd hdd
          have hfd := Fr.cast (s' := [(11, (ptr b5 0)), (10, (.int .i64 (bits .and .i64 y 7))), (9, (.int .i64 (bits .and .i64 x 7))), (8, (ptr b4 0)), (7, (.bool true)), (6, (.bool false)), (5, (ptr b3 0)), (4, (ptr b2 0)), (3, (ptr b1 0)), (0, (.agg #[(.int .i64 uid), (.int .i64 gid)])), (1, (.agg #[(.int .i64 kind), (.int .i64 mode), (.int .i64 auid), (.int .i64 agid), (.int .i64 links), (.int .i64 size)])), (2, (.agg #[(.int .i64 x), (.int .i64 y)]))]) hfd (by kernel_rfl)
          obtain ⟨e25, _⟩ := hdd
          have hfd := Fr.add (t := 52) (v := (.bool true)) hfd e25
          exact G_val hfd rfl (by kernel_rfl) (load_ev (run_load_row (ld.blk k5) Try.underlying29 rfl (vs := [(.int .i64 0), (.int .i64 gid)]) (by kernel_rfl) rfl) rfl rfl) (Le.refl _) rfl
        · intro a wd ld hfd hdd
          have hfd := Fr.cast (s' := [(11, (ptr b5 0)), (10, (.int .i64 (bits .and .i64 y 7))), (9, (.int .i64 (bits .and .i64 x 7))), (8, (ptr b4 0)), (7, (.bool true)), (6, (.bool false)), (5, (ptr b3 0)), (4, (ptr b2 0)), (3, (ptr b1 0)), (0, (.agg #[(.int .i64 uid), (.int .i64 gid)])), (1, (.agg #[(.int .i64 kind), (.int .i64 mode), (.int .i64 auid), (.int .i64 agid), (.int .i64 links), (.int .i64 size)])), (2, (.agg #[(.int .i64 x), (.int .i64 y)]))]) hfd (by kernel_rfl)
          obtain ⟨e25, _⟩ := hdd
          have hfd := Fr.add (t := 52) (v := (.bool true)) hfd e25
          exact G_val hfd rfl (by kernel_rfl) (load_ev (run_load_row (ld.blk k2) Try.underlying26 rfl (vs := [(.int .i64 kind), (.int .i64 mode), (.int .i64 auid), (.int .i64 agid), (.int .i64 links), (.int .i64 size)]) (by kernel_rfl) rfl) rfl rfl) (Le.refl _) rfl
        · intro a wd ld hfd hdd
          have hfd := Fr.cast (s' := [(11, (ptr b5 0)), (10, (.int .i64 (bits .and .i64 y 7))), (9, (.int .i64 (bits .and .i64 x 7))), (8, (ptr b4 0)), (7, (.bool true)), (6, (.bool false)), (5, (ptr b3 0)), (4, (ptr b2 0)), (3, (ptr b1 0)), (0, (.agg #[(.int .i64 uid), (.int .i64 gid)])), (1, (.agg #[(.int .i64 kind), (.int .i64 mode), (.int .i64 auid), (.int .i64 agid), (.int .i64 links), (.int .i64 size)])), (2, (.agg #[(.int .i64 x), (.int .i64 y)]))]) hfd (by kernel_rfl)
          obtain ⟨e25, _⟩ := hdd
          have hfd := Fr.add (t := 52) (v := (.bool true)) hfd e25
          exact G_val (v := (.int .i64 (bits .and .i64 x 7))) (w' := wd) hfd rfl (by kernel_rfl) (by kernel_rfl) (Le.refl _) rfl
        · intro a wd ld hfd hdd
          have hfd := Fr.cast (s' := [(11, (ptr b5 0)), (10, (.int .i64 (bits .and .i64 y 7))), (9, (.int .i64 (bits .and .i64 x 7))), (8, (ptr b4 0)), (7, (.bool true)), (6, (.bool false)), (5, (ptr b3 0)), (4, (ptr b2 0)), (3, (ptr b1 0)), (0, (.agg #[(.int .i64 uid), (.int .i64 gid)])), (1, (.agg #[(.int .i64 kind), (.int .i64 mode), (.int .i64 auid), (.int .i64 agid), (.int .i64 links), (.int .i64 size)])), (2, (.agg #[(.int .i64 x), (.int .i64 y)]))]) hfd (by kernel_rfl)
          obtain ⟨e26, e27, e28, e25, _, _⟩ := hdd
          have hfd := Fr.add (t := 53) (v := (.agg #[(.int .i64 0), (.int .i64 gid)])) hfd e26
          have hfd := Fr.add (t := 54) (v := (.agg #[(.int .i64 kind), (.int .i64 mode), (.int .i64 auid), (.int .i64 agid), (.int .i64 links), (.int .i64 size)])) hfd e27
          have hfd := Fr.add (t := 55) (v := (.int .i64 (bits .and .i64 x 7))) hfd e28
          have hfd := Fr.add (t := 52) (v := (.bool true)) hfd e25
          exact G_call (args := #[(.agg #[(.int .i64 0), (.int .i64 gid)]), (.agg #[(.int .i64 kind), (.int .i64 mode), (.int .i64 auid), (.int .i64 agid), (.int .i64 links), (.int .i64 size)]), (.int .i64 (bits .and .i64 x 7))]) (w := wd) hfd rfl (by kernel_rfl) (by kernel_rfl) (may_any 0 gid kind mode auid agid links size (bits .and .i64 x 7) _) fun v w' ⟨he, hl⟩ => ⟨hl, he⟩
        · intro a wd ld hfd hdd
          have hfd := Fr.cast (s' := [(11, (ptr b5 0)), (10, (.int .i64 (bits .and .i64 y 7))), (9, (.int .i64 (bits .and .i64 x 7))), (8, (ptr b4 0)), (7, (.bool true)), (6, (.bool false)), (5, (ptr b3 0)), (4, (ptr b2 0)), (3, (ptr b1 0)), (0, (.agg #[(.int .i64 uid), (.int .i64 gid)])), (1, (.agg #[(.int .i64 kind), (.int .i64 mode), (.int .i64 auid), (.int .i64 agid), (.int .i64 links), (.int .i64 size)])), (2, (.agg #[(.int .i64 x), (.int .i64 y)]))]) hfd (by kernel_rfl)
          obtain ⟨e25, e29, _⟩ := hdd
          have hfd := Fr.add (t := 52) (v := (.bool true)) hfd e25
          have hfd := Fr.add (t := 56) (v := (.bool (mayB 0 gid mode auid agid (bits .and .i64 x 7)))) hfd e29
          exact G_val (v := (.bool (mayB 0 gid mode auid agid (bits .and .i64 x 7)))) (w' := wd) hfd rfl (by kernel_rfl) (by kernel_rfl) (Le.refl _) rfl
        · intro a wd ld hfd hdd
          have hfd := Fr.cast (s' := [(11, (ptr b5 0)), (10, (.int .i64 (bits .and .i64 y 7))), (9, (.int .i64 (bits .and .i64 x 7))), (8, (ptr b4 0)), (7, (.bool true)), (6, (.bool false)), (5, (ptr b3 0)), (4, (ptr b2 0)), (3, (ptr b1 0)), (0, (.agg #[(.int .i64 uid), (.int .i64 gid)])), (1, (.agg #[(.int .i64 kind), (.int .i64 mode), (.int .i64 auid), (.int .i64 agid), (.int .i64 links), (.int .i64 size)])), (2, (.agg #[(.int .i64 x), (.int .i64 y)]))]) hfd (by kernel_rfl)
          obtain ⟨e30, _, _, _, _, _, _, _, _, _, _, _, _, _, _, _, _, _, _, _, _, _, _, _, _, _, _, _, _, _, _, _, _, _⟩ := hdd
          have hfd := Fr.add (t := 57) (v := (.bool (mayB 0 gid mode auid agid (bits .and .i64 x 7)))) hfd e30
          exact G_val (v := (.bool (mayB 0 gid mode auid agid (bits .and .i64 x 7)))) (w' := wd) hfd rfl (by kernel_rfl) (by kernel_rfl) (Le.refl _) rfl
        intro a1 w9 l2 hf1 fa1
        obtain ⟨q1, q2, q3, q4, q5, q6, q7, q8, q9, q10, q11, q12, q13, q14, q15, q16, q17, q18, q19, q20, q21, q22, q23, q24, q25, q26, q27, q28, q29, q30, q31, q32, _⟩ := fa1
        have hf1 := Fr.cast (s' := [(11, (ptr b5 0)), (10, (.int .i64 (bits .and .i64 y 7))), (9, (.int .i64 (bits .and .i64 x 7))), (8, (ptr b4 0)), (7, (.bool true)), (5, (ptr b3 0)), (4, (ptr b2 0)), (3, (ptr b1 0)), (0, (.agg #[(.int .i64 uid), (.int .i64 gid)])), (1, (.agg #[(.int .i64 kind), (.int .i64 mode), (.int .i64 auid), (.int .i64 agid), (.int .i64 links), (.int .i64 size)])), (2, (.agg #[(.int .i64 x), (.int .i64 y)]))]) hf1 (by kernel_rfl)
        have hf1 := Fr.add (t := 6) (v := (.bool (mayB 0 gid mode auid agid (bits .and .i64 x 7)))) hf1 q32
        have k1 := l2.blk k1
        have k2 := l2.blk k2
        have k3 := l2.blk k3
        have k4 := l2.blk k4
        have k5 := l2.blk k5
        have be9 := l2.below' be8
        refine (?_ : okE .normal _ [(6, (.bool (mayB 0 gid mode auid agid (bits .and .i64 x 7)))), (11, (ptr b5 0)), (10, (.int .i64 (bits .and .i64 y 7))), (9, (.int .i64 (bits .and .i64 x 7))), (8, (ptr b4 0)), (7, (.bool true)), (5, (ptr b3 0)), (4, (ptr b2 0)), (3, (ptr b1 0)), (0, (.agg #[(.int .i64 uid), (.int .i64 gid)])), (1, (.agg #[(.int .i64 kind), (.int .i64 mode), (.int .i64 auid), (.int .i64 agid), (.int .i64 links), (.int .i64 size)])), (2, (.agg #[(.int .i64 x), (.int .i64 y)]))] _ _) a1 (hf1.sub ⟨rfl, rfl, rfl, rfl, rfl, rfl, rfl, rfl, rfl, rfl, rfl, rfl, trivial⟩)
        refine E_then_normal ?_
        refine C_ret ?_
        refine E_ret (res_one rfl rfl) ⟨_, rfl, ?_⟩
        exact ⟨congrArg Value.bool (by first | rfl | (simp [may_or, may_zero, may_root, c1, c2, c3]; done) | (exfalso; revert c1 c2 c3; decide) | (exfalso; simp_all [may_or, may_zero, may_root]; done)), be9⟩
      · refine C_draw [fun _ v => v = (.bool true), fun _ v => v = (.bool true), fun _ v => v = (.agg #[(.int .i64 uid), (.int .i64 gid)]), fun _ v => v = (.agg #[(.int .i64 kind), (.int .i64 mode), (.int .i64 auid), (.int .i64 agid), (.int .i64 links), (.int .i64 size)]), fun _ v => v = (.int .i64 (bits .and .i64 x 7)), fun _ v => v = (.int .i64 (bits .and .i64 y 7)), fun _ v => v = (.int .i64 (bits .or .i64 (bits .and .i64 x 7) (bits .and .i64 y 7))), fun _ v => v = (.bool (mayB uid gid mode auid agid (bits .or .i64 (bits .and .i64 x 7) (bits .and .i64 y 7)))), fun _ v => v = (.agg #[(.int .i64 uid), (.int .i64 gid)]), fun _ v => v = (.agg #[(.int .i64 kind), (.int .i64 mode), (.int .i64 auid), (.int .i64 agid), (.int .i64 links), (.int .i64 size)]), fun _ v => v = (.int .i64 (bits .and .i64 x 7)), fun _ v => v = (.bool true), fun _ v => v = (.bool true), fun _ v => v = (.agg #[(.int .i64 uid), (.int .i64 gid)]), fun _ v => v = (.agg #[(.int .i64 kind), (.int .i64 mode), (.int .i64 auid), (.int .i64 agid), (.int .i64 links), (.int .i64 size)]), fun _ v => v = (.int .i64 (bits .and .i64 y 7)), fun _ v => v = (.bool (mayB uid gid mode auid agid (bits .and .i64 y 7))), fun _ v => v = (.bool (mayB uid gid mode auid agid (bits .and .i64 y 7))), fun _ v => v = (.bool true), fun _ v => v = (.bool true), fun _ v => v = (.bool true), fun _ v => v = (.agg #[(.int .i64 uid), (.int .i64 gid)]), fun _ v => v = (.agg #[(.int .i64 kind), (.int .i64 mode), (.int .i64 auid), (.int .i64 agid), (.int .i64 links), (.int .i64 size)]), fun _ v => v = (.bool false), fun _ v => v = (.bool false), fun _ v => v = (.bool false), fun _ v => v = undef, fun _ v => v = undef, fun _ v => v = undef, fun _ v => v = undef, fun _ v => v = (.bool false), fun _ v => v = (.bool false)] (by kernel_rfl) (by kernel_rfl) (by kernel_rfl) ⟨stab_exact _, stab_exact _, stab_exact _, stab_exact _, stab_exact _, stab_exact _, stab_exact _, stab_exact _, stab_exact _, stab_exact _, stab_exact _, stab_exact _, stab_exact _, stab_exact _, stab_exact _, stab_exact _, stab_exact _, stab_exact _, stab_exact _, stab_exact _, stab_exact _, stab_exact _, stab_exact _, stab_exact _, stab_exact _, stab_exact _, stab_exact _, stab_exact _, stab_exact _, stab_exact _, stab_exact _, stab_exact _, trivial⟩ ⟨?_, ?_, ?_, ?_, ?_, ?_, ?_, ?_, ?_, ?_, ?_, ?_, ?_, ?_, ?_, ?_, ?_, ?_, ?_, ?_, ?_, ?_, ?_, ?_, ?_, ?_, ?_, ?_, ?_, ?_, ?_, ?_, trivial⟩ ?_
        · intro a wd ld hfd hdd
          have hfd := Fr.cast (s' := [(11, (ptr b5 0)), (10, (.int .i64 (bits .and .i64 y 7))), (9, (.int .i64 (bits .and .i64 x 7))), (8, (ptr b4 0)), (7, (.bool true)), (6, (.bool false)), (5, (ptr b3 0)), (4, (ptr b2 0)), (3, (ptr b1 0)), (0, (.agg #[(.int .i64 uid), (.int .i64 gid)])), (1, (.agg #[(.int .i64 kind), (.int .i64 mode), (.int .i64 auid), (.int .i64 agid), (.int .i64 links), (.int .i64 size)])), (2, (.agg #[(.int .i64 x), (.int .i64 y)]))]) hfd (by kernel_rfl)
          exact G_val (v := (.bool true)) (w' := wd) hfd rfl (by kernel_rfl) (by kernel_rfl) (Le.refl _) rfl
        · intro a wd ld hfd hdd
          have hfd := Fr.cast (s' := [(11, (ptr b5 0)), (10, (.int .i64 (bits .and .i64 y 7))), (9, (.int .i64 (bits .and .i64 x 7))), (8, (ptr b4 0)), (7, (.bool true)), (6, (.bool false)), (5, (ptr b3 0)), (4, (ptr b2 0)), (3, (ptr b1 0)), (0, (.agg #[(.int .i64 uid), (.int .i64 gid)])), (1, (.agg #[(.int .i64 kind), (.int .i64 mode), (.int .i64 auid), (.int .i64 agid), (.int .i64 links), (.int .i64 size)])), (2, (.agg #[(.int .i64 x), (.int .i64 y)]))]) hfd (by kernel_rfl)
          obtain ⟨e0, _⟩ := hdd
          have hfd := Fr.add (t := 27) (v := (.bool true)) hfd e0
          exact G_val (v := (.bool true)) (w' := wd) hfd rfl (by kernel_rfl) (by kernel_rfl) (Le.refl _) rfl
        · intro a wd ld hfd hdd
          have hfd := Fr.cast (s' := [(11, (ptr b5 0)), (10, (.int .i64 (bits .and .i64 y 7))), (9, (.int .i64 (bits .and .i64 x 7))), (8, (ptr b4 0)), (7, (.bool true)), (6, (.bool false)), (5, (ptr b3 0)), (4, (ptr b2 0)), (3, (ptr b1 0)), (0, (.agg #[(.int .i64 uid), (.int .i64 gid)])), (1, (.agg #[(.int .i64 kind), (.int .i64 mode), (.int .i64 auid), (.int .i64 agid), (.int .i64 links), (.int .i64 size)])), (2, (.agg #[(.int .i64 x), (.int .i64 y)]))]) hfd (by kernel_rfl)
          obtain ⟨e1, _⟩ := hdd
          have hfd := Fr.add (t := 28) (v := (.bool true)) hfd e1
          exact G_val hfd rfl (by kernel_rfl) (load_ev (run_load_row (ld.blk k4) Try.underlying29 rfl (vs := [(.int .i64 uid), (.int .i64 gid)]) (by kernel_rfl) rfl) rfl rfl) (Le.refl _) rfl
        · intro a wd ld hfd hdd
          have hfd := Fr.cast (s' := [(11, (ptr b5 0)), (10, (.int .i64 (bits .and .i64 y 7))), (9, (.int .i64 (bits .and .i64 x 7))), (8, (ptr b4 0)), (7, (.bool true)), (6, (.bool false)), (5, (ptr b3 0)), (4, (ptr b2 0)), (3, (ptr b1 0)), (0, (.agg #[(.int .i64 uid), (.int .i64 gid)])), (1, (.agg #[(.int .i64 kind), (.int .i64 mode), (.int .i64 auid), (.int .i64 agid), (.int .i64 links), (.int .i64 size)])), (2, (.agg #[(.int .i64 x), (.int .i64 y)]))]) hfd (by kernel_rfl)
          obtain ⟨e1, _⟩ := hdd
          have hfd := Fr.add (t := 28) (v := (.bool true)) hfd e1
          exact G_val hfd rfl (by kernel_rfl) (load_ev (run_load_row (ld.blk k2) Try.underlying26 rfl (vs := [(.int .i64 kind), (.int .i64 mode), (.int .i64 auid), (.int .i64 agid), (.int .i64 links), (.int .i64 size)]) (by kernel_rfl) rfl) rfl rfl) (Le.refl _) rfl
        · intro a wd ld hfd hdd
          have hfd := Fr.cast (s' := [(11, (ptr b5 0)), (10, (.int .i64 (bits .and .i64 y 7))), (9, (.int .i64 (bits .and .i64 x 7))), (8, (ptr b4 0)), (7, (.bool true)), (6, (.bool false)), (5, (ptr b3 0)), (4, (ptr b2 0)), (3, (ptr b1 0)), (0, (.agg #[(.int .i64 uid), (.int .i64 gid)])), (1, (.agg #[(.int .i64 kind), (.int .i64 mode), (.int .i64 auid), (.int .i64 agid), (.int .i64 links), (.int .i64 size)])), (2, (.agg #[(.int .i64 x), (.int .i64 y)]))]) hfd (by kernel_rfl)
          obtain ⟨e1, _⟩ := hdd
          have hfd := Fr.add (t := 28) (v := (.bool true)) hfd e1
          exact G_val (v := (.int .i64 (bits .and .i64 x 7))) (w' := wd) hfd rfl (by kernel_rfl) (by kernel_rfl) (Le.refl _) rfl
        · intro a wd ld hfd hdd
          have hfd := Fr.cast (s' := [(11, (ptr b5 0)), (10, (.int .i64 (bits .and .i64 y 7))), (9, (.int .i64 (bits .and .i64 x 7))), (8, (ptr b4 0)), (7, (.bool true)), (6, (.bool false)), (5, (ptr b3 0)), (4, (ptr b2 0)), (3, (ptr b1 0)), (0, (.agg #[(.int .i64 uid), (.int .i64 gid)])), (1, (.agg #[(.int .i64 kind), (.int .i64 mode), (.int .i64 auid), (.int .i64 agid), (.int .i64 links), (.int .i64 size)])), (2, (.agg #[(.int .i64 x), (.int .i64 y)]))]) hfd (by kernel_rfl)
          obtain ⟨e1, _⟩ := hdd
          have hfd := Fr.add (t := 28) (v := (.bool true)) hfd e1
          exact G_val (v := (.int .i64 (bits .and .i64 y 7))) (w' := wd) hfd rfl (by kernel_rfl) (by kernel_rfl) (Le.refl _) rfl
        · intro a wd ld hfd hdd
          have hfd := Fr.cast (s' := [(11, (ptr b5 0)), (10, (.int .i64 (bits .and .i64 y 7))), (9, (.int .i64 (bits .and .i64 x 7))), (8, (ptr b4 0)), (7, (.bool true)), (6, (.bool false)), (5, (ptr b3 0)), (4, (ptr b2 0)), (3, (ptr b1 0)), (0, (.agg #[(.int .i64 uid), (.int .i64 gid)])), (1, (.agg #[(.int .i64 kind), (.int .i64 mode), (.int .i64 auid), (.int .i64 agid), (.int .i64 links), (.int .i64 size)])), (2, (.agg #[(.int .i64 x), (.int .i64 y)]))]) hfd (by kernel_rfl)
          obtain ⟨e4, e5, e1, _⟩ := hdd
          have hfd := Fr.add (t := 31) (v := (.int .i64 (bits .and .i64 x 7))) hfd e4
          have hfd := Fr.add (t := 32) (v := (.int .i64 (bits .and .i64 y 7))) hfd e5
          have hfd := Fr.add (t := 28) (v := (.bool true)) hfd e1
          exact G_val (v := (.int .i64 (bits .or .i64 (bits .and .i64 x 7) (bits .and .i64 y 7)))) (w' := wd) hfd rfl (by kernel_rfl) (by kernel_rfl) (Le.refl _) rfl
        · intro a wd ld hfd hdd
          have hfd := Fr.cast (s' := [(11, (ptr b5 0)), (10, (.int .i64 (bits .and .i64 y 7))), (9, (.int .i64 (bits .and .i64 x 7))), (8, (ptr b4 0)), (7, (.bool true)), (6, (.bool false)), (5, (ptr b3 0)), (4, (ptr b2 0)), (3, (ptr b1 0)), (0, (.agg #[(.int .i64 uid), (.int .i64 gid)])), (1, (.agg #[(.int .i64 kind), (.int .i64 mode), (.int .i64 auid), (.int .i64 agid), (.int .i64 links), (.int .i64 size)])), (2, (.agg #[(.int .i64 x), (.int .i64 y)]))]) hfd (by kernel_rfl)
          obtain ⟨e2, e3, e6, e1, _, _⟩ := hdd
          have hfd := Fr.add (t := 29) (v := (.agg #[(.int .i64 uid), (.int .i64 gid)])) hfd e2
          have hfd := Fr.add (t := 30) (v := (.agg #[(.int .i64 kind), (.int .i64 mode), (.int .i64 auid), (.int .i64 agid), (.int .i64 links), (.int .i64 size)])) hfd e3
          have hfd := Fr.add (t := 33) (v := (.int .i64 (bits .or .i64 (bits .and .i64 x 7) (bits .and .i64 y 7)))) hfd e6
          have hfd := Fr.add (t := 28) (v := (.bool true)) hfd e1
          exact G_call (args := #[(.agg #[(.int .i64 uid), (.int .i64 gid)]), (.agg #[(.int .i64 kind), (.int .i64 mode), (.int .i64 auid), (.int .i64 agid), (.int .i64 links), (.int .i64 size)]), (.int .i64 (bits .or .i64 (bits .and .i64 x 7) (bits .and .i64 y 7)))]) (w := wd) hfd rfl (by kernel_rfl) (by kernel_rfl) (may_any uid gid kind mode auid agid links size (bits .or .i64 (bits .and .i64 x 7) (bits .and .i64 y 7)) _) fun v w' ⟨he, hl⟩ => ⟨hl, he⟩
        · intro a wd ld hfd hdd
          have hfd := Fr.cast (s' := [(11, (ptr b5 0)), (10, (.int .i64 (bits .and .i64 y 7))), (9, (.int .i64 (bits .and .i64 x 7))), (8, (ptr b4 0)), (7, (.bool true)), (6, (.bool false)), (5, (ptr b3 0)), (4, (ptr b2 0)), (3, (ptr b1 0)), (0, (.agg #[(.int .i64 uid), (.int .i64 gid)])), (1, (.agg #[(.int .i64 kind), (.int .i64 mode), (.int .i64 auid), (.int .i64 agid), (.int .i64 links), (.int .i64 size)])), (2, (.agg #[(.int .i64 x), (.int .i64 y)]))]) hfd (by kernel_rfl)
          obtain ⟨e1, _⟩ := hdd
          have hfd := Fr.add (t := 28) (v := (.bool true)) hfd e1
          exact G_val hfd rfl (by kernel_rfl) (load_ev (run_load_row (ld.blk k4) Try.underlying29 rfl (vs := [(.int .i64 uid), (.int .i64 gid)]) (by kernel_rfl) rfl) rfl rfl) (Le.refl _) rfl
        · intro a wd ld hfd hdd
          have hfd := Fr.cast (s' := [(11, (ptr b5 0)), (10, (.int .i64 (bits .and .i64 y 7))), (9, (.int .i64 (bits .and .i64 x 7))), (8, (ptr b4 0)), (7, (.bool true)), (6, (.bool false)), (5, (ptr b3 0)), (4, (ptr b2 0)), (3, (ptr b1 0)), (0, (.agg #[(.int .i64 uid), (.int .i64 gid)])), (1, (.agg #[(.int .i64 kind), (.int .i64 mode), (.int .i64 auid), (.int .i64 agid), (.int .i64 links), (.int .i64 size)])), (2, (.agg #[(.int .i64 x), (.int .i64 y)]))]) hfd (by kernel_rfl)
          obtain ⟨e1, _⟩ := hdd
          have hfd := Fr.add (t := 28) (v := (.bool true)) hfd e1
          exact G_val hfd rfl (by kernel_rfl) (load_ev (run_load_row (ld.blk k2) Try.underlying26 rfl (vs := [(.int .i64 kind), (.int .i64 mode), (.int .i64 auid), (.int .i64 agid), (.int .i64 links), (.int .i64 size)]) (by kernel_rfl) rfl) rfl rfl) (Le.refl _) rfl
        · intro a wd ld hfd hdd
          have hfd := Fr.cast (s' := [(11, (ptr b5 0)), (10, (.int .i64 (bits .and .i64 y 7))), (9, (.int .i64 (bits .and .i64 x 7))), (8, (ptr b4 0)), (7, (.bool true)), (6, (.bool false)), (5, (ptr b3 0)), (4, (ptr b2 0)), (3, (ptr b1 0)), (0, (.agg #[(.int .i64 uid), (.int .i64 gid)])), (1, (.agg #[(.int .i64 kind), (.int .i64 mode), (.int .i64 auid), (.int .i64 agid), (.int .i64 links), (.int .i64 size)])), (2, (.agg #[(.int .i64 x), (.int .i64 y)]))]) hfd (by kernel_rfl)
          obtain ⟨e1, _⟩ := hdd
          have hfd := Fr.add (t := 28) (v := (.bool true)) hfd e1
          exact G_val (v := (.int .i64 (bits .and .i64 x 7))) (w' := wd) hfd rfl (by kernel_rfl) (by kernel_rfl) (Le.refl _) rfl
        · intro a wd ld hfd hdd
          have hfd := Fr.cast (s' := [(11, (ptr b5 0)), (10, (.int .i64 (bits .and .i64 y 7))), (9, (.int .i64 (bits .and .i64 x 7))), (8, (ptr b4 0)), (7, (.bool true)), (6, (.bool false)), (5, (ptr b3 0)), (4, (ptr b2 0)), (3, (ptr b1 0)), (0, (.agg #[(.int .i64 uid), (.int .i64 gid)])), (1, (.agg #[(.int .i64 kind), (.int .i64 mode), (.int .i64 auid), (.int .i64 agid), (.int .i64 links), (.int .i64 size)])), (2, (.agg #[(.int .i64 x), (.int .i64 y)]))]) hfd (by kernel_rfl)
          obtain ⟨e8, e9, e10, _, e1, _⟩ := hdd
          have hfd := Fr.add (t := 35) (v := (.agg #[(.int .i64 uid), (.int .i64 gid)])) hfd e8
          have hfd := Fr.add (t := 36) (v := (.agg #[(.int .i64 kind), (.int .i64 mode), (.int .i64 auid), (.int .i64 agid), (.int .i64 links), (.int .i64 size)])) hfd e9
          have hfd := Fr.add (t := 37) (v := (.int .i64 (bits .and .i64 x 7))) hfd e10
          have hfd := Fr.add (t := 28) (v := (.bool true)) hfd e1
          exact G_call (args := #[(.agg #[(.int .i64 uid), (.int .i64 gid)]), (.agg #[(.int .i64 kind), (.int .i64 mode), (.int .i64 auid), (.int .i64 agid), (.int .i64 links), (.int .i64 size)]), (.int .i64 (bits .and .i64 x 7))]) (w := wd) hfd rfl (by kernel_rfl) (by kernel_rfl) (may_any uid gid kind mode auid agid links size (bits .and .i64 x 7) _) fun v w' ⟨he, hl⟩ => ⟨hl, (he.trans (congrArg Value.bool c1))⟩
        · intro a wd ld hfd hdd
          have hfd := Fr.cast (s' := [(11, (ptr b5 0)), (10, (.int .i64 (bits .and .i64 y 7))), (9, (.int .i64 (bits .and .i64 x 7))), (8, (ptr b4 0)), (7, (.bool true)), (6, (.bool false)), (5, (ptr b3 0)), (4, (ptr b2 0)), (3, (ptr b1 0)), (0, (.agg #[(.int .i64 uid), (.int .i64 gid)])), (1, (.agg #[(.int .i64 kind), (.int .i64 mode), (.int .i64 auid), (.int .i64 agid), (.int .i64 links), (.int .i64 size)])), (2, (.agg #[(.int .i64 x), (.int .i64 y)]))]) hfd (by kernel_rfl)
          obtain ⟨e11, _, e1, _⟩ := hdd
          have hfd := Fr.add (t := 38) (v := (.bool true)) hfd e11
          have hfd := Fr.add (t := 28) (v := (.bool true)) hfd e1
          exact G_val (v := (.bool true)) (w' := wd) hfd rfl (by kernel_rfl) (by kernel_rfl) (Le.refl _) rfl
        · intro a wd ld hfd hdd
          have hfd := Fr.cast (s' := [(11, (ptr b5 0)), (10, (.int .i64 (bits .and .i64 y 7))), (9, (.int .i64 (bits .and .i64 x 7))), (8, (ptr b4 0)), (7, (.bool true)), (6, (.bool false)), (5, (ptr b3 0)), (4, (ptr b2 0)), (3, (ptr b1 0)), (0, (.agg #[(.int .i64 uid), (.int .i64 gid)])), (1, (.agg #[(.int .i64 kind), (.int .i64 mode), (.int .i64 auid), (.int .i64 agid), (.int .i64 links), (.int .i64 size)])), (2, (.agg #[(.int .i64 x), (.int .i64 y)]))]) hfd (by kernel_rfl)
          obtain ⟨e12, _⟩ := hdd
          have hfd := Fr.add (t := 39) (v := (.bool true)) hfd e12
          exact G_val hfd rfl (by kernel_rfl) (load_ev (run_load_row (ld.blk k4) Try.underlying29 rfl (vs := [(.int .i64 uid), (.int .i64 gid)]) (by kernel_rfl) rfl) rfl rfl) (Le.refl _) rfl
        · intro a wd ld hfd hdd
          have hfd := Fr.cast (s' := [(11, (ptr b5 0)), (10, (.int .i64 (bits .and .i64 y 7))), (9, (.int .i64 (bits .and .i64 x 7))), (8, (ptr b4 0)), (7, (.bool true)), (6, (.bool false)), (5, (ptr b3 0)), (4, (ptr b2 0)), (3, (ptr b1 0)), (0, (.agg #[(.int .i64 uid), (.int .i64 gid)])), (1, (.agg #[(.int .i64 kind), (.int .i64 mode), (.int .i64 auid), (.int .i64 agid), (.int .i64 links), (.int .i64 size)])), (2, (.agg #[(.int .i64 x), (.int .i64 y)]))]) hfd (by kernel_rfl)
          obtain ⟨e12, _⟩ := hdd
          have hfd := Fr.add (t := 39) (v := (.bool true)) hfd e12
          exact G_val hfd rfl (by kernel_rfl) (load_ev (run_load_row (ld.blk k2) Try.underlying26 rfl (vs := [(.int .i64 kind), (.int .i64 mode), (.int .i64 auid), (.int .i64 agid), (.int .i64 links), (.int .i64 size)]) (by kernel_rfl) rfl) rfl rfl) (Le.refl _) rfl
        · intro a wd ld hfd hdd
          have hfd := Fr.cast (s' := [(11, (ptr b5 0)), (10, (.int .i64 (bits .and .i64 y 7))), (9, (.int .i64 (bits .and .i64 x 7))), (8, (ptr b4 0)), (7, (.bool true)), (6, (.bool false)), (5, (ptr b3 0)), (4, (ptr b2 0)), (3, (ptr b1 0)), (0, (.agg #[(.int .i64 uid), (.int .i64 gid)])), (1, (.agg #[(.int .i64 kind), (.int .i64 mode), (.int .i64 auid), (.int .i64 agid), (.int .i64 links), (.int .i64 size)])), (2, (.agg #[(.int .i64 x), (.int .i64 y)]))]) hfd (by kernel_rfl)
          obtain ⟨e12, _⟩ := hdd
          have hfd := Fr.add (t := 39) (v := (.bool true)) hfd e12
          exact G_val (v := (.int .i64 (bits .and .i64 y 7))) (w' := wd) hfd rfl (by kernel_rfl) (by kernel_rfl) (Le.refl _) rfl
        · intro a wd ld hfd hdd
          have hfd := Fr.cast (s' := [(11, (ptr b5 0)), (10, (.int .i64 (bits .and .i64 y 7))), (9, (.int .i64 (bits .and .i64 x 7))), (8, (ptr b4 0)), (7, (.bool true)), (6, (.bool false)), (5, (ptr b3 0)), (4, (ptr b2 0)), (3, (ptr b1 0)), (0, (.agg #[(.int .i64 uid), (.int .i64 gid)])), (1, (.agg #[(.int .i64 kind), (.int .i64 mode), (.int .i64 auid), (.int .i64 agid), (.int .i64 links), (.int .i64 size)])), (2, (.agg #[(.int .i64 x), (.int .i64 y)]))]) hfd (by kernel_rfl)
          obtain ⟨e13, e14, e15, e12, _, _⟩ := hdd
          have hfd := Fr.add (t := 40) (v := (.agg #[(.int .i64 uid), (.int .i64 gid)])) hfd e13
          have hfd := Fr.add (t := 41) (v := (.agg #[(.int .i64 kind), (.int .i64 mode), (.int .i64 auid), (.int .i64 agid), (.int .i64 links), (.int .i64 size)])) hfd e14
          have hfd := Fr.add (t := 42) (v := (.int .i64 (bits .and .i64 y 7))) hfd e15
          have hfd := Fr.add (t := 39) (v := (.bool true)) hfd e12
          exact G_call (args := #[(.agg #[(.int .i64 uid), (.int .i64 gid)]), (.agg #[(.int .i64 kind), (.int .i64 mode), (.int .i64 auid), (.int .i64 agid), (.int .i64 links), (.int .i64 size)]), (.int .i64 (bits .and .i64 y 7))]) (w := wd) hfd rfl (by kernel_rfl) (by kernel_rfl) (may_any uid gid kind mode auid agid links size (bits .and .i64 y 7) _) fun v w' ⟨he, hl⟩ => ⟨hl, he⟩
        · intro a wd ld hfd hdd
          have hfd := Fr.cast (s' := [(11, (ptr b5 0)), (10, (.int .i64 (bits .and .i64 y 7))), (9, (.int .i64 (bits .and .i64 x 7))), (8, (ptr b4 0)), (7, (.bool true)), (6, (.bool false)), (5, (ptr b3 0)), (4, (ptr b2 0)), (3, (ptr b1 0)), (0, (.agg #[(.int .i64 uid), (.int .i64 gid)])), (1, (.agg #[(.int .i64 kind), (.int .i64 mode), (.int .i64 auid), (.int .i64 agid), (.int .i64 links), (.int .i64 size)])), (2, (.agg #[(.int .i64 x), (.int .i64 y)]))]) hfd (by kernel_rfl)
          obtain ⟨e12, e16, e1, _⟩ := hdd
          have hfd := Fr.add (t := 39) (v := (.bool true)) hfd e12
          have hfd := Fr.add (t := 43) (v := (.bool (mayB uid gid mode auid agid (bits .and .i64 y 7)))) hfd e16
          have hfd := Fr.add (t := 28) (v := (.bool true)) hfd e1
          exact G_val (v := (.bool (mayB uid gid mode auid agid (bits .and .i64 y 7)))) (w' := wd) hfd rfl (by kernel_rfl) (by kernel_rfl) (Le.refl _) rfl
        · intro a wd ld hfd hdd
          have hfd := Fr.cast (s' := [(11, (ptr b5 0)), (10, (.int .i64 (bits .and .i64 y 7))), (9, (.int .i64 (bits .and .i64 x 7))), (8, (ptr b4 0)), (7, (.bool true)), (6, (.bool false)), (5, (ptr b3 0)), (4, (ptr b2 0)), (3, (ptr b1 0)), (0, (.agg #[(.int .i64 uid), (.int .i64 gid)])), (1, (.agg #[(.int .i64 kind), (.int .i64 mode), (.int .i64 auid), (.int .i64 agid), (.int .i64 links), (.int .i64 size)])), (2, (.agg #[(.int .i64 x), (.int .i64 y)]))]) hfd (by kernel_rfl)
          obtain ⟨e7, e17, e1, _⟩ := hdd
          have hfd := Fr.add (t := 34) (v := (.bool (mayB uid gid mode auid agid (bits .or .i64 (bits .and .i64 x 7) (bits .and .i64 y 7))))) hfd e7
          have hfd := Fr.add (t := 44) (v := (.bool (mayB uid gid mode auid agid (bits .and .i64 y 7)))) hfd e17
          have hfd := Fr.add (t := 28) (v := (.bool true)) hfd e1
          exact G_val (v := (.bool true)) (w' := wd) hfd rfl (by kernel_rfl) (eq_bool (by kernel_rfl) c2) (Le.refl _) rfl
        · intro a wd ld hfd hdd
          have hfd := Fr.cast (s' := [(11, (ptr b5 0)), (10, (.int .i64 (bits .and .i64 y 7))), (9, (.int .i64 (bits .and .i64 x 7))), (8, (ptr b4 0)), (7, (.bool true)), (6, (.bool false)), (5, (ptr b3 0)), (4, (ptr b2 0)), (3, (ptr b1 0)), (0, (.agg #[(.int .i64 uid), (.int .i64 gid)])), (1, (.agg #[(.int .i64 kind), (.int .i64 mode), (.int .i64 auid), (.int .i64 agid), (.int .i64 links), (.int .i64 size)])), (2, (.agg #[(.int .i64 x), (.int .i64 y)]))]) hfd (by kernel_rfl)
          obtain ⟨e1, e18, _⟩ := hdd
          have hfd := Fr.add (t := 28) (v := (.bool true)) hfd e1
          have hfd := Fr.add (t := 45) (v := (.bool true)) hfd e18
          exact G_val (v := (.bool true)) (w' := wd) hfd rfl (by kernel_rfl) (by kernel_rfl) (Le.refl _) rfl
        · intro a wd ld hfd hdd
          have hfd := Fr.cast (s' := [(11, (ptr b5 0)), (10, (.int .i64 (bits .and .i64 y 7))), (9, (.int .i64 (bits .and .i64 x 7))), (8, (ptr b4 0)), (7, (.bool true)), (6, (.bool false)), (5, (ptr b3 0)), (4, (ptr b2 0)), (3, (ptr b1 0)), (0, (.agg #[(.int .i64 uid), (.int .i64 gid)])), (1, (.agg #[(.int .i64 kind), (.int .i64 mode), (.int .i64 auid), (.int .i64 agid), (.int .i64 links), (.int .i64 size)])), (2, (.agg #[(.int .i64 x), (.int .i64 y)]))]) hfd (by kernel_rfl)
          obtain ⟨e19, _, _⟩ := hdd
          have hfd := Fr.add (t := 46) (v := (.bool true)) hfd e19
          exact G_val (v := (.bool true)) (w' := wd) hfd rfl (by kernel_rfl) (by kernel_rfl) (Le.refl _) rfl
        · intro a wd ld hfd hdd
          have hfd := Fr.cast (s' := [(11, (ptr b5 0)), (10, (.int .i64 (bits .and .i64 y 7))), (9, (.int .i64 (bits .and .i64 x 7))), (8, (ptr b4 0)), (7, (.bool true)), (6, (.bool false)), (5, (ptr b3 0)), (4, (ptr b2 0)), (3, (ptr b1 0)), (0, (.agg #[(.int .i64 uid), (.int .i64 gid)])), (1, (.agg #[(.int .i64 kind), (.int .i64 mode), (.int .i64 auid), (.int .i64 agid), (.int .i64 links), (.int .i64 size)])), (2, (.agg #[(.int .i64 x), (.int .i64 y)]))]) hfd (by kernel_rfl)
          obtain ⟨e20, _⟩ := hdd
          have hfd := Fr.add (t := 47) (v := (.bool true)) hfd e20
          exact G_val hfd rfl (by kernel_rfl) (load_ev (run_load_row (ld.blk k4) Try.underlying29 rfl (vs := [(.int .i64 uid), (.int .i64 gid)]) (by kernel_rfl) rfl) rfl rfl) (Le.refl _) rfl
        · intro a wd ld hfd hdd
          have hfd := Fr.cast (s' := [(11, (ptr b5 0)), (10, (.int .i64 (bits .and .i64 y 7))), (9, (.int .i64 (bits .and .i64 x 7))), (8, (ptr b4 0)), (7, (.bool true)), (6, (.bool false)), (5, (ptr b3 0)), (4, (ptr b2 0)), (3, (ptr b1 0)), (0, (.agg #[(.int .i64 uid), (.int .i64 gid)])), (1, (.agg #[(.int .i64 kind), (.int .i64 mode), (.int .i64 auid), (.int .i64 agid), (.int .i64 links), (.int .i64 size)])), (2, (.agg #[(.int .i64 x), (.int .i64 y)]))]) hfd (by kernel_rfl)
          obtain ⟨e20, _⟩ := hdd
          have hfd := Fr.add (t := 47) (v := (.bool true)) hfd e20
          exact G_val hfd rfl (by kernel_rfl) (load_ev (run_load_row (ld.blk k2) Try.underlying26 rfl (vs := [(.int .i64 kind), (.int .i64 mode), (.int .i64 auid), (.int .i64 agid), (.int .i64 links), (.int .i64 size)]) (by kernel_rfl) rfl) rfl rfl) (Le.refl _) rfl
        · intro a wd ld hfd hdd
          have hfd := Fr.cast (s' := [(11, (ptr b5 0)), (10, (.int .i64 (bits .and .i64 y 7))), (9, (.int .i64 (bits .and .i64 x 7))), (8, (ptr b4 0)), (7, (.bool true)), (6, (.bool false)), (5, (ptr b3 0)), (4, (ptr b2 0)), (3, (ptr b1 0)), (0, (.agg #[(.int .i64 uid), (.int .i64 gid)])), (1, (.agg #[(.int .i64 kind), (.int .i64 mode), (.int .i64 auid), (.int .i64 agid), (.int .i64 links), (.int .i64 size)])), (2, (.agg #[(.int .i64 x), (.int .i64 y)]))]) hfd (by kernel_rfl)
          obtain ⟨e21, e22, e20, _, _⟩ := hdd
          have hfd := Fr.add (t := 48) (v := (.agg #[(.int .i64 uid), (.int .i64 gid)])) hfd e21
          have hfd := Fr.add (t := 49) (v := (.agg #[(.int .i64 kind), (.int .i64 mode), (.int .i64 auid), (.int .i64 agid), (.int .i64 links), (.int .i64 size)])) hfd e22
          have hfd := Fr.add (t := 47) (v := (.bool true)) hfd e20
          exact G_call (args := #[(.agg #[(.int .i64 uid), (.int .i64 gid)]), (.agg #[(.int .i64 kind), (.int .i64 mode), (.int .i64 auid), (.int .i64 agid), (.int .i64 links), (.int .i64 size)]), (.int .i64 0)]) (w := wd) hfd rfl (by kernel_rfl) (by kernel_rfl) (may_any uid gid kind mode auid agid links size 0 _) fun v w' ⟨he, hl⟩ => ⟨hl, (he.trans (congrArg Value.bool c3))⟩
        · intro a wd ld hfd hdd
          have hfd := Fr.cast (s' := [(11, (ptr b5 0)), (10, (.int .i64 (bits .and .i64 y 7))), (9, (.int .i64 (bits .and .i64 x 7))), (8, (ptr b4 0)), (7, (.bool true)), (6, (.bool false)), (5, (ptr b3 0)), (4, (ptr b2 0)), (3, (ptr b1 0)), (0, (.agg #[(.int .i64 uid), (.int .i64 gid)])), (1, (.agg #[(.int .i64 kind), (.int .i64 mode), (.int .i64 auid), (.int .i64 agid), (.int .i64 links), (.int .i64 size)])), (2, (.agg #[(.int .i64 x), (.int .i64 y)]))]) hfd (by kernel_rfl)
          obtain ⟨e20, e23, _⟩ := hdd
          have hfd := Fr.add (t := 47) (v := (.bool true)) hfd e20
          have hfd := Fr.add (t := 50) (v := (.bool false)) hfd e23
          exact G_val (v := (.bool false)) (w' := wd) hfd rfl (by kernel_rfl) (by kernel_rfl) (Le.refl _) rfl
        · intro a wd ld hfd hdd
          have hfd := Fr.cast (s' := [(11, (ptr b5 0)), (10, (.int .i64 (bits .and .i64 y 7))), (9, (.int .i64 (bits .and .i64 x 7))), (8, (ptr b4 0)), (7, (.bool true)), (6, (.bool false)), (5, (ptr b3 0)), (4, (ptr b2 0)), (3, (ptr b1 0)), (0, (.agg #[(.int .i64 uid), (.int .i64 gid)])), (1, (.agg #[(.int .i64 kind), (.int .i64 mode), (.int .i64 auid), (.int .i64 agid), (.int .i64 links), (.int .i64 size)])), (2, (.agg #[(.int .i64 x), (.int .i64 y)]))]) hfd (by kernel_rfl)
          obtain ⟨e24, _, _⟩ := hdd
          have hfd := Fr.add (t := 51) (v := (.bool false)) hfd e24
          exact G_val (v := (.bool false)) (w' := wd) hfd rfl (by kernel_rfl) (by kernel_rfl) (Le.refl _) rfl
        · intro a wd ld hfd hdd
          have hfd := Fr.cast (s' := [(11, (ptr b5 0)), (10, (.int .i64 (bits .and .i64 y 7))), (9, (.int .i64 (bits .and .i64 x 7))), (8, (ptr b4 0)), (7, (.bool true)), (6, (.bool false)), (5, (ptr b3 0)), (4, (ptr b2 0)), (3, (ptr b1 0)), (0, (.agg #[(.int .i64 uid), (.int .i64 gid)])), (1, (.agg #[(.int .i64 kind), (.int .i64 mode), (.int .i64 auid), (.int .i64 agid), (.int .i64 links), (.int .i64 size)])), (2, (.agg #[(.int .i64 x), (.int .i64 y)]))]) hfd (by kernel_rfl)
          obtain ⟨e25, _⟩ := hdd
          have hfd := Fr.add (t := 52) (v := (.bool false)) hfd e25
          exact G_skip hfd rfl rfl
        · intro a wd ld hfd hdd
          have hfd := Fr.cast (s' := [(11, (ptr b5 0)), (10, (.int .i64 (bits .and .i64 y 7))), (9, (.int .i64 (bits .and .i64 x 7))), (8, (ptr b4 0)), (7, (.bool true)), (6, (.bool false)), (5, (ptr b3 0)), (4, (ptr b2 0)), (3, (ptr b1 0)), (0, (.agg #[(.int .i64 uid), (.int .i64 gid)])), (1, (.agg #[(.int .i64 kind), (.int .i64 mode), (.int .i64 auid), (.int .i64 agid), (.int .i64 links), (.int .i64 size)])), (2, (.agg #[(.int .i64 x), (.int .i64 y)]))]) hfd (by kernel_rfl)
          obtain ⟨e25, _⟩ := hdd
          have hfd := Fr.add (t := 52) (v := (.bool false)) hfd e25
          exact G_skip hfd rfl rfl
        · intro a wd ld hfd hdd
          have hfd := Fr.cast (s' := [(11, (ptr b5 0)), (10, (.int .i64 (bits .and .i64 y 7))), (9, (.int .i64 (bits .and .i64 x 7))), (8, (ptr b4 0)), (7, (.bool true)), (6, (.bool false)), (5, (ptr b3 0)), (4, (ptr b2 0)), (3, (ptr b1 0)), (0, (.agg #[(.int .i64 uid), (.int .i64 gid)])), (1, (.agg #[(.int .i64 kind), (.int .i64 mode), (.int .i64 auid), (.int .i64 agid), (.int .i64 links), (.int .i64 size)])), (2, (.agg #[(.int .i64 x), (.int .i64 y)]))]) hfd (by kernel_rfl)
          obtain ⟨e25, _⟩ := hdd
          have hfd := Fr.add (t := 52) (v := (.bool false)) hfd e25
          exact G_skip hfd rfl rfl
        · intro a wd ld hfd hdd
          have hfd := Fr.cast (s' := [(11, (ptr b5 0)), (10, (.int .i64 (bits .and .i64 y 7))), (9, (.int .i64 (bits .and .i64 x 7))), (8, (ptr b4 0)), (7, (.bool true)), (6, (.bool false)), (5, (ptr b3 0)), (4, (ptr b2 0)), (3, (ptr b1 0)), (0, (.agg #[(.int .i64 uid), (.int .i64 gid)])), (1, (.agg #[(.int .i64 kind), (.int .i64 mode), (.int .i64 auid), (.int .i64 agid), (.int .i64 links), (.int .i64 size)])), (2, (.agg #[(.int .i64 x), (.int .i64 y)]))]) hfd (by kernel_rfl)
          obtain ⟨e26, e27, e28, e25, _, _⟩ := hdd
          have hfd := Fr.add (t := 53) (v := undef) hfd e26
          have hfd := Fr.add (t := 54) (v := undef) hfd e27
          have hfd := Fr.add (t := 55) (v := undef) hfd e28
          have hfd := Fr.add (t := 52) (v := (.bool false)) hfd e25
          exact G_skip hfd rfl rfl
        · intro a wd ld hfd hdd
          have hfd := Fr.cast (s' := [(11, (ptr b5 0)), (10, (.int .i64 (bits .and .i64 y 7))), (9, (.int .i64 (bits .and .i64 x 7))), (8, (ptr b4 0)), (7, (.bool true)), (6, (.bool false)), (5, (ptr b3 0)), (4, (ptr b2 0)), (3, (ptr b1 0)), (0, (.agg #[(.int .i64 uid), (.int .i64 gid)])), (1, (.agg #[(.int .i64 kind), (.int .i64 mode), (.int .i64 auid), (.int .i64 agid), (.int .i64 links), (.int .i64 size)])), (2, (.agg #[(.int .i64 x), (.int .i64 y)]))]) hfd (by kernel_rfl)
          obtain ⟨e25, e29, _⟩ := hdd
          have hfd := Fr.add (t := 52) (v := (.bool false)) hfd e25
          have hfd := Fr.add (t := 56) (v := undef) hfd e29
          exact G_val (v := (.bool false)) (w' := wd) hfd rfl (by kernel_rfl) (by kernel_rfl) (Le.refl _) rfl
        · intro a wd ld hfd hdd
          have hfd := Fr.cast (s' := [(11, (ptr b5 0)), (10, (.int .i64 (bits .and .i64 y 7))), (9, (.int .i64 (bits .and .i64 x 7))), (8, (ptr b4 0)), (7, (.bool true)), (6, (.bool false)), (5, (ptr b3 0)), (4, (ptr b2 0)), (3, (ptr b1 0)), (0, (.agg #[(.int .i64 uid), (.int .i64 gid)])), (1, (.agg #[(.int .i64 kind), (.int .i64 mode), (.int .i64 auid), (.int .i64 agid), (.int .i64 links), (.int .i64 size)])), (2, (.agg #[(.int .i64 x), (.int .i64 y)]))]) hfd (by kernel_rfl)
          obtain ⟨e30, _, _, _, _, _, _, _, _, _, _, _, _, _, _, _, _, _, _, _, _, _, _, _, _, _, _, _, _, _, _, _, _, _⟩ := hdd
          have hfd := Fr.add (t := 57) (v := (.bool false)) hfd e30
          exact G_val (v := (.bool false)) (w' := wd) hfd rfl (by kernel_rfl) (by kernel_rfl) (Le.refl _) rfl
        intro a2 w10 l3 hf2 fa2
        obtain ⟨q33, q34, q35, q36, q37, q38, q39, q40, q41, q42, q43, q44, q45, q46, q47, q48, q49, q50, q51, q52, q53, q54, q55, q56, q57, q58, q59, q60, q61, q62, q63, q64, _⟩ := fa2
        have hf2 := Fr.cast (s' := [(11, (ptr b5 0)), (10, (.int .i64 (bits .and .i64 y 7))), (9, (.int .i64 (bits .and .i64 x 7))), (8, (ptr b4 0)), (7, (.bool true)), (5, (ptr b3 0)), (4, (ptr b2 0)), (3, (ptr b1 0)), (0, (.agg #[(.int .i64 uid), (.int .i64 gid)])), (1, (.agg #[(.int .i64 kind), (.int .i64 mode), (.int .i64 auid), (.int .i64 agid), (.int .i64 links), (.int .i64 size)])), (2, (.agg #[(.int .i64 x), (.int .i64 y)]))]) hf2 (by kernel_rfl)
        have hf2 := Fr.add (t := 6) (v := (.bool false)) hf2 q64
        have k1 := l3.blk k1
        have k2 := l3.blk k2
        have k3 := l3.blk k3
        have k4 := l3.blk k4
        have k5 := l3.blk k5
        have be10 := l3.below' be8
        refine (?_ : okE .normal _ [(6, (.bool false)), (11, (ptr b5 0)), (10, (.int .i64 (bits .and .i64 y 7))), (9, (.int .i64 (bits .and .i64 x 7))), (8, (ptr b4 0)), (7, (.bool true)), (5, (ptr b3 0)), (4, (ptr b2 0)), (3, (ptr b1 0)), (0, (.agg #[(.int .i64 uid), (.int .i64 gid)])), (1, (.agg #[(.int .i64 kind), (.int .i64 mode), (.int .i64 auid), (.int .i64 agid), (.int .i64 links), (.int .i64 size)])), (2, (.agg #[(.int .i64 x), (.int .i64 y)]))] _ _) a2 (hf2.sub ⟨rfl, rfl, rfl, rfl, rfl, rfl, rfl, rfl, rfl, rfl, rfl, rfl, trivial⟩)
        refine E_then_normal ?_
        refine C_ret ?_
        refine E_ret (res_one rfl rfl) ⟨_, rfl, ?_⟩
        exact ⟨congrArg Value.bool (by first | rfl | (simp [may_or, may_zero, may_root, c1, c2, c3]; done) | (exfalso; revert c1 c2 c3; decide) | (exfalso; simp_all [may_or, may_zero, may_root]; done)), be10⟩
    · refine C_draw [fun _ v => v = (.bool true), fun _ v => v = (.bool true), fun _ v => v = (.agg #[(.int .i64 uid), (.int .i64 gid)]), fun _ v => v = (.agg #[(.int .i64 kind), (.int .i64 mode), (.int .i64 auid), (.int .i64 agid), (.int .i64 links), (.int .i64 size)]), fun _ v => v = (.int .i64 (bits .and .i64 x 7)), fun _ v => v = (.int .i64 (bits .and .i64 y 7)), fun _ v => v = (.int .i64 (bits .or .i64 (bits .and .i64 x 7) (bits .and .i64 y 7))), fun _ v => v = (.bool (mayB uid gid mode auid agid (bits .or .i64 (bits .and .i64 x 7) (bits .and .i64 y 7)))), fun _ v => v = (.agg #[(.int .i64 uid), (.int .i64 gid)]), fun _ v => v = (.agg #[(.int .i64 kind), (.int .i64 mode), (.int .i64 auid), (.int .i64 agid), (.int .i64 links), (.int .i64 size)]), fun _ v => v = (.int .i64 (bits .and .i64 x 7)), fun _ v => v = (.bool true), fun _ v => v = (.bool true), fun _ v => v = (.agg #[(.int .i64 uid), (.int .i64 gid)]), fun _ v => v = (.agg #[(.int .i64 kind), (.int .i64 mode), (.int .i64 auid), (.int .i64 agid), (.int .i64 links), (.int .i64 size)]), fun _ v => v = (.int .i64 (bits .and .i64 y 7)), fun _ v => v = (.bool (mayB uid gid mode auid agid (bits .and .i64 y 7))), fun _ v => v = (.bool (mayB uid gid mode auid agid (bits .and .i64 y 7))), fun _ v => v = (.bool false), fun _ v => v = (.bool false), fun _ v => v = (.bool false), fun _ v => v = undef, fun _ v => v = undef, fun _ v => v = undef, fun _ v => v = (.bool false), fun _ v => v = (.bool false), fun _ v => v = undef, fun _ v => v = undef, fun _ v => v = undef, fun _ v => v = undef, fun _ v => v = (.bool false), fun _ v => v = (.bool false)] (by kernel_rfl) (by kernel_rfl) (by kernel_rfl) ⟨stab_exact _, stab_exact _, stab_exact _, stab_exact _, stab_exact _, stab_exact _, stab_exact _, stab_exact _, stab_exact _, stab_exact _, stab_exact _, stab_exact _, stab_exact _, stab_exact _, stab_exact _, stab_exact _, stab_exact _, stab_exact _, stab_exact _, stab_exact _, stab_exact _, stab_exact _, stab_exact _, stab_exact _, stab_exact _, stab_exact _, stab_exact _, stab_exact _, stab_exact _, stab_exact _, stab_exact _, stab_exact _, trivial⟩ ⟨?_, ?_, ?_, ?_, ?_, ?_, ?_, ?_, ?_, ?_, ?_, ?_, ?_, ?_, ?_, ?_, ?_, ?_, ?_, ?_, ?_, ?_, ?_, ?_, ?_, ?_, ?_, ?_, ?_, ?_, ?_, ?_, trivial⟩ ?_
      · intro a wd ld hfd hdd
        have hfd := Fr.cast (s' := [(11, (ptr b5 0)), (10, (.int .i64 (bits .and .i64 y 7))), (9, (.int .i64 (bits .and .i64 x 7))), (8, (ptr b4 0)), (7, (.bool true)), (6, (.bool false)), (5, (ptr b3 0)), (4, (ptr b2 0)), (3, (ptr b1 0)), (0, (.agg #[(.int .i64 uid), (.int .i64 gid)])), (1, (.agg #[(.int .i64 kind), (.int .i64 mode), (.int .i64 auid), (.int .i64 agid), (.int .i64 links), (.int .i64 size)])), (2, (.agg #[(.int .i64 x), (.int .i64 y)]))]) hfd (by kernel_rfl)
        exact G_val (v := (.bool true)) (w' := wd) hfd rfl (by kernel_rfl) (by kernel_rfl) (Le.refl _) rfl
      · intro a wd ld hfd hdd
        have hfd := Fr.cast (s' := [(11, (ptr b5 0)), (10, (.int .i64 (bits .and .i64 y 7))), (9, (.int .i64 (bits .and .i64 x 7))), (8, (ptr b4 0)), (7, (.bool true)), (6, (.bool false)), (5, (ptr b3 0)), (4, (ptr b2 0)), (3, (ptr b1 0)), (0, (.agg #[(.int .i64 uid), (.int .i64 gid)])), (1, (.agg #[(.int .i64 kind), (.int .i64 mode), (.int .i64 auid), (.int .i64 agid), (.int .i64 links), (.int .i64 size)])), (2, (.agg #[(.int .i64 x), (.int .i64 y)]))]) hfd (by kernel_rfl)
        obtain ⟨e0, _⟩ := hdd
        have hfd := Fr.add (t := 27) (v := (.bool true)) hfd e0
        exact G_val (v := (.bool true)) (w' := wd) hfd rfl (by kernel_rfl) (by kernel_rfl) (Le.refl _) rfl
      · intro a wd ld hfd hdd
        have hfd := Fr.cast (s' := [(11, (ptr b5 0)), (10, (.int .i64 (bits .and .i64 y 7))), (9, (.int .i64 (bits .and .i64 x 7))), (8, (ptr b4 0)), (7, (.bool true)), (6, (.bool false)), (5, (ptr b3 0)), (4, (ptr b2 0)), (3, (ptr b1 0)), (0, (.agg #[(.int .i64 uid), (.int .i64 gid)])), (1, (.agg #[(.int .i64 kind), (.int .i64 mode), (.int .i64 auid), (.int .i64 agid), (.int .i64 links), (.int .i64 size)])), (2, (.agg #[(.int .i64 x), (.int .i64 y)]))]) hfd (by kernel_rfl)
        obtain ⟨e1, _⟩ := hdd
        have hfd := Fr.add (t := 28) (v := (.bool true)) hfd e1
        exact G_val hfd rfl (by kernel_rfl) (load_ev (run_load_row (ld.blk k4) Try.underlying29 rfl (vs := [(.int .i64 uid), (.int .i64 gid)]) (by kernel_rfl) rfl) rfl rfl) (Le.refl _) rfl
      · intro a wd ld hfd hdd
        have hfd := Fr.cast (s' := [(11, (ptr b5 0)), (10, (.int .i64 (bits .and .i64 y 7))), (9, (.int .i64 (bits .and .i64 x 7))), (8, (ptr b4 0)), (7, (.bool true)), (6, (.bool false)), (5, (ptr b3 0)), (4, (ptr b2 0)), (3, (ptr b1 0)), (0, (.agg #[(.int .i64 uid), (.int .i64 gid)])), (1, (.agg #[(.int .i64 kind), (.int .i64 mode), (.int .i64 auid), (.int .i64 agid), (.int .i64 links), (.int .i64 size)])), (2, (.agg #[(.int .i64 x), (.int .i64 y)]))]) hfd (by kernel_rfl)
        obtain ⟨e1, _⟩ := hdd
        have hfd := Fr.add (t := 28) (v := (.bool true)) hfd e1
        exact G_val hfd rfl (by kernel_rfl) (load_ev (run_load_row (ld.blk k2) Try.underlying26 rfl (vs := [(.int .i64 kind), (.int .i64 mode), (.int .i64 auid), (.int .i64 agid), (.int .i64 links), (.int .i64 size)]) (by kernel_rfl) rfl) rfl rfl) (Le.refl _) rfl
      · intro a wd ld hfd hdd
        have hfd := Fr.cast (s' := [(11, (ptr b5 0)), (10, (.int .i64 (bits .and .i64 y 7))), (9, (.int .i64 (bits .and .i64 x 7))), (8, (ptr b4 0)), (7, (.bool true)), (6, (.bool false)), (5, (ptr b3 0)), (4, (ptr b2 0)), (3, (ptr b1 0)), (0, (.agg #[(.int .i64 uid), (.int .i64 gid)])), (1, (.agg #[(.int .i64 kind), (.int .i64 mode), (.int .i64 auid), (.int .i64 agid), (.int .i64 links), (.int .i64 size)])), (2, (.agg #[(.int .i64 x), (.int .i64 y)]))]) hfd (by kernel_rfl)
        obtain ⟨e1, _⟩ := hdd
        have hfd := Fr.add (t := 28) (v := (.bool true)) hfd e1
        exact G_val (v := (.int .i64 (bits .and .i64 x 7))) (w' := wd) hfd rfl (by kernel_rfl) (by kernel_rfl) (Le.refl _) rfl
      · intro a wd ld hfd hdd
        have hfd := Fr.cast (s' := [(11, (ptr b5 0)), (10, (.int .i64 (bits .and .i64 y 7))), (9, (.int .i64 (bits .and .i64 x 7))), (8, (ptr b4 0)), (7, (.bool true)), (6, (.bool false)), (5, (ptr b3 0)), (4, (ptr b2 0)), (3, (ptr b1 0)), (0, (.agg #[(.int .i64 uid), (.int .i64 gid)])), (1, (.agg #[(.int .i64 kind), (.int .i64 mode), (.int .i64 auid), (.int .i64 agid), (.int .i64 links), (.int .i64 size)])), (2, (.agg #[(.int .i64 x), (.int .i64 y)]))]) hfd (by kernel_rfl)
        obtain ⟨e1, _⟩ := hdd
        have hfd := Fr.add (t := 28) (v := (.bool true)) hfd e1
        exact G_val (v := (.int .i64 (bits .and .i64 y 7))) (w' := wd) hfd rfl (by kernel_rfl) (by kernel_rfl) (Le.refl _) rfl
      · intro a wd ld hfd hdd
        have hfd := Fr.cast (s' := [(11, (ptr b5 0)), (10, (.int .i64 (bits .and .i64 y 7))), (9, (.int .i64 (bits .and .i64 x 7))), (8, (ptr b4 0)), (7, (.bool true)), (6, (.bool false)), (5, (ptr b3 0)), (4, (ptr b2 0)), (3, (ptr b1 0)), (0, (.agg #[(.int .i64 uid), (.int .i64 gid)])), (1, (.agg #[(.int .i64 kind), (.int .i64 mode), (.int .i64 auid), (.int .i64 agid), (.int .i64 links), (.int .i64 size)])), (2, (.agg #[(.int .i64 x), (.int .i64 y)]))]) hfd (by kernel_rfl)
        obtain ⟨e4, e5, e1, _⟩ := hdd
        have hfd := Fr.add (t := 31) (v := (.int .i64 (bits .and .i64 x 7))) hfd e4
        have hfd := Fr.add (t := 32) (v := (.int .i64 (bits .and .i64 y 7))) hfd e5
        have hfd := Fr.add (t := 28) (v := (.bool true)) hfd e1
        exact G_val (v := (.int .i64 (bits .or .i64 (bits .and .i64 x 7) (bits .and .i64 y 7)))) (w' := wd) hfd rfl (by kernel_rfl) (by kernel_rfl) (Le.refl _) rfl
      · intro a wd ld hfd hdd
        have hfd := Fr.cast (s' := [(11, (ptr b5 0)), (10, (.int .i64 (bits .and .i64 y 7))), (9, (.int .i64 (bits .and .i64 x 7))), (8, (ptr b4 0)), (7, (.bool true)), (6, (.bool false)), (5, (ptr b3 0)), (4, (ptr b2 0)), (3, (ptr b1 0)), (0, (.agg #[(.int .i64 uid), (.int .i64 gid)])), (1, (.agg #[(.int .i64 kind), (.int .i64 mode), (.int .i64 auid), (.int .i64 agid), (.int .i64 links), (.int .i64 size)])), (2, (.agg #[(.int .i64 x), (.int .i64 y)]))]) hfd (by kernel_rfl)
        obtain ⟨e2, e3, e6, e1, _, _⟩ := hdd
        have hfd := Fr.add (t := 29) (v := (.agg #[(.int .i64 uid), (.int .i64 gid)])) hfd e2
        have hfd := Fr.add (t := 30) (v := (.agg #[(.int .i64 kind), (.int .i64 mode), (.int .i64 auid), (.int .i64 agid), (.int .i64 links), (.int .i64 size)])) hfd e3
        have hfd := Fr.add (t := 33) (v := (.int .i64 (bits .or .i64 (bits .and .i64 x 7) (bits .and .i64 y 7)))) hfd e6
        have hfd := Fr.add (t := 28) (v := (.bool true)) hfd e1
        exact G_call (args := #[(.agg #[(.int .i64 uid), (.int .i64 gid)]), (.agg #[(.int .i64 kind), (.int .i64 mode), (.int .i64 auid), (.int .i64 agid), (.int .i64 links), (.int .i64 size)]), (.int .i64 (bits .or .i64 (bits .and .i64 x 7) (bits .and .i64 y 7)))]) (w := wd) hfd rfl (by kernel_rfl) (by kernel_rfl) (may_any uid gid kind mode auid agid links size (bits .or .i64 (bits .and .i64 x 7) (bits .and .i64 y 7)) _) fun v w' ⟨he, hl⟩ => ⟨hl, he⟩
      · intro a wd ld hfd hdd
        have hfd := Fr.cast (s' := [(11, (ptr b5 0)), (10, (.int .i64 (bits .and .i64 y 7))), (9, (.int .i64 (bits .and .i64 x 7))), (8, (ptr b4 0)), (7, (.bool true)), (6, (.bool false)), (5, (ptr b3 0)), (4, (ptr b2 0)), (3, (ptr b1 0)), (0, (.agg #[(.int .i64 uid), (.int .i64 gid)])), (1, (.agg #[(.int .i64 kind), (.int .i64 mode), (.int .i64 auid), (.int .i64 agid), (.int .i64 links), (.int .i64 size)])), (2, (.agg #[(.int .i64 x), (.int .i64 y)]))]) hfd (by kernel_rfl)
        obtain ⟨e1, _⟩ := hdd
        have hfd := Fr.add (t := 28) (v := (.bool true)) hfd e1
        exact G_val hfd rfl (by kernel_rfl) (load_ev (run_load_row (ld.blk k4) Try.underlying29 rfl (vs := [(.int .i64 uid), (.int .i64 gid)]) (by kernel_rfl) rfl) rfl rfl) (Le.refl _) rfl
      · intro a wd ld hfd hdd
        have hfd := Fr.cast (s' := [(11, (ptr b5 0)), (10, (.int .i64 (bits .and .i64 y 7))), (9, (.int .i64 (bits .and .i64 x 7))), (8, (ptr b4 0)), (7, (.bool true)), (6, (.bool false)), (5, (ptr b3 0)), (4, (ptr b2 0)), (3, (ptr b1 0)), (0, (.agg #[(.int .i64 uid), (.int .i64 gid)])), (1, (.agg #[(.int .i64 kind), (.int .i64 mode), (.int .i64 auid), (.int .i64 agid), (.int .i64 links), (.int .i64 size)])), (2, (.agg #[(.int .i64 x), (.int .i64 y)]))]) hfd (by kernel_rfl)
        obtain ⟨e1, _⟩ := hdd
        have hfd := Fr.add (t := 28) (v := (.bool true)) hfd e1
        exact G_val hfd rfl (by kernel_rfl) (load_ev (run_load_row (ld.blk k2) Try.underlying26 rfl (vs := [(.int .i64 kind), (.int .i64 mode), (.int .i64 auid), (.int .i64 agid), (.int .i64 links), (.int .i64 size)]) (by kernel_rfl) rfl) rfl rfl) (Le.refl _) rfl
      · intro a wd ld hfd hdd
        have hfd := Fr.cast (s' := [(11, (ptr b5 0)), (10, (.int .i64 (bits .and .i64 y 7))), (9, (.int .i64 (bits .and .i64 x 7))), (8, (ptr b4 0)), (7, (.bool true)), (6, (.bool false)), (5, (ptr b3 0)), (4, (ptr b2 0)), (3, (ptr b1 0)), (0, (.agg #[(.int .i64 uid), (.int .i64 gid)])), (1, (.agg #[(.int .i64 kind), (.int .i64 mode), (.int .i64 auid), (.int .i64 agid), (.int .i64 links), (.int .i64 size)])), (2, (.agg #[(.int .i64 x), (.int .i64 y)]))]) hfd (by kernel_rfl)
        obtain ⟨e1, _⟩ := hdd
        have hfd := Fr.add (t := 28) (v := (.bool true)) hfd e1
        exact G_val (v := (.int .i64 (bits .and .i64 x 7))) (w' := wd) hfd rfl (by kernel_rfl) (by kernel_rfl) (Le.refl _) rfl
      · intro a wd ld hfd hdd
        have hfd := Fr.cast (s' := [(11, (ptr b5 0)), (10, (.int .i64 (bits .and .i64 y 7))), (9, (.int .i64 (bits .and .i64 x 7))), (8, (ptr b4 0)), (7, (.bool true)), (6, (.bool false)), (5, (ptr b3 0)), (4, (ptr b2 0)), (3, (ptr b1 0)), (0, (.agg #[(.int .i64 uid), (.int .i64 gid)])), (1, (.agg #[(.int .i64 kind), (.int .i64 mode), (.int .i64 auid), (.int .i64 agid), (.int .i64 links), (.int .i64 size)])), (2, (.agg #[(.int .i64 x), (.int .i64 y)]))]) hfd (by kernel_rfl)
        obtain ⟨e8, e9, e10, _, e1, _⟩ := hdd
        have hfd := Fr.add (t := 35) (v := (.agg #[(.int .i64 uid), (.int .i64 gid)])) hfd e8
        have hfd := Fr.add (t := 36) (v := (.agg #[(.int .i64 kind), (.int .i64 mode), (.int .i64 auid), (.int .i64 agid), (.int .i64 links), (.int .i64 size)])) hfd e9
        have hfd := Fr.add (t := 37) (v := (.int .i64 (bits .and .i64 x 7))) hfd e10
        have hfd := Fr.add (t := 28) (v := (.bool true)) hfd e1
        exact G_call (args := #[(.agg #[(.int .i64 uid), (.int .i64 gid)]), (.agg #[(.int .i64 kind), (.int .i64 mode), (.int .i64 auid), (.int .i64 agid), (.int .i64 links), (.int .i64 size)]), (.int .i64 (bits .and .i64 x 7))]) (w := wd) hfd rfl (by kernel_rfl) (by kernel_rfl) (may_any uid gid kind mode auid agid links size (bits .and .i64 x 7) _) fun v w' ⟨he, hl⟩ => ⟨hl, (he.trans (congrArg Value.bool c1))⟩
      · intro a wd ld hfd hdd
        have hfd := Fr.cast (s' := [(11, (ptr b5 0)), (10, (.int .i64 (bits .and .i64 y 7))), (9, (.int .i64 (bits .and .i64 x 7))), (8, (ptr b4 0)), (7, (.bool true)), (6, (.bool false)), (5, (ptr b3 0)), (4, (ptr b2 0)), (3, (ptr b1 0)), (0, (.agg #[(.int .i64 uid), (.int .i64 gid)])), (1, (.agg #[(.int .i64 kind), (.int .i64 mode), (.int .i64 auid), (.int .i64 agid), (.int .i64 links), (.int .i64 size)])), (2, (.agg #[(.int .i64 x), (.int .i64 y)]))]) hfd (by kernel_rfl)
        obtain ⟨e11, _, e1, _⟩ := hdd
        have hfd := Fr.add (t := 38) (v := (.bool true)) hfd e11
        have hfd := Fr.add (t := 28) (v := (.bool true)) hfd e1
        exact G_val (v := (.bool true)) (w' := wd) hfd rfl (by kernel_rfl) (by kernel_rfl) (Le.refl _) rfl
      · intro a wd ld hfd hdd
        have hfd := Fr.cast (s' := [(11, (ptr b5 0)), (10, (.int .i64 (bits .and .i64 y 7))), (9, (.int .i64 (bits .and .i64 x 7))), (8, (ptr b4 0)), (7, (.bool true)), (6, (.bool false)), (5, (ptr b3 0)), (4, (ptr b2 0)), (3, (ptr b1 0)), (0, (.agg #[(.int .i64 uid), (.int .i64 gid)])), (1, (.agg #[(.int .i64 kind), (.int .i64 mode), (.int .i64 auid), (.int .i64 agid), (.int .i64 links), (.int .i64 size)])), (2, (.agg #[(.int .i64 x), (.int .i64 y)]))]) hfd (by kernel_rfl)
        obtain ⟨e12, _⟩ := hdd
        have hfd := Fr.add (t := 39) (v := (.bool true)) hfd e12
        exact G_val hfd rfl (by kernel_rfl) (load_ev (run_load_row (ld.blk k4) Try.underlying29 rfl (vs := [(.int .i64 uid), (.int .i64 gid)]) (by kernel_rfl) rfl) rfl rfl) (Le.refl _) rfl
      · intro a wd ld hfd hdd
        have hfd := Fr.cast (s' := [(11, (ptr b5 0)), (10, (.int .i64 (bits .and .i64 y 7))), (9, (.int .i64 (bits .and .i64 x 7))), (8, (ptr b4 0)), (7, (.bool true)), (6, (.bool false)), (5, (ptr b3 0)), (4, (ptr b2 0)), (3, (ptr b1 0)), (0, (.agg #[(.int .i64 uid), (.int .i64 gid)])), (1, (.agg #[(.int .i64 kind), (.int .i64 mode), (.int .i64 auid), (.int .i64 agid), (.int .i64 links), (.int .i64 size)])), (2, (.agg #[(.int .i64 x), (.int .i64 y)]))]) hfd (by kernel_rfl)
        obtain ⟨e12, _⟩ := hdd
        have hfd := Fr.add (t := 39) (v := (.bool true)) hfd e12
        exact G_val hfd rfl (by kernel_rfl) (load_ev (run_load_row (ld.blk k2) Try.underlying26 rfl (vs := [(.int .i64 kind), (.int .i64 mode), (.int .i64 auid), (.int .i64 agid), (.int .i64 links), (.int .i64 size)]) (by kernel_rfl) rfl) rfl rfl) (Le.refl _) rfl
      · intro a wd ld hfd hdd
        have hfd := Fr.cast (s' := [(11, (ptr b5 0)), (10, (.int .i64 (bits .and .i64 y 7))), (9, (.int .i64 (bits .and .i64 x 7))), (8, (ptr b4 0)), (7, (.bool true)), (6, (.bool false)), (5, (ptr b3 0)), (4, (ptr b2 0)), (3, (ptr b1 0)), (0, (.agg #[(.int .i64 uid), (.int .i64 gid)])), (1, (.agg #[(.int .i64 kind), (.int .i64 mode), (.int .i64 auid), (.int .i64 agid), (.int .i64 links), (.int .i64 size)])), (2, (.agg #[(.int .i64 x), (.int .i64 y)]))]) hfd (by kernel_rfl)
        obtain ⟨e12, _⟩ := hdd
        have hfd := Fr.add (t := 39) (v := (.bool true)) hfd e12
        exact G_val (v := (.int .i64 (bits .and .i64 y 7))) (w' := wd) hfd rfl (by kernel_rfl) (by kernel_rfl) (Le.refl _) rfl
      · intro a wd ld hfd hdd
        have hfd := Fr.cast (s' := [(11, (ptr b5 0)), (10, (.int .i64 (bits .and .i64 y 7))), (9, (.int .i64 (bits .and .i64 x 7))), (8, (ptr b4 0)), (7, (.bool true)), (6, (.bool false)), (5, (ptr b3 0)), (4, (ptr b2 0)), (3, (ptr b1 0)), (0, (.agg #[(.int .i64 uid), (.int .i64 gid)])), (1, (.agg #[(.int .i64 kind), (.int .i64 mode), (.int .i64 auid), (.int .i64 agid), (.int .i64 links), (.int .i64 size)])), (2, (.agg #[(.int .i64 x), (.int .i64 y)]))]) hfd (by kernel_rfl)
        obtain ⟨e13, e14, e15, e12, _, _⟩ := hdd
        have hfd := Fr.add (t := 40) (v := (.agg #[(.int .i64 uid), (.int .i64 gid)])) hfd e13
        have hfd := Fr.add (t := 41) (v := (.agg #[(.int .i64 kind), (.int .i64 mode), (.int .i64 auid), (.int .i64 agid), (.int .i64 links), (.int .i64 size)])) hfd e14
        have hfd := Fr.add (t := 42) (v := (.int .i64 (bits .and .i64 y 7))) hfd e15
        have hfd := Fr.add (t := 39) (v := (.bool true)) hfd e12
        exact G_call (args := #[(.agg #[(.int .i64 uid), (.int .i64 gid)]), (.agg #[(.int .i64 kind), (.int .i64 mode), (.int .i64 auid), (.int .i64 agid), (.int .i64 links), (.int .i64 size)]), (.int .i64 (bits .and .i64 y 7))]) (w := wd) hfd rfl (by kernel_rfl) (by kernel_rfl) (may_any uid gid kind mode auid agid links size (bits .and .i64 y 7) _) fun v w' ⟨he, hl⟩ => ⟨hl, he⟩
      · intro a wd ld hfd hdd
        have hfd := Fr.cast (s' := [(11, (ptr b5 0)), (10, (.int .i64 (bits .and .i64 y 7))), (9, (.int .i64 (bits .and .i64 x 7))), (8, (ptr b4 0)), (7, (.bool true)), (6, (.bool false)), (5, (ptr b3 0)), (4, (ptr b2 0)), (3, (ptr b1 0)), (0, (.agg #[(.int .i64 uid), (.int .i64 gid)])), (1, (.agg #[(.int .i64 kind), (.int .i64 mode), (.int .i64 auid), (.int .i64 agid), (.int .i64 links), (.int .i64 size)])), (2, (.agg #[(.int .i64 x), (.int .i64 y)]))]) hfd (by kernel_rfl)
        obtain ⟨e12, e16, e1, _⟩ := hdd
        have hfd := Fr.add (t := 39) (v := (.bool true)) hfd e12
        have hfd := Fr.add (t := 43) (v := (.bool (mayB uid gid mode auid agid (bits .and .i64 y 7)))) hfd e16
        have hfd := Fr.add (t := 28) (v := (.bool true)) hfd e1
        exact G_val (v := (.bool (mayB uid gid mode auid agid (bits .and .i64 y 7)))) (w' := wd) hfd rfl (by kernel_rfl) (by kernel_rfl) (Le.refl _) rfl
      · intro a wd ld hfd hdd
        have hfd := Fr.cast (s' := [(11, (ptr b5 0)), (10, (.int .i64 (bits .and .i64 y 7))), (9, (.int .i64 (bits .and .i64 x 7))), (8, (ptr b4 0)), (7, (.bool true)), (6, (.bool false)), (5, (ptr b3 0)), (4, (ptr b2 0)), (3, (ptr b1 0)), (0, (.agg #[(.int .i64 uid), (.int .i64 gid)])), (1, (.agg #[(.int .i64 kind), (.int .i64 mode), (.int .i64 auid), (.int .i64 agid), (.int .i64 links), (.int .i64 size)])), (2, (.agg #[(.int .i64 x), (.int .i64 y)]))]) hfd (by kernel_rfl)
        obtain ⟨e7, e17, e1, _⟩ := hdd
        have hfd := Fr.add (t := 34) (v := (.bool (mayB uid gid mode auid agid (bits .or .i64 (bits .and .i64 x 7) (bits .and .i64 y 7))))) hfd e7
        have hfd := Fr.add (t := 44) (v := (.bool (mayB uid gid mode auid agid (bits .and .i64 y 7)))) hfd e17
        have hfd := Fr.add (t := 28) (v := (.bool true)) hfd e1
        exact G_val (v := (.bool false)) (w' := wd) hfd rfl (by kernel_rfl) (eq_bool (by kernel_rfl) c2) (Le.refl _) rfl
      · intro a wd ld hfd hdd
        have hfd := Fr.cast (s' := [(11, (ptr b5 0)), (10, (.int .i64 (bits .and .i64 y 7))), (9, (.int .i64 (bits .and .i64 x 7))), (8, (ptr b4 0)), (7, (.bool true)), (6, (.bool false)), (5, (ptr b3 0)), (4, (ptr b2 0)), (3, (ptr b1 0)), (0, (.agg #[(.int .i64 uid), (.int .i64 gid)])), (1, (.agg #[(.int .i64 kind), (.int .i64 mode), (.int .i64 auid), (.int .i64 agid), (.int .i64 links), (.int .i64 size)])), (2, (.agg #[(.int .i64 x), (.int .i64 y)]))]) hfd (by kernel_rfl)
        obtain ⟨e1, e18, _⟩ := hdd
        have hfd := Fr.add (t := 28) (v := (.bool true)) hfd e1
        have hfd := Fr.add (t := 45) (v := (.bool false)) hfd e18
        exact G_val (v := (.bool false)) (w' := wd) hfd rfl (by kernel_rfl) (by kernel_rfl) (Le.refl _) rfl
      · intro a wd ld hfd hdd
        have hfd := Fr.cast (s' := [(11, (ptr b5 0)), (10, (.int .i64 (bits .and .i64 y 7))), (9, (.int .i64 (bits .and .i64 x 7))), (8, (ptr b4 0)), (7, (.bool true)), (6, (.bool false)), (5, (ptr b3 0)), (4, (ptr b2 0)), (3, (ptr b1 0)), (0, (.agg #[(.int .i64 uid), (.int .i64 gid)])), (1, (.agg #[(.int .i64 kind), (.int .i64 mode), (.int .i64 auid), (.int .i64 agid), (.int .i64 links), (.int .i64 size)])), (2, (.agg #[(.int .i64 x), (.int .i64 y)]))]) hfd (by kernel_rfl)
        obtain ⟨e19, _, _⟩ := hdd
        have hfd := Fr.add (t := 46) (v := (.bool false)) hfd e19
        exact G_val (v := (.bool false)) (w' := wd) hfd rfl (by kernel_rfl) (by kernel_rfl) (Le.refl _) rfl
      · intro a wd ld hfd hdd
        have hfd := Fr.cast (s' := [(11, (ptr b5 0)), (10, (.int .i64 (bits .and .i64 y 7))), (9, (.int .i64 (bits .and .i64 x 7))), (8, (ptr b4 0)), (7, (.bool true)), (6, (.bool false)), (5, (ptr b3 0)), (4, (ptr b2 0)), (3, (ptr b1 0)), (0, (.agg #[(.int .i64 uid), (.int .i64 gid)])), (1, (.agg #[(.int .i64 kind), (.int .i64 mode), (.int .i64 auid), (.int .i64 agid), (.int .i64 links), (.int .i64 size)])), (2, (.agg #[(.int .i64 x), (.int .i64 y)]))]) hfd (by kernel_rfl)
        obtain ⟨e20, _⟩ := hdd
        have hfd := Fr.add (t := 47) (v := (.bool false)) hfd e20
        exact G_skip hfd rfl rfl
      · intro a wd ld hfd hdd
        have hfd := Fr.cast (s' := [(11, (ptr b5 0)), (10, (.int .i64 (bits .and .i64 y 7))), (9, (.int .i64 (bits .and .i64 x 7))), (8, (ptr b4 0)), (7, (.bool true)), (6, (.bool false)), (5, (ptr b3 0)), (4, (ptr b2 0)), (3, (ptr b1 0)), (0, (.agg #[(.int .i64 uid), (.int .i64 gid)])), (1, (.agg #[(.int .i64 kind), (.int .i64 mode), (.int .i64 auid), (.int .i64 agid), (.int .i64 links), (.int .i64 size)])), (2, (.agg #[(.int .i64 x), (.int .i64 y)]))]) hfd (by kernel_rfl)
        obtain ⟨e20, _⟩ := hdd
        have hfd := Fr.add (t := 47) (v := (.bool false)) hfd e20
        exact G_skip hfd rfl rfl
      · intro a wd ld hfd hdd
        have hfd := Fr.cast (s' := [(11, (ptr b5 0)), (10, (.int .i64 (bits .and .i64 y 7))), (9, (.int .i64 (bits .and .i64 x 7))), (8, (ptr b4 0)), (7, (.bool true)), (6, (.bool false)), (5, (ptr b3 0)), (4, (ptr b2 0)), (3, (ptr b1 0)), (0, (.agg #[(.int .i64 uid), (.int .i64 gid)])), (1, (.agg #[(.int .i64 kind), (.int .i64 mode), (.int .i64 auid), (.int .i64 agid), (.int .i64 links), (.int .i64 size)])), (2, (.agg #[(.int .i64 x), (.int .i64 y)]))]) hfd (by kernel_rfl)
        obtain ⟨e21, e22, e20, _, _⟩ := hdd
        have hfd := Fr.add (t := 48) (v := undef) hfd e21
        have hfd := Fr.add (t := 49) (v := undef) hfd e22
        have hfd := Fr.add (t := 47) (v := (.bool false)) hfd e20
        exact G_skip hfd rfl rfl
      · intro a wd ld hfd hdd
        have hfd := Fr.cast (s' := [(11, (ptr b5 0)), (10, (.int .i64 (bits .and .i64 y 7))), (9, (.int .i64 (bits .and .i64 x 7))), (8, (ptr b4 0)), (7, (.bool true)), (6, (.bool false)), (5, (ptr b3 0)), (4, (ptr b2 0)), (3, (ptr b1 0)), (0, (.agg #[(.int .i64 uid), (.int .i64 gid)])), (1, (.agg #[(.int .i64 kind), (.int .i64 mode), (.int .i64 auid), (.int .i64 agid), (.int .i64 links), (.int .i64 size)])), (2, (.agg #[(.int .i64 x), (.int .i64 y)]))]) hfd (by kernel_rfl)
        obtain ⟨e20, e23, _⟩ := hdd
        have hfd := Fr.add (t := 47) (v := (.bool false)) hfd e20
        have hfd := Fr.add (t := 50) (v := undef) hfd e23
        exact G_val (v := (.bool false)) (w' := wd) hfd rfl (by kernel_rfl) (by kernel_rfl) (Le.refl _) rfl
      · intro a wd ld hfd hdd
        have hfd := Fr.cast (s' := [(11, (ptr b5 0)), (10, (.int .i64 (bits .and .i64 y 7))), (9, (.int .i64 (bits .and .i64 x 7))), (8, (ptr b4 0)), (7, (.bool true)), (6, (.bool false)), (5, (ptr b3 0)), (4, (ptr b2 0)), (3, (ptr b1 0)), (0, (.agg #[(.int .i64 uid), (.int .i64 gid)])), (1, (.agg #[(.int .i64 kind), (.int .i64 mode), (.int .i64 auid), (.int .i64 agid), (.int .i64 links), (.int .i64 size)])), (2, (.agg #[(.int .i64 x), (.int .i64 y)]))]) hfd (by kernel_rfl)
        obtain ⟨e24, _, _⟩ := hdd
        have hfd := Fr.add (t := 51) (v := (.bool false)) hfd e24
        exact G_val (v := (.bool false)) (w' := wd) hfd rfl (by kernel_rfl) (by kernel_rfl) (Le.refl _) rfl
      · intro a wd ld hfd hdd
        have hfd := Fr.cast (s' := [(11, (ptr b5 0)), (10, (.int .i64 (bits .and .i64 y 7))), (9, (.int .i64 (bits .and .i64 x 7))), (8, (ptr b4 0)), (7, (.bool true)), (6, (.bool false)), (5, (ptr b3 0)), (4, (ptr b2 0)), (3, (ptr b1 0)), (0, (.agg #[(.int .i64 uid), (.int .i64 gid)])), (1, (.agg #[(.int .i64 kind), (.int .i64 mode), (.int .i64 auid), (.int .i64 agid), (.int .i64 links), (.int .i64 size)])), (2, (.agg #[(.int .i64 x), (.int .i64 y)]))]) hfd (by kernel_rfl)
        obtain ⟨e25, _⟩ := hdd
        have hfd := Fr.add (t := 52) (v := (.bool false)) hfd e25
        exact G_skip hfd rfl rfl
      · intro a wd ld hfd hdd
        have hfd := Fr.cast (s' := [(11, (ptr b5 0)), (10, (.int .i64 (bits .and .i64 y 7))), (9, (.int .i64 (bits .and .i64 x 7))), (8, (ptr b4 0)), (7, (.bool true)), (6, (.bool false)), (5, (ptr b3 0)), (4, (ptr b2 0)), (3, (ptr b1 0)), (0, (.agg #[(.int .i64 uid), (.int .i64 gid)])), (1, (.agg #[(.int .i64 kind), (.int .i64 mode), (.int .i64 auid), (.int .i64 agid), (.int .i64 links), (.int .i64 size)])), (2, (.agg #[(.int .i64 x), (.int .i64 y)]))]) hfd (by kernel_rfl)
        obtain ⟨e25, _⟩ := hdd
        have hfd := Fr.add (t := 52) (v := (.bool false)) hfd e25
        exact G_skip hfd rfl rfl
      · intro a wd ld hfd hdd
        have hfd := Fr.cast (s' := [(11, (ptr b5 0)), (10, (.int .i64 (bits .and .i64 y 7))), (9, (.int .i64 (bits .and .i64 x 7))), (8, (ptr b4 0)), (7, (.bool true)), (6, (.bool false)), (5, (ptr b3 0)), (4, (ptr b2 0)), (3, (ptr b1 0)), (0, (.agg #[(.int .i64 uid), (.int .i64 gid)])), (1, (.agg #[(.int .i64 kind), (.int .i64 mode), (.int .i64 auid), (.int .i64 agid), (.int .i64 links), (.int .i64 size)])), (2, (.agg #[(.int .i64 x), (.int .i64 y)]))]) hfd (by kernel_rfl)
        obtain ⟨e25, _⟩ := hdd
        have hfd := Fr.add (t := 52) (v := (.bool false)) hfd e25
        exact G_skip hfd rfl rfl
      · intro a wd ld hfd hdd
        have hfd := Fr.cast (s' := [(11, (ptr b5 0)), (10, (.int .i64 (bits .and .i64 y 7))), (9, (.int .i64 (bits .and .i64 x 7))), (8, (ptr b4 0)), (7, (.bool true)), (6, (.bool false)), (5, (ptr b3 0)), (4, (ptr b2 0)), (3, (ptr b1 0)), (0, (.agg #[(.int .i64 uid), (.int .i64 gid)])), (1, (.agg #[(.int .i64 kind), (.int .i64 mode), (.int .i64 auid), (.int .i64 agid), (.int .i64 links), (.int .i64 size)])), (2, (.agg #[(.int .i64 x), (.int .i64 y)]))]) hfd (by kernel_rfl)
        obtain ⟨e26, e27, e28, e25, _, _⟩ := hdd
        have hfd := Fr.add (t := 53) (v := undef) hfd e26
        have hfd := Fr.add (t := 54) (v := undef) hfd e27
        have hfd := Fr.add (t := 55) (v := undef) hfd e28
        have hfd := Fr.add (t := 52) (v := (.bool false)) hfd e25
        exact G_skip hfd rfl rfl
      · intro a wd ld hfd hdd
        have hfd := Fr.cast (s' := [(11, (ptr b5 0)), (10, (.int .i64 (bits .and .i64 y 7))), (9, (.int .i64 (bits .and .i64 x 7))), (8, (ptr b4 0)), (7, (.bool true)), (6, (.bool false)), (5, (ptr b3 0)), (4, (ptr b2 0)), (3, (ptr b1 0)), (0, (.agg #[(.int .i64 uid), (.int .i64 gid)])), (1, (.agg #[(.int .i64 kind), (.int .i64 mode), (.int .i64 auid), (.int .i64 agid), (.int .i64 links), (.int .i64 size)])), (2, (.agg #[(.int .i64 x), (.int .i64 y)]))]) hfd (by kernel_rfl)
        obtain ⟨e25, e29, _⟩ := hdd
        have hfd := Fr.add (t := 52) (v := (.bool false)) hfd e25
        have hfd := Fr.add (t := 56) (v := undef) hfd e29
        exact G_val (v := (.bool false)) (w' := wd) hfd rfl (by kernel_rfl) (by kernel_rfl) (Le.refl _) rfl
      · intro a wd ld hfd hdd
        have hfd := Fr.cast (s' := [(11, (ptr b5 0)), (10, (.int .i64 (bits .and .i64 y 7))), (9, (.int .i64 (bits .and .i64 x 7))), (8, (ptr b4 0)), (7, (.bool true)), (6, (.bool false)), (5, (ptr b3 0)), (4, (ptr b2 0)), (3, (ptr b1 0)), (0, (.agg #[(.int .i64 uid), (.int .i64 gid)])), (1, (.agg #[(.int .i64 kind), (.int .i64 mode), (.int .i64 auid), (.int .i64 agid), (.int .i64 links), (.int .i64 size)])), (2, (.agg #[(.int .i64 x), (.int .i64 y)]))]) hfd (by kernel_rfl)
        obtain ⟨e30, _, _, _, _, _, _, _, _, _, _, _, _, _, _, _, _, _, _, _, _, _, _, _, _, _, _, _, _, _, _, _, _, _⟩ := hdd
        have hfd := Fr.add (t := 57) (v := (.bool false)) hfd e30
        exact G_val (v := (.bool false)) (w' := wd) hfd rfl (by kernel_rfl) (by kernel_rfl) (Le.refl _) rfl
      intro a3 w11 l4 hf3 fa3
      obtain ⟨q65, q66, q67, q68, q69, q70, q71, q72, q73, q74, q75, q76, q77, q78, q79, q80, q81, q82, q83, q84, q85, q86, q87, q88, q89, q90, q91, q92, q93, q94, q95, q96, _⟩ := fa3
      have hf3 := Fr.cast (s' := [(11, (ptr b5 0)), (10, (.int .i64 (bits .and .i64 y 7))), (9, (.int .i64 (bits .and .i64 x 7))), (8, (ptr b4 0)), (7, (.bool true)), (5, (ptr b3 0)), (4, (ptr b2 0)), (3, (ptr b1 0)), (0, (.agg #[(.int .i64 uid), (.int .i64 gid)])), (1, (.agg #[(.int .i64 kind), (.int .i64 mode), (.int .i64 auid), (.int .i64 agid), (.int .i64 links), (.int .i64 size)])), (2, (.agg #[(.int .i64 x), (.int .i64 y)]))]) hf3 (by kernel_rfl)
      have hf3 := Fr.add (t := 6) (v := (.bool false)) hf3 q96
      have k1 := l4.blk k1
      have k2 := l4.blk k2
      have k3 := l4.blk k3
      have k4 := l4.blk k4
      have k5 := l4.blk k5
      have be11 := l4.below' be8
      refine (?_ : okE .normal _ [(6, (.bool false)), (11, (ptr b5 0)), (10, (.int .i64 (bits .and .i64 y 7))), (9, (.int .i64 (bits .and .i64 x 7))), (8, (ptr b4 0)), (7, (.bool true)), (5, (ptr b3 0)), (4, (ptr b2 0)), (3, (ptr b1 0)), (0, (.agg #[(.int .i64 uid), (.int .i64 gid)])), (1, (.agg #[(.int .i64 kind), (.int .i64 mode), (.int .i64 auid), (.int .i64 agid), (.int .i64 links), (.int .i64 size)])), (2, (.agg #[(.int .i64 x), (.int .i64 y)]))] _ _) a3 (hf3.sub ⟨rfl, rfl, rfl, rfl, rfl, rfl, rfl, rfl, rfl, rfl, rfl, rfl, trivial⟩)
      refine E_then_normal ?_
      refine C_ret ?_
      refine E_ret (res_one rfl rfl) ⟨_, rfl, ?_⟩
      exact ⟨congrArg Value.bool (by first | rfl | (simp [may_or, may_zero, may_root, c1, c2]; done) | (exfalso; revert c1 c2; decide) | (exfalso; simp_all [may_or, may_zero, may_root]; done)), be11⟩
  · rcases Bool.eq_false_or_eq_true ((mayB uid gid mode auid agid (bits .or .i64 (bits .and .i64 x 7) (bits .and .i64 y 7))) == false) with c4 | c4
    · rcases Bool.eq_false_or_eq_true (mayB uid gid mode auid agid 0) with c5 | c5
      · refine C_draw [fun _ v => v = (.bool true), fun _ v => v = (.bool true), fun _ v => v = (.agg #[(.int .i64 uid), (.int .i64 gid)]), fun _ v => v = (.agg #[(.int .i64 kind), (.int .i64 mode), (.int .i64 auid), (.int .i64 agid), (.int .i64 links), (.int .i64 size)]), fun _ v => v = (.int .i64 (bits .and .i64 x 7)), fun _ v => v = (.int .i64 (bits .and .i64 y 7)), fun _ v => v = (.int .i64 (bits .or .i64 (bits .and .i64 x 7) (bits .and .i64 y 7))), fun _ v => v = (.bool (mayB uid gid mode auid agid (bits .or .i64 (bits .and .i64 x 7) (bits .and .i64 y 7)))), fun _ v => v = (.agg #[(.int .i64 uid), (.int .i64 gid)]), fun _ v => v = (.agg #[(.int .i64 kind), (.int .i64 mode), (.int .i64 auid), (.int .i64 agid), (.int .i64 links), (.int .i64 size)]), fun _ v => v = (.int .i64 (bits .and .i64 x 7)), fun _ v => v = (.bool false), fun _ v => v = (.bool false), fun _ v => v = undef, fun _ v => v = undef, fun _ v => v = undef, fun _ v => v = undef, fun _ v => v = (.bool false), fun _ v => v = (.bool true), fun _ v => v = (.bool true), fun _ v => v = (.bool true), fun _ v => v = (.agg #[(.int .i64 uid), (.int .i64 gid)]), fun _ v => v = (.agg #[(.int .i64 kind), (.int .i64 mode), (.int .i64 auid), (.int .i64 agid), (.int .i64 links), (.int .i64 size)]), fun _ v => v = (.bool true), fun _ v => v = (.bool true), fun _ v => v = (.bool true), fun _ v => v = (.agg #[(.int .i64 0), (.int .i64 gid)]), fun _ v => v = (.agg #[(.int .i64 kind), (.int .i64 mode), (.int .i64 auid), (.int .i64 agid), (.int .i64 links), (.int .i64 size)]), fun _ v => v = (.int .i64 (bits .and .i64 x 7)), fun _ v => v = (.bool (mayB 0 gid mode auid agid (bits .and .i64 x 7))), fun _ v => v = (.bool (mayB 0 gid mode auid agid (bits .and .i64 x 7))), fun _ v => v = (.bool (mayB 0 gid mode auid agid (bits .and .i64 x 7)))] (by kernel_rfl) (by kernel_rfl) (by kernel_rfl) ⟨stab_exact _, stab_exact _, stab_exact _, stab_exact _, stab_exact _, stab_exact _, stab_exact _, stab_exact _, stab_exact _, stab_exact _, stab_exact _, stab_exact _, stab_exact _, stab_exact _, stab_exact _, stab_exact _, stab_exact _, stab_exact _, stab_exact _, stab_exact _, stab_exact _, stab_exact _, stab_exact _, stab_exact _, stab_exact _, stab_exact _, stab_exact _, stab_exact _, stab_exact _, stab_exact _, stab_exact _, stab_exact _, trivial⟩ ⟨?_, ?_, ?_, ?_, ?_, ?_, ?_, ?_, ?_, ?_, ?_, ?_, ?_, ?_, ?_, ?_, ?_, ?_, ?_, ?_, ?_, ?_, ?_, ?_, ?_, ?_, ?_, ?_, ?_, ?_, ?_, ?_, trivial⟩ ?_
        · intro a wd ld hfd hdd
          have hfd := Fr.cast (s' := [(11, (ptr b5 0)), (10, (.int .i64 (bits .and .i64 y 7))), (9, (.int .i64 (bits .and .i64 x 7))), (8, (ptr b4 0)), (7, (.bool true)), (6, (.bool false)), (5, (ptr b3 0)), (4, (ptr b2 0)), (3, (ptr b1 0)), (0, (.agg #[(.int .i64 uid), (.int .i64 gid)])), (1, (.agg #[(.int .i64 kind), (.int .i64 mode), (.int .i64 auid), (.int .i64 agid), (.int .i64 links), (.int .i64 size)])), (2, (.agg #[(.int .i64 x), (.int .i64 y)]))]) hfd (by kernel_rfl)
          exact G_val (v := (.bool true)) (w' := wd) hfd rfl (by kernel_rfl) (by kernel_rfl) (Le.refl _) rfl
        · intro a wd ld hfd hdd
          have hfd := Fr.cast (s' := [(11, (ptr b5 0)), (10, (.int .i64 (bits .and .i64 y 7))), (9, (.int .i64 (bits .and .i64 x 7))), (8, (ptr b4 0)), (7, (.bool true)), (6, (.bool false)), (5, (ptr b3 0)), (4, (ptr b2 0)), (3, (ptr b1 0)), (0, (.agg #[(.int .i64 uid), (.int .i64 gid)])), (1, (.agg #[(.int .i64 kind), (.int .i64 mode), (.int .i64 auid), (.int .i64 agid), (.int .i64 links), (.int .i64 size)])), (2, (.agg #[(.int .i64 x), (.int .i64 y)]))]) hfd (by kernel_rfl)
          obtain ⟨e0, _⟩ := hdd
          have hfd := Fr.add (t := 27) (v := (.bool true)) hfd e0
          exact G_val (v := (.bool true)) (w' := wd) hfd rfl (by kernel_rfl) (by kernel_rfl) (Le.refl _) rfl
        · intro a wd ld hfd hdd
          have hfd := Fr.cast (s' := [(11, (ptr b5 0)), (10, (.int .i64 (bits .and .i64 y 7))), (9, (.int .i64 (bits .and .i64 x 7))), (8, (ptr b4 0)), (7, (.bool true)), (6, (.bool false)), (5, (ptr b3 0)), (4, (ptr b2 0)), (3, (ptr b1 0)), (0, (.agg #[(.int .i64 uid), (.int .i64 gid)])), (1, (.agg #[(.int .i64 kind), (.int .i64 mode), (.int .i64 auid), (.int .i64 agid), (.int .i64 links), (.int .i64 size)])), (2, (.agg #[(.int .i64 x), (.int .i64 y)]))]) hfd (by kernel_rfl)
          obtain ⟨e1, _⟩ := hdd
          have hfd := Fr.add (t := 28) (v := (.bool true)) hfd e1
          exact G_val hfd rfl (by kernel_rfl) (load_ev (run_load_row (ld.blk k4) Try.underlying29 rfl (vs := [(.int .i64 uid), (.int .i64 gid)]) (by kernel_rfl) rfl) rfl rfl) (Le.refl _) rfl
        · intro a wd ld hfd hdd
          have hfd := Fr.cast (s' := [(11, (ptr b5 0)), (10, (.int .i64 (bits .and .i64 y 7))), (9, (.int .i64 (bits .and .i64 x 7))), (8, (ptr b4 0)), (7, (.bool true)), (6, (.bool false)), (5, (ptr b3 0)), (4, (ptr b2 0)), (3, (ptr b1 0)), (0, (.agg #[(.int .i64 uid), (.int .i64 gid)])), (1, (.agg #[(.int .i64 kind), (.int .i64 mode), (.int .i64 auid), (.int .i64 agid), (.int .i64 links), (.int .i64 size)])), (2, (.agg #[(.int .i64 x), (.int .i64 y)]))]) hfd (by kernel_rfl)
          obtain ⟨e1, _⟩ := hdd
          have hfd := Fr.add (t := 28) (v := (.bool true)) hfd e1
          exact G_val hfd rfl (by kernel_rfl) (load_ev (run_load_row (ld.blk k2) Try.underlying26 rfl (vs := [(.int .i64 kind), (.int .i64 mode), (.int .i64 auid), (.int .i64 agid), (.int .i64 links), (.int .i64 size)]) (by kernel_rfl) rfl) rfl rfl) (Le.refl _) rfl
        · intro a wd ld hfd hdd
          have hfd := Fr.cast (s' := [(11, (ptr b5 0)), (10, (.int .i64 (bits .and .i64 y 7))), (9, (.int .i64 (bits .and .i64 x 7))), (8, (ptr b4 0)), (7, (.bool true)), (6, (.bool false)), (5, (ptr b3 0)), (4, (ptr b2 0)), (3, (ptr b1 0)), (0, (.agg #[(.int .i64 uid), (.int .i64 gid)])), (1, (.agg #[(.int .i64 kind), (.int .i64 mode), (.int .i64 auid), (.int .i64 agid), (.int .i64 links), (.int .i64 size)])), (2, (.agg #[(.int .i64 x), (.int .i64 y)]))]) hfd (by kernel_rfl)
          obtain ⟨e1, _⟩ := hdd
          have hfd := Fr.add (t := 28) (v := (.bool true)) hfd e1
          exact G_val (v := (.int .i64 (bits .and .i64 x 7))) (w' := wd) hfd rfl (by kernel_rfl) (by kernel_rfl) (Le.refl _) rfl
        · intro a wd ld hfd hdd
          have hfd := Fr.cast (s' := [(11, (ptr b5 0)), (10, (.int .i64 (bits .and .i64 y 7))), (9, (.int .i64 (bits .and .i64 x 7))), (8, (ptr b4 0)), (7, (.bool true)), (6, (.bool false)), (5, (ptr b3 0)), (4, (ptr b2 0)), (3, (ptr b1 0)), (0, (.agg #[(.int .i64 uid), (.int .i64 gid)])), (1, (.agg #[(.int .i64 kind), (.int .i64 mode), (.int .i64 auid), (.int .i64 agid), (.int .i64 links), (.int .i64 size)])), (2, (.agg #[(.int .i64 x), (.int .i64 y)]))]) hfd (by kernel_rfl)
          obtain ⟨e1, _⟩ := hdd
          have hfd := Fr.add (t := 28) (v := (.bool true)) hfd e1
          exact G_val (v := (.int .i64 (bits .and .i64 y 7))) (w' := wd) hfd rfl (by kernel_rfl) (by kernel_rfl) (Le.refl _) rfl
        · intro a wd ld hfd hdd
          have hfd := Fr.cast (s' := [(11, (ptr b5 0)), (10, (.int .i64 (bits .and .i64 y 7))), (9, (.int .i64 (bits .and .i64 x 7))), (8, (ptr b4 0)), (7, (.bool true)), (6, (.bool false)), (5, (ptr b3 0)), (4, (ptr b2 0)), (3, (ptr b1 0)), (0, (.agg #[(.int .i64 uid), (.int .i64 gid)])), (1, (.agg #[(.int .i64 kind), (.int .i64 mode), (.int .i64 auid), (.int .i64 agid), (.int .i64 links), (.int .i64 size)])), (2, (.agg #[(.int .i64 x), (.int .i64 y)]))]) hfd (by kernel_rfl)
          obtain ⟨e4, e5, e1, _⟩ := hdd
          have hfd := Fr.add (t := 31) (v := (.int .i64 (bits .and .i64 x 7))) hfd e4
          have hfd := Fr.add (t := 32) (v := (.int .i64 (bits .and .i64 y 7))) hfd e5
          have hfd := Fr.add (t := 28) (v := (.bool true)) hfd e1
          exact G_val (v := (.int .i64 (bits .or .i64 (bits .and .i64 x 7) (bits .and .i64 y 7)))) (w' := wd) hfd rfl (by kernel_rfl) (by kernel_rfl) (Le.refl _) rfl
        · intro a wd ld hfd hdd
          have hfd := Fr.cast (s' := [(11, (ptr b5 0)), (10, (.int .i64 (bits .and .i64 y 7))), (9, (.int .i64 (bits .and .i64 x 7))), (8, (ptr b4 0)), (7, (.bool true)), (6, (.bool false)), (5, (ptr b3 0)), (4, (ptr b2 0)), (3, (ptr b1 0)), (0, (.agg #[(.int .i64 uid), (.int .i64 gid)])), (1, (.agg #[(.int .i64 kind), (.int .i64 mode), (.int .i64 auid), (.int .i64 agid), (.int .i64 links), (.int .i64 size)])), (2, (.agg #[(.int .i64 x), (.int .i64 y)]))]) hfd (by kernel_rfl)
          obtain ⟨e2, e3, e6, e1, _, _⟩ := hdd
          have hfd := Fr.add (t := 29) (v := (.agg #[(.int .i64 uid), (.int .i64 gid)])) hfd e2
          have hfd := Fr.add (t := 30) (v := (.agg #[(.int .i64 kind), (.int .i64 mode), (.int .i64 auid), (.int .i64 agid), (.int .i64 links), (.int .i64 size)])) hfd e3
          have hfd := Fr.add (t := 33) (v := (.int .i64 (bits .or .i64 (bits .and .i64 x 7) (bits .and .i64 y 7)))) hfd e6
          have hfd := Fr.add (t := 28) (v := (.bool true)) hfd e1
          exact G_call (args := #[(.agg #[(.int .i64 uid), (.int .i64 gid)]), (.agg #[(.int .i64 kind), (.int .i64 mode), (.int .i64 auid), (.int .i64 agid), (.int .i64 links), (.int .i64 size)]), (.int .i64 (bits .or .i64 (bits .and .i64 x 7) (bits .and .i64 y 7)))]) (w := wd) hfd rfl (by kernel_rfl) (by kernel_rfl) (may_any uid gid kind mode auid agid links size (bits .or .i64 (bits .and .i64 x 7) (bits .and .i64 y 7)) _) fun v w' ⟨he, hl⟩ => ⟨hl, he⟩
        · intro a wd ld hfd hdd
          have hfd := Fr.cast (s' := [(11, (ptr b5 0)), (10, (.int .i64 (bits .and .i64 y 7))), (9, (.int .i64 (bits .and .i64 x 7))), (8, (ptr b4 0)), (7, (.bool true)), (6, (.bool false)), (5, (ptr b3 0)), (4, (ptr b2 0)), (3, (ptr b1 0)), (0, (.agg #[(.int .i64 uid), (.int .i64 gid)])), (1, (.agg #[(.int .i64 kind), (.int .i64 mode), (.int .i64 auid), (.int .i64 agid), (.int .i64 links), (.int .i64 size)])), (2, (.agg #[(.int .i64 x), (.int .i64 y)]))]) hfd (by kernel_rfl)
          obtain ⟨e1, _⟩ := hdd
          have hfd := Fr.add (t := 28) (v := (.bool true)) hfd e1
          exact G_val hfd rfl (by kernel_rfl) (load_ev (run_load_row (ld.blk k4) Try.underlying29 rfl (vs := [(.int .i64 uid), (.int .i64 gid)]) (by kernel_rfl) rfl) rfl rfl) (Le.refl _) rfl
        · intro a wd ld hfd hdd
          have hfd := Fr.cast (s' := [(11, (ptr b5 0)), (10, (.int .i64 (bits .and .i64 y 7))), (9, (.int .i64 (bits .and .i64 x 7))), (8, (ptr b4 0)), (7, (.bool true)), (6, (.bool false)), (5, (ptr b3 0)), (4, (ptr b2 0)), (3, (ptr b1 0)), (0, (.agg #[(.int .i64 uid), (.int .i64 gid)])), (1, (.agg #[(.int .i64 kind), (.int .i64 mode), (.int .i64 auid), (.int .i64 agid), (.int .i64 links), (.int .i64 size)])), (2, (.agg #[(.int .i64 x), (.int .i64 y)]))]) hfd (by kernel_rfl)
          obtain ⟨e1, _⟩ := hdd
          have hfd := Fr.add (t := 28) (v := (.bool true)) hfd e1
          exact G_val hfd rfl (by kernel_rfl) (load_ev (run_load_row (ld.blk k2) Try.underlying26 rfl (vs := [(.int .i64 kind), (.int .i64 mode), (.int .i64 auid), (.int .i64 agid), (.int .i64 links), (.int .i64 size)]) (by kernel_rfl) rfl) rfl rfl) (Le.refl _) rfl
        · intro a wd ld hfd hdd
          have hfd := Fr.cast (s' := [(11, (ptr b5 0)), (10, (.int .i64 (bits .and .i64 y 7))), (9, (.int .i64 (bits .and .i64 x 7))), (8, (ptr b4 0)), (7, (.bool true)), (6, (.bool false)), (5, (ptr b3 0)), (4, (ptr b2 0)), (3, (ptr b1 0)), (0, (.agg #[(.int .i64 uid), (.int .i64 gid)])), (1, (.agg #[(.int .i64 kind), (.int .i64 mode), (.int .i64 auid), (.int .i64 agid), (.int .i64 links), (.int .i64 size)])), (2, (.agg #[(.int .i64 x), (.int .i64 y)]))]) hfd (by kernel_rfl)
          obtain ⟨e1, _⟩ := hdd
          have hfd := Fr.add (t := 28) (v := (.bool true)) hfd e1
          exact G_val (v := (.int .i64 (bits .and .i64 x 7))) (w' := wd) hfd rfl (by kernel_rfl) (by kernel_rfl) (Le.refl _) rfl
        · intro a wd ld hfd hdd
          have hfd := Fr.cast (s' := [(11, (ptr b5 0)), (10, (.int .i64 (bits .and .i64 y 7))), (9, (.int .i64 (bits .and .i64 x 7))), (8, (ptr b4 0)), (7, (.bool true)), (6, (.bool false)), (5, (ptr b3 0)), (4, (ptr b2 0)), (3, (ptr b1 0)), (0, (.agg #[(.int .i64 uid), (.int .i64 gid)])), (1, (.agg #[(.int .i64 kind), (.int .i64 mode), (.int .i64 auid), (.int .i64 agid), (.int .i64 links), (.int .i64 size)])), (2, (.agg #[(.int .i64 x), (.int .i64 y)]))]) hfd (by kernel_rfl)
          obtain ⟨e8, e9, e10, _, e1, _⟩ := hdd
          have hfd := Fr.add (t := 35) (v := (.agg #[(.int .i64 uid), (.int .i64 gid)])) hfd e8
          have hfd := Fr.add (t := 36) (v := (.agg #[(.int .i64 kind), (.int .i64 mode), (.int .i64 auid), (.int .i64 agid), (.int .i64 links), (.int .i64 size)])) hfd e9
          have hfd := Fr.add (t := 37) (v := (.int .i64 (bits .and .i64 x 7))) hfd e10
          have hfd := Fr.add (t := 28) (v := (.bool true)) hfd e1
          exact G_call (args := #[(.agg #[(.int .i64 uid), (.int .i64 gid)]), (.agg #[(.int .i64 kind), (.int .i64 mode), (.int .i64 auid), (.int .i64 agid), (.int .i64 links), (.int .i64 size)]), (.int .i64 (bits .and .i64 x 7))]) (w := wd) hfd rfl (by kernel_rfl) (by kernel_rfl) (may_any uid gid kind mode auid agid links size (bits .and .i64 x 7) _) fun v w' ⟨he, hl⟩ => ⟨hl, (he.trans (congrArg Value.bool c1))⟩
        · intro a wd ld hfd hdd
          have hfd := Fr.cast (s' := [(11, (ptr b5 0)), (10, (.int .i64 (bits .and .i64 y 7))), (9, (.int .i64 (bits .and .i64 x 7))), (8, (ptr b4 0)), (7, (.bool true)), (6, (.bool false)), (5, (ptr b3 0)), (4, (ptr b2 0)), (3, (ptr b1 0)), (0, (.agg #[(.int .i64 uid), (.int .i64 gid)])), (1, (.agg #[(.int .i64 kind), (.int .i64 mode), (.int .i64 auid), (.int .i64 agid), (.int .i64 links), (.int .i64 size)])), (2, (.agg #[(.int .i64 x), (.int .i64 y)]))]) hfd (by kernel_rfl)
          obtain ⟨e11, _, e1, _⟩ := hdd
          have hfd := Fr.add (t := 38) (v := (.bool false)) hfd e11
          have hfd := Fr.add (t := 28) (v := (.bool true)) hfd e1
          exact G_val (v := (.bool false)) (w' := wd) hfd rfl (by kernel_rfl) (by kernel_rfl) (Le.refl _) rfl
        · intro a wd ld hfd hdd
          have hfd := Fr.cast (s' := [(11, (ptr b5 0)), (10, (.int .i64 (bits .and .i64 y 7))), (9, (.int .i64 (bits .and .i64 x 7))), (8, (ptr b4 0)), (7, (.bool true)), (6, (.bool false)), (5, (ptr b3 0)), (4, (ptr b2 0)), (3, (ptr b1 0)), (0, (.agg #[(.int .i64 uid), (.int .i64 gid)])), (1, (.agg #[(.int .i64 kind), (.int .i64 mode), (.int .i64 auid), (.int .i64 agid), (.int .i64 links), (.int .i64 size)])), (2, (.agg #[(.int .i64 x), (.int .i64 y)]))]) hfd (by kernel_rfl)
          obtain ⟨e12, _⟩ := hdd
          have hfd := Fr.add (t := 39) (v := (.bool false)) hfd e12
          exact G_skip hfd rfl rfl
        · intro a wd ld hfd hdd
          have hfd := Fr.cast (s' := [(11, (ptr b5 0)), (10, (.int .i64 (bits .and .i64 y 7))), (9, (.int .i64 (bits .and .i64 x 7))), (8, (ptr b4 0)), (7, (.bool true)), (6, (.bool false)), (5, (ptr b3 0)), (4, (ptr b2 0)), (3, (ptr b1 0)), (0, (.agg #[(.int .i64 uid), (.int .i64 gid)])), (1, (.agg #[(.int .i64 kind), (.int .i64 mode), (.int .i64 auid), (.int .i64 agid), (.int .i64 links), (.int .i64 size)])), (2, (.agg #[(.int .i64 x), (.int .i64 y)]))]) hfd (by kernel_rfl)
          obtain ⟨e12, _⟩ := hdd
          have hfd := Fr.add (t := 39) (v := (.bool false)) hfd e12
          exact G_skip hfd rfl rfl
        · intro a wd ld hfd hdd
          have hfd := Fr.cast (s' := [(11, (ptr b5 0)), (10, (.int .i64 (bits .and .i64 y 7))), (9, (.int .i64 (bits .and .i64 x 7))), (8, (ptr b4 0)), (7, (.bool true)), (6, (.bool false)), (5, (ptr b3 0)), (4, (ptr b2 0)), (3, (ptr b1 0)), (0, (.agg #[(.int .i64 uid), (.int .i64 gid)])), (1, (.agg #[(.int .i64 kind), (.int .i64 mode), (.int .i64 auid), (.int .i64 agid), (.int .i64 links), (.int .i64 size)])), (2, (.agg #[(.int .i64 x), (.int .i64 y)]))]) hfd (by kernel_rfl)
          obtain ⟨e12, _⟩ := hdd
          have hfd := Fr.add (t := 39) (v := (.bool false)) hfd e12
          exact G_skip hfd rfl rfl
        · intro a wd ld hfd hdd
          have hfd := Fr.cast (s' := [(11, (ptr b5 0)), (10, (.int .i64 (bits .and .i64 y 7))), (9, (.int .i64 (bits .and .i64 x 7))), (8, (ptr b4 0)), (7, (.bool true)), (6, (.bool false)), (5, (ptr b3 0)), (4, (ptr b2 0)), (3, (ptr b1 0)), (0, (.agg #[(.int .i64 uid), (.int .i64 gid)])), (1, (.agg #[(.int .i64 kind), (.int .i64 mode), (.int .i64 auid), (.int .i64 agid), (.int .i64 links), (.int .i64 size)])), (2, (.agg #[(.int .i64 x), (.int .i64 y)]))]) hfd (by kernel_rfl)
          obtain ⟨e13, e14, e15, e12, _, _⟩ := hdd
          have hfd := Fr.add (t := 40) (v := undef) hfd e13
          have hfd := Fr.add (t := 41) (v := undef) hfd e14
          have hfd := Fr.add (t := 42) (v := undef) hfd e15
          have hfd := Fr.add (t := 39) (v := (.bool false)) hfd e12
          exact G_skip hfd rfl rfl
        · intro a wd ld hfd hdd
          have hfd := Fr.cast (s' := [(11, (ptr b5 0)), (10, (.int .i64 (bits .and .i64 y 7))), (9, (.int .i64 (bits .and .i64 x 7))), (8, (ptr b4 0)), (7, (.bool true)), (6, (.bool false)), (5, (ptr b3 0)), (4, (ptr b2 0)), (3, (ptr b1 0)), (0, (.agg #[(.int .i64 uid), (.int .i64 gid)])), (1, (.agg #[(.int .i64 kind), (.int .i64 mode), (.int .i64 auid), (.int .i64 agid), (.int .i64 links), (.int .i64 size)])), (2, (.agg #[(.int .i64 x), (.int .i64 y)]))]) hfd (by kernel_rfl)
          obtain ⟨e12, e16, e1, _⟩ := hdd
          have hfd := Fr.add (t := 39) (v := (.bool false)) hfd e12
          have hfd := Fr.add (t := 43) (v := undef) hfd e16
          have hfd := Fr.add (t := 28) (v := (.bool true)) hfd e1
          exact G_val (v := (.bool false)) (w' := wd) hfd rfl (by kernel_rfl) (by kernel_rfl) (Le.refl _) rfl
        · intro a wd ld hfd hdd
          have hfd := Fr.cast (s' := [(11, (ptr b5 0)), (10, (.int .i64 (bits .and .i64 y 7))), (9, (.int .i64 (bits .and .i64 x 7))), (8, (ptr b4 0)), (7, (.bool true)), (6, (.bool false)), (5, (ptr b3 0)), (4, (ptr b2 0)), (3, (ptr b1 0)), (0, (.agg #[(.int .i64 uid), (.int .i64 gid)])), (1, (.agg #[(.int .i64 kind), (.int .i64 mode), (.int .i64 auid), (.int .i64 agid), (.int .i64 links), (.int .i64 size)])), (2, (.agg #[(.int .i64 x), (.int .i64 y)]))]) hfd (by kernel_rfl)
          obtain ⟨e7, e17, e1, _⟩ := hdd
          have hfd := Fr.add (t := 34) (v := (.bool (mayB uid gid mode auid agid (bits .or .i64 (bits .and .i64 x 7) (bits .and .i64 y 7))))) hfd e7
          have hfd := Fr.add (t := 44) (v := (.bool false)) hfd e17
          have hfd := Fr.add (t := 28) (v := (.bool true)) hfd e1
          exact G_val (v := (.bool true)) (w' := wd) hfd rfl (by kernel_rfl) (eq_bool (by kernel_rfl) c4) (Le.refl _) rfl
        · intro a wd ld hfd hdd
          have hfd := Fr.cast (s' := [(11, (ptr b5 0)), (10, (.int .i64 (bits .and .i64 y 7))), (9, (.int .i64 (bits .and .i64 x 7))), (8, (ptr b4 0)), (7, (.bool true)), (6, (.bool false)), (5, (ptr b3 0)), (4, (ptr b2 0)), (3, (ptr b1 0)), (0, (.agg #[(.int .i64 uid), (.int .i64 gid)])), (1, (.agg #[(.int .i64 kind), (.int .i64 mode), (.int .i64 auid), (.int .i64 agid), (.int .i64 links), (.int .i64 size)])), (2, (.agg #[(.int .i64 x), (.int .i64 y)]))]) hfd (by kernel_rfl)
          obtain ⟨e1, e18, _⟩ := hdd
          have hfd := Fr.add (t := 28) (v := (.bool true)) hfd e1
          have hfd := Fr.add (t := 45) (v := (.bool true)) hfd e18
          exact G_val (v := (.bool true)) (w' := wd) hfd rfl (by kernel_rfl) (by kernel_rfl) (Le.refl _) rfl
        · intro a wd ld hfd hdd
          have hfd := Fr.cast (s' := [(11, (ptr b5 0)), (10, (.int .i64 (bits .and .i64 y 7))), (9, (.int .i64 (bits .and .i64 x 7))), (8, (ptr b4 0)), (7, (.bool true)), (6, (.bool false)), (5, (ptr b3 0)), (4, (ptr b2 0)), (3, (ptr b1 0)), (0, (.agg #[(.int .i64 uid), (.int .i64 gid)])), (1, (.agg #[(.int .i64 kind), (.int .i64 mode), (.int .i64 auid), (.int .i64 agid), (.int .i64 links), (.int .i64 size)])), (2, (.agg #[(.int .i64 x), (.int .i64 y)]))]) hfd (by kernel_rfl)
          obtain ⟨e19, _, _⟩ := hdd
          have hfd := Fr.add (t := 46) (v := (.bool true)) hfd e19
          exact G_val (v := (.bool true)) (w' := wd) hfd rfl (by kernel_rfl) (by kernel_rfl) (Le.refl _) rfl
        · intro a wd ld hfd hdd
          have hfd := Fr.cast (s' := [(11, (ptr b5 0)), (10, (.int .i64 (bits .and .i64 y 7))), (9, (.int .i64 (bits .and .i64 x 7))), (8, (ptr b4 0)), (7, (.bool true)), (6, (.bool false)), (5, (ptr b3 0)), (4, (ptr b2 0)), (3, (ptr b1 0)), (0, (.agg #[(.int .i64 uid), (.int .i64 gid)])), (1, (.agg #[(.int .i64 kind), (.int .i64 mode), (.int .i64 auid), (.int .i64 agid), (.int .i64 links), (.int .i64 size)])), (2, (.agg #[(.int .i64 x), (.int .i64 y)]))]) hfd (by kernel_rfl)
          obtain ⟨e20, _⟩ := hdd
          have hfd := Fr.add (t := 47) (v := (.bool true)) hfd e20
          exact G_val hfd rfl (by kernel_rfl) (load_ev (run_load_row (ld.blk k4) Try.underlying29 rfl (vs := [(.int .i64 uid), (.int .i64 gid)]) (by kernel_rfl) rfl) rfl rfl) (Le.refl _) rfl
        · intro a wd ld hfd hdd
          have hfd := Fr.cast (s' := [(11, (ptr b5 0)), (10, (.int .i64 (bits .and .i64 y 7))), (9, (.int .i64 (bits .and .i64 x 7))), (8, (ptr b4 0)), (7, (.bool true)), (6, (.bool false)), (5, (ptr b3 0)), (4, (ptr b2 0)), (3, (ptr b1 0)), (0, (.agg #[(.int .i64 uid), (.int .i64 gid)])), (1, (.agg #[(.int .i64 kind), (.int .i64 mode), (.int .i64 auid), (.int .i64 agid), (.int .i64 links), (.int .i64 size)])), (2, (.agg #[(.int .i64 x), (.int .i64 y)]))]) hfd (by kernel_rfl)
          obtain ⟨e20, _⟩ := hdd
          have hfd := Fr.add (t := 47) (v := (.bool true)) hfd e20
          exact G_val hfd rfl (by kernel_rfl) (load_ev (run_load_row (ld.blk k2) Try.underlying26 rfl (vs := [(.int .i64 kind), (.int .i64 mode), (.int .i64 auid), (.int .i64 agid), (.int .i64 links), (.int .i64 size)]) (by kernel_rfl) rfl) rfl rfl) (Le.refl _) rfl
        · intro a wd ld hfd hdd
          have hfd := Fr.cast (s' := [(11, (ptr b5 0)), (10, (.int .i64 (bits .and .i64 y 7))), (9, (.int .i64 (bits .and .i64 x 7))), (8, (ptr b4 0)), (7, (.bool true)), (6, (.bool false)), (5, (ptr b3 0)), (4, (ptr b2 0)), (3, (ptr b1 0)), (0, (.agg #[(.int .i64 uid), (.int .i64 gid)])), (1, (.agg #[(.int .i64 kind), (.int .i64 mode), (.int .i64 auid), (.int .i64 agid), (.int .i64 links), (.int .i64 size)])), (2, (.agg #[(.int .i64 x), (.int .i64 y)]))]) hfd (by kernel_rfl)
          obtain ⟨e21, e22, e20, _, _⟩ := hdd
          have hfd := Fr.add (t := 48) (v := (.agg #[(.int .i64 uid), (.int .i64 gid)])) hfd e21
          have hfd := Fr.add (t := 49) (v := (.agg #[(.int .i64 kind), (.int .i64 mode), (.int .i64 auid), (.int .i64 agid), (.int .i64 links), (.int .i64 size)])) hfd e22
          have hfd := Fr.add (t := 47) (v := (.bool true)) hfd e20
          exact G_call (args := #[(.agg #[(.int .i64 uid), (.int .i64 gid)]), (.agg #[(.int .i64 kind), (.int .i64 mode), (.int .i64 auid), (.int .i64 agid), (.int .i64 links), (.int .i64 size)]), (.int .i64 0)]) (w := wd) hfd rfl (by kernel_rfl) (by kernel_rfl) (may_any uid gid kind mode auid agid links size 0 _) fun v w' ⟨he, hl⟩ => ⟨hl, (he.trans (congrArg Value.bool c5))⟩
        · intro a wd ld hfd hdd
          have hfd := Fr.cast (s' := [(11, (ptr b5 0)), (10, (.int .i64 (bits .and .i64 y 7))), (9, (.int .i64 (bits .and .i64 x 7))), (8, (ptr b4 0)), (7, (.bool true)), (6, (.bool false)), (5, (ptr b3 0)), (4, (ptr b2 0)), (3, (ptr b1 0)), (0, (.agg #[(.int .i64 uid), (.int .i64 gid)])), (1, (.agg #[(.int .i64 kind), (.int .i64 mode), (.int .i64 auid), (.int .i64 agid), (.int .i64 links), (.int .i64 size)])), (2, (.agg #[(.int .i64 x), (.int .i64 y)]))]) hfd (by kernel_rfl)
          obtain ⟨e20, e23, _⟩ := hdd
          have hfd := Fr.add (t := 47) (v := (.bool true)) hfd e20
          have hfd := Fr.add (t := 50) (v := (.bool true)) hfd e23
          exact G_val (v := (.bool true)) (w' := wd) hfd rfl (by kernel_rfl) (by kernel_rfl) (Le.refl _) rfl
        · intro a wd ld hfd hdd
          have hfd := Fr.cast (s' := [(11, (ptr b5 0)), (10, (.int .i64 (bits .and .i64 y 7))), (9, (.int .i64 (bits .and .i64 x 7))), (8, (ptr b4 0)), (7, (.bool true)), (6, (.bool false)), (5, (ptr b3 0)), (4, (ptr b2 0)), (3, (ptr b1 0)), (0, (.agg #[(.int .i64 uid), (.int .i64 gid)])), (1, (.agg #[(.int .i64 kind), (.int .i64 mode), (.int .i64 auid), (.int .i64 agid), (.int .i64 links), (.int .i64 size)])), (2, (.agg #[(.int .i64 x), (.int .i64 y)]))]) hfd (by kernel_rfl)
          obtain ⟨e24, _, _⟩ := hdd
          have hfd := Fr.add (t := 51) (v := (.bool true)) hfd e24
          exact G_val (v := (.bool true)) (w' := wd) hfd rfl (by kernel_rfl) (by kernel_rfl) (Le.refl _) rfl
        · intro a wd ld hfd hdd
          have hfd := Fr.cast (s' := [(11, (ptr b5 0)), (10, (.int .i64 (bits .and .i64 y 7))), (9, (.int .i64 (bits .and .i64 x 7))), (8, (ptr b4 0)), (7, (.bool true)), (6, (.bool false)), (5, (ptr b3 0)), (4, (ptr b2 0)), (3, (ptr b1 0)), (0, (.agg #[(.int .i64 uid), (.int .i64 gid)])), (1, (.agg #[(.int .i64 kind), (.int .i64 mode), (.int .i64 auid), (.int .i64 agid), (.int .i64 links), (.int .i64 size)])), (2, (.agg #[(.int .i64 x), (.int .i64 y)]))]) hfd (by kernel_rfl)
          obtain ⟨e25, _⟩ := hdd
          have hfd := Fr.add (t := 52) (v := (.bool true)) hfd e25
          exact G_val hfd rfl (by kernel_rfl) (load_ev (run_load_row (ld.blk k5) Try.underlying29 rfl (vs := [(.int .i64 0), (.int .i64 gid)]) (by kernel_rfl) rfl) rfl rfl) (Le.refl _) rfl
        · intro a wd ld hfd hdd
          have hfd := Fr.cast (s' := [(11, (ptr b5 0)), (10, (.int .i64 (bits .and .i64 y 7))), (9, (.int .i64 (bits .and .i64 x 7))), (8, (ptr b4 0)), (7, (.bool true)), (6, (.bool false)), (5, (ptr b3 0)), (4, (ptr b2 0)), (3, (ptr b1 0)), (0, (.agg #[(.int .i64 uid), (.int .i64 gid)])), (1, (.agg #[(.int .i64 kind), (.int .i64 mode), (.int .i64 auid), (.int .i64 agid), (.int .i64 links), (.int .i64 size)])), (2, (.agg #[(.int .i64 x), (.int .i64 y)]))]) hfd (by kernel_rfl)
          obtain ⟨e25, _⟩ := hdd
          have hfd := Fr.add (t := 52) (v := (.bool true)) hfd e25
          exact G_val hfd rfl (by kernel_rfl) (load_ev (run_load_row (ld.blk k2) Try.underlying26 rfl (vs := [(.int .i64 kind), (.int .i64 mode), (.int .i64 auid), (.int .i64 agid), (.int .i64 links), (.int .i64 size)]) (by kernel_rfl) rfl) rfl rfl) (Le.refl _) rfl
        · intro a wd ld hfd hdd
          have hfd := Fr.cast (s' := [(11, (ptr b5 0)), (10, (.int .i64 (bits .and .i64 y 7))), (9, (.int .i64 (bits .and .i64 x 7))), (8, (ptr b4 0)), (7, (.bool true)), (6, (.bool false)), (5, (ptr b3 0)), (4, (ptr b2 0)), (3, (ptr b1 0)), (0, (.agg #[(.int .i64 uid), (.int .i64 gid)])), (1, (.agg #[(.int .i64 kind), (.int .i64 mode), (.int .i64 auid), (.int .i64 agid), (.int .i64 links), (.int .i64 size)])), (2, (.agg #[(.int .i64 x), (.int .i64 y)]))]) hfd (by kernel_rfl)
          obtain ⟨e25, _⟩ := hdd
          have hfd := Fr.add (t := 52) (v := (.bool true)) hfd e25
          exact G_val (v := (.int .i64 (bits .and .i64 x 7))) (w' := wd) hfd rfl (by kernel_rfl) (by kernel_rfl) (Le.refl _) rfl
        · intro a wd ld hfd hdd
          have hfd := Fr.cast (s' := [(11, (ptr b5 0)), (10, (.int .i64 (bits .and .i64 y 7))), (9, (.int .i64 (bits .and .i64 x 7))), (8, (ptr b4 0)), (7, (.bool true)), (6, (.bool false)), (5, (ptr b3 0)), (4, (ptr b2 0)), (3, (ptr b1 0)), (0, (.agg #[(.int .i64 uid), (.int .i64 gid)])), (1, (.agg #[(.int .i64 kind), (.int .i64 mode), (.int .i64 auid), (.int .i64 agid), (.int .i64 links), (.int .i64 size)])), (2, (.agg #[(.int .i64 x), (.int .i64 y)]))]) hfd (by kernel_rfl)
          obtain ⟨e26, e27, e28, e25, _, _⟩ := hdd
          have hfd := Fr.add (t := 53) (v := (.agg #[(.int .i64 0), (.int .i64 gid)])) hfd e26
          have hfd := Fr.add (t := 54) (v := (.agg #[(.int .i64 kind), (.int .i64 mode), (.int .i64 auid), (.int .i64 agid), (.int .i64 links), (.int .i64 size)])) hfd e27
          have hfd := Fr.add (t := 55) (v := (.int .i64 (bits .and .i64 x 7))) hfd e28
          have hfd := Fr.add (t := 52) (v := (.bool true)) hfd e25
          exact G_call (args := #[(.agg #[(.int .i64 0), (.int .i64 gid)]), (.agg #[(.int .i64 kind), (.int .i64 mode), (.int .i64 auid), (.int .i64 agid), (.int .i64 links), (.int .i64 size)]), (.int .i64 (bits .and .i64 x 7))]) (w := wd) hfd rfl (by kernel_rfl) (by kernel_rfl) (may_any 0 gid kind mode auid agid links size (bits .and .i64 x 7) _) fun v w' ⟨he, hl⟩ => ⟨hl, he⟩
        · intro a wd ld hfd hdd
          have hfd := Fr.cast (s' := [(11, (ptr b5 0)), (10, (.int .i64 (bits .and .i64 y 7))), (9, (.int .i64 (bits .and .i64 x 7))), (8, (ptr b4 0)), (7, (.bool true)), (6, (.bool false)), (5, (ptr b3 0)), (4, (ptr b2 0)), (3, (ptr b1 0)), (0, (.agg #[(.int .i64 uid), (.int .i64 gid)])), (1, (.agg #[(.int .i64 kind), (.int .i64 mode), (.int .i64 auid), (.int .i64 agid), (.int .i64 links), (.int .i64 size)])), (2, (.agg #[(.int .i64 x), (.int .i64 y)]))]) hfd (by kernel_rfl)
          obtain ⟨e25, e29, _⟩ := hdd
          have hfd := Fr.add (t := 52) (v := (.bool true)) hfd e25
          have hfd := Fr.add (t := 56) (v := (.bool (mayB 0 gid mode auid agid (bits .and .i64 x 7)))) hfd e29
          exact G_val (v := (.bool (mayB 0 gid mode auid agid (bits .and .i64 x 7)))) (w' := wd) hfd rfl (by kernel_rfl) (by kernel_rfl) (Le.refl _) rfl
        · intro a wd ld hfd hdd
          have hfd := Fr.cast (s' := [(11, (ptr b5 0)), (10, (.int .i64 (bits .and .i64 y 7))), (9, (.int .i64 (bits .and .i64 x 7))), (8, (ptr b4 0)), (7, (.bool true)), (6, (.bool false)), (5, (ptr b3 0)), (4, (ptr b2 0)), (3, (ptr b1 0)), (0, (.agg #[(.int .i64 uid), (.int .i64 gid)])), (1, (.agg #[(.int .i64 kind), (.int .i64 mode), (.int .i64 auid), (.int .i64 agid), (.int .i64 links), (.int .i64 size)])), (2, (.agg #[(.int .i64 x), (.int .i64 y)]))]) hfd (by kernel_rfl)
          obtain ⟨e30, _, _, _, _, _, _, _, _, _, _, _, _, _, _, _, _, _, _, _, _, _, _, _, _, _, _, _, _, _, _, _, _, _⟩ := hdd
          have hfd := Fr.add (t := 57) (v := (.bool (mayB 0 gid mode auid agid (bits .and .i64 x 7)))) hfd e30
          exact G_val (v := (.bool (mayB 0 gid mode auid agid (bits .and .i64 x 7)))) (w' := wd) hfd rfl (by kernel_rfl) (by kernel_rfl) (Le.refl _) rfl
        intro a4 w12 l5 hf4 fa4
        obtain ⟨q97, q98, q99, q100, q101, q102, q103, q104, q105, q106, q107, q108, q109, q110, q111, q112, q113, q114, q115, q116, q117, q118, q119, q120, q121, q122, q123, q124, q125, q126, q127, q128, _⟩ := fa4
        have hf4 := Fr.cast (s' := [(11, (ptr b5 0)), (10, (.int .i64 (bits .and .i64 y 7))), (9, (.int .i64 (bits .and .i64 x 7))), (8, (ptr b4 0)), (7, (.bool true)), (5, (ptr b3 0)), (4, (ptr b2 0)), (3, (ptr b1 0)), (0, (.agg #[(.int .i64 uid), (.int .i64 gid)])), (1, (.agg #[(.int .i64 kind), (.int .i64 mode), (.int .i64 auid), (.int .i64 agid), (.int .i64 links), (.int .i64 size)])), (2, (.agg #[(.int .i64 x), (.int .i64 y)]))]) hf4 (by kernel_rfl)
        have hf4 := Fr.add (t := 6) (v := (.bool (mayB 0 gid mode auid agid (bits .and .i64 x 7)))) hf4 q128
        have k1 := l5.blk k1
        have k2 := l5.blk k2
        have k3 := l5.blk k3
        have k4 := l5.blk k4
        have k5 := l5.blk k5
        have be12 := l5.below' be8
        refine (?_ : okE .normal _ [(6, (.bool (mayB 0 gid mode auid agid (bits .and .i64 x 7)))), (11, (ptr b5 0)), (10, (.int .i64 (bits .and .i64 y 7))), (9, (.int .i64 (bits .and .i64 x 7))), (8, (ptr b4 0)), (7, (.bool true)), (5, (ptr b3 0)), (4, (ptr b2 0)), (3, (ptr b1 0)), (0, (.agg #[(.int .i64 uid), (.int .i64 gid)])), (1, (.agg #[(.int .i64 kind), (.int .i64 mode), (.int .i64 auid), (.int .i64 agid), (.int .i64 links), (.int .i64 size)])), (2, (.agg #[(.int .i64 x), (.int .i64 y)]))] _ _) a4 (hf4.sub ⟨rfl, rfl, rfl, rfl, rfl, rfl, rfl, rfl, rfl, rfl, rfl, rfl, trivial⟩)
        refine E_then_normal ?_
        refine C_ret ?_
        refine E_ret (res_one rfl rfl) ⟨_, rfl, ?_⟩
        exact ⟨congrArg Value.bool (by first | rfl | (simp [may_or, may_zero, may_root, c1, c4, c5]; done) | (exfalso; revert c1 c4 c5; decide) | (exfalso; simp_all [may_or, may_zero, may_root]; done)), be12⟩
      · refine C_draw [fun _ v => v = (.bool true), fun _ v => v = (.bool true), fun _ v => v = (.agg #[(.int .i64 uid), (.int .i64 gid)]), fun _ v => v = (.agg #[(.int .i64 kind), (.int .i64 mode), (.int .i64 auid), (.int .i64 agid), (.int .i64 links), (.int .i64 size)]), fun _ v => v = (.int .i64 (bits .and .i64 x 7)), fun _ v => v = (.int .i64 (bits .and .i64 y 7)), fun _ v => v = (.int .i64 (bits .or .i64 (bits .and .i64 x 7) (bits .and .i64 y 7))), fun _ v => v = (.bool (mayB uid gid mode auid agid (bits .or .i64 (bits .and .i64 x 7) (bits .and .i64 y 7)))), fun _ v => v = (.agg #[(.int .i64 uid), (.int .i64 gid)]), fun _ v => v = (.agg #[(.int .i64 kind), (.int .i64 mode), (.int .i64 auid), (.int .i64 agid), (.int .i64 links), (.int .i64 size)]), fun _ v => v = (.int .i64 (bits .and .i64 x 7)), fun _ v => v = (.bool false), fun _ v => v = (.bool false), fun _ v => v = undef, fun _ v => v = undef, fun _ v => v = undef, fun _ v => v = undef, fun _ v => v = (.bool false), fun _ v => v = (.bool true), fun _ v => v = (.bool true), fun _ v => v = (.bool true), fun _ v => v = (.agg #[(.int .i64 uid), (.int .i64 gid)]), fun _ v => v = (.agg #[(.int .i64 kind), (.int .i64 mode), (.int .i64 auid), (.int .i64 agid), (.int .i64 links), (.int .i64 size)]), fun _ v => v = (.bool false), fun _ v => v = (.bool false), fun _ v => v = (.bool false), fun _ v => v = undef, fun _ v => v = undef, fun _ v => v = undef, fun _ v => v = undef, fun _ v => v = (.bool false), fun _ v => v = (.bool false)] (by kernel_rfl) (by kernel_rfl) (by kernel_rfl) ⟨stab_exact _, stab_exact _, stab_exact _, stab_exact _, stab_exact _, stab_exact _, stab_exact _, stab_exact _, stab_exact _, stab_exact _, stab_exact _, stab_exact _, stab_exact _, stab_exact _, stab_exact _, stab_exact _, stab_exact _, stab_exact _, stab_exact _, stab_exact _, stab_exact _, stab_exact _, stab_exact _, stab_exact _, stab_exact _, stab_exact _, stab_exact _, stab_exact _, stab_exact _, stab_exact _, stab_exact _, stab_exact _, trivial⟩ ⟨?_, ?_, ?_, ?_, ?_, ?_, ?_, ?_, ?_, ?_, ?_, ?_, ?_, ?_, ?_, ?_, ?_, ?_, ?_, ?_, ?_, ?_, ?_, ?_, ?_, ?_, ?_, ?_, ?_, ?_, ?_, ?_, trivial⟩ ?_
        · intro a wd ld hfd hdd
          have hfd := Fr.cast (s' := [(11, (ptr b5 0)), (10, (.int .i64 (bits .and .i64 y 7))), (9, (.int .i64 (bits .and .i64 x 7))), (8, (ptr b4 0)), (7, (.bool true)), (6, (.bool false)), (5, (ptr b3 0)), (4, (ptr b2 0)), (3, (ptr b1 0)), (0, (.agg #[(.int .i64 uid), (.int .i64 gid)])), (1, (.agg #[(.int .i64 kind), (.int .i64 mode), (.int .i64 auid), (.int .i64 agid), (.int .i64 links), (.int .i64 size)])), (2, (.agg #[(.int .i64 x), (.int .i64 y)]))]) hfd (by kernel_rfl)
          exact G_val (v := (.bool true)) (w' := wd) hfd rfl (by kernel_rfl) (by kernel_rfl) (Le.refl _) rfl
        · intro a wd ld hfd hdd
          have hfd := Fr.cast (s' := [(11, (ptr b5 0)), (10, (.int .i64 (bits .and .i64 y 7))), (9, (.int .i64 (bits .and .i64 x 7))), (8, (ptr b4 0)), (7, (.bool true)), (6, (.bool false)), (5, (ptr b3 0)), (4, (ptr b2 0)), (3, (ptr b1 0)), (0, (.agg #[(.int .i64 uid), (.int .i64 gid)])), (1, (.agg #[(.int .i64 kind), (.int .i64 mode), (.int .i64 auid), (.int .i64 agid), (.int .i64 links), (.int .i64 size)])), (2, (.agg #[(.int .i64 x), (.int .i64 y)]))]) hfd (by kernel_rfl)
          obtain ⟨e0, _⟩ := hdd
          have hfd := Fr.add (t := 27) (v := (.bool true)) hfd e0
          exact G_val (v := (.bool true)) (w' := wd) hfd rfl (by kernel_rfl) (by kernel_rfl) (Le.refl _) rfl
        · intro a wd ld hfd hdd
          have hfd := Fr.cast (s' := [(11, (ptr b5 0)), (10, (.int .i64 (bits .and .i64 y 7))), (9, (.int .i64 (bits .and .i64 x 7))), (8, (ptr b4 0)), (7, (.bool true)), (6, (.bool false)), (5, (ptr b3 0)), (4, (ptr b2 0)), (3, (ptr b1 0)), (0, (.agg #[(.int .i64 uid), (.int .i64 gid)])), (1, (.agg #[(.int .i64 kind), (.int .i64 mode), (.int .i64 auid), (.int .i64 agid), (.int .i64 links), (.int .i64 size)])), (2, (.agg #[(.int .i64 x), (.int .i64 y)]))]) hfd (by kernel_rfl)
          obtain ⟨e1, _⟩ := hdd
          have hfd := Fr.add (t := 28) (v := (.bool true)) hfd e1
          exact G_val hfd rfl (by kernel_rfl) (load_ev (run_load_row (ld.blk k4) Try.underlying29 rfl (vs := [(.int .i64 uid), (.int .i64 gid)]) (by kernel_rfl) rfl) rfl rfl) (Le.refl _) rfl
        · intro a wd ld hfd hdd
          have hfd := Fr.cast (s' := [(11, (ptr b5 0)), (10, (.int .i64 (bits .and .i64 y 7))), (9, (.int .i64 (bits .and .i64 x 7))), (8, (ptr b4 0)), (7, (.bool true)), (6, (.bool false)), (5, (ptr b3 0)), (4, (ptr b2 0)), (3, (ptr b1 0)), (0, (.agg #[(.int .i64 uid), (.int .i64 gid)])), (1, (.agg #[(.int .i64 kind), (.int .i64 mode), (.int .i64 auid), (.int .i64 agid), (.int .i64 links), (.int .i64 size)])), (2, (.agg #[(.int .i64 x), (.int .i64 y)]))]) hfd (by kernel_rfl)
          obtain ⟨e1, _⟩ := hdd
          have hfd := Fr.add (t := 28) (v := (.bool true)) hfd e1
          exact G_val hfd rfl (by kernel_rfl) (load_ev (run_load_row (ld.blk k2) Try.underlying26 rfl (vs := [(.int .i64 kind), (.int .i64 mode), (.int .i64 auid), (.int .i64 agid), (.int .i64 links), (.int .i64 size)]) (by kernel_rfl) rfl) rfl rfl) (Le.refl _) rfl
        · intro a wd ld hfd hdd
          have hfd := Fr.cast (s' := [(11, (ptr b5 0)), (10, (.int .i64 (bits .and .i64 y 7))), (9, (.int .i64 (bits .and .i64 x 7))), (8, (ptr b4 0)), (7, (.bool true)), (6, (.bool false)), (5, (ptr b3 0)), (4, (ptr b2 0)), (3, (ptr b1 0)), (0, (.agg #[(.int .i64 uid), (.int .i64 gid)])), (1, (.agg #[(.int .i64 kind), (.int .i64 mode), (.int .i64 auid), (.int .i64 agid), (.int .i64 links), (.int .i64 size)])), (2, (.agg #[(.int .i64 x), (.int .i64 y)]))]) hfd (by kernel_rfl)
          obtain ⟨e1, _⟩ := hdd
          have hfd := Fr.add (t := 28) (v := (.bool true)) hfd e1
          exact G_val (v := (.int .i64 (bits .and .i64 x 7))) (w' := wd) hfd rfl (by kernel_rfl) (by kernel_rfl) (Le.refl _) rfl
        · intro a wd ld hfd hdd
          have hfd := Fr.cast (s' := [(11, (ptr b5 0)), (10, (.int .i64 (bits .and .i64 y 7))), (9, (.int .i64 (bits .and .i64 x 7))), (8, (ptr b4 0)), (7, (.bool true)), (6, (.bool false)), (5, (ptr b3 0)), (4, (ptr b2 0)), (3, (ptr b1 0)), (0, (.agg #[(.int .i64 uid), (.int .i64 gid)])), (1, (.agg #[(.int .i64 kind), (.int .i64 mode), (.int .i64 auid), (.int .i64 agid), (.int .i64 links), (.int .i64 size)])), (2, (.agg #[(.int .i64 x), (.int .i64 y)]))]) hfd (by kernel_rfl)
          obtain ⟨e1, _⟩ := hdd
          have hfd := Fr.add (t := 28) (v := (.bool true)) hfd e1
          exact G_val (v := (.int .i64 (bits .and .i64 y 7))) (w' := wd) hfd rfl (by kernel_rfl) (by kernel_rfl) (Le.refl _) rfl
        · intro a wd ld hfd hdd
          have hfd := Fr.cast (s' := [(11, (ptr b5 0)), (10, (.int .i64 (bits .and .i64 y 7))), (9, (.int .i64 (bits .and .i64 x 7))), (8, (ptr b4 0)), (7, (.bool true)), (6, (.bool false)), (5, (ptr b3 0)), (4, (ptr b2 0)), (3, (ptr b1 0)), (0, (.agg #[(.int .i64 uid), (.int .i64 gid)])), (1, (.agg #[(.int .i64 kind), (.int .i64 mode), (.int .i64 auid), (.int .i64 agid), (.int .i64 links), (.int .i64 size)])), (2, (.agg #[(.int .i64 x), (.int .i64 y)]))]) hfd (by kernel_rfl)
          obtain ⟨e4, e5, e1, _⟩ := hdd
          have hfd := Fr.add (t := 31) (v := (.int .i64 (bits .and .i64 x 7))) hfd e4
          have hfd := Fr.add (t := 32) (v := (.int .i64 (bits .and .i64 y 7))) hfd e5
          have hfd := Fr.add (t := 28) (v := (.bool true)) hfd e1
          exact G_val (v := (.int .i64 (bits .or .i64 (bits .and .i64 x 7) (bits .and .i64 y 7)))) (w' := wd) hfd rfl (by kernel_rfl) (by kernel_rfl) (Le.refl _) rfl
        · intro a wd ld hfd hdd
          have hfd := Fr.cast (s' := [(11, (ptr b5 0)), (10, (.int .i64 (bits .and .i64 y 7))), (9, (.int .i64 (bits .and .i64 x 7))), (8, (ptr b4 0)), (7, (.bool true)), (6, (.bool false)), (5, (ptr b3 0)), (4, (ptr b2 0)), (3, (ptr b1 0)), (0, (.agg #[(.int .i64 uid), (.int .i64 gid)])), (1, (.agg #[(.int .i64 kind), (.int .i64 mode), (.int .i64 auid), (.int .i64 agid), (.int .i64 links), (.int .i64 size)])), (2, (.agg #[(.int .i64 x), (.int .i64 y)]))]) hfd (by kernel_rfl)
          obtain ⟨e2, e3, e6, e1, _, _⟩ := hdd
          have hfd := Fr.add (t := 29) (v := (.agg #[(.int .i64 uid), (.int .i64 gid)])) hfd e2
          have hfd := Fr.add (t := 30) (v := (.agg #[(.int .i64 kind), (.int .i64 mode), (.int .i64 auid), (.int .i64 agid), (.int .i64 links), (.int .i64 size)])) hfd e3
          have hfd := Fr.add (t := 33) (v := (.int .i64 (bits .or .i64 (bits .and .i64 x 7) (bits .and .i64 y 7)))) hfd e6
          have hfd := Fr.add (t := 28) (v := (.bool true)) hfd e1
          exact G_call (args := #[(.agg #[(.int .i64 uid), (.int .i64 gid)]), (.agg #[(.int .i64 kind), (.int .i64 mode), (.int .i64 auid), (.int .i64 agid), (.int .i64 links), (.int .i64 size)]), (.int .i64 (bits .or .i64 (bits .and .i64 x 7) (bits .and .i64 y 7)))]) (w := wd) hfd rfl (by kernel_rfl) (by kernel_rfl) (may_any uid gid kind mode auid agid links size (bits .or .i64 (bits .and .i64 x 7) (bits .and .i64 y 7)) _) fun v w' ⟨he, hl⟩ => ⟨hl, he⟩
        · intro a wd ld hfd hdd
          have hfd := Fr.cast (s' := [(11, (ptr b5 0)), (10, (.int .i64 (bits .and .i64 y 7))), (9, (.int .i64 (bits .and .i64 x 7))), (8, (ptr b4 0)), (7, (.bool true)), (6, (.bool false)), (5, (ptr b3 0)), (4, (ptr b2 0)), (3, (ptr b1 0)), (0, (.agg #[(.int .i64 uid), (.int .i64 gid)])), (1, (.agg #[(.int .i64 kind), (.int .i64 mode), (.int .i64 auid), (.int .i64 agid), (.int .i64 links), (.int .i64 size)])), (2, (.agg #[(.int .i64 x), (.int .i64 y)]))]) hfd (by kernel_rfl)
          obtain ⟨e1, _⟩ := hdd
          have hfd := Fr.add (t := 28) (v := (.bool true)) hfd e1
          exact G_val hfd rfl (by kernel_rfl) (load_ev (run_load_row (ld.blk k4) Try.underlying29 rfl (vs := [(.int .i64 uid), (.int .i64 gid)]) (by kernel_rfl) rfl) rfl rfl) (Le.refl _) rfl
        · intro a wd ld hfd hdd
          have hfd := Fr.cast (s' := [(11, (ptr b5 0)), (10, (.int .i64 (bits .and .i64 y 7))), (9, (.int .i64 (bits .and .i64 x 7))), (8, (ptr b4 0)), (7, (.bool true)), (6, (.bool false)), (5, (ptr b3 0)), (4, (ptr b2 0)), (3, (ptr b1 0)), (0, (.agg #[(.int .i64 uid), (.int .i64 gid)])), (1, (.agg #[(.int .i64 kind), (.int .i64 mode), (.int .i64 auid), (.int .i64 agid), (.int .i64 links), (.int .i64 size)])), (2, (.agg #[(.int .i64 x), (.int .i64 y)]))]) hfd (by kernel_rfl)
          obtain ⟨e1, _⟩ := hdd
          have hfd := Fr.add (t := 28) (v := (.bool true)) hfd e1
          exact G_val hfd rfl (by kernel_rfl) (load_ev (run_load_row (ld.blk k2) Try.underlying26 rfl (vs := [(.int .i64 kind), (.int .i64 mode), (.int .i64 auid), (.int .i64 agid), (.int .i64 links), (.int .i64 size)]) (by kernel_rfl) rfl) rfl rfl) (Le.refl _) rfl
        · intro a wd ld hfd hdd
          have hfd := Fr.cast (s' := [(11, (ptr b5 0)), (10, (.int .i64 (bits .and .i64 y 7))), (9, (.int .i64 (bits .and .i64 x 7))), (8, (ptr b4 0)), (7, (.bool true)), (6, (.bool false)), (5, (ptr b3 0)), (4, (ptr b2 0)), (3, (ptr b1 0)), (0, (.agg #[(.int .i64 uid), (.int .i64 gid)])), (1, (.agg #[(.int .i64 kind), (.int .i64 mode), (.int .i64 auid), (.int .i64 agid), (.int .i64 links), (.int .i64 size)])), (2, (.agg #[(.int .i64 x), (.int .i64 y)]))]) hfd (by kernel_rfl)
          obtain ⟨e1, _⟩ := hdd
          have hfd := Fr.add (t := 28) (v := (.bool true)) hfd e1
          exact G_val (v := (.int .i64 (bits .and .i64 x 7))) (w' := wd) hfd rfl (by kernel_rfl) (by kernel_rfl) (Le.refl _) rfl
        · intro a wd ld hfd hdd
          have hfd := Fr.cast (s' := [(11, (ptr b5 0)), (10, (.int .i64 (bits .and .i64 y 7))), (9, (.int .i64 (bits .and .i64 x 7))), (8, (ptr b4 0)), (7, (.bool true)), (6, (.bool false)), (5, (ptr b3 0)), (4, (ptr b2 0)), (3, (ptr b1 0)), (0, (.agg #[(.int .i64 uid), (.int .i64 gid)])), (1, (.agg #[(.int .i64 kind), (.int .i64 mode), (.int .i64 auid), (.int .i64 agid), (.int .i64 links), (.int .i64 size)])), (2, (.agg #[(.int .i64 x), (.int .i64 y)]))]) hfd (by kernel_rfl)
          obtain ⟨e8, e9, e10, _, e1, _⟩ := hdd
          have hfd := Fr.add (t := 35) (v := (.agg #[(.int .i64 uid), (.int .i64 gid)])) hfd e8
          have hfd := Fr.add (t := 36) (v := (.agg #[(.int .i64 kind), (.int .i64 mode), (.int .i64 auid), (.int .i64 agid), (.int .i64 links), (.int .i64 size)])) hfd e9
          have hfd := Fr.add (t := 37) (v := (.int .i64 (bits .and .i64 x 7))) hfd e10
          have hfd := Fr.add (t := 28) (v := (.bool true)) hfd e1
          exact G_call (args := #[(.agg #[(.int .i64 uid), (.int .i64 gid)]), (.agg #[(.int .i64 kind), (.int .i64 mode), (.int .i64 auid), (.int .i64 agid), (.int .i64 links), (.int .i64 size)]), (.int .i64 (bits .and .i64 x 7))]) (w := wd) hfd rfl (by kernel_rfl) (by kernel_rfl) (may_any uid gid kind mode auid agid links size (bits .and .i64 x 7) _) fun v w' ⟨he, hl⟩ => ⟨hl, (he.trans (congrArg Value.bool c1))⟩
        · intro a wd ld hfd hdd
          have hfd := Fr.cast (s' := [(11, (ptr b5 0)), (10, (.int .i64 (bits .and .i64 y 7))), (9, (.int .i64 (bits .and .i64 x 7))), (8, (ptr b4 0)), (7, (.bool true)), (6, (.bool false)), (5, (ptr b3 0)), (4, (ptr b2 0)), (3, (ptr b1 0)), (0, (.agg #[(.int .i64 uid), (.int .i64 gid)])), (1, (.agg #[(.int .i64 kind), (.int .i64 mode), (.int .i64 auid), (.int .i64 agid), (.int .i64 links), (.int .i64 size)])), (2, (.agg #[(.int .i64 x), (.int .i64 y)]))]) hfd (by kernel_rfl)
          obtain ⟨e11, _, e1, _⟩ := hdd
          have hfd := Fr.add (t := 38) (v := (.bool false)) hfd e11
          have hfd := Fr.add (t := 28) (v := (.bool true)) hfd e1
          exact G_val (v := (.bool false)) (w' := wd) hfd rfl (by kernel_rfl) (by kernel_rfl) (Le.refl _) rfl
        · intro a wd ld hfd hdd
          have hfd := Fr.cast (s' := [(11, (ptr b5 0)), (10, (.int .i64 (bits .and .i64 y 7))), (9, (.int .i64 (bits .and .i64 x 7))), (8, (ptr b4 0)), (7, (.bool true)), (6, (.bool false)), (5, (ptr b3 0)), (4, (ptr b2 0)), (3, (ptr b1 0)), (0, (.agg #[(.int .i64 uid), (.int .i64 gid)])), (1, (.agg #[(.int .i64 kind), (.int .i64 mode), (.int .i64 auid), (.int .i64 agid), (.int .i64 links), (.int .i64 size)])), (2, (.agg #[(.int .i64 x), (.int .i64 y)]))]) hfd (by kernel_rfl)
          obtain ⟨e12, _⟩ := hdd
          have hfd := Fr.add (t := 39) (v := (.bool false)) hfd e12
          exact G_skip hfd rfl rfl
        · intro a wd ld hfd hdd
          have hfd := Fr.cast (s' := [(11, (ptr b5 0)), (10, (.int .i64 (bits .and .i64 y 7))), (9, (.int .i64 (bits .and .i64 x 7))), (8, (ptr b4 0)), (7, (.bool true)), (6, (.bool false)), (5, (ptr b3 0)), (4, (ptr b2 0)), (3, (ptr b1 0)), (0, (.agg #[(.int .i64 uid), (.int .i64 gid)])), (1, (.agg #[(.int .i64 kind), (.int .i64 mode), (.int .i64 auid), (.int .i64 agid), (.int .i64 links), (.int .i64 size)])), (2, (.agg #[(.int .i64 x), (.int .i64 y)]))]) hfd (by kernel_rfl)
          obtain ⟨e12, _⟩ := hdd
          have hfd := Fr.add (t := 39) (v := (.bool false)) hfd e12
          exact G_skip hfd rfl rfl
        · intro a wd ld hfd hdd
          have hfd := Fr.cast (s' := [(11, (ptr b5 0)), (10, (.int .i64 (bits .and .i64 y 7))), (9, (.int .i64 (bits .and .i64 x 7))), (8, (ptr b4 0)), (7, (.bool true)), (6, (.bool false)), (5, (ptr b3 0)), (4, (ptr b2 0)), (3, (ptr b1 0)), (0, (.agg #[(.int .i64 uid), (.int .i64 gid)])), (1, (.agg #[(.int .i64 kind), (.int .i64 mode), (.int .i64 auid), (.int .i64 agid), (.int .i64 links), (.int .i64 size)])), (2, (.agg #[(.int .i64 x), (.int .i64 y)]))]) hfd (by kernel_rfl)
          obtain ⟨e12, _⟩ := hdd
          have hfd := Fr.add (t := 39) (v := (.bool false)) hfd e12
          exact G_skip hfd rfl rfl
        · intro a wd ld hfd hdd
          have hfd := Fr.cast (s' := [(11, (ptr b5 0)), (10, (.int .i64 (bits .and .i64 y 7))), (9, (.int .i64 (bits .and .i64 x 7))), (8, (ptr b4 0)), (7, (.bool true)), (6, (.bool false)), (5, (ptr b3 0)), (4, (ptr b2 0)), (3, (ptr b1 0)), (0, (.agg #[(.int .i64 uid), (.int .i64 gid)])), (1, (.agg #[(.int .i64 kind), (.int .i64 mode), (.int .i64 auid), (.int .i64 agid), (.int .i64 links), (.int .i64 size)])), (2, (.agg #[(.int .i64 x), (.int .i64 y)]))]) hfd (by kernel_rfl)
          obtain ⟨e13, e14, e15, e12, _, _⟩ := hdd
          have hfd := Fr.add (t := 40) (v := undef) hfd e13
          have hfd := Fr.add (t := 41) (v := undef) hfd e14
          have hfd := Fr.add (t := 42) (v := undef) hfd e15
          have hfd := Fr.add (t := 39) (v := (.bool false)) hfd e12
          exact G_skip hfd rfl rfl
        · intro a wd ld hfd hdd
          have hfd := Fr.cast (s' := [(11, (ptr b5 0)), (10, (.int .i64 (bits .and .i64 y 7))), (9, (.int .i64 (bits .and .i64 x 7))), (8, (ptr b4 0)), (7, (.bool true)), (6, (.bool false)), (5, (ptr b3 0)), (4, (ptr b2 0)), (3, (ptr b1 0)), (0, (.agg #[(.int .i64 uid), (.int .i64 gid)])), (1, (.agg #[(.int .i64 kind), (.int .i64 mode), (.int .i64 auid), (.int .i64 agid), (.int .i64 links), (.int .i64 size)])), (2, (.agg #[(.int .i64 x), (.int .i64 y)]))]) hfd (by kernel_rfl)
          obtain ⟨e12, e16, e1, _⟩ := hdd
          have hfd := Fr.add (t := 39) (v := (.bool false)) hfd e12
          have hfd := Fr.add (t := 43) (v := undef) hfd e16
          have hfd := Fr.add (t := 28) (v := (.bool true)) hfd e1
          exact G_val (v := (.bool false)) (w' := wd) hfd rfl (by kernel_rfl) (by kernel_rfl) (Le.refl _) rfl
        · intro a wd ld hfd hdd
          have hfd := Fr.cast (s' := [(11, (ptr b5 0)), (10, (.int .i64 (bits .and .i64 y 7))), (9, (.int .i64 (bits .and .i64 x 7))), (8, (ptr b4 0)), (7, (.bool true)), (6, (.bool false)), (5, (ptr b3 0)), (4, (ptr b2 0)), (3, (ptr b1 0)), (0, (.agg #[(.int .i64 uid), (.int .i64 gid)])), (1, (.agg #[(.int .i64 kind), (.int .i64 mode), (.int .i64 auid), (.int .i64 agid), (.int .i64 links), (.int .i64 size)])), (2, (.agg #[(.int .i64 x), (.int .i64 y)]))]) hfd (by kernel_rfl)
          obtain ⟨e7, e17, e1, _⟩ := hdd
          have hfd := Fr.add (t := 34) (v := (.bool (mayB uid gid mode auid agid (bits .or .i64 (bits .and .i64 x 7) (bits .and .i64 y 7))))) hfd e7
          have hfd := Fr.add (t := 44) (v := (.bool false)) hfd e17
          have hfd := Fr.add (t := 28) (v := (.bool true)) hfd e1
          exact G_val (v := (.bool true)) (w' := wd) hfd rfl (by kernel_rfl) (eq_bool (by kernel_rfl) c4) (Le.refl _) rfl
        · intro a wd ld hfd hdd
          have hfd := Fr.cast (s' := [(11, (ptr b5 0)), (10, (.int .i64 (bits .and .i64 y 7))), (9, (.int .i64 (bits .and .i64 x 7))), (8, (ptr b4 0)), (7, (.bool true)), (6, (.bool false)), (5, (ptr b3 0)), (4, (ptr b2 0)), (3, (ptr b1 0)), (0, (.agg #[(.int .i64 uid), (.int .i64 gid)])), (1, (.agg #[(.int .i64 kind), (.int .i64 mode), (.int .i64 auid), (.int .i64 agid), (.int .i64 links), (.int .i64 size)])), (2, (.agg #[(.int .i64 x), (.int .i64 y)]))]) hfd (by kernel_rfl)
          obtain ⟨e1, e18, _⟩ := hdd
          have hfd := Fr.add (t := 28) (v := (.bool true)) hfd e1
          have hfd := Fr.add (t := 45) (v := (.bool true)) hfd e18
          exact G_val (v := (.bool true)) (w' := wd) hfd rfl (by kernel_rfl) (by kernel_rfl) (Le.refl _) rfl
        · intro a wd ld hfd hdd
          have hfd := Fr.cast (s' := [(11, (ptr b5 0)), (10, (.int .i64 (bits .and .i64 y 7))), (9, (.int .i64 (bits .and .i64 x 7))), (8, (ptr b4 0)), (7, (.bool true)), (6, (.bool false)), (5, (ptr b3 0)), (4, (ptr b2 0)), (3, (ptr b1 0)), (0, (.agg #[(.int .i64 uid), (.int .i64 gid)])), (1, (.agg #[(.int .i64 kind), (.int .i64 mode), (.int .i64 auid), (.int .i64 agid), (.int .i64 links), (.int .i64 size)])), (2, (.agg #[(.int .i64 x), (.int .i64 y)]))]) hfd (by kernel_rfl)
          obtain ⟨e19, _, _⟩ := hdd
          have hfd := Fr.add (t := 46) (v := (.bool true)) hfd e19
          exact G_val (v := (.bool true)) (w' := wd) hfd rfl (by kernel_rfl) (by kernel_rfl) (Le.refl _) rfl
        · intro a wd ld hfd hdd
          have hfd := Fr.cast (s' := [(11, (ptr b5 0)), (10, (.int .i64 (bits .and .i64 y 7))), (9, (.int .i64 (bits .and .i64 x 7))), (8, (ptr b4 0)), (7, (.bool true)), (6, (.bool false)), (5, (ptr b3 0)), (4, (ptr b2 0)), (3, (ptr b1 0)), (0, (.agg #[(.int .i64 uid), (.int .i64 gid)])), (1, (.agg #[(.int .i64 kind), (.int .i64 mode), (.int .i64 auid), (.int .i64 agid), (.int .i64 links), (.int .i64 size)])), (2, (.agg #[(.int .i64 x), (.int .i64 y)]))]) hfd (by kernel_rfl)
          obtain ⟨e20, _⟩ := hdd
          have hfd := Fr.add (t := 47) (v := (.bool true)) hfd e20
          exact G_val hfd rfl (by kernel_rfl) (load_ev (run_load_row (ld.blk k4) Try.underlying29 rfl (vs := [(.int .i64 uid), (.int .i64 gid)]) (by kernel_rfl) rfl) rfl rfl) (Le.refl _) rfl
        · intro a wd ld hfd hdd
          have hfd := Fr.cast (s' := [(11, (ptr b5 0)), (10, (.int .i64 (bits .and .i64 y 7))), (9, (.int .i64 (bits .and .i64 x 7))), (8, (ptr b4 0)), (7, (.bool true)), (6, (.bool false)), (5, (ptr b3 0)), (4, (ptr b2 0)), (3, (ptr b1 0)), (0, (.agg #[(.int .i64 uid), (.int .i64 gid)])), (1, (.agg #[(.int .i64 kind), (.int .i64 mode), (.int .i64 auid), (.int .i64 agid), (.int .i64 links), (.int .i64 size)])), (2, (.agg #[(.int .i64 x), (.int .i64 y)]))]) hfd (by kernel_rfl)
          obtain ⟨e20, _⟩ := hdd
          have hfd := Fr.add (t := 47) (v := (.bool true)) hfd e20
          exact G_val hfd rfl (by kernel_rfl) (load_ev (run_load_row (ld.blk k2) Try.underlying26 rfl (vs := [(.int .i64 kind), (.int .i64 mode), (.int .i64 auid), (.int .i64 agid), (.int .i64 links), (.int .i64 size)]) (by kernel_rfl) rfl) rfl rfl) (Le.refl _) rfl
        · intro a wd ld hfd hdd
          have hfd := Fr.cast (s' := [(11, (ptr b5 0)), (10, (.int .i64 (bits .and .i64 y 7))), (9, (.int .i64 (bits .and .i64 x 7))), (8, (ptr b4 0)), (7, (.bool true)), (6, (.bool false)), (5, (ptr b3 0)), (4, (ptr b2 0)), (3, (ptr b1 0)), (0, (.agg #[(.int .i64 uid), (.int .i64 gid)])), (1, (.agg #[(.int .i64 kind), (.int .i64 mode), (.int .i64 auid), (.int .i64 agid), (.int .i64 links), (.int .i64 size)])), (2, (.agg #[(.int .i64 x), (.int .i64 y)]))]) hfd (by kernel_rfl)
          obtain ⟨e21, e22, e20, _, _⟩ := hdd
          have hfd := Fr.add (t := 48) (v := (.agg #[(.int .i64 uid), (.int .i64 gid)])) hfd e21
          have hfd := Fr.add (t := 49) (v := (.agg #[(.int .i64 kind), (.int .i64 mode), (.int .i64 auid), (.int .i64 agid), (.int .i64 links), (.int .i64 size)])) hfd e22
          have hfd := Fr.add (t := 47) (v := (.bool true)) hfd e20
          exact G_call (args := #[(.agg #[(.int .i64 uid), (.int .i64 gid)]), (.agg #[(.int .i64 kind), (.int .i64 mode), (.int .i64 auid), (.int .i64 agid), (.int .i64 links), (.int .i64 size)]), (.int .i64 0)]) (w := wd) hfd rfl (by kernel_rfl) (by kernel_rfl) (may_any uid gid kind mode auid agid links size 0 _) fun v w' ⟨he, hl⟩ => ⟨hl, (he.trans (congrArg Value.bool c5))⟩
        · intro a wd ld hfd hdd
          have hfd := Fr.cast (s' := [(11, (ptr b5 0)), (10, (.int .i64 (bits .and .i64 y 7))), (9, (.int .i64 (bits .and .i64 x 7))), (8, (ptr b4 0)), (7, (.bool true)), (6, (.bool false)), (5, (ptr b3 0)), (4, (ptr b2 0)), (3, (ptr b1 0)), (0, (.agg #[(.int .i64 uid), (.int .i64 gid)])), (1, (.agg #[(.int .i64 kind), (.int .i64 mode), (.int .i64 auid), (.int .i64 agid), (.int .i64 links), (.int .i64 size)])), (2, (.agg #[(.int .i64 x), (.int .i64 y)]))]) hfd (by kernel_rfl)
          obtain ⟨e20, e23, _⟩ := hdd
          have hfd := Fr.add (t := 47) (v := (.bool true)) hfd e20
          have hfd := Fr.add (t := 50) (v := (.bool false)) hfd e23
          exact G_val (v := (.bool false)) (w' := wd) hfd rfl (by kernel_rfl) (by kernel_rfl) (Le.refl _) rfl
        · intro a wd ld hfd hdd
          have hfd := Fr.cast (s' := [(11, (ptr b5 0)), (10, (.int .i64 (bits .and .i64 y 7))), (9, (.int .i64 (bits .and .i64 x 7))), (8, (ptr b4 0)), (7, (.bool true)), (6, (.bool false)), (5, (ptr b3 0)), (4, (ptr b2 0)), (3, (ptr b1 0)), (0, (.agg #[(.int .i64 uid), (.int .i64 gid)])), (1, (.agg #[(.int .i64 kind), (.int .i64 mode), (.int .i64 auid), (.int .i64 agid), (.int .i64 links), (.int .i64 size)])), (2, (.agg #[(.int .i64 x), (.int .i64 y)]))]) hfd (by kernel_rfl)
          obtain ⟨e24, _, _⟩ := hdd
          have hfd := Fr.add (t := 51) (v := (.bool false)) hfd e24
          exact G_val (v := (.bool false)) (w' := wd) hfd rfl (by kernel_rfl) (by kernel_rfl) (Le.refl _) rfl
        · intro a wd ld hfd hdd
          have hfd := Fr.cast (s' := [(11, (ptr b5 0)), (10, (.int .i64 (bits .and .i64 y 7))), (9, (.int .i64 (bits .and .i64 x 7))), (8, (ptr b4 0)), (7, (.bool true)), (6, (.bool false)), (5, (ptr b3 0)), (4, (ptr b2 0)), (3, (ptr b1 0)), (0, (.agg #[(.int .i64 uid), (.int .i64 gid)])), (1, (.agg #[(.int .i64 kind), (.int .i64 mode), (.int .i64 auid), (.int .i64 agid), (.int .i64 links), (.int .i64 size)])), (2, (.agg #[(.int .i64 x), (.int .i64 y)]))]) hfd (by kernel_rfl)
          obtain ⟨e25, _⟩ := hdd
          have hfd := Fr.add (t := 52) (v := (.bool false)) hfd e25
          exact G_skip hfd rfl rfl
        · intro a wd ld hfd hdd
          have hfd := Fr.cast (s' := [(11, (ptr b5 0)), (10, (.int .i64 (bits .and .i64 y 7))), (9, (.int .i64 (bits .and .i64 x 7))), (8, (ptr b4 0)), (7, (.bool true)), (6, (.bool false)), (5, (ptr b3 0)), (4, (ptr b2 0)), (3, (ptr b1 0)), (0, (.agg #[(.int .i64 uid), (.int .i64 gid)])), (1, (.agg #[(.int .i64 kind), (.int .i64 mode), (.int .i64 auid), (.int .i64 agid), (.int .i64 links), (.int .i64 size)])), (2, (.agg #[(.int .i64 x), (.int .i64 y)]))]) hfd (by kernel_rfl)
          obtain ⟨e25, _⟩ := hdd
          have hfd := Fr.add (t := 52) (v := (.bool false)) hfd e25
          exact G_skip hfd rfl rfl
        · intro a wd ld hfd hdd
          have hfd := Fr.cast (s' := [(11, (ptr b5 0)), (10, (.int .i64 (bits .and .i64 y 7))), (9, (.int .i64 (bits .and .i64 x 7))), (8, (ptr b4 0)), (7, (.bool true)), (6, (.bool false)), (5, (ptr b3 0)), (4, (ptr b2 0)), (3, (ptr b1 0)), (0, (.agg #[(.int .i64 uid), (.int .i64 gid)])), (1, (.agg #[(.int .i64 kind), (.int .i64 mode), (.int .i64 auid), (.int .i64 agid), (.int .i64 links), (.int .i64 size)])), (2, (.agg #[(.int .i64 x), (.int .i64 y)]))]) hfd (by kernel_rfl)
          obtain ⟨e25, _⟩ := hdd
          have hfd := Fr.add (t := 52) (v := (.bool false)) hfd e25
          exact G_skip hfd rfl rfl
        · intro a wd ld hfd hdd
          have hfd := Fr.cast (s' := [(11, (ptr b5 0)), (10, (.int .i64 (bits .and .i64 y 7))), (9, (.int .i64 (bits .and .i64 x 7))), (8, (ptr b4 0)), (7, (.bool true)), (6, (.bool false)), (5, (ptr b3 0)), (4, (ptr b2 0)), (3, (ptr b1 0)), (0, (.agg #[(.int .i64 uid), (.int .i64 gid)])), (1, (.agg #[(.int .i64 kind), (.int .i64 mode), (.int .i64 auid), (.int .i64 agid), (.int .i64 links), (.int .i64 size)])), (2, (.agg #[(.int .i64 x), (.int .i64 y)]))]) hfd (by kernel_rfl)
          obtain ⟨e26, e27, e28, e25, _, _⟩ := hdd
          have hfd := Fr.add (t := 53) (v := undef) hfd e26
          have hfd := Fr.add (t := 54) (v := undef) hfd e27
          have hfd := Fr.add (t := 55) (v := undef) hfd e28
          have hfd := Fr.add (t := 52) (v := (.bool false)) hfd e25
          exact G_skip hfd rfl rfl
        · intro a wd ld hfd hdd
          have hfd := Fr.cast (s' := [(11, (ptr b5 0)), (10, (.int .i64 (bits .and .i64 y 7))), (9, (.int .i64 (bits .and .i64 x 7))), (8, (ptr b4 0)), (7, (.bool true)), (6, (.bool false)), (5, (ptr b3 0)), (4, (ptr b2 0)), (3, (ptr b1 0)), (0, (.agg #[(.int .i64 uid), (.int .i64 gid)])), (1, (.agg #[(.int .i64 kind), (.int .i64 mode), (.int .i64 auid), (.int .i64 agid), (.int .i64 links), (.int .i64 size)])), (2, (.agg #[(.int .i64 x), (.int .i64 y)]))]) hfd (by kernel_rfl)
          obtain ⟨e25, e29, _⟩ := hdd
          have hfd := Fr.add (t := 52) (v := (.bool false)) hfd e25
          have hfd := Fr.add (t := 56) (v := undef) hfd e29
          exact G_val (v := (.bool false)) (w' := wd) hfd rfl (by kernel_rfl) (by kernel_rfl) (Le.refl _) rfl
        · intro a wd ld hfd hdd
          have hfd := Fr.cast (s' := [(11, (ptr b5 0)), (10, (.int .i64 (bits .and .i64 y 7))), (9, (.int .i64 (bits .and .i64 x 7))), (8, (ptr b4 0)), (7, (.bool true)), (6, (.bool false)), (5, (ptr b3 0)), (4, (ptr b2 0)), (3, (ptr b1 0)), (0, (.agg #[(.int .i64 uid), (.int .i64 gid)])), (1, (.agg #[(.int .i64 kind), (.int .i64 mode), (.int .i64 auid), (.int .i64 agid), (.int .i64 links), (.int .i64 size)])), (2, (.agg #[(.int .i64 x), (.int .i64 y)]))]) hfd (by kernel_rfl)
          obtain ⟨e30, _, _, _, _, _, _, _, _, _, _, _, _, _, _, _, _, _, _, _, _, _, _, _, _, _, _, _, _, _, _, _, _, _⟩ := hdd
          have hfd := Fr.add (t := 57) (v := (.bool false)) hfd e30
          exact G_val (v := (.bool false)) (w' := wd) hfd rfl (by kernel_rfl) (by kernel_rfl) (Le.refl _) rfl
        intro a5 w13 l6 hf5 fa5
        obtain ⟨q129, q130, q131, q132, q133, q134, q135, q136, q137, q138, q139, q140, q141, q142, q143, q144, q145, q146, q147, q148, q149, q150, q151, q152, q153, q154, q155, q156, q157, q158, q159, q160, _⟩ := fa5
        have hf5 := Fr.cast (s' := [(11, (ptr b5 0)), (10, (.int .i64 (bits .and .i64 y 7))), (9, (.int .i64 (bits .and .i64 x 7))), (8, (ptr b4 0)), (7, (.bool true)), (5, (ptr b3 0)), (4, (ptr b2 0)), (3, (ptr b1 0)), (0, (.agg #[(.int .i64 uid), (.int .i64 gid)])), (1, (.agg #[(.int .i64 kind), (.int .i64 mode), (.int .i64 auid), (.int .i64 agid), (.int .i64 links), (.int .i64 size)])), (2, (.agg #[(.int .i64 x), (.int .i64 y)]))]) hf5 (by kernel_rfl)
        have hf5 := Fr.add (t := 6) (v := (.bool false)) hf5 q160
        have k1 := l6.blk k1
        have k2 := l6.blk k2
        have k3 := l6.blk k3
        have k4 := l6.blk k4
        have k5 := l6.blk k5
        have be13 := l6.below' be8
        refine (?_ : okE .normal _ [(6, (.bool false)), (11, (ptr b5 0)), (10, (.int .i64 (bits .and .i64 y 7))), (9, (.int .i64 (bits .and .i64 x 7))), (8, (ptr b4 0)), (7, (.bool true)), (5, (ptr b3 0)), (4, (ptr b2 0)), (3, (ptr b1 0)), (0, (.agg #[(.int .i64 uid), (.int .i64 gid)])), (1, (.agg #[(.int .i64 kind), (.int .i64 mode), (.int .i64 auid), (.int .i64 agid), (.int .i64 links), (.int .i64 size)])), (2, (.agg #[(.int .i64 x), (.int .i64 y)]))] _ _) a5 (hf5.sub ⟨rfl, rfl, rfl, rfl, rfl, rfl, rfl, rfl, rfl, rfl, rfl, rfl, trivial⟩)
        refine E_then_normal ?_
        refine C_ret ?_
        refine E_ret (res_one rfl rfl) ⟨_, rfl, ?_⟩
        exact ⟨congrArg Value.bool (by first | rfl | (simp [may_or, may_zero, may_root, c1, c4, c5]; done) | (exfalso; revert c1 c4 c5; decide) | (exfalso; simp_all [may_or, may_zero, may_root]; done)), be13⟩
    · refine C_draw [fun _ v => v = (.bool true), fun _ v => v = (.bool true), fun _ v => v = (.agg #[(.int .i64 uid), (.int .i64 gid)]), fun _ v => v = (.agg #[(.int .i64 kind), (.int .i64 mode), (.int .i64 auid), (.int .i64 agid), (.int .i64 links), (.int .i64 size)]), fun _ v => v = (.int .i64 (bits .and .i64 x 7)), fun _ v => v = (.int .i64 (bits .and .i64 y 7)), fun _ v => v = (.int .i64 (bits .or .i64 (bits .and .i64 x 7) (bits .and .i64 y 7))), fun _ v => v = (.bool (mayB uid gid mode auid agid (bits .or .i64 (bits .and .i64 x 7) (bits .and .i64 y 7)))), fun _ v => v = (.agg #[(.int .i64 uid), (.int .i64 gid)]), fun _ v => v = (.agg #[(.int .i64 kind), (.int .i64 mode), (.int .i64 auid), (.int .i64 agid), (.int .i64 links), (.int .i64 size)]), fun _ v => v = (.int .i64 (bits .and .i64 x 7)), fun _ v => v = (.bool false), fun _ v => v = (.bool false), fun _ v => v = undef, fun _ v => v = undef, fun _ v => v = undef, fun _ v => v = undef, fun _ v => v = (.bool false), fun _ v => v = (.bool false), fun _ v => v = (.bool false), fun _ v => v = (.bool false), fun _ v => v = undef, fun _ v => v = undef, fun _ v => v = undef, fun _ v => v = (.bool false), fun _ v => v = (.bool false), fun _ v => v = undef, fun _ v => v = undef, fun _ v => v = undef, fun _ v => v = undef, fun _ v => v = (.bool false), fun _ v => v = (.bool false)] (by kernel_rfl) (by kernel_rfl) (by kernel_rfl) ⟨stab_exact _, stab_exact _, stab_exact _, stab_exact _, stab_exact _, stab_exact _, stab_exact _, stab_exact _, stab_exact _, stab_exact _, stab_exact _, stab_exact _, stab_exact _, stab_exact _, stab_exact _, stab_exact _, stab_exact _, stab_exact _, stab_exact _, stab_exact _, stab_exact _, stab_exact _, stab_exact _, stab_exact _, stab_exact _, stab_exact _, stab_exact _, stab_exact _, stab_exact _, stab_exact _, stab_exact _, stab_exact _, trivial⟩ ⟨?_, ?_, ?_, ?_, ?_, ?_, ?_, ?_, ?_, ?_, ?_, ?_, ?_, ?_, ?_, ?_, ?_, ?_, ?_, ?_, ?_, ?_, ?_, ?_, ?_, ?_, ?_, ?_, ?_, ?_, ?_, ?_, trivial⟩ ?_
      · intro a wd ld hfd hdd
        have hfd := Fr.cast (s' := [(11, (ptr b5 0)), (10, (.int .i64 (bits .and .i64 y 7))), (9, (.int .i64 (bits .and .i64 x 7))), (8, (ptr b4 0)), (7, (.bool true)), (6, (.bool false)), (5, (ptr b3 0)), (4, (ptr b2 0)), (3, (ptr b1 0)), (0, (.agg #[(.int .i64 uid), (.int .i64 gid)])), (1, (.agg #[(.int .i64 kind), (.int .i64 mode), (.int .i64 auid), (.int .i64 agid), (.int .i64 links), (.int .i64 size)])), (2, (.agg #[(.int .i64 x), (.int .i64 y)]))]) hfd (by kernel_rfl)
        exact G_val (v := (.bool true)) (w' := wd) hfd rfl (by kernel_rfl) (by kernel_rfl) (Le.refl _) rfl
      · intro a wd ld hfd hdd
        have hfd := Fr.cast (s' := [(11, (ptr b5 0)), (10, (.int .i64 (bits .and .i64 y 7))), (9, (.int .i64 (bits .and .i64 x 7))), (8, (ptr b4 0)), (7, (.bool true)), (6, (.bool false)), (5, (ptr b3 0)), (4, (ptr b2 0)), (3, (ptr b1 0)), (0, (.agg #[(.int .i64 uid), (.int .i64 gid)])), (1, (.agg #[(.int .i64 kind), (.int .i64 mode), (.int .i64 auid), (.int .i64 agid), (.int .i64 links), (.int .i64 size)])), (2, (.agg #[(.int .i64 x), (.int .i64 y)]))]) hfd (by kernel_rfl)
        obtain ⟨e0, _⟩ := hdd
        have hfd := Fr.add (t := 27) (v := (.bool true)) hfd e0
        exact G_val (v := (.bool true)) (w' := wd) hfd rfl (by kernel_rfl) (by kernel_rfl) (Le.refl _) rfl
      · intro a wd ld hfd hdd
        have hfd := Fr.cast (s' := [(11, (ptr b5 0)), (10, (.int .i64 (bits .and .i64 y 7))), (9, (.int .i64 (bits .and .i64 x 7))), (8, (ptr b4 0)), (7, (.bool true)), (6, (.bool false)), (5, (ptr b3 0)), (4, (ptr b2 0)), (3, (ptr b1 0)), (0, (.agg #[(.int .i64 uid), (.int .i64 gid)])), (1, (.agg #[(.int .i64 kind), (.int .i64 mode), (.int .i64 auid), (.int .i64 agid), (.int .i64 links), (.int .i64 size)])), (2, (.agg #[(.int .i64 x), (.int .i64 y)]))]) hfd (by kernel_rfl)
        obtain ⟨e1, _⟩ := hdd
        have hfd := Fr.add (t := 28) (v := (.bool true)) hfd e1
        exact G_val hfd rfl (by kernel_rfl) (load_ev (run_load_row (ld.blk k4) Try.underlying29 rfl (vs := [(.int .i64 uid), (.int .i64 gid)]) (by kernel_rfl) rfl) rfl rfl) (Le.refl _) rfl
      · intro a wd ld hfd hdd
        have hfd := Fr.cast (s' := [(11, (ptr b5 0)), (10, (.int .i64 (bits .and .i64 y 7))), (9, (.int .i64 (bits .and .i64 x 7))), (8, (ptr b4 0)), (7, (.bool true)), (6, (.bool false)), (5, (ptr b3 0)), (4, (ptr b2 0)), (3, (ptr b1 0)), (0, (.agg #[(.int .i64 uid), (.int .i64 gid)])), (1, (.agg #[(.int .i64 kind), (.int .i64 mode), (.int .i64 auid), (.int .i64 agid), (.int .i64 links), (.int .i64 size)])), (2, (.agg #[(.int .i64 x), (.int .i64 y)]))]) hfd (by kernel_rfl)
        obtain ⟨e1, _⟩ := hdd
        have hfd := Fr.add (t := 28) (v := (.bool true)) hfd e1
        exact G_val hfd rfl (by kernel_rfl) (load_ev (run_load_row (ld.blk k2) Try.underlying26 rfl (vs := [(.int .i64 kind), (.int .i64 mode), (.int .i64 auid), (.int .i64 agid), (.int .i64 links), (.int .i64 size)]) (by kernel_rfl) rfl) rfl rfl) (Le.refl _) rfl
      · intro a wd ld hfd hdd
        have hfd := Fr.cast (s' := [(11, (ptr b5 0)), (10, (.int .i64 (bits .and .i64 y 7))), (9, (.int .i64 (bits .and .i64 x 7))), (8, (ptr b4 0)), (7, (.bool true)), (6, (.bool false)), (5, (ptr b3 0)), (4, (ptr b2 0)), (3, (ptr b1 0)), (0, (.agg #[(.int .i64 uid), (.int .i64 gid)])), (1, (.agg #[(.int .i64 kind), (.int .i64 mode), (.int .i64 auid), (.int .i64 agid), (.int .i64 links), (.int .i64 size)])), (2, (.agg #[(.int .i64 x), (.int .i64 y)]))]) hfd (by kernel_rfl)
        obtain ⟨e1, _⟩ := hdd
        have hfd := Fr.add (t := 28) (v := (.bool true)) hfd e1
        exact G_val (v := (.int .i64 (bits .and .i64 x 7))) (w' := wd) hfd rfl (by kernel_rfl) (by kernel_rfl) (Le.refl _) rfl
      · intro a wd ld hfd hdd
        have hfd := Fr.cast (s' := [(11, (ptr b5 0)), (10, (.int .i64 (bits .and .i64 y 7))), (9, (.int .i64 (bits .and .i64 x 7))), (8, (ptr b4 0)), (7, (.bool true)), (6, (.bool false)), (5, (ptr b3 0)), (4, (ptr b2 0)), (3, (ptr b1 0)), (0, (.agg #[(.int .i64 uid), (.int .i64 gid)])), (1, (.agg #[(.int .i64 kind), (.int .i64 mode), (.int .i64 auid), (.int .i64 agid), (.int .i64 links), (.int .i64 size)])), (2, (.agg #[(.int .i64 x), (.int .i64 y)]))]) hfd (by kernel_rfl)
        obtain ⟨e1, _⟩ := hdd
        have hfd := Fr.add (t := 28) (v := (.bool true)) hfd e1
        exact G_val (v := (.int .i64 (bits .and .i64 y 7))) (w' := wd) hfd rfl (by kernel_rfl) (by kernel_rfl) (Le.refl _) rfl
      · intro a wd ld hfd hdd
        have hfd := Fr.cast (s' := [(11, (ptr b5 0)), (10, (.int .i64 (bits .and .i64 y 7))), (9, (.int .i64 (bits .and .i64 x 7))), (8, (ptr b4 0)), (7, (.bool true)), (6, (.bool false)), (5, (ptr b3 0)), (4, (ptr b2 0)), (3, (ptr b1 0)), (0, (.agg #[(.int .i64 uid), (.int .i64 gid)])), (1, (.agg #[(.int .i64 kind), (.int .i64 mode), (.int .i64 auid), (.int .i64 agid), (.int .i64 links), (.int .i64 size)])), (2, (.agg #[(.int .i64 x), (.int .i64 y)]))]) hfd (by kernel_rfl)
        obtain ⟨e4, e5, e1, _⟩ := hdd
        have hfd := Fr.add (t := 31) (v := (.int .i64 (bits .and .i64 x 7))) hfd e4
        have hfd := Fr.add (t := 32) (v := (.int .i64 (bits .and .i64 y 7))) hfd e5
        have hfd := Fr.add (t := 28) (v := (.bool true)) hfd e1
        exact G_val (v := (.int .i64 (bits .or .i64 (bits .and .i64 x 7) (bits .and .i64 y 7)))) (w' := wd) hfd rfl (by kernel_rfl) (by kernel_rfl) (Le.refl _) rfl
      · intro a wd ld hfd hdd
        have hfd := Fr.cast (s' := [(11, (ptr b5 0)), (10, (.int .i64 (bits .and .i64 y 7))), (9, (.int .i64 (bits .and .i64 x 7))), (8, (ptr b4 0)), (7, (.bool true)), (6, (.bool false)), (5, (ptr b3 0)), (4, (ptr b2 0)), (3, (ptr b1 0)), (0, (.agg #[(.int .i64 uid), (.int .i64 gid)])), (1, (.agg #[(.int .i64 kind), (.int .i64 mode), (.int .i64 auid), (.int .i64 agid), (.int .i64 links), (.int .i64 size)])), (2, (.agg #[(.int .i64 x), (.int .i64 y)]))]) hfd (by kernel_rfl)
        obtain ⟨e2, e3, e6, e1, _, _⟩ := hdd
        have hfd := Fr.add (t := 29) (v := (.agg #[(.int .i64 uid), (.int .i64 gid)])) hfd e2
        have hfd := Fr.add (t := 30) (v := (.agg #[(.int .i64 kind), (.int .i64 mode), (.int .i64 auid), (.int .i64 agid), (.int .i64 links), (.int .i64 size)])) hfd e3
        have hfd := Fr.add (t := 33) (v := (.int .i64 (bits .or .i64 (bits .and .i64 x 7) (bits .and .i64 y 7)))) hfd e6
        have hfd := Fr.add (t := 28) (v := (.bool true)) hfd e1
        exact G_call (args := #[(.agg #[(.int .i64 uid), (.int .i64 gid)]), (.agg #[(.int .i64 kind), (.int .i64 mode), (.int .i64 auid), (.int .i64 agid), (.int .i64 links), (.int .i64 size)]), (.int .i64 (bits .or .i64 (bits .and .i64 x 7) (bits .and .i64 y 7)))]) (w := wd) hfd rfl (by kernel_rfl) (by kernel_rfl) (may_any uid gid kind mode auid agid links size (bits .or .i64 (bits .and .i64 x 7) (bits .and .i64 y 7)) _) fun v w' ⟨he, hl⟩ => ⟨hl, he⟩
      · intro a wd ld hfd hdd
        have hfd := Fr.cast (s' := [(11, (ptr b5 0)), (10, (.int .i64 (bits .and .i64 y 7))), (9, (.int .i64 (bits .and .i64 x 7))), (8, (ptr b4 0)), (7, (.bool true)), (6, (.bool false)), (5, (ptr b3 0)), (4, (ptr b2 0)), (3, (ptr b1 0)), (0, (.agg #[(.int .i64 uid), (.int .i64 gid)])), (1, (.agg #[(.int .i64 kind), (.int .i64 mode), (.int .i64 auid), (.int .i64 agid), (.int .i64 links), (.int .i64 size)])), (2, (.agg #[(.int .i64 x), (.int .i64 y)]))]) hfd (by kernel_rfl)
        obtain ⟨e1, _⟩ := hdd
        have hfd := Fr.add (t := 28) (v := (.bool true)) hfd e1
        exact G_val hfd rfl (by kernel_rfl) (load_ev (run_load_row (ld.blk k4) Try.underlying29 rfl (vs := [(.int .i64 uid), (.int .i64 gid)]) (by kernel_rfl) rfl) rfl rfl) (Le.refl _) rfl
      · intro a wd ld hfd hdd
        have hfd := Fr.cast (s' := [(11, (ptr b5 0)), (10, (.int .i64 (bits .and .i64 y 7))), (9, (.int .i64 (bits .and .i64 x 7))), (8, (ptr b4 0)), (7, (.bool true)), (6, (.bool false)), (5, (ptr b3 0)), (4, (ptr b2 0)), (3, (ptr b1 0)), (0, (.agg #[(.int .i64 uid), (.int .i64 gid)])), (1, (.agg #[(.int .i64 kind), (.int .i64 mode), (.int .i64 auid), (.int .i64 agid), (.int .i64 links), (.int .i64 size)])), (2, (.agg #[(.int .i64 x), (.int .i64 y)]))]) hfd (by kernel_rfl)
        obtain ⟨e1, _⟩ := hdd
        have hfd := Fr.add (t := 28) (v := (.bool true)) hfd e1
        exact G_val hfd rfl (by kernel_rfl) (load_ev (run_load_row (ld.blk k2) Try.underlying26 rfl (vs := [(.int .i64 kind), (.int .i64 mode), (.int .i64 auid), (.int .i64 agid), (.int .i64 links), (.int .i64 size)]) (by kernel_rfl) rfl) rfl rfl) (Le.refl _) rfl
      · intro a wd ld hfd hdd
        have hfd := Fr.cast (s' := [(11, (ptr b5 0)), (10, (.int .i64 (bits .and .i64 y 7))), (9, (.int .i64 (bits .and .i64 x 7))), (8, (ptr b4 0)), (7, (.bool true)), (6, (.bool false)), (5, (ptr b3 0)), (4, (ptr b2 0)), (3, (ptr b1 0)), (0, (.agg #[(.int .i64 uid), (.int .i64 gid)])), (1, (.agg #[(.int .i64 kind), (.int .i64 mode), (.int .i64 auid), (.int .i64 agid), (.int .i64 links), (.int .i64 size)])), (2, (.agg #[(.int .i64 x), (.int .i64 y)]))]) hfd (by kernel_rfl)
        obtain ⟨e1, _⟩ := hdd
        have hfd := Fr.add (t := 28) (v := (.bool true)) hfd e1
        exact G_val (v := (.int .i64 (bits .and .i64 x 7))) (w' := wd) hfd rfl (by kernel_rfl) (by kernel_rfl) (Le.refl _) rfl
      · intro a wd ld hfd hdd
        have hfd := Fr.cast (s' := [(11, (ptr b5 0)), (10, (.int .i64 (bits .and .i64 y 7))), (9, (.int .i64 (bits .and .i64 x 7))), (8, (ptr b4 0)), (7, (.bool true)), (6, (.bool false)), (5, (ptr b3 0)), (4, (ptr b2 0)), (3, (ptr b1 0)), (0, (.agg #[(.int .i64 uid), (.int .i64 gid)])), (1, (.agg #[(.int .i64 kind), (.int .i64 mode), (.int .i64 auid), (.int .i64 agid), (.int .i64 links), (.int .i64 size)])), (2, (.agg #[(.int .i64 x), (.int .i64 y)]))]) hfd (by kernel_rfl)
        obtain ⟨e8, e9, e10, _, e1, _⟩ := hdd
        have hfd := Fr.add (t := 35) (v := (.agg #[(.int .i64 uid), (.int .i64 gid)])) hfd e8
        have hfd := Fr.add (t := 36) (v := (.agg #[(.int .i64 kind), (.int .i64 mode), (.int .i64 auid), (.int .i64 agid), (.int .i64 links), (.int .i64 size)])) hfd e9
        have hfd := Fr.add (t := 37) (v := (.int .i64 (bits .and .i64 x 7))) hfd e10
        have hfd := Fr.add (t := 28) (v := (.bool true)) hfd e1
        exact G_call (args := #[(.agg #[(.int .i64 uid), (.int .i64 gid)]), (.agg #[(.int .i64 kind), (.int .i64 mode), (.int .i64 auid), (.int .i64 agid), (.int .i64 links), (.int .i64 size)]), (.int .i64 (bits .and .i64 x 7))]) (w := wd) hfd rfl (by kernel_rfl) (by kernel_rfl) (may_any uid gid kind mode auid agid links size (bits .and .i64 x 7) _) fun v w' ⟨he, hl⟩ => ⟨hl, (he.trans (congrArg Value.bool c1))⟩
      · intro a wd ld hfd hdd
        have hfd := Fr.cast (s' := [(11, (ptr b5 0)), (10, (.int .i64 (bits .and .i64 y 7))), (9, (.int .i64 (bits .and .i64 x 7))), (8, (ptr b4 0)), (7, (.bool true)), (6, (.bool false)), (5, (ptr b3 0)), (4, (ptr b2 0)), (3, (ptr b1 0)), (0, (.agg #[(.int .i64 uid), (.int .i64 gid)])), (1, (.agg #[(.int .i64 kind), (.int .i64 mode), (.int .i64 auid), (.int .i64 agid), (.int .i64 links), (.int .i64 size)])), (2, (.agg #[(.int .i64 x), (.int .i64 y)]))]) hfd (by kernel_rfl)
        obtain ⟨e11, _, e1, _⟩ := hdd
        have hfd := Fr.add (t := 38) (v := (.bool false)) hfd e11
        have hfd := Fr.add (t := 28) (v := (.bool true)) hfd e1
        exact G_val (v := (.bool false)) (w' := wd) hfd rfl (by kernel_rfl) (by kernel_rfl) (Le.refl _) rfl
      · intro a wd ld hfd hdd
        have hfd := Fr.cast (s' := [(11, (ptr b5 0)), (10, (.int .i64 (bits .and .i64 y 7))), (9, (.int .i64 (bits .and .i64 x 7))), (8, (ptr b4 0)), (7, (.bool true)), (6, (.bool false)), (5, (ptr b3 0)), (4, (ptr b2 0)), (3, (ptr b1 0)), (0, (.agg #[(.int .i64 uid), (.int .i64 gid)])), (1, (.agg #[(.int .i64 kind), (.int .i64 mode), (.int .i64 auid), (.int .i64 agid), (.int .i64 links), (.int .i64 size)])), (2, (.agg #[(.int .i64 x), (.int .i64 y)]))]) hfd (by kernel_rfl)
        obtain ⟨e12, _⟩ := hdd
        have hfd := Fr.add (t := 39) (v := (.bool false)) hfd e12
        exact G_skip hfd rfl rfl
      · intro a wd ld hfd hdd
        have hfd := Fr.cast (s' := [(11, (ptr b5 0)), (10, (.int .i64 (bits .and .i64 y 7))), (9, (.int .i64 (bits .and .i64 x 7))), (8, (ptr b4 0)), (7, (.bool true)), (6, (.bool false)), (5, (ptr b3 0)), (4, (ptr b2 0)), (3, (ptr b1 0)), (0, (.agg #[(.int .i64 uid), (.int .i64 gid)])), (1, (.agg #[(.int .i64 kind), (.int .i64 mode), (.int .i64 auid), (.int .i64 agid), (.int .i64 links), (.int .i64 size)])), (2, (.agg #[(.int .i64 x), (.int .i64 y)]))]) hfd (by kernel_rfl)
        obtain ⟨e12, _⟩ := hdd
        have hfd := Fr.add (t := 39) (v := (.bool false)) hfd e12
        exact G_skip hfd rfl rfl
      · intro a wd ld hfd hdd
        have hfd := Fr.cast (s' := [(11, (ptr b5 0)), (10, (.int .i64 (bits .and .i64 y 7))), (9, (.int .i64 (bits .and .i64 x 7))), (8, (ptr b4 0)), (7, (.bool true)), (6, (.bool false)), (5, (ptr b3 0)), (4, (ptr b2 0)), (3, (ptr b1 0)), (0, (.agg #[(.int .i64 uid), (.int .i64 gid)])), (1, (.agg #[(.int .i64 kind), (.int .i64 mode), (.int .i64 auid), (.int .i64 agid), (.int .i64 links), (.int .i64 size)])), (2, (.agg #[(.int .i64 x), (.int .i64 y)]))]) hfd (by kernel_rfl)
        obtain ⟨e12, _⟩ := hdd
        have hfd := Fr.add (t := 39) (v := (.bool false)) hfd e12
        exact G_skip hfd rfl rfl
      · intro a wd ld hfd hdd
        have hfd := Fr.cast (s' := [(11, (ptr b5 0)), (10, (.int .i64 (bits .and .i64 y 7))), (9, (.int .i64 (bits .and .i64 x 7))), (8, (ptr b4 0)), (7, (.bool true)), (6, (.bool false)), (5, (ptr b3 0)), (4, (ptr b2 0)), (3, (ptr b1 0)), (0, (.agg #[(.int .i64 uid), (.int .i64 gid)])), (1, (.agg #[(.int .i64 kind), (.int .i64 mode), (.int .i64 auid), (.int .i64 agid), (.int .i64 links), (.int .i64 size)])), (2, (.agg #[(.int .i64 x), (.int .i64 y)]))]) hfd (by kernel_rfl)
        obtain ⟨e13, e14, e15, e12, _, _⟩ := hdd
        have hfd := Fr.add (t := 40) (v := undef) hfd e13
        have hfd := Fr.add (t := 41) (v := undef) hfd e14
        have hfd := Fr.add (t := 42) (v := undef) hfd e15
        have hfd := Fr.add (t := 39) (v := (.bool false)) hfd e12
        exact G_skip hfd rfl rfl
      · intro a wd ld hfd hdd
        have hfd := Fr.cast (s' := [(11, (ptr b5 0)), (10, (.int .i64 (bits .and .i64 y 7))), (9, (.int .i64 (bits .and .i64 x 7))), (8, (ptr b4 0)), (7, (.bool true)), (6, (.bool false)), (5, (ptr b3 0)), (4, (ptr b2 0)), (3, (ptr b1 0)), (0, (.agg #[(.int .i64 uid), (.int .i64 gid)])), (1, (.agg #[(.int .i64 kind), (.int .i64 mode), (.int .i64 auid), (.int .i64 agid), (.int .i64 links), (.int .i64 size)])), (2, (.agg #[(.int .i64 x), (.int .i64 y)]))]) hfd (by kernel_rfl)
        obtain ⟨e12, e16, e1, _⟩ := hdd
        have hfd := Fr.add (t := 39) (v := (.bool false)) hfd e12
        have hfd := Fr.add (t := 43) (v := undef) hfd e16
        have hfd := Fr.add (t := 28) (v := (.bool true)) hfd e1
        exact G_val (v := (.bool false)) (w' := wd) hfd rfl (by kernel_rfl) (by kernel_rfl) (Le.refl _) rfl
      · intro a wd ld hfd hdd
        have hfd := Fr.cast (s' := [(11, (ptr b5 0)), (10, (.int .i64 (bits .and .i64 y 7))), (9, (.int .i64 (bits .and .i64 x 7))), (8, (ptr b4 0)), (7, (.bool true)), (6, (.bool false)), (5, (ptr b3 0)), (4, (ptr b2 0)), (3, (ptr b1 0)), (0, (.agg #[(.int .i64 uid), (.int .i64 gid)])), (1, (.agg #[(.int .i64 kind), (.int .i64 mode), (.int .i64 auid), (.int .i64 agid), (.int .i64 links), (.int .i64 size)])), (2, (.agg #[(.int .i64 x), (.int .i64 y)]))]) hfd (by kernel_rfl)
        obtain ⟨e7, e17, e1, _⟩ := hdd
        have hfd := Fr.add (t := 34) (v := (.bool (mayB uid gid mode auid agid (bits .or .i64 (bits .and .i64 x 7) (bits .and .i64 y 7))))) hfd e7
        have hfd := Fr.add (t := 44) (v := (.bool false)) hfd e17
        have hfd := Fr.add (t := 28) (v := (.bool true)) hfd e1
        exact G_val (v := (.bool false)) (w' := wd) hfd rfl (by kernel_rfl) (eq_bool (by kernel_rfl) c4) (Le.refl _) rfl
      · intro a wd ld hfd hdd
        have hfd := Fr.cast (s' := [(11, (ptr b5 0)), (10, (.int .i64 (bits .and .i64 y 7))), (9, (.int .i64 (bits .and .i64 x 7))), (8, (ptr b4 0)), (7, (.bool true)), (6, (.bool false)), (5, (ptr b3 0)), (4, (ptr b2 0)), (3, (ptr b1 0)), (0, (.agg #[(.int .i64 uid), (.int .i64 gid)])), (1, (.agg #[(.int .i64 kind), (.int .i64 mode), (.int .i64 auid), (.int .i64 agid), (.int .i64 links), (.int .i64 size)])), (2, (.agg #[(.int .i64 x), (.int .i64 y)]))]) hfd (by kernel_rfl)
        obtain ⟨e1, e18, _⟩ := hdd
        have hfd := Fr.add (t := 28) (v := (.bool true)) hfd e1
        have hfd := Fr.add (t := 45) (v := (.bool false)) hfd e18
        exact G_val (v := (.bool false)) (w' := wd) hfd rfl (by kernel_rfl) (by kernel_rfl) (Le.refl _) rfl
      · intro a wd ld hfd hdd
        have hfd := Fr.cast (s' := [(11, (ptr b5 0)), (10, (.int .i64 (bits .and .i64 y 7))), (9, (.int .i64 (bits .and .i64 x 7))), (8, (ptr b4 0)), (7, (.bool true)), (6, (.bool false)), (5, (ptr b3 0)), (4, (ptr b2 0)), (3, (ptr b1 0)), (0, (.agg #[(.int .i64 uid), (.int .i64 gid)])), (1, (.agg #[(.int .i64 kind), (.int .i64 mode), (.int .i64 auid), (.int .i64 agid), (.int .i64 links), (.int .i64 size)])), (2, (.agg #[(.int .i64 x), (.int .i64 y)]))]) hfd (by kernel_rfl)
        obtain ⟨e19, _, _⟩ := hdd
        have hfd := Fr.add (t := 46) (v := (.bool false)) hfd e19
        exact G_val (v := (.bool false)) (w' := wd) hfd rfl (by kernel_rfl) (by kernel_rfl) (Le.refl _) rfl
      · intro a wd ld hfd hdd
        have hfd := Fr.cast (s' := [(11, (ptr b5 0)), (10, (.int .i64 (bits .and .i64 y 7))), (9, (.int .i64 (bits .and .i64 x 7))), (8, (ptr b4 0)), (7, (.bool true)), (6, (.bool false)), (5, (ptr b3 0)), (4, (ptr b2 0)), (3, (ptr b1 0)), (0, (.agg #[(.int .i64 uid), (.int .i64 gid)])), (1, (.agg #[(.int .i64 kind), (.int .i64 mode), (.int .i64 auid), (.int .i64 agid), (.int .i64 links), (.int .i64 size)])), (2, (.agg #[(.int .i64 x), (.int .i64 y)]))]) hfd (by kernel_rfl)
        obtain ⟨e20, _⟩ := hdd
        have hfd := Fr.add (t := 47) (v := (.bool false)) hfd e20
        exact G_skip hfd rfl rfl
      · intro a wd ld hfd hdd
        have hfd := Fr.cast (s' := [(11, (ptr b5 0)), (10, (.int .i64 (bits .and .i64 y 7))), (9, (.int .i64 (bits .and .i64 x 7))), (8, (ptr b4 0)), (7, (.bool true)), (6, (.bool false)), (5, (ptr b3 0)), (4, (ptr b2 0)), (3, (ptr b1 0)), (0, (.agg #[(.int .i64 uid), (.int .i64 gid)])), (1, (.agg #[(.int .i64 kind), (.int .i64 mode), (.int .i64 auid), (.int .i64 agid), (.int .i64 links), (.int .i64 size)])), (2, (.agg #[(.int .i64 x), (.int .i64 y)]))]) hfd (by kernel_rfl)
        obtain ⟨e20, _⟩ := hdd
        have hfd := Fr.add (t := 47) (v := (.bool false)) hfd e20
        exact G_skip hfd rfl rfl
      · intro a wd ld hfd hdd
        have hfd := Fr.cast (s' := [(11, (ptr b5 0)), (10, (.int .i64 (bits .and .i64 y 7))), (9, (.int .i64 (bits .and .i64 x 7))), (8, (ptr b4 0)), (7, (.bool true)), (6, (.bool false)), (5, (ptr b3 0)), (4, (ptr b2 0)), (3, (ptr b1 0)), (0, (.agg #[(.int .i64 uid), (.int .i64 gid)])), (1, (.agg #[(.int .i64 kind), (.int .i64 mode), (.int .i64 auid), (.int .i64 agid), (.int .i64 links), (.int .i64 size)])), (2, (.agg #[(.int .i64 x), (.int .i64 y)]))]) hfd (by kernel_rfl)
        obtain ⟨e21, e22, e20, _, _⟩ := hdd
        have hfd := Fr.add (t := 48) (v := undef) hfd e21
        have hfd := Fr.add (t := 49) (v := undef) hfd e22
        have hfd := Fr.add (t := 47) (v := (.bool false)) hfd e20
        exact G_skip hfd rfl rfl
      · intro a wd ld hfd hdd
        have hfd := Fr.cast (s' := [(11, (ptr b5 0)), (10, (.int .i64 (bits .and .i64 y 7))), (9, (.int .i64 (bits .and .i64 x 7))), (8, (ptr b4 0)), (7, (.bool true)), (6, (.bool false)), (5, (ptr b3 0)), (4, (ptr b2 0)), (3, (ptr b1 0)), (0, (.agg #[(.int .i64 uid), (.int .i64 gid)])), (1, (.agg #[(.int .i64 kind), (.int .i64 mode), (.int .i64 auid), (.int .i64 agid), (.int .i64 links), (.int .i64 size)])), (2, (.agg #[(.int .i64 x), (.int .i64 y)]))]) hfd (by kernel_rfl)
        obtain ⟨e20, e23, _⟩ := hdd
        have hfd := Fr.add (t := 47) (v := (.bool false)) hfd e20
        have hfd := Fr.add (t := 50) (v := undef) hfd e23
        exact G_val (v := (.bool false)) (w' := wd) hfd rfl (by kernel_rfl) (by kernel_rfl) (Le.refl _) rfl
      · intro a wd ld hfd hdd
        have hfd := Fr.cast (s' := [(11, (ptr b5 0)), (10, (.int .i64 (bits .and .i64 y 7))), (9, (.int .i64 (bits .and .i64 x 7))), (8, (ptr b4 0)), (7, (.bool true)), (6, (.bool false)), (5, (ptr b3 0)), (4, (ptr b2 0)), (3, (ptr b1 0)), (0, (.agg #[(.int .i64 uid), (.int .i64 gid)])), (1, (.agg #[(.int .i64 kind), (.int .i64 mode), (.int .i64 auid), (.int .i64 agid), (.int .i64 links), (.int .i64 size)])), (2, (.agg #[(.int .i64 x), (.int .i64 y)]))]) hfd (by kernel_rfl)
        obtain ⟨e24, _, _⟩ := hdd
        have hfd := Fr.add (t := 51) (v := (.bool false)) hfd e24
        exact G_val (v := (.bool false)) (w' := wd) hfd rfl (by kernel_rfl) (by kernel_rfl) (Le.refl _) rfl
      · intro a wd ld hfd hdd
        have hfd := Fr.cast (s' := [(11, (ptr b5 0)), (10, (.int .i64 (bits .and .i64 y 7))), (9, (.int .i64 (bits .and .i64 x 7))), (8, (ptr b4 0)), (7, (.bool true)), (6, (.bool false)), (5, (ptr b3 0)), (4, (ptr b2 0)), (3, (ptr b1 0)), (0, (.agg #[(.int .i64 uid), (.int .i64 gid)])), (1, (.agg #[(.int .i64 kind), (.int .i64 mode), (.int .i64 auid), (.int .i64 agid), (.int .i64 links), (.int .i64 size)])), (2, (.agg #[(.int .i64 x), (.int .i64 y)]))]) hfd (by kernel_rfl)
        obtain ⟨e25, _⟩ := hdd
        have hfd := Fr.add (t := 52) (v := (.bool false)) hfd e25
        exact G_skip hfd rfl rfl
      · intro a wd ld hfd hdd
        have hfd := Fr.cast (s' := [(11, (ptr b5 0)), (10, (.int .i64 (bits .and .i64 y 7))), (9, (.int .i64 (bits .and .i64 x 7))), (8, (ptr b4 0)), (7, (.bool true)), (6, (.bool false)), (5, (ptr b3 0)), (4, (ptr b2 0)), (3, (ptr b1 0)), (0, (.agg #[(.int .i64 uid), (.int .i64 gid)])), (1, (.agg #[(.int .i64 kind), (.int .i64 mode), (.int .i64 auid), (.int .i64 agid), (.int .i64 links), (.int .i64 size)])), (2, (.agg #[(.int .i64 x), (.int .i64 y)]))]) hfd (by kernel_rfl)
        obtain ⟨e25, _⟩ := hdd
        have hfd := Fr.add (t := 52) (v := (.bool false)) hfd e25
        exact G_skip hfd rfl rfl
      · intro a wd ld hfd hdd
        have hfd := Fr.cast (s' := [(11, (ptr b5 0)), (10, (.int .i64 (bits .and .i64 y 7))), (9, (.int .i64 (bits .and .i64 x 7))), (8, (ptr b4 0)), (7, (.bool true)), (6, (.bool false)), (5, (ptr b3 0)), (4, (ptr b2 0)), (3, (ptr b1 0)), (0, (.agg #[(.int .i64 uid), (.int .i64 gid)])), (1, (.agg #[(.int .i64 kind), (.int .i64 mode), (.int .i64 auid), (.int .i64 agid), (.int .i64 links), (.int .i64 size)])), (2, (.agg #[(.int .i64 x), (.int .i64 y)]))]) hfd (by kernel_rfl)
        obtain ⟨e25, _⟩ := hdd
        have hfd := Fr.add (t := 52) (v := (.bool false)) hfd e25
        exact G_skip hfd rfl rfl
      · intro a wd ld hfd hdd
        have hfd := Fr.cast (s' := [(11, (ptr b5 0)), (10, (.int .i64 (bits .and .i64 y 7))), (9, (.int .i64 (bits .and .i64 x 7))), (8, (ptr b4 0)), (7, (.bool true)), (6, (.bool false)), (5, (ptr b3 0)), (4, (ptr b2 0)), (3, (ptr b1 0)), (0, (.agg #[(.int .i64 uid), (.int .i64 gid)])), (1, (.agg #[(.int .i64 kind), (.int .i64 mode), (.int .i64 auid), (.int .i64 agid), (.int .i64 links), (.int .i64 size)])), (2, (.agg #[(.int .i64 x), (.int .i64 y)]))]) hfd (by kernel_rfl)
        obtain ⟨e26, e27, e28, e25, _, _⟩ := hdd
        have hfd := Fr.add (t := 53) (v := undef) hfd e26
        have hfd := Fr.add (t := 54) (v := undef) hfd e27
        have hfd := Fr.add (t := 55) (v := undef) hfd e28
        have hfd := Fr.add (t := 52) (v := (.bool false)) hfd e25
        exact G_skip hfd rfl rfl
      · intro a wd ld hfd hdd
        have hfd := Fr.cast (s' := [(11, (ptr b5 0)), (10, (.int .i64 (bits .and .i64 y 7))), (9, (.int .i64 (bits .and .i64 x 7))), (8, (ptr b4 0)), (7, (.bool true)), (6, (.bool false)), (5, (ptr b3 0)), (4, (ptr b2 0)), (3, (ptr b1 0)), (0, (.agg #[(.int .i64 uid), (.int .i64 gid)])), (1, (.agg #[(.int .i64 kind), (.int .i64 mode), (.int .i64 auid), (.int .i64 agid), (.int .i64 links), (.int .i64 size)])), (2, (.agg #[(.int .i64 x), (.int .i64 y)]))]) hfd (by kernel_rfl)
        obtain ⟨e25, e29, _⟩ := hdd
        have hfd := Fr.add (t := 52) (v := (.bool false)) hfd e25
        have hfd := Fr.add (t := 56) (v := undef) hfd e29
        exact G_val (v := (.bool false)) (w' := wd) hfd rfl (by kernel_rfl) (by kernel_rfl) (Le.refl _) rfl
      · intro a wd ld hfd hdd
        have hfd := Fr.cast (s' := [(11, (ptr b5 0)), (10, (.int .i64 (bits .and .i64 y 7))), (9, (.int .i64 (bits .and .i64 x 7))), (8, (ptr b4 0)), (7, (.bool true)), (6, (.bool false)), (5, (ptr b3 0)), (4, (ptr b2 0)), (3, (ptr b1 0)), (0, (.agg #[(.int .i64 uid), (.int .i64 gid)])), (1, (.agg #[(.int .i64 kind), (.int .i64 mode), (.int .i64 auid), (.int .i64 agid), (.int .i64 links), (.int .i64 size)])), (2, (.agg #[(.int .i64 x), (.int .i64 y)]))]) hfd (by kernel_rfl)
        obtain ⟨e30, _, _, _, _, _, _, _, _, _, _, _, _, _, _, _, _, _, _, _, _, _, _, _, _, _, _, _, _, _, _, _, _, _⟩ := hdd
        have hfd := Fr.add (t := 57) (v := (.bool false)) hfd e30
        exact G_val (v := (.bool false)) (w' := wd) hfd rfl (by kernel_rfl) (by kernel_rfl) (Le.refl _) rfl
      intro a6 w14 l7 hf6 fa6
      obtain ⟨q161, q162, q163, q164, q165, q166, q167, q168, q169, q170, q171, q172, q173, q174, q175, q176, q177, q178, q179, q180, q181, q182, q183, q184, q185, q186, q187, q188, q189, q190, q191, q192, _⟩ := fa6
      have hf6 := Fr.cast (s' := [(11, (ptr b5 0)), (10, (.int .i64 (bits .and .i64 y 7))), (9, (.int .i64 (bits .and .i64 x 7))), (8, (ptr b4 0)), (7, (.bool true)), (5, (ptr b3 0)), (4, (ptr b2 0)), (3, (ptr b1 0)), (0, (.agg #[(.int .i64 uid), (.int .i64 gid)])), (1, (.agg #[(.int .i64 kind), (.int .i64 mode), (.int .i64 auid), (.int .i64 agid), (.int .i64 links), (.int .i64 size)])), (2, (.agg #[(.int .i64 x), (.int .i64 y)]))]) hf6 (by kernel_rfl)
      have hf6 := Fr.add (t := 6) (v := (.bool false)) hf6 q192
      have k1 := l7.blk k1
      have k2 := l7.blk k2
      have k3 := l7.blk k3
      have k4 := l7.blk k4
      have k5 := l7.blk k5
      have be14 := l7.below' be8
      refine (?_ : okE .normal _ [(6, (.bool false)), (11, (ptr b5 0)), (10, (.int .i64 (bits .and .i64 y 7))), (9, (.int .i64 (bits .and .i64 x 7))), (8, (ptr b4 0)), (7, (.bool true)), (5, (ptr b3 0)), (4, (ptr b2 0)), (3, (ptr b1 0)), (0, (.agg #[(.int .i64 uid), (.int .i64 gid)])), (1, (.agg #[(.int .i64 kind), (.int .i64 mode), (.int .i64 auid), (.int .i64 agid), (.int .i64 links), (.int .i64 size)])), (2, (.agg #[(.int .i64 x), (.int .i64 y)]))] _ _) a6 (hf6.sub ⟨rfl, rfl, rfl, rfl, rfl, rfl, rfl, rfl, rfl, rfl, rfl, rfl, trivial⟩)
      refine E_then_normal ?_
      refine C_ret ?_
      refine E_ret (res_one rfl rfl) ⟨_, rfl, ?_⟩
      exact ⟨congrArg Value.bool (by first | rfl | (simp [may_or, may_zero, may_root, c1, c4]; done) | (exfalso; revert c1 c4; decide) | (exfalso; simp_all [may_or, may_zero, may_root]; done)), be14⟩
end Go.Proofs.Ytepekaepgeekcaa
