/- The statement PermOwns, walked: it answers true, and changes nothing that was there. No conditions. (Printed by a program of mine.) -/
import Derived.Test.YtepekaepgeekcaaRows
import Derived.Test.YtepekaepgeekcaaPlain
import Derived.Test.YtepekaepgeekcaaLmOps
import Derived.Test.YtepekaepgeekcaaWalks
namespace Go.Proofs.Ytepekaepgeekcaa
open Go Go.RowKit Go.Lm
set_option linter.unusedSimpArgs false in
set_option maxHeartbeats 4000000 in
set_option maxRecDepth 100000 in
theorem owns_walk (uid gid : Int) (kind mode auid agid links size : Int) (mode' : Int) (w : World) : Ret Try.prog 4 #[(.agg #[(.int .i64 uid), (.int .i64 gid)]), (.agg #[(.int .i64 kind), (.int .i64 mode), (.int .i64 auid), (.int .i64 agid), (.int .i64 links), (.int .i64 size)]), (.int .i64 mode')] w fun v w' => v = .bool true ∧ Le w w' := by
  have be0 := Below.refl w.heap.size w
  refine enter (args := [(.agg #[(.int .i64 uid), (.int .i64 gid)]), (.agg #[(.int .i64 kind), (.int .i64 mode), (.int .i64 auid), (.int .i64 agid), (.int .i64 links), (.int .i64 size)]), (.int .i64 mode')]) Try.func4 rfl rfl rfl ?_
  refine C_seq ?_
  refine C_region ?_
  refine S_box rfl rfl rfl rfl rfl _ rfl fun b1 w1 n1 => ?_
  have k1 := n1.blk
  have o1 := n1.own be0
  have be1 := n1.below' be0
  refine S_box rfl rfl rfl rfl rfl _ rfl fun b2 w2 n2 => ?_
  have lt1 := n2.lt k1
  have k1 := n2.keep k1
  have k2 := n2.blk
  have o2 := n2.own be1
  have be2 := n2.below' be1
  refine R_val (v := (.bool false)) (w' := w2) rfl (by kernel_rfl) rfl rfl (by kernel_rfl) ?_
  refine wpR_nil ?_
  refine E_then_normal ?_
  refine C_seq ?_
  refine C_region ?_
  refine R_call (args := #[]) (w := w2) rfl (by kernel_rfl) rfl rfl (by kernel_rfl) (shown_any _) ?_
  rintro _ w3 ⟨rfl, l1⟩
  have k1 := l1.blk k1
  have k2 := l1.blk k2
  have be3 := l1.below' be2
  refine R_val (v := (.bool true)) (w' := w3) rfl (by kernel_rfl) rfl rfl (by kernel_rfl) ?_
  refine wpR_nil ?_
  refine E_then_normal ?_
  refine C_seq ?_
  refine C_sub [(7, (.bool true)), (6, (.bool false)), (4, (ptr b2 0)), (3, (ptr b1 0)), (0, (.agg #[(.int .i64 uid), (.int .i64 gid)])), (1, (.agg #[(.int .i64 kind), (.int .i64 mode), (.int .i64 auid), (.int .i64 agid), (.int .i64 links), (.int .i64 size)])), (2, (.int .i64 mode'))] ⟨rfl, rfl, rfl, rfl, rfl, rfl, rfl, trivial⟩ ?_
  refine C_region ?_
  refine R_val (v := (ptr b1 0)) (w' := w3) rfl (by kernel_rfl) rfl rfl (by kernel_rfl) ?_
  refine S_load (run_load_one k1 Try.underlying3 rfl rfl) rfl rfl rfl rfl rfl ?_
  refine R_val (v := (ptr b1 1)) (w' := w3) rfl (by kernel_rfl) rfl rfl (by kernel_rfl) ?_
  refine S_load (run_load_one k1 Try.underlying3 rfl rfl) rfl rfl rfl rfl rfl ?_
  refine R_val (v := (.agg #[(.int .i64 uid), (.int .i64 gid)])) (w' := w3) rfl (by kernel_rfl) rfl rfl (by kernel_rfl) ?_
  refine S_alloc #[(.int .i64 0), (.int .i64 0)] (by kernel_rfl) rfl rfl rfl rfl fun b3 w4 n3 => ?_
  have lt2 := n3.lt k1
  have lt3 := n3.lt k2
  have k1 := n3.keep k1
  have k2 := n3.keep k2
  have k3 := n3.blk
  have o3 := n3.own be3
  have be4 := n3.below' be3
  refine S_store k3 rfl rfl rfl rfl rfl (by kernel_rfl) rfl (Nat.le_of_ble_eq_true rfl) #[(.int .i64 uid), (.int .i64 gid)] rfl fun w5 u1 => ?_
  have k1 := u1.keep (Nat.ne_of_lt lt2) k1
  have k2 := u1.keep (Nat.ne_of_lt lt3) k2
  have k3 := u1.blk k3
  have be5 := u1.below be4 o3
  refine wpR_nil ?_
  refine E_then_normal ?_
  refine C_seq ?_
  refine C_sub [(8, (ptr b3 0)), (7, (.bool true)), (6, (.bool false)), (4, (ptr b2 0)), (3, (ptr b1 0)), (0, (.agg #[(.int .i64 uid), (.int .i64 gid)])), (1, (.agg #[(.int .i64 kind), (.int .i64 mode), (.int .i64 auid), (.int .i64 agid), (.int .i64 links), (.int .i64 size)])), (2, (.int .i64 mode'))] ⟨rfl, rfl, rfl, rfl, rfl, rfl, rfl, rfl, trivial⟩ ?_
  rcases Bool.eq_false_or_eq_true ((uid == 0 || uid == auid) == (uid == 0 || uid == auid)) with c1 | c1
  · refine C_draw [fun _ v => v = (.bool true), fun _ v => v = (.bool true), fun _ v => v = (.agg #[(.int .i64 uid), (.int .i64 gid)]), fun _ v => v = (.agg #[(.int .i64 kind), (.int .i64 mode), (.int .i64 auid), (.int .i64 agid), (.int .i64 links), (.int .i64 size)]), fun _ v => v = (.bool (uid == 0 || uid == auid)), fun _ v => v = (ptr b1 0), fun _ v => v = (.int .i64 uid), fun _ v => v = (.agg #[(.int .i64 kind), (.int .i64 mode), (.int .i64 auid), (.int .i64 agid), (.int .i64 links), (.int .i64 size)]), fun _ v => v = (.bool (uid == 0 || uid == auid)), fun _ v => v = (.bool true), fun _ v => v = (.bool true), fun _ v => v = (.bool true), fun _ v => v = (.agg #[(.int .i64 uid), (.int .i64 gid)]), fun _ v => v = (.int .i64 mode'), fun _ v => v = (.agg #[(.int .i64 mode'), (.int .i64 uid), (.int .i64 gid)]), fun _ v => v = (.int .i64 mode'), fun _ v => v = (ptr b1 0), fun _ v => v = (.int .i64 uid), fun _ v => v = (ptr b1 1), fun _ v => v = (.int .i64 gid), fun _ v => v = (.agg #[(.int .i64 mode'), (.int .i64 uid), (.int .i64 gid)]), fun _ v => v = (.bool ((mode' == mode') && ((uid == uid) && ((gid == gid) && true)))), fun _ v => v = (.bool ((mode' == mode') && ((uid == uid) && ((gid == gid) && true)))), fun _ v => v = (.bool ((mode' == mode') && ((uid == uid) && ((gid == gid) && true))))] (by kernel_rfl) (by kernel_rfl) (by kernel_rfl) ⟨stab_exact _, stab_exact _, stab_exact _, stab_exact _, stab_exact _, stab_exact _, stab_exact _, stab_exact _, stab_exact _, stab_exact _, stab_exact _, stab_exact _, stab_exact _, stab_exact _, stab_exact _, stab_exact _, stab_exact _, stab_exact _, stab_exact _, stab_exact _, stab_exact _, stab_exact _, stab_exact _, stab_exact _, trivial⟩ ⟨?_, ?_, ?_, ?_, ?_, ?_, ?_, ?_, ?_, ?_, ?_, ?_, ?_, ?_, ?_, ?_, ?_, ?_, ?_, ?_, ?_, ?_, ?_, ?_, trivial⟩ ?_
    · intro a wd ld hfd hdd
      have hfd := Fr.cast (s' := [(8, (ptr b3 0)), (7, (.bool true)), (6, (.bool false)), (4, (ptr b2 0)), (3, (ptr b1 0)), (0, (.agg #[(.int .i64 uid), (.int .i64 gid)])), (1, (.agg #[(.int .i64 kind), (.int .i64 mode), (.int .i64 auid), (.int .i64 agid), (.int .i64 links), (.int .i64 size)])), (2, (.int .i64 mode'))]) hfd (by kernel_rfl)
      exact G_val (v := (.bool true)) (w' := wd) hfd rfl (by kernel_rfl) (by kernel_rfl) (Le.refl _) rfl
    · intro a wd ld hfd hdd
      have hfd := Fr.cast (s' := [(8, (ptr b3 0)), (7, (.bool true)), (6, (.bool false)), (4, (ptr b2 0)), (3, (ptr b1 0)), (0, (.agg #[(.int .i64 uid), (.int .i64 gid)])), (1, (.agg #[(.int .i64 kind), (.int .i64 mode), (.int .i64 auid), (.int .i64 agid), (.int .i64 links), (.int .i64 size)])), (2, (.int .i64 mode'))]) hfd (by kernel_rfl)
      obtain ⟨e0, _⟩ := hdd
      have hfd := Fr.add (t := 15) (v := (.bool true)) hfd e0
      exact G_val (v := (.bool true)) (w' := wd) hfd rfl (by kernel_rfl) (by kernel_rfl) (Le.refl _) rfl
    · intro a wd ld hfd hdd
      have hfd := Fr.cast (s' := [(8, (ptr b3 0)), (7, (.bool true)), (6, (.bool false)), (4, (ptr b2 0)), (3, (ptr b1 0)), (0, (.agg #[(.int .i64 uid), (.int .i64 gid)])), (1, (.agg #[(.int .i64 kind), (.int .i64 mode), (.int .i64 auid), (.int .i64 agid), (.int .i64 links), (.int .i64 size)])), (2, (.int .i64 mode'))]) hfd (by kernel_rfl)
      obtain ⟨e1, _⟩ := hdd
      have hfd := Fr.add (t := 16) (v := (.bool true)) hfd e1
      exact G_val hfd rfl (by kernel_rfl) (load_ev (run_load_row (ld.blk k3) Try.underlying29 rfl (vs := [(.int .i64 uid), (.int .i64 gid)]) (by kernel_rfl) rfl) rfl rfl) (Le.refl _) rfl
    · intro a wd ld hfd hdd
      have hfd := Fr.cast (s' := [(8, (ptr b3 0)), (7, (.bool true)), (6, (.bool false)), (4, (ptr b2 0)), (3, (ptr b1 0)), (0, (.agg #[(.int .i64 uid), (.int .i64 gid)])), (1, (.agg #[(.int .i64 kind), (.int .i64 mode), (.int .i64 auid), (.int .i64 agid), (.int .i64 links), (.int .i64 size)])), (2, (.int .i64 mode'))]) hfd (by kernel_rfl)
      obtain ⟨e1, _⟩ := hdd
      have hfd := Fr.add (t := 16) (v := (.bool true)) hfd e1
      exact G_val hfd rfl (by kernel_rfl) (load_ev (run_load_row (ld.blk k2) Try.underlying26 rfl (vs := [(.int .i64 kind), (.int .i64 mode), (.int .i64 auid), (.int .i64 agid), (.int .i64 links), (.int .i64 size)]) (by kernel_rfl) rfl) rfl rfl) (Le.refl _) rfl
    · intro a wd ld hfd hdd
      have hfd := Fr.cast (s' := [(8, (ptr b3 0)), (7, (.bool true)), (6, (.bool false)), (4, (ptr b2 0)), (3, (ptr b1 0)), (0, (.agg #[(.int .i64 uid), (.int .i64 gid)])), (1, (.agg #[(.int .i64 kind), (.int .i64 mode), (.int .i64 auid), (.int .i64 agid), (.int .i64 links), (.int .i64 size)])), (2, (.int .i64 mode'))]) hfd (by kernel_rfl)
      obtain ⟨e2, e3, e1, _, _⟩ := hdd
      have hfd := Fr.add (t := 17) (v := (.agg #[(.int .i64 uid), (.int .i64 gid)])) hfd e2
      have hfd := Fr.add (t := 18) (v := (.agg #[(.int .i64 kind), (.int .i64 mode), (.int .i64 auid), (.int .i64 agid), (.int .i64 links), (.int .i64 size)])) hfd e3
      have hfd := Fr.add (t := 16) (v := (.bool true)) hfd e1
      exact G_call (args := #[(.agg #[(.int .i64 uid), (.int .i64 gid)]), (.agg #[(.int .i64 kind), (.int .i64 mode), (.int .i64 auid), (.int .i64 agid), (.int .i64 links), (.int .i64 size)])]) (w := wd) hfd rfl (by kernel_rfl) (by kernel_rfl) (owns_any uid gid kind mode auid agid links size _) fun v w' ⟨he, hl⟩ => ⟨hl, he⟩
    · intro a wd ld hfd hdd
      have hfd := Fr.cast (s' := [(8, (ptr b3 0)), (7, (.bool true)), (6, (.bool false)), (4, (ptr b2 0)), (3, (ptr b1 0)), (0, (.agg #[(.int .i64 uid), (.int .i64 gid)])), (1, (.agg #[(.int .i64 kind), (.int .i64 mode), (.int .i64 auid), (.int .i64 agid), (.int .i64 links), (.int .i64 size)])), (2, (.int .i64 mode'))]) hfd (by kernel_rfl)
      obtain ⟨e1, _⟩ := hdd
      have hfd := Fr.add (t := 16) (v := (.bool true)) hfd e1
      exact G_val (v := (ptr b1 0)) (w' := wd) hfd rfl (by kernel_rfl) (by kernel_rfl) (Le.refl _) rfl
    · intro a wd ld hfd hdd
      have hfd := Fr.cast (s' := [(8, (ptr b3 0)), (7, (.bool true)), (6, (.bool false)), (4, (ptr b2 0)), (3, (ptr b1 0)), (0, (.agg #[(.int .i64 uid), (.int .i64 gid)])), (1, (.agg #[(.int .i64 kind), (.int .i64 mode), (.int .i64 auid), (.int .i64 agid), (.int .i64 links), (.int .i64 size)])), (2, (.int .i64 mode'))]) hfd (by kernel_rfl)
      obtain ⟨e5, e1, _⟩ := hdd
      have hfd := Fr.add (t := 20) (v := (ptr b1 0)) hfd e5
      have hfd := Fr.add (t := 16) (v := (.bool true)) hfd e1
      exact G_val hfd rfl (by kernel_rfl) (load_ev (run_load_one (ld.blk k1) Try.underlying3 rfl rfl) rfl rfl) (Le.refl _) rfl
    · intro a wd ld hfd hdd
      have hfd := Fr.cast (s' := [(8, (ptr b3 0)), (7, (.bool true)), (6, (.bool false)), (4, (ptr b2 0)), (3, (ptr b1 0)), (0, (.agg #[(.int .i64 uid), (.int .i64 gid)])), (1, (.agg #[(.int .i64 kind), (.int .i64 mode), (.int .i64 auid), (.int .i64 agid), (.int .i64 links), (.int .i64 size)])), (2, (.int .i64 mode'))]) hfd (by kernel_rfl)
      obtain ⟨e1, _⟩ := hdd
      have hfd := Fr.add (t := 16) (v := (.bool true)) hfd e1
      exact G_val hfd rfl (by kernel_rfl) (load_ev (run_load_row (ld.blk k2) Try.underlying26 rfl (vs := [(.int .i64 kind), (.int .i64 mode), (.int .i64 auid), (.int .i64 agid), (.int .i64 links), (.int .i64 size)]) (by kernel_rfl) rfl) rfl rfl) (Le.refl _) rfl
    · intro a wd ld hfd hdd
      have hfd := Fr.cast (s' := [(8, (ptr b3 0)), (7, (.bool true)), (6, (.bool false)), (4, (ptr b2 0)), (3, (ptr b1 0)), (0, (.agg #[(.int .i64 uid), (.int .i64 gid)])), (1, (.agg #[(.int .i64 kind), (.int .i64 mode), (.int .i64 auid), (.int .i64 agid), (.int .i64 links), (.int .i64 size)])), (2, (.int .i64 mode'))]) hfd (by kernel_rfl)
      obtain ⟨e6, e7, _, e1, _⟩ := hdd
      have hfd := Fr.add (t := 21) (v := (.int .i64 uid)) hfd e6
      have hfd := Fr.add (t := 22) (v := (.agg #[(.int .i64 kind), (.int .i64 mode), (.int .i64 auid), (.int .i64 agid), (.int .i64 links), (.int .i64 size)])) hfd e7
      have hfd := Fr.add (t := 16) (v := (.bool true)) hfd e1
      exact G_call (args := #[(.int .i64 uid), (.agg #[(.int .i64 kind), (.int .i64 mode), (.int .i64 auid), (.int .i64 agid), (.int .i64 links), (.int .i64 size)])]) (w := wd) hfd rfl (by kernel_rfl) (by kernel_rfl) (refowns_any uid kind mode auid agid links size _) fun v w' ⟨he, hl⟩ => ⟨hl, he⟩
    · intro a wd ld hfd hdd
      have hfd := Fr.cast (s' := [(8, (ptr b3 0)), (7, (.bool true)), (6, (.bool false)), (4, (ptr b2 0)), (3, (ptr b1 0)), (0, (.agg #[(.int .i64 uid), (.int .i64 gid)])), (1, (.agg #[(.int .i64 kind), (.int .i64 mode), (.int .i64 auid), (.int .i64 agid), (.int .i64 links), (.int .i64 size)])), (2, (.int .i64 mode'))]) hfd (by kernel_rfl)
      obtain ⟨e4, e8, e1, _⟩ := hdd
      have hfd := Fr.add (t := 19) (v := (.bool (uid == 0 || uid == auid))) hfd e4
      have hfd := Fr.add (t := 23) (v := (.bool (uid == 0 || uid == auid))) hfd e8
      have hfd := Fr.add (t := 16) (v := (.bool true)) hfd e1
      exact G_val (v := (.bool true)) (w' := wd) hfd rfl (by kernel_rfl) (eq_bool (by kernel_rfl) c1) (Le.refl _) rfl
    · intro a wd ld hfd hdd
      have hfd := Fr.cast (s' := [(8, (ptr b3 0)), (7, (.bool true)), (6, (.bool false)), (4, (ptr b2 0)), (3, (ptr b1 0)), (0, (.agg #[(.int .i64 uid), (.int .i64 gid)])), (1, (.agg #[(.int .i64 kind), (.int .i64 mode), (.int .i64 auid), (.int .i64 agid), (.int .i64 links), (.int .i64 size)])), (2, (.int .i64 mode'))]) hfd (by kernel_rfl)
      obtain ⟨e1, e9, _⟩ := hdd
      have hfd := Fr.add (t := 16) (v := (.bool true)) hfd e1
      have hfd := Fr.add (t := 24) (v := (.bool true)) hfd e9
      exact G_val (v := (.bool true)) (w' := wd) hfd rfl (by kernel_rfl) (by kernel_rfl) (Le.refl _) rfl
    · intro a wd ld hfd hdd
      have hfd := Fr.cast (s' := [(8, (ptr b3 0)), (7, (.bool true)), (6, (.bool false)), (4, (ptr b2 0)), (3, (ptr b1 0)), (0, (.agg #[(.int .i64 uid), (.int .i64 gid)])), (1, (.agg #[(.int .i64 kind), (.int .i64 mode), (.int .i64 auid), (.int .i64 agid), (.int .i64 links), (.int .i64 size)])), (2, (.int .i64 mode'))]) hfd (by kernel_rfl)
      obtain ⟨e10, _, _⟩ := hdd
      have hfd := Fr.add (t := 25) (v := (.bool true)) hfd e10
      exact G_val (v := (.bool true)) (w' := wd) hfd rfl (by kernel_rfl) (by kernel_rfl) (Le.refl _) rfl
    · intro a wd ld hfd hdd
      have hfd := Fr.cast (s' := [(8, (ptr b3 0)), (7, (.bool true)), (6, (.bool false)), (4, (ptr b2 0)), (3, (ptr b1 0)), (0, (.agg #[(.int .i64 uid), (.int .i64 gid)])), (1, (.agg #[(.int .i64 kind), (.int .i64 mode), (.int .i64 auid), (.int .i64 agid), (.int .i64 links), (.int .i64 size)])), (2, (.int .i64 mode'))]) hfd (by kernel_rfl)
      obtain ⟨e11, _⟩ := hdd
      have hfd := Fr.add (t := 26) (v := (.bool true)) hfd e11
      exact G_val hfd rfl (by kernel_rfl) (load_ev (run_load_row (ld.blk k3) Try.underlying29 rfl (vs := [(.int .i64 uid), (.int .i64 gid)]) (by kernel_rfl) rfl) rfl rfl) (Le.refl _) rfl
    · intro a wd ld hfd hdd
      have hfd := Fr.cast (s' := [(8, (ptr b3 0)), (7, (.bool true)), (6, (.bool false)), (4, (ptr b2 0)), (3, (ptr b1 0)), (0, (.agg #[(.int .i64 uid), (.int .i64 gid)])), (1, (.agg #[(.int .i64 kind), (.int .i64 mode), (.int .i64 auid), (.int .i64 agid), (.int .i64 links), (.int .i64 size)])), (2, (.int .i64 mode'))]) hfd (by kernel_rfl)
      obtain ⟨e11, _⟩ := hdd
      have hfd := Fr.add (t := 26) (v := (.bool true)) hfd e11
      exact G_val (v := (.int .i64 mode')) (w' := wd) hfd rfl (by kernel_rfl) (by kernel_rfl) (Le.refl _) rfl
    · intro a wd ld hfd hdd
      have hfd := Fr.cast (s' := [(8, (ptr b3 0)), (7, (.bool true)), (6, (.bool false)), (4, (ptr b2 0)), (3, (ptr b1 0)), (0, (.agg #[(.int .i64 uid), (.int .i64 gid)])), (1, (.agg #[(.int .i64 kind), (.int .i64 mode), (.int .i64 auid), (.int .i64 agid), (.int .i64 links), (.int .i64 size)])), (2, (.int .i64 mode'))]) hfd (by kernel_rfl)
      obtain ⟨e12, e13, e11, _, _⟩ := hdd
      have hfd := Fr.add (t := 27) (v := (.agg #[(.int .i64 uid), (.int .i64 gid)])) hfd e12
      have hfd := Fr.add (t := 28) (v := (.int .i64 mode')) hfd e13
      have hfd := Fr.add (t := 26) (v := (.bool true)) hfd e11
      exact G_call (args := #[(.agg #[(.int .i64 uid), (.int .i64 gid)]), (.int .i64 mode')]) (w := wd) hfd rfl (by kernel_rfl) (by kernel_rfl) (attr_any uid gid mode' _) fun v w' ⟨he, hl⟩ => ⟨hl, he⟩
    · intro a wd ld hfd hdd
      have hfd := Fr.cast (s' := [(8, (ptr b3 0)), (7, (.bool true)), (6, (.bool false)), (4, (ptr b2 0)), (3, (ptr b1 0)), (0, (.agg #[(.int .i64 uid), (.int .i64 gid)])), (1, (.agg #[(.int .i64 kind), (.int .i64 mode), (.int .i64 auid), (.int .i64 agid), (.int .i64 links), (.int .i64 size)])), (2, (.int .i64 mode'))]) hfd (by kernel_rfl)
      obtain ⟨e11, _⟩ := hdd
      have hfd := Fr.add (t := 26) (v := (.bool true)) hfd e11
      exact G_val (v := (.int .i64 mode')) (w' := wd) hfd rfl (by kernel_rfl) (by kernel_rfl) (Le.refl _) rfl
    · intro a wd ld hfd hdd
      have hfd := Fr.cast (s' := [(8, (ptr b3 0)), (7, (.bool true)), (6, (.bool false)), (4, (ptr b2 0)), (3, (ptr b1 0)), (0, (.agg #[(.int .i64 uid), (.int .i64 gid)])), (1, (.agg #[(.int .i64 kind), (.int .i64 mode), (.int .i64 auid), (.int .i64 agid), (.int .i64 links), (.int .i64 size)])), (2, (.int .i64 mode'))]) hfd (by kernel_rfl)
      obtain ⟨e11, _⟩ := hdd
      have hfd := Fr.add (t := 26) (v := (.bool true)) hfd e11
      exact G_val (v := (ptr b1 0)) (w' := wd) hfd rfl (by kernel_rfl) (by kernel_rfl) (Le.refl _) rfl
    · intro a wd ld hfd hdd
      have hfd := Fr.cast (s' := [(8, (ptr b3 0)), (7, (.bool true)), (6, (.bool false)), (4, (ptr b2 0)), (3, (ptr b1 0)), (0, (.agg #[(.int .i64 uid), (.int .i64 gid)])), (1, (.agg #[(.int .i64 kind), (.int .i64 mode), (.int .i64 auid), (.int .i64 agid), (.int .i64 links), (.int .i64 size)])), (2, (.int .i64 mode'))]) hfd (by kernel_rfl)
      obtain ⟨e16, e11, _⟩ := hdd
      have hfd := Fr.add (t := 31) (v := (ptr b1 0)) hfd e16
      have hfd := Fr.add (t := 26) (v := (.bool true)) hfd e11
      exact G_val hfd rfl (by kernel_rfl) (load_ev (run_load_one (ld.blk k1) Try.underlying3 rfl rfl) rfl rfl) (Le.refl _) rfl
    · intro a wd ld hfd hdd
      have hfd := Fr.cast (s' := [(8, (ptr b3 0)), (7, (.bool true)), (6, (.bool false)), (4, (ptr b2 0)), (3, (ptr b1 0)), (0, (.agg #[(.int .i64 uid), (.int .i64 gid)])), (1, (.agg #[(.int .i64 kind), (.int .i64 mode), (.int .i64 auid), (.int .i64 agid), (.int .i64 links), (.int .i64 size)])), (2, (.int .i64 mode'))]) hfd (by kernel_rfl)
      obtain ⟨e11, _⟩ := hdd
      have hfd := Fr.add (t := 26) (v := (.bool true)) hfd e11
      exact G_val (v := (ptr b1 1)) (w' := wd) hfd rfl (by kernel_rfl) (by kernel_rfl) (Le.refl _) rfl
    · intro a wd ld hfd hdd
      have hfd := Fr.cast (s' := [(8, (ptr b3 0)), (7, (.bool true)), (6, (.bool false)), (4, (ptr b2 0)), (3, (ptr b1 0)), (0, (.agg #[(.int .i64 uid), (.int .i64 gid)])), (1, (.agg #[(.int .i64 kind), (.int .i64 mode), (.int .i64 auid), (.int .i64 agid), (.int .i64 links), (.int .i64 size)])), (2, (.int .i64 mode'))]) hfd (by kernel_rfl)
      obtain ⟨e18, e11, _⟩ := hdd
      have hfd := Fr.add (t := 33) (v := (ptr b1 1)) hfd e18
      have hfd := Fr.add (t := 26) (v := (.bool true)) hfd e11
      exact G_val hfd rfl (by kernel_rfl) (load_ev (run_load_one (ld.blk k1) Try.underlying3 rfl rfl) rfl rfl) (Le.refl _) rfl
    · intro a wd ld hfd hdd
      have hfd := Fr.cast (s' := [(8, (ptr b3 0)), (7, (.bool true)), (6, (.bool false)), (4, (ptr b2 0)), (3, (ptr b1 0)), (0, (.agg #[(.int .i64 uid), (.int .i64 gid)])), (1, (.agg #[(.int .i64 kind), (.int .i64 mode), (.int .i64 auid), (.int .i64 agid), (.int .i64 links), (.int .i64 size)])), (2, (.int .i64 mode'))]) hfd (by kernel_rfl)
      obtain ⟨e15, e17, e19, e11, _⟩ := hdd
      have hfd := Fr.add (t := 30) (v := (.int .i64 mode')) hfd e15
      have hfd := Fr.add (t := 32) (v := (.int .i64 uid)) hfd e17
      have hfd := Fr.add (t := 34) (v := (.int .i64 gid)) hfd e19
      have hfd := Fr.add (t := 26) (v := (.bool true)) hfd e11
      exact G_val (v := (.agg #[(.int .i64 mode'), (.int .i64 uid), (.int .i64 gid)])) (w' := wd) hfd rfl (by kernel_rfl) (by kernel_rfl) (Le.refl _) rfl
    · intro a wd ld hfd hdd
      have hfd := Fr.cast (s' := [(8, (ptr b3 0)), (7, (.bool true)), (6, (.bool false)), (4, (ptr b2 0)), (3, (ptr b1 0)), (0, (.agg #[(.int .i64 uid), (.int .i64 gid)])), (1, (.agg #[(.int .i64 kind), (.int .i64 mode), (.int .i64 auid), (.int .i64 agid), (.int .i64 links), (.int .i64 size)])), (2, (.int .i64 mode'))]) hfd (by kernel_rfl)
      obtain ⟨e14, e20, e11, _⟩ := hdd
      have hfd := Fr.add (t := 29) (v := (.agg #[(.int .i64 mode'), (.int .i64 uid), (.int .i64 gid)])) hfd e14
      have hfd := Fr.add (t := 35) (v := (.agg #[(.int .i64 mode'), (.int .i64 uid), (.int .i64 gid)])) hfd e20
      have hfd := Fr.add (t := 26) (v := (.bool true)) hfd e11
      exact G_val (v := (.bool ((mode' == mode') && ((uid == uid) && ((gid == gid) && true))))) (w' := wd) hfd rfl (by kernel_rfl) (X_eql_struct rfl rfl rfl Try.underlying24 (by kernel_rfl) (by kernel_rfl) (eqF_int rfl Try.underlying3 (by kernel_rfl) rfl rfl (eqF_int rfl Try.underlying3 (by kernel_rfl) rfl rfl (eqF_int rfl Try.underlying3 (by kernel_rfl) rfl rfl (eqF_nil))))) (Le.refl _) rfl
    · intro a wd ld hfd hdd
      have hfd := Fr.cast (s' := [(8, (ptr b3 0)), (7, (.bool true)), (6, (.bool false)), (4, (ptr b2 0)), (3, (ptr b1 0)), (0, (.agg #[(.int .i64 uid), (.int .i64 gid)])), (1, (.agg #[(.int .i64 kind), (.int .i64 mode), (.int .i64 auid), (.int .i64 agid), (.int .i64 links), (.int .i64 size)])), (2, (.int .i64 mode'))]) hfd (by kernel_rfl)
      obtain ⟨e11, e21, _⟩ := hdd
      have hfd := Fr.add (t := 26) (v := (.bool true)) hfd e11
      have hfd := Fr.add (t := 36) (v := (.bool ((mode' == mode') && ((uid == uid) && ((gid == gid) && true))))) hfd e21
      exact G_val (v := (.bool ((mode' == mode') && ((uid == uid) && ((gid == gid) && true))))) (w' := wd) hfd rfl (by kernel_rfl) (by kernel_rfl) (Le.refl _) rfl
    · intro a wd ld hfd hdd
      have hfd := Fr.cast (s' := [(8, (ptr b3 0)), (7, (.bool true)), (6, (.bool false)), (4, (ptr b2 0)), (3, (ptr b1 0)), (0, (.agg #[(.int .i64 uid), (.int .i64 gid)])), (1, (.agg #[(.int .i64 kind), (.int .i64 mode), (.int .i64 auid), (.int .i64 agid), (.int .i64 links), (.int .i64 size)])), (2, (.int .i64 mode'))]) hfd (by kernel_rfl)
      obtain ⟨e22, _, _, _, _, _, _, _, _, _, _, _, _, _, _, _, _, _, _, _, _, _, _, _, _, _⟩ := hdd
      have hfd := Fr.add (t := 37) (v := (.bool ((mode' == mode') && ((uid == uid) && ((gid == gid) && true))))) hfd e22
      exact G_val (v := (.bool ((mode' == mode') && ((uid == uid) && ((gid == gid) && true))))) (w' := wd) hfd rfl (by kernel_rfl) (by kernel_rfl) (Le.refl _) rfl
    intro a1 w6 l2 hf1 fa1
    obtain ⟨q1, q2, q3, q4, q5, q6, q7, q8, q9, q10, q11, q12, q13, q14, q15, q16, q17, q18, q19, q20, q21, q22, q23, q24, _⟩ := fa1
    have hf1 := Fr.cast (s' := [(8, (ptr b3 0)), (7, (.bool true)), (4, (ptr b2 0)), (3, (ptr b1 0)), (0, (.agg #[(.int .i64 uid), (.int .i64 gid)])), (1, (.agg #[(.int .i64 kind), (.int .i64 mode), (.int .i64 auid), (.int .i64 agid), (.int .i64 links), (.int .i64 size)])), (2, (.int .i64 mode'))]) hf1 (by kernel_rfl)
    have hf1 := Fr.add (t := 6) (v := (.bool ((mode' == mode') && ((uid == uid) && ((gid == gid) && true))))) hf1 q24
    have k1 := l2.blk k1
    have k2 := l2.blk k2
    have k3 := l2.blk k3
    have be6 := l2.below' be5
    refine (?_ : okE .normal _ [(6, (.bool ((mode' == mode') && ((uid == uid) && ((gid == gid) && true))))), (8, (ptr b3 0)), (7, (.bool true)), (4, (ptr b2 0)), (3, (ptr b1 0)), (0, (.agg #[(.int .i64 uid), (.int .i64 gid)])), (1, (.agg #[(.int .i64 kind), (.int .i64 mode), (.int .i64 auid), (.int .i64 agid), (.int .i64 links), (.int .i64 size)])), (2, (.int .i64 mode'))] _ _) a1 (hf1.sub ⟨rfl, rfl, rfl, rfl, rfl, rfl, rfl, rfl, trivial⟩)
    refine E_then_normal ?_
    refine C_ret ?_
    refine E_ret (res_one rfl rfl) ⟨_, rfl, ?_⟩
    exact ⟨congrArg Value.bool (by first | rfl | (simp [c1]; done) | (exfalso; revert c1; decide) | (exfalso; simp_all []; done)), be6⟩
  · refine C_draw [fun _ v => v = (.bool true), fun _ v => v = (.bool true), fun _ v => v = (.agg #[(.int .i64 uid), (.int .i64 gid)]), fun _ v => v = (.agg #[(.int .i64 kind), (.int .i64 mode), (.int .i64 auid), (.int .i64 agid), (.int .i64 links), (.int .i64 size)]), fun _ v => v = (.bool (uid == 0 || uid == auid)), fun _ v => v = (ptr b1 0), fun _ v => v = (.int .i64 uid), fun _ v => v = (.agg #[(.int .i64 kind), (.int .i64 mode), (.int .i64 auid), (.int .i64 agid), (.int .i64 links), (.int .i64 size)]), fun _ v => v = (.bool (uid == 0 || uid == auid)), fun _ v => v = (.bool false), fun _ v => v = (.bool false), fun _ v => v = (.bool false), fun _ v => v = undef, fun _ v => v = undef, fun _ v => v = undef, fun _ v => v = undef, fun _ v => v = undef, fun _ v => v = undef, fun _ v => v = undef, fun _ v => v = undef, fun _ v => v = undef, fun _ v => v = undef, fun _ v => v = (.bool false), fun _ v => v = (.bool false)] (by kernel_rfl) (by kernel_rfl) (by kernel_rfl) ⟨stab_exact _, stab_exact _, stab_exact _, stab_exact _, stab_exact _, stab_exact _, stab_exact _, stab_exact _, stab_exact _, stab_exact _, stab_exact _, stab_exact _, stab_exact _, stab_exact _, stab_exact _, stab_exact _, stab_exact _, stab_exact _, stab_exact _, stab_exact _, stab_exact _, stab_exact _, stab_exact _, stab_exact _, trivial⟩ ⟨?_, ?_, ?_, ?_, ?_, ?_, ?_, ?_, ?_, ?_, ?_, ?_, ?_, ?_, ?_, ?_, ?_, ?_, ?_, ?_, ?_, ?_, ?_, ?_, trivial⟩ ?_
    · intro a wd ld hfd hdd
      have hfd := Fr.cast (s' := [(8, (ptr b3 0)), (7, (.bool true)), (6, (.bool false)), (4, (ptr b2 0)), (3, (ptr b1 0)), (0, (.agg #[(.int .i64 uid), (.int .i64 gid)])), (1, (.agg #[(.int .i64 kind), (.int .i64 mode), (.int .i64 auid), (.int .i64 agid), (.int .i64 links), (.int .i64 size)])), (2, (.int .i64 mode'))]) hfd (by kernel_rfl)
      exact G_val (v := (.bool true)) (w' := wd) hfd rfl (by kernel_rfl) (by kernel_rfl) (Le.refl _) rfl
    · intro a wd ld hfd hdd
      have hfd := Fr.cast (s' := [(8, (ptr b3 0)), (7, (.bool true)), (6, (.bool false)), (4, (ptr b2 0)), (3, (ptr b1 0)), (0, (.agg #[(.int .i64 uid), (.int .i64 gid)])), (1, (.agg #[(.int .i64 kind), (.int .i64 mode), (.int .i64 auid), (.int .i64 agid), (.int .i64 links), (.int .i64 size)])), (2, (.int .i64 mode'))]) hfd (by kernel_rfl)
      obtain ⟨e0, _⟩ := hdd
      have hfd := Fr.add (t := 15) (v := (.bool true)) hfd e0
      exact G_val (v := (.bool true)) (w' := wd) hfd rfl (by kernel_rfl) (by kernel_rfl) (Le.refl _) rfl
    · intro a wd ld hfd hdd
      have hfd := Fr.cast (s' := [(8, (ptr b3 0)), (7, (.bool true)), (6, (.bool false)), (4, (ptr b2 0)), (3, (ptr b1 0)), (0, (.agg #[(.int .i64 uid), (.int .i64 gid)])), (1, (.agg #[(.int .i64 kind), (.int .i64 mode), (.int .i64 auid), (.int .i64 agid), (.int .i64 links), (.int .i64 size)])), (2, (.int .i64 mode'))]) hfd (by kernel_rfl)
      obtain ⟨e1, _⟩ := hdd
      have hfd := Fr.add (t := 16) (v := (.bool true)) hfd e1
      exact G_val hfd rfl (by kernel_rfl) (load_ev (run_load_row (ld.blk k3) Try.underlying29 rfl (vs := [(.int .i64 uid), (.int .i64 gid)]) (by kernel_rfl) rfl) rfl rfl) (Le.refl _) rfl
    · intro a wd ld hfd hdd
      have hfd := Fr.cast (s' := [(8, (ptr b3 0)), (7, (.bool true)), (6, (.bool false)), (4, (ptr b2 0)), (3, (ptr b1 0)), (0, (.agg #[(.int .i64 uid), (.int .i64 gid)])), (1, (.agg #[(.int .i64 kind), (.int .i64 mode), (.int .i64 auid), (.int .i64 agid), (.int .i64 links), (.int .i64 size)])), (2, (.int .i64 mode'))]) hfd (by kernel_rfl)
      obtain ⟨e1, _⟩ := hdd
      have hfd := Fr.add (t := 16) (v := (.bool true)) hfd e1
      exact G_val hfd rfl (by kernel_rfl) (load_ev (run_load_row (ld.blk k2) Try.underlying26 rfl (vs := [(.int .i64 kind), (.int .i64 mode), (.int .i64 auid), (.int .i64 agid), (.int .i64 links), (.int .i64 size)]) (by kernel_rfl) rfl) rfl rfl) (Le.refl _) rfl
    · intro a wd ld hfd hdd
      have hfd := Fr.cast (s' := [(8, (ptr b3 0)), (7, (.bool true)), (6, (.bool false)), (4, (ptr b2 0)), (3, (ptr b1 0)), (0, (.agg #[(.int .i64 uid), (.int .i64 gid)])), (1, (.agg #[(.int .i64 kind), (.int .i64 mode), (.int .i64 auid), (.int .i64 agid), (.int .i64 links), (.int .i64 size)])), (2, (.int .i64 mode'))]) hfd (by kernel_rfl)
      obtain ⟨e2, e3, e1, _, _⟩ := hdd
      have hfd := Fr.add (t := 17) (v := (.agg #[(.int .i64 uid), (.int .i64 gid)])) hfd e2
      have hfd := Fr.add (t := 18) (v := (.agg #[(.int .i64 kind), (.int .i64 mode), (.int .i64 auid), (.int .i64 agid), (.int .i64 links), (.int .i64 size)])) hfd e3
      have hfd := Fr.add (t := 16) (v := (.bool true)) hfd e1
      exact G_call (args := #[(.agg #[(.int .i64 uid), (.int .i64 gid)]), (.agg #[(.int .i64 kind), (.int .i64 mode), (.int .i64 auid), (.int .i64 agid), (.int .i64 links), (.int .i64 size)])]) (w := wd) hfd rfl (by kernel_rfl) (by kernel_rfl) (owns_any uid gid kind mode auid agid links size _) fun v w' ⟨he, hl⟩ => ⟨hl, he⟩
    · intro a wd ld hfd hdd
      have hfd := Fr.cast (s' := [(8, (ptr b3 0)), (7, (.bool true)), (6, (.bool false)), (4, (ptr b2 0)), (3, (ptr b1 0)), (0, (.agg #[(.int .i64 uid), (.int .i64 gid)])), (1, (.agg #[(.int .i64 kind), (.int .i64 mode), (.int .i64 auid), (.int .i64 agid), (.int .i64 links), (.int .i64 size)])), (2, (.int .i64 mode'))]) hfd (by kernel_rfl)
      obtain ⟨e1, _⟩ := hdd
      have hfd := Fr.add (t := 16) (v := (.bool true)) hfd e1
      exact G_val (v := (ptr b1 0)) (w' := wd) hfd rfl (by kernel_rfl) (by kernel_rfl) (Le.refl _) rfl
    · intro a wd ld hfd hdd
      have hfd := Fr.cast (s' := [(8, (ptr b3 0)), (7, (.bool true)), (6, (.bool false)), (4, (ptr b2 0)), (3, (ptr b1 0)), (0, (.agg #[(.int .i64 uid), (.int .i64 gid)])), (1, (.agg #[(.int .i64 kind), (.int .i64 mode), (.int .i64 auid), (.int .i64 agid), (.int .i64 links), (.int .i64 size)])), (2, (.int .i64 mode'))]) hfd (by kernel_rfl)
      obtain ⟨e5, e1, _⟩ := hdd
      have hfd := Fr.add (t := 20) (v := (ptr b1 0)) hfd e5
      have hfd := Fr.add (t := 16) (v := (.bool true)) hfd e1
      exact G_val hfd rfl (by kernel_rfl) (load_ev (run_load_one (ld.blk k1) Try.underlying3 rfl rfl) rfl rfl) (Le.refl _) rfl
    · intro a wd ld hfd hdd
      have hfd := Fr.cast (s' := [(8, (ptr b3 0)), (7, (.bool true)), (6, (.bool false)), (4, (ptr b2 0)), (3, (ptr b1 0)), (0, (.agg #[(.int .i64 uid), (.int .i64 gid)])), (1, (.agg #[(.int .i64 kind), (.int .i64 mode), (.int .i64 auid), (.int .i64 agid), (.int .i64 links), (.int .i64 size)])), (2, (.int .i64 mode'))]) hfd (by kernel_rfl)
      obtain ⟨e1, _⟩ := hdd
      have hfd := Fr.add (t := 16) (v := (.bool true)) hfd e1
      exact G_val hfd rfl (by kernel_rfl) (load_ev (run_load_row (ld.blk k2) Try.underlying26 rfl (vs := [(.int .i64 kind), (.int .i64 mode), (.int .i64 auid), (.int .i64 agid), (.int .i64 links), (.int .i64 size)]) (by kernel_rfl) rfl) rfl rfl) (Le.refl _) rfl
    · intro a wd ld hfd hdd
      have hfd := Fr.cast (s' := [(8, (ptr b3 0)), (7, (.bool true)), (6, (.bool false)), (4, (ptr b2 0)), (3, (ptr b1 0)), (0, (.agg #[(.int .i64 uid), (.int .i64 gid)])), (1, (.agg #[(.int .i64 kind), (.int .i64 mode), (.int .i64 auid), (.int .i64 agid), (.int .i64 links), (.int .i64 size)])), (2, (.int .i64 mode'))]) hfd (by kernel_rfl)
      obtain ⟨e6, e7, _, e1, _⟩ := hdd
      have hfd := Fr.add (t := 21) (v := (.int .i64 uid)) hfd e6
      have hfd := Fr.add (t := 22) (v := (.agg #[(.int .i64 kind), (.int .i64 mode), (.int .i64 auid), (.int .i64 agid), (.int .i64 links), (.int .i64 size)])) hfd e7
      have hfd := Fr.add (t := 16) (v := (.bool true)) hfd e1
      exact G_call (args := #[(.int .i64 uid), (.agg #[(.int .i64 kind), (.int .i64 mode), (.int .i64 auid), (.int .i64 agid), (.int .i64 links), (.int .i64 size)])]) (w := wd) hfd rfl (by kernel_rfl) (by kernel_rfl) (refowns_any uid kind mode auid agid links size _) fun v w' ⟨he, hl⟩ => ⟨hl, he⟩
    · intro a wd ld hfd hdd
      have hfd := Fr.cast (s' := [(8, (ptr b3 0)), (7, (.bool true)), (6, (.bool false)), (4, (ptr b2 0)), (3, (ptr b1 0)), (0, (.agg #[(.int .i64 uid), (.int .i64 gid)])), (1, (.agg #[(.int .i64 kind), (.int .i64 mode), (.int .i64 auid), (.int .i64 agid), (.int .i64 links), (.int .i64 size)])), (2, (.int .i64 mode'))]) hfd (by kernel_rfl)
      obtain ⟨e4, e8, e1, _⟩ := hdd
      have hfd := Fr.add (t := 19) (v := (.bool (uid == 0 || uid == auid))) hfd e4
      have hfd := Fr.add (t := 23) (v := (.bool (uid == 0 || uid == auid))) hfd e8
      have hfd := Fr.add (t := 16) (v := (.bool true)) hfd e1
      exact G_val (v := (.bool false)) (w' := wd) hfd rfl (by kernel_rfl) (eq_bool (by kernel_rfl) c1) (Le.refl _) rfl
    · intro a wd ld hfd hdd
      have hfd := Fr.cast (s' := [(8, (ptr b3 0)), (7, (.bool true)), (6, (.bool false)), (4, (ptr b2 0)), (3, (ptr b1 0)), (0, (.agg #[(.int .i64 uid), (.int .i64 gid)])), (1, (.agg #[(.int .i64 kind), (.int .i64 mode), (.int .i64 auid), (.int .i64 agid), (.int .i64 links), (.int .i64 size)])), (2, (.int .i64 mode'))]) hfd (by kernel_rfl)
      obtain ⟨e1, e9, _⟩ := hdd
      have hfd := Fr.add (t := 16) (v := (.bool true)) hfd e1
      have hfd := Fr.add (t := 24) (v := (.bool false)) hfd e9
      exact G_val (v := (.bool false)) (w' := wd) hfd rfl (by kernel_rfl) (by kernel_rfl) (Le.refl _) rfl
    · intro a wd ld hfd hdd
      have hfd := Fr.cast (s' := [(8, (ptr b3 0)), (7, (.bool true)), (6, (.bool false)), (4, (ptr b2 0)), (3, (ptr b1 0)), (0, (.agg #[(.int .i64 uid), (.int .i64 gid)])), (1, (.agg #[(.int .i64 kind), (.int .i64 mode), (.int .i64 auid), (.int .i64 agid), (.int .i64 links), (.int .i64 size)])), (2, (.int .i64 mode'))]) hfd (by kernel_rfl)
      obtain ⟨e10, _, _⟩ := hdd
      have hfd := Fr.add (t := 25) (v := (.bool false)) hfd e10
      exact G_val (v := (.bool false)) (w' := wd) hfd rfl (by kernel_rfl) (by kernel_rfl) (Le.refl _) rfl
    · intro a wd ld hfd hdd
      have hfd := Fr.cast (s' := [(8, (ptr b3 0)), (7, (.bool true)), (6, (.bool false)), (4, (ptr b2 0)), (3, (ptr b1 0)), (0, (.agg #[(.int .i64 uid), (.int .i64 gid)])), (1, (.agg #[(.int .i64 kind), (.int .i64 mode), (.int .i64 auid), (.int .i64 agid), (.int .i64 links), (.int .i64 size)])), (2, (.int .i64 mode'))]) hfd (by kernel_rfl)
      obtain ⟨e11, _⟩ := hdd
      have hfd := Fr.add (t := 26) (v := (.bool false)) hfd e11
      exact G_skip hfd rfl rfl
    · intro a wd ld hfd hdd
      have hfd := Fr.cast (s' := [(8, (ptr b3 0)), (7, (.bool true)), (6, (.bool false)), (4, (ptr b2 0)), (3, (ptr b1 0)), (0, (.agg #[(.int .i64 uid), (.int .i64 gid)])), (1, (.agg #[(.int .i64 kind), (.int .i64 mode), (.int .i64 auid), (.int .i64 agid), (.int .i64 links), (.int .i64 size)])), (2, (.int .i64 mode'))]) hfd (by kernel_rfl)
      obtain ⟨e11, _⟩ := hdd
      have hfd := Fr.add (t := 26) (v := (.bool false)) hfd e11
      exact G_skip hfd rfl rfl
    · intro a wd ld hfd hdd
      have hfd := Fr.cast (s' := [(8, (ptr b3 0)), (7, (.bool true)), (6, (.bool false)), (4, (ptr b2 0)), (3, (ptr b1 0)), (0, (.agg #[(.int .i64 uid), (.int .i64 gid)])), (1, (.agg #[(.int .i64 kind), (.int .i64 mode), (.int .i64 auid), (.int .i64 agid), (.int .i64 links), (.int .i64 size)])), (2, (.int .i64 mode'))]) hfd (by kernel_rfl)
      obtain ⟨e12, e13, e11, _, _⟩ := hdd
      have hfd := Fr.add (t := 27) (v := undef) hfd e12
      have hfd := Fr.add (t := 28) (v := undef) hfd e13
      have hfd := Fr.add (t := 26) (v := (.bool false)) hfd e11
      exact G_skip hfd rfl rfl
    · intro a wd ld hfd hdd
      have hfd := Fr.cast (s' := [(8, (ptr b3 0)), (7, (.bool true)), (6, (.bool false)), (4, (ptr b2 0)), (3, (ptr b1 0)), (0, (.agg #[(.int .i64 uid), (.int .i64 gid)])), (1, (.agg #[(.int .i64 kind), (.int .i64 mode), (.int .i64 auid), (.int .i64 agid), (.int .i64 links), (.int .i64 size)])), (2, (.int .i64 mode'))]) hfd (by kernel_rfl)
      obtain ⟨e11, _⟩ := hdd
      have hfd := Fr.add (t := 26) (v := (.bool false)) hfd e11
      exact G_skip hfd rfl rfl
    · intro a wd ld hfd hdd
      have hfd := Fr.cast (s' := [(8, (ptr b3 0)), (7, (.bool true)), (6, (.bool false)), (4, (ptr b2 0)), (3, (ptr b1 0)), (0, (.agg #[(.int .i64 uid), (.int .i64 gid)])), (1, (.agg #[(.int .i64 kind), (.int .i64 mode), (.int .i64 auid), (.int .i64 agid), (.int .i64 links), (.int .i64 size)])), (2, (.int .i64 mode'))]) hfd (by kernel_rfl)
      obtain ⟨e11, _⟩ := hdd
      have hfd := Fr.add (t := 26) (v := (.bool false)) hfd e11
      exact G_skip hfd rfl rfl
    · intro a wd ld hfd hdd
      have hfd := Fr.cast (s' := [(8, (ptr b3 0)), (7, (.bool true)), (6, (.bool false)), (4, (ptr b2 0)), (3, (ptr b1 0)), (0, (.agg #[(.int .i64 uid), (.int .i64 gid)])), (1, (.agg #[(.int .i64 kind), (.int .i64 mode), (.int .i64 auid), (.int .i64 agid), (.int .i64 links), (.int .i64 size)])), (2, (.int .i64 mode'))]) hfd (by kernel_rfl)
      obtain ⟨e16, e11, _⟩ := hdd
      have hfd := Fr.add (t := 31) (v := undef) hfd e16
      have hfd := Fr.add (t := 26) (v := (.bool false)) hfd e11
      exact G_skip hfd rfl rfl
    · intro a wd ld hfd hdd
      have hfd := Fr.cast (s' := [(8, (ptr b3 0)), (7, (.bool true)), (6, (.bool false)), (4, (ptr b2 0)), (3, (ptr b1 0)), (0, (.agg #[(.int .i64 uid), (.int .i64 gid)])), (1, (.agg #[(.int .i64 kind), (.int .i64 mode), (.int .i64 auid), (.int .i64 agid), (.int .i64 links), (.int .i64 size)])), (2, (.int .i64 mode'))]) hfd (by kernel_rfl)
      obtain ⟨e11, _⟩ := hdd
      have hfd := Fr.add (t := 26) (v := (.bool false)) hfd e11
      exact G_skip hfd rfl rfl
    · intro a wd ld hfd hdd
      have hfd := Fr.cast (s' := [(8, (ptr b3 0)), (7, (.bool true)), (6, (.bool false)), (4, (ptr b2 0)), (3, (ptr b1 0)), (0, (.agg #[(.int .i64 uid), (.int .i64 gid)])), (1, (.agg #[(.int .i64 kind), (.int .i64 mode), (.int .i64 auid), (.int .i64 agid), (.int .i64 links), (.int .i64 size)])), (2, (.int .i64 mode'))]) hfd (by kernel_rfl)
      obtain ⟨e18, e11, _⟩ := hdd
      have hfd := Fr.add (t := 33) (v := undef) hfd e18
      have hfd := Fr.add (t := 26) (v := (.bool false)) hfd e11
      exact G_skip hfd rfl rfl
    · intro a wd ld hfd hdd
      have hfd := Fr.cast (s' := [(8, (ptr b3 0)), (7, (.bool true)), (6, (.bool false)), (4, (ptr b2 0)), (3, (ptr b1 0)), (0, (.agg #[(.int .i64 uid), (.int .i64 gid)])), (1, (.agg #[(.int .i64 kind), (.int .i64 mode), (.int .i64 auid), (.int .i64 agid), (.int .i64 links), (.int .i64 size)])), (2, (.int .i64 mode'))]) hfd (by kernel_rfl)
      obtain ⟨e15, e17, e19, e11, _⟩ := hdd
      have hfd := Fr.add (t := 30) (v := undef) hfd e15
      have hfd := Fr.add (t := 32) (v := undef) hfd e17
      have hfd := Fr.add (t := 34) (v := undef) hfd e19
      have hfd := Fr.add (t := 26) (v := (.bool false)) hfd e11
      exact G_skip hfd rfl rfl
    · intro a wd ld hfd hdd
      have hfd := Fr.cast (s' := [(8, (ptr b3 0)), (7, (.bool true)), (6, (.bool false)), (4, (ptr b2 0)), (3, (ptr b1 0)), (0, (.agg #[(.int .i64 uid), (.int .i64 gid)])), (1, (.agg #[(.int .i64 kind), (.int .i64 mode), (.int .i64 auid), (.int .i64 agid), (.int .i64 links), (.int .i64 size)])), (2, (.int .i64 mode'))]) hfd (by kernel_rfl)
      obtain ⟨e14, e20, e11, _⟩ := hdd
      have hfd := Fr.add (t := 29) (v := undef) hfd e14
      have hfd := Fr.add (t := 35) (v := undef) hfd e20
      have hfd := Fr.add (t := 26) (v := (.bool false)) hfd e11
      exact G_skip hfd rfl rfl
    · intro a wd ld hfd hdd
      have hfd := Fr.cast (s' := [(8, (ptr b3 0)), (7, (.bool true)), (6, (.bool false)), (4, (ptr b2 0)), (3, (ptr b1 0)), (0, (.agg #[(.int .i64 uid), (.int .i64 gid)])), (1, (.agg #[(.int .i64 kind), (.int .i64 mode), (.int .i64 auid), (.int .i64 agid), (.int .i64 links), (.int .i64 size)])), (2, (.int .i64 mode'))]) hfd (by kernel_rfl)
      obtain ⟨e11, e21, _⟩ := hdd
      have hfd := Fr.add (t := 26) (v := (.bool false)) hfd e11
      have hfd := Fr.add (t := 36) (v := undef) hfd e21
      exact G_val (v := (.bool false)) (w' := wd) hfd rfl (by kernel_rfl) (by kernel_rfl) (Le.refl _) rfl
    · intro a wd ld hfd hdd
      have hfd := Fr.cast (s' := [(8, (ptr b3 0)), (7, (.bool true)), (6, (.bool false)), (4, (ptr b2 0)), (3, (ptr b1 0)), (0, (.agg #[(.int .i64 uid), (.int .i64 gid)])), (1, (.agg #[(.int .i64 kind), (.int .i64 mode), (.int .i64 auid), (.int .i64 agid), (.int .i64 links), (.int .i64 size)])), (2, (.int .i64 mode'))]) hfd (by kernel_rfl)
      obtain ⟨e22, _, _, _, _, _, _, _, _, _, _, _, _, _, _, _, _, _, _, _, _, _, _, _, _, _⟩ := hdd
      have hfd := Fr.add (t := 37) (v := (.bool false)) hfd e22
      exact G_val (v := (.bool false)) (w' := wd) hfd rfl (by kernel_rfl) (by kernel_rfl) (Le.refl _) rfl
    intro a2 w7 l3 hf2 fa2
    obtain ⟨q25, q26, q27, q28, q29, q30, q31, q32, q33, q34, q35, q36, q37, q38, q39, q40, q41, q42, q43, q44, q45, q46, q47, q48, _⟩ := fa2
    have hf2 := Fr.cast (s' := [(8, (ptr b3 0)), (7, (.bool true)), (4, (ptr b2 0)), (3, (ptr b1 0)), (0, (.agg #[(.int .i64 uid), (.int .i64 gid)])), (1, (.agg #[(.int .i64 kind), (.int .i64 mode), (.int .i64 auid), (.int .i64 agid), (.int .i64 links), (.int .i64 size)])), (2, (.int .i64 mode'))]) hf2 (by kernel_rfl)
    have hf2 := Fr.add (t := 6) (v := (.bool false)) hf2 q48
    have k1 := l3.blk k1
    have k2 := l3.blk k2
    have k3 := l3.blk k3
    have be7 := l3.below' be5
    refine (?_ : okE .normal _ [(6, (.bool false)), (8, (ptr b3 0)), (7, (.bool true)), (4, (ptr b2 0)), (3, (ptr b1 0)), (0, (.agg #[(.int .i64 uid), (.int .i64 gid)])), (1, (.agg #[(.int .i64 kind), (.int .i64 mode), (.int .i64 auid), (.int .i64 agid), (.int .i64 links), (.int .i64 size)])), (2, (.int .i64 mode'))] _ _) a2 (hf2.sub ⟨rfl, rfl, rfl, rfl, rfl, rfl, rfl, rfl, trivial⟩)
    refine E_then_normal ?_
    refine C_ret ?_
    refine E_ret (res_one rfl rfl) ⟨_, rfl, ?_⟩
    exact ⟨congrArg Value.bool (by first | rfl | (simp [c1]; done) | (exfalso; revert c1; decide) | (exfalso; simp_all []; done)), be7⟩
end Go.Proofs.Ytepekaepgeekcaa
