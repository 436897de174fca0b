/- What an upper branch takes, walked. (Printed by a program of mine.) -/
import Derived.Test.YtnmaehdklmgfmaaUpI
import Derived.Test.YtnmaehdklmgfmaaLmGC
namespace Go.Proofs.Ytnmaehdklmgfmaa
open Go Go.RowKit Go.Lm
set_option linter.unusedVariables false in
set_option linter.unusedSimpArgs false in
set_option maxHeartbeats 4000000 in
set_option maxRecDepth 100000 in
theorem used_any (u mb : Nat) (q1 q2 nx : Int) (L : List (Int × LNode))  (g w : World) (sees : Sees g w)  (hU : UpR Try.prog uty g w u q1 q2 mb nx L) (hb : usedB (er L) ≤ 1000000000000000) : Ret Try.prog 10 #[(ptr u 0)] w fun v w' => v = .agg #[.int .i64 (L.length : Int), .int .i64 (usedB (er L))] ∧ Le w w' := by
  have H := SL.start sees
  refine enter (args := [(ptr u 0)]) Try.func10 rfl rfl rfl ?_
  refine C_seq ?_
  refine C_region ?_
  refine S_alloc #[(.int .i64 0), (.int .i64 0)] (by kernel_rfl) rfl rfl rfl rfl fun b1 w1 n1 => ?_
  replace H := H.new n1
  refine wpR_nil ?_
  refine E_then_normal ?_
  refine C_seq ?_
  refine C_region ?_
  refine Rv (ptr u 0) w1 ?_
  refine Rv (ptr u 0) w1 ?_
  refine Rv (ptr u 2) w1 ?_
  refine S_load (run_load_one (hU.le H.toLe).ublk Try.underlying83 rfl rfl) rfl rfl rfl rfl rfl ?_
  refine Rw (.int .i64 (L.length : Int)) w1 (X_len_map ((hU.le H.toLe).map) (by first | (unfold entsV; exact List.length_map ..) | (unfold ptrsV; exact List.length_map ..)) rfl Try.underlying83 rfl) ?_
  refine Rv (.agg #[(.int .i64 (L.length : Int)), (.int .i64 0)]) w1 ?_
  refine S_alloc #[(.int .i64 0), (.int .i64 0)] (by kernel_rfl) rfl rfl rfl rfl fun b2 w2 n2 => ?_
  replace H := H.new n2
  refine S_store (H.blk 0) rfl rfl rfl rfl rfl (by kernel_rfl) rfl (Nat.le_of_ble_eq_true rfl) #[(.int .i64 (L.length : Int)), (.int .i64 0)] rfl fun w3 u1 => ?_
  replace H := H.upd 0 u1
  refine wpR_nil ?_
  refine E_then_normal ?_
  refine C_seq ?_
  refine C_seq ?_
  refine Cs [(3, (ptr b2 0)), (2, (ptr b1 0)), (0, (ptr u 0))] ?_
  refine C_region ?_
  refine Rv (ptr u 0) w3 ?_
  refine Rv (ptr u 0) w3 ?_
  refine Rv (ptr u 2) w3 ?_
  refine S_load (run_load_one (hU.le H.toLe).ublk Try.underlying83 rfl rfl) rfl rfl rfl rfl rfl ?_
  obtain ⟨ob1, hob1⟩ := hU.map
  refine S_range (hob1.le H.toLe) Try.underlying83 H rfl rfl rfl rfl rfl fun b3 w4 l1 hne1 Hn => ?_
  replace H := Hn
  clear Hn
  refine wpR_nil ?_
  refine E_then_normal ?_
  refine C_block ?_
  refine Cs [(19, (ptr b3 0)), (3, (ptr b2 0)), (2, (ptr b1 0)), (0, (ptr u 0))] ?_
  refine C_loop (ι := List (Int × Value) × Int) (fun (i : List (Int × Value) × Int) => match i with | (left, acc) => [(19, (ptr b3 0)), (3, (ptr b2 0)), (2, (ptr b1 0)), (0, (ptr u 0))]) (fun (i : List (Int × Value) × Int) w' => match i with | (left, acc) => 0 ≤ acc ∧ acc + sumK (nodeAt L) left = usedB (er L) ∧ SL ⟨w, g⟩ g w' [iterA Try.prog 3 (.map (some mb)) ob1 b3 left, blk b2 #[(.int .i64 (L.length : Int)), (.int .i64 acc)] 33, blk b1 #[(.int .i64 0), (.int .i64 0)] 33]) (fun (i : List (Int × Value) × Int) => match i with | (left, acc) => left.length) ((ptrsV L), 0) ⟨rfl, rfl, rfl, rfl, trivial⟩ ⟨by omega, by rw [sumK_ptrs L (hU.nodup kI)]; omega, H⟩ ?_
  clear H
  rintro ⟨left, acc⟩ w5 ⟨ha0, hac, H⟩
  refine Cs [(19, (ptr b3 0)), (3, (ptr b2 0)), (2, (ptr b1 0)), (0, (ptr u 0))] ?_
  have hs1 := sumK_nn (nodeAt_nn L) left
  refine C_seq ?_
  refine C_region ?_
  refine S_next H (hob1.le H.toLe) kI rfl rfl rfl rfl rfl (fun hz1 => ?_) (fun kx1 vy1 lf1 w6 hp1 hok1 hm1 hen1 Hn hst1 => ?_)
  · refine Rv (.bool false) w5 ?_
    refine wpR_nil ?_
    refine E_then_normal ?_
    refine C_seq ?_
    refine C_false rfl ?_
    refine C_exit ?_
    refine E_then_exit ?_
    refine E_then_exit ?_
    refine E_block_here ?_
    refine E_then_normal ?_
    refine C_seq ?_
    refine Cs [(21, (.bool false)), (19, (ptr b3 0)), (3, (ptr b2 0)), (2, (ptr b1 0)), (0, (ptr u 0))] ?_
    refine C_region ?_
    refine S_load (run_load_row (H.blk 1) Try.underlying33 rfl (vs := [(.int .i64 (L.length : Int)), (.int .i64 acc)]) (by kernel_rfl) rfl) rfl rfl rfl rfl rfl ?_
    refine S_store (H.blk 2) rfl rfl rfl rfl rfl (by kernel_rfl) rfl (Nat.le_of_ble_eq_true rfl) #[(.int .i64 (L.length : Int)), (.int .i64 acc)] rfl fun w7 u2 => ?_
    replace H := H.upd 2 u2
    refine wpR_nil ?_
    refine E_then_normal ?_
    refine C_ret ?_
    refine E_ret (res_cell rfl rfl (run_load_row (H.blk 2) Try.underlying33 rfl (vs := [(.int .i64 (L.length : Int)), (.int .i64 acc)]) (by kernel_rfl) rfl)) ⟨_, rfl, ?_⟩
    exact ⟨tup_agg2 rfl (by rw [hz1] at hac; have q1 : sumK (nodeAt L) ([] : List (Int × Value)) = 0 := rfl; omega), H.toLe⟩
  · replace H := Hn
    clear Hn
    obtain ⟨n3, hr1, hv1⟩ := ptrs_mem ((hU.le H.toLe).nodup kI) hm1
    subst hv1
    obtain ⟨l1_n3, l2_n3, l3_n3, l4_n3⟩ := ((hU.le H.toLe).nodes _ _ hr1).lens
    have hpm1 := sumK_perm (nodeAt L) hp1
    rw [show ∀ y : Value, sumK (nodeAt L) ((kx1, y) :: lf1) = nodeAt L kx1 + sumK (nodeAt L) lf1 from fun _ => rfl, nodeAt_some hr1] at hpm1
    have nx1 := sumX_nn n3.xattrs
    have ns1 := sumS_nn n3.ents
    have nk1 := sumK_nn (nodeAt_nn L) lf1
    refine Rv (.bool true) w6 ?_
    refine wpR_nil ?_
    refine E_then_normal ?_
    refine C_seq ?_
    refine C_true rfl ?_
    refine C_skip ?_
    refine E_then_normal ?_
    refine C_block ?_
    refine C_seq ?_
    refine Cs [(21, (.bool true)), (19, (ptr b3 0)), (3, (ptr b2 0)), (2, (ptr b1 0)), (0, (ptr u 0))] ?_
    refine C_region ?_
    refine Rw (.tuple #[(.int .i64 kx1), (ptr n3.blk 0)]) w6 (X_entry rfl rfl hen1) ?_
    refine Rv (ptr n3.blk 0) w6 ?_
    refine Rv (ptr n3.blk 0) w6 ?_
    refine wpR_nil ?_
    refine E_then_normal ?_
    refine C_seq ?_
    refine Cs [(5, (ptr n3.blk 0)), (21, (.bool true)), (19, (ptr b3 0)), (3, (ptr b2 0)), (2, (ptr b1 0)), (0, (ptr u 0))] ?_
    refine C_drawT 16 [fun _ v => v = (ptr b2 1), fun _ v => v = (.int .i64 acc), fun _ v => v = (ptr n3.blk 0), fun _ v => v = (ptr n3.blk 0), fun _ v => v = (ptr n3.blk 0), fun _ v => v = (ptr n3.blk 6), fun _ v => v = n3.vd, fun _ v => v = (.int .i64 (n3.data.length : Int)), fun _ v => v = (.int .i64 (64 + (n3.data.length : Int))), fun _ v => v = (ptr n3.blk 0), fun _ v => v = (ptr n3.blk 0), fun _ v => v = (ptr n3.blk 0), fun _ v => v = (ptr n3.blk 7), fun _ v => v = (.string n3.target), fun _ v => v = (.int .i64 (n3.target.size : Int)), fun _ v => v = (.int .i64 ((64 + (n3.data.length : Int)) + (n3.target.size : Int)))] (by kernel_rfl) (by kernel_rfl) (by kernel_rfl) (by kernel_rfl) ⟨stab_exact _, stab_exact _, stab_exact _, stab_exact _, stab_exact _, stab_exact _, stab_exact _, stab_exact _, stab_exact _, stab_exact _, stab_exact _, stab_exact _, stab_exact _, stab_exact _, stab_exact _, stab_exact _, trivial⟩ ⟨?_, ?_, ?_, ?_, ?_, ?_, ?_, ?_, ?_, ?_, ?_, ?_, ?_, ?_, ?_, ?_, trivial⟩ ?_
    · intro aq wd ld hfd hdd
      have hfd := Fr.cast (s' := [(5, (ptr n3.blk 0)), (21, (.bool true)), (19, (ptr b3 0)), (3, (ptr b2 0)), (2, (ptr b1 0)), (0, (ptr u 0))]) hfd (by kernel_rfl)
      exact G_val (v := (ptr b2 1)) (w' := wd) hfd rfl (by kernel_rfl) (by kernel_rfl) (Le.refl _) rfl
    · intro aq wd ld hfd hdd
      have hfd := Fr.cast (s' := [(5, (ptr n3.blk 0)), (21, (.bool true)), (19, (ptr b3 0)), (3, (ptr b2 0)), (2, (ptr b1 0)), (0, (ptr u 0))]) hfd (by kernel_rfl)
      obtain ⟨e0, _⟩ := hdd
      have hfd := Fr.add (t := 24) (v := (ptr b2 1)) hfd e0
      exact G_val hfd rfl (by kernel_rfl) (load_ev (run_load_one ((H.le ld).blk 1) Try.underlying3 rfl rfl) rfl rfl) (Le.refl _) rfl
    · intro aq wd ld hfd hdd
      have hfd := Fr.cast (s' := [(5, (ptr n3.blk 0)), (21, (.bool true)), (19, (ptr b3 0)), (3, (ptr b2 0)), (2, (ptr b1 0)), (0, (ptr u 0))]) hfd (by kernel_rfl)
      exact G_val (v := (ptr n3.blk 0)) (w' := wd) hfd rfl (by kernel_rfl) (by kernel_rfl) (Le.refl _) rfl
    · intro aq wd ld hfd hdd
      have hfd := Fr.cast (s' := [(5, (ptr n3.blk 0)), (21, (.bool true)), (19, (ptr b3 0)), (3, (ptr b2 0)), (2, (ptr b1 0)), (0, (ptr u 0))]) hfd (by kernel_rfl)
      obtain ⟨e2, _⟩ := hdd
      have hfd := Fr.add (t := 26) (v := (ptr n3.blk 0)) hfd e2
      exact G_val (v := (ptr n3.blk 0)) (w' := wd) hfd rfl (by kernel_rfl) (by kernel_rfl) (Le.refl _) rfl
    · intro aq wd ld hfd hdd
      have hfd := Fr.cast (s' := [(5, (ptr n3.blk 0)), (21, (.bool true)), (19, (ptr b3 0)), (3, (ptr b2 0)), (2, (ptr b1 0)), (0, (ptr u 0))]) hfd (by kernel_rfl)
      obtain ⟨e3, _⟩ := hdd
      have hfd := Fr.add (t := 27) (v := (ptr n3.blk 0)) hfd e3
      exact G_val (v := (ptr n3.blk 0)) (w' := wd) hfd rfl (by kernel_rfl) (by kernel_rfl) (Le.refl _) rfl
    · intro aq wd ld hfd hdd
      have hfd := Fr.cast (s' := [(5, (ptr n3.blk 0)), (21, (.bool true)), (19, (ptr b3 0)), (3, (ptr b2 0)), (2, (ptr b1 0)), (0, (ptr u 0))]) hfd (by kernel_rfl)
      obtain ⟨e4, _⟩ := hdd
      have hfd := Fr.add (t := 28) (v := (ptr n3.blk 0)) hfd e4
      exact G_val (v := (ptr n3.blk 6)) (w' := wd) hfd rfl (by kernel_rfl) (by kernel_rfl) (Le.refl _) rfl
    · intro aq wd ld hfd hdd
      have hfd := Fr.cast (s' := [(5, (ptr n3.blk 0)), (21, (.bool true)), (19, (ptr b3 0)), (3, (ptr b2 0)), (2, (ptr b1 0)), (0, (ptr u 0))]) hfd (by kernel_rfl)
      obtain ⟨e5, _⟩ := hdd
      have hfd := Fr.add (t := 29) (v := (ptr n3.blk 6)) hfd e5
      exact G_val hfd rfl (by kernel_rfl) (load_ev (run_load_one ((hU.le (H.le ld).toLe).nodes _ _ hr1).blk Try.underlying25 rfl rfl) rfl rfl) (Le.refl _) rfl
    · intro aq wd ld hfd hdd
      have hfd := Fr.cast (s' := [(5, (ptr n3.blk 0)), (21, (.bool true)), (19, (ptr b3 0)), (3, (ptr b2 0)), (2, (ptr b1 0)), (0, (ptr u 0))]) hfd (by kernel_rfl)
      obtain ⟨e6, _⟩ := hdd
      have hfd := Fr.add (t := 30) (v := n3.vd) hfd e6
      exact G_val (v := (.int .i64 (n3.data.length : Int))) (w' := wd) hfd rfl (by kernel_rfl) (X_len ((((hU.le (H.le ld).toLe).nodes _ _ hr1).data).mono (H.le ld).m) rfl Try.underlying25 rfl) (Le.refl _) rfl
    · intro aq wd ld hfd hdd
      have hfd := Fr.cast (s' := [(5, (ptr n3.blk 0)), (21, (.bool true)), (19, (ptr b3 0)), (3, (ptr b2 0)), (2, (ptr b1 0)), (0, (ptr u 0))]) hfd (by kernel_rfl)
      obtain ⟨e7, _⟩ := hdd
      have hfd := Fr.add (t := 31) (v := (.int .i64 (n3.data.length : Int))) hfd e7
      exact G_val (v := (.int .i64 (64 + (n3.data.length : Int)))) (w' := wd) hfd rfl (by kernel_rfl) (eq_int (by kernel_rfl) (wrap64_in (by omega) (by omega))) (Le.refl _) rfl
    · intro aq wd ld hfd hdd
      have hfd := Fr.cast (s' := [(5, (ptr n3.blk 0)), (21, (.bool true)), (19, (ptr b3 0)), (3, (ptr b2 0)), (2, (ptr b1 0)), (0, (ptr u 0))]) hfd (by kernel_rfl)
      exact G_val (v := (ptr n3.blk 0)) (w' := wd) hfd rfl (by kernel_rfl) (by kernel_rfl) (Le.refl _) rfl
    · intro aq wd ld hfd hdd
      have hfd := Fr.cast (s' := [(5, (ptr n3.blk 0)), (21, (.bool true)), (19, (ptr b3 0)), (3, (ptr b2 0)), (2, (ptr b1 0)), (0, (ptr u 0))]) hfd (by kernel_rfl)
      obtain ⟨e9, _⟩ := hdd
      have hfd := Fr.add (t := 33) (v := (ptr n3.blk 0)) hfd e9
      exact G_val (v := (ptr n3.blk 0)) (w' := wd) hfd rfl (by kernel_rfl) (by kernel_rfl) (Le.refl _) rfl
    · intro aq wd ld hfd hdd
      have hfd := Fr.cast (s' := [(5, (ptr n3.blk 0)), (21, (.bool true)), (19, (ptr b3 0)), (3, (ptr b2 0)), (2, (ptr b1 0)), (0, (ptr u 0))]) hfd (by kernel_rfl)
      obtain ⟨e10, _⟩ := hdd
      have hfd := Fr.add (t := 34) (v := (ptr n3.blk 0)) hfd e10
      exact G_val (v := (ptr n3.blk 0)) (w' := wd) hfd rfl (by kernel_rfl) (by kernel_rfl) (Le.refl _) rfl
    · intro aq wd ld hfd hdd
      have hfd := Fr.cast (s' := [(5, (ptr n3.blk 0)), (21, (.bool true)), (19, (ptr b3 0)), (3, (ptr b2 0)), (2, (ptr b1 0)), (0, (ptr u 0))]) hfd (by kernel_rfl)
      obtain ⟨e11, _⟩ := hdd
      have hfd := Fr.add (t := 35) (v := (ptr n3.blk 0)) hfd e11
      exact G_val (v := (ptr n3.blk 7)) (w' := wd) hfd rfl (by kernel_rfl) (by kernel_rfl) (Le.refl _) rfl
    · intro aq wd ld hfd hdd
      have hfd := Fr.cast (s' := [(5, (ptr n3.blk 0)), (21, (.bool true)), (19, (ptr b3 0)), (3, (ptr b2 0)), (2, (ptr b1 0)), (0, (ptr u 0))]) hfd (by kernel_rfl)
      obtain ⟨e12, _⟩ := hdd
      have hfd := Fr.add (t := 36) (v := (ptr n3.blk 7)) hfd e12
      exact G_val hfd rfl (by kernel_rfl) (load_ev (run_load_one ((hU.le (H.le ld).toLe).nodes _ _ hr1).blk Try.underlying9 rfl rfl) rfl rfl) (Le.refl _) rfl
    · intro aq wd ld hfd hdd
      have hfd := Fr.cast (s' := [(5, (ptr n3.blk 0)), (21, (.bool true)), (19, (ptr b3 0)), (3, (ptr b2 0)), (2, (ptr b1 0)), (0, (ptr u 0))]) hfd (by kernel_rfl)
      obtain ⟨e13, _⟩ := hdd
      have hfd := Fr.add (t := 37) (v := (.string n3.target)) hfd e13
      exact G_val (v := (.int .i64 (n3.target.size : Int))) (w' := wd) hfd rfl (by kernel_rfl) (X_len_str rfl Try.underlying9 rfl) (Le.refl _) rfl
    · intro aq wd ld hfd hdd
      have hfd := Fr.cast (s' := [(5, (ptr n3.blk 0)), (21, (.bool true)), (19, (ptr b3 0)), (3, (ptr b2 0)), (2, (ptr b1 0)), (0, (ptr u 0))]) hfd (by kernel_rfl)
      obtain ⟨e8, e14, _⟩ := hdd
      have hfd := Fr.add (t := 32) (v := (.int .i64 (64 + (n3.data.length : Int)))) hfd e8
      have hfd := Fr.add (t := 38) (v := (.int .i64 (n3.target.size : Int))) hfd e14
      exact G_val (v := (.int .i64 ((64 + (n3.data.length : Int)) + (n3.target.size : Int)))) (w' := wd) hfd rfl (by kernel_rfl) (eq_int (by kernel_rfl) (wrap64_in (by omega) (by omega))) (Le.refl _) rfl
    intro aq1 w8 l2 hf1 fa1
    obtain ⟨_, qv1, _, _, _, _, _, _, _, _, _, _, _, _, _, qv2, _⟩ := fa1
    have hf1 := Fr.cast (s' := [(5, (ptr n3.blk 0)), (21, (.bool true)), (19, (ptr b3 0)), (3, (ptr b2 0)), (2, (ptr b1 0)), (0, (ptr u 0))]) hf1 (by kernel_rfl)
    have hf1 := Fr.add (t := 25) (v := (.int .i64 acc)) hf1 qv1
    have hf1 := Fr.add (t := 39) (v := (.int .i64 ((64 + (n3.data.length : Int)) + (n3.target.size : Int)))) hf1 qv2
    replace H := H.le l2
    refine (?_ : wpR _ _ _ _ [(39, (.int .i64 ((64 + (n3.data.length : Int)) + (n3.target.size : Int)))), (25, (.int .i64 acc)), (5, (ptr n3.blk 0)), (21, (.bool true)), (19, (ptr b3 0)), (3, (ptr b2 0)), (2, (ptr b1 0)), (0, (ptr u 0))] _ _) aq1 (hf1.sub ⟨rfl, rfl, rfl, rfl, rfl, rfl, rfl, rfl, trivial⟩)
    refine Rw (.int .i64 (acc + ((64 + (n3.data.length : Int)) + (n3.target.size : Int)))) w8 (eq_int (by kernel_rfl) (wrap64_in (by omega) (by omega))) ?_
    refine Rv (ptr b2 1) w8 ?_
    refine S_store (H.blk 1) rfl rfl rfl rfl rfl (by kernel_rfl) rfl (Nat.le_of_ble_eq_true rfl) #[(.int .i64 (L.length : Int)), (.int .i64 (acc + ((64 + (n3.data.length : Int)) + (n3.target.size : Int))))] rfl fun w9 u3 => ?_
    replace H := H.upd 1 u3
    refine wpR_nil ?_
    refine E_then_normal ?_
    refine C_seq ?_
    refine C_seq ?_
    refine Cs [(5, (ptr n3.blk 0)), (21, (.bool true)), (19, (ptr b3 0)), (3, (ptr b2 0)), (2, (ptr b1 0)), (0, (ptr u 0))] ?_
    refine C_region ?_
    refine Rv (ptr n3.blk 0) w9 ?_
    refine Rv (ptr n3.blk 0) w9 ?_
    refine Rv (ptr n3.blk 0) w9 ?_
    refine Rv (ptr n3.blk 8) w9 ?_
    refine S_load (run_load_one ((hU.le H.toLe).nodes _ _ hr1).blk Try.underlying26 rfl rfl) rfl rfl rfl rfl rfl ?_
    refine Rw (.int .i64 (n3.xattrs.length : Int)) w9 (X_len ((((hU.le H.toLe).nodes _ _ hr1).xattrs).mono H.m) rfl Try.underlying26 rfl) ?_
    refine Rv (.int .i64 0) w9 ?_
    refine wpR_nil ?_
    refine E_then_normal ?_
    refine C_block ?_
    refine Cs [(48, (.int .i64 0)), (47, (.int .i64 (n3.xattrs.length : Int))), (46, n3.vx), (5, (ptr n3.blk 0)), (21, (.bool true)), (19, (ptr b3 0)), (3, (ptr b2 0)), (2, (ptr b1 0)), (0, (ptr u 0))] ?_
    refine C_loop (ι := Int × Int) (fun (i : Int × Int) => match i with | (j, acc2) => [(48, (.int .i64 j)), (47, (.int .i64 (n3.xattrs.length : Int))), (46, n3.vx), (5, (ptr n3.blk 0)), (21, (.bool true)), (19, (ptr b3 0)), (3, (ptr b2 0)), (2, (ptr b1 0)), (0, (ptr u 0))]) (fun (i : Int × Int) w' => match i with | (j, acc2) => 0 ≤ j ∧ j ≤ n3.xattrs.length ∧ 0 ≤ acc2 ∧ acc2 + sumX (n3.xattrs.drop j.toNat) + sumS n3.ents + sumK (nodeAt L) lf1 = usedB (er L) ∧ SL ⟨w, g⟩ g w' [iterA Try.prog 3 (.map (some mb)) ob1 b3 lf1, blk b2 #[(.int .i64 (L.length : Int)), (.int .i64 acc2)] 33, blk b1 #[(.int .i64 0), (.int .i64 0)] 33]) (fun (i : Int × Int) => match i with | (j, acc2) => ((n3.xattrs.length : Int) - j).toNat) (0, acc + ((64 + (n3.data.length : Int)) + (n3.target.size : Int))) ⟨rfl, rfl, rfl, rfl, rfl, rfl, rfl, rfl, rfl, trivial⟩ ⟨by omega, by omega, by omega, by show (acc + ((64 + (n3.data.length : Int)) + (n3.target.size : Int))) + sumX n3.xattrs + _ + _ = _; omega, H⟩ ?_
    clear H
    rintro ⟨j, acc2⟩ w10 ⟨hj0, hjs, ha2, hac2, H⟩
    refine Cs [(48, (.int .i64 j)), (47, (.int .i64 (n3.xattrs.length : Int))), (46, n3.vx), (5, (ptr n3.blk 0)), (21, (.bool true)), (19, (ptr b3 0)), (3, (ptr b2 0)), (2, (ptr b1 0)), (0, (ptr u 0))] ?_
    have hs2 := sumX_nn (n3.xattrs.drop j.toNat)
    refine C_seq ?_
    refine C_region ?_
    refine Rv (.bool (decide (j < (n3.xattrs.length : Int)))) w10 ?_
    refine wpR_nil ?_
    refine E_then_normal ?_
    refine C_seq ?_
    refine C_cond rfl (fun c1 => ?_) (fun c1 => ?_)
    · have d1 : j < (n3.xattrs.length : Int) := of_decide_eq_true c1
      refine C_skip ?_
      refine E_then_normal ?_
      refine C_seq ?_
      refine C_block ?_
      refine C_seq ?_
      have hxd := sumX_drop (l := n3.xattrs) (k := j) (by omega) (by omega)
      have hs4 := sumX_nn (n3.xattrs.drop (j + 1).toNat)
      refine C_region ?_
      refine Rw (elemP 2 n3.vx j) w10 (X_indexAddr ((((hU.le H.toLe).nodes _ _ hr1).xattrs).mono H.m) (by omega) (by omega) rfl Try.underlying26 (by kernel_rfl) rfl rfl) ?_
      obtain ⟨vx1, hc1, hx1, hn1⟩ := xattr_at (i := j) ((hU.le H.toLe).nodes _ _ hr1).xattrs (by omega) (by omega)
      have ln_hx1 := hx1.len_le
      unfold maxLen at hn1
      refine Rw (.agg #[(.string ((nth n3.xattrs j).v.1)), vx1]) w10 (X_load rfl rfl (run_elem_row hc1 H.m Try.underlying47 rfl (by kernel_rfl))) ?_
      refine S_alloc #[(.string (⟨#[]⟩)), (.slice none 0 0)] (by kernel_rfl) rfl rfl rfl rfl fun b4 w11 n4 => ?_
      replace H := H.new n4
      refine S_store (H.blk 0) rfl rfl rfl rfl rfl (by kernel_rfl) (one_all (l := [(.string ((nth n3.xattrs j).v.1)), vx1]) ⟨rfl, one_is hx1, trivial⟩) (Nat.le_of_ble_eq_true rfl) #[(.string ((nth n3.xattrs j).v.1)), vx1] rfl fun w12 u4 => ?_
      replace H := H.upd 0 u4
      refine wpR_nil ?_
      refine E_then_normal ?_
      refine Cs [(7, (ptr b4 0)), (49, (.bool (decide (j < (n3.xattrs.length : Int))))), (48, (.int .i64 j)), (47, (.int .i64 (n3.xattrs.length : Int))), (46, n3.vx), (5, (ptr n3.blk 0)), (21, (.bool true)), (19, (ptr b3 0)), (3, (ptr b2 0)), (2, (ptr b1 0)), (0, (ptr u 0))] ?_
      refine C_region ?_
      refine Rv (ptr b2 1) w12 ?_
      refine S_load (run_load_one (H.blk 2) Try.underlying3 rfl rfl) rfl rfl rfl rfl rfl ?_
      refine Rv (ptr b4 0) w12 ?_
      refine S_load (run_load_one (H.blk 0) Try.underlying9 rfl rfl) rfl rfl rfl rfl rfl ?_
      refine Rw (.int .i64 (((nth n3.xattrs j).v.1).size : Int)) w12 (X_len_str rfl Try.underlying9 rfl) ?_
      refine Rv (ptr b4 1) w12 ?_
      refine S_load (run_load_one (H.blk 0) Try.underlying25 rfl rfl) rfl rfl rfl rfl rfl ?_
      refine Rw (.int .i64 (((nth n3.xattrs j).v.2.1).length : Int)) w12 (X_len (hx1.mono H.m) rfl Try.underlying25 rfl) ?_
      refine Rw (.int .i64 ((((nth n3.xattrs j).v.1).size : Int) + (((nth n3.xattrs j).v.2.1).length : Int))) w12 (eq_int (by kernel_rfl) (wrap64_in (by omega) (by omega))) ?_
      refine Rw (.int .i64 (acc2 + ((((nth n3.xattrs j).v.1).size : Int) + (((nth n3.xattrs j).v.2.1).length : Int)))) w12 (eq_int (by kernel_rfl) (wrap64_in (by omega) (by omega))) ?_
      refine Rv (ptr b2 1) w12 ?_
      refine S_store (H.blk 2) rfl rfl rfl rfl rfl (by kernel_rfl) rfl (Nat.le_of_ble_eq_true rfl) #[(.int .i64 (L.length : Int)), (.int .i64 (acc2 + ((((nth n3.xattrs j).v.1).size : Int) + (((nth n3.xattrs j).v.2.1).length : Int))))] rfl fun w13 u5 => ?_
      replace H := H.upd 2 u5
      refine wpR_nil ?_
      refine E_block_normal ?_
      refine E_then_normal ?_
      refine Cs [(7, (ptr b4 0)), (49, (.bool (decide (j < (n3.xattrs.length : Int))))), (48, (.int .i64 j)), (47, (.int .i64 (n3.xattrs.length : Int))), (46, n3.vx), (5, (ptr n3.blk 0)), (21, (.bool true)), (19, (ptr b3 0)), (3, (ptr b2 0)), (2, (ptr b1 0)), (0, (ptr u 0))] ?_
      refine C_region ?_
      refine Rw (.int .i64 (j + 1)) w13 (eq_int (by kernel_rfl) (wrap64_in (by omega) (by omega))) ?_
      refine Rv (.int .i64 (j + 1)) w13 ?_
      refine wpR_nil ?_
      replace H := H.drop
      replace H := H.pick 2
      replace H := H.pick 2
      replace H := H.pick 2
      refine E_then_mid fun aq2 ha1 => ⟨(j + 1, acc2 + ((((nth n3.xattrs j).v.1).size : Int) + (((nth n3.xattrs j).v.2.1).length : Int))), ha1.sub ⟨rfl, rfl, rfl, rfl, rfl, rfl, rfl, rfl, rfl, trivial⟩, ⟨by omega, by omega, by omega, by omega, H⟩, ?_⟩
      (first | omega | (dsimp only; omega))
    · have d1 : ¬ j < (n3.xattrs.length : Int) := of_decide_eq_false c1
      refine C_exit ?_
      refine E_then_exit ?_
      refine E_then_exit ?_
      refine E_block_here ?_
      refine E_then_normal ?_
      refine C_seq ?_
      have hxe := sumX_end (l := n3.xattrs) (k := j) (by omega)
      refine C_region ?_
      refine Rv (ptr n3.blk 0) w10 ?_
      refine Rv (ptr n3.blk 0) w10 ?_
      refine Rv (ptr n3.blk 10) w10 ?_
      refine S_load (run_load_one ((hU.le H.toLe).nodes _ _ hr1).blk Try.underlying80 rfl rfl) rfl rfl rfl rfl rfl ?_
      obtain ⟨ob2, hob2⟩ := (hU.nodes _ _ hr1).ents
      refine S_range (hob2.le H.toLe) Try.underlying80 H rfl rfl rfl rfl rfl fun b5 w14 l3 hne2 Hn => ?_
      replace H := Hn
      clear Hn
      refine wpR_nil ?_
      refine E_then_normal ?_
      refine C_block ?_
      refine Cs [(68, (ptr b5 0)), (49, (.bool (decide (j < (n3.xattrs.length : Int))))), (48, (.int .i64 j)), (47, (.int .i64 (n3.xattrs.length : Int))), (46, n3.vx), (5, (ptr n3.blk 0)), (21, (.bool true)), (19, (ptr b3 0)), (3, (ptr b2 0)), (2, (ptr b1 0)), (0, (ptr u 0))] ?_
      refine C_loop (ι := List (ByteArray × Value) × Int) (fun (i : List (ByteArray × Value) × Int) => match i with | (left3, acc3) => [(68, (ptr b5 0)), (49, (.bool (decide (j < (n3.xattrs.length : Int))))), (48, (.int .i64 j)), (47, (.int .i64 (n3.xattrs.length : Int))), (46, n3.vx), (5, (ptr n3.blk 0)), (21, (.bool true)), (19, (ptr b3 0)), (3, (ptr b2 0)), (2, (ptr b1 0)), (0, (ptr u 0))]) (fun (i : List (ByteArray × Value) × Int) w' => match i with | (left3, acc3) => 0 ≤ acc3 ∧ acc3 + sumK szF left3 + sumK (nodeAt L) lf1 = usedB (er L) ∧ SL ⟨w, g⟩ g w' [iterA Try.prog 9 n3.vi ob2 b5 left3, iterA Try.prog 3 (.map (some mb)) ob1 b3 lf1, blk b2 #[(.int .i64 (L.length : Int)), (.int .i64 acc3)] 33, blk b1 #[(.int .i64 0), (.int .i64 0)] 33]) (fun (i : List (ByteArray × Value) × Int) => match i with | (left3, acc3) => left3.length) ((entsV n3.ents), acc2) ⟨rfl, rfl, rfl, rfl, rfl, rfl, rfl, rfl, rfl, rfl, rfl, trivial⟩ ⟨by omega, by rw [sumK_ents]; omega, H⟩ ?_
      clear H
      rintro ⟨left3, acc3⟩ w15 ⟨ha3, hac3, H⟩
      refine Cs [(68, (ptr b5 0)), (49, (.bool (decide (j < (n3.xattrs.length : Int))))), (48, (.int .i64 j)), (47, (.int .i64 (n3.xattrs.length : Int))), (46, n3.vx), (5, (ptr n3.blk 0)), (21, (.bool true)), (19, (ptr b3 0)), (3, (ptr b2 0)), (2, (ptr b1 0)), (0, (ptr u 0))] ?_
      have hs3 := sumK_nn szF_nn left3
      refine C_seq ?_
      refine C_region ?_
      refine S_next H (hob2.le H.toLe) kS rfl rfl rfl rfl rfl (fun hz2 => ?_) (fun kx2 vy2 lf2 w16 hp2 hok2 hm2 hen2 Hn hst2 => ?_)
      · refine Rv (.bool false) w15 ?_
        refine wpR_nil ?_
        refine E_then_normal ?_
        refine C_seq ?_
        refine C_false rfl ?_
        refine C_exit ?_
        refine E_then_exit ?_
        refine E_then_exit ?_
        refine E_block_here ?_
        refine E_block_normal ?_
        replace H := H.drop
        replace H := H.pick 2
        replace H := H.pick 2
        replace H := H.pick 2
        refine E_then_mid fun aq3 ha2 => ⟨(lf1, acc3), ha2.sub ⟨rfl, rfl, rfl, rfl, trivial⟩, ⟨by omega, by rw [hz2] at hac3; have q1 : sumK szF ([] : List (ByteArray × Value)) = 0 := rfl; omega, H⟩, ?_⟩
        have q9 := hp1.length_eq; simp at q9; (first | omega | (dsimp only; omega))
      · replace H := Hn
        clear Hn
        obtain ⟨x1, hv2⟩ := ents_mem hm2
        subst hv2
        have hpm2 := sumK_perm szF hp2
        rw [show ∀ y : Value, sumK szF ((kx2, y) :: lf2) = (kx2.size : Int) + sumK szF lf2 from fun _ => rfl] at hpm2
        have nk2 := sumK_nn szF_nn lf2
        refine Rv (.bool true) w16 ?_
        refine wpR_nil ?_
        refine E_then_normal ?_
        refine C_seq ?_
        refine C_true rfl ?_
        refine C_skip ?_
        refine E_then_normal ?_
        refine C_block ?_
        refine C_seq ?_
        refine Cs [(70, (.bool true)), (68, (ptr b5 0)), (49, (.bool (decide (j < (n3.xattrs.length : Int))))), (48, (.int .i64 j)), (47, (.int .i64 (n3.xattrs.length : Int))), (46, n3.vx), (5, (ptr n3.blk 0)), (21, (.bool true)), (19, (ptr b3 0)), (3, (ptr b2 0)), (2, (ptr b1 0)), (0, (ptr u 0))] ?_
        refine C_region ?_
        refine Rw (.tuple #[(.string kx2), (.int .i64 x1)]) w16 (X_entry rfl rfl hen2) ?_
        refine Rv (.string kx2) w16 ?_
        refine Rv (.string kx2) w16 ?_
        refine wpR_nil ?_
        refine E_then_normal ?_
        refine Cs [(8, (.string kx2)), (70, (.bool true)), (68, (ptr b5 0)), (49, (.bool (decide (j < (n3.xattrs.length : Int))))), (48, (.int .i64 j)), (47, (.int .i64 (n3.xattrs.length : Int))), (46, n3.vx), (5, (ptr n3.blk 0)), (21, (.bool true)), (19, (ptr b3 0)), (3, (ptr b2 0)), (2, (ptr b1 0)), (0, (ptr u 0))] ?_
        refine C_region ?_
        refine Rv (ptr b2 1) w16 ?_
        refine S_load (run_load_one (H.blk 2) Try.underlying3 rfl rfl) rfl rfl rfl rfl rfl ?_
        refine Rv (.string kx2) w16 ?_
        refine Rw (.int .i64 (kx2.size : Int)) w16 (X_len_str rfl Try.underlying9 rfl) ?_
        refine Rw (.int .i64 (acc3 + (kx2.size : Int))) w16 (eq_int (by kernel_rfl) (wrap64_in (by omega) (by omega))) ?_
        refine Rv (ptr b2 1) w16 ?_
        refine S_store (H.blk 2) rfl rfl rfl rfl rfl (by kernel_rfl) rfl (Nat.le_of_ble_eq_true rfl) #[(.int .i64 (L.length : Int)), (.int .i64 (acc3 + (kx2.size : Int)))] rfl fun w17 u6 => ?_
        replace H := H.upd 2 u6
        refine wpR_nil ?_
        refine E_block_normal ?_
        replace H := H.pick 3
        replace H := H.pick 3
        replace H := H.pick 3
        replace H := H.pick 3
        refine E_then_mid fun aq4 ha3 => ⟨(lf2, acc3 + (kx2.size : Int)), ha3.sub ⟨rfl, rfl, rfl, rfl, rfl, rfl, rfl, rfl, rfl, rfl, rfl, trivial⟩, ⟨by omega, by omega, H⟩, ?_⟩
        have q9 := hp2.length_eq; simp at q9; (first | omega | (dsimp only; omega))
end Go.Proofs.Ytnmaehdklmgfmaa
