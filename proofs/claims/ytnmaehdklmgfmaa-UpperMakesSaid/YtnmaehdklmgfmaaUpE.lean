/- What further methods of layer 17 come to. (Printed by a program of mine.) -/
import Derived.Test.YtnmaehdklmgfmaaUpD
namespace Go.Proofs.Ytnmaehdklmgfmaa
open Go Go.RowKit Go.Lm
set_option linter.unusedVariables false in
set_option linter.unusedSimpArgs false in
set_option maxHeartbeats 4000000 in
set_option maxRecDepth 100000 in
theorem stat_no (u mb : Nat) (q1 q2 nx : Int) (L : List (Int × LNode)) (r : Int) (g w : World) (sees : Sees g w)  (hU : UpR Try.prog uty g w u q1 q2 mb nx L) (wf_r : (Lit.int .i64 r).wf = true) (hr : getK L r = none) : Ret Try.prog 12 #[(ptr u 0), (.int .i64 r)] w fun v w' => v = .tuple #[(.agg #[.int .i64 0, .int .i64 0, .int .i64 0, .int .i64 0, .int .i64 0, .int .i64 0]), .int .i64 1] ∧ Le w w' := by
  have H := SL.start sees
  refine enter (args := [(ptr u 0), (.int .i64 r)]) Try.func12 rfl rfl rfl ?_
  refine C_seq ?_
  refine C_region ?_
  refine S_alloc #[(.int .i64 0), (.int .i64 0), (.int .i64 0), (.int .i64 0), (.int .i64 0), (.int .i64 0)] (by kernel_rfl) rfl rfl rfl rfl fun b1 w1 n1 => ?_
  replace H := H.new n1
  refine Rv (.int .i64 0) w1 ?_
  refine wpR_nil ?_
  refine E_then_normal ?_
  refine C_seq ?_
  refine C_region ?_
  refine Rv (ptr u 0) w1 ?_
  refine Rv (.int .i64 r) w1 ?_
  refine Rc #[(ptr u 0), (.int .i64 r)] w1 (at_no u mb q1 q2 nx L r _ _ H.sees (hU.le H.toLe) wf_r hr) ?_
  rintro _ w2 ⟨rfl, l1⟩
  replace H := H.le l1
  refine Rv (.tuple #[(.pointer none), (.int .i64 1)]) w2 ?_
  refine Rv (.pointer none) w2 ?_
  refine Rv (.int .i64 1) w2 ?_
  refine Rv (.pointer none) w2 ?_
  refine Rv (.int .i64 1) w2 ?_
  refine wpR_nil ?_
  refine E_then_normal ?_
  refine C_seq ?_
  refine C_seq ?_
  refine Cs [(7, (.int .i64 1)), (6, (.pointer none)), (5, (.int .i64 0)), (4, (ptr b1 0)), (0, (ptr u 0)), (1, (.int .i64 r))] ?_
  refine C_region ?_
  refine Rv (.int .i64 1) w2 ?_
  refine Rv (.bool true) w2 ?_
  refine wpR_nil ?_
  refine E_then_normal ?_
  refine C_true rfl ?_
  refine C_seq ?_
  refine Cs [(15, (.bool true)), (7, (.int .i64 1)), (6, (.pointer none)), (5, (.int .i64 0)), (4, (ptr b1 0)), (0, (ptr u 0)), (1, (.int .i64 r))] ?_
  refine C_region ?_
  refine Rv (.agg #[(.int .i64 0), (.int .i64 0), (.int .i64 0), (.int .i64 0), (.int .i64 0), (.int .i64 0)]) w2 ?_
  refine Rv (.int .i64 1) w2 ?_
  refine S_store (H.blk 0) rfl rfl rfl rfl rfl (by kernel_rfl) rfl (Nat.le_of_ble_eq_true rfl) #[(.int .i64 0), (.int .i64 0), (.int .i64 0), (.int .i64 0), (.int .i64 0), (.int .i64 0)] rfl fun w3 u1 => ?_
  replace H := H.upd 0 u1
  refine Rv (.int .i64 1) w3 ?_
  refine wpR_nil ?_
  refine E_then_normal ?_
  refine C_ret ?_
  refine E_then_ret ?_
  refine E_ret (res_cell_tmp rfl rfl (run_load_row (H.blk 0) Try.underlying39 rfl (vs := [(.int .i64 0), (.int .i64 0), (.int .i64 0), (.int .i64 0), (.int .i64 0), (.int .i64 0)]) (by kernel_rfl) rfl) rfl) ⟨_, rfl, ?_⟩
  exact ⟨rfl, H.toLe⟩

set_option linter.unusedVariables false in
set_option linter.unusedSimpArgs false in
set_option maxHeartbeats 4000000 in
set_option maxRecDepth 100000 in
theorem stat_yes (u mb : Nat) (q1 q2 nx : Int) (L : List (Int × LNode)) (r : Int) (n : LNode) (g w : World) (sees : Sees g w)  (hU : UpR Try.prog uty g w u q1 q2 mb nx L) (wf_r : (Lit.int .i64 r).wf = true) (hr : getK L r = some n) (hb : n.data.length + n.target.size + n.ents.length ≤ 9223372036854775807) : Ret Try.prog 12 #[(ptr u 0), (.int .i64 r)] w fun v w' => v = .tuple #[(.agg #[.int .i64 n.kind, .int .i64 n.mode, .int .i64 n.uid, .int .i64 n.gid, .int .i64 n.links, .int .i64 (n.data.length + n.target.size + n.ents.length)]), .int .i64 0] ∧ Le w w' := by
  have H := SL.start sees
  obtain ⟨l1_n, l2_n, l3_n, l4_n⟩ := (hU.nodes _ _ hr).lens
  refine enter (args := [(ptr u 0), (.int .i64 r)]) Try.func12 rfl rfl rfl ?_
  refine C_seq ?_
  refine C_region ?_
  refine S_alloc #[(.int .i64 0), (.int .i64 0), (.int .i64 0), (.int .i64 0), (.int .i64 0), (.int .i64 0)] (by kernel_rfl) rfl rfl rfl rfl fun b1 w1 n1 => ?_
  replace H := H.new n1
  refine Rv (.int .i64 0) w1 ?_
  refine wpR_nil ?_
  refine E_then_normal ?_
  refine C_seq ?_
  refine C_region ?_
  refine Rv (ptr u 0) w1 ?_
  refine Rv (.int .i64 r) w1 ?_
  refine Rc #[(ptr u 0), (.int .i64 r)] w1 (at_yes u mb q1 q2 nx L r n _ _ H.sees (hU.le H.toLe) wf_r hr) ?_
  rintro _ w2 ⟨rfl, l1⟩
  replace H := H.le l1
  refine Rv (.tuple #[(ptr n.blk 0), (.int .i64 0)]) w2 ?_
  refine Rv (ptr n.blk 0) w2 ?_
  refine Rv (.int .i64 0) w2 ?_
  refine Rv (ptr n.blk 0) w2 ?_
  refine Rv (.int .i64 0) w2 ?_
  refine wpR_nil ?_
  refine E_then_normal ?_
  refine C_seq ?_
  refine C_seq ?_
  refine Cs [(7, (.int .i64 0)), (6, (ptr n.blk 0)), (5, (.int .i64 0)), (4, (ptr b1 0)), (0, (ptr u 0)), (1, (.int .i64 r))] ?_
  refine C_region ?_
  refine Rv (.int .i64 0) w2 ?_
  refine Rv (.bool false) w2 ?_
  refine wpR_nil ?_
  refine E_then_normal ?_
  refine C_false rfl ?_
  refine C_skip ?_
  refine E_then_normal ?_
  refine C_seq ?_
  refine Cs [(15, (.bool false)), (7, (.int .i64 0)), (6, (ptr n.blk 0)), (5, (.int .i64 0)), (4, (ptr b1 0)), (0, (ptr u 0)), (1, (.int .i64 r))] ?_
  refine C_drawT 33 [fun _ v => v = (ptr n.blk 0), fun _ v => v = (ptr n.blk 0), fun _ v => v = (ptr n.blk 0), fun _ v => v = (ptr n.blk 2), fun _ v => v = (.int .i64 n.kind), fun _ v => v = (ptr n.blk 0), fun _ v => v = (ptr n.blk 0), fun _ v => v = (ptr n.blk 0), fun _ v => v = (ptr n.blk 3), fun _ v => v = (.agg #[(.int .i64 n.mode), (.int .i64 n.uid), (.int .i64 n.gid)]), fun _ v => v = (ptr n.blk 0), fun _ v => v = (ptr n.blk 0), fun _ v => v = (ptr n.blk 12), fun _ v => v = (.int .i64 n.links), fun _ v => v = (ptr n.blk 0), fun _ v => v = (ptr n.blk 0), fun _ v => v = (ptr n.blk 0), fun _ v => v = (ptr n.blk 6), fun _ v => v = n.vd, fun _ v => v = (.int .i64 (n.data.length : Int)), fun _ v => v = (ptr n.blk 0), fun _ v => v = (ptr n.blk 0), fun _ v => v = (ptr n.blk 0), fun _ v => v = (ptr n.blk 7), fun _ v => v = (.string n.target), fun _ v => v = (.int .i64 (n.target.size : Int)), fun _ v => v = (.int .i64 ((n.data.length : Int) + (n.target.size : Int))), fun _ v => v = (ptr n.blk 0), fun _ v => v = (ptr n.blk 0), fun _ v => v = (ptr n.blk 10), fun _ v => v = n.vi, fun _ v => v = (.int .i64 (n.ents.length : Int)), fun _ v => v = (.int .i64 (((n.data.length : Int) + (n.target.size : Int)) + (n.ents.length : Int)))] (by kernel_rfl) (by kernel_rfl) (by kernel_rfl) (by kernel_rfl) ⟨stab_exact _, stab_exact _, stab_exact _, stab_exact _, stab_exact _, stab_exact _, stab_exact _, stab_exact _, stab_exact _, stab_exact _, stab_exact _, stab_exact _, stab_exact _, stab_exact _, stab_exact _, stab_exact _, stab_exact _, stab_exact _, stab_exact _, stab_exact _, stab_exact _, stab_exact _, stab_exact _, stab_exact _, stab_exact _, stab_exact _, stab_exact _, stab_exact _, stab_exact _, stab_exact _, stab_exact _, stab_exact _, stab_exact _, trivial⟩ ⟨?_, ?_, ?_, ?_, ?_, ?_, ?_, ?_, ?_, ?_, ?_, ?_, ?_, ?_, ?_, ?_, ?_, ?_, ?_, ?_, ?_, ?_, ?_, ?_, ?_, ?_, ?_, ?_, ?_, ?_, ?_, ?_, ?_, trivial⟩ ?_
  · intro aq wd ld hfd hdd
    have hfd := Fr.cast (s' := [(15, (.bool false)), (7, (.int .i64 0)), (6, (ptr n.blk 0)), (5, (.int .i64 0)), (4, (ptr b1 0)), (0, (ptr u 0)), (1, (.int .i64 r))]) hfd (by kernel_rfl)
    exact G_val (v := (ptr n.blk 0)) (w' := wd) hfd rfl (by kernel_rfl) (by kernel_rfl) (Le.refl _) rfl
  · intro aq wd ld hfd hdd
    have hfd := Fr.cast (s' := [(15, (.bool false)), (7, (.int .i64 0)), (6, (ptr n.blk 0)), (5, (.int .i64 0)), (4, (ptr b1 0)), (0, (ptr u 0)), (1, (.int .i64 r))]) hfd (by kernel_rfl)
    obtain ⟨e0, _⟩ := hdd
    have hfd := Fr.add (t := 18) (v := (ptr n.blk 0)) hfd e0
    exact G_val (v := (ptr n.blk 0)) (w' := wd) hfd rfl (by kernel_rfl) (by kernel_rfl) (Le.refl _) rfl
  · intro aq wd ld hfd hdd
    have hfd := Fr.cast (s' := [(15, (.bool false)), (7, (.int .i64 0)), (6, (ptr n.blk 0)), (5, (.int .i64 0)), (4, (ptr b1 0)), (0, (ptr u 0)), (1, (.int .i64 r))]) hfd (by kernel_rfl)
    obtain ⟨e1, _⟩ := hdd
    have hfd := Fr.add (t := 19) (v := (ptr n.blk 0)) hfd e1
    exact G_val (v := (ptr n.blk 0)) (w' := wd) hfd rfl (by kernel_rfl) (by kernel_rfl) (Le.refl _) rfl
  · intro aq wd ld hfd hdd
    have hfd := Fr.cast (s' := [(15, (.bool false)), (7, (.int .i64 0)), (6, (ptr n.blk 0)), (5, (.int .i64 0)), (4, (ptr b1 0)), (0, (ptr u 0)), (1, (.int .i64 r))]) hfd (by kernel_rfl)
    obtain ⟨e2, _⟩ := hdd
    have hfd := Fr.add (t := 20) (v := (ptr n.blk 0)) hfd e2
    exact G_val (v := (ptr n.blk 2)) (w' := wd) hfd rfl (by kernel_rfl) (by kernel_rfl) (Le.refl _) rfl
  · intro aq wd ld hfd hdd
    have hfd := Fr.cast (s' := [(15, (.bool false)), (7, (.int .i64 0)), (6, (ptr n.blk 0)), (5, (.int .i64 0)), (4, (ptr b1 0)), (0, (ptr u 0)), (1, (.int .i64 r))]) hfd (by kernel_rfl)
    obtain ⟨e3, _⟩ := hdd
    have hfd := Fr.add (t := 21) (v := (ptr n.blk 2)) hfd e3
    exact G_val hfd rfl (by kernel_rfl) (load_ev (run_load_one ((hU.le (H.le ld).toLe).nodes _ _ hr).blk Try.underlying3 rfl rfl) rfl rfl) (Le.refl _) rfl
  · intro aq wd ld hfd hdd
    have hfd := Fr.cast (s' := [(15, (.bool false)), (7, (.int .i64 0)), (6, (ptr n.blk 0)), (5, (.int .i64 0)), (4, (ptr b1 0)), (0, (ptr u 0)), (1, (.int .i64 r))]) hfd (by kernel_rfl)
    exact G_val (v := (ptr n.blk 0)) (w' := wd) hfd rfl (by kernel_rfl) (by kernel_rfl) (Le.refl _) rfl
  · intro aq wd ld hfd hdd
    have hfd := Fr.cast (s' := [(15, (.bool false)), (7, (.int .i64 0)), (6, (ptr n.blk 0)), (5, (.int .i64 0)), (4, (ptr b1 0)), (0, (ptr u 0)), (1, (.int .i64 r))]) hfd (by kernel_rfl)
    obtain ⟨e5, _⟩ := hdd
    have hfd := Fr.add (t := 23) (v := (ptr n.blk 0)) hfd e5
    exact G_val (v := (ptr n.blk 0)) (w' := wd) hfd rfl (by kernel_rfl) (by kernel_rfl) (Le.refl _) rfl
  · intro aq wd ld hfd hdd
    have hfd := Fr.cast (s' := [(15, (.bool false)), (7, (.int .i64 0)), (6, (ptr n.blk 0)), (5, (.int .i64 0)), (4, (ptr b1 0)), (0, (ptr u 0)), (1, (.int .i64 r))]) hfd (by kernel_rfl)
    obtain ⟨e6, _⟩ := hdd
    have hfd := Fr.add (t := 24) (v := (ptr n.blk 0)) hfd e6
    exact G_val (v := (ptr n.blk 0)) (w' := wd) hfd rfl (by kernel_rfl) (by kernel_rfl) (Le.refl _) rfl
  · intro aq wd ld hfd hdd
    have hfd := Fr.cast (s' := [(15, (.bool false)), (7, (.int .i64 0)), (6, (ptr n.blk 0)), (5, (.int .i64 0)), (4, (ptr b1 0)), (0, (ptr u 0)), (1, (.int .i64 r))]) hfd (by kernel_rfl)
    obtain ⟨e7, _⟩ := hdd
    have hfd := Fr.add (t := 25) (v := (ptr n.blk 0)) hfd e7
    exact G_val (v := (ptr n.blk 3)) (w' := wd) hfd rfl (by kernel_rfl) (by kernel_rfl) (Le.refl _) rfl
  · intro aq wd ld hfd hdd
    have hfd := Fr.cast (s' := [(15, (.bool false)), (7, (.int .i64 0)), (6, (ptr n.blk 0)), (5, (.int .i64 0)), (4, (ptr b1 0)), (0, (ptr u 0)), (1, (.int .i64 r))]) hfd (by kernel_rfl)
    obtain ⟨e8, _⟩ := hdd
    have hfd := Fr.add (t := 26) (v := (ptr n.blk 3)) hfd e8
    exact G_val hfd rfl (by kernel_rfl) (load_ev (run_load_row ((hU.le (H.le ld).toLe).nodes _ _ hr).blk Try.underlying24 rfl (vs := [(.int .i64 n.mode), (.int .i64 n.uid), (.int .i64 n.gid)]) (by kernel_rfl) rfl) rfl rfl) (Le.refl _) rfl
  · intro aq wd ld hfd hdd
    have hfd := Fr.cast (s' := [(15, (.bool false)), (7, (.int .i64 0)), (6, (ptr n.blk 0)), (5, (.int .i64 0)), (4, (ptr b1 0)), (0, (ptr u 0)), (1, (.int .i64 r))]) hfd (by kernel_rfl)
    exact G_val (v := (ptr n.blk 0)) (w' := wd) hfd rfl (by kernel_rfl) (by kernel_rfl) (Le.refl _) rfl
  · intro aq wd ld hfd hdd
    have hfd := Fr.cast (s' := [(15, (.bool false)), (7, (.int .i64 0)), (6, (ptr n.blk 0)), (5, (.int .i64 0)), (4, (ptr b1 0)), (0, (ptr u 0)), (1, (.int .i64 r))]) hfd (by kernel_rfl)
    obtain ⟨e10, _⟩ := hdd
    have hfd := Fr.add (t := 28) (v := (ptr n.blk 0)) hfd e10
    exact G_val (v := (ptr n.blk 0)) (w' := wd) hfd rfl (by kernel_rfl) (by kernel_rfl) (Le.refl _) rfl
  · intro aq wd ld hfd hdd
    have hfd := Fr.cast (s' := [(15, (.bool false)), (7, (.int .i64 0)), (6, (ptr n.blk 0)), (5, (.int .i64 0)), (4, (ptr b1 0)), (0, (ptr u 0)), (1, (.int .i64 r))]) hfd (by kernel_rfl)
    obtain ⟨e11, _⟩ := hdd
    have hfd := Fr.add (t := 29) (v := (ptr n.blk 0)) hfd e11
    exact G_val (v := (ptr n.blk 12)) (w' := wd) hfd rfl (by kernel_rfl) (by kernel_rfl) (Le.refl _) rfl
  · intro aq wd ld hfd hdd
    have hfd := Fr.cast (s' := [(15, (.bool false)), (7, (.int .i64 0)), (6, (ptr n.blk 0)), (5, (.int .i64 0)), (4, (ptr b1 0)), (0, (ptr u 0)), (1, (.int .i64 r))]) hfd (by kernel_rfl)
    obtain ⟨e12, _⟩ := hdd
    have hfd := Fr.add (t := 30) (v := (ptr n.blk 12)) hfd e12
    exact G_val hfd rfl (by kernel_rfl) (load_ev (run_load_one ((hU.le (H.le ld).toLe).nodes _ _ hr).blk Try.underlying3 rfl rfl) rfl rfl) (Le.refl _) rfl
  · intro aq wd ld hfd hdd
    have hfd := Fr.cast (s' := [(15, (.bool false)), (7, (.int .i64 0)), (6, (ptr n.blk 0)), (5, (.int .i64 0)), (4, (ptr b1 0)), (0, (ptr u 0)), (1, (.int .i64 r))]) hfd (by kernel_rfl)
    exact G_val (v := (ptr n.blk 0)) (w' := wd) hfd rfl (by kernel_rfl) (by kernel_rfl) (Le.refl _) rfl
  · intro aq wd ld hfd hdd
    have hfd := Fr.cast (s' := [(15, (.bool false)), (7, (.int .i64 0)), (6, (ptr n.blk 0)), (5, (.int .i64 0)), (4, (ptr b1 0)), (0, (ptr u 0)), (1, (.int .i64 r))]) hfd (by kernel_rfl)
    obtain ⟨e14, _⟩ := hdd
    have hfd := Fr.add (t := 32) (v := (ptr n.blk 0)) hfd e14
    exact G_val (v := (ptr n.blk 0)) (w' := wd) hfd rfl (by kernel_rfl) (by kernel_rfl) (Le.refl _) rfl
  · intro aq wd ld hfd hdd
    have hfd := Fr.cast (s' := [(15, (.bool false)), (7, (.int .i64 0)), (6, (ptr n.blk 0)), (5, (.int .i64 0)), (4, (ptr b1 0)), (0, (ptr u 0)), (1, (.int .i64 r))]) hfd (by kernel_rfl)
    obtain ⟨e15, _⟩ := hdd
    have hfd := Fr.add (t := 33) (v := (ptr n.blk 0)) hfd e15
    exact G_val (v := (ptr n.blk 0)) (w' := wd) hfd rfl (by kernel_rfl) (by kernel_rfl) (Le.refl _) rfl
  · intro aq wd ld hfd hdd
    have hfd := Fr.cast (s' := [(15, (.bool false)), (7, (.int .i64 0)), (6, (ptr n.blk 0)), (5, (.int .i64 0)), (4, (ptr b1 0)), (0, (ptr u 0)), (1, (.int .i64 r))]) hfd (by kernel_rfl)
    obtain ⟨e16, _⟩ := hdd
    have hfd := Fr.add (t := 34) (v := (ptr n.blk 0)) hfd e16
    exact G_val (v := (ptr n.blk 6)) (w' := wd) hfd rfl (by kernel_rfl) (by kernel_rfl) (Le.refl _) rfl
  · intro aq wd ld hfd hdd
    have hfd := Fr.cast (s' := [(15, (.bool false)), (7, (.int .i64 0)), (6, (ptr n.blk 0)), (5, (.int .i64 0)), (4, (ptr b1 0)), (0, (ptr u 0)), (1, (.int .i64 r))]) hfd (by kernel_rfl)
    obtain ⟨e17, _⟩ := hdd
    have hfd := Fr.add (t := 35) (v := (ptr n.blk 6)) hfd e17
    exact G_val hfd rfl (by kernel_rfl) (load_ev (run_load_one ((hU.le (H.le ld).toLe).nodes _ _ hr).blk Try.underlying25 rfl rfl) rfl rfl) (Le.refl _) rfl
  · intro aq wd ld hfd hdd
    have hfd := Fr.cast (s' := [(15, (.bool false)), (7, (.int .i64 0)), (6, (ptr n.blk 0)), (5, (.int .i64 0)), (4, (ptr b1 0)), (0, (ptr u 0)), (1, (.int .i64 r))]) hfd (by kernel_rfl)
    obtain ⟨e18, _⟩ := hdd
    have hfd := Fr.add (t := 36) (v := n.vd) hfd e18
    exact G_val (v := (.int .i64 (n.data.length : Int))) (w' := wd) hfd rfl (by kernel_rfl) (X_len ((((hU.le (H.le ld).toLe).nodes _ _ hr).data).mono (H.le ld).m) rfl Try.underlying25 rfl) (Le.refl _) rfl
  · intro aq wd ld hfd hdd
    have hfd := Fr.cast (s' := [(15, (.bool false)), (7, (.int .i64 0)), (6, (ptr n.blk 0)), (5, (.int .i64 0)), (4, (ptr b1 0)), (0, (ptr u 0)), (1, (.int .i64 r))]) hfd (by kernel_rfl)
    exact G_val (v := (ptr n.blk 0)) (w' := wd) hfd rfl (by kernel_rfl) (by kernel_rfl) (Le.refl _) rfl
  · intro aq wd ld hfd hdd
    have hfd := Fr.cast (s' := [(15, (.bool false)), (7, (.int .i64 0)), (6, (ptr n.blk 0)), (5, (.int .i64 0)), (4, (ptr b1 0)), (0, (ptr u 0)), (1, (.int .i64 r))]) hfd (by kernel_rfl)
    obtain ⟨e20, _⟩ := hdd
    have hfd := Fr.add (t := 38) (v := (ptr n.blk 0)) hfd e20
    exact G_val (v := (ptr n.blk 0)) (w' := wd) hfd rfl (by kernel_rfl) (by kernel_rfl) (Le.refl _) rfl
  · intro aq wd ld hfd hdd
    have hfd := Fr.cast (s' := [(15, (.bool false)), (7, (.int .i64 0)), (6, (ptr n.blk 0)), (5, (.int .i64 0)), (4, (ptr b1 0)), (0, (ptr u 0)), (1, (.int .i64 r))]) hfd (by kernel_rfl)
    obtain ⟨e21, _⟩ := hdd
    have hfd := Fr.add (t := 39) (v := (ptr n.blk 0)) hfd e21
    exact G_val (v := (ptr n.blk 0)) (w' := wd) hfd rfl (by kernel_rfl) (by kernel_rfl) (Le.refl _) rfl
  · intro aq wd ld hfd hdd
    have hfd := Fr.cast (s' := [(15, (.bool false)), (7, (.int .i64 0)), (6, (ptr n.blk 0)), (5, (.int .i64 0)), (4, (ptr b1 0)), (0, (ptr u 0)), (1, (.int .i64 r))]) hfd (by kernel_rfl)
    obtain ⟨e22, _⟩ := hdd
    have hfd := Fr.add (t := 40) (v := (ptr n.blk 0)) hfd e22
    exact G_val (v := (ptr n.blk 7)) (w' := wd) hfd rfl (by kernel_rfl) (by kernel_rfl) (Le.refl _) rfl
  · intro aq wd ld hfd hdd
    have hfd := Fr.cast (s' := [(15, (.bool false)), (7, (.int .i64 0)), (6, (ptr n.blk 0)), (5, (.int .i64 0)), (4, (ptr b1 0)), (0, (ptr u 0)), (1, (.int .i64 r))]) hfd (by kernel_rfl)
    obtain ⟨e23, _⟩ := hdd
    have hfd := Fr.add (t := 41) (v := (ptr n.blk 7)) hfd e23
    exact G_val hfd rfl (by kernel_rfl) (load_ev (run_load_one ((hU.le (H.le ld).toLe).nodes _ _ hr).blk Try.underlying9 rfl rfl) rfl rfl) (Le.refl _) rfl
  · intro aq wd ld hfd hdd
    have hfd := Fr.cast (s' := [(15, (.bool false)), (7, (.int .i64 0)), (6, (ptr n.blk 0)), (5, (.int .i64 0)), (4, (ptr b1 0)), (0, (ptr u 0)), (1, (.int .i64 r))]) hfd (by kernel_rfl)
    obtain ⟨e24, _⟩ := hdd
    have hfd := Fr.add (t := 42) (v := (.string n.target)) hfd e24
    exact G_val (v := (.int .i64 (n.target.size : Int))) (w' := wd) hfd rfl (by kernel_rfl) (X_len_str rfl Try.underlying9 rfl) (Le.refl _) rfl
  · intro aq wd ld hfd hdd
    have hfd := Fr.cast (s' := [(15, (.bool false)), (7, (.int .i64 0)), (6, (ptr n.blk 0)), (5, (.int .i64 0)), (4, (ptr b1 0)), (0, (ptr u 0)), (1, (.int .i64 r))]) hfd (by kernel_rfl)
    obtain ⟨e19, e25, _⟩ := hdd
    have hfd := Fr.add (t := 37) (v := (.int .i64 (n.data.length : Int))) hfd e19
    have hfd := Fr.add (t := 43) (v := (.int .i64 (n.target.size : Int))) hfd e25
    exact G_val (v := (.int .i64 ((n.data.length : Int) + (n.target.size : Int)))) (w' := wd) hfd rfl (by kernel_rfl) (eq_int (by kernel_rfl) (wrap64_in (by omega) (by omega))) (Le.refl _) rfl
  · intro aq wd ld hfd hdd
    have hfd := Fr.cast (s' := [(15, (.bool false)), (7, (.int .i64 0)), (6, (ptr n.blk 0)), (5, (.int .i64 0)), (4, (ptr b1 0)), (0, (ptr u 0)), (1, (.int .i64 r))]) hfd (by kernel_rfl)
    exact G_val (v := (ptr n.blk 0)) (w' := wd) hfd rfl (by kernel_rfl) (by kernel_rfl) (Le.refl _) rfl
  · intro aq wd ld hfd hdd
    have hfd := Fr.cast (s' := [(15, (.bool false)), (7, (.int .i64 0)), (6, (ptr n.blk 0)), (5, (.int .i64 0)), (4, (ptr b1 0)), (0, (ptr u 0)), (1, (.int .i64 r))]) hfd (by kernel_rfl)
    obtain ⟨e27, _⟩ := hdd
    have hfd := Fr.add (t := 45) (v := (ptr n.blk 0)) hfd e27
    exact G_val (v := (ptr n.blk 0)) (w' := wd) hfd rfl (by kernel_rfl) (by kernel_rfl) (Le.refl _) rfl
  · intro aq wd ld hfd hdd
    have hfd := Fr.cast (s' := [(15, (.bool false)), (7, (.int .i64 0)), (6, (ptr n.blk 0)), (5, (.int .i64 0)), (4, (ptr b1 0)), (0, (ptr u 0)), (1, (.int .i64 r))]) hfd (by kernel_rfl)
    obtain ⟨e28, _⟩ := hdd
    have hfd := Fr.add (t := 46) (v := (ptr n.blk 0)) hfd e28
    exact G_val (v := (ptr n.blk 10)) (w' := wd) hfd rfl (by kernel_rfl) (by kernel_rfl) (Le.refl _) rfl
  · intro aq wd ld hfd hdd
    have hfd := Fr.cast (s' := [(15, (.bool false)), (7, (.int .i64 0)), (6, (ptr n.blk 0)), (5, (.int .i64 0)), (4, (ptr b1 0)), (0, (ptr u 0)), (1, (.int .i64 r))]) hfd (by kernel_rfl)
    obtain ⟨e29, _⟩ := hdd
    have hfd := Fr.add (t := 47) (v := (ptr n.blk 10)) hfd e29
    exact G_val hfd rfl (by kernel_rfl) (load_ev (run_load_one ((hU.le (H.le ld).toLe).nodes _ _ hr).blk Try.underlying80 rfl rfl) rfl rfl) (Le.refl _) rfl
  · intro aq wd ld hfd hdd
    have hfd := Fr.cast (s' := [(15, (.bool false)), (7, (.int .i64 0)), (6, (ptr n.blk 0)), (5, (.int .i64 0)), (4, (ptr b1 0)), (0, (ptr u 0)), (1, (.int .i64 r))]) hfd (by kernel_rfl)
    obtain ⟨e30, _⟩ := hdd
    have hfd := Fr.add (t := 48) (v := n.vi) hfd e30
    exact G_val (v := (.int .i64 (n.ents.length : Int))) (w' := wd) hfd rfl (by kernel_rfl) (X_len_map (((hU.le (H.le ld).toLe).nodes _ _ hr).ents) (by first | (unfold entsV; exact List.length_map ..) | (unfold ptrsV; exact List.length_map ..)) rfl Try.underlying80 rfl) (Le.refl _) rfl
  · intro aq wd ld hfd hdd
    have hfd := Fr.cast (s' := [(15, (.bool false)), (7, (.int .i64 0)), (6, (ptr n.blk 0)), (5, (.int .i64 0)), (4, (ptr b1 0)), (0, (ptr u 0)), (1, (.int .i64 r))]) hfd (by kernel_rfl)
    obtain ⟨e26, e31, _⟩ := hdd
    have hfd := Fr.add (t := 44) (v := (.int .i64 ((n.data.length : Int) + (n.target.size : Int)))) hfd e26
    have hfd := Fr.add (t := 49) (v := (.int .i64 (n.ents.length : Int))) hfd e31
    exact G_val (v := (.int .i64 (((n.data.length : Int) + (n.target.size : Int)) + (n.ents.length : Int)))) (w' := wd) hfd rfl (by kernel_rfl) (eq_int (by kernel_rfl) (wrap64_in (by omega) (by omega))) (Le.refl _) rfl
  intro aq1 w3 l2 hf1 fa1
  obtain ⟨_, _, _, _, qv1, _, _, _, _, qv2, _, _, _, qv3, _, _, _, _, _, _, _, _, _, _, _, _, _, _, _, _, _, _, qv4, _⟩ := fa1
  have hf1 := Fr.cast (s' := [(15, (.bool false)), (7, (.int .i64 0)), (6, (ptr n.blk 0)), (5, (.int .i64 0)), (4, (ptr b1 0)), (0, (ptr u 0)), (1, (.int .i64 r))]) hf1 (by kernel_rfl)
  have hf1 := Fr.add (t := 22) (v := (.int .i64 n.kind)) hf1 qv1
  have hf1 := Fr.add (t := 27) (v := (.agg #[(.int .i64 n.mode), (.int .i64 n.uid), (.int .i64 n.gid)])) hf1 qv2
  have hf1 := Fr.add (t := 31) (v := (.int .i64 n.links)) hf1 qv3
  have hf1 := Fr.add (t := 50) (v := (.int .i64 (((n.data.length : Int) + (n.target.size : Int)) + (n.ents.length : Int)))) hf1 qv4
  replace H := H.le l2
  refine (?_ : wpR _ _ _ _ [(50, (.int .i64 (((n.data.length : Int) + (n.target.size : Int)) + (n.ents.length : Int)))), (31, (.int .i64 n.links)), (27, (.agg #[(.int .i64 n.mode), (.int .i64 n.uid), (.int .i64 n.gid)])), (22, (.int .i64 n.kind)), (15, (.bool false)), (7, (.int .i64 0)), (6, (ptr n.blk 0)), (5, (.int .i64 0)), (4, (ptr b1 0)), (0, (ptr u 0)), (1, (.int .i64 r))] _ _) aq1 (hf1.sub ⟨rfl, rfl, rfl, rfl, rfl, rfl, rfl, rfl, rfl, rfl, rfl, trivial⟩)
  refine Rv (.agg #[(.int .i64 n.kind), (.int .i64 n.mode), (.int .i64 n.uid), (.int .i64 n.gid), (.int .i64 n.links), (.int .i64 (((n.data.length : Int) + (n.target.size : Int)) + (n.ents.length : Int)))]) w3 ?_
  refine S_store (H.blk 0) rfl rfl rfl rfl rfl (by kernel_rfl) rfl (Nat.le_of_ble_eq_true rfl) #[(.int .i64 n.kind), (.int .i64 n.mode), (.int .i64 n.uid), (.int .i64 n.gid), (.int .i64 n.links), (.int .i64 (((n.data.length : Int) + (n.target.size : Int)) + (n.ents.length : Int)))] rfl fun w4 u1 => ?_
  replace H := H.upd 0 u1
  refine Rv (.int .i64 0) w4 ?_
  refine wpR_nil ?_
  refine E_then_normal ?_
  refine C_ret ?_
  refine E_ret (res_cell_tmp rfl rfl (run_load_row (H.blk 0) Try.underlying39 rfl (vs := [(.int .i64 n.kind), (.int .i64 n.mode), (.int .i64 n.uid), (.int .i64 n.gid), (.int .i64 n.links), (.int .i64 (((n.data.length : Int) + (n.target.size : Int)) + (n.ents.length : Int)))]) (by kernel_rfl) rfl) rfl) ⟨_, rfl, ?_⟩
  exact ⟨rfl, H.toLe⟩

set_option linter.unusedVariables false in
set_option linter.unusedSimpArgs false in
set_option maxHeartbeats 4000000 in
set_option maxRecDepth 100000 in
theorem entry_any (u mb : Nat) (q1 q2 nx : Int) (L : List (Int × LNode)) (s : ByteArray) (r : Int) (n : LNode) (g w : World) (sees : Sees g w)  (hU : UpR Try.prog uty g w u q1 q2 mb nx L) (wf_r : (Lit.int .i64 r).wf = true) (hr : getK L r = some n) : Ret Try.prog 41 #[(ptr u 0), (.string s), (.int .i64 r)] w fun v w' => v = .agg #[.string s, .int .i64 n.kind, .int .i64 r] ∧ Le w w' := by
  have H := SL.start sees
  obtain ⟨l1_n, l2_n, l3_n, l4_n⟩ := (hU.nodes _ _ hr).lens
  refine enter (args := [(ptr u 0), (.string s), (.int .i64 r)]) Try.func41 rfl rfl rfl ?_
  refine C_seq ?_
  refine C_region ?_
  refine S_alloc #[(.string (⟨#[]⟩)), (.int .i64 0), (.int .i64 0)] (by kernel_rfl) rfl rfl rfl rfl fun b1 w1 n1 => ?_
  replace H := H.new n1
  refine wpR_nil ?_
  refine E_then_normal ?_
  refine C_seq ?_
  refine C_region ?_
  refine Rv (.string s) w1 ?_
  refine Rv (ptr u 0) w1 ?_
  refine Rv (ptr u 0) w1 ?_
  refine Rv (ptr u 2) w1 ?_
  refine S_load (run_load_one (hU.le H.toLe).ublk Try.underlying83 rfl rfl) rfl rfl rfl rfl rfl ?_
  refine Rv (.int .i64 r) w1 ?_
  refine Rw (ptr n.blk 0) w1 (X_lookup rfl rfl rfl (by have hl := MapV.look false (hU.le H.toLe).map kI Try.underlying83 (z := (.pointer none)) (by kernel_rfl) r wf_r; rw [getK_ptrs, hr] at hl; exact hl)) ?_
  refine Rv (ptr n.blk 0) w1 ?_
  refine Rv (ptr n.blk 0) w1 ?_
  refine Rv (ptr n.blk 2) w1 ?_
  refine S_load (run_load_one ((hU.le H.toLe).nodes _ _ hr).blk Try.underlying3 rfl rfl) rfl rfl rfl rfl rfl ?_
  refine Rv (.int .i64 r) w1 ?_
  refine Rv (.agg #[(.string s), (.int .i64 n.kind), (.int .i64 r)]) w1 ?_
  refine S_store (H.blk 0) rfl rfl rfl rfl rfl (by kernel_rfl) rfl (Nat.le_of_ble_eq_true rfl) #[(.string s), (.int .i64 n.kind), (.int .i64 r)] rfl fun w2 u1 => ?_
  replace H := H.upd 0 u1
  refine wpR_nil ?_
  refine E_then_normal ?_
  refine C_ret ?_
  refine E_ret (res_cell rfl rfl (run_load_row (H.blk 0) Try.underlying60 rfl (vs := [(.string s), (.int .i64 n.kind), (.int .i64 r)]) (by kernel_rfl) rfl)) ⟨_, rfl, ?_⟩
  exact ⟨rfl, H.toLe⟩

set_option linter.unusedVariables false in
set_option linter.unusedSimpArgs false in
set_option maxHeartbeats 4000000 in
set_option maxRecDepth 100000 in
theorem look_no (u mb : Nat) (q1 q2 nx : Int) (L : List (Int × LNode)) (r : Int) (s : ByteArray) (g w : World) (sees : Sees g w)  (hU : UpR Try.prog uty g w u q1 q2 mb nx L) (wf_r : (Lit.int .i64 r).wf = true) (hs : s.size ≤ 9223372036854775807) (hr : getK L r = none) : Ret Try.prog 22 #[(ptr u 0), (.int .i64 r), (.string s)] w fun v w' => v = .tuple #[(.agg #[.string ⟨#[]⟩, .int .i64 0, .int .i64 0]), .int .i64 1] ∧ Le w w' := by
  have H := SL.start sees
  refine enter (args := [(ptr u 0), (.int .i64 r), (.string s)]) Try.func22 rfl rfl rfl ?_
  refine C_seq ?_
  refine C_region ?_
  refine S_alloc #[(.string (⟨#[]⟩)), (.int .i64 0), (.int .i64 0)] (by kernel_rfl) rfl rfl rfl rfl fun b1 w1 n1 => ?_
  replace H := H.new n1
  refine Rv (.int .i64 0) w1 ?_
  refine wpR_nil ?_
  refine E_then_normal ?_
  refine C_seq ?_
  refine C_region ?_
  refine Rv (ptr u 0) w1 ?_
  refine Rv (.int .i64 r) w1 ?_
  refine Rc #[(ptr u 0), (.int .i64 r)] w1 (dir_no u mb q1 q2 nx L r _ _ H.sees (hU.le H.toLe) wf_r hr ) ?_
  rintro _ w2 ⟨rfl, l1⟩
  replace H := H.le l1
  refine Rv (.tuple #[(.pointer none), (.int .i64 1)]) w2 ?_
  refine Rv (.pointer none) w2 ?_
  refine Rv (.int .i64 1) w2 ?_
  refine Rv (.pointer none) w2 ?_
  refine Rv (.int .i64 1) w2 ?_
  refine wpR_nil ?_
  refine E_then_normal ?_
  refine C_seq ?_
  refine C_seq ?_
  refine Cs [(9, (.int .i64 1)), (8, (.pointer none)), (7, (.int .i64 0)), (6, (ptr b1 0)), (0, (ptr u 0)), (1, (.int .i64 r)), (2, (.string s))] ?_
  refine C_region ?_
  refine Rv (.int .i64 1) w2 ?_
  refine Rv (.bool true) w2 ?_
  refine wpR_nil ?_
  refine E_then_normal ?_
  refine C_true rfl ?_
  refine C_seq ?_
  refine Cs [(19, (.bool true)), (9, (.int .i64 1)), (8, (.pointer none)), (7, (.int .i64 0)), (6, (ptr b1 0)), (0, (ptr u 0)), (1, (.int .i64 r)), (2, (.string s))] ?_
  refine C_region ?_
  refine Rv (.agg #[(.string (⟨#[]⟩)), (.int .i64 0), (.int .i64 0)]) w2 ?_
  refine Rv (.int .i64 1) w2 ?_
  refine S_store (H.blk 0) rfl rfl rfl rfl rfl (by kernel_rfl) rfl (Nat.le_of_ble_eq_true rfl) #[(.string (⟨#[]⟩)), (.int .i64 0), (.int .i64 0)] rfl fun w3 u1 => ?_
  replace H := H.upd 0 u1
  refine Rv (.int .i64 1) w3 ?_
  refine wpR_nil ?_
  refine E_then_normal ?_
  refine C_ret ?_
  refine E_then_ret ?_
  refine E_ret (res_cell_tmp rfl rfl (run_load_row (H.blk 0) Try.underlying60 rfl (vs := [(.string (⟨#[]⟩)), (.int .i64 0), (.int .i64 0)]) (by kernel_rfl) rfl) rfl) ⟨_, rfl, ?_⟩
  exact ⟨rfl, H.toLe⟩

set_option linter.unusedVariables false in
set_option linter.unusedSimpArgs false in
set_option maxHeartbeats 4000000 in
set_option maxRecDepth 100000 in
theorem look_bad (u mb : Nat) (q1 q2 nx : Int) (L : List (Int × LNode)) (r : Int) (s : ByteArray) (n : LNode) (g w : World) (sees : Sees g w)  (hU : UpR Try.prog uty g w u q1 q2 mb nx L) (wf_r : (Lit.int .i64 r).wf = true) (hs : s.size ≤ 9223372036854775807) (hr : getK L r = some n) (hk : (n.kind == 1) = false) : Ret Try.prog 22 #[(ptr u 0), (.int .i64 r), (.string s)] w fun v w' => v = .tuple #[(.agg #[.string ⟨#[]⟩, .int .i64 0, .int .i64 0]), .int .i64 24] ∧ Le w w' := by
  have H := SL.start sees
  obtain ⟨l1_n, l2_n, l3_n, l4_n⟩ := (hU.nodes _ _ hr).lens
  refine enter (args := [(ptr u 0), (.int .i64 r), (.string s)]) Try.func22 rfl rfl rfl ?_
  refine C_seq ?_
  refine C_region ?_
  refine S_alloc #[(.string (⟨#[]⟩)), (.int .i64 0), (.int .i64 0)] (by kernel_rfl) rfl rfl rfl rfl fun b1 w1 n1 => ?_
  replace H := H.new n1
  refine Rv (.int .i64 0) w1 ?_
  refine wpR_nil ?_
  refine E_then_normal ?_
  refine C_seq ?_
  refine C_region ?_
  refine Rv (ptr u 0) w1 ?_
  refine Rv (.int .i64 r) w1 ?_
  refine Rc #[(ptr u 0), (.int .i64 r)] w1 (dir_bad u mb q1 q2 nx L r n _ _ H.sees (hU.le H.toLe) wf_r hr hk) ?_
  rintro _ w2 ⟨rfl, l1⟩
  replace H := H.le l1
  refine Rv (.tuple #[(ptr n.blk 0), (.int .i64 24)]) w2 ?_
  refine Rv (ptr n.blk 0) w2 ?_
  refine Rv (.int .i64 24) w2 ?_
  refine Rv (ptr n.blk 0) w2 ?_
  refine Rv (.int .i64 24) w2 ?_
  refine wpR_nil ?_
  refine E_then_normal ?_
  refine C_seq ?_
  refine C_seq ?_
  refine Cs [(9, (.int .i64 24)), (8, (ptr n.blk 0)), (7, (.int .i64 0)), (6, (ptr b1 0)), (0, (ptr u 0)), (1, (.int .i64 r)), (2, (.string s))] ?_
  refine C_region ?_
  refine Rv (.int .i64 24) w2 ?_
  refine Rv (.bool true) w2 ?_
  refine wpR_nil ?_
  refine E_then_normal ?_
  refine C_true rfl ?_
  refine C_seq ?_
  refine Cs [(19, (.bool true)), (9, (.int .i64 24)), (8, (ptr n.blk 0)), (7, (.int .i64 0)), (6, (ptr b1 0)), (0, (ptr u 0)), (1, (.int .i64 r)), (2, (.string s))] ?_
  refine C_region ?_
  refine Rv (.agg #[(.string (⟨#[]⟩)), (.int .i64 0), (.int .i64 0)]) w2 ?_
  refine Rv (.int .i64 24) w2 ?_
  refine S_store (H.blk 0) rfl rfl rfl rfl rfl (by kernel_rfl) rfl (Nat.le_of_ble_eq_true rfl) #[(.string (⟨#[]⟩)), (.int .i64 0), (.int .i64 0)] rfl fun w3 u1 => ?_
  replace H := H.upd 0 u1
  refine Rv (.int .i64 24) w3 ?_
  refine wpR_nil ?_
  refine E_then_normal ?_
  refine C_ret ?_
  refine E_then_ret ?_
  refine E_ret (res_cell_tmp rfl rfl (run_load_row (H.blk 0) Try.underlying60 rfl (vs := [(.string (⟨#[]⟩)), (.int .i64 0), (.int .i64 0)]) (by kernel_rfl) rfl) rfl) ⟨_, rfl, ?_⟩
  exact ⟨rfl, H.toLe⟩

set_option linter.unusedVariables false in
set_option linter.unusedSimpArgs false in
set_option maxHeartbeats 4000000 in
set_option maxRecDepth 100000 in
theorem look_none (u mb : Nat) (q1 q2 nx : Int) (L : List (Int × LNode)) (r : Int) (s : ByteArray) (n : LNode) (g w : World) (sees : Sees g w)  (hU : UpR Try.prog uty g w u q1 q2 mb nx L) (wf_r : (Lit.int .i64 r).wf = true) (hs : s.size ≤ 9223372036854775807) (hr : getK L r = some n) (hk : (n.kind == 1) = true) (hs0 : getK n.ents s = none) : Ret Try.prog 22 #[(ptr u 0), (.int .i64 r), (.string s)] w fun v w' => v = .tuple #[(.agg #[.string ⟨#[]⟩, .int .i64 0, .int .i64 0]), .int .i64 20] ∧ Le w w' := by
  have H := SL.start sees
  obtain ⟨l1_n, l2_n, l3_n, l4_n⟩ := (hU.nodes _ _ hr).lens
  refine enter (args := [(ptr u 0), (.int .i64 r), (.string s)]) Try.func22 rfl rfl rfl ?_
  refine C_seq ?_
  refine C_region ?_
  refine S_alloc #[(.string (⟨#[]⟩)), (.int .i64 0), (.int .i64 0)] (by kernel_rfl) rfl rfl rfl rfl fun b1 w1 n1 => ?_
  replace H := H.new n1
  refine Rv (.int .i64 0) w1 ?_
  refine wpR_nil ?_
  refine E_then_normal ?_
  refine C_seq ?_
  refine C_region ?_
  refine Rv (ptr u 0) w1 ?_
  refine Rv (.int .i64 r) w1 ?_
  refine Rc #[(ptr u 0), (.int .i64 r)] w1 (dir_yes u mb q1 q2 nx L r n _ _ H.sees (hU.le H.toLe) wf_r hr hk) ?_
  rintro _ w2 ⟨rfl, l1⟩
  replace H := H.le l1
  refine Rv (.tuple #[(ptr n.blk 0), (.int .i64 0)]) w2 ?_
  refine Rv (ptr n.blk 0) w2 ?_
  refine Rv (.int .i64 0) w2 ?_
  refine Rv (ptr n.blk 0) w2 ?_
  refine Rv (.int .i64 0) w2 ?_
  refine wpR_nil ?_
  refine E_then_normal ?_
  refine C_seq ?_
  refine C_seq ?_
  refine Cs [(9, (.int .i64 0)), (8, (ptr n.blk 0)), (7, (.int .i64 0)), (6, (ptr b1 0)), (0, (ptr u 0)), (1, (.int .i64 r)), (2, (.string s))] ?_
  refine C_region ?_
  refine Rv (.int .i64 0) w2 ?_
  refine Rv (.bool false) w2 ?_
  refine wpR_nil ?_
  refine E_then_normal ?_
  refine C_false rfl ?_
  refine C_skip ?_
  refine E_then_normal ?_
  refine C_seq ?_
  refine Cs [(19, (.bool false)), (9, (.int .i64 0)), (8, (ptr n.blk 0)), (7, (.int .i64 0)), (6, (ptr b1 0)), (0, (ptr u 0)), (1, (.int .i64 r)), (2, (.string s))] ?_
  refine C_region ?_
  refine Rv (ptr n.blk 0) w2 ?_
  refine Rv (ptr n.blk 0) w2 ?_
  refine Rv (ptr n.blk 10) w2 ?_
  refine S_load (run_load_one ((hU.le H.toLe).nodes _ _ hr).blk Try.underlying80 rfl rfl) rfl rfl rfl rfl rfl ?_
  refine Rv (.string s) w2 ?_
  refine Rw (.tuple #[(.int .i64 0), (.bool false)]) w2 (X_lookup rfl rfl rfl (by have hl := MapV.look true ((hU.le H.toLe).nodes _ _ hr).ents kS Try.underlying80 (z := (.int .i64 0)) (by kernel_rfl) s (sz_ok (by omega)); rw [getK_ents, hs0] at hl; exact hl)) ?_
  refine Rv (.tuple #[(.int .i64 0), (.bool false)]) w2 ?_
  refine Rv (.int .i64 0) w2 ?_
  refine Rv (.bool false) w2 ?_
  refine Rv (.int .i64 0) w2 ?_
  refine Rv (.bool false) w2 ?_
  refine wpR_nil ?_
  refine E_then_normal ?_
  refine C_seq ?_
  refine C_seq ?_
  refine Cs [(11, (.bool false)), (10, (.int .i64 0)), (19, (.bool false)), (9, (.int .i64 0)), (8, (ptr n.blk 0)), (7, (.int .i64 0)), (6, (ptr b1 0)), (0, (ptr u 0)), (1, (.int .i64 r)), (2, (.string s))] ?_
  refine C_region ?_
  refine Rv (.bool false) w2 ?_
  refine Rv (.bool true) w2 ?_
  refine wpR_nil ?_
  refine E_then_normal ?_
  refine C_true rfl ?_
  refine C_seq ?_
  refine Cs [(32, (.bool true)), (11, (.bool false)), (10, (.int .i64 0)), (19, (.bool false)), (9, (.int .i64 0)), (8, (ptr n.blk 0)), (7, (.int .i64 0)), (6, (ptr b1 0)), (0, (ptr u 0)), (1, (.int .i64 r)), (2, (.string s))] ?_
  refine C_region ?_
  refine Rv (.agg #[(.string (⟨#[]⟩)), (.int .i64 0), (.int .i64 0)]) w2 ?_
  refine S_store (H.blk 0) rfl rfl rfl rfl rfl (by kernel_rfl) rfl (Nat.le_of_ble_eq_true rfl) #[(.string (⟨#[]⟩)), (.int .i64 0), (.int .i64 0)] rfl fun w3 u1 => ?_
  replace H := H.upd 0 u1
  refine Rv (.int .i64 20) w3 ?_
  refine wpR_nil ?_
  refine E_then_normal ?_
  refine C_ret ?_
  refine E_then_ret ?_
  refine E_ret (res_cell_tmp rfl rfl (run_load_row (H.blk 0) Try.underlying60 rfl (vs := [(.string (⟨#[]⟩)), (.int .i64 0), (.int .i64 0)]) (by kernel_rfl) rfl) rfl) ⟨_, rfl, ?_⟩
  exact ⟨rfl, H.toLe⟩

set_option linter.unusedVariables false in
set_option linter.unusedSimpArgs false in
set_option maxHeartbeats 4000000 in
set_option maxRecDepth 100000 in
theorem look_yes (u mb : Nat) (q1 q2 nx : Int) (L : List (Int × LNode)) (r : Int) (s : ByteArray) (n : LNode) (x : Int) (m : LNode) (g w : World) (sees : Sees g w)  (hU : UpR Try.prog uty g w u q1 q2 mb nx L) (wf_r : (Lit.int .i64 r).wf = true) (wf_x : (Lit.int .i64 x).wf = true) (hs : s.size ≤ 9223372036854775807) (hr : getK L r = some n) (hk : (n.kind == 1) = true) (hs0 : getK n.ents s = some x) (hx : getK L x = some m) : Ret Try.prog 22 #[(ptr u 0), (.int .i64 r), (.string s)] w fun v w' => v = .tuple #[(.agg #[.string s, .int .i64 m.kind, .int .i64 x]), .int .i64 0] ∧ Le w w' := by
  have H := SL.start sees
  obtain ⟨l1_n, l2_n, l3_n, l4_n⟩ := (hU.nodes _ _ hr).lens
  refine enter (args := [(ptr u 0), (.int .i64 r), (.string s)]) Try.func22 rfl rfl rfl ?_
  refine C_seq ?_
  refine C_region ?_
  refine S_alloc #[(.string (⟨#[]⟩)), (.int .i64 0), (.int .i64 0)] (by kernel_rfl) rfl rfl rfl rfl fun b1 w1 n1 => ?_
  replace H := H.new n1
  refine Rv (.int .i64 0) w1 ?_
  refine wpR_nil ?_
  refine E_then_normal ?_
  refine C_seq ?_
  refine C_region ?_
  refine Rv (ptr u 0) w1 ?_
  refine Rv (.int .i64 r) w1 ?_
  refine Rc #[(ptr u 0), (.int .i64 r)] w1 (dir_yes u mb q1 q2 nx L r n _ _ H.sees (hU.le H.toLe) wf_r hr hk) ?_
  rintro _ w2 ⟨rfl, l1⟩
  replace H := H.le l1
  refine Rv (.tuple #[(ptr n.blk 0), (.int .i64 0)]) w2 ?_
  refine Rv (ptr n.blk 0) w2 ?_
  refine Rv (.int .i64 0) w2 ?_
  refine Rv (ptr n.blk 0) w2 ?_
  refine Rv (.int .i64 0) w2 ?_
  refine wpR_nil ?_
  refine E_then_normal ?_
  refine C_seq ?_
  refine C_seq ?_
  refine Cs [(9, (.int .i64 0)), (8, (ptr n.blk 0)), (7, (.int .i64 0)), (6, (ptr b1 0)), (0, (ptr u 0)), (1, (.int .i64 r)), (2, (.string s))] ?_
  refine C_region ?_
  refine Rv (.int .i64 0) w2 ?_
  refine Rv (.bool false) w2 ?_
  refine wpR_nil ?_
  refine E_then_normal ?_
  refine C_false rfl ?_
  refine C_skip ?_
  refine E_then_normal ?_
  refine C_seq ?_
  refine Cs [(19, (.bool false)), (9, (.int .i64 0)), (8, (ptr n.blk 0)), (7, (.int .i64 0)), (6, (ptr b1 0)), (0, (ptr u 0)), (1, (.int .i64 r)), (2, (.string s))] ?_
  refine C_region ?_
  refine Rv (ptr n.blk 0) w2 ?_
  refine Rv (ptr n.blk 0) w2 ?_
  refine Rv (ptr n.blk 10) w2 ?_
  refine S_load (run_load_one ((hU.le H.toLe).nodes _ _ hr).blk Try.underlying80 rfl rfl) rfl rfl rfl rfl rfl ?_
  refine Rv (.string s) w2 ?_
  refine Rw (.tuple #[(.int .i64 x), (.bool true)]) w2 (X_lookup rfl rfl rfl (by have hl := MapV.look true ((hU.le H.toLe).nodes _ _ hr).ents kS Try.underlying80 (z := (.int .i64 0)) (by kernel_rfl) s (sz_ok (by omega)); rw [getK_ents, hs0] at hl; exact hl)) ?_
  refine Rv (.tuple #[(.int .i64 x), (.bool true)]) w2 ?_
  refine Rv (.int .i64 x) w2 ?_
  refine Rv (.bool true) w2 ?_
  refine Rv (.int .i64 x) w2 ?_
  refine Rv (.bool true) w2 ?_
  refine wpR_nil ?_
  refine E_then_normal ?_
  refine C_seq ?_
  refine C_seq ?_
  refine Cs [(11, (.bool true)), (10, (.int .i64 x)), (19, (.bool false)), (9, (.int .i64 0)), (8, (ptr n.blk 0)), (7, (.int .i64 0)), (6, (ptr b1 0)), (0, (ptr u 0)), (1, (.int .i64 r)), (2, (.string s))] ?_
  refine C_region ?_
  refine Rv (.bool true) w2 ?_
  refine Rv (.bool false) w2 ?_
  refine wpR_nil ?_
  refine E_then_normal ?_
  refine C_false rfl ?_
  refine C_skip ?_
  refine E_then_normal ?_
  refine C_seq ?_
  refine Cs [(32, (.bool false)), (11, (.bool true)), (10, (.int .i64 x)), (19, (.bool false)), (9, (.int .i64 0)), (8, (ptr n.blk 0)), (7, (.int .i64 0)), (6, (ptr b1 0)), (0, (ptr u 0)), (1, (.int .i64 r)), (2, (.string s))] ?_
  refine C_region ?_
  refine Rv (ptr u 0) w2 ?_
  refine Rv (.string s) w2 ?_
  refine Rv (.int .i64 x) w2 ?_
  refine Rc #[(ptr u 0), (.string s), (.int .i64 x)] w2 (entry_any u mb q1 q2 nx L s x m _ _ H.sees (hU.le H.toLe) wf_x hx) ?_
  rintro _ w3 ⟨rfl, l2⟩
  replace H := H.le l2
  refine S_store (H.blk 0) rfl rfl rfl rfl rfl (by kernel_rfl) rfl (Nat.le_of_ble_eq_true rfl) #[(.string s), (.int .i64 m.kind), (.int .i64 x)] rfl fun w4 u1 => ?_
  replace H := H.upd 0 u1
  refine Rv (.int .i64 0) w4 ?_
  refine wpR_nil ?_
  refine E_then_normal ?_
  refine C_ret ?_
  refine E_ret (res_cell_tmp rfl rfl (run_load_row (H.blk 0) Try.underlying60 rfl (vs := [(.string s), (.int .i64 m.kind), (.int .i64 x)]) (by kernel_rfl) rfl) rfl) ⟨_, rfl, ?_⟩
  exact ⟨rfl, H.toLe⟩

set_option linter.unusedVariables false in
set_option linter.unusedSimpArgs false in
set_option maxHeartbeats 4000000 in
set_option maxRecDepth 100000 in
theorem opaque_no (u mb : Nat) (q1 q2 nx : Int) (L : List (Int × LNode)) (r : Int) (g w : World) (sees : Sees g w)  (hU : UpR Try.prog uty g w u q1 q2 mb nx L) (wf_r : (Lit.int .i64 r).wf = true) (hr : getK L r = none) : Ret Try.prog 15 #[(ptr u 0), (.int .i64 r)] w fun v w' => v = .bool false ∧ Le w w' := by
  have H := SL.start sees
  refine enter (args := [(ptr u 0), (.int .i64 r)]) Try.func15 rfl rfl rfl ?_
  refine C_seq ?_
  refine C_region ?_
  refine Rv (.bool false) w ?_
  refine wpR_nil ?_
  refine E_then_normal ?_
  refine C_seq ?_
  refine C_region ?_
  refine Rv (ptr u 0) w ?_
  refine Rv (.int .i64 r) w ?_
  refine Rc #[(ptr u 0), (.int .i64 r)] w (at_no u mb q1 q2 nx L r _ _ H.sees (hU.le H.toLe) wf_r hr) ?_
  rintro _ w1 ⟨rfl, l1⟩
  replace H := H.le l1
  refine Rv (.tuple #[(.pointer none), (.int .i64 1)]) w1 ?_
  refine Rv (.pointer none) w1 ?_
  refine Rv (.int .i64 1) w1 ?_
  refine Rv (.pointer none) w1 ?_
  refine Rv (.int .i64 1) w1 ?_
  refine wpR_nil ?_
  refine E_then_normal ?_
  refine C_seq ?_
  refine Cs [(6, (.int .i64 1)), (5, (.pointer none)), (4, (.bool false)), (0, (ptr u 0)), (1, (.int .i64 r))] ?_
  refine C_region ?_
  refine Rv (.int .i64 1) w1 ?_
  refine Rv (.bool false) w1 ?_
  refine Rv (.bool false) w1 ?_
  iterate 5 refine Rs ?_
  refine Rv (.bool false) w1 ?_
  refine Rv (.bool false) w1 ?_
  refine wpR_nil ?_
  refine E_then_normal ?_
  refine C_ret ?_
  refine E_ret (res_one rfl rfl) ⟨_, rfl, ?_⟩
  exact ⟨rfl, H.toLe⟩

set_option linter.unusedVariables false in
set_option linter.unusedSimpArgs false in
set_option maxHeartbeats 4000000 in
set_option maxRecDepth 100000 in
theorem opaque_yes (u mb : Nat) (q1 q2 nx : Int) (L : List (Int × LNode)) (r : Int) (n : LNode) (g w : World) (sees : Sees g w)  (hU : UpR Try.prog uty g w u q1 q2 mb nx L) (wf_r : (Lit.int .i64 r).wf = true) (hr : getK L r = some n) : Ret Try.prog 15 #[(ptr u 0), (.int .i64 r)] w fun v w' => v = .bool n.opq ∧ Le w w' := by
  have H := SL.start sees
  obtain ⟨l1_n, l2_n, l3_n, l4_n⟩ := (hU.nodes _ _ hr).lens
  refine enter (args := [(ptr u 0), (.int .i64 r)]) Try.func15 rfl rfl rfl ?_
  refine C_seq ?_
  refine C_region ?_
  refine Rv (.bool false) w ?_
  refine wpR_nil ?_
  refine E_then_normal ?_
  refine C_seq ?_
  refine C_region ?_
  refine Rv (ptr u 0) w ?_
  refine Rv (.int .i64 r) w ?_
  refine Rc #[(ptr u 0), (.int .i64 r)] w (at_yes u mb q1 q2 nx L r n _ _ H.sees (hU.le H.toLe) wf_r hr) ?_
  rintro _ w1 ⟨rfl, l1⟩
  replace H := H.le l1
  refine Rv (.tuple #[(ptr n.blk 0), (.int .i64 0)]) w1 ?_
  refine Rv (ptr n.blk 0) w1 ?_
  refine Rv (.int .i64 0) w1 ?_
  refine Rv (ptr n.blk 0) w1 ?_
  refine Rv (.int .i64 0) w1 ?_
  refine wpR_nil ?_
  refine E_then_normal ?_
  refine C_seq ?_
  refine Cs [(6, (.int .i64 0)), (5, (ptr n.blk 0)), (4, (.bool false)), (0, (ptr u 0)), (1, (.int .i64 r))] ?_
  refine C_region ?_
  refine Rv (.int .i64 0) w1 ?_
  refine Rv (.bool true) w1 ?_
  refine Rv (.bool true) w1 ?_
  refine Rv (ptr n.blk 0) w1 ?_
  refine Rv (ptr n.blk 0) w1 ?_
  refine Rv (ptr n.blk 0) w1 ?_
  refine Rv (ptr n.blk 9) w1 ?_
  refine S_load (run_load_one ((hU.le H.toLe).nodes _ _ hr).blk Try.underlying4 rfl rfl) rfl rfl rfl rfl rfl ?_
  refine Rv (.bool n.opq) w1 ?_
  refine Rv (.bool n.opq) w1 ?_
  refine wpR_nil ?_
  refine E_then_normal ?_
  refine C_ret ?_
  refine E_ret (res_one rfl rfl) ⟨_, rfl, ?_⟩
  exact ⟨rfl, H.toLe⟩

set_option linter.unusedVariables false in
set_option linter.unusedSimpArgs false in
set_option maxHeartbeats 4000000 in
set_option maxRecDepth 100000 in
theorem link_any (u mb : Nat) (q1 q2 nx : Int) (L : List (Int × LNode)) (d : Int) (s : ByteArray) (r : Int) (W : Base) (g w : World) (F : List Atom) (H : SL W g w ((upA Try.prog uty u q1 q2 mb nx L) :: F))  (wf_d : (Lit.int .i64 d).wf = true) (hs : s.size ≤ 9223372036854775807) (wf_r : (Lit.int .i64 r).wf = true) (hlk : ∀ n, getK L r = some n → 0 ≤ n.links ∧ n.links < 1000000000) (hE : ∀ n, getK L d = some n → n.ents.length < maxLen) : Ret Try.prog 17 #[(ptr u 0), (.int .i64 d), (.string s), (.int .i64 r)] w fun v w' => ∃ g' L', Mono g g' ∧ SL W g' w' (upA Try.prog uty u q1 q2 mb nx L' :: F) ∧ er L' = linkU (er L) d s r ∧ v = .int .i64 (linkE (er L) d s r) := by
  refine enter (args := [(ptr u 0), (.int .i64 d), (.string s), (.int .i64 r)]) Try.func17 rfl rfl rfl ?_
  refine C_seq ?_
  refine C_region ?_
  refine Rv (.int .i64 0) w ?_
  refine wpR_nil ?_
  refine E_then_normal ?_
  refine C_seq ?_
  refine C_region ?_
  refine Rv (ptr u 0) w ?_
  refine Rv (.int .i64 r) w ?_
  rcases hr1 : getK L r with _ | n1
  · refine Rc #[(ptr u 0), (.int .i64 r)] w (at_no u mb q1 q2 nx L r _ _ H.sees (H.upR 0 kI) wf_r hr1) ?_
    rintro _ w1 ⟨rfl, l1⟩
    replace H := H.le l1
    refine Rv (.tuple #[(.pointer none), (.int .i64 1)]) w1 ?_
    refine Rv (.pointer none) w1 ?_
    refine Rv (.int .i64 1) w1 ?_
    refine Rv (.pointer none) w1 ?_
    refine Rv (.int .i64 1) w1 ?_
    refine wpR_nil ?_
    refine E_then_normal ?_
    refine C_seq ?_
    refine C_seq ?_
    refine Cs [(10, (.int .i64 1)), (9, (.pointer none)), (8, (.int .i64 0)), (0, (ptr u 0)), (1, (.int .i64 d)), (2, (.string s)), (3, (.int .i64 r))] ?_
    refine C_region ?_
    refine Rv (ptr u 0) w1 ?_
    refine Rv (.int .i64 d) w1 ?_
    rcases hr2 : getK L d with _ | n2
    · refine Rc #[(ptr u 0), (.int .i64 d)] w1 (at_no u mb q1 q2 nx L d _ _ H.sees (H.upR 0 kI) wf_d hr2) ?_
      rintro _ w2 ⟨rfl, l2⟩
      replace H := H.le l2
      refine Rv (.tuple #[(.pointer none), (.int .i64 1)]) w2 ?_
      refine Rv (.pointer none) w2 ?_
      refine Rv (.int .i64 1) w2 ?_
      refine Rv (.pointer none) w2 ?_
      refine Rv (.int .i64 1) w2 ?_
      refine wpR_nil ?_
      refine E_then_normal ?_
      refine C_seq ?_
      refine Cs [(12, (.int .i64 1)), (10, (.int .i64 1)), (9, (.pointer none)), (8, (.int .i64 0)), (0, (ptr u 0)), (1, (.int .i64 d)), (2, (.string s)), (3, (.int .i64 r))] ?_
      refine C_region ?_
      refine Rv (.int .i64 1) w2 ?_
      refine Rv (.bool true) w2 ?_
      refine Rv (.bool true) w2 ?_
      iterate 2 refine Rs ?_
      refine Rv (.bool true) w2 ?_
      refine wpR_nil ?_
      refine E_then_normal ?_
      refine C_true rfl ?_
      refine C_seq ?_
      refine Cs [(31, (.bool true)), (12, (.int .i64 1)), (10, (.int .i64 1)), (9, (.pointer none)), (8, (.int .i64 0)), (0, (ptr u 0)), (1, (.int .i64 d)), (2, (.string s)), (3, (.int .i64 r))] ?_
      refine C_region ?_
      refine Rv (.int .i64 1) w2 ?_
      refine wpR_nil ?_
      refine E_then_normal ?_
      refine C_ret ?_
      refine E_then_ret ?_
      refine E_ret (res_one rfl rfl) ⟨_, rfl, ?_⟩
      have er_d := getK_er_none hr2
      have er_r := getK_er_none hr1
      have ef := freshE_er L d s
      refine ⟨_, _, (Mono.refl _), H, ?_, ?_⟩
      · (simp only [linkU, linkE, er_setK]; first | (simp_all; done) | (simp_all; omega))
      · exact congrArg (Value.int .i64) (by (simp only [linkU, linkE, er_setK]; first | (simp_all; done) | (simp_all; omega)))
    · obtain ⟨l1_n2, l2_n2, l3_n2, l4_n2⟩ := ((H.upR 0 kI).nodes _ _ hr2).lens
      refine Rc #[(ptr u 0), (.int .i64 d)] w1 (at_yes u mb q1 q2 nx L d n2 _ _ H.sees (H.upR 0 kI) wf_d hr2) ?_
      rintro _ w3 ⟨rfl, l3⟩
      replace H := H.le l3
      refine Rv (.tuple #[(ptr n2.blk 0), (.int .i64 0)]) w3 ?_
      refine Rv (ptr n2.blk 0) w3 ?_
      refine Rv (.int .i64 0) w3 ?_
      refine Rv (ptr n2.blk 0) w3 ?_
      refine Rv (.int .i64 0) w3 ?_
      refine wpR_nil ?_
      refine E_then_normal ?_
      refine C_seq ?_
      refine Cs [(12, (.int .i64 0)), (10, (.int .i64 1)), (9, (.pointer none)), (8, (.int .i64 0)), (0, (ptr u 0)), (1, (.int .i64 d)), (2, (.string s)), (3, (.int .i64 r))] ?_
      refine C_region ?_
      refine Rv (.int .i64 1) w3 ?_
      refine Rv (.bool true) w3 ?_
      refine Rv (.bool true) w3 ?_
      iterate 2 refine Rs ?_
      refine Rv (.bool true) w3 ?_
      refine wpR_nil ?_
      refine E_then_normal ?_
      refine C_true rfl ?_
      refine C_seq ?_
      refine Cs [(31, (.bool true)), (12, (.int .i64 0)), (10, (.int .i64 1)), (9, (.pointer none)), (8, (.int .i64 0)), (0, (ptr u 0)), (1, (.int .i64 d)), (2, (.string s)), (3, (.int .i64 r))] ?_
      refine C_region ?_
      refine Rv (.int .i64 1) w3 ?_
      refine wpR_nil ?_
      refine E_then_normal ?_
      refine C_ret ?_
      refine E_then_ret ?_
      refine E_ret (res_one rfl rfl) ⟨_, rfl, ?_⟩
      have er_d := getK_er_some hr2
      have er_r := getK_er_none hr1
      have ef := freshE_er L d s
      refine ⟨_, _, (Mono.refl _), H, ?_, ?_⟩
      · (simp only [linkU, linkE, er_setK]; first | (simp_all; done) | (simp_all; omega))
      · exact congrArg (Value.int .i64) (by (simp only [linkU, linkE, er_setK]; first | (simp_all; done) | (simp_all; omega)))
  · obtain ⟨l1_n1, l2_n1, l3_n1, l4_n1⟩ := ((H.upR 0 kI).nodes _ _ hr1).lens
    refine Rc #[(ptr u 0), (.int .i64 r)] w (at_yes u mb q1 q2 nx L r n1 _ _ H.sees (H.upR 0 kI) wf_r hr1) ?_
    rintro _ w4 ⟨rfl, l4⟩
    replace H := H.le l4
    refine Rv (.tuple #[(ptr n1.blk 0), (.int .i64 0)]) w4 ?_
    refine Rv (ptr n1.blk 0) w4 ?_
    refine Rv (.int .i64 0) w4 ?_
    refine Rv (ptr n1.blk 0) w4 ?_
    refine Rv (.int .i64 0) w4 ?_
    refine wpR_nil ?_
    refine E_then_normal ?_
    refine C_seq ?_
    refine C_seq ?_
    refine Cs [(10, (.int .i64 0)), (9, (ptr n1.blk 0)), (8, (.int .i64 0)), (0, (ptr u 0)), (1, (.int .i64 d)), (2, (.string s)), (3, (.int .i64 r))] ?_
    refine C_region ?_
    refine Rv (ptr u 0) w4 ?_
    refine Rv (.int .i64 d) w4 ?_
    rcases hr3 : getK L d with _ | n3
    · refine Rc #[(ptr u 0), (.int .i64 d)] w4 (at_no u mb q1 q2 nx L d _ _ H.sees (H.upR 0 kI) wf_d hr3) ?_
      rintro _ w5 ⟨rfl, l5⟩
      replace H := H.le l5
      refine Rv (.tuple #[(.pointer none), (.int .i64 1)]) w5 ?_
      refine Rv (.pointer none) w5 ?_
      refine Rv (.int .i64 1) w5 ?_
      refine Rv (.pointer none) w5 ?_
      refine Rv (.int .i64 1) w5 ?_
      refine wpR_nil ?_
      refine E_then_normal ?_
      refine C_seq ?_
      refine Cs [(12, (.int .i64 1)), (10, (.int .i64 0)), (9, (ptr n1.blk 0)), (8, (.int .i64 0)), (0, (ptr u 0)), (1, (.int .i64 d)), (2, (.string s)), (3, (.int .i64 r))] ?_
      refine C_region ?_
      refine Rv (.int .i64 0) w5 ?_
      refine Rv (.bool false) w5 ?_
      refine Rv (.bool false) w5 ?_
      refine Rv (.int .i64 1) w5 ?_
      refine Rv (.bool true) w5 ?_
      refine Rv (.bool true) w5 ?_
      refine wpR_nil ?_
      refine E_then_normal ?_
      refine C_true rfl ?_
      refine C_seq ?_
      refine Cs [(31, (.bool true)), (12, (.int .i64 1)), (10, (.int .i64 0)), (9, (ptr n1.blk 0)), (8, (.int .i64 0)), (0, (ptr u 0)), (1, (.int .i64 d)), (2, (.string s)), (3, (.int .i64 r))] ?_
      refine C_region ?_
      refine Rv (.int .i64 1) w5 ?_
      refine wpR_nil ?_
      refine E_then_normal ?_
      refine C_ret ?_
      refine E_then_ret ?_
      refine E_ret (res_one rfl rfl) ⟨_, rfl, ?_⟩
      have er_d := getK_er_none hr3
      have er_r := getK_er_some hr1
      have ef := freshE_er L d s
      refine ⟨_, _, (Mono.refl _), H, ?_, ?_⟩
      · (simp only [linkU, linkE, er_setK]; first | (simp_all; done) | (simp_all; omega))
      · exact congrArg (Value.int .i64) (by (simp only [linkU, linkE, er_setK]; first | (simp_all; done) | (simp_all; omega)))
    · obtain ⟨l1_n3, l2_n3, l3_n3, l4_n3⟩ := ((H.upR 0 kI).nodes _ _ hr3).lens
      refine Rc #[(ptr u 0), (.int .i64 d)] w4 (at_yes u mb q1 q2 nx L d n3 _ _ H.sees (H.upR 0 kI) wf_d hr3) ?_
      rintro _ w6 ⟨rfl, l6⟩
      replace H := H.le l6
      refine Rv (.tuple #[(ptr n3.blk 0), (.int .i64 0)]) w6 ?_
      refine Rv (ptr n3.blk 0) w6 ?_
      refine Rv (.int .i64 0) w6 ?_
      refine Rv (ptr n3.blk 0) w6 ?_
      refine Rv (.int .i64 0) w6 ?_
      refine wpR_nil ?_
      refine E_then_normal ?_
      refine C_seq ?_
      refine Cs [(12, (.int .i64 0)), (10, (.int .i64 0)), (9, (ptr n1.blk 0)), (8, (.int .i64 0)), (0, (ptr u 0)), (1, (.int .i64 d)), (2, (.string s)), (3, (.int .i64 r))] ?_
      refine C_region ?_
      refine Rv (.int .i64 0) w6 ?_
      refine Rv (.bool false) w6 ?_
      refine Rv (.bool false) w6 ?_
      refine Rv (.int .i64 0) w6 ?_
      refine Rv (.bool false) w6 ?_
      refine Rv (.bool false) w6 ?_
      refine wpR_nil ?_
      refine E_then_normal ?_
      refine C_false rfl ?_
      refine C_skip ?_
      refine E_then_normal ?_
      refine C_seq ?_
      refine Cs [(31, (.bool false)), (12, (.int .i64 0)), (10, (.int .i64 0)), (9, (ptr n1.blk 0)), (8, (.int .i64 0)), (0, (ptr u 0)), (1, (.int .i64 d)), (2, (.string s)), (3, (.int .i64 r))] ?_
      refine C_region ?_
      refine Rv (ptr u 0) w6 ?_
      refine Rv (.int .i64 d) w6 ?_
      refine Rv (.string s) w6 ?_
      by_cases hf1 : freshE L d s = 0
      · obtain ⟨fk1, fv1, fe1⟩ := fresh_some hr3 hf1
        have fb1 := beq_iff_eq.2 fk1
        refine Rc #[(ptr u 0), (.int .i64 d), (.string s)] w6 (fresh_yes u mb q1 q2 nx L d s n3 _ _ H.sees (H.upR 0 kI) wf_d (by first | omega | (simp only [maxLen] at *; omega)) hr3 hf1) ?_
        rintro _ w7 ⟨rfl, l7⟩
        replace H := H.le l7
        refine Rv (.tuple #[(ptr n3.blk 0), (.int .i64 0)]) w7 ?_
        refine Rv (ptr n3.blk 0) w7 ?_
        refine Rv (.int .i64 0) w7 ?_
        refine Rv (ptr n3.blk 0) w7 ?_
        refine Rv (.int .i64 0) w7 ?_
        refine wpR_nil ?_
        refine E_then_normal ?_
        refine C_seq ?_
        refine C_block ?_
        refine C_seq ?_
        refine Cs [(10, (.int .i64 0)), (13, (ptr n3.blk 0)), (31, (.bool false)), (12, (.int .i64 0)), (9, (ptr n1.blk 0)), (8, (.int .i64 0)), (0, (ptr u 0)), (1, (.int .i64 d)), (2, (.string s)), (3, (.int .i64 r))] ?_
        refine C_region ?_
        refine Rv (.int .i64 0) w7 ?_
        refine Rv (.bool false) w7 ?_
        refine Rv (.bool false) w7 ?_
        refine wpR_nil ?_
        refine E_then_normal ?_
        refine C_false rfl ?_
        refine C_seq ?_
        refine Cs [(39, (.bool false)), (10, (.int .i64 0)), (13, (ptr n3.blk 0)), (31, (.bool false)), (12, (.int .i64 0)), (9, (ptr n1.blk 0)), (8, (.int .i64 0)), (0, (ptr u 0)), (1, (.int .i64 d)), (2, (.string s)), (3, (.int .i64 r))] ?_
        refine C_region ?_
        refine Rv (ptr n1.blk 0) w7 ?_
        refine Rv (ptr n1.blk 0) w7 ?_
        refine Rv (ptr n1.blk 0) w7 ?_
        refine Rv (ptr n1.blk 2) w7 ?_
        refine S_load (run_load_one ((H.upR 0 kI).nodes _ _ hr1).blk Try.underlying3 rfl rfl) rfl rfl rfl rfl rfl ?_
        refine Rv (.bool (n1.kind == 1)) w7 ?_
        refine Rv (.bool (n1.kind == 1)) w7 ?_
        refine wpR_nil ?_
        refine E_then_normal ?_
        refine C_cond rfl (fun c1 => ?_) (fun c1 => ?_)
        · have d1 : n1.kind = 1 := eq_of_beq c1
          refine C_seq ?_
          refine Cs [(43, (.bool (n1.kind == 1))), (39, (.bool false)), (10, (.int .i64 0)), (13, (ptr n3.blk 0)), (31, (.bool false)), (12, (.int .i64 0)), (9, (ptr n1.blk 0)), (8, (.int .i64 0)), (0, (ptr u 0)), (1, (.int .i64 d)), (2, (.string s)), (3, (.int .i64 r))] ?_
          refine C_region ?_
          refine Rv (.int .i64 25) w7 ?_
          refine wpR_nil ?_
          refine E_then_normal ?_
          refine C_ret ?_
          refine E_block_ret ?_
          refine E_then_ret ?_
          refine E_ret (res_one rfl rfl) ⟨_, rfl, ?_⟩
          have er_d := getK_er_some hr3
          have er_r := getK_er_some hr1
          have ef := freshE_er L d s
          refine ⟨_, _, (Mono.refl _), H, ?_, ?_⟩
          · (simp only [linkU, linkE, er_setK]; first | (simp_all; done) | (simp_all; omega))
          · exact congrArg (Value.int .i64) (by (simp only [linkU, linkE, er_setK]; first | (simp_all; done) | (simp_all; omega)))
        · have d1 : n1.kind ≠ 1 := ne_of_beq_false c1
          refine C_skip ?_
          refine E_block_normal ?_
          refine E_then_normal ?_
          refine C_seq ?_
          refine Cs [(43, (.bool (n1.kind == 1))), (39, (.bool false)), (10, (.int .i64 0)), (13, (ptr n3.blk 0)), (31, (.bool false)), (12, (.int .i64 0)), (9, (ptr n1.blk 0)), (8, (.int .i64 0)), (0, (ptr u 0)), (1, (.int .i64 d)), (2, (.string s)), (3, (.int .i64 r))] ?_
          have hne : d ≠ r := ne_of_kind hr3 hr1 (fun e => by have q1 := fk1; have q2 := c1; rw [← e, q1] at q2; simp at q2)
          have hE1 := hE _ hr3
          obtain ⟨hl1, hl2⟩ := hlk _ hr1
          refine C_region ?_
          refine Rv (ptr n3.blk 0) w7 ?_
          refine Rv (ptr n3.blk 0) w7 ?_
          refine Rv (ptr n3.blk 10) w7 ?_
          refine S_load (run_load_one ((H.upR 0 kI).nodes _ _ hr3).blk Try.underlying80 rfl rfl) rfl rfl rfl rfl rfl ?_
          refine Rv (.string s) w7 ?_
          refine Rv (.int .i64 r) w7 ?_
          obtain ⟨w8, hu1, Hn⟩ := H.upPut (P := Try.prog) kI kS hr3 fk1 Try.underlying80 s (sz_ok (by first | omega | (simp only [maxLen] at *; omega))) r (by assumption)
          refine R_none (v := undef) rfl (by kernel_rfl) rfl (.inr (X_mapUpdate rfl rfl rfl rfl hu1)) ?_
          replace H := Hn
          clear Hn
          have hr4 : getK (setK L d { n3 with ents := putK n3.ents s r }) d = some { n3 with ents := putK n3.ents s r } := getK_setK hr3
          have hr5 : getK (setK L d { n3 with ents := putK n3.ents s r }) r = some n1 := by rw [getK_setK_ne hne]; exact hr1
          refine wpR_nil ?_
          refine E_then_normal ?_
          refine C_seq ?_
          refine Cs [(43, (.bool (n1.kind == 1))), (39, (.bool false)), (10, (.int .i64 0)), (13, (ptr n3.blk 0)), (31, (.bool false)), (12, (.int .i64 0)), (9, (ptr n1.blk 0)), (8, (.int .i64 0)), (0, (ptr u 0)), (1, (.int .i64 d)), (2, (.string s)), (3, (.int .i64 r))] ?_
          refine C_region ?_
          refine Rv (ptr n1.blk 0) w8 ?_
          refine Rv (ptr n1.blk 0) w8 ?_
          refine Rv (ptr n1.blk 12) w8 ?_
          refine S_load (run_load_one ((H.upR 0 kI).nodes _ _ hr5).blk Try.underlying3 rfl rfl) rfl rfl rfl rfl rfl ?_
          refine Rw (.int .i64 (n1.links + 1)) w8 (eq_int (by kernel_rfl) (wrap64_in (by first | omega | (simp only [maxLen] at *; omega)) (by first | omega | (simp only [maxLen] at *; omega)))) ?_
          refine Rv (ptr n1.blk 0) w8 ?_
          refine Rv (ptr n1.blk 12) w8 ?_
          refine S_store (((H.upR 0 kI).nodes _ _ hr5).blk) rfl rfl rfl rfl rfl (by kernel_rfl) rfl (Nat.le_of_ble_eq_true rfl) #[(.slice none 0 0), (.int .i64 0), (.int .i64 n1.kind), (.int .i64 n1.mode), (.int .i64 n1.uid), (.int .i64 n1.gid), n1.vd, (.string n1.target), n1.vx, (.bool n1.opq), n1.vi, (.int .i64 n1.up), (.int .i64 (n1.links + 1))] rfl fun w9 u1 => ?_
          replace H := H.upStore (n' := { n1 with links := n1.links + 1 }) kI hr5 (((H.upR 0 kI).nodes _ _ hr5).data) (((H.upR 0 kI).nodes _ _ hr5).xattrs) (((H.upR 0 kI).nodes _ _ hr5).target) rfl rfl rfl rfl u1
          have hr6 : getK (setK (setK L d { n3 with ents := putK n3.ents s r }) r { n1 with links := n1.links + 1 }) r = some { n1 with links := n1.links + 1 } := getK_setK hr5
          have hr7 : getK (setK (setK L d { n3 with ents := putK n3.ents s r }) r { n1 with links := n1.links + 1 }) d = some ({ n3 with ents := putK n3.ents s r }) := by rw [getK_setK_ne (Ne.symm hne)]; exact hr4
          refine wpR_nil ?_
          refine E_then_normal ?_
          refine C_seq ?_
          refine Cs [(43, (.bool (n1.kind == 1))), (39, (.bool false)), (10, (.int .i64 0)), (13, (ptr n3.blk 0)), (31, (.bool false)), (12, (.int .i64 0)), (9, (ptr n1.blk 0)), (8, (.int .i64 0)), (0, (ptr u 0)), (1, (.int .i64 d)), (2, (.string s)), (3, (.int .i64 r))] ?_
          refine C_region ?_
          refine Rv (.int .i64 0) w9 ?_
          refine wpR_nil ?_
          refine E_then_normal ?_
          refine C_ret ?_
          refine E_ret (res_one rfl rfl) ⟨_, rfl, ?_⟩
          have er_d := getK_er_some hr3
          have er_r := getK_er_some hr1
          have ef := freshE_er L d s
          refine ⟨_, _, (Mono.refl _), H, ?_, ?_⟩
          · (simp only [linkU, linkE, er_setK]; first | (simp_all; done) | (simp_all; omega))
          · exact congrArg (Value.int .i64) (by (simp only [linkU, linkE, er_setK]; first | (simp_all; done) | (simp_all; omega)))
      · refine Rc #[(ptr u 0), (.int .i64 d), (.string s)] w6 (fresh_no u mb q1 q2 nx L d s _ _ H.sees (H.upR 0 kI) wf_d (by first | omega | (simp only [maxLen] at *; omega)) hf1) ?_
        rintro _ w10 ⟨rfl, l8⟩
        replace H := H.le l8
        refine Rv (.tuple #[(.pointer none), (.int .i64 (freshE L d s))]) w10 ?_
        refine Rv (.pointer none) w10 ?_
        refine Rv (.int .i64 (freshE L d s)) w10 ?_
        refine Rv (.pointer none) w10 ?_
        refine Rv (.int .i64 (freshE L d s)) w10 ?_
        refine wpR_nil ?_
        refine E_then_normal ?_
        refine C_seq ?_
        refine C_block ?_
        refine C_seq ?_
        refine Cs [(10, (.int .i64 (freshE L d s))), (13, (.pointer none)), (31, (.bool false)), (12, (.int .i64 0)), (9, (ptr n1.blk 0)), (8, (.int .i64 0)), (0, (ptr u 0)), (1, (.int .i64 d)), (2, (.string s)), (3, (.int .i64 r))] ?_
        refine C_region ?_
        refine Rv (.int .i64 (freshE L d s)) w10 ?_
        refine Rw (.bool true) w10 (eq_bool (by kernel_rfl) (congrArg Bool.not (beq_eq_false_iff_ne.2 hf1))) ?_
        refine Rv (.bool true) w10 ?_
        refine wpR_nil ?_
        refine E_then_normal ?_
        refine C_true rfl ?_
        refine C_seq ?_
        refine Cs [(39, (.bool true)), (10, (.int .i64 (freshE L d s))), (13, (.pointer none)), (31, (.bool false)), (12, (.int .i64 0)), (9, (ptr n1.blk 0)), (8, (.int .i64 0)), (0, (ptr u 0)), (1, (.int .i64 d)), (2, (.string s)), (3, (.int .i64 r))] ?_
        refine C_region ?_
        refine Rv (.int .i64 (freshE L d s)) w10 ?_
        refine Rv (.int .i64 (freshE L d s)) w10 ?_
        refine wpR_nil ?_
        refine E_then_normal ?_
        refine C_ret ?_
        refine E_block_ret ?_
        refine E_then_ret ?_
        refine E_ret (res_one rfl rfl) ⟨_, rfl, ?_⟩
        have er_d := getK_er_some hr3
        have er_r := getK_er_some hr1
        have ef := freshE_er L d s
        refine ⟨_, _, (Mono.refl _), H, ?_, ?_⟩
        · (simp only [linkU, linkE, er_setK]; first | (simp_all; done) | (simp_all; omega))
        · exact congrArg (Value.int .i64) (by (simp only [linkU, linkE, er_setK]; first | (simp_all; done) | (simp_all; omega)))
end Go.Proofs.Ytnmaehdklmgfmaa
