/- let, Remove, Xattrs of layer 17. (Printed by a program of mine.) -/
import Derived.Test.YtnmaehdklmgfmaaUpE
namespace Go.Proofs.Ytnmaehdklmgfmaa
open Go Go.RowKit Go.Lm
set_option linter.unusedVariables false in
set_option linter.unusedSimpArgs false in
set_option maxHeartbeats 4000000 in
set_option maxRecDepth 100000 in
theorem let_small (u mb : Nat) (q1 q2 nx : Int) (L : List (Int × LNode)) (r : Int) (n : LNode) (W : Base) (g w : World) (F : List Atom) (H : SL W g w ((upA Try.prog uty u q1 q2 mb nx L) :: F))  (wf_r : (Lit.int .i64 r).wf = true) (hr : getK L r = some n) (h0 : n.ents = []) (hl0 : 0 ≤ n.links) (hl1 : n.links < 1000000000) : Ret Try.prog 38 #[(ptr u 0), (.int .i64 r)] w fun v w' => ∃ L', SL W g w' (upA Try.prog uty u q1 q2 mb nx L' :: F) ∧ er L' = letS (er L) r ∧ v = .tuple #[] := by
  refine enter (args := [(ptr u 0), (.int .i64 r)]) Try.func38 rfl rfl rfl ?_
  refine C_seq ?_
  refine C_region ?_
  refine Rv (ptr u 0) w ?_
  refine Rv (ptr u 0) w ?_
  refine Rv (ptr u 2) w ?_
  refine S_load (run_load_one (H.upR 0 kI).ublk Try.underlying83 rfl rfl) rfl rfl rfl rfl rfl ?_
  refine Rv (.int .i64 r) w ?_
  refine Rw (ptr n.blk 0) w (X_lookup rfl rfl rfl (by have hl := MapV.look false (H.upR 0 kI).map kI Try.underlying83 (z := (.pointer none)) (by kernel_rfl) r wf_r; rw [getK_ptrs, hr] at hl; exact hl)) ?_
  refine Rv (ptr n.blk 0) w ?_
  refine wpR_nil ?_
  refine E_then_normal ?_
  refine C_seq ?_
  refine C_seq ?_
  refine Cs [(4, (ptr n.blk 0)), (0, (ptr u 0)), (1, (.int .i64 r))] ?_
  refine C_region ?_
  refine Rv (ptr n.blk 0) w ?_
  refine Rv (ptr n.blk 0) w ?_
  refine Rv (ptr n.blk 12) w ?_
  refine S_load (run_load_one ((H.upR 0 kI).nodes _ _ hr).blk Try.underlying3 rfl rfl) rfl rfl rfl rfl rfl ?_
  refine Rw (.int .i64 (n.links - 1)) w (eq_int (by kernel_rfl) (wrap64_in (by omega) (by omega))) ?_
  refine Rv (ptr n.blk 0) w ?_
  refine Rv (ptr n.blk 12) w ?_
  refine S_store (((H.upR 0 kI).nodes _ _ hr).blk) rfl rfl rfl rfl rfl (by kernel_rfl) rfl (Nat.le_of_ble_eq_true rfl) #[(.slice none 0 0), (.int .i64 0), (.int .i64 n.kind), (.int .i64 n.mode), (.int .i64 n.uid), (.int .i64 n.gid), n.vd, (.string n.target), n.vx, (.bool n.opq), n.vi, (.int .i64 n.up), (.int .i64 (n.links - 1))] rfl fun w1 u1 => ?_
  replace H := H.upStore (n' := { n with links := n.links - 1 }) kI hr (((H.upR 0 kI).nodes _ _ hr).data) (((H.upR 0 kI).nodes _ _ hr).xattrs) (((H.upR 0 kI).nodes _ _ hr).target) rfl rfl rfl rfl u1
  have hr1 : getK (setK L r { n with links := n.links - 1 }) r = some { n with links := n.links - 1 } := getK_setK hr
  refine wpR_nil ?_
  refine E_then_normal ?_
  refine C_seq ?_
  refine Cs [(4, (ptr n.blk 0)), (0, (ptr u 0)), (1, (.int .i64 r))] ?_
  refine C_region ?_
  refine Rv (ptr n.blk 0) w1 ?_
  refine Rv (ptr n.blk 0) w1 ?_
  refine Rv (ptr n.blk 12) w1 ?_
  refine S_load (run_load_one ((H.upR 0 kI).nodes _ _ hr1).blk Try.underlying3 rfl rfl) rfl rfl rfl rfl rfl ?_
  refine Rv (.bool (decide ((n.links - 1) > 0))) w1 ?_
  refine wpR_nil ?_
  refine E_then_normal ?_
  refine C_cond rfl (fun c1 => ?_) (fun c1 => ?_)
  · have d1 : (n.links - 1) > 0 := of_decide_eq_true c1
    refine C_ret ?_
    refine E_then_ret ?_
    refine E_ret (res_none rfl) ⟨_, rfl, ?_⟩
    have er1 := getK_er_some hr
    exact ⟨_, H, (by simp only [letS, er_setK, er_delK, delK_setK, er1]; first | (simp_all; done) | (simp_all; omega)), rfl⟩
  · have d1 : ¬ (n.links - 1) > 0 := of_decide_eq_false c1
    refine C_skip ?_
    refine E_then_normal ?_
    refine C_seq ?_
    refine Cs [(24, (.bool (decide ((n.links - 1) > 0)))), (4, (ptr n.blk 0)), (0, (ptr u 0)), (1, (.int .i64 r))] ?_
    refine C_region ?_
    refine Rv (ptr u 0) w1 ?_
    refine Rv (ptr u 0) w1 ?_
    refine Rv (ptr u 2) w1 ?_
    refine S_load (run_load_one (H.upR 0 kI).ublk Try.underlying83 rfl rfl) rfl rfl rfl rfl rfl ?_
    refine Rv (.int .i64 r) w1 ?_
    have od1 := ((H.upR 0 kI).nodes _ _ hr1).data
    have ox1 := ((H.upR 0 kI).nodes _ _ hr1).xattrs
    obtain ⟨w2, hu1, Hn⟩ := H.upDrop2 (P := Try.prog) (ty := 0) kI hr1 Try.underlying83 wf_r
    refine R_none (v := .tuple #[]) rfl (by kernel_rfl) rfl (.inl (X_delete rfl rfl rfl hu1)) ?_
    replace H := Hn
    clear Hn
    refine wpR_nil ?_
    refine E_then_normal ?_
    refine C_seq ?_
    refine Cs [(24, (.bool (decide ((n.links - 1) > 0)))), (4, (ptr n.blk 0)), (0, (ptr u 0)), (1, (.int .i64 r))] ?_
    refine C_region ?_
    refine Rv (ptr n.blk 0) w2 ?_
    refine Rv (ptr n.blk 0) w2 ?_
    refine Rv (ptr n.blk 10) w2 ?_
    refine S_load (run_load_one (H.blk 0) Try.underlying80 rfl rfl) rfl rfl rfl rfl rfl ?_
    obtain ⟨ob1, hob1⟩ := (SL.mapVR (H.pick 1))
    refine S_range hob1 Try.underlying80 H rfl rfl rfl rfl rfl fun b1 w3 l1 hne1 Hn => ?_
    replace H := Hn
    clear Hn
    have hob2 := hob1.le l1
    refine wpR_nil ?_
    refine E_then_normal ?_
    refine C_block ?_
    refine Cs [(34, (ptr b1 0)), (24, (.bool (decide ((n.links - 1) > 0)))), (4, (ptr n.blk 0)), (0, (ptr u 0)), (1, (.int .i64 r))] ?_
    refine C_unroll ?_
    refine C_seq ?_
    refine C_region ?_
    refine S_next H hob2 kS rfl rfl rfl rfl rfl (fun hz1 => ?_) (fun kx1 vy1 lf1 w4 hp1 hok1 hm1 hen1 Hn hst1 => ?_)
    · refine Rv (.bool false) w3 ?_
      refine wpR_nil ?_
      refine E_then_normal ?_
      refine C_seq ?_
      refine C_false rfl ?_
      refine C_exit ?_
      refine E_then_exit ?_
      refine E_then_exit ?_
      refine E_block_here ?_
      refine E_end (res_none rfl) ⟨_, rfl, ?_⟩
      have er1 := getK_er_some hr
      replace H := H.pick 3
      exact ⟨_, (H.keep1 3), (by simp only [letS, er_setK, er_delK, delK_setK, er1]; first | (simp_all; done) | (simp_all; omega)), rfl⟩
    · exfalso; have q1 := hp1.length_eq; rw [h0] at q1; simp [entsV] at q1

set_option linter.unusedVariables false in
set_option linter.unusedSimpArgs false in
set_option maxHeartbeats 4000000 in
set_option maxRecDepth 100000 in
theorem remove_small (u mb : Nat) (q1 q2 nx : Int) (L : List (Int × LNode)) (d : Int) (s : ByteArray) (W : Base) (g w : World) (F : List Atom) (H : SL W g w ((upA Try.prog uty u q1 q2 mb nx L) :: F))  (wf_d : (Lit.int .i64 d).wf = true) (hs : s.size ≤ 9223372036854775807) (hex : ∀ n x, getK L d = some n → getK n.ents s = some x → ∃ m, getK L x = some m ∧ m.ents = [] ∧ 0 ≤ m.links ∧ m.links < 1000000000 ∧ (Lit.int .i64 x).wf = true) : Ret Try.prog 18 #[(ptr u 0), (.int .i64 d), (.string s)] w fun v w' => ∃ g' L', Mono g g' ∧ SL W g' w' (upA Try.prog uty u q1 q2 mb nx L' :: F) ∧ er L' = removeS (er L) d s ∧ v = .int .i64 (removeE (er L) d s) := by
  refine enter (args := [(ptr u 0), (.int .i64 d), (.string s)]) Try.func18 rfl rfl rfl ?_
  refine C_seq ?_
  refine C_region ?_
  refine Rv (.int .i64 0) w ?_
  refine wpR_nil ?_
  refine E_then_normal ?_
  refine C_seq ?_
  refine C_region ?_
  refine Rv (ptr u 0) w ?_
  refine Rv (.int .i64 d) w ?_
  rcases hr1 : getK L d with _ | n1
  · refine Rc #[(ptr u 0), (.int .i64 d)] w (dir_no u mb q1 q2 nx L d _ _ H.sees (H.upR 0 kI) wf_d hr1 ) ?_
    rintro _ w1 ⟨rfl, l1⟩
    replace H := H.le l1
    refine Rv (.tuple #[(.pointer none), (.int .i64 1)]) w1 ?_
    refine Rv (.pointer none) w1 ?_
    refine Rv (.int .i64 1) w1 ?_
    refine Rv (.pointer none) w1 ?_
    refine Rv (.int .i64 1) w1 ?_
    refine wpR_nil ?_
    refine E_then_normal ?_
    refine C_seq ?_
    refine C_seq ?_
    refine Cs [(8, (.int .i64 1)), (7, (.pointer none)), (6, (.int .i64 0)), (0, (ptr u 0)), (1, (.int .i64 d)), (2, (.string s))] ?_
    refine C_region ?_
    refine Rv (.int .i64 1) w1 ?_
    refine Rv (.bool true) w1 ?_
    refine wpR_nil ?_
    refine E_then_normal ?_
    refine C_true rfl ?_
    refine C_seq ?_
    refine Cs [(20, (.bool true)), (8, (.int .i64 1)), (7, (.pointer none)), (6, (.int .i64 0)), (0, (ptr u 0)), (1, (.int .i64 d)), (2, (.string s))] ?_
    refine C_region ?_
    refine Rv (.int .i64 1) w1 ?_
    refine Rv (.int .i64 1) w1 ?_
    refine wpR_nil ?_
    refine E_then_normal ?_
    refine C_ret ?_
    refine E_then_ret ?_
    refine E_ret (res_one rfl rfl) ⟨_, rfl, ?_⟩
    have er_d := getK_er_none hr1
    refine ⟨_, _, (Mono.refl _), H, ?_, ?_⟩
    · (simp only [removeE, removeS, lookE, er_setK]; first | (simp_all [er_setK]; done) | (simp_all [er_setK]; omega))
    · exact congrArg (Value.int .i64) (by (simp only [removeE, removeS, lookE, er_setK]; first | (simp_all [er_setK]; done) | (simp_all [er_setK]; omega)))
  · obtain ⟨l1_n1, l2_n1, l3_n1, l4_n1⟩ := ((H.upR 0 kI).nodes _ _ hr1).lens
    rcases Bool.eq_false_or_eq_true (n1.kind == 1) with c1 | c1
    · have d1 : n1.kind = 1 := eq_of_beq c1
      refine Rc #[(ptr u 0), (.int .i64 d)] w (dir_yes u mb q1 q2 nx L d n1 _ _ H.sees (H.upR 0 kI) wf_d hr1 c1) ?_
      rintro _ w2 ⟨rfl, l2⟩
      replace H := H.le l2
      refine Rv (.tuple #[(ptr n1.blk 0), (.int .i64 0)]) w2 ?_
      refine Rv (ptr n1.blk 0) w2 ?_
      refine Rv (.int .i64 0) w2 ?_
      refine Rv (ptr n1.blk 0) w2 ?_
      refine Rv (.int .i64 0) w2 ?_
      refine wpR_nil ?_
      refine E_then_normal ?_
      refine C_seq ?_
      refine C_seq ?_
      refine Cs [(8, (.int .i64 0)), (7, (ptr n1.blk 0)), (6, (.int .i64 0)), (0, (ptr u 0)), (1, (.int .i64 d)), (2, (.string s))] ?_
      refine C_region ?_
      refine Rv (.int .i64 0) w2 ?_
      refine Rv (.bool false) w2 ?_
      refine wpR_nil ?_
      refine E_then_normal ?_
      refine C_false rfl ?_
      refine C_skip ?_
      refine E_then_normal ?_
      refine C_seq ?_
      refine Cs [(20, (.bool false)), (8, (.int .i64 0)), (7, (ptr n1.blk 0)), (6, (.int .i64 0)), (0, (ptr u 0)), (1, (.int .i64 d)), (2, (.string s))] ?_
      refine C_region ?_
      refine Rv (ptr n1.blk 0) w2 ?_
      refine Rv (ptr n1.blk 0) w2 ?_
      refine Rv (ptr n1.blk 10) w2 ?_
      refine S_load (run_load_one ((H.upR 0 kI).nodes _ _ hr1).blk Try.underlying80 rfl rfl) rfl rfl rfl rfl rfl ?_
      refine Rv (.string s) w2 ?_
      rcases hr2 : getK n1.ents s with _ | x1
      · refine Rw (.tuple #[(.int .i64 0), (.bool false)]) w2 (X_lookup rfl rfl rfl (by have hl := MapV.look true ((H.upR 0 kI).nodes _ _ hr1).ents kS Try.underlying80 (z := (.int .i64 0)) (by kernel_rfl) s (sz_ok (by omega)); rw [getK_ents, hr2] at hl; exact hl)) ?_
        refine Rv (.tuple #[(.int .i64 0), (.bool false)]) w2 ?_
        refine Rv (.int .i64 0) w2 ?_
        refine Rv (.bool false) w2 ?_
        refine Rv (.int .i64 0) w2 ?_
        refine Rv (.bool false) w2 ?_
        refine wpR_nil ?_
        refine E_then_normal ?_
        refine C_seq ?_
        refine C_seq ?_
        refine Cs [(10, (.bool false)), (9, (.int .i64 0)), (20, (.bool false)), (8, (.int .i64 0)), (7, (ptr n1.blk 0)), (6, (.int .i64 0)), (0, (ptr u 0)), (1, (.int .i64 d)), (2, (.string s))] ?_
        refine C_region ?_
        refine Rv (.bool false) w2 ?_
        refine Rv (.bool true) w2 ?_
        refine wpR_nil ?_
        refine E_then_normal ?_
        refine C_true rfl ?_
        refine C_seq ?_
        refine Cs [(32, (.bool true)), (10, (.bool false)), (9, (.int .i64 0)), (20, (.bool false)), (8, (.int .i64 0)), (7, (ptr n1.blk 0)), (6, (.int .i64 0)), (0, (ptr u 0)), (1, (.int .i64 d)), (2, (.string s))] ?_
        refine C_region ?_
        refine Rv (.int .i64 20) w2 ?_
        refine wpR_nil ?_
        refine E_then_normal ?_
        refine C_ret ?_
        refine E_then_ret ?_
        refine E_ret (res_one rfl rfl) ⟨_, rfl, ?_⟩
        have er_d := getK_er_some hr1
        refine ⟨_, _, (Mono.refl _), H, ?_, ?_⟩
        · (simp only [removeE, removeS, lookE, er_setK]; first | (simp_all [er_setK]; done) | (simp_all [er_setK]; omega))
        · exact congrArg (Value.int .i64) (by (simp only [removeE, removeS, lookE, er_setK]; first | (simp_all [er_setK]; done) | (simp_all [er_setK]; omega)))
      · refine Rw (.tuple #[(.int .i64 x1), (.bool true)]) w2 (X_lookup rfl rfl rfl (by have hl := MapV.look true ((H.upR 0 kI).nodes _ _ hr1).ents kS Try.underlying80 (z := (.int .i64 0)) (by kernel_rfl) s (sz_ok (by omega)); rw [getK_ents, hr2] at hl; exact hl)) ?_
        refine Rv (.tuple #[(.int .i64 x1), (.bool true)]) w2 ?_
        refine Rv (.int .i64 x1) w2 ?_
        refine Rv (.bool true) w2 ?_
        refine Rv (.int .i64 x1) w2 ?_
        refine Rv (.bool true) w2 ?_
        refine wpR_nil ?_
        refine E_then_normal ?_
        refine C_seq ?_
        refine C_seq ?_
        refine Cs [(10, (.bool true)), (9, (.int .i64 x1)), (20, (.bool false)), (8, (.int .i64 0)), (7, (ptr n1.blk 0)), (6, (.int .i64 0)), (0, (ptr u 0)), (1, (.int .i64 d)), (2, (.string s))] ?_
        refine C_region ?_
        refine Rv (.bool true) w2 ?_
        refine Rv (.bool false) w2 ?_
        refine wpR_nil ?_
        refine E_then_normal ?_
        refine C_false rfl ?_
        refine C_skip ?_
        refine E_then_normal ?_
        refine C_seq ?_
        refine C_seq ?_
        refine Cs [(32, (.bool false)), (10, (.bool true)), (9, (.int .i64 x1)), (20, (.bool false)), (8, (.int .i64 0)), (7, (ptr n1.blk 0)), (6, (.int .i64 0)), (0, (ptr u 0)), (1, (.int .i64 d)), (2, (.string s))] ?_
        obtain ⟨m0, hx0, h00, hl0, hl1, wf_x⟩ := hex _ _ hr1 hr2
        obtain ⟨l1_m0, l2_m0, l3_m0, l4_m0⟩ := ((H.upR 0 kI).nodes _ _ hx0).lens
        have hne : d ≠ x1 := ne_of_ents hr1 hx0 hr2 h00
        refine C_region ?_
        refine Rv (ptr u 0) w2 ?_
        refine Rv (ptr u 0) w2 ?_
        refine Rv (ptr u 2) w2 ?_
        refine S_load (run_load_one (H.upR 0 kI).ublk Try.underlying83 rfl rfl) rfl rfl rfl rfl rfl ?_
        refine Rv (.int .i64 x1) w2 ?_
        refine Rw (ptr m0.blk 0) w2 (X_lookup rfl rfl rfl (by have hl := MapV.look false (H.upR 0 kI).map kI Try.underlying83 (z := (.pointer none)) (by kernel_rfl) x1 wf_x; rw [getK_ptrs, hx0] at hl; exact hl)) ?_
        refine Rv (ptr m0.blk 0) w2 ?_
        refine Rv (ptr m0.blk 10) w2 ?_
        refine S_load (run_load_one ((H.upR 0 kI).nodes _ _ hx0).blk Try.underlying80 rfl rfl) rfl rfl rfl rfl rfl ?_
        obtain ⟨ob1, hob1⟩ := (((H.upR 0 kI).nodes _ _ hx0).ents)
        refine S_range hob1 Try.underlying80 H rfl rfl rfl rfl rfl fun b1 w3 l3 hne1 Hn => ?_
        replace H := Hn
        clear Hn
        have hob2 := hob1.le l3
        refine wpR_nil ?_
        refine E_then_normal ?_
        refine C_block ?_
        refine Cs [(42, (ptr b1 0)), (32, (.bool false)), (10, (.bool true)), (9, (.int .i64 x1)), (20, (.bool false)), (8, (.int .i64 0)), (7, (ptr n1.blk 0)), (6, (.int .i64 0)), (0, (ptr u 0)), (1, (.int .i64 d)), (2, (.string s))] ?_
        refine C_unroll ?_
        refine C_seq ?_
        refine C_region ?_
        refine S_next H hob2 kS rfl rfl rfl rfl rfl (fun hz1 => ?_) (fun kx1 vy1 lf1 w4 hp1 hok1 hm1 hen1 Hn hst1 => ?_)
        · refine Rv (.bool false) w3 ?_
          refine wpR_nil ?_
          refine E_then_normal ?_
          refine C_seq ?_
          refine C_false rfl ?_
          refine C_exit ?_
          refine E_then_exit ?_
          refine E_then_exit ?_
          refine E_block_here ?_
          refine E_then_normal ?_
          refine C_seq ?_
          refine Cs [(44, (.bool false)), (42, (ptr b1 0)), (32, (.bool false)), (10, (.bool true)), (9, (.int .i64 x1)), (20, (.bool false)), (8, (.int .i64 0)), (7, (ptr n1.blk 0)), (6, (.int .i64 0)), (0, (ptr u 0)), (1, (.int .i64 d)), (2, (.string s))] ?_
          refine C_region ?_
          refine Rv (ptr n1.blk 0) w3 ?_
          refine Rv (ptr n1.blk 0) w3 ?_
          refine Rv (ptr n1.blk 10) w3 ?_
          refine S_load (run_load_one ((H.upR 1 kI).nodes _ _ hr1).blk Try.underlying80 rfl rfl) rfl rfl rfl rfl rfl ?_
          refine Rv (.string s) w3 ?_
          replace H := H.pick 1
          obtain ⟨w5, hu1, Hn⟩ := H.upDel (P := Try.prog) (ty := 0) kI kS hr1 (eq_of_beq c1) Try.underlying80 s (sz_ok (by omega))
          refine R_none (v := .tuple #[]) rfl (by kernel_rfl) rfl (.inl (X_delete rfl rfl rfl hu1)) ?_
          replace H := Hn
          clear Hn
          have hr3 : getK (setK L d { n1 with ents := delK n1.ents s }) d = some { n1 with ents := delK n1.ents s } := getK_setK hr1
          have hr4 : getK (setK L d { n1 with ents := delK n1.ents s }) x1 = some m0 := by rw [getK_setK_ne hne]; exact hx0
          refine wpR_nil ?_
          refine E_then_normal ?_
          refine C_seq ?_
          refine Cs [(44, (.bool false)), (42, (ptr b1 0)), (32, (.bool false)), (10, (.bool true)), (9, (.int .i64 x1)), (20, (.bool false)), (8, (.int .i64 0)), (7, (ptr n1.blk 0)), (6, (.int .i64 0)), (0, (ptr u 0)), (1, (.int .i64 d)), (2, (.string s))] ?_
          refine C_region ?_
          refine Rv (ptr u 0) w5 ?_
          refine Rv (.int .i64 x1) w5 ?_
          refine Rc #[(ptr u 0), (.int .i64 x1)] w5 (let_small u mb q1 q2 nx (setK L d { n1 with ents := delK n1.ents s }) x1 m0 _ _ _ _ H wf_x hr4 h00 hl0 hl1) ?_
          rintro _ w6 ⟨L1, Hn, eL1, rfl⟩
          replace H := Hn
          clear Hn
          refine wpR_nil ?_
          refine E_then_normal ?_
          refine C_seq ?_
          refine Cs [(44, (.bool false)), (42, (ptr b1 0)), (32, (.bool false)), (10, (.bool true)), (9, (.int .i64 x1)), (20, (.bool false)), (8, (.int .i64 0)), (7, (ptr n1.blk 0)), (6, (.int .i64 0)), (0, (ptr u 0)), (1, (.int .i64 d)), (2, (.string s))] ?_
          refine C_region ?_
          refine Rv (.int .i64 0) w6 ?_
          refine wpR_nil ?_
          refine E_then_normal ?_
          refine C_ret ?_
          refine E_ret (res_one rfl rfl) ⟨_, rfl, ?_⟩
          have er_d := getK_er_some hr1
          refine ⟨_, _, (Mono.refl _), (H.keep1 1), ?_, ?_⟩
          · (simp only [removeE, removeS, lookE, er_setK]; first | (simp_all [er_setK]; done) | (simp_all [er_setK]; omega))
          · exact congrArg (Value.int .i64) (by (simp only [removeE, removeS, lookE, er_setK]; first | (simp_all [er_setK]; done) | (simp_all [er_setK]; omega)))
        · exfalso; have q1 := hp1.length_eq; rw [h00] at q1; simp [entsV] at q1
    · have d1 : n1.kind ≠ 1 := ne_of_beq_false c1
      refine Rc #[(ptr u 0), (.int .i64 d)] w (dir_bad u mb q1 q2 nx L d n1 _ _ H.sees (H.upR 0 kI) wf_d hr1 c1) ?_
      rintro _ w7 ⟨rfl, l4⟩
      replace H := H.le l4
      refine Rv (.tuple #[(ptr n1.blk 0), (.int .i64 24)]) w7 ?_
      refine Rv (ptr n1.blk 0) w7 ?_
      refine Rv (.int .i64 24) w7 ?_
      refine Rv (ptr n1.blk 0) w7 ?_
      refine Rv (.int .i64 24) w7 ?_
      refine wpR_nil ?_
      refine E_then_normal ?_
      refine C_seq ?_
      refine C_seq ?_
      refine Cs [(8, (.int .i64 24)), (7, (ptr n1.blk 0)), (6, (.int .i64 0)), (0, (ptr u 0)), (1, (.int .i64 d)), (2, (.string s))] ?_
      refine C_region ?_
      refine Rv (.int .i64 24) w7 ?_
      refine Rv (.bool true) w7 ?_
      refine wpR_nil ?_
      refine E_then_normal ?_
      refine C_true rfl ?_
      refine C_seq ?_
      refine Cs [(20, (.bool true)), (8, (.int .i64 24)), (7, (ptr n1.blk 0)), (6, (.int .i64 0)), (0, (ptr u 0)), (1, (.int .i64 d)), (2, (.string s))] ?_
      refine C_region ?_
      refine Rv (.int .i64 24) w7 ?_
      refine Rv (.int .i64 24) w7 ?_
      refine wpR_nil ?_
      refine E_then_normal ?_
      refine C_ret ?_
      refine E_then_ret ?_
      refine E_ret (res_one rfl rfl) ⟨_, rfl, ?_⟩
      have er_d := getK_er_some hr1
      refine ⟨_, _, (Mono.refl _), H, ?_, ?_⟩
      · (simp only [removeE, removeS, lookE, er_setK]; first | (simp_all [er_setK]; done) | (simp_all [er_setK]; omega))
      · exact congrArg (Value.int .i64) (by (simp only [removeE, removeS, lookE, er_setK]; first | (simp_all [er_setK]; done) | (simp_all [er_setK]; omega)))

set_option linter.unusedVariables false in
set_option linter.unusedSimpArgs false in
set_option maxHeartbeats 4000000 in
set_option maxRecDepth 100000 in
theorem xattrsM_no (u mb : Nat) (q1 q2 nx : Int) (L : List (Int × LNode)) (r : Int) (g w : World) (sees : Sees g w)  (hU : UpR Try.prog uty g w u q1 q2 mb nx L) (wf_r : (Lit.int .i64 r).wf = true) (hr : getK L r = none) : Ret Try.prog 13 #[(ptr u 0), (.int .i64 r)] w fun v w' => ∃ vb, v = .tuple #[vb, .int .i64 1] ∧ Is (graft g w w') vb ([] : List XattrD) ∧ Le w w' := by
  have H := SL.start sees
  refine enter (args := [(ptr u 0), (.int .i64 r)]) Try.func13 rfl rfl rfl ?_
  refine C_seq ?_
  refine C_region ?_
  refine Rv (.slice none 0 0) w ?_
  refine Rv (.int .i64 0) w ?_
  refine wpR_nil ?_
  refine E_then_normal ?_
  refine C_seq ?_
  refine C_region ?_
  refine Rv (ptr u 0) w ?_
  refine Rv (.int .i64 r) w ?_
  refine Rc #[(ptr u 0), (.int .i64 r)] w (at_no u mb q1 q2 nx L r _ _ H.sees (hU.le H.toLe) wf_r hr) ?_
  rintro _ w1 ⟨rfl, l1⟩
  replace H := H.le l1
  refine Rv (.tuple #[(.pointer none), (.int .i64 1)]) w1 ?_
  refine Rv (.pointer none) w1 ?_
  refine Rv (.int .i64 1) w1 ?_
  refine Rv (.pointer none) w1 ?_
  refine Rv (.int .i64 1) w1 ?_
  refine wpR_nil ?_
  refine E_then_normal ?_
  refine C_seq ?_
  refine C_seq ?_
  refine Cs [(7, (.int .i64 1)), (6, (.pointer none)), (5, (.int .i64 0)), (4, (.slice none 0 0)), (0, (ptr u 0)), (1, (.int .i64 r))] ?_
  refine C_region ?_
  refine Rv (.int .i64 1) w1 ?_
  refine Rv (.bool true) w1 ?_
  refine wpR_nil ?_
  refine E_then_normal ?_
  refine C_true rfl ?_
  refine C_seq ?_
  refine Cs [(15, (.bool true)), (7, (.int .i64 1)), (6, (.pointer none)), (5, (.int .i64 0)), (4, (.slice none 0 0)), (0, (ptr u 0)), (1, (.int .i64 r))] ?_
  refine C_region ?_
  refine Rv (.int .i64 1) w1 ?_
  refine Rv (.slice none 0 0) w1 ?_
  refine Rv (.int .i64 1) w1 ?_
  refine wpR_nil ?_
  refine E_then_normal ?_
  refine C_ret ?_
  refine E_then_ret ?_
  refine E_ret (res_two rfl rfl rfl) ⟨_, rfl, ?_⟩
  exact ⟨_, rfl, is_nil _, H.toLe⟩

set_option linter.unusedVariables false in
set_option linter.unusedSimpArgs false in
set_option maxHeartbeats 4000000 in
set_option maxRecDepth 100000 in
theorem xattrsM_yes (u mb : Nat) (q1 q2 nx : Int) (L : List (Int × LNode)) (r : Int) (n : LNode) (g w : World) (sees : Sees g w)  (hU : UpR Try.prog uty g w u q1 q2 mb nx L) (wf_r : (Lit.int .i64 r).wf = true) (hr : getK L r = some n) (hb0 : n.xattrs.length ≤ 1000000) (hbb : ∀ x ∈ n.xattrs, x.v.2.1.length ≤ 1000000000000) : Ret Try.prog 13 #[(ptr u 0), (.int .i64 r)] w fun v w' => ∃ vb, v = .tuple #[vb, .int .i64 0] ∧ Is (graft g w w') vb n.xattrs ∧ Le w w' := by
  have H := SL.start sees
  obtain ⟨l1_n, l2_n, l3_n, l4_n⟩ := (hU.nodes _ _ hr).lens
  refine enter (args := [(ptr u 0), (.int .i64 r)]) Try.func13 rfl rfl rfl ?_
  refine C_seq ?_
  refine C_region ?_
  refine Rv (.slice none 0 0) w ?_
  refine Rv (.int .i64 0) w ?_
  refine wpR_nil ?_
  refine E_then_normal ?_
  refine C_seq ?_
  refine C_region ?_
  refine Rv (ptr u 0) w ?_
  refine Rv (.int .i64 r) w ?_
  refine Rc #[(ptr u 0), (.int .i64 r)] w (at_yes u mb q1 q2 nx L r n _ _ H.sees (hU.le H.toLe) wf_r hr) ?_
  rintro _ w1 ⟨rfl, l1⟩
  replace H := H.le l1
  refine Rv (.tuple #[(ptr n.blk 0), (.int .i64 0)]) w1 ?_
  refine Rv (ptr n.blk 0) w1 ?_
  refine Rv (.int .i64 0) w1 ?_
  refine Rv (ptr n.blk 0) w1 ?_
  refine Rv (.int .i64 0) w1 ?_
  refine wpR_nil ?_
  refine E_then_normal ?_
  refine C_seq ?_
  refine C_seq ?_
  refine Cs [(7, (.int .i64 0)), (6, (ptr n.blk 0)), (5, (.int .i64 0)), (4, (.slice none 0 0)), (0, (ptr u 0)), (1, (.int .i64 r))] ?_
  refine C_region ?_
  refine Rv (.int .i64 0) w1 ?_
  refine Rv (.bool false) w1 ?_
  refine wpR_nil ?_
  refine E_then_normal ?_
  refine C_false rfl ?_
  refine C_skip ?_
  refine E_then_normal ?_
  refine C_seq ?_
  refine Cs [(15, (.bool false)), (7, (.int .i64 0)), (6, (ptr n.blk 0)), (5, (.int .i64 0)), (4, (.slice none 0 0)), (0, (ptr u 0)), (1, (.int .i64 r))] ?_
  refine C_region ?_
  refine Rv (ptr n.blk 0) w1 ?_
  refine Rv (ptr n.blk 0) w1 ?_
  refine Rv (ptr n.blk 0) w1 ?_
  refine Rv (ptr n.blk 8) w1 ?_
  refine S_load (run_load_one ((hU.le H.toLe).nodes _ _ hr).blk Try.underlying26 rfl rfl) rfl rfl rfl rfl rfl ?_
  refine Rc #[n.vx] w1 (attributes_any n.xattrs n.vx _ _ H.sees (((hU.le H.toLe).nodes _ _ hr).xattrs) (by omega) (by assumption)) ?_
  rintro v1 w2 ⟨hx1, l2⟩
  obtain ⟨g1, hg1, m1, H⟩ := H.data l2
  rw [hg1] at hx1
  have ln_hx1 := hx1.len_le
  refine Rv v1 w2 ?_
  refine Rv (.int .i64 0) w2 ?_
  refine wpR_nil ?_
  refine E_then_normal ?_
  refine C_ret ?_
  refine E_ret (res_two rfl rfl rfl) ⟨_, rfl, ?_⟩
  exact ⟨_, rfl, (hx1.mono (H.fin sees)), H.toLe⟩
end Go.Proofs.Ytnmaehdklmgfmaa
