/- What the methods of layer 17 that write come to. (Printed by a program of mine.) -/
import Derived.Test.YtnmaehdklmgfmaaUpB
import Derived.Test.YtnmaehdklmgfmaaLmGC
namespace Go.Proofs.Ytnmaehdklmgfmaa
open Go Go.RowKit Go.Lm
set_option linter.unusedVariables false in
set_option linter.unusedSimpArgs false in
set_option maxHeartbeats 4000000 in
set_option maxRecDepth 100000 in
theorem sized_any (b : List UInt8) (vb : Value) (n : Int) (W : Base) (g w : World) (F : List Atom) (H : SL W g w (F)) (h_b : Is g vb b) (h0 : 0 ≤ n) (h1 : n ≤ 281474976710656) : Ret Try.prog 40 #[vb, (.int .i64 n)] w fun v w' => ∃ k, v = .slice (some ⟨k, 0, none⟩) n.toNat n.toNat ∧ SL W g w' (slA 5 v (sizedL b n) :: F) := by
  have ln_h_b := h_b.len_le
  refine enter (args := [vb, (.int .i64 n)]) Try.func40 rfl rfl rfl ?_
  refine C_seq ?_
  refine C_region ?_
  refine Rv (.slice none 0 0) w ?_
  refine wpR_nil ?_
  refine E_then_normal ?_
  refine C_seq ?_
  refine C_region ?_
  refine Rv (.int .i64 n) w ?_
  refine S_makeB H Try.underlying25 (by kernel_rfl) (by omega) (by omega) rfl rfl rfl rfl rfl rfl fun b1 w1 Hn => ?_
  replace H := Hn
  clear Hn
  refine Rv (.slice (some ⟨b1, 0, none⟩) (n : Int).toNat (n : Int).toNat) w1 ?_
  refine wpR_nil ?_
  refine E_then_normal ?_
  refine C_seq ?_
  refine Cs [(5, (.slice (some ⟨b1, 0, none⟩) (n : Int).toNat (n : Int).toNat)), (4, (.slice none 0 0)), (0, vb), (1, (.int .i64 n))] ?_
  refine C_region ?_
  refine Rv (.slice (some ⟨b1, 0, none⟩) (n : Int).toNat (n : Int).toNat) w1 ?_
  refine Rv vb w1 ?_
  refine S_copyV (off := 0) H (by rw [List.length_replicate]) (Is.rd h_b H.m) (by first | omega | (simp; done) | (simp; omega)) (by first | omega | (simp; done) | (simp; omega)) Try.underlying25 (by kernel_rfl) (sliceV_at (by rw [List.length_replicate])) rfl rfl rfl rfl rfl rfl fun w2 Hn => ?_
  replace H := Hn
  clear Hn
  refine wpR_nil ?_
  refine E_then_normal ?_
  refine C_seq ?_
  refine Cs [(5, (.slice (some ⟨b1, 0, none⟩) (n : Int).toNat (n : Int).toNat)), (4, (.slice none 0 0)), (0, vb), (1, (.int .i64 n))] ?_
  refine C_region ?_
  refine Rv (.slice (some ⟨b1, 0, none⟩) (n : Int).toNat (n : Int).toNat) w2 ?_
  refine Rv (.slice (some ⟨b1, 0, none⟩) (n : Int).toNat (n : Int).toNat) w2 ?_
  refine wpR_nil ?_
  refine E_then_normal ?_
  refine C_ret ?_
  refine E_ret (res_one rfl rfl) ⟨_, rfl, ?_⟩
  exact ⟨_, rfl, H⟩

set_option linter.unusedVariables false in
set_option linter.unusedSimpArgs false in
set_option maxHeartbeats 4000000 in
set_option maxRecDepth 100000 in
theorem resize_any (u mb : Nat) (q1 q2 nx : Int) (L : List (Int × LNode)) (r k : Int) (W : Base) (g w : World) (F : List Atom) (H : SL W g w ((upA Try.prog uty u q1 q2 mb nx L) :: F))  (wf_r : (Lit.int .i64 r).wf = true) : Ret Try.prog 19 #[(ptr u 0), (.int .i64 r), (.int .i64 k)] w fun v w' => ∃ g' L', Mono g g' ∧ SL W g' w' (upA Try.prog uty u q1 q2 mb nx L' :: F) ∧ er L' = resizeU (er L) r k ∧ v = .int .i64 (resizeE (er L) r k) := by
  refine enter (args := [(ptr u 0), (.int .i64 r), (.int .i64 k)]) Try.func19 rfl rfl rfl ?_
  refine C_seq ?_
  refine C_region ?_
  refine Rv (.int .i64 0) w ?_
  refine wpR_nil ?_
  refine E_then_normal ?_
  refine C_seq ?_
  refine C_region ?_
  refine Rv (ptr u 0) w ?_
  refine Rv (.int .i64 r) w ?_
  rcases hr1 : getK L r with _ | n1
  · refine Rc #[(ptr u 0), (.int .i64 r)] w (file_no u mb q1 q2 nx L r _ _ H.sees (H.upR 0 kI) wf_r hr1 ) ?_
    rintro _ w1 ⟨rfl, l1⟩
    replace H := H.le l1
    refine Rv (.tuple #[(.pointer none), (.int .i64 1)]) w1 ?_
    refine Rv (.pointer none) w1 ?_
    refine Rv (.int .i64 1) w1 ?_
    refine Rv (.pointer none) w1 ?_
    refine Rv (.int .i64 1) w1 ?_
    refine wpR_nil ?_
    refine E_then_normal ?_
    refine C_seq ?_
    refine C_block ?_
    refine C_seq ?_
    refine Cs [(8, (.int .i64 1)), (7, (.pointer none)), (6, (.int .i64 0)), (0, (ptr u 0)), (1, (.int .i64 r)), (2, (.int .i64 k))] ?_
    refine C_region ?_
    refine Rv (.int .i64 1) w1 ?_
    refine Rv (.bool true) w1 ?_
    refine Rv (.bool true) w1 ?_
    refine wpR_nil ?_
    refine E_then_normal ?_
    refine C_true rfl ?_
    refine C_seq ?_
    refine Cs [(15, (.bool true)), (8, (.int .i64 1)), (7, (.pointer none)), (6, (.int .i64 0)), (0, (ptr u 0)), (1, (.int .i64 r)), (2, (.int .i64 k))] ?_
    refine C_region ?_
    refine Rv (.int .i64 1) w1 ?_
    refine Rv (.int .i64 1) w1 ?_
    refine wpR_nil ?_
    refine E_then_normal ?_
    refine C_ret ?_
    refine E_block_ret ?_
    refine E_then_ret ?_
    refine E_ret (res_one rfl rfl) ⟨_, rfl, ?_⟩
    have er1 := getK_er_none hr1
    refine ⟨_, _, (Mono.refl _), H, ?_, ?_⟩
    · (simp only [resizeU, resizeE, fileE, er_setK]; first | (simp_all; done) | (simp_all; omega))
    · exact congrArg (Value.int .i64) (by (simp only [resizeU, resizeE, fileE, er_setK]; first | (simp_all; done) | (simp_all; omega)))
  · obtain ⟨l1_n1, l2_n1, l3_n1, l4_n1⟩ := ((H.upR 0 kI).nodes _ _ hr1).lens
    rcases Bool.eq_false_or_eq_true (n1.kind == 2) with c1 | c1
    · have d1 : n1.kind = 2 := eq_of_beq c1
      refine Rc #[(ptr u 0), (.int .i64 r)] w (file_yes u mb q1 q2 nx L r n1 _ _ H.sees (H.upR 0 kI) wf_r hr1 c1) ?_
      rintro _ w2 ⟨rfl, l2⟩
      replace H := H.le l2
      refine Rv (.tuple #[(ptr n1.blk 0), (.int .i64 0)]) w2 ?_
      refine Rv (ptr n1.blk 0) w2 ?_
      refine Rv (.int .i64 0) w2 ?_
      refine Rv (ptr n1.blk 0) w2 ?_
      refine Rv (.int .i64 0) w2 ?_
      refine wpR_nil ?_
      refine E_then_normal ?_
      refine C_seq ?_
      refine C_block ?_
      refine C_seq ?_
      refine Cs [(8, (.int .i64 0)), (7, (ptr n1.blk 0)), (6, (.int .i64 0)), (0, (ptr u 0)), (1, (.int .i64 r)), (2, (.int .i64 k))] ?_
      refine C_region ?_
      refine Rv (.int .i64 0) w2 ?_
      refine Rv (.bool false) w2 ?_
      refine Rv (.bool false) w2 ?_
      refine wpR_nil ?_
      refine E_then_normal ?_
      refine C_false rfl ?_
      refine C_seq ?_
      refine Cs [(15, (.bool false)), (8, (.int .i64 0)), (7, (ptr n1.blk 0)), (6, (.int .i64 0)), (0, (ptr u 0)), (1, (.int .i64 r)), (2, (.int .i64 k))] ?_
      refine C_region ?_
      refine Rv (.int .i64 k) w2 ?_
      refine Rv (.bool (decide (k < 0))) w2 ?_
      refine Rv (.bool (decide (k < 0))) w2 ?_
      refine wpR_nil ?_
      refine E_then_normal ?_
      refine C_cond rfl (fun c2 => ?_) (fun c2 => ?_)
      · have d2 : k < 0 := of_decide_eq_true c2
        refine C_seq ?_
        refine Cs [(19, (.bool (decide (k < 0)))), (15, (.bool false)), (8, (.int .i64 0)), (7, (ptr n1.blk 0)), (6, (.int .i64 0)), (0, (ptr u 0)), (1, (.int .i64 r)), (2, (.int .i64 k))] ?_
        refine C_region ?_
        refine Rv (.int .i64 1) w2 ?_
        refine wpR_nil ?_
        refine E_then_normal ?_
        refine C_ret ?_
        refine E_block_ret ?_
        refine E_then_ret ?_
        refine E_ret (res_one rfl rfl) ⟨_, rfl, ?_⟩
        have er1 := getK_er_some hr1
        refine ⟨_, _, (Mono.refl _), H, ?_, ?_⟩
        · (simp only [resizeU, resizeE, fileE, er_setK]; first | (simp_all; done) | (simp_all; omega))
        · exact congrArg (Value.int .i64) (by (simp only [resizeU, resizeE, fileE, er_setK]; first | (simp_all; done) | (simp_all; omega)))
      · have d2 : ¬ k < 0 := of_decide_eq_false c2
        refine C_seq ?_
        refine Cs [(19, (.bool (decide (k < 0)))), (15, (.bool false)), (8, (.int .i64 0)), (7, (ptr n1.blk 0)), (6, (.int .i64 0)), (0, (ptr u 0)), (1, (.int .i64 r)), (2, (.int .i64 k))] ?_
        refine C_region ?_
        refine Rv (.int .i64 k) w2 ?_
        refine Rv (.bool (decide (k > 4096))) w2 ?_
        refine Rv (.bool (decide (k > 4096))) w2 ?_
        refine wpR_nil ?_
        refine E_then_normal ?_
        refine C_cond rfl (fun c3 => ?_) (fun c3 => ?_)
        · have d3 : k > 4096 := of_decide_eq_true c3
          refine C_seq ?_
          refine Cs [(22, (.bool (decide (k > 4096)))), (19, (.bool (decide (k < 0)))), (15, (.bool false)), (8, (.int .i64 0)), (7, (ptr n1.blk 0)), (6, (.int .i64 0)), (0, (ptr u 0)), (1, (.int .i64 r)), (2, (.int .i64 k))] ?_
          refine C_region ?_
          refine Rv (.int .i64 3) w2 ?_
          refine wpR_nil ?_
          refine E_then_normal ?_
          refine C_ret ?_
          refine E_block_ret ?_
          refine E_then_ret ?_
          refine E_ret (res_one rfl rfl) ⟨_, rfl, ?_⟩
          have er1 := getK_er_some hr1
          refine ⟨_, _, (Mono.refl _), H, ?_, ?_⟩
          · (simp only [resizeU, resizeE, fileE, er_setK]; first | (simp_all; done) | (simp_all; omega))
          · exact congrArg (Value.int .i64) (by (simp only [resizeU, resizeE, fileE, er_setK]; first | (simp_all; done) | (simp_all; omega)))
        · have d3 : ¬ k > 4096 := of_decide_eq_false c3
          refine C_skip ?_
          refine E_block_normal ?_
          refine E_then_normal ?_
          refine C_seq ?_
          refine Cs [(22, (.bool (decide (k > 4096)))), (19, (.bool (decide (k < 0)))), (15, (.bool false)), (8, (.int .i64 0)), (7, (ptr n1.blk 0)), (6, (.int .i64 0)), (0, (ptr u 0)), (1, (.int .i64 r)), (2, (.int .i64 k))] ?_
          obtain ⟨B1, H, back1⟩ := H.upNode2 kI hr1
          obtain ⟨od1, ox1, ot1, ov1, H⟩ := H.nodeO
          refine C_region ?_
          refine Rv (ptr n1.blk 0) w2 ?_
          refine Rv (ptr n1.blk 0) w2 ?_
          refine Rv (ptr n1.blk 0) w2 ?_
          refine Rv (ptr n1.blk 0) w2 ?_
          refine Rv (ptr n1.blk 6) w2 ?_
          refine S_load (run_load_one (H.blk 0) Try.underlying25 rfl rfl) rfl rfl rfl rfl rfl ?_
          refine Rv (.int .i64 k) w2 ?_
          refine Rc #[n1.vd, (.int .i64 k)] w2 (sized_any n1.data n1.vd k _ _ _ _ H od1 (by omega) (by omega)) ?_
          rintro _ w3 ⟨k1, rfl, Hn⟩
          replace H := Hn
          clear Hn
          refine Rv (ptr n1.blk 0) w3 ?_
          refine Rv (ptr n1.blk 0) w3 ?_
          refine Rv (ptr n1.blk 6) w3 ?_
          refine S_store (H.blk 1) rfl rfl rfl rfl rfl (by kernel_rfl) (one_all (l := [(.slice (some ⟨k1, 0, none⟩) (k : Int).toNat (k : Int).toNat)]) ⟨one_is (H.slIs (α := UInt8) (e := 5) (v := (.slice (some ⟨k1, 0, none⟩) (k : Int).toNat (k : Int).toNat)) (xs := (sizedL n1.data k)) 0), trivial⟩) (Nat.le_of_ble_eq_true rfl) #[(.slice none 0 0), (.int .i64 0), (.int .i64 n1.kind), (.int .i64 n1.mode), (.int .i64 n1.uid), (.int .i64 n1.gid), (.slice (some ⟨k1, 0, none⟩) (k : Int).toNat (k : Int).toNat), (.string n1.target), n1.vx, (.bool n1.opq), n1.vi, (.int .i64 n1.up), (.int .i64 n1.links)] rfl fun w4 u1 => ?_
          replace H := H.upd 1 u1
          refine wpR_nil ?_
          refine E_then_normal ?_
          refine C_seq ?_
          refine Cs [(22, (.bool (decide (k > 4096)))), (19, (.bool (decide (k < 0)))), (15, (.bool false)), (8, (.int .i64 0)), (7, (ptr n1.blk 0)), (6, (.int .i64 0)), (0, (ptr u 0)), (1, (.int .i64 r)), (2, (.int .i64 k))] ?_
          obtain ⟨g1, m1, H, hx1⟩ := H.slHold 0
          have ln_hx1 := hx1.len_le
          replace H := H.pick 2
          replace H := H.pick 2
          replace H := H.pick 2
          replace H := back1 _ _ ({ n1 with vd := (.slice (some ⟨k1, 0, none⟩) (k : Int).toNat (k : Int).toNat), data := (sizedL n1.data k) }) _ rfl (SL.nodeI (n := { n1 with vd := (.slice (some ⟨k1, 0, none⟩) (k : Int).toNat (k : Int).toNat), data := (sizedL n1.data k) }) hx1 (ox1.mono m1) ot1 ov1 H)
          have hr2 : getK (setK L r { n1 with vd := (.slice (some ⟨k1, 0, none⟩) (k : Int).toNat (k : Int).toNat), data := (sizedL n1.data k) }) r = some { n1 with vd := (.slice (some ⟨k1, 0, none⟩) (k : Int).toNat (k : Int).toNat), data := (sizedL n1.data k) } := getK_setK hr1
          refine C_region ?_
          refine Rv (.int .i64 0) w4 ?_
          refine wpR_nil ?_
          refine E_then_normal ?_
          refine C_ret ?_
          refine E_ret (res_one rfl rfl) ⟨_, rfl, ?_⟩
          have er1 := getK_er_some hr1
          refine ⟨_, _, m1, H, ?_, ?_⟩
          · (simp only [resizeU, resizeE, fileE, er_setK]; first | (simp_all; done) | (simp_all; omega))
          · exact congrArg (Value.int .i64) (by (simp only [resizeU, resizeE, fileE, er_setK]; first | (simp_all; done) | (simp_all; omega)))
    · have d1 : n1.kind ≠ 2 := ne_of_beq_false c1
      rcases Bool.eq_false_or_eq_true (n1.kind == 1) with c4 | c4
      · have d4 : n1.kind = 1 := eq_of_beq c4
        refine Rc #[(ptr u 0), (.int .i64 r)] w (file_dir u mb q1 q2 nx L r n1 _ _ H.sees (H.upR 0 kI) wf_r hr1 c4) ?_
        rintro _ w5 ⟨rfl, l3⟩
        replace H := H.le l3
        refine Rv (.tuple #[(ptr n1.blk 0), (.int .i64 25)]) w5 ?_
        refine Rv (ptr n1.blk 0) w5 ?_
        refine Rv (.int .i64 25) w5 ?_
        refine Rv (ptr n1.blk 0) w5 ?_
        refine Rv (.int .i64 25) w5 ?_
        refine wpR_nil ?_
        refine E_then_normal ?_
        refine C_seq ?_
        refine C_block ?_
        refine C_seq ?_
        refine Cs [(8, (.int .i64 25)), (7, (ptr n1.blk 0)), (6, (.int .i64 0)), (0, (ptr u 0)), (1, (.int .i64 r)), (2, (.int .i64 k))] ?_
        refine C_region ?_
        refine Rv (.int .i64 25) w5 ?_
        refine Rv (.bool true) w5 ?_
        refine Rv (.bool true) w5 ?_
        refine wpR_nil ?_
        refine E_then_normal ?_
        refine C_true rfl ?_
        refine C_seq ?_
        refine Cs [(15, (.bool true)), (8, (.int .i64 25)), (7, (ptr n1.blk 0)), (6, (.int .i64 0)), (0, (ptr u 0)), (1, (.int .i64 r)), (2, (.int .i64 k))] ?_
        refine C_region ?_
        refine Rv (.int .i64 25) w5 ?_
        refine Rv (.int .i64 25) w5 ?_
        refine wpR_nil ?_
        refine E_then_normal ?_
        refine C_ret ?_
        refine E_block_ret ?_
        refine E_then_ret ?_
        refine E_ret (res_one rfl rfl) ⟨_, rfl, ?_⟩
        have er1 := getK_er_some hr1
        refine ⟨_, _, (Mono.refl _), H, ?_, ?_⟩
        · (simp only [resizeU, resizeE, fileE, er_setK]; first | (simp_all; done) | (simp_all; omega))
        · exact congrArg (Value.int .i64) (by (simp only [resizeU, resizeE, fileE, er_setK]; first | (simp_all; done) | (simp_all; omega)))
      · have d4 : n1.kind ≠ 1 := ne_of_beq_false c4
        refine Rc #[(ptr u 0), (.int .i64 r)] w (file_bad u mb q1 q2 nx L r n1 _ _ H.sees (H.upR 0 kI) wf_r hr1 c4 c1) ?_
        rintro _ w6 ⟨rfl, l4⟩
        replace H := H.le l4
        refine Rv (.tuple #[(ptr n1.blk 0), (.int .i64 1)]) w6 ?_
        refine Rv (ptr n1.blk 0) w6 ?_
        refine Rv (.int .i64 1) w6 ?_
        refine Rv (ptr n1.blk 0) w6 ?_
        refine Rv (.int .i64 1) w6 ?_
        refine wpR_nil ?_
        refine E_then_normal ?_
        refine C_seq ?_
        refine C_block ?_
        refine C_seq ?_
        refine Cs [(8, (.int .i64 1)), (7, (ptr n1.blk 0)), (6, (.int .i64 0)), (0, (ptr u 0)), (1, (.int .i64 r)), (2, (.int .i64 k))] ?_
        refine C_region ?_
        refine Rv (.int .i64 1) w6 ?_
        refine Rv (.bool true) w6 ?_
        refine Rv (.bool true) w6 ?_
        refine wpR_nil ?_
        refine E_then_normal ?_
        refine C_true rfl ?_
        refine C_seq ?_
        refine Cs [(15, (.bool true)), (8, (.int .i64 1)), (7, (ptr n1.blk 0)), (6, (.int .i64 0)), (0, (ptr u 0)), (1, (.int .i64 r)), (2, (.int .i64 k))] ?_
        refine C_region ?_
        refine Rv (.int .i64 1) w6 ?_
        refine Rv (.int .i64 1) w6 ?_
        refine wpR_nil ?_
        refine E_then_normal ?_
        refine C_ret ?_
        refine E_block_ret ?_
        refine E_then_ret ?_
        refine E_ret (res_one rfl rfl) ⟨_, rfl, ?_⟩
        have er1 := getK_er_some hr1
        refine ⟨_, _, (Mono.refl _), H, ?_, ?_⟩
        · (simp only [resizeU, resizeE, fileE, er_setK]; first | (simp_all; done) | (simp_all; omega))
        · exact congrArg (Value.int .i64) (by (simp only [resizeU, resizeE, fileE, er_setK]; first | (simp_all; done) | (simp_all; omega)))

set_option linter.unusedVariables false in
set_option linter.unusedSimpArgs false in
set_option maxHeartbeats 4000000 in
set_option maxRecDepth 100000 in
theorem write_any (u mb : Nat) (q1 q2 nx : Int) (L : List (Int × LNode)) (r off : Int) (b : List UInt8) (vb : Value) (W : Base) (g w : World) (F : List Atom) (H : SL W g w ((upA Try.prog uty u q1 q2 mb nx L) :: F)) (h_b : Is g vb b) (wf_r : (Lit.int .i64 r).wf = true) (hdb : ∀ n, getK L r = some n → n.data.length ≤ 1000000) : Ret Try.prog 20 #[(ptr u 0), (.int .i64 r), (.int .i64 off), vb] w fun v w' => ∃ g' L', Mono g g' ∧ SL W g' w' (upA Try.prog uty u q1 q2 mb nx L' :: F) ∧ er L' = writeU (er L) r off b ∧ v = .int .i64 (writeE (er L) r off b) := by
  have ln_h_b := h_b.len_le
  refine enter (args := [(ptr u 0), (.int .i64 r), (.int .i64 off), vb]) Try.func20 rfl rfl rfl ?_
  refine C_seq ?_
  refine C_region ?_
  refine Rv (.int .i64 0) w ?_
  refine wpR_nil ?_
  refine E_then_normal ?_
  refine C_seq ?_
  refine C_region ?_
  refine Rv (ptr u 0) w ?_
  refine Rv (.int .i64 r) w ?_
  rcases hr1 : getK L r with _ | n1
  · refine Rc #[(ptr u 0), (.int .i64 r)] w (file_no u mb q1 q2 nx L r _ _ H.sees (H.upR 0 kI) wf_r hr1 ) ?_
    rintro _ w1 ⟨rfl, l1⟩
    replace H := H.le l1
    refine Rv (.tuple #[(.pointer none), (.int .i64 1)]) w1 ?_
    refine Rv (.pointer none) w1 ?_
    refine Rv (.int .i64 1) w1 ?_
    refine Rv (.pointer none) w1 ?_
    refine Rv (.int .i64 1) w1 ?_
    refine wpR_nil ?_
    refine E_then_normal ?_
    refine C_seq ?_
    refine C_block ?_
    refine C_seq ?_
    refine Cs [(10, (.int .i64 1)), (9, (.pointer none)), (8, (.int .i64 0)), (0, (ptr u 0)), (1, (.int .i64 r)), (2, (.int .i64 off)), (3, vb)] ?_
    refine C_region ?_
    refine Rv (.int .i64 1) w1 ?_
    refine Rv (.bool true) w1 ?_
    refine Rv (.bool true) w1 ?_
    refine wpR_nil ?_
    refine E_then_normal ?_
    refine C_true rfl ?_
    refine C_seq ?_
    refine Cs [(17, (.bool true)), (10, (.int .i64 1)), (9, (.pointer none)), (8, (.int .i64 0)), (0, (ptr u 0)), (1, (.int .i64 r)), (2, (.int .i64 off)), (3, vb)] ?_
    refine C_region ?_
    refine Rv (.int .i64 1) w1 ?_
    refine Rv (.int .i64 1) w1 ?_
    refine wpR_nil ?_
    refine E_then_normal ?_
    refine C_ret ?_
    refine E_block_ret ?_
    refine E_then_ret ?_
    refine E_ret (res_one rfl rfl) ⟨_, rfl, ?_⟩
    have er1 := getK_er_none hr1
    refine ⟨_, _, (Mono.refl _), H, ?_, ?_⟩
    · (simp only [writeU, writeE, fileE, writeL, er_setK]; first | (simp_all; done) | (simp_all; omega))
    · exact congrArg (Value.int .i64) (by (simp only [writeU, writeE, fileE, writeL, er_setK]; first | (simp_all; done) | (simp_all; omega)))
  · have bd_n1 := hdb _ hr1
    obtain ⟨l1_n1, l2_n1, l3_n1, l4_n1⟩ := ((H.upR 0 kI).nodes _ _ hr1).lens
    rcases Bool.eq_false_or_eq_true (n1.kind == 2) with c1 | c1
    · have d1 : n1.kind = 2 := eq_of_beq c1
      refine Rc #[(ptr u 0), (.int .i64 r)] w (file_yes u mb q1 q2 nx L r n1 _ _ H.sees (H.upR 0 kI) wf_r hr1 c1) ?_
      rintro _ w2 ⟨rfl, l2⟩
      replace H := H.le l2
      refine Rv (.tuple #[(ptr n1.blk 0), (.int .i64 0)]) w2 ?_
      refine Rv (ptr n1.blk 0) w2 ?_
      refine Rv (.int .i64 0) w2 ?_
      refine Rv (ptr n1.blk 0) w2 ?_
      refine Rv (.int .i64 0) w2 ?_
      refine wpR_nil ?_
      refine E_then_normal ?_
      refine C_seq ?_
      refine C_block ?_
      refine C_seq ?_
      refine Cs [(10, (.int .i64 0)), (9, (ptr n1.blk 0)), (8, (.int .i64 0)), (0, (ptr u 0)), (1, (.int .i64 r)), (2, (.int .i64 off)), (3, vb)] ?_
      refine C_region ?_
      refine Rv (.int .i64 0) w2 ?_
      refine Rv (.bool false) w2 ?_
      refine Rv (.bool false) w2 ?_
      refine wpR_nil ?_
      refine E_then_normal ?_
      refine C_false rfl ?_
      refine C_seq ?_
      refine Cs [(17, (.bool false)), (10, (.int .i64 0)), (9, (ptr n1.blk 0)), (8, (.int .i64 0)), (0, (ptr u 0)), (1, (.int .i64 r)), (2, (.int .i64 off)), (3, vb)] ?_
      refine C_region ?_
      refine Rv (.int .i64 off) w2 ?_
      refine Rv (.bool (decide (off < 0))) w2 ?_
      refine Rv (.bool (decide (off < 0))) w2 ?_
      refine wpR_nil ?_
      refine E_then_normal ?_
      refine C_cond rfl (fun c2 => ?_) (fun c2 => ?_)
      · have d2 : off < 0 := of_decide_eq_true c2
        refine C_seq ?_
        refine Cs [(21, (.bool (decide (off < 0)))), (17, (.bool false)), (10, (.int .i64 0)), (9, (ptr n1.blk 0)), (8, (.int .i64 0)), (0, (ptr u 0)), (1, (.int .i64 r)), (2, (.int .i64 off)), (3, vb)] ?_
        refine C_region ?_
        refine Rv (.int .i64 1) w2 ?_
        refine wpR_nil ?_
        refine E_then_normal ?_
        refine C_ret ?_
        refine E_block_ret ?_
        refine E_then_ret ?_
        refine E_ret (res_one rfl rfl) ⟨_, rfl, ?_⟩
        have er1 := getK_er_some hr1
        refine ⟨_, _, (Mono.refl _), H, ?_, ?_⟩
        · (simp only [writeU, writeE, fileE, writeL, er_setK]; first | (simp_all; done) | (simp_all; omega))
        · exact congrArg (Value.int .i64) (by (simp only [writeU, writeE, fileE, writeL, er_setK]; first | (simp_all; done) | (simp_all; omega)))
      · have d2 : ¬ off < 0 := of_decide_eq_false c2
        refine C_seq ?_
        refine Cs [(21, (.bool (decide (off < 0)))), (17, (.bool false)), (10, (.int .i64 0)), (9, (ptr n1.blk 0)), (8, (.int .i64 0)), (0, (ptr u 0)), (1, (.int .i64 r)), (2, (.int .i64 off)), (3, vb)] ?_
        refine C_region ?_
        refine Rv (.int .i64 off) w2 ?_
        refine Rv (.bool (decide (off > 4096))) w2 ?_
        rcases Bool.eq_false_or_eq_true (decide (off > 4096)) with c3 | c3
        · have d3 : off > 4096 := of_decide_eq_true c3
          refine Rw (.bool true) w2 (eq_bool (by kernel_rfl) c3) ?_
          iterate 5 refine Rs ?_
          refine Rv (.bool true) w2 ?_
          refine Rv (.bool true) w2 ?_
          refine wpR_nil ?_
          refine E_then_normal ?_
          refine C_true rfl ?_
          refine C_seq ?_
          refine Cs [(24, (.bool true)), (21, (.bool (decide (off < 0)))), (17, (.bool false)), (10, (.int .i64 0)), (9, (ptr n1.blk 0)), (8, (.int .i64 0)), (0, (ptr u 0)), (1, (.int .i64 r)), (2, (.int .i64 off)), (3, vb)] ?_
          refine C_region ?_
          refine Rv (.int .i64 3) w2 ?_
          refine wpR_nil ?_
          refine E_then_normal ?_
          refine C_ret ?_
          refine E_block_ret ?_
          refine E_then_ret ?_
          refine E_ret (res_one rfl rfl) ⟨_, rfl, ?_⟩
          have er1 := getK_er_some hr1
          refine ⟨_, _, (Mono.refl _), H, ?_, ?_⟩
          · (simp only [writeU, writeE, fileE, writeL, er_setK]; first | (simp_all; done) | (simp_all; omega))
          · exact congrArg (Value.int .i64) (by (simp only [writeU, writeE, fileE, writeL, er_setK]; first | (simp_all; done) | (simp_all; omega)))
        · have d3 : ¬ off > 4096 := of_decide_eq_false c3
          refine Rw (.bool false) w2 (eq_bool (by kernel_rfl) c3) ?_
          refine Rv vb w2 ?_
          refine Rw (.int .i64 (b.length : Int)) w2 (X_len (h_b.mono H.m) rfl Try.underlying25 rfl) ?_
          refine Rv (.int .i64 off) w2 ?_
          refine Rw (.int .i64 (4096 - off)) w2 (eq_int (by kernel_rfl) (wrap64_in (by first | omega | (rw [sizedL_length]; omega)) (by first | omega | (rw [sizedL_length]; omega)))) ?_
          refine Rv (.bool (decide ((b.length : Int) > (4096 - off)))) w2 ?_
          refine Rv (.bool (decide ((b.length : Int) > (4096 - off)))) w2 ?_
          refine Rv (.bool (decide ((b.length : Int) > (4096 - off)))) w2 ?_
          refine wpR_nil ?_
          refine E_then_normal ?_
          refine C_cond rfl (fun c4 => ?_) (fun c4 => ?_)
          · have d4 : (b.length : Int) > (4096 - off) := of_decide_eq_true c4
            refine C_seq ?_
            refine Cs [(24, (.bool (decide ((b.length : Int) > (4096 - off))))), (21, (.bool (decide (off < 0)))), (17, (.bool false)), (10, (.int .i64 0)), (9, (ptr n1.blk 0)), (8, (.int .i64 0)), (0, (ptr u 0)), (1, (.int .i64 r)), (2, (.int .i64 off)), (3, vb)] ?_
            refine C_region ?_
            refine Rv (.int .i64 3) w2 ?_
            refine wpR_nil ?_
            refine E_then_normal ?_
            refine C_ret ?_
            refine E_block_ret ?_
            refine E_then_ret ?_
            refine E_ret (res_one rfl rfl) ⟨_, rfl, ?_⟩
            have er1 := getK_er_some hr1
            refine ⟨_, _, (Mono.refl _), H, ?_, ?_⟩
            · (simp only [writeU, writeE, fileE, writeL, er_setK]; first | (simp_all; done) | (simp_all; omega))
            · exact congrArg (Value.int .i64) (by (simp only [writeU, writeE, fileE, writeL, er_setK]; first | (simp_all; done) | (simp_all; omega)))
          · have d4 : ¬ (b.length : Int) > (4096 - off) := of_decide_eq_false c4
            refine C_seq ?_
            refine Cs [(24, (.bool (decide ((b.length : Int) > (4096 - off))))), (21, (.bool (decide (off < 0)))), (17, (.bool false)), (10, (.int .i64 0)), (9, (ptr n1.blk 0)), (8, (.int .i64 0)), (0, (ptr u 0)), (1, (.int .i64 r)), (2, (.int .i64 off)), (3, vb)] ?_
            refine C_region ?_
            refine Rv vb w2 ?_
            refine Rw (.int .i64 (b.length : Int)) w2 (X_len (h_b.mono H.m) rfl Try.underlying25 rfl) ?_
            refine Rv (.bool ((b.length : Int) == 0)) w2 ?_
            refine Rv (.bool ((b.length : Int) == 0)) w2 ?_
            refine wpR_nil ?_
            refine E_then_normal ?_
            refine C_cond rfl (fun c5 => ?_) (fun c5 => ?_)
            · have d5 : (b.length : Int) = 0 := eq_of_beq c5
              refine C_seq ?_
              refine Cs [(34, (.bool ((b.length : Int) == 0))), (24, (.bool (decide ((b.length : Int) > (4096 - off))))), (21, (.bool (decide (off < 0)))), (17, (.bool false)), (10, (.int .i64 0)), (9, (ptr n1.blk 0)), (8, (.int .i64 0)), (0, (ptr u 0)), (1, (.int .i64 r)), (2, (.int .i64 off)), (3, vb)] ?_
              refine C_region ?_
              refine Rv (.int .i64 0) w2 ?_
              refine wpR_nil ?_
              refine E_then_normal ?_
              refine C_ret ?_
              refine E_block_ret ?_
              refine E_then_ret ?_
              refine E_ret (res_one rfl rfl) ⟨_, rfl, ?_⟩
              have er1 := getK_er_some hr1
              refine ⟨_, _, (Mono.refl _), H, ?_, ?_⟩
              · (simp only [writeU, writeE, fileE, writeL, er_setK]; first | (simp_all; done) | (simp_all; omega))
              · exact congrArg (Value.int .i64) (by (simp only [writeU, writeE, fileE, writeL, er_setK]; first | (simp_all; done) | (simp_all; omega)))
            · have d5 : (b.length : Int) ≠ 0 := ne_of_beq_false c5
              refine C_skip ?_
              refine E_block_normal ?_
              refine E_then_normal ?_
              refine C_seq ?_
              refine Cs [(34, (.bool ((b.length : Int) == 0))), (24, (.bool (decide ((b.length : Int) > (4096 - off))))), (21, (.bool (decide (off < 0)))), (17, (.bool false)), (10, (.int .i64 0)), (9, (ptr n1.blk 0)), (8, (.int .i64 0)), (0, (ptr u 0)), (1, (.int .i64 r)), (2, (.int .i64 off)), (3, vb)] ?_
              obtain ⟨B1, H, back1⟩ := H.upNode2 kI hr1
              obtain ⟨od1, ox1, ot1, ov1, H⟩ := H.nodeO
              refine C_drawF true [some (ptr n1.blk 0), some (ptr n1.blk 0), some (ptr n1.blk 0), some (ptr n1.blk 0), some (ptr n1.blk 6), some n1.vd, some (ptr n1.blk 0), some (ptr n1.blk 0), some (ptr n1.blk 0), some (ptr n1.blk 6), some n1.vd, some (.int .i64 (n1.data.length : Int)), some (.int .i64 off), some vb, some (.int .i64 (b.length : Int)), some (.int .i64 (off + (b.length : Int))), some (.int .i64 (max (n1.data.length : Int) (off + (b.length : Int)))), none, none, none, none, none] (fun w => Blk w n1.blk #[(.slice none 0 0), (.int .i64 0), (.int .i64 n1.kind), (.int .i64 n1.mode), (.int .i64 n1.uid), (.int .i64 n1.gid), n1.vd, (.string n1.target), n1.vx, (.bool n1.opq), n1.vi, (.int .i64 n1.up), (.int .i64 n1.links)] 82 ∧ Mono g w ∧ True) (by kernel_rfl) (by kernel_rfl) (by kernel_rfl) (by kernel_rfl) (by kernel_rfl) ⟨((H.le (Le.drew _)).blk 0), (H.le (Le.drew _)).m, trivial⟩ ⟨?_, ?_, ?_, ?_, ?_, ?_, ?_, ?_, ?_, ?_, ?_, ?_, ?_, ?_, ?_, ?_, ?_, FS_no rfl, FS_no rfl, FS_no rfl, FS_no rfl, FS_no rfl, trivial⟩ [17, 18, 19, 20, 21] (by kernel_rfl) [(54, (.int .i64 (max (n1.data.length : Int) (off + (b.length : Int))))), (43, n1.vd), (38, (ptr n1.blk 0)), (34, (.bool ((b.length : Int) == 0))), (24, (.bool (decide ((b.length : Int) > (4096 - off))))), (21, (.bool (decide (off < 0)))), (17, (.bool false)), (10, (.int .i64 0)), (9, (ptr n1.blk 0)), (8, (.int .i64 0)), (0, (ptr u 0)), (1, (.int .i64 r)), (2, (.int .i64 off)), (3, vb)] ⟨rfl, rfl, rfl, rfl, rfl, rfl, rfl, rfl, rfl, rfl, rfl, rfl, rfl, rfl, trivial⟩ ?_
              · refine FS_yes _ rfl fun aq wd hph hfd hdd => ?_
                obtain ⟨hb0, hmo, _⟩ := hph
                have hfd := Fr.cast (s' := [(34, (.bool ((b.length : Int) == 0))), (24, (.bool (decide ((b.length : Int) > (4096 - off))))), (21, (.bool (decide (off < 0)))), (17, (.bool false)), (10, (.int .i64 0)), (9, (ptr n1.blk 0)), (8, (.int .i64 0)), (0, (ptr u 0)), (1, (.int .i64 r)), (2, (.int .i64 off)), (3, vb)]) hfd (by kernel_rfl)
                exact FL_val hfd rfl (by kernel_rfl) (by kernel_rfl)
              · refine FS_yes _ rfl fun aq wd hph hfd hdd => ?_
                obtain ⟨hb0, hmo, _⟩ := hph
                have hfd := Fr.cast (s' := [(34, (.bool ((b.length : Int) == 0))), (24, (.bool (decide ((b.length : Int) > (4096 - off))))), (21, (.bool (decide (off < 0)))), (17, (.bool false)), (10, (.int .i64 0)), (9, (ptr n1.blk 0)), (8, (.int .i64 0)), (0, (ptr u 0)), (1, (.int .i64 r)), (2, (.int .i64 off)), (3, vb)]) hfd (by kernel_rfl)
                exact FL_val hfd rfl (by kernel_rfl) (by kernel_rfl)
              · refine FS_yes _ rfl fun aq wd hph hfd hdd => ?_
                obtain ⟨hb0, hmo, _⟩ := hph
                have hfd := Fr.cast (s' := [(34, (.bool ((b.length : Int) == 0))), (24, (.bool (decide ((b.length : Int) > (4096 - off))))), (21, (.bool (decide (off < 0)))), (17, (.bool false)), (10, (.int .i64 0)), (9, (ptr n1.blk 0)), (8, (.int .i64 0)), (0, (ptr u 0)), (1, (.int .i64 r)), (2, (.int .i64 off)), (3, vb)]) hfd (by kernel_rfl)
                obtain ⟨e1, _⟩ := hdd
                have hfd := Fr.add (t := 39) (v := (ptr n1.blk 0)) hfd e1
                exact FL_val hfd rfl (by kernel_rfl) (by kernel_rfl)
              · refine FS_yes _ rfl fun aq wd hph hfd hdd => ?_
                obtain ⟨hb0, hmo, _⟩ := hph
                have hfd := Fr.cast (s' := [(34, (.bool ((b.length : Int) == 0))), (24, (.bool (decide ((b.length : Int) > (4096 - off))))), (21, (.bool (decide (off < 0)))), (17, (.bool false)), (10, (.int .i64 0)), (9, (ptr n1.blk 0)), (8, (.int .i64 0)), (0, (ptr u 0)), (1, (.int .i64 r)), (2, (.int .i64 off)), (3, vb)]) hfd (by kernel_rfl)
                obtain ⟨e2, _⟩ := hdd
                have hfd := Fr.add (t := 40) (v := (ptr n1.blk 0)) hfd e2
                exact FL_val hfd rfl (by kernel_rfl) (by kernel_rfl)
              · refine FS_yes _ rfl fun aq wd hph hfd hdd => ?_
                obtain ⟨hb0, hmo, _⟩ := hph
                have hfd := Fr.cast (s' := [(34, (.bool ((b.length : Int) == 0))), (24, (.bool (decide ((b.length : Int) > (4096 - off))))), (21, (.bool (decide (off < 0)))), (17, (.bool false)), (10, (.int .i64 0)), (9, (ptr n1.blk 0)), (8, (.int .i64 0)), (0, (ptr u 0)), (1, (.int .i64 r)), (2, (.int .i64 off)), (3, vb)]) hfd (by kernel_rfl)
                obtain ⟨e3, _⟩ := hdd
                have hfd := Fr.add (t := 41) (v := (ptr n1.blk 0)) hfd e3
                exact FL_val hfd rfl (by kernel_rfl) (by kernel_rfl)
              · refine FS_yes _ rfl fun aq wd hph hfd hdd => ?_
                obtain ⟨hb0, hmo, _⟩ := hph
                have hfd := Fr.cast (s' := [(34, (.bool ((b.length : Int) == 0))), (24, (.bool (decide ((b.length : Int) > (4096 - off))))), (21, (.bool (decide (off < 0)))), (17, (.bool false)), (10, (.int .i64 0)), (9, (ptr n1.blk 0)), (8, (.int .i64 0)), (0, (ptr u 0)), (1, (.int .i64 r)), (2, (.int .i64 off)), (3, vb)]) hfd (by kernel_rfl)
                obtain ⟨e4, _⟩ := hdd
                have hfd := Fr.add (t := 42) (v := (ptr n1.blk 6)) hfd e4
                exact FL_val hfd rfl (by kernel_rfl) (load_ev (run_load_one hb0 Try.underlying25 rfl rfl) rfl rfl)
              · refine FS_yes _ rfl fun aq wd hph hfd hdd => ?_
                obtain ⟨hb0, hmo, _⟩ := hph
                have hfd := Fr.cast (s' := [(34, (.bool ((b.length : Int) == 0))), (24, (.bool (decide ((b.length : Int) > (4096 - off))))), (21, (.bool (decide (off < 0)))), (17, (.bool false)), (10, (.int .i64 0)), (9, (ptr n1.blk 0)), (8, (.int .i64 0)), (0, (ptr u 0)), (1, (.int .i64 r)), (2, (.int .i64 off)), (3, vb)]) hfd (by kernel_rfl)
                exact FL_val hfd rfl (by kernel_rfl) (by kernel_rfl)
              · refine FS_yes _ rfl fun aq wd hph hfd hdd => ?_
                obtain ⟨hb0, hmo, _⟩ := hph
                have hfd := Fr.cast (s' := [(34, (.bool ((b.length : Int) == 0))), (24, (.bool (decide ((b.length : Int) > (4096 - off))))), (21, (.bool (decide (off < 0)))), (17, (.bool false)), (10, (.int .i64 0)), (9, (ptr n1.blk 0)), (8, (.int .i64 0)), (0, (ptr u 0)), (1, (.int .i64 r)), (2, (.int .i64 off)), (3, vb)]) hfd (by kernel_rfl)
                obtain ⟨e6, _⟩ := hdd
                have hfd := Fr.add (t := 44) (v := (ptr n1.blk 0)) hfd e6
                exact FL_val hfd rfl (by kernel_rfl) (by kernel_rfl)
              · refine FS_yes _ rfl fun aq wd hph hfd hdd => ?_
                obtain ⟨hb0, hmo, _⟩ := hph
                have hfd := Fr.cast (s' := [(34, (.bool ((b.length : Int) == 0))), (24, (.bool (decide ((b.length : Int) > (4096 - off))))), (21, (.bool (decide (off < 0)))), (17, (.bool false)), (10, (.int .i64 0)), (9, (ptr n1.blk 0)), (8, (.int .i64 0)), (0, (ptr u 0)), (1, (.int .i64 r)), (2, (.int .i64 off)), (3, vb)]) hfd (by kernel_rfl)
                obtain ⟨e7, _⟩ := hdd
                have hfd := Fr.add (t := 45) (v := (ptr n1.blk 0)) hfd e7
                exact FL_val hfd rfl (by kernel_rfl) (by kernel_rfl)
              · refine FS_yes _ rfl fun aq wd hph hfd hdd => ?_
                obtain ⟨hb0, hmo, _⟩ := hph
                have hfd := Fr.cast (s' := [(34, (.bool ((b.length : Int) == 0))), (24, (.bool (decide ((b.length : Int) > (4096 - off))))), (21, (.bool (decide (off < 0)))), (17, (.bool false)), (10, (.int .i64 0)), (9, (ptr n1.blk 0)), (8, (.int .i64 0)), (0, (ptr u 0)), (1, (.int .i64 r)), (2, (.int .i64 off)), (3, vb)]) hfd (by kernel_rfl)
                obtain ⟨e8, _⟩ := hdd
                have hfd := Fr.add (t := 46) (v := (ptr n1.blk 0)) hfd e8
                exact FL_val hfd rfl (by kernel_rfl) (by kernel_rfl)
              · refine FS_yes _ rfl fun aq wd hph hfd hdd => ?_
                obtain ⟨hb0, hmo, _⟩ := hph
                have hfd := Fr.cast (s' := [(34, (.bool ((b.length : Int) == 0))), (24, (.bool (decide ((b.length : Int) > (4096 - off))))), (21, (.bool (decide (off < 0)))), (17, (.bool false)), (10, (.int .i64 0)), (9, (ptr n1.blk 0)), (8, (.int .i64 0)), (0, (ptr u 0)), (1, (.int .i64 r)), (2, (.int .i64 off)), (3, vb)]) hfd (by kernel_rfl)
                obtain ⟨e9, _⟩ := hdd
                have hfd := Fr.add (t := 47) (v := (ptr n1.blk 6)) hfd e9
                exact FL_val hfd rfl (by kernel_rfl) (load_ev (run_load_one hb0 Try.underlying25 rfl rfl) rfl rfl)
              · refine FS_yes _ rfl fun aq wd hph hfd hdd => ?_
                obtain ⟨hb0, hmo, _⟩ := hph
                have hfd := Fr.cast (s' := [(34, (.bool ((b.length : Int) == 0))), (24, (.bool (decide ((b.length : Int) > (4096 - off))))), (21, (.bool (decide (off < 0)))), (17, (.bool false)), (10, (.int .i64 0)), (9, (ptr n1.blk 0)), (8, (.int .i64 0)), (0, (ptr u 0)), (1, (.int .i64 r)), (2, (.int .i64 off)), (3, vb)]) hfd (by kernel_rfl)
                obtain ⟨e10, _⟩ := hdd
                have hfd := Fr.add (t := 48) (v := n1.vd) hfd e10
                exact FL_val hfd rfl (by kernel_rfl) (X_len (od1.mono hmo) rfl Try.underlying25 rfl)
              · refine FS_yes _ rfl fun aq wd hph hfd hdd => ?_
                obtain ⟨hb0, hmo, _⟩ := hph
                have hfd := Fr.cast (s' := [(34, (.bool ((b.length : Int) == 0))), (24, (.bool (decide ((b.length : Int) > (4096 - off))))), (21, (.bool (decide (off < 0)))), (17, (.bool false)), (10, (.int .i64 0)), (9, (ptr n1.blk 0)), (8, (.int .i64 0)), (0, (ptr u 0)), (1, (.int .i64 r)), (2, (.int .i64 off)), (3, vb)]) hfd (by kernel_rfl)
                exact FL_val hfd rfl (by kernel_rfl) (by kernel_rfl)
              · refine FS_yes _ rfl fun aq wd hph hfd hdd => ?_
                obtain ⟨hb0, hmo, _⟩ := hph
                have hfd := Fr.cast (s' := [(34, (.bool ((b.length : Int) == 0))), (24, (.bool (decide ((b.length : Int) > (4096 - off))))), (21, (.bool (decide (off < 0)))), (17, (.bool false)), (10, (.int .i64 0)), (9, (ptr n1.blk 0)), (8, (.int .i64 0)), (0, (ptr u 0)), (1, (.int .i64 r)), (2, (.int .i64 off)), (3, vb)]) hfd (by kernel_rfl)
                exact FL_val hfd rfl (by kernel_rfl) (by kernel_rfl)
              · refine FS_yes _ rfl fun aq wd hph hfd hdd => ?_
                obtain ⟨hb0, hmo, _⟩ := hph
                have hfd := Fr.cast (s' := [(34, (.bool ((b.length : Int) == 0))), (24, (.bool (decide ((b.length : Int) > (4096 - off))))), (21, (.bool (decide (off < 0)))), (17, (.bool false)), (10, (.int .i64 0)), (9, (ptr n1.blk 0)), (8, (.int .i64 0)), (0, (ptr u 0)), (1, (.int .i64 r)), (2, (.int .i64 off)), (3, vb)]) hfd (by kernel_rfl)
                obtain ⟨e13, _⟩ := hdd
                have hfd := Fr.add (t := 51) (v := vb) hfd e13
                exact FL_val hfd rfl (by kernel_rfl) (X_len (h_b.mono hmo) rfl Try.underlying25 rfl)
              · refine FS_yes _ rfl fun aq wd hph hfd hdd => ?_
                obtain ⟨hb0, hmo, _⟩ := hph
                have hfd := Fr.cast (s' := [(34, (.bool ((b.length : Int) == 0))), (24, (.bool (decide ((b.length : Int) > (4096 - off))))), (21, (.bool (decide (off < 0)))), (17, (.bool false)), (10, (.int .i64 0)), (9, (ptr n1.blk 0)), (8, (.int .i64 0)), (0, (ptr u 0)), (1, (.int .i64 r)), (2, (.int .i64 off)), (3, vb)]) hfd (by kernel_rfl)
                obtain ⟨e12, e14, _⟩ := hdd
                have hfd := Fr.add (t := 50) (v := (.int .i64 off)) hfd e12
                have hfd := Fr.add (t := 52) (v := (.int .i64 (b.length : Int))) hfd e14
                exact FL_val hfd rfl (by kernel_rfl) (eq_int (by kernel_rfl) (wrap64_in (by first | omega | (rw [sizedL_length]; omega)) (by first | omega | (rw [sizedL_length]; omega))))
              · refine FS_yes _ rfl fun aq wd hph hfd hdd => ?_
                obtain ⟨hb0, hmo, _⟩ := hph
                have hfd := Fr.cast (s' := [(34, (.bool ((b.length : Int) == 0))), (24, (.bool (decide ((b.length : Int) > (4096 - off))))), (21, (.bool (decide (off < 0)))), (17, (.bool false)), (10, (.int .i64 0)), (9, (ptr n1.blk 0)), (8, (.int .i64 0)), (0, (ptr u 0)), (1, (.int .i64 r)), (2, (.int .i64 off)), (3, vb)]) hfd (by kernel_rfl)
                obtain ⟨e11, e15, _⟩ := hdd
                have hfd := Fr.add (t := 49) (v := (.int .i64 (n1.data.length : Int))) hfd e11
                have hfd := Fr.add (t := 53) (v := (.int .i64 (off + (b.length : Int)))) hfd e15
                exact FL_val hfd rfl (by kernel_rfl) (X_max rfl rfl rfl)
              intro w3 l3 _
              replace H := H.le l3
              refine F_step ⟨(H.blk 0), H.m, trivial⟩ ?_
              refine Rc #[n1.vd, (.int .i64 (max (n1.data.length : Int) (off + (b.length : Int))))] w3 (sized_any n1.data n1.vd (max (n1.data.length : Int) (off + (b.length : Int))) _ _ _ _ H od1 (by first | omega | (rw [sizedL_length]; omega)) (by first | omega | (rw [sizedL_length]; omega))) ?_
              rintro _ w4 ⟨k1, rfl, Hn⟩
              replace H := Hn
              clear Hn
              refine wpR_nil ?_
              refine F_next ?_
              refine F_step ⟨(H.blk 1), H.m, trivial⟩ ?_
              refine Rv (ptr n1.blk 0) w4 ?_
              refine wpR_nil ?_
              refine F_next ?_
              refine F_step ⟨(H.blk 1), H.m, trivial⟩ ?_
              refine Rv (ptr n1.blk 0) w4 ?_
              refine wpR_nil ?_
              refine F_next ?_
              refine F_step ⟨(H.blk 1), H.m, trivial⟩ ?_
              refine Rv (ptr n1.blk 6) w4 ?_
              refine wpR_nil ?_
              refine F_next ?_
              refine F_step ⟨(H.blk 1), H.m, trivial⟩ ?_
              refine S_store (H.blk 1) rfl rfl rfl rfl rfl (by kernel_rfl) (one_all (l := [(.slice (some ⟨k1, 0, none⟩) (max (n1.data.length : Int) (off + (b.length : Int)) : Int).toNat (max (n1.data.length : Int) (off + (b.length : Int)) : Int).toNat)]) ⟨one_is (H.slIs (α := UInt8) (e := 5) (v := (.slice (some ⟨k1, 0, none⟩) (max (n1.data.length : Int) (off + (b.length : Int)) : Int).toNat (max (n1.data.length : Int) (off + (b.length : Int)) : Int).toNat)) (xs := (sizedL n1.data (max (n1.data.length : Int) (off + (b.length : Int))))) 0), trivial⟩) (Nat.le_of_ble_eq_true rfl) #[(.slice none 0 0), (.int .i64 0), (.int .i64 n1.kind), (.int .i64 n1.mode), (.int .i64 n1.uid), (.int .i64 n1.gid), (.slice (some ⟨k1, 0, none⟩) (max (n1.data.length : Int) (off + (b.length : Int)) : Int).toNat (max (n1.data.length : Int) (off + (b.length : Int)) : Int).toNat), (.string n1.target), n1.vx, (.bool n1.opq), n1.vi, (.int .i64 n1.up), (.int .i64 n1.links)] rfl fun w5 u1 => ?_
              replace H := H.upd 1 u1
              refine wpR_nil ?_
              refine F_next ?_
              refine F_nil (.inl rfl) ?_
              refine E_then_normal ?_
              refine C_seq ?_
              refine Cs [(34, (.bool ((b.length : Int) == 0))), (24, (.bool (decide ((b.length : Int) > (4096 - off))))), (21, (.bool (decide (off < 0)))), (17, (.bool false)), (10, (.int .i64 0)), (9, (ptr n1.blk 0)), (8, (.int .i64 0)), (0, (ptr u 0)), (1, (.int .i64 r)), (2, (.int .i64 off)), (3, vb)] ?_
              refine C_region ?_
              refine Rv (ptr n1.blk 0) w5 ?_
              refine Rv (ptr n1.blk 0) w5 ?_
              refine Rv (ptr n1.blk 0) w5 ?_
              refine Rv (ptr n1.blk 6) w5 ?_
              refine S_load (run_load_one (H.blk 1) Try.underlying25 rfl rfl) rfl rfl rfl rfl rfl ?_
              refine Rv (.int .i64 off) w5 ?_
              refine Rw (sliceV 1 (.slice (some ⟨k1, 0, none⟩) (max (n1.data.length : Int) (off + (b.length : Int)) : Int).toNat (max (n1.data.length : Int) (off + (b.length : Int)) : Int).toNat) off ((sizedL n1.data (max (n1.data.length : Int) (off + (b.length : Int)))).length : Int)) w5 (X_slice (l := off) (h := ((sizedL n1.data (max (n1.data.length : Int) (off + (b.length : Int)))).length : Int)) (H.slIs (α := UInt8) (e := 5) (v := (.slice (some ⟨k1, 0, none⟩) (max (n1.data.length : Int) (off + (b.length : Int)) : Int).toNat (max (n1.data.length : Int) (off + (b.length : Int)) : Int).toNat)) (xs := (sizedL n1.data (max (n1.data.length : Int) (off + (b.length : Int))))) 0) (by first | omega | (rw [sizedL_length]; omega)) (by first | omega | (rw [sizedL_length]; omega)) (by first | omega | (rw [sizedL_length]; omega)) rfl Try.underlying25 (by kernel_rfl) rfl (.inr ⟨_, rfl, rfl⟩) (.inl ⟨rfl, rfl⟩)) ?_
              refine Rv vb w5 ?_
              refine S_copyV (off := off) H (by rw [sizedL_length]) (Is.rd h_b H.m) (by first | omega | (rw [sizedL_length]; omega)) (by first | omega | (rw [sizedL_length]; omega)) Try.underlying25 (by kernel_rfl) rfl rfl rfl rfl rfl rfl rfl fun w6 Hn => ?_
              replace H := Hn
              clear Hn
              refine wpR_nil ?_
              refine E_then_normal ?_
              refine C_seq ?_
              refine Cs [(34, (.bool ((b.length : Int) == 0))), (24, (.bool (decide ((b.length : Int) > (4096 - off))))), (21, (.bool (decide (off < 0)))), (17, (.bool false)), (10, (.int .i64 0)), (9, (ptr n1.blk 0)), (8, (.int .i64 0)), (0, (ptr u 0)), (1, (.int .i64 r)), (2, (.int .i64 off)), (3, vb)] ?_
              obtain ⟨g1, m1, H, hx1⟩ := H.slHold 0
              have ln_hx1 := hx1.len_le
              replace H := H.pick 2
              replace H := H.pick 2
              replace H := H.pick 2
              replace H := back1 _ _ ({ n1 with vd := (.slice (some ⟨k1, 0, none⟩) (max (n1.data.length : Int) (off + (b.length : Int)) : Int).toNat (max (n1.data.length : Int) (off + (b.length : Int)) : Int).toNat), data := (copyL (sizedL n1.data (max (n1.data.length : Int) (off + (b.length : Int)))) (off : Int).toNat b) }) _ rfl (SL.nodeI (n := { n1 with vd := (.slice (some ⟨k1, 0, none⟩) (max (n1.data.length : Int) (off + (b.length : Int)) : Int).toNat (max (n1.data.length : Int) (off + (b.length : Int)) : Int).toNat), data := (copyL (sizedL n1.data (max (n1.data.length : Int) (off + (b.length : Int)))) (off : Int).toNat b) }) hx1 (ox1.mono m1) ot1 ov1 H)
              have hr2 : getK (setK L r { n1 with vd := (.slice (some ⟨k1, 0, none⟩) (max (n1.data.length : Int) (off + (b.length : Int)) : Int).toNat (max (n1.data.length : Int) (off + (b.length : Int)) : Int).toNat), data := (copyL (sizedL n1.data (max (n1.data.length : Int) (off + (b.length : Int)))) (off : Int).toNat b) }) r = some { n1 with vd := (.slice (some ⟨k1, 0, none⟩) (max (n1.data.length : Int) (off + (b.length : Int)) : Int).toNat (max (n1.data.length : Int) (off + (b.length : Int)) : Int).toNat), data := (copyL (sizedL n1.data (max (n1.data.length : Int) (off + (b.length : Int)))) (off : Int).toNat b) } := getK_setK hr1
              refine C_region ?_
              refine Rv (.int .i64 0) w6 ?_
              refine wpR_nil ?_
              refine E_then_normal ?_
              refine C_ret ?_
              refine E_ret (res_one rfl rfl) ⟨_, rfl, ?_⟩
              have er1 := getK_er_some hr1
              refine ⟨_, _, m1, H, ?_, ?_⟩
              · (simp only [writeU, writeE, fileE, writeL, er_setK]; first | (simp_all; done) | (simp_all; omega))
              · exact congrArg (Value.int .i64) (by (simp only [writeU, writeE, fileE, writeL, er_setK]; first | (simp_all; done) | (simp_all; omega)))
    · have d1 : n1.kind ≠ 2 := ne_of_beq_false c1
      rcases Bool.eq_false_or_eq_true (n1.kind == 1) with c6 | c6
      · have d6 : n1.kind = 1 := eq_of_beq c6
        refine Rc #[(ptr u 0), (.int .i64 r)] w (file_dir u mb q1 q2 nx L r n1 _ _ H.sees (H.upR 0 kI) wf_r hr1 c6) ?_
        rintro _ w7 ⟨rfl, l4⟩
        replace H := H.le l4
        refine Rv (.tuple #[(ptr n1.blk 0), (.int .i64 25)]) w7 ?_
        refine Rv (ptr n1.blk 0) w7 ?_
        refine Rv (.int .i64 25) w7 ?_
        refine Rv (ptr n1.blk 0) w7 ?_
        refine Rv (.int .i64 25) w7 ?_
        refine wpR_nil ?_
        refine E_then_normal ?_
        refine C_seq ?_
        refine C_block ?_
        refine C_seq ?_
        refine Cs [(10, (.int .i64 25)), (9, (ptr n1.blk 0)), (8, (.int .i64 0)), (0, (ptr u 0)), (1, (.int .i64 r)), (2, (.int .i64 off)), (3, vb)] ?_
        refine C_region ?_
        refine Rv (.int .i64 25) w7 ?_
        refine Rv (.bool true) w7 ?_
        refine Rv (.bool true) w7 ?_
        refine wpR_nil ?_
        refine E_then_normal ?_
        refine C_true rfl ?_
        refine C_seq ?_
        refine Cs [(17, (.bool true)), (10, (.int .i64 25)), (9, (ptr n1.blk 0)), (8, (.int .i64 0)), (0, (ptr u 0)), (1, (.int .i64 r)), (2, (.int .i64 off)), (3, vb)] ?_
        refine C_region ?_
        refine Rv (.int .i64 25) w7 ?_
        refine Rv (.int .i64 25) w7 ?_
        refine wpR_nil ?_
        refine E_then_normal ?_
        refine C_ret ?_
        refine E_block_ret ?_
        refine E_then_ret ?_
        refine E_ret (res_one rfl rfl) ⟨_, rfl, ?_⟩
        have er1 := getK_er_some hr1
        refine ⟨_, _, (Mono.refl _), H, ?_, ?_⟩
        · (simp only [writeU, writeE, fileE, writeL, er_setK]; first | (simp_all; done) | (simp_all; omega))
        · exact congrArg (Value.int .i64) (by (simp only [writeU, writeE, fileE, writeL, er_setK]; first | (simp_all; done) | (simp_all; omega)))
      · have d6 : n1.kind ≠ 1 := ne_of_beq_false c6
        refine Rc #[(ptr u 0), (.int .i64 r)] w (file_bad u mb q1 q2 nx L r n1 _ _ H.sees (H.upR 0 kI) wf_r hr1 c6 c1) ?_
        rintro _ w8 ⟨rfl, l5⟩
        replace H := H.le l5
        refine Rv (.tuple #[(ptr n1.blk 0), (.int .i64 1)]) w8 ?_
        refine Rv (ptr n1.blk 0) w8 ?_
        refine Rv (.int .i64 1) w8 ?_
        refine Rv (ptr n1.blk 0) w8 ?_
        refine Rv (.int .i64 1) w8 ?_
        refine wpR_nil ?_
        refine E_then_normal ?_
        refine C_seq ?_
        refine C_block ?_
        refine C_seq ?_
        refine Cs [(10, (.int .i64 1)), (9, (ptr n1.blk 0)), (8, (.int .i64 0)), (0, (ptr u 0)), (1, (.int .i64 r)), (2, (.int .i64 off)), (3, vb)] ?_
        refine C_region ?_
        refine Rv (.int .i64 1) w8 ?_
        refine Rv (.bool true) w8 ?_
        refine Rv (.bool true) w8 ?_
        refine wpR_nil ?_
        refine E_then_normal ?_
        refine C_true rfl ?_
        refine C_seq ?_
        refine Cs [(17, (.bool true)), (10, (.int .i64 1)), (9, (ptr n1.blk 0)), (8, (.int .i64 0)), (0, (ptr u 0)), (1, (.int .i64 r)), (2, (.int .i64 off)), (3, vb)] ?_
        refine C_region ?_
        refine Rv (.int .i64 1) w8 ?_
        refine Rv (.int .i64 1) w8 ?_
        refine wpR_nil ?_
        refine E_then_normal ?_
        refine C_ret ?_
        refine E_block_ret ?_
        refine E_then_ret ?_
        refine E_ret (res_one rfl rfl) ⟨_, rfl, ?_⟩
        have er1 := getK_er_some hr1
        refine ⟨_, _, (Mono.refl _), H, ?_, ?_⟩
        · (simp only [writeU, writeE, fileE, writeL, er_setK]; first | (simp_all; done) | (simp_all; omega))
        · exact congrArg (Value.int .i64) (by (simp only [writeU, writeE, fileE, writeL, er_setK]; first | (simp_all; done) | (simp_all; omega)))

set_option linter.unusedVariables false in
set_option linter.unusedSimpArgs false in
set_option maxHeartbeats 4000000 in
set_option maxRecDepth 100000 in
theorem read_any (u mb : Nat) (q1 q2 nx : Int) (L : List (Int × LNode)) (r off k : Int) (g w : World) (sees : Sees g w)  (hU : UpR Try.prog uty g w u q1 q2 mb nx L) (wf_r : (Lit.int .i64 r).wf = true) (hk : k ≤ 1000000000) : Ret Try.prog 21 #[(ptr u 0), (.int .i64 r), (.int .i64 off), (.int .i64 k)] w fun v w' => ∃ vb, v = .tuple #[vb, .int .i64 (readE (er L) r off k)] ∧ Is (graft g w w') vb (readU (er L) r off k) ∧ Le w w' := by
  have H := SL.start sees
  refine enter (args := [(ptr u 0), (.int .i64 r), (.int .i64 off), (.int .i64 k)]) Try.func21 rfl rfl rfl ?_
  refine C_seq ?_
  refine C_region ?_
  refine Rv (.slice none 0 0) w ?_
  refine Rv (.int .i64 0) w ?_
  refine wpR_nil ?_
  refine E_then_normal ?_
  refine C_seq ?_
  refine C_region ?_
  refine Rv (ptr u 0) w ?_
  refine Rv (.int .i64 r) w ?_
  rcases hr1 : getK L r with _ | n1
  · refine Rc #[(ptr u 0), (.int .i64 r)] w (file_no u mb q1 q2 nx L r _ _ H.sees (hU.le H.toLe) wf_r hr1 ) ?_
    rintro _ w1 ⟨rfl, l1⟩
    replace H := H.le l1
    refine Rv (.tuple #[(.pointer none), (.int .i64 1)]) w1 ?_
    refine Rv (.pointer none) w1 ?_
    refine Rv (.int .i64 1) w1 ?_
    refine Rv (.pointer none) w1 ?_
    refine Rv (.int .i64 1) w1 ?_
    refine wpR_nil ?_
    refine E_then_normal ?_
    refine C_seq ?_
    refine C_block ?_
    refine C_seq ?_
    refine Cs [(11, (.int .i64 1)), (10, (.pointer none)), (9, (.int .i64 0)), (8, (.slice none 0 0)), (0, (ptr u 0)), (1, (.int .i64 r)), (2, (.int .i64 off)), (3, (.int .i64 k))] ?_
    refine C_region ?_
    refine Rv (.int .i64 1) w1 ?_
    refine Rv (.bool true) w1 ?_
    refine Rv (.bool true) w1 ?_
    refine wpR_nil ?_
    refine E_then_normal ?_
    refine C_true rfl ?_
    refine C_seq ?_
    refine Cs [(18, (.bool true)), (11, (.int .i64 1)), (10, (.pointer none)), (9, (.int .i64 0)), (8, (.slice none 0 0)), (0, (ptr u 0)), (1, (.int .i64 r)), (2, (.int .i64 off)), (3, (.int .i64 k))] ?_
    refine C_region ?_
    refine Rv (.int .i64 1) w1 ?_
    refine Rv (.slice none 0 0) w1 ?_
    refine Rv (.int .i64 1) w1 ?_
    refine wpR_nil ?_
    refine E_then_normal ?_
    refine C_ret ?_
    refine E_block_ret ?_
    refine E_then_ret ?_
    refine E_ret (res_two rfl rfl rfl) ⟨_, rfl, ?_⟩
    have er1 := getK_er_none hr1
    refine ⟨_, congrArg (fun x => Value.tuple #[_, .int .i64 x]) (?_ : (1 : Int) = readE (er L) r off k), ?_, H.toLe⟩
    · (simp only [readE, fileE]; first | (simp_all; done) | (simp_all; omega))
    · refine (is_nil _).cast ?_
      (simp only [readU, readE, fileE]; first | (simp_all; done) | (simp_all; omega))
  · obtain ⟨l1_n1, l2_n1, l3_n1, l4_n1⟩ := ((hU.le H.toLe).nodes _ _ hr1).lens
    rcases Bool.eq_false_or_eq_true (n1.kind == 2) with c1 | c1
    · have d1 : n1.kind = 2 := eq_of_beq c1
      refine Rc #[(ptr u 0), (.int .i64 r)] w (file_yes u mb q1 q2 nx L r n1 _ _ H.sees (hU.le H.toLe) wf_r hr1 c1) ?_
      rintro _ w2 ⟨rfl, l2⟩
      replace H := H.le l2
      refine Rv (.tuple #[(ptr n1.blk 0), (.int .i64 0)]) w2 ?_
      refine Rv (ptr n1.blk 0) w2 ?_
      refine Rv (.int .i64 0) w2 ?_
      refine Rv (ptr n1.blk 0) w2 ?_
      refine Rv (.int .i64 0) w2 ?_
      refine wpR_nil ?_
      refine E_then_normal ?_
      refine C_seq ?_
      refine C_block ?_
      refine C_seq ?_
      refine Cs [(11, (.int .i64 0)), (10, (ptr n1.blk 0)), (9, (.int .i64 0)), (8, (.slice none 0 0)), (0, (ptr u 0)), (1, (.int .i64 r)), (2, (.int .i64 off)), (3, (.int .i64 k))] ?_
      refine C_region ?_
      refine Rv (.int .i64 0) w2 ?_
      refine Rv (.bool false) w2 ?_
      refine Rv (.bool false) w2 ?_
      refine wpR_nil ?_
      refine E_then_normal ?_
      refine C_false rfl ?_
      refine C_seq ?_
      refine Cs [(18, (.bool false)), (11, (.int .i64 0)), (10, (ptr n1.blk 0)), (9, (.int .i64 0)), (8, (.slice none 0 0)), (0, (ptr u 0)), (1, (.int .i64 r)), (2, (.int .i64 off)), (3, (.int .i64 k))] ?_
      refine C_region ?_
      refine Rv (.int .i64 off) w2 ?_
      refine Rv (.bool (decide (off < 0))) w2 ?_
      rcases Bool.eq_false_or_eq_true (decide (off < 0)) with c2 | c2
      · have d2 : off < 0 := of_decide_eq_true c2
        refine Rw (.bool true) w2 (eq_bool (by kernel_rfl) c2) ?_
        iterate 2 refine Rs ?_
        refine Rv (.bool true) w2 ?_
        refine Rv (.bool true) w2 ?_
        refine wpR_nil ?_
        refine E_then_normal ?_
        refine C_true rfl ?_
        refine C_seq ?_
        refine Cs [(22, (.bool true)), (18, (.bool false)), (11, (.int .i64 0)), (10, (ptr n1.blk 0)), (9, (.int .i64 0)), (8, (.slice none 0 0)), (0, (ptr u 0)), (1, (.int .i64 r)), (2, (.int .i64 off)), (3, (.int .i64 k))] ?_
        refine C_region ?_
        refine Rv (.slice none 0 0) w2 ?_
        refine Rv (.int .i64 1) w2 ?_
        refine wpR_nil ?_
        refine E_then_normal ?_
        refine C_ret ?_
        refine E_block_ret ?_
        refine E_then_ret ?_
        refine E_ret (res_two rfl rfl rfl) ⟨_, rfl, ?_⟩
        have er1 := getK_er_some hr1
        refine ⟨_, congrArg (fun x => Value.tuple #[_, .int .i64 x]) (?_ : (1 : Int) = readE (er L) r off k), ?_, H.toLe⟩
        · (simp only [readE, fileE]; first | (simp_all; done) | (simp_all; omega))
        · refine (is_nil _).cast ?_
          (simp only [readU, readE, fileE]; first | (simp_all; done) | (simp_all; omega))
      · have d2 : ¬ off < 0 := of_decide_eq_false c2
        refine Rw (.bool false) w2 (eq_bool (by kernel_rfl) c2) ?_
        refine Rv (.int .i64 k) w2 ?_
        refine Rv (.bool (decide (k < 0))) w2 ?_
        refine Rv (.bool (decide (k < 0))) w2 ?_
        refine Rv (.bool (decide (k < 0))) w2 ?_
        refine wpR_nil ?_
        refine E_then_normal ?_
        refine C_cond rfl (fun c3 => ?_) (fun c3 => ?_)
        · have d3 : k < 0 := of_decide_eq_true c3
          refine C_seq ?_
          refine Cs [(22, (.bool (decide (k < 0)))), (18, (.bool false)), (11, (.int .i64 0)), (10, (ptr n1.blk 0)), (9, (.int .i64 0)), (8, (.slice none 0 0)), (0, (ptr u 0)), (1, (.int .i64 r)), (2, (.int .i64 off)), (3, (.int .i64 k))] ?_
          refine C_region ?_
          refine Rv (.slice none 0 0) w2 ?_
          refine Rv (.int .i64 1) w2 ?_
          refine wpR_nil ?_
          refine E_then_normal ?_
          refine C_ret ?_
          refine E_block_ret ?_
          refine E_then_ret ?_
          refine E_ret (res_two rfl rfl rfl) ⟨_, rfl, ?_⟩
          have er1 := getK_er_some hr1
          refine ⟨_, congrArg (fun x => Value.tuple #[_, .int .i64 x]) (?_ : (1 : Int) = readE (er L) r off k), ?_, H.toLe⟩
          · (simp only [readE, fileE]; first | (simp_all; done) | (simp_all; omega))
          · refine (is_nil _).cast ?_
            (simp only [readU, readE, fileE]; first | (simp_all; done) | (simp_all; omega))
        · have d3 : ¬ k < 0 := of_decide_eq_false c3
          refine C_seq ?_
          refine Cs [(22, (.bool (decide (k < 0)))), (18, (.bool false)), (11, (.int .i64 0)), (10, (ptr n1.blk 0)), (9, (.int .i64 0)), (8, (.slice none 0 0)), (0, (ptr u 0)), (1, (.int .i64 r)), (2, (.int .i64 off)), (3, (.int .i64 k))] ?_
          refine C_region ?_
          refine Rv (.int .i64 off) w2 ?_
          refine Rv (ptr n1.blk 0) w2 ?_
          refine Rv (ptr n1.blk 0) w2 ?_
          refine Rv (ptr n1.blk 0) w2 ?_
          refine Rv (ptr n1.blk 6) w2 ?_
          refine S_load (run_load_one ((hU.le H.toLe).nodes _ _ hr1).blk Try.underlying25 rfl rfl) rfl rfl rfl rfl rfl ?_
          refine Rw (.int .i64 (n1.data.length : Int)) w2 (X_len ((((hU.le H.toLe).nodes _ _ hr1).data).mono H.m) rfl Try.underlying25 rfl) ?_
          refine Rv (.bool (decide (off ≥ (n1.data.length : Int)))) w2 ?_
          refine Rv (.bool (decide (off ≥ (n1.data.length : Int)))) w2 ?_
          refine wpR_nil ?_
          refine E_then_normal ?_
          refine C_cond rfl (fun c4 => ?_) (fun c4 => ?_)
          · have d4 : off ≥ (n1.data.length : Int) := of_decide_eq_true c4
            refine C_seq ?_
            refine Cs [(29, (.bool (decide (off ≥ (n1.data.length : Int))))), (22, (.bool (decide (k < 0)))), (18, (.bool false)), (11, (.int .i64 0)), (10, (ptr n1.blk 0)), (9, (.int .i64 0)), (8, (.slice none 0 0)), (0, (ptr u 0)), (1, (.int .i64 r)), (2, (.int .i64 off)), (3, (.int .i64 k))] ?_
            refine C_region ?_
            refine Rv (.slice none 0 0) w2 ?_
            refine Rv (.int .i64 0) w2 ?_
            refine wpR_nil ?_
            refine E_then_normal ?_
            refine C_ret ?_
            refine E_block_ret ?_
            refine E_then_ret ?_
            refine E_ret (res_two rfl rfl rfl) ⟨_, rfl, ?_⟩
            have er1 := getK_er_some hr1
            refine ⟨_, congrArg (fun x => Value.tuple #[_, .int .i64 x]) (?_ : (0 : Int) = readE (er L) r off k), ?_, H.toLe⟩
            · (simp only [readE, fileE]; first | (simp_all; done) | (simp_all; omega))
            · refine (is_nil _).cast ?_
              (simp only [readU, readE, fileE]; first | (simp_all; done) | (simp_all; omega))
          · have d4 : ¬ off ≥ (n1.data.length : Int) := of_decide_eq_false c4
            refine C_skip ?_
            refine E_block_normal ?_
            refine E_then_normal ?_
            refine C_seq ?_
            refine Cs [(29, (.bool (decide (off ≥ (n1.data.length : Int))))), (22, (.bool (decide (k < 0)))), (18, (.bool false)), (11, (.int .i64 0)), (10, (ptr n1.blk 0)), (9, (.int .i64 0)), (8, (.slice none 0 0)), (0, (ptr u 0)), (1, (.int .i64 r)), (2, (.int .i64 off)), (3, (.int .i64 k))] ?_
            refine C_drawT 18 [fun _ v => v = (ptr n1.blk 0), fun _ v => v = (ptr n1.blk 0), fun _ v => v = (ptr n1.blk 0), fun _ v => v = (ptr n1.blk 6), fun _ v => v = n1.vd, fun _ v => v = (.int .i64 off), fun _ v => v = (.int .i64 off), fun _ v => v = (.int .i64 k), fun _ v => v = (ptr n1.blk 0), fun _ v => v = (ptr n1.blk 0), fun _ v => v = (ptr n1.blk 0), fun _ v => v = (ptr n1.blk 6), fun _ v => v = n1.vd, fun _ v => v = (.int .i64 (n1.data.length : Int)), fun _ v => v = (.int .i64 off), fun _ v => v = (.int .i64 ((n1.data.length : Int) - off)), fun _ v => v = (.int .i64 (min k ((n1.data.length : Int) - off))), fun _ v => v = (.int .i64 (off + (min k ((n1.data.length : Int) - off))))] (by kernel_rfl) (by kernel_rfl) (by kernel_rfl) (by kernel_rfl) ⟨stab_exact _, stab_exact _, stab_exact _, stab_exact _, stab_exact _, stab_exact _, stab_exact _, stab_exact _, stab_exact _, stab_exact _, stab_exact _, stab_exact _, stab_exact _, stab_exact _, stab_exact _, stab_exact _, stab_exact _, stab_exact _, trivial⟩ ⟨?_, ?_, ?_, ?_, ?_, ?_, ?_, ?_, ?_, ?_, ?_, ?_, ?_, ?_, ?_, ?_, ?_, ?_, trivial⟩ ?_
            · intro aq wd ld hfd hdd
              have hfd := Fr.cast (s' := [(29, (.bool (decide (off ≥ (n1.data.length : Int))))), (22, (.bool (decide (k < 0)))), (18, (.bool false)), (11, (.int .i64 0)), (10, (ptr n1.blk 0)), (9, (.int .i64 0)), (8, (.slice none 0 0)), (0, (ptr u 0)), (1, (.int .i64 r)), (2, (.int .i64 off)), (3, (.int .i64 k))]) hfd (by kernel_rfl)
              exact G_val (v := (ptr n1.blk 0)) (w' := wd) hfd rfl (by kernel_rfl) (by kernel_rfl) (Le.refl _) rfl
            · intro aq wd ld hfd hdd
              have hfd := Fr.cast (s' := [(29, (.bool (decide (off ≥ (n1.data.length : Int))))), (22, (.bool (decide (k < 0)))), (18, (.bool false)), (11, (.int .i64 0)), (10, (ptr n1.blk 0)), (9, (.int .i64 0)), (8, (.slice none 0 0)), (0, (ptr u 0)), (1, (.int .i64 r)), (2, (.int .i64 off)), (3, (.int .i64 k))]) hfd (by kernel_rfl)
              obtain ⟨e0, _⟩ := hdd
              have hfd := Fr.add (t := 38) (v := (ptr n1.blk 0)) hfd e0
              exact G_val (v := (ptr n1.blk 0)) (w' := wd) hfd rfl (by kernel_rfl) (by kernel_rfl) (Le.refl _) rfl
            · intro aq wd ld hfd hdd
              have hfd := Fr.cast (s' := [(29, (.bool (decide (off ≥ (n1.data.length : Int))))), (22, (.bool (decide (k < 0)))), (18, (.bool false)), (11, (.int .i64 0)), (10, (ptr n1.blk 0)), (9, (.int .i64 0)), (8, (.slice none 0 0)), (0, (ptr u 0)), (1, (.int .i64 r)), (2, (.int .i64 off)), (3, (.int .i64 k))]) hfd (by kernel_rfl)
              obtain ⟨e1, _⟩ := hdd
              have hfd := Fr.add (t := 39) (v := (ptr n1.blk 0)) hfd e1
              exact G_val (v := (ptr n1.blk 0)) (w' := wd) hfd rfl (by kernel_rfl) (by kernel_rfl) (Le.refl _) rfl
            · intro aq wd ld hfd hdd
              have hfd := Fr.cast (s' := [(29, (.bool (decide (off ≥ (n1.data.length : Int))))), (22, (.bool (decide (k < 0)))), (18, (.bool false)), (11, (.int .i64 0)), (10, (ptr n1.blk 0)), (9, (.int .i64 0)), (8, (.slice none 0 0)), (0, (ptr u 0)), (1, (.int .i64 r)), (2, (.int .i64 off)), (3, (.int .i64 k))]) hfd (by kernel_rfl)
              obtain ⟨e2, _⟩ := hdd
              have hfd := Fr.add (t := 40) (v := (ptr n1.blk 0)) hfd e2
              exact G_val (v := (ptr n1.blk 6)) (w' := wd) hfd rfl (by kernel_rfl) (by kernel_rfl) (Le.refl _) rfl
            · intro aq wd ld hfd hdd
              have hfd := Fr.cast (s' := [(29, (.bool (decide (off ≥ (n1.data.length : Int))))), (22, (.bool (decide (k < 0)))), (18, (.bool false)), (11, (.int .i64 0)), (10, (ptr n1.blk 0)), (9, (.int .i64 0)), (8, (.slice none 0 0)), (0, (ptr u 0)), (1, (.int .i64 r)), (2, (.int .i64 off)), (3, (.int .i64 k))]) hfd (by kernel_rfl)
              obtain ⟨e3, _⟩ := hdd
              have hfd := Fr.add (t := 41) (v := (ptr n1.blk 6)) hfd e3
              exact G_val hfd rfl (by kernel_rfl) (load_ev (run_load_one ((hU.le (H.le ld).toLe).nodes _ _ hr1).blk Try.underlying25 rfl rfl) rfl rfl) (Le.refl _) rfl
            · intro aq wd ld hfd hdd
              have hfd := Fr.cast (s' := [(29, (.bool (decide (off ≥ (n1.data.length : Int))))), (22, (.bool (decide (k < 0)))), (18, (.bool false)), (11, (.int .i64 0)), (10, (ptr n1.blk 0)), (9, (.int .i64 0)), (8, (.slice none 0 0)), (0, (ptr u 0)), (1, (.int .i64 r)), (2, (.int .i64 off)), (3, (.int .i64 k))]) hfd (by kernel_rfl)
              exact G_val (v := (.int .i64 off)) (w' := wd) hfd rfl (by kernel_rfl) (by kernel_rfl) (Le.refl _) rfl
            · intro aq wd ld hfd hdd
              have hfd := Fr.cast (s' := [(29, (.bool (decide (off ≥ (n1.data.length : Int))))), (22, (.bool (decide (k < 0)))), (18, (.bool false)), (11, (.int .i64 0)), (10, (ptr n1.blk 0)), (9, (.int .i64 0)), (8, (.slice none 0 0)), (0, (ptr u 0)), (1, (.int .i64 r)), (2, (.int .i64 off)), (3, (.int .i64 k))]) hfd (by kernel_rfl)
              exact G_val (v := (.int .i64 off)) (w' := wd) hfd rfl (by kernel_rfl) (by kernel_rfl) (Le.refl _) rfl
            · intro aq wd ld hfd hdd
              have hfd := Fr.cast (s' := [(29, (.bool (decide (off ≥ (n1.data.length : Int))))), (22, (.bool (decide (k < 0)))), (18, (.bool false)), (11, (.int .i64 0)), (10, (ptr n1.blk 0)), (9, (.int .i64 0)), (8, (.slice none 0 0)), (0, (ptr u 0)), (1, (.int .i64 r)), (2, (.int .i64 off)), (3, (.int .i64 k))]) hfd (by kernel_rfl)
              exact G_val (v := (.int .i64 k)) (w' := wd) hfd rfl (by kernel_rfl) (by kernel_rfl) (Le.refl _) rfl
            · intro aq wd ld hfd hdd
              have hfd := Fr.cast (s' := [(29, (.bool (decide (off ≥ (n1.data.length : Int))))), (22, (.bool (decide (k < 0)))), (18, (.bool false)), (11, (.int .i64 0)), (10, (ptr n1.blk 0)), (9, (.int .i64 0)), (8, (.slice none 0 0)), (0, (ptr u 0)), (1, (.int .i64 r)), (2, (.int .i64 off)), (3, (.int .i64 k))]) hfd (by kernel_rfl)
              exact G_val (v := (ptr n1.blk 0)) (w' := wd) hfd rfl (by kernel_rfl) (by kernel_rfl) (Le.refl _) rfl
            · intro aq wd ld hfd hdd
              have hfd := Fr.cast (s' := [(29, (.bool (decide (off ≥ (n1.data.length : Int))))), (22, (.bool (decide (k < 0)))), (18, (.bool false)), (11, (.int .i64 0)), (10, (ptr n1.blk 0)), (9, (.int .i64 0)), (8, (.slice none 0 0)), (0, (ptr u 0)), (1, (.int .i64 r)), (2, (.int .i64 off)), (3, (.int .i64 k))]) hfd (by kernel_rfl)
              obtain ⟨e8, _⟩ := hdd
              have hfd := Fr.add (t := 46) (v := (ptr n1.blk 0)) hfd e8
              exact G_val (v := (ptr n1.blk 0)) (w' := wd) hfd rfl (by kernel_rfl) (by kernel_rfl) (Le.refl _) rfl
            · intro aq wd ld hfd hdd
              have hfd := Fr.cast (s' := [(29, (.bool (decide (off ≥ (n1.data.length : Int))))), (22, (.bool (decide (k < 0)))), (18, (.bool false)), (11, (.int .i64 0)), (10, (ptr n1.blk 0)), (9, (.int .i64 0)), (8, (.slice none 0 0)), (0, (ptr u 0)), (1, (.int .i64 r)), (2, (.int .i64 off)), (3, (.int .i64 k))]) hfd (by kernel_rfl)
              obtain ⟨e9, _⟩ := hdd
              have hfd := Fr.add (t := 47) (v := (ptr n1.blk 0)) hfd e9
              exact G_val (v := (ptr n1.blk 0)) (w' := wd) hfd rfl (by kernel_rfl) (by kernel_rfl) (Le.refl _) rfl
            · intro aq wd ld hfd hdd
              have hfd := Fr.cast (s' := [(29, (.bool (decide (off ≥ (n1.data.length : Int))))), (22, (.bool (decide (k < 0)))), (18, (.bool false)), (11, (.int .i64 0)), (10, (ptr n1.blk 0)), (9, (.int .i64 0)), (8, (.slice none 0 0)), (0, (ptr u 0)), (1, (.int .i64 r)), (2, (.int .i64 off)), (3, (.int .i64 k))]) hfd (by kernel_rfl)
              obtain ⟨e10, _⟩ := hdd
              have hfd := Fr.add (t := 48) (v := (ptr n1.blk 0)) hfd e10
              exact G_val (v := (ptr n1.blk 6)) (w' := wd) hfd rfl (by kernel_rfl) (by kernel_rfl) (Le.refl _) rfl
            · intro aq wd ld hfd hdd
              have hfd := Fr.cast (s' := [(29, (.bool (decide (off ≥ (n1.data.length : Int))))), (22, (.bool (decide (k < 0)))), (18, (.bool false)), (11, (.int .i64 0)), (10, (ptr n1.blk 0)), (9, (.int .i64 0)), (8, (.slice none 0 0)), (0, (ptr u 0)), (1, (.int .i64 r)), (2, (.int .i64 off)), (3, (.int .i64 k))]) hfd (by kernel_rfl)
              obtain ⟨e11, _⟩ := hdd
              have hfd := Fr.add (t := 49) (v := (ptr n1.blk 6)) hfd e11
              exact G_val hfd rfl (by kernel_rfl) (load_ev (run_load_one ((hU.le (H.le ld).toLe).nodes _ _ hr1).blk Try.underlying25 rfl rfl) rfl rfl) (Le.refl _) rfl
            · intro aq wd ld hfd hdd
              have hfd := Fr.cast (s' := [(29, (.bool (decide (off ≥ (n1.data.length : Int))))), (22, (.bool (decide (k < 0)))), (18, (.bool false)), (11, (.int .i64 0)), (10, (ptr n1.blk 0)), (9, (.int .i64 0)), (8, (.slice none 0 0)), (0, (ptr u 0)), (1, (.int .i64 r)), (2, (.int .i64 off)), (3, (.int .i64 k))]) hfd (by kernel_rfl)
              obtain ⟨e12, _⟩ := hdd
              have hfd := Fr.add (t := 50) (v := n1.vd) hfd e12
              exact G_val (v := (.int .i64 (n1.data.length : Int))) (w' := wd) hfd rfl (by kernel_rfl) (X_len ((((hU.le (H.le ld).toLe).nodes _ _ hr1).data).mono (H.le ld).m) rfl Try.underlying25 rfl) (Le.refl _) rfl
            · intro aq wd ld hfd hdd
              have hfd := Fr.cast (s' := [(29, (.bool (decide (off ≥ (n1.data.length : Int))))), (22, (.bool (decide (k < 0)))), (18, (.bool false)), (11, (.int .i64 0)), (10, (ptr n1.blk 0)), (9, (.int .i64 0)), (8, (.slice none 0 0)), (0, (ptr u 0)), (1, (.int .i64 r)), (2, (.int .i64 off)), (3, (.int .i64 k))]) hfd (by kernel_rfl)
              exact G_val (v := (.int .i64 off)) (w' := wd) hfd rfl (by kernel_rfl) (by kernel_rfl) (Le.refl _) rfl
            · intro aq wd ld hfd hdd
              have hfd := Fr.cast (s' := [(29, (.bool (decide (off ≥ (n1.data.length : Int))))), (22, (.bool (decide (k < 0)))), (18, (.bool false)), (11, (.int .i64 0)), (10, (ptr n1.blk 0)), (9, (.int .i64 0)), (8, (.slice none 0 0)), (0, (ptr u 0)), (1, (.int .i64 r)), (2, (.int .i64 off)), (3, (.int .i64 k))]) hfd (by kernel_rfl)
              obtain ⟨e13, e14, _⟩ := hdd
              have hfd := Fr.add (t := 51) (v := (.int .i64 (n1.data.length : Int))) hfd e13
              have hfd := Fr.add (t := 52) (v := (.int .i64 off)) hfd e14
              exact G_val (v := (.int .i64 ((n1.data.length : Int) - off))) (w' := wd) hfd rfl (by kernel_rfl) (eq_int (by kernel_rfl) (wrap64_in (by first | omega | (simp only [List.length_take, List.length_drop]; omega)) (by first | omega | (simp only [List.length_take, List.length_drop]; omega)))) (Le.refl _) rfl
            · intro aq wd ld hfd hdd
              have hfd := Fr.cast (s' := [(29, (.bool (decide (off ≥ (n1.data.length : Int))))), (22, (.bool (decide (k < 0)))), (18, (.bool false)), (11, (.int .i64 0)), (10, (ptr n1.blk 0)), (9, (.int .i64 0)), (8, (.slice none 0 0)), (0, (ptr u 0)), (1, (.int .i64 r)), (2, (.int .i64 off)), (3, (.int .i64 k))]) hfd (by kernel_rfl)
              obtain ⟨e7, e15, _⟩ := hdd
              have hfd := Fr.add (t := 45) (v := (.int .i64 k)) hfd e7
              have hfd := Fr.add (t := 53) (v := (.int .i64 ((n1.data.length : Int) - off))) hfd e15
              exact G_val (v := (.int .i64 (min k ((n1.data.length : Int) - off)))) (w' := wd) hfd rfl (by kernel_rfl) (X_min rfl rfl rfl) (Le.refl _) rfl
            · intro aq wd ld hfd hdd
              have hfd := Fr.cast (s' := [(29, (.bool (decide (off ≥ (n1.data.length : Int))))), (22, (.bool (decide (k < 0)))), (18, (.bool false)), (11, (.int .i64 0)), (10, (ptr n1.blk 0)), (9, (.int .i64 0)), (8, (.slice none 0 0)), (0, (ptr u 0)), (1, (.int .i64 r)), (2, (.int .i64 off)), (3, (.int .i64 k))]) hfd (by kernel_rfl)
              obtain ⟨e6, e16, _⟩ := hdd
              have hfd := Fr.add (t := 44) (v := (.int .i64 off)) hfd e6
              have hfd := Fr.add (t := 54) (v := (.int .i64 (min k ((n1.data.length : Int) - off)))) hfd e16
              exact G_val (v := (.int .i64 (off + (min k ((n1.data.length : Int) - off))))) (w' := wd) hfd rfl (by kernel_rfl) (eq_int (by kernel_rfl) (wrap64_in (by first | omega | (simp only [List.length_take, List.length_drop]; omega)) (by first | omega | (simp only [List.length_take, List.length_drop]; omega)))) (Le.refl _) rfl
            intro aq1 w3 l3 hf1 fa1
            obtain ⟨_, _, _, _, qv1, qv2, _, _, _, _, _, _, _, _, _, _, _, qv3, _⟩ := fa1
            have hf1 := Fr.cast (s' := [(29, (.bool (decide (off ≥ (n1.data.length : Int))))), (22, (.bool (decide (k < 0)))), (18, (.bool false)), (11, (.int .i64 0)), (10, (ptr n1.blk 0)), (9, (.int .i64 0)), (8, (.slice none 0 0)), (0, (ptr u 0)), (1, (.int .i64 r)), (2, (.int .i64 off)), (3, (.int .i64 k))]) hf1 (by kernel_rfl)
            have hf1 := Fr.add (t := 42) (v := n1.vd) hf1 qv1
            have hf1 := Fr.add (t := 43) (v := (.int .i64 off)) hf1 qv2
            have hf1 := Fr.add (t := 55) (v := (.int .i64 (off + (min k ((n1.data.length : Int) - off))))) hf1 qv3
            replace H := H.le l3
            refine (?_ : wpR _ _ _ _ [(55, (.int .i64 (off + (min k ((n1.data.length : Int) - off))))), (43, (.int .i64 off)), (42, n1.vd), (29, (.bool (decide (off ≥ (n1.data.length : Int))))), (22, (.bool (decide (k < 0)))), (18, (.bool false)), (11, (.int .i64 0)), (10, (ptr n1.blk 0)), (9, (.int .i64 0)), (8, (.slice none 0 0)), (0, (ptr u 0)), (1, (.int .i64 r)), (2, (.int .i64 off)), (3, (.int .i64 k))] _ _) aq1 (hf1.sub ⟨rfl, rfl, rfl, rfl, rfl, rfl, rfl, rfl, rfl, rfl, rfl, rfl, rfl, rfl, trivial⟩)
            refine Rw (sliceV 1 n1.vd off (off + (min k ((n1.data.length : Int) - off)))) w3 (X_slice (l := off) (h := off + (min k ((n1.data.length : Int) - off))) ((((hU.le H.toLe).nodes _ _ hr1).data).mono H.m) (by first | omega | (simp only [List.length_take, List.length_drop]; omega)) (by first | omega | (simp only [List.length_take, List.length_drop]; omega)) (by first | omega | (simp only [List.length_take, List.length_drop]; omega)) rfl Try.underlying25 (by kernel_rfl) rfl (.inr ⟨_, rfl, rfl⟩) (.inr ⟨_, rfl, rfl⟩)) ?_
            refine Rc #[(sliceV 1 n1.vd off (off + (min k ((n1.data.length : Int) - off))))] w3 (bclone_any ((n1.data.drop (off : Int).toNat).take ((off + (min k ((n1.data.length : Int) - off)) : Int).toNat - (off : Int).toNat)) (sliceV 1 n1.vd off (off + (min k ((n1.data.length : Int) - off)))) _ _ H.sees (Is.slice (l := off) (h := off + (min k ((n1.data.length : Int) - off))) (((hU.le H.toLe).nodes _ _ hr1).data) (by first | omega | (simp only [List.length_take, List.length_drop]; omega)) (by first | omega | (simp only [List.length_take, List.length_drop]; omega)) (by first | omega | (simp only [List.length_take, List.length_drop]; omega))) (by first | omega | (simp only [List.length_take, List.length_drop]; omega))) ?_
            rintro v1 w4 ⟨hx1, l4⟩
            obtain ⟨g1, hg1, m1, H⟩ := H.data l4
            rw [hg1] at hx1
            have ln_hx1 := hx1.len_le
            refine Rv v1 w4 ?_
            refine Rv (.int .i64 0) w4 ?_
            refine wpR_nil ?_
            refine E_then_normal ?_
            refine C_ret ?_
            refine E_ret (res_two rfl rfl rfl) ⟨_, rfl, ?_⟩
            have er1 := getK_er_some hr1
            refine ⟨_, congrArg (fun x => Value.tuple #[_, .int .i64 x]) (?_ : (0 : Int) = readE (er L) r off k), ?_, H.toLe⟩
            · (simp only [readE, fileE]; first | (simp_all; done) | (simp_all; omega))
            · have hz := hx1.mono (H.fin sees)
              refine hz.cast ?_
              (simp only [readU, readE, fileE]; first | (simp_all; done) | (simp_all; omega))
    · have d1 : n1.kind ≠ 2 := ne_of_beq_false c1
      rcases Bool.eq_false_or_eq_true (n1.kind == 1) with c5 | c5
      · have d5 : n1.kind = 1 := eq_of_beq c5
        refine Rc #[(ptr u 0), (.int .i64 r)] w (file_dir u mb q1 q2 nx L r n1 _ _ H.sees (hU.le H.toLe) wf_r hr1 c5) ?_
        rintro _ w5 ⟨rfl, l5⟩
        replace H := H.le l5
        refine Rv (.tuple #[(ptr n1.blk 0), (.int .i64 25)]) w5 ?_
        refine Rv (ptr n1.blk 0) w5 ?_
        refine Rv (.int .i64 25) w5 ?_
        refine Rv (ptr n1.blk 0) w5 ?_
        refine Rv (.int .i64 25) w5 ?_
        refine wpR_nil ?_
        refine E_then_normal ?_
        refine C_seq ?_
        refine C_block ?_
        refine C_seq ?_
        refine Cs [(11, (.int .i64 25)), (10, (ptr n1.blk 0)), (9, (.int .i64 0)), (8, (.slice none 0 0)), (0, (ptr u 0)), (1, (.int .i64 r)), (2, (.int .i64 off)), (3, (.int .i64 k))] ?_
        refine C_region ?_
        refine Rv (.int .i64 25) w5 ?_
        refine Rv (.bool true) w5 ?_
        refine Rv (.bool true) w5 ?_
        refine wpR_nil ?_
        refine E_then_normal ?_
        refine C_true rfl ?_
        refine C_seq ?_
        refine Cs [(18, (.bool true)), (11, (.int .i64 25)), (10, (ptr n1.blk 0)), (9, (.int .i64 0)), (8, (.slice none 0 0)), (0, (ptr u 0)), (1, (.int .i64 r)), (2, (.int .i64 off)), (3, (.int .i64 k))] ?_
        refine C_region ?_
        refine Rv (.int .i64 25) w5 ?_
        refine Rv (.slice none 0 0) w5 ?_
        refine Rv (.int .i64 25) w5 ?_
        refine wpR_nil ?_
        refine E_then_normal ?_
        refine C_ret ?_
        refine E_block_ret ?_
        refine E_then_ret ?_
        refine E_ret (res_two rfl rfl rfl) ⟨_, rfl, ?_⟩
        have er1 := getK_er_some hr1
        refine ⟨_, congrArg (fun x => Value.tuple #[_, .int .i64 x]) (?_ : (25 : Int) = readE (er L) r off k), ?_, H.toLe⟩
        · (simp only [readE, fileE]; first | (simp_all; done) | (simp_all; omega))
        · refine (is_nil _).cast ?_
          (simp only [readU, readE, fileE]; first | (simp_all; done) | (simp_all; omega))
      · have d5 : n1.kind ≠ 1 := ne_of_beq_false c5
        refine Rc #[(ptr u 0), (.int .i64 r)] w (file_bad u mb q1 q2 nx L r n1 _ _ H.sees (hU.le H.toLe) wf_r hr1 c5 c1) ?_
        rintro _ w6 ⟨rfl, l6⟩
        replace H := H.le l6
        refine Rv (.tuple #[(ptr n1.blk 0), (.int .i64 1)]) w6 ?_
        refine Rv (ptr n1.blk 0) w6 ?_
        refine Rv (.int .i64 1) w6 ?_
        refine Rv (ptr n1.blk 0) w6 ?_
        refine Rv (.int .i64 1) w6 ?_
        refine wpR_nil ?_
        refine E_then_normal ?_
        refine C_seq ?_
        refine C_block ?_
        refine C_seq ?_
        refine Cs [(11, (.int .i64 1)), (10, (ptr n1.blk 0)), (9, (.int .i64 0)), (8, (.slice none 0 0)), (0, (ptr u 0)), (1, (.int .i64 r)), (2, (.int .i64 off)), (3, (.int .i64 k))] ?_
        refine C_region ?_
        refine Rv (.int .i64 1) w6 ?_
        refine Rv (.bool true) w6 ?_
        refine Rv (.bool true) w6 ?_
        refine wpR_nil ?_
        refine E_then_normal ?_
        refine C_true rfl ?_
        refine C_seq ?_
        refine Cs [(18, (.bool true)), (11, (.int .i64 1)), (10, (ptr n1.blk 0)), (9, (.int .i64 0)), (8, (.slice none 0 0)), (0, (ptr u 0)), (1, (.int .i64 r)), (2, (.int .i64 off)), (3, (.int .i64 k))] ?_
        refine C_region ?_
        refine Rv (.int .i64 1) w6 ?_
        refine Rv (.slice none 0 0) w6 ?_
        refine Rv (.int .i64 1) w6 ?_
        refine wpR_nil ?_
        refine E_then_normal ?_
        refine C_ret ?_
        refine E_block_ret ?_
        refine E_then_ret ?_
        refine E_ret (res_two rfl rfl rfl) ⟨_, rfl, ?_⟩
        have er1 := getK_er_some hr1
        refine ⟨_, congrArg (fun x => Value.tuple #[_, .int .i64 x]) (?_ : (1 : Int) = readE (er L) r off k), ?_, H.toLe⟩
        · (simp only [readE, fileE]; first | (simp_all; done) | (simp_all; omega))
        · refine (is_nil _).cast ?_
          (simp only [readU, readE, fileE]; first | (simp_all; done) | (simp_all; omega))
end Go.Proofs.Ytnmaehdklmgfmaa
