/- UpperFiles, walked. (Printed by a program of mine.) -/
import Derived.Test.YtnmaehdklmgfmaaUpH
import Derived.Test.YtnmaehdklmgfmaaLmGC
namespace Go.Proofs.Ytnmaehdklmgfmaa
open Go Go.RowKit Go.Lm
set_option linter.unusedVariables false in
set_option linter.unusedSimpArgs false in
set_option maxHeartbeats 4000000 in
set_option maxRecDepth 100000 in
theorem upperFiles_any (l : List (List UInt8)) (at_ : List Int) (vl va : Value) (g w : World) (sees : Sees g w) (h_l : Is g vl l) (h_a : Is g va at_) : Ret Try.prog 4 #[vl, va] w fun v w' => v = .bool true ∧ Le w w' := by
  have ln_h_l := h_l.len_le
  have ln_h_a := h_a.len_le
  have H := SL.start sees
  refine enter (args := [vl, va]) Try.func4 rfl rfl rfl ?_
  refine C_seq ?_
  refine C_region ?_
  refine Rv (.bool false) w ?_
  refine wpR_nil ?_
  refine E_then_normal ?_
  refine C_seq ?_
  refine C_region ?_
  refine Rc #[] w (shown_any _) ?_
  rintro _ w1 ⟨rfl, l1⟩
  replace H := H.le l1
  refine Rv (.bool true) w1 ?_
  refine wpR_nil ?_
  refine E_then_normal ?_
  refine C_seq ?_
  refine Cs [(5, (.bool true)), (4, (.bool false)), (0, vl), (1, va)] ?_
  refine C_region ?_
  refine Rv (.agg #[(.int .i64 9), (.int .i64 9)]) w1 ?_
  refine Rc #[(.agg #[(.int .i64 9), (.int .i64 9)])] w1 (new_S 9 9 _ _ _ _ H) ?_
  rintro _ w2 ⟨u1, rfl, Hn⟩
  replace H := Hn
  clear Hn
  refine Rv (ptr u1 0) w2 ?_
  refine wpR_nil ?_
  refine E_then_normal ?_
  refine C_seq ?_
  refine C_seq ?_
  refine Cs [(6, (ptr u1 0)), (5, (.bool true)), (4, (.bool false)), (0, vl), (1, va)] ?_
  refine C_region ?_
  refine Rv (.bool true) w2 ?_
  refine Rv (.bool false) w2 ?_
  refine Rv (.bool false) w2 ?_
  refine Rv (ptr u1 0) w2 ?_
  refine Rv (.bool false) w2 ?_
  refine Rv (.bool false) w2 ?_
  refine wpR_nil ?_
  refine E_then_normal ?_
  refine C_false rfl ?_
  refine C_skip ?_
  refine E_then_normal ?_
  refine C_seq ?_
  refine Cs [(27, (.bool false)), (6, (ptr u1 0)), (5, (.bool true)), (4, (.bool false)), (0, vl), (1, va)] ?_
  refine C_region ?_
  refine Rv (ptr u1 0) w2 ?_
  refine Rv (.agg #[(.slice none 0 0), (.int .i64 0), (.int .i64 2), (.int .i64 0), (.int .i64 0), (.int .i64 0), (.slice none 0 0), (.string (⟨#[]⟩)), (.slice none 0 0), (.bool false)]) w2 ?_
  refine Rc #[(ptr u1 0), (.int .i64 1), (.string (⟨#[102]⟩ : ByteArray)), (.agg #[(.slice none 0 0), (.int .i64 0), (.int .i64 2), (.int .i64 0), (.int .i64 0), (.int .i64 0), (.slice none 0 0), (.string (⟨#[]⟩)), (.slice none 0 0), (.bool false)])] w2 (make_S u1 9 9 2 ([(1, rootU [])]) 1 (⟨#[102]⟩ : ByteArray) (.slice none 0 0) 0 2 0 0 0 (.slice none 0 0) [] (⟨#[]⟩) (.slice none 0 0) [] false _ _ _ _ H 0 2 3 ([(2, fileN ([] : List UInt8) 1), (1, rootU [(⟨#[102]⟩, 2)])]) (mk1 _ _ (by rw [validN_list]; rfl) (by decide)) (mk1U _ _ (by rw [validN_list]; rfl) (by decide)) rfl rfl (by decide) (by first | decide | omega | (rw [copyL_length _ _ _ (by simp), List.length_replicate]; omega) | (simp; omega)) (is_nil _) (is_nil _) (by first | decide | omega | (rw [copyL_length _ _ _ (by simp), List.length_replicate]; omega) | (simp; omega)) rfl (by decide) (by decide) (by decide) (ofGet rfl (by decide))) ?_
  rintro _ w3 ⟨g1, m1, Hn, rfl⟩
  replace H := Hn
  clear Hn
  refine Rv (.tuple #[(.int .i64 2), (.int .i64 0)]) w3 ?_
  refine Rv (.int .i64 2) w3 ?_
  refine Rv (.int .i64 0) w3 ?_
  refine Rv (.int .i64 2) w3 ?_
  refine Rv (.int .i64 0) w3 ?_
  refine wpR_nil ?_
  refine E_then_normal ?_
  refine C_seq ?_
  refine C_seq ?_
  refine Cs [(8, (.int .i64 0)), (7, (.int .i64 2)), (27, (.bool false)), (6, (ptr u1 0)), (5, (.bool true)), (4, (.bool false)), (0, vl), (1, va)] ?_
  refine C_region ?_
  refine Rv (.int .i64 0) w3 ?_
  refine Rv (.bool false) w3 ?_
  refine wpR_nil ?_
  refine E_then_normal ?_
  refine C_false rfl ?_
  refine C_skip ?_
  refine E_then_normal ?_
  refine C_seq ?_
  refine Cs [(35, (.bool false)), (8, (.int .i64 0)), (7, (.int .i64 2)), (27, (.bool false)), (6, (ptr u1 0)), (5, (.bool true)), (4, (.bool false)), (0, vl), (1, va)] ?_
  refine C_region ?_
  refine S_new (fun b => .slice (some ⟨b, 0, none⟩) 0 0) (.cells #[] 5) (by kernel_rfl) (by kernel_rfl) rfl rfl rfl fun b1 w4 n1 => ?_
  replace H := H.new n1
  replace H := H.slEmpty UInt8
  refine Rv (.slice (some ⟨b1, 0, none⟩) 0 0) w4 ?_
  refine wpR_nil ?_
  refine E_then_normal ?_
  refine C_seq ?_
  refine C_seq ?_
  refine Cs [(9, (.slice (some ⟨b1, 0, none⟩) 0 0)), (35, (.bool false)), (8, (.int .i64 0)), (7, (.int .i64 2)), (27, (.bool false)), (6, (ptr u1 0)), (5, (.bool true)), (4, (.bool false)), (0, vl), (1, va)] ?_
  refine C_region ?_
  refine Rv (.int .i64 0) w4 ?_
  refine wpR_nil ?_
  refine E_then_normal ?_
  refine C_block ?_
  refine C_loop (ι := Int × List UInt8 × Value) (fun (i : Int × List UInt8 × Value) => match i with | (k, want, vw) => [(10, (.int .i64 k)), (9, vw), (35, (.bool false)), (8, (.int .i64 0)), (7, (.int .i64 2)), (27, (.bool false)), (6, (ptr u1 0)), (5, (.bool true)), (0, vl), (1, va)]) (fun (i : Int × List UInt8 × Value) w' => match i with | (k, want, vw) => ∃ gl : World, 0 ≤ k ∧ k ≤ l.length ∧ k ≤ at_.length ∧ want.length ≤ 4096 ∧ Mono g1 gl ∧ SL ⟨w, g⟩ gl w' [slA 5 vw (want : List UInt8), upS Try.prog uty u1 9 9 3 ([(2, fileN want 1), (1, rootU [(⟨#[102]⟩, 2)])])]) (fun (i : Int × List UInt8 × Value) => match i with | (k, want, vw) => ((l.length : Int) - k).toNat) (0, ([] : List UInt8), (.slice (some ⟨b1, 0, none⟩) 0 0)) ⟨rfl, rfl, rfl, rfl, rfl, rfl, rfl, rfl, rfl, rfl, trivial⟩ ⟨g1, by omega, by omega, by omega, by decide, Mono.refl _, H⟩ ?_
  clear H
  rintro ⟨k, want, vw⟩ w5 ⟨gl, hk0, hkl, hka, hw0, m2, H⟩
  refine Cs [(10, (.int .i64 k)), (9, vw), (35, (.bool false)), (8, (.int .i64 0)), (7, (.int .i64 2)), (27, (.bool false)), (6, (ptr u1 0)), (5, (.bool true)), (0, vl), (1, va)] ?_
  refine C_seq ?_
  refine C_seq ?_
  refine C_region ?_
  refine Rv (.int .i64 k) w5 ?_
  refine Rv vl w5 ?_
  refine Rw (.int .i64 (l.length : Int)) w5 (X_len ((h_l.mono (m1.trans m2)).mono H.m) rfl Try.underlying52 rfl) ?_
  refine Rv (.bool (decide (k < (l.length : Int)))) w5 ?_
  rcases Bool.eq_false_or_eq_true (decide (k < (l.length : Int))) with c1 | c1
  · have d1 : k < (l.length : Int) := of_decide_eq_true c1
    refine Rw (.bool true) w5 (eq_bool (by kernel_rfl) c1) ?_
    refine Rv (.int .i64 k) w5 ?_
    refine Rv va w5 ?_
    refine Rw (.int .i64 (at_.length : Int)) w5 (X_len ((h_a.mono (m1.trans m2)).mono H.m) rfl Try.underlying53 rfl) ?_
    refine Rv (.bool (decide (k < (at_.length : Int)))) w5 ?_
    refine Rv (.bool (decide (k < (at_.length : Int)))) w5 ?_
    rcases Bool.eq_false_or_eq_true (decide (k < (at_.length : Int))) with c2 | c2
    · have d2 : k < (at_.length : Int) := of_decide_eq_true c2
      refine Rw (.bool true) w5 (eq_bool (by kernel_rfl) c2) ?_
      refine Rv (.int .i64 k) w5 ?_
      refine Rv (.bool (decide (k < 20))) w5 ?_
      refine Rv (.bool (decide (k < 20))) w5 ?_
      refine wpR_nil ?_
      refine E_then_normal ?_
      refine C_cond rfl (fun c3 => ?_) (fun c3 => ?_)
      · have d3 : k < 20 := of_decide_eq_true c3
        refine C_skip ?_
        refine E_then_normal ?_
        refine C_seq ?_
        refine C_block ?_
        refine C_seq ?_
        refine Cs [(50, (.bool (decide (k < 20)))), (10, (.int .i64 k)), (9, vw), (35, (.bool false)), (8, (.int .i64 0)), (7, (.int .i64 2)), (27, (.bool false)), (6, (ptr u1 0)), (5, (.bool true)), (0, vl), (1, va)] ?_
        refine C_region ?_
        refine Rv vl w5 ?_
        refine Rv (.int .i64 k) w5 ?_
        refine Rw (elemP 1 vl k) w5 (X_indexAddr ((h_l.mono (m1.trans m2)).mono H.m) (by first | decide | omega | (rw [copyL_length _ _ _ (by simp), List.length_replicate]; omega) | (simp; omega)) (by first | decide | omega | (rw [copyL_length _ _ _ (by simp), List.length_replicate]; omega) | (simp; omega)) rfl Try.underlying52 (by kernel_rfl) rfl rfl) ?_
        obtain ⟨vb1, hc1, hx1⟩ := bytes_at (i := k) (h_l.mono (m1.trans m2)) (by first | decide | omega | (rw [copyL_length _ _ _ (by simp), List.length_replicate]; omega) | (simp; omega)) (by first | decide | omega | (rw [copyL_length _ _ _ (by simp), List.length_replicate]; omega) | (simp; omega))
        have ln_hx1 := hx1.len_le
        refine Rw vb1 w5 (X_load rfl rfl (run_elem_one hc1 H.m Try.underlying25 rfl)) ?_
        refine Rv vb1 w5 ?_
        refine wpR_nil ?_
        refine E_then_normal ?_
        refine C_seq ?_
        refine C_seq ?_
        refine Cs [(11, vb1), (50, (.bool (decide (k < 20)))), (10, (.int .i64 k)), (9, vw), (35, (.bool false)), (8, (.int .i64 0)), (7, (.int .i64 2)), (27, (.bool false)), (6, (ptr u1 0)), (5, (.bool true)), (0, vl), (1, va)] ?_
        refine C_region ?_
        refine Rv vb1 w5 ?_
        refine Rw (.int .i64 ((nth l k).length : Int)) w5 (X_len (hx1.mono H.m) rfl Try.underlying25 rfl) ?_
        refine Rv (.bool (decide (((nth l k).length : Int) > 300))) w5 ?_
        refine wpR_nil ?_
        refine E_then_normal ?_
        refine C_cond rfl (fun c4 => ?_) (fun c4 => ?_)
        · have d4 : ((nth l k).length : Int) > 300 := of_decide_eq_true c4
          refine Cs [(59, (.bool (decide (((nth l k).length : Int) > 300)))), (11, vb1), (50, (.bool (decide (k < 20)))), (10, (.int .i64 k)), (9, vw), (35, (.bool false)), (8, (.int .i64 0)), (7, (.int .i64 2)), (27, (.bool false)), (6, (ptr u1 0)), (5, (.bool true)), (0, vl), (1, va)] ?_
          refine C_region ?_
          refine Rv vb1 w5 ?_
          refine Rw (sliceV 1 vb1 0 300) w5 (X_slice (l := 0) (h := 300) (hx1.mono H.m) (by first | decide | omega | (rw [copyL_length _ _ _ (by simp), List.length_replicate]; omega) | (simp; omega)) (by first | decide | omega | (rw [copyL_length _ _ _ (by simp), List.length_replicate]; omega) | (simp; omega)) (by first | decide | omega | (rw [copyL_length _ _ _ (by simp), List.length_replicate]; omega) | (simp; omega)) rfl Try.underlying25 (by kernel_rfl) rfl (.inl ⟨rfl, rfl⟩) (.inr ⟨_, rfl, rfl⟩)) ?_
          have hx2 : Is gl (sliceV 1 vb1 0 300) (((nth l k).drop (0 : Int).toNat).take ((300 : Int).toNat - (0 : Int).toNat) : List UInt8) := (Is.slice (l := 0) (h := 300) hx1 (by first | decide | omega | (rw [copyL_length _ _ _ (by simp), List.length_replicate]; omega) | (simp; omega)) (by first | decide | omega | (rw [copyL_length _ _ _ (by simp), List.length_replicate]; omega) | (simp; omega)) (by first | decide | omega | (rw [copyL_length _ _ _ (by simp), List.length_replicate]; omega) | (simp; omega)))
          obtain ⟨sa1, sn1, sk1, se1⟩ := slice_form hx2
          rw [se1] at hx2
          rw [se1]
          obtain ⟨b2, hx2, lb1⟩ : ∃ b1 : List UInt8, Is gl (.slice sa1 sn1 sk1) b1 ∧ b1.length ≤ 300 := ⟨_, hx2, by simp only [List.length_take, List.length_drop]; omega⟩
          refine Rv (.slice sa1 sn1 sk1) w5 ?_
          refine wpR_nil ?_
          refine E_then_normal ?_
          refine C_seq ?_
          refine Cs [(11, (.slice sa1 sn1 sk1)), (59, (.bool (decide (((nth l k).length : Int) > 300)))), (50, (.bool (decide (k < 20)))), (10, (.int .i64 k)), (9, vw), (35, (.bool false)), (8, (.int .i64 0)), (7, (.int .i64 2)), (27, (.bool false)), (6, (ptr u1 0)), (5, (.bool true)), (0, vl), (1, va)] ?_
          refine C_region ?_
          refine Rv va w5 ?_
          refine Rv (.int .i64 k) w5 ?_
          refine Rw (elemP 1 va k) w5 (X_indexAddr ((h_a.mono (m1.trans m2)).mono H.m) (by first | decide | omega | (rw [copyL_length _ _ _ (by simp), List.length_replicate]; omega) | (simp; omega)) (by first | decide | omega | (rw [copyL_length _ _ _ (by simp), List.length_replicate]; omega) | (simp; omega)) rfl Try.underlying53 (by kernel_rfl) rfl rfl) ?_
          obtain ⟨hi1, hi1'⟩ := int_at (h_a.mono (m1.trans m2)) (i := k) (by first | decide | omega | (rw [copyL_length _ _ _ (by simp), List.length_replicate]; omega) | (simp; omega)) (by first | decide | omega | (rw [copyL_length _ _ _ (by simp), List.length_replicate]; omega) | (simp; omega))
          refine Rw (.int .i64 (nth at_ k)) w5 (X_load rfl rfl (run_load_int ((h_a.mono (m1.trans m2)).mono H.m) (by first | decide | omega | (rw [copyL_length _ _ _ (by simp), List.length_replicate]; omega) | (simp; omega)) (by first | decide | omega | (rw [copyL_length _ _ _ (by simp), List.length_replicate]; omega) | (simp; omega)) Try.underlying3 (by kernel_rfl))) ?_
          refine Rc #[(.int .i64 (nth at_ k)), (.int .i64 4500)] w5 (kind_any (nth at_ k) 4500 (by first | decide | omega | (rw [copyL_length _ _ _ (by simp), List.length_replicate]; omega) | (simp; omega)) (by first | decide | omega | (rw [copyL_length _ _ _ (by simp), List.length_replicate]; omega) | (simp; omega)) (by first | decide | omega | (rw [copyL_length _ _ _ (by simp), List.length_replicate]; omega) | (simp; omega)) (by first | decide | omega | (rw [copyL_length _ _ _ (by simp), List.length_replicate]; omega) | (simp; omega)) _) ?_
          rintro _ w6 ⟨rfl, l2⟩
          replace H := H.le l2
          obtain ⟨hkr1, hkr1'⟩ := kindI_range (c := nth at_ k) (n := 4500) (by omega) (by omega) (by omega)
          refine Rv (.int .i64 (kindI (nth at_ k) 4500)) w6 ?_
          refine wpR_nil ?_
          refine E_then_normal ?_
          refine C_seq ?_
          refine C_seq ?_
          refine Cs [(12, (.int .i64 (kindI (nth at_ k) 4500))), (11, (.slice sa1 sn1 sk1)), (59, (.bool (decide (((nth l k).length : Int) > 300)))), (50, (.bool (decide (k < 20)))), (10, (.int .i64 k)), (9, vw), (35, (.bool false)), (8, (.int .i64 0)), (7, (.int .i64 2)), (27, (.bool false)), (6, (ptr u1 0)), (5, (.bool true)), (0, vl), (1, va)] ?_
          refine C_region ?_
          refine Rv va w6 ?_
          refine Rv (.int .i64 k) w6 ?_
          refine Rw (elemP 1 va k) w6 (X_indexAddr ((h_a.mono (m1.trans m2)).mono H.m) (by first | decide | omega | (rw [copyL_length _ _ _ (by simp), List.length_replicate]; omega) | (simp; omega)) (by first | decide | omega | (rw [copyL_length _ _ _ (by simp), List.length_replicate]; omega) | (simp; omega)) rfl Try.underlying53 (by kernel_rfl) rfl rfl) ?_
          refine Rw (.int .i64 (nth at_ k)) w6 (X_load rfl rfl (run_load_int ((h_a.mono (m1.trans m2)).mono H.m) (by first | decide | omega | (rw [copyL_length _ _ _ (by simp), List.length_replicate]; omega) | (simp; omega)) (by first | decide | omega | (rw [copyL_length _ _ _ (by simp), List.length_replicate]; omega) | (simp; omega)) Try.underlying3 (by kernel_rfl))) ?_
          refine Rv (.bool (decide ((nth at_ k) < 0))) w6 ?_
          refine wpR_nil ?_
          refine E_then_normal ?_
          refine C_cond rfl (fun c5 => ?_) (fun c5 => ?_)
          · have d5 : (nth at_ k) < 0 := of_decide_eq_true c5
            refine C_seq ?_
            refine Cs [(71, (.bool (decide ((nth at_ k) < 0)))), (12, (.int .i64 (kindI (nth at_ k) 4500))), (11, (.slice sa1 sn1 sk1)), (59, (.bool (decide (((nth l k).length : Int) > 300)))), (50, (.bool (decide (k < 20)))), (10, (.int .i64 k)), (9, vw), (35, (.bool false)), (8, (.int .i64 0)), (7, (.int .i64 2)), (27, (.bool false)), (6, (ptr u1 0)), (5, (.bool true)), (0, vl), (1, va)] ?_
            refine C_region ?_
            refine Rv (ptr u1 0) w6 ?_
            refine Rv (.int .i64 2) w6 ?_
            refine Rv (.int .i64 (kindI (nth at_ k) 4500)) w6 ?_
            rcases Bool.eq_false_or_eq_true (decide ((kindI (nth at_ k) 4500) ≤ 4096)) with c6 | c6
            · have d6 : (kindI (nth at_ k) 4500) ≤ 4096 := of_decide_eq_true c6
              replace H := H.pick 1
              refine Rc #[(ptr u1 0), (.int .i64 2), (.int .i64 (kindI (nth at_ k) 4500))] w6 (resize_S u1 9 9 3 ([(2, fileN want 1), (1, rootU [(⟨#[102]⟩, 2)])]) 2 (kindI (nth at_ k) 4500) _ _ _ _ H 0 ([(2, fileN (sizedL want (kindI (nth at_ k) 4500)) 1), (1, rootU [(⟨#[102]⟩, 2)])]) (rsOk (by omega) (by omega)) (rsOkU (by omega) (by omega)) (by decide)) ?_
              rintro _ w7 ⟨g2, m3, Hn, rfl⟩
              replace H := Hn
              clear Hn
              refine Rv (.int .i64 0) w7 ?_
              refine wpR_nil ?_
              refine E_then_normal ?_
              refine C_seq ?_
              refine C_seq ?_
              refine Cs [(13, (.int .i64 0)), (71, (.bool (decide ((nth at_ k) < 0)))), (12, (.int .i64 (kindI (nth at_ k) 4500))), (11, (.slice sa1 sn1 sk1)), (59, (.bool (decide (((nth l k).length : Int) > 300)))), (50, (.bool (decide (k < 20)))), (10, (.int .i64 k)), (9, vw), (35, (.bool false)), (8, (.int .i64 0)), (7, (.int .i64 2)), (27, (.bool false)), (6, (ptr u1 0)), (5, (.bool true)), (0, vl), (1, va)] ?_
              refine C_region ?_
              refine Rv (.int .i64 0) w7 ?_
              refine Rv (.bool true) w7 ?_
              refine Rv (.int .i64 (kindI (nth at_ k) 4500)) w7 ?_
              refine Rw (.bool true) w7 (eq_bool (by kernel_rfl) c6) ?_
              refine Rv (.bool false) w7 ?_
              refine wpR_nil ?_
              refine E_then_normal ?_
              refine C_false rfl ?_
              refine C_skip ?_
              refine E_then_normal ?_
              refine C_seq ?_
              refine C_seq ?_
              refine Cs [(80, (.bool false)), (13, (.int .i64 0)), (71, (.bool (decide ((nth at_ k) < 0)))), (12, (.int .i64 (kindI (nth at_ k) 4500))), (11, (.slice sa1 sn1 sk1)), (59, (.bool (decide (((nth l k).length : Int) > 300)))), (50, (.bool (decide (k < 20)))), (10, (.int .i64 k)), (9, vw), (35, (.bool false)), (8, (.int .i64 0)), (7, (.int .i64 2)), (27, (.bool false)), (6, (ptr u1 0)), (5, (.bool true)), (0, vl), (1, va)] ?_
              refine C_region ?_
              refine Rv (.int .i64 0) w7 ?_
              refine Rv (.bool true) w7 ?_
              refine wpR_nil ?_
              refine E_then_normal ?_
              refine C_true rfl ?_
              refine C_seq ?_
              refine Cs [(82, (.bool true)), (80, (.bool false)), (13, (.int .i64 0)), (71, (.bool (decide ((nth at_ k) < 0)))), (12, (.int .i64 (kindI (nth at_ k) 4500))), (11, (.slice sa1 sn1 sk1)), (59, (.bool (decide (((nth l k).length : Int) > 300)))), (50, (.bool (decide (k < 20)))), (10, (.int .i64 k)), (9, vw), (35, (.bool false)), (8, (.int .i64 0)), (7, (.int .i64 2)), (27, (.bool false)), (6, (ptr u1 0)), (5, (.bool true)), (0, vl), (1, va)] ?_
              refine C_region ?_
              refine Rv (.int .i64 (kindI (nth at_ k) 4500)) w7 ?_
              refine S_makeB H Try.underlying25 (by kernel_rfl) (by first | decide | omega | (rw [copyL_length _ _ _ (by simp), List.length_replicate]; omega) | (simp; omega)) (by first | decide | omega | (rw [copyL_length _ _ _ (by simp), List.length_replicate]; omega) | (simp; omega)) rfl rfl rfl rfl rfl rfl fun b3 w8 Hn => ?_
              replace H := Hn
              clear Hn
              refine Rv (.slice (some ⟨b3, 0, none⟩) (kindI (nth at_ k) 4500 : Int).toNat (kindI (nth at_ k) 4500 : Int).toNat) w8 ?_
              refine wpR_nil ?_
              refine E_then_normal ?_
              refine C_seq ?_
              refine Cs [(14, (.slice (some ⟨b3, 0, none⟩) (kindI (nth at_ k) 4500 : Int).toNat (kindI (nth at_ k) 4500 : Int).toNat)), (82, (.bool true)), (80, (.bool false)), (13, (.int .i64 0)), (71, (.bool (decide ((nth at_ k) < 0)))), (12, (.int .i64 (kindI (nth at_ k) 4500))), (11, (.slice sa1 sn1 sk1)), (59, (.bool (decide (((nth l k).length : Int) > 300)))), (50, (.bool (decide (k < 20)))), (10, (.int .i64 k)), (9, vw), (35, (.bool false)), (8, (.int .i64 0)), (7, (.int .i64 2)), (27, (.bool false)), (6, (ptr u1 0)), (5, (.bool true)), (0, vl), (1, va)] ?_
              refine C_region ?_
              refine Rv (.slice (some ⟨b3, 0, none⟩) (kindI (nth at_ k) 4500 : Int).toNat (kindI (nth at_ k) 4500 : Int).toNat) w8 ?_
              refine Rv vw w8 ?_
              refine S_copyV (off := 0) H (by first | rw [List.length_replicate] | rw [copyL_length _ _ _ (by simp), List.length_replicate]) (H.slRd (α := UInt8) (e := 5) (v := vw) (xs := want) 2) (by first | omega | (rw [List.length_replicate]; omega) | (rw [copyL_length _ _ _ (by simp), List.length_replicate]; omega) | (simp; done) | (simp; omega)) (by first | omega | (rw [List.length_replicate]; omega) | (rw [copyL_length _ _ _ (by simp), List.length_replicate]; omega) | (simp; done) | (simp; omega)) Try.underlying25 (by kernel_rfl) (sliceV_at (by first | rw [List.length_replicate] | rw [copyL_length _ _ _ (by simp), List.length_replicate])) rfl rfl rfl rfl rfl rfl fun w9 Hn => ?_
              replace H := Hn
              clear Hn
              refine wpR_nil ?_
              refine E_then_normal ?_
              refine Cs [(14, (.slice (some ⟨b3, 0, none⟩) (kindI (nth at_ k) 4500 : Int).toNat (kindI (nth at_ k) 4500 : Int).toNat)), (82, (.bool true)), (80, (.bool false)), (13, (.int .i64 0)), (71, (.bool (decide ((nth at_ k) < 0)))), (12, (.int .i64 (kindI (nth at_ k) 4500))), (11, (.slice sa1 sn1 sk1)), (59, (.bool (decide (((nth l k).length : Int) > 300)))), (50, (.bool (decide (k < 20)))), (10, (.int .i64 k)), (9, vw), (35, (.bool false)), (8, (.int .i64 0)), (7, (.int .i64 2)), (27, (.bool false)), (6, (ptr u1 0)), (5, (.bool true)), (0, vl), (1, va)] ?_
              refine C_region ?_
              refine Rv (.slice (some ⟨b3, 0, none⟩) (kindI (nth at_ k) 4500 : Int).toNat (kindI (nth at_ k) 4500 : Int).toNat) w9 ?_
              refine Rv (.slice (some ⟨b3, 0, none⟩) (kindI (nth at_ k) 4500 : Int).toNat (kindI (nth at_ k) 4500 : Int).toNat) w9 ?_
              refine wpR_nil ?_
              refine E_then_normal ?_
              refine C_exit ?_
              refine E_then_exit ?_
              refine E_block_here ?_
              refine E_then_normal ?_
              refine Cs [(9, (.slice (some ⟨b3, 0, none⟩) (kindI (nth at_ k) 4500 : Int).toNat (kindI (nth at_ k) 4500 : Int).toNat)), (14, (.slice (some ⟨b3, 0, none⟩) (kindI (nth at_ k) 4500 : Int).toNat (kindI (nth at_ k) 4500 : Int).toNat)), (82, (.bool true)), (80, (.bool false)), (13, (.int .i64 0)), (71, (.bool (decide ((nth at_ k) < 0)))), (12, (.int .i64 (kindI (nth at_ k) 4500))), (11, (.slice sa1 sn1 sk1)), (59, (.bool (decide (((nth l k).length : Int) > 300)))), (50, (.bool (decide (k < 20)))), (10, (.int .i64 k)), (35, (.bool false)), (8, (.int .i64 0)), (7, (.int .i64 2)), (27, (.bool false)), (6, (ptr u1 0)), (5, (.bool true)), (0, vl), (1, va)] ?_
              refine C_region ?_
              refine Rv (.int .i64 k) w9 ?_
              refine Rw (.int .i64 (k + 1)) w9 (eq_int (by kernel_rfl) (wrap64_in (by first | decide | omega | (rw [copyL_length _ _ _ (by simp), List.length_replicate]; omega) | (simp; omega)) (by first | decide | omega | (rw [copyL_length _ _ _ (by simp), List.length_replicate]; omega) | (simp; omega)))) ?_
              refine Rv (.int .i64 (k + 1)) w9 ?_
              refine wpR_nil ?_
              replace H := H.pick 2
              replace H := H.drop
              refine E_then_mid fun aq1 ha1 => ⟨(k + 1, sizedL want (kindI (nth at_ k) 4500), (.slice (some ⟨b3, 0, none⟩) (kindI (nth at_ k) 4500 : Int).toNat (kindI (nth at_ k) 4500 : Int).toNat)), ha1.sub ⟨rfl, rfl, rfl, rfl, rfl, rfl, rfl, rfl, rfl, rfl, trivial⟩, ⟨g2, by omega, by omega, by omega, by first | omega | (rw [sizedL_length]; omega) | (rw [writeL_length _ _ _ (by omega)]; omega), (m2.trans m3), H⟩, ?_⟩
              (first | omega | (dsimp only; omega))
            · have d6 : ¬ (kindI (nth at_ k) 4500) ≤ 4096 := of_decide_eq_false c6
              replace H := H.pick 1
              refine Rc #[(ptr u1 0), (.int .i64 2), (.int .i64 (kindI (nth at_ k) 4500))] w6 (resize_S u1 9 9 3 ([(2, fileN want 1), (1, rootU [(⟨#[102]⟩, 2)])]) 2 (kindI (nth at_ k) 4500) _ _ _ _ H 3 ([(2, fileN want 1), (1, rootU [(⟨#[102]⟩, 2)])]) (rsNo (by omega) (by omega)) (rsNoU (by omega) (by omega)) (by decide)) ?_
              rintro _ w10 ⟨g3, m4, Hn, rfl⟩
              replace H := Hn
              clear Hn
              refine Rv (.int .i64 3) w10 ?_
              refine wpR_nil ?_
              refine E_then_normal ?_
              refine C_seq ?_
              refine C_seq ?_
              refine Cs [(13, (.int .i64 3)), (71, (.bool (decide ((nth at_ k) < 0)))), (12, (.int .i64 (kindI (nth at_ k) 4500))), (11, (.slice sa1 sn1 sk1)), (59, (.bool (decide (((nth l k).length : Int) > 300)))), (50, (.bool (decide (k < 20)))), (10, (.int .i64 k)), (9, vw), (35, (.bool false)), (8, (.int .i64 0)), (7, (.int .i64 2)), (27, (.bool false)), (6, (ptr u1 0)), (5, (.bool true)), (0, vl), (1, va)] ?_
              refine C_region ?_
              refine Rv (.int .i64 3) w10 ?_
              refine Rv (.bool false) w10 ?_
              refine Rv (.int .i64 (kindI (nth at_ k) 4500)) w10 ?_
              refine Rw (.bool false) w10 (eq_bool (by kernel_rfl) c6) ?_
              refine Rv (.bool false) w10 ?_
              refine wpR_nil ?_
              refine E_then_normal ?_
              refine C_false rfl ?_
              refine C_skip ?_
              refine E_then_normal ?_
              refine C_seq ?_
              refine C_seq ?_
              refine Cs [(80, (.bool false)), (13, (.int .i64 3)), (71, (.bool (decide ((nth at_ k) < 0)))), (12, (.int .i64 (kindI (nth at_ k) 4500))), (11, (.slice sa1 sn1 sk1)), (59, (.bool (decide (((nth l k).length : Int) > 300)))), (50, (.bool (decide (k < 20)))), (10, (.int .i64 k)), (9, vw), (35, (.bool false)), (8, (.int .i64 0)), (7, (.int .i64 2)), (27, (.bool false)), (6, (ptr u1 0)), (5, (.bool true)), (0, vl), (1, va)] ?_
              refine C_region ?_
              refine Rv (.int .i64 3) w10 ?_
              refine Rv (.bool false) w10 ?_
              refine wpR_nil ?_
              refine E_then_normal ?_
              refine C_false rfl ?_
              refine C_skip ?_
              refine E_then_normal ?_
              refine C_exit ?_
              refine E_then_exit ?_
              refine E_block_here ?_
              refine E_then_normal ?_
              refine Cs [(82, (.bool false)), (80, (.bool false)), (13, (.int .i64 3)), (71, (.bool (decide ((nth at_ k) < 0)))), (12, (.int .i64 (kindI (nth at_ k) 4500))), (11, (.slice sa1 sn1 sk1)), (59, (.bool (decide (((nth l k).length : Int) > 300)))), (50, (.bool (decide (k < 20)))), (10, (.int .i64 k)), (9, vw), (35, (.bool false)), (8, (.int .i64 0)), (7, (.int .i64 2)), (27, (.bool false)), (6, (ptr u1 0)), (5, (.bool true)), (0, vl), (1, va)] ?_
              refine C_region ?_
              refine Rv (.int .i64 k) w10 ?_
              refine Rw (.int .i64 (k + 1)) w10 (eq_int (by kernel_rfl) (wrap64_in (by first | decide | omega | (rw [copyL_length _ _ _ (by simp), List.length_replicate]; omega) | (simp; omega)) (by first | decide | omega | (rw [copyL_length _ _ _ (by simp), List.length_replicate]; omega) | (simp; omega)))) ?_
              refine Rv (.int .i64 (k + 1)) w10 ?_
              refine wpR_nil ?_
              replace H := H.pick 1
              refine E_then_mid fun aq2 ha2 => ⟨(k + 1, want, vw), ha2.sub ⟨rfl, rfl, rfl, rfl, rfl, rfl, rfl, rfl, rfl, rfl, trivial⟩, ⟨g3, by omega, by omega, by omega, by first | omega | (rw [sizedL_length]; omega) | (rw [writeL_length _ _ _ (by omega)]; omega), (m2.trans m4), H⟩, ?_⟩
              (first | omega | (dsimp only; omega))
          · have d5 : ¬ (nth at_ k) < 0 := of_decide_eq_false c5
            refine C_skip ?_
            refine E_then_normal ?_
            refine C_seq ?_
            refine Cs [(71, (.bool (decide ((nth at_ k) < 0)))), (12, (.int .i64 (kindI (nth at_ k) 4500))), (11, (.slice sa1 sn1 sk1)), (59, (.bool (decide (((nth l k).length : Int) > 300)))), (50, (.bool (decide (k < 20)))), (10, (.int .i64 k)), (9, vw), (35, (.bool false)), (8, (.int .i64 0)), (7, (.int .i64 2)), (27, (.bool false)), (6, (ptr u1 0)), (5, (.bool true)), (0, vl), (1, va)] ?_
            refine C_region ?_
            refine Rv (ptr u1 0) w6 ?_
            refine Rv (.int .i64 2) w6 ?_
            refine Rv (.int .i64 (kindI (nth at_ k) 4500)) w6 ?_
            refine Rv (.slice sa1 sn1 sk1) w6 ?_
            rcases Bool.eq_false_or_eq_true (decide ((kindI (nth at_ k) 4500) + (b2.length : Int) ≤ 4096)) with c7 | c7
            · have d7 : (kindI (nth at_ k) 4500) + (b2.length : Int) ≤ 4096 := of_decide_eq_true c7
              rcases Bool.eq_false_or_eq_true (decide ((b2.length : Int) > 0)) with c8 | c8
              · have d8 : (b2.length : Int) > 0 := of_decide_eq_true c8
                replace H := H.pick 1
                refine Rc #[(ptr u1 0), (.int .i64 2), (.int .i64 (kindI (nth at_ k) 4500)), (.slice sa1 sn1 sk1)] w6 (write_S u1 9 9 3 ([(2, fileN want 1), (1, rootU [(⟨#[102]⟩, 2)])]) 2 (kindI (nth at_ k) 4500) b2 (.slice sa1 sn1 sk1) _ _ _ _ H 0 ([(2, fileN (writeL want (kindI (nth at_ k) 4500) b2) 1), (1, rootU [(⟨#[102]⟩, 2)])]) (wrOk (by omega) (by omega)) (wrOkU (by omega) (by omega) (by omega)) hx2 (by decide) (ofGet rfl (by show want.length ≤ 1000000; omega))) ?_
                rintro _ w11 ⟨g4, m5, Hn, rfl⟩
                replace H := Hn
                clear Hn
                refine Rv (.int .i64 0) w11 ?_
                refine wpR_nil ?_
                refine E_then_normal ?_
                refine C_seq ?_
                refine C_seq ?_
                refine Cs [(15, (.int .i64 0)), (71, (.bool (decide ((nth at_ k) < 0)))), (12, (.int .i64 (kindI (nth at_ k) 4500))), (11, (.slice sa1 sn1 sk1)), (59, (.bool (decide (((nth l k).length : Int) > 300)))), (50, (.bool (decide (k < 20)))), (10, (.int .i64 k)), (9, vw), (35, (.bool false)), (8, (.int .i64 0)), (7, (.int .i64 2)), (27, (.bool false)), (6, (ptr u1 0)), (5, (.bool true)), (0, vl), (1, va)] ?_
                refine C_region ?_
                refine Rv (.int .i64 0) w11 ?_
                refine Rv (.bool true) w11 ?_
                refine Rv (.int .i64 (kindI (nth at_ k) 4500)) w11 ?_
                refine Rv (.slice sa1 sn1 sk1) w11 ?_
                refine Rw (.int .i64 (b2.length : Int)) w11 (X_len ((hx2.mono m5).mono H.m) rfl Try.underlying25 rfl) ?_
                refine Rw (.int .i64 ((kindI (nth at_ k) 4500) + (b2.length : Int))) w11 (eq_int (by kernel_rfl) (wrap64_in (by first | decide | omega | (rw [copyL_length _ _ _ (by simp), List.length_replicate]; omega) | (simp; omega)) (by first | decide | omega | (rw [copyL_length _ _ _ (by simp), List.length_replicate]; omega) | (simp; omega)))) ?_
                refine Rv (.bool (decide (((kindI (nth at_ k) 4500) + (b2.length : Int)) ≤ 4096))) w11 ?_
                refine Rv (.bool (!(true == (decide (((kindI (nth at_ k) 4500) + (b2.length : Int)) ≤ 4096))))) w11 ?_
                refine wpR_nil ?_
                refine E_then_normal ?_
                refine C_cond rfl (fun c9 => ?_) (fun c9 => ?_)
                · refine C_seq ?_
                  refine Cs [(101, (.bool (!(true == (decide (((kindI (nth at_ k) 4500) + (b2.length : Int)) ≤ 4096)))))), (15, (.int .i64 0)), (71, (.bool (decide ((nth at_ k) < 0)))), (12, (.int .i64 (kindI (nth at_ k) 4500))), (11, (.slice sa1 sn1 sk1)), (59, (.bool (decide (((nth l k).length : Int) > 300)))), (50, (.bool (decide (k < 20)))), (10, (.int .i64 k)), (9, vw), (35, (.bool false)), (8, (.int .i64 0)), (7, (.int .i64 2)), (27, (.bool false)), (6, (ptr u1 0)), (5, (.bool true)), (0, vl), (1, va)] ?_
                  refine C_region ?_
                  refine Rv (.bool false) w11 ?_
                  refine wpR_nil ?_
                  refine E_then_normal ?_
                  refine C_ret ?_
                  refine E_then_ret ?_
                  refine E_block_ret ?_
                  refine E_then_ret ?_
                  refine E_then_ret ?_
                  refine E_block_ret ?_
                  refine E_then_ret ?_
                  refine E_ret (res_one rfl rfl) ⟨_, rfl, ?_⟩
                  exact absurd ((by first | exact bstr_app_eq _ _ | (simp; done) | (simp; omega) | (simp_all; done) | (simp_all; omega) : (decide ((nth at_ k) < 0)) = true).symm.trans c5) (by decide)
                · refine C_skip ?_
                  refine E_then_normal ?_
                  refine C_seq ?_
                  refine Cs [(101, (.bool (!(true == (decide (((kindI (nth at_ k) 4500) + (b2.length : Int)) ≤ 4096)))))), (15, (.int .i64 0)), (71, (.bool (decide ((nth at_ k) < 0)))), (12, (.int .i64 (kindI (nth at_ k) 4500))), (11, (.slice sa1 sn1 sk1)), (59, (.bool (decide (((nth l k).length : Int) > 300)))), (50, (.bool (decide (k < 20)))), (10, (.int .i64 k)), (9, vw), (35, (.bool false)), (8, (.int .i64 0)), (7, (.int .i64 2)), (27, (.bool false)), (6, (ptr u1 0)), (5, (.bool true)), (0, vl), (1, va)] ?_
                  refine C_region ?_
                  refine Rv (.int .i64 0) w11 ?_
                  refine Rv (.bool true) w11 ?_
                  refine Rv (.bool true) w11 ?_
                  refine Rv (.slice sa1 sn1 sk1) w11 ?_
                  refine Rw (.int .i64 (b2.length : Int)) w11 (X_len ((hx2.mono m5).mono H.m) rfl Try.underlying25 rfl) ?_
                  refine Rw (.bool true) w11 (eq_bool (by kernel_rfl) c8) ?_
                  refine Rv (.bool true) w11 ?_
                  refine wpR_nil ?_
                  refine E_then_normal ?_
                  refine C_true rfl ?_
                  refine C_seq ?_
                  refine Cs [(108, (.bool true)), (101, (.bool (!(true == (decide (((kindI (nth at_ k) 4500) + (b2.length : Int)) ≤ 4096)))))), (15, (.int .i64 0)), (71, (.bool (decide ((nth at_ k) < 0)))), (12, (.int .i64 (kindI (nth at_ k) 4500))), (11, (.slice sa1 sn1 sk1)), (59, (.bool (decide (((nth l k).length : Int) > 300)))), (50, (.bool (decide (k < 20)))), (10, (.int .i64 k)), (9, vw), (35, (.bool false)), (8, (.int .i64 0)), (7, (.int .i64 2)), (27, (.bool false)), (6, (ptr u1 0)), (5, (.bool true)), (0, vl), (1, va)] ?_
                  refine C_region ?_
                  refine Rv vw w11 ?_
                  refine Rw (.int .i64 (want.length : Int)) w11 (X_len (H.slIs (α := UInt8) (e := 5) (v := vw) (xs := want) 1) rfl Try.underlying25 rfl) ?_
                  refine Rv (.int .i64 (kindI (nth at_ k) 4500)) w11 ?_
                  refine Rv (.slice sa1 sn1 sk1) w11 ?_
                  refine Rw (.int .i64 (b2.length : Int)) w11 (X_len ((hx2.mono m5).mono H.m) rfl Try.underlying25 rfl) ?_
                  refine Rw (.int .i64 ((kindI (nth at_ k) 4500) + (b2.length : Int))) w11 (eq_int (by kernel_rfl) (wrap64_in (by first | decide | omega | (rw [copyL_length _ _ _ (by simp), List.length_replicate]; omega) | (simp; omega)) (by first | decide | omega | (rw [copyL_length _ _ _ (by simp), List.length_replicate]; omega) | (simp; omega)))) ?_
                  refine Rw (.int .i64 (max (want.length : Int) ((kindI (nth at_ k) 4500) + (b2.length : Int)))) w11 (X_max rfl rfl rfl) ?_
                  refine S_makeB H Try.underlying25 (by kernel_rfl) (by first | decide | omega | (rw [copyL_length _ _ _ (by simp), List.length_replicate]; omega) | (simp; omega)) (by first | decide | omega | (rw [copyL_length _ _ _ (by simp), List.length_replicate]; omega) | (simp; omega)) rfl rfl rfl rfl rfl rfl fun b4 w12 Hn => ?_
                  replace H := Hn
                  clear Hn
                  refine Rv (.slice (some ⟨b4, 0, none⟩) (max (want.length : Int) ((kindI (nth at_ k) 4500) + (b2.length : Int)) : Int).toNat (max (want.length : Int) ((kindI (nth at_ k) 4500) + (b2.length : Int)) : Int).toNat) w12 ?_
                  refine wpR_nil ?_
                  refine E_then_normal ?_
                  refine C_seq ?_
                  refine Cs [(16, (.slice (some ⟨b4, 0, none⟩) (max (want.length : Int) ((kindI (nth at_ k) 4500) + (b2.length : Int)) : Int).toNat (max (want.length : Int) ((kindI (nth at_ k) 4500) + (b2.length : Int)) : Int).toNat)), (108, (.bool true)), (101, (.bool (!(true == (decide (((kindI (nth at_ k) 4500) + (b2.length : Int)) ≤ 4096)))))), (15, (.int .i64 0)), (71, (.bool (decide ((nth at_ k) < 0)))), (12, (.int .i64 (kindI (nth at_ k) 4500))), (11, (.slice sa1 sn1 sk1)), (59, (.bool (decide (((nth l k).length : Int) > 300)))), (50, (.bool (decide (k < 20)))), (10, (.int .i64 k)), (9, vw), (35, (.bool false)), (8, (.int .i64 0)), (7, (.int .i64 2)), (27, (.bool false)), (6, (ptr u1 0)), (5, (.bool true)), (0, vl), (1, va)] ?_
                  refine C_region ?_
                  refine Rv (.slice (some ⟨b4, 0, none⟩) (max (want.length : Int) ((kindI (nth at_ k) 4500) + (b2.length : Int)) : Int).toNat (max (want.length : Int) ((kindI (nth at_ k) 4500) + (b2.length : Int)) : Int).toNat) w12 ?_
                  refine Rv vw w12 ?_
                  refine S_copyV (off := 0) H (by first | rw [List.length_replicate] | rw [copyL_length _ _ _ (by simp), List.length_replicate]) (H.slRd (α := UInt8) (e := 5) (v := vw) (xs := want) 2) (by first | omega | (rw [List.length_replicate]; omega) | (rw [copyL_length _ _ _ (by simp), List.length_replicate]; omega) | (simp; done) | (simp; omega)) (by first | omega | (rw [List.length_replicate]; omega) | (rw [copyL_length _ _ _ (by simp), List.length_replicate]; omega) | (simp; done) | (simp; omega)) Try.underlying25 (by kernel_rfl) (sliceV_at (by first | rw [List.length_replicate] | rw [copyL_length _ _ _ (by simp), List.length_replicate])) rfl rfl rfl rfl rfl rfl fun w13 Hn => ?_
                  replace H := Hn
                  clear Hn
                  refine wpR_nil ?_
                  refine E_then_normal ?_
                  refine C_seq ?_
                  refine Cs [(16, (.slice (some ⟨b4, 0, none⟩) (max (want.length : Int) ((kindI (nth at_ k) 4500) + (b2.length : Int)) : Int).toNat (max (want.length : Int) ((kindI (nth at_ k) 4500) + (b2.length : Int)) : Int).toNat)), (108, (.bool true)), (101, (.bool (!(true == (decide (((kindI (nth at_ k) 4500) + (b2.length : Int)) ≤ 4096)))))), (15, (.int .i64 0)), (71, (.bool (decide ((nth at_ k) < 0)))), (12, (.int .i64 (kindI (nth at_ k) 4500))), (11, (.slice sa1 sn1 sk1)), (59, (.bool (decide (((nth l k).length : Int) > 300)))), (50, (.bool (decide (k < 20)))), (10, (.int .i64 k)), (9, vw), (35, (.bool false)), (8, (.int .i64 0)), (7, (.int .i64 2)), (27, (.bool false)), (6, (ptr u1 0)), (5, (.bool true)), (0, vl), (1, va)] ?_
                  refine C_region ?_
                  refine Rv (.slice (some ⟨b4, 0, none⟩) (max (want.length : Int) ((kindI (nth at_ k) 4500) + (b2.length : Int)) : Int).toNat (max (want.length : Int) ((kindI (nth at_ k) 4500) + (b2.length : Int)) : Int).toNat) w13 ?_
                  refine Rv (.int .i64 (kindI (nth at_ k) 4500)) w13 ?_
                  refine Rw (sliceV 1 (.slice (some ⟨b4, 0, none⟩) (max (want.length : Int) ((kindI (nth at_ k) 4500) + (b2.length : Int)) : Int).toNat (max (want.length : Int) ((kindI (nth at_ k) 4500) + (b2.length : Int)) : Int).toNat) (kindI (nth at_ k) 4500) ((copyL (List.replicate (max (want.length : Int) ((kindI (nth at_ k) 4500) + (b2.length : Int)) : Int).toNat (0 : UInt8)) (0 : Int).toNat want).length : Int)) w13 (X_slice (l := kindI (nth at_ k) 4500) (h := ((copyL (List.replicate (max (want.length : Int) ((kindI (nth at_ k) 4500) + (b2.length : Int)) : Int).toNat (0 : UInt8)) (0 : Int).toNat want).length : Int)) (H.slIs (α := UInt8) (e := 5) (v := (.slice (some ⟨b4, 0, none⟩) (max (want.length : Int) ((kindI (nth at_ k) 4500) + (b2.length : Int)) : Int).toNat (max (want.length : Int) ((kindI (nth at_ k) 4500) + (b2.length : Int)) : Int).toNat)) (xs := (copyL (List.replicate (max (want.length : Int) ((kindI (nth at_ k) 4500) + (b2.length : Int)) : Int).toNat (0 : UInt8)) (0 : Int).toNat want)) 0) (by first | decide | omega | (rw [copyL_length _ _ _ (by simp), List.length_replicate]; omega) | (simp; omega)) (by first | decide | omega | (rw [copyL_length _ _ _ (by simp), List.length_replicate]; omega) | (simp; omega)) (by first | decide | omega | (rw [copyL_length _ _ _ (by simp), List.length_replicate]; omega) | (simp; omega)) rfl Try.underlying25 (by kernel_rfl) rfl (.inr ⟨_, rfl, rfl⟩) (.inl ⟨rfl, rfl⟩)) ?_
                  refine Rv (.slice sa1 sn1 sk1) w13 ?_
                  refine S_copyV (off := kindI (nth at_ k) 4500) H (by first | rw [List.length_replicate] | rw [copyL_length _ _ _ (by simp), List.length_replicate]) (Is.rd (hx2.mono m5) H.m) (by first | omega | (rw [List.length_replicate]; omega) | (rw [copyL_length _ _ _ (by simp), List.length_replicate]; omega) | (simp; done) | (simp; omega)) (by first | omega | (rw [List.length_replicate]; omega) | (rw [copyL_length _ _ _ (by simp), List.length_replicate]; omega) | (simp; done) | (simp; omega)) Try.underlying25 (by kernel_rfl) rfl rfl rfl rfl rfl rfl rfl fun w14 Hn => ?_
                  replace H := Hn
                  clear Hn
                  refine wpR_nil ?_
                  refine E_then_normal ?_
                  refine Cs [(16, (.slice (some ⟨b4, 0, none⟩) (max (want.length : Int) ((kindI (nth at_ k) 4500) + (b2.length : Int)) : Int).toNat (max (want.length : Int) ((kindI (nth at_ k) 4500) + (b2.length : Int)) : Int).toNat)), (108, (.bool true)), (101, (.bool (!(true == (decide (((kindI (nth at_ k) 4500) + (b2.length : Int)) ≤ 4096)))))), (15, (.int .i64 0)), (71, (.bool (decide ((nth at_ k) < 0)))), (12, (.int .i64 (kindI (nth at_ k) 4500))), (11, (.slice sa1 sn1 sk1)), (59, (.bool (decide (((nth l k).length : Int) > 300)))), (50, (.bool (decide (k < 20)))), (10, (.int .i64 k)), (9, vw), (35, (.bool false)), (8, (.int .i64 0)), (7, (.int .i64 2)), (27, (.bool false)), (6, (ptr u1 0)), (5, (.bool true)), (0, vl), (1, va)] ?_
                  refine C_region ?_
                  refine Rv (.slice (some ⟨b4, 0, none⟩) (max (want.length : Int) ((kindI (nth at_ k) 4500) + (b2.length : Int)) : Int).toNat (max (want.length : Int) ((kindI (nth at_ k) 4500) + (b2.length : Int)) : Int).toNat) w14 ?_
                  refine Rv (.slice (some ⟨b4, 0, none⟩) (max (want.length : Int) ((kindI (nth at_ k) 4500) + (b2.length : Int)) : Int).toNat (max (want.length : Int) ((kindI (nth at_ k) 4500) + (b2.length : Int)) : Int).toNat) w14 ?_
                  refine wpR_nil ?_
                  refine E_block_normal ?_
                  refine E_then_normal ?_
                  refine Cs [(9, (.slice (some ⟨b4, 0, none⟩) (max (want.length : Int) ((kindI (nth at_ k) 4500) + (b2.length : Int)) : Int).toNat (max (want.length : Int) ((kindI (nth at_ k) 4500) + (b2.length : Int)) : Int).toNat)), (16, (.slice (some ⟨b4, 0, none⟩) (max (want.length : Int) ((kindI (nth at_ k) 4500) + (b2.length : Int)) : Int).toNat (max (want.length : Int) ((kindI (nth at_ k) 4500) + (b2.length : Int)) : Int).toNat)), (108, (.bool true)), (101, (.bool (!(true == (decide (((kindI (nth at_ k) 4500) + (b2.length : Int)) ≤ 4096)))))), (15, (.int .i64 0)), (71, (.bool (decide ((nth at_ k) < 0)))), (12, (.int .i64 (kindI (nth at_ k) 4500))), (11, (.slice sa1 sn1 sk1)), (59, (.bool (decide (((nth l k).length : Int) > 300)))), (50, (.bool (decide (k < 20)))), (10, (.int .i64 k)), (35, (.bool false)), (8, (.int .i64 0)), (7, (.int .i64 2)), (27, (.bool false)), (6, (ptr u1 0)), (5, (.bool true)), (0, vl), (1, va)] ?_
                  refine C_region ?_
                  refine Rv (.int .i64 k) w14 ?_
                  refine Rw (.int .i64 (k + 1)) w14 (eq_int (by kernel_rfl) (wrap64_in (by first | decide | omega | (rw [copyL_length _ _ _ (by simp), List.length_replicate]; omega) | (simp; omega)) (by first | decide | omega | (rw [copyL_length _ _ _ (by simp), List.length_replicate]; omega) | (simp; omega)))) ?_
                  refine Rv (.int .i64 (k + 1)) w14 ?_
                  refine wpR_nil ?_
                  replace H := H.pick 2
                  replace H := H.drop
                  refine E_then_mid fun aq3 ha3 => ⟨(k + 1, writeL want (kindI (nth at_ k) 4500) b2, (.slice (some ⟨b4, 0, none⟩) (max (want.length : Int) ((kindI (nth at_ k) 4500) + (b2.length : Int)) : Int).toNat (max (want.length : Int) ((kindI (nth at_ k) 4500) + (b2.length : Int)) : Int).toNat)), ha3.sub ⟨rfl, rfl, rfl, rfl, rfl, rfl, rfl, rfl, rfl, rfl, trivial⟩, ⟨g4, by omega, by omega, by omega, by first | omega | (rw [sizedL_length]; omega) | (rw [writeL_length _ _ _ (by omega)]; omega), (m2.trans m5), H⟩, ?_⟩
                  (first | omega | (dsimp only; omega))
              · have d8 : ¬ (b2.length : Int) > 0 := of_decide_eq_false c8
                replace H := H.pick 1
                refine Rc #[(ptr u1 0), (.int .i64 2), (.int .i64 (kindI (nth at_ k) 4500)), (.slice sa1 sn1 sk1)] w6 (write_S u1 9 9 3 ([(2, fileN want 1), (1, rootU [(⟨#[102]⟩, 2)])]) 2 (kindI (nth at_ k) 4500) b2 (.slice sa1 sn1 sk1) _ _ _ _ H 0 ([(2, fileN want 1), (1, rootU [(⟨#[102]⟩, 2)])]) (wrOk (by omega) (by omega)) (wrZeroU (by omega)) hx2 (by decide) (ofGet rfl (by show want.length ≤ 1000000; omega))) ?_
                rintro _ w15 ⟨g5, m6, Hn, rfl⟩
                replace H := Hn
                clear Hn
                refine Rv (.int .i64 0) w15 ?_
                refine wpR_nil ?_
                refine E_then_normal ?_
                refine C_seq ?_
                refine C_seq ?_
                refine Cs [(15, (.int .i64 0)), (71, (.bool (decide ((nth at_ k) < 0)))), (12, (.int .i64 (kindI (nth at_ k) 4500))), (11, (.slice sa1 sn1 sk1)), (59, (.bool (decide (((nth l k).length : Int) > 300)))), (50, (.bool (decide (k < 20)))), (10, (.int .i64 k)), (9, vw), (35, (.bool false)), (8, (.int .i64 0)), (7, (.int .i64 2)), (27, (.bool false)), (6, (ptr u1 0)), (5, (.bool true)), (0, vl), (1, va)] ?_
                refine C_region ?_
                refine Rv (.int .i64 0) w15 ?_
                refine Rv (.bool true) w15 ?_
                refine Rv (.int .i64 (kindI (nth at_ k) 4500)) w15 ?_
                refine Rv (.slice sa1 sn1 sk1) w15 ?_
                refine Rw (.int .i64 (b2.length : Int)) w15 (X_len ((hx2.mono m6).mono H.m) rfl Try.underlying25 rfl) ?_
                refine Rw (.int .i64 ((kindI (nth at_ k) 4500) + (b2.length : Int))) w15 (eq_int (by kernel_rfl) (wrap64_in (by first | decide | omega | (rw [copyL_length _ _ _ (by simp), List.length_replicate]; omega) | (simp; omega)) (by first | decide | omega | (rw [copyL_length _ _ _ (by simp), List.length_replicate]; omega) | (simp; omega)))) ?_
                refine Rv (.bool (decide (((kindI (nth at_ k) 4500) + (b2.length : Int)) ≤ 4096))) w15 ?_
                refine Rv (.bool (!(true == (decide (((kindI (nth at_ k) 4500) + (b2.length : Int)) ≤ 4096))))) w15 ?_
                refine wpR_nil ?_
                refine E_then_normal ?_
                refine C_cond rfl (fun c10 => ?_) (fun c10 => ?_)
                · refine C_seq ?_
                  refine Cs [(101, (.bool (!(true == (decide (((kindI (nth at_ k) 4500) + (b2.length : Int)) ≤ 4096)))))), (15, (.int .i64 0)), (71, (.bool (decide ((nth at_ k) < 0)))), (12, (.int .i64 (kindI (nth at_ k) 4500))), (11, (.slice sa1 sn1 sk1)), (59, (.bool (decide (((nth l k).length : Int) > 300)))), (50, (.bool (decide (k < 20)))), (10, (.int .i64 k)), (9, vw), (35, (.bool false)), (8, (.int .i64 0)), (7, (.int .i64 2)), (27, (.bool false)), (6, (ptr u1 0)), (5, (.bool true)), (0, vl), (1, va)] ?_
                  refine C_region ?_
                  refine Rv (.bool false) w15 ?_
                  refine wpR_nil ?_
                  refine E_then_normal ?_
                  refine C_ret ?_
                  refine E_then_ret ?_
                  refine E_block_ret ?_
                  refine E_then_ret ?_
                  refine E_then_ret ?_
                  refine E_block_ret ?_
                  refine E_then_ret ?_
                  refine E_ret (res_one rfl rfl) ⟨_, rfl, ?_⟩
                  exact absurd ((by first | exact bstr_app_eq _ _ | (simp; done) | (simp; omega) | (simp_all; done) | (simp_all; omega) : (decide ((b2.length : Int) > 0)) = true).symm.trans c8) (by decide)
                · refine C_skip ?_
                  refine E_then_normal ?_
                  refine C_seq ?_
                  refine Cs [(101, (.bool (!(true == (decide (((kindI (nth at_ k) 4500) + (b2.length : Int)) ≤ 4096)))))), (15, (.int .i64 0)), (71, (.bool (decide ((nth at_ k) < 0)))), (12, (.int .i64 (kindI (nth at_ k) 4500))), (11, (.slice sa1 sn1 sk1)), (59, (.bool (decide (((nth l k).length : Int) > 300)))), (50, (.bool (decide (k < 20)))), (10, (.int .i64 k)), (9, vw), (35, (.bool false)), (8, (.int .i64 0)), (7, (.int .i64 2)), (27, (.bool false)), (6, (ptr u1 0)), (5, (.bool true)), (0, vl), (1, va)] ?_
                  refine C_region ?_
                  refine Rv (.int .i64 0) w15 ?_
                  refine Rv (.bool true) w15 ?_
                  refine Rv (.bool true) w15 ?_
                  refine Rv (.slice sa1 sn1 sk1) w15 ?_
                  refine Rw (.int .i64 (b2.length : Int)) w15 (X_len ((hx2.mono m6).mono H.m) rfl Try.underlying25 rfl) ?_
                  refine Rw (.bool false) w15 (eq_bool (by kernel_rfl) c8) ?_
                  refine Rv (.bool false) w15 ?_
                  refine wpR_nil ?_
                  refine E_then_normal ?_
                  refine C_false rfl ?_
                  refine C_skip ?_
                  refine E_block_normal ?_
                  refine E_then_normal ?_
                  refine Cs [(108, (.bool false)), (101, (.bool (!(true == (decide (((kindI (nth at_ k) 4500) + (b2.length : Int)) ≤ 4096)))))), (15, (.int .i64 0)), (71, (.bool (decide ((nth at_ k) < 0)))), (12, (.int .i64 (kindI (nth at_ k) 4500))), (11, (.slice sa1 sn1 sk1)), (59, (.bool (decide (((nth l k).length : Int) > 300)))), (50, (.bool (decide (k < 20)))), (10, (.int .i64 k)), (9, vw), (35, (.bool false)), (8, (.int .i64 0)), (7, (.int .i64 2)), (27, (.bool false)), (6, (ptr u1 0)), (5, (.bool true)), (0, vl), (1, va)] ?_
                  refine C_region ?_
                  refine Rv (.int .i64 k) w15 ?_
                  refine Rw (.int .i64 (k + 1)) w15 (eq_int (by kernel_rfl) (wrap64_in (by first | decide | omega | (rw [copyL_length _ _ _ (by simp), List.length_replicate]; omega) | (simp; omega)) (by first | decide | omega | (rw [copyL_length _ _ _ (by simp), List.length_replicate]; omega) | (simp; omega)))) ?_
                  refine Rv (.int .i64 (k + 1)) w15 ?_
                  refine wpR_nil ?_
                  replace H := H.pick 1
                  refine E_then_mid fun aq4 ha4 => ⟨(k + 1, want, vw), ha4.sub ⟨rfl, rfl, rfl, rfl, rfl, rfl, rfl, rfl, rfl, rfl, trivial⟩, ⟨g5, by omega, by omega, by omega, by first | omega | (rw [sizedL_length]; omega) | (rw [writeL_length _ _ _ (by omega)]; omega), (m2.trans m6), H⟩, ?_⟩
                  (first | omega | (dsimp only; omega))
            · have d7 : ¬ (kindI (nth at_ k) 4500) + (b2.length : Int) ≤ 4096 := of_decide_eq_false c7
              rcases Bool.eq_false_or_eq_true (decide ((b2.length : Int) > 0)) with c11 | c11
              · have d11 : (b2.length : Int) > 0 := of_decide_eq_true c11
                replace H := H.pick 1
                refine Rc #[(ptr u1 0), (.int .i64 2), (.int .i64 (kindI (nth at_ k) 4500)), (.slice sa1 sn1 sk1)] w6 (write_S u1 9 9 3 ([(2, fileN want 1), (1, rootU [(⟨#[102]⟩, 2)])]) 2 (kindI (nth at_ k) 4500) b2 (.slice sa1 sn1 sk1) _ _ _ _ H 3 ([(2, fileN want 1), (1, rootU [(⟨#[102]⟩, 2)])]) (wrNo (by omega) (by omega)) (wrNoU (by omega) (by omega)) hx2 (by decide) (ofGet rfl (by show want.length ≤ 1000000; omega))) ?_
                rintro _ w16 ⟨g6, m7, Hn, rfl⟩
                replace H := Hn
                clear Hn
                refine Rv (.int .i64 3) w16 ?_
                refine wpR_nil ?_
                refine E_then_normal ?_
                refine C_seq ?_
                refine C_seq ?_
                refine Cs [(15, (.int .i64 3)), (71, (.bool (decide ((nth at_ k) < 0)))), (12, (.int .i64 (kindI (nth at_ k) 4500))), (11, (.slice sa1 sn1 sk1)), (59, (.bool (decide (((nth l k).length : Int) > 300)))), (50, (.bool (decide (k < 20)))), (10, (.int .i64 k)), (9, vw), (35, (.bool false)), (8, (.int .i64 0)), (7, (.int .i64 2)), (27, (.bool false)), (6, (ptr u1 0)), (5, (.bool true)), (0, vl), (1, va)] ?_
                refine C_region ?_
                refine Rv (.int .i64 3) w16 ?_
                refine Rv (.bool false) w16 ?_
                refine Rv (.int .i64 (kindI (nth at_ k) 4500)) w16 ?_
                refine Rv (.slice sa1 sn1 sk1) w16 ?_
                refine Rw (.int .i64 (b2.length : Int)) w16 (X_len ((hx2.mono m7).mono H.m) rfl Try.underlying25 rfl) ?_
                refine Rw (.int .i64 ((kindI (nth at_ k) 4500) + (b2.length : Int))) w16 (eq_int (by kernel_rfl) (wrap64_in (by first | decide | omega | (rw [copyL_length _ _ _ (by simp), List.length_replicate]; omega) | (simp; omega)) (by first | decide | omega | (rw [copyL_length _ _ _ (by simp), List.length_replicate]; omega) | (simp; omega)))) ?_
                refine Rv (.bool (decide (((kindI (nth at_ k) 4500) + (b2.length : Int)) ≤ 4096))) w16 ?_
                refine Rv (.bool (!(false == (decide (((kindI (nth at_ k) 4500) + (b2.length : Int)) ≤ 4096))))) w16 ?_
                refine wpR_nil ?_
                refine E_then_normal ?_
                refine C_cond rfl (fun c12 => ?_) (fun c12 => ?_)
                · refine C_seq ?_
                  refine Cs [(101, (.bool (!(false == (decide (((kindI (nth at_ k) 4500) + (b2.length : Int)) ≤ 4096)))))), (15, (.int .i64 3)), (71, (.bool (decide ((nth at_ k) < 0)))), (12, (.int .i64 (kindI (nth at_ k) 4500))), (11, (.slice sa1 sn1 sk1)), (59, (.bool (decide (((nth l k).length : Int) > 300)))), (50, (.bool (decide (k < 20)))), (10, (.int .i64 k)), (9, vw), (35, (.bool false)), (8, (.int .i64 0)), (7, (.int .i64 2)), (27, (.bool false)), (6, (ptr u1 0)), (5, (.bool true)), (0, vl), (1, va)] ?_
                  refine C_region ?_
                  refine Rv (.bool false) w16 ?_
                  refine wpR_nil ?_
                  refine E_then_normal ?_
                  refine C_ret ?_
                  refine E_then_ret ?_
                  refine E_block_ret ?_
                  refine E_then_ret ?_
                  refine E_then_ret ?_
                  refine E_block_ret ?_
                  refine E_then_ret ?_
                  refine E_ret (res_one rfl rfl) ⟨_, rfl, ?_⟩
                  exact absurd ((by first | exact bstr_app_eq _ _ | (simp; done) | (simp; omega) | (simp_all; done) | (simp_all; omega) : (decide ((kindI (nth at_ k) 4500) + (b2.length : Int) ≤ 4096)) = true).symm.trans c7) (by decide)
                · refine C_skip ?_
                  refine E_then_normal ?_
                  refine C_seq ?_
                  refine Cs [(101, (.bool (!(false == (decide (((kindI (nth at_ k) 4500) + (b2.length : Int)) ≤ 4096)))))), (15, (.int .i64 3)), (71, (.bool (decide ((nth at_ k) < 0)))), (12, (.int .i64 (kindI (nth at_ k) 4500))), (11, (.slice sa1 sn1 sk1)), (59, (.bool (decide (((nth l k).length : Int) > 300)))), (50, (.bool (decide (k < 20)))), (10, (.int .i64 k)), (9, vw), (35, (.bool false)), (8, (.int .i64 0)), (7, (.int .i64 2)), (27, (.bool false)), (6, (ptr u1 0)), (5, (.bool true)), (0, vl), (1, va)] ?_
                  refine C_region ?_
                  refine Rv (.int .i64 3) w16 ?_
                  refine Rv (.bool false) w16 ?_
                  refine Rv (.bool false) w16 ?_
                  iterate 3 refine Rs ?_
                  refine Rv (.bool false) w16 ?_
                  refine wpR_nil ?_
                  refine E_then_normal ?_
                  refine C_false rfl ?_
                  refine C_skip ?_
                  refine E_block_normal ?_
                  refine E_then_normal ?_
                  refine Cs [(108, (.bool false)), (101, (.bool (!(false == (decide (((kindI (nth at_ k) 4500) + (b2.length : Int)) ≤ 4096)))))), (15, (.int .i64 3)), (71, (.bool (decide ((nth at_ k) < 0)))), (12, (.int .i64 (kindI (nth at_ k) 4500))), (11, (.slice sa1 sn1 sk1)), (59, (.bool (decide (((nth l k).length : Int) > 300)))), (50, (.bool (decide (k < 20)))), (10, (.int .i64 k)), (9, vw), (35, (.bool false)), (8, (.int .i64 0)), (7, (.int .i64 2)), (27, (.bool false)), (6, (ptr u1 0)), (5, (.bool true)), (0, vl), (1, va)] ?_
                  refine C_region ?_
                  refine Rv (.int .i64 k) w16 ?_
                  refine Rw (.int .i64 (k + 1)) w16 (eq_int (by kernel_rfl) (wrap64_in (by first | decide | omega | (rw [copyL_length _ _ _ (by simp), List.length_replicate]; omega) | (simp; omega)) (by first | decide | omega | (rw [copyL_length _ _ _ (by simp), List.length_replicate]; omega) | (simp; omega)))) ?_
                  refine Rv (.int .i64 (k + 1)) w16 ?_
                  refine wpR_nil ?_
                  replace H := H.pick 1
                  refine E_then_mid fun aq5 ha5 => ⟨(k + 1, want, vw), ha5.sub ⟨rfl, rfl, rfl, rfl, rfl, rfl, rfl, rfl, rfl, rfl, trivial⟩, ⟨g6, by omega, by omega, by omega, by first | omega | (rw [sizedL_length]; omega) | (rw [writeL_length _ _ _ (by omega)]; omega), (m2.trans m7), H⟩, ?_⟩
                  (first | omega | (dsimp only; omega))
              · have d11 : ¬ (b2.length : Int) > 0 := of_decide_eq_false c11
                replace H := H.pick 1
                refine Rc #[(ptr u1 0), (.int .i64 2), (.int .i64 (kindI (nth at_ k) 4500)), (.slice sa1 sn1 sk1)] w6 (write_S u1 9 9 3 ([(2, fileN want 1), (1, rootU [(⟨#[102]⟩, 2)])]) 2 (kindI (nth at_ k) 4500) b2 (.slice sa1 sn1 sk1) _ _ _ _ H 3 ([(2, fileN want 1), (1, rootU [(⟨#[102]⟩, 2)])]) (wrNo (by omega) (by omega)) (wrNoU (by omega) (by omega)) hx2 (by decide) (ofGet rfl (by show want.length ≤ 1000000; omega))) ?_
                rintro _ w17 ⟨g7, m8, Hn, rfl⟩
                replace H := Hn
                clear Hn
                refine Rv (.int .i64 3) w17 ?_
                refine wpR_nil ?_
                refine E_then_normal ?_
                refine C_seq ?_
                refine C_seq ?_
                refine Cs [(15, (.int .i64 3)), (71, (.bool (decide ((nth at_ k) < 0)))), (12, (.int .i64 (kindI (nth at_ k) 4500))), (11, (.slice sa1 sn1 sk1)), (59, (.bool (decide (((nth l k).length : Int) > 300)))), (50, (.bool (decide (k < 20)))), (10, (.int .i64 k)), (9, vw), (35, (.bool false)), (8, (.int .i64 0)), (7, (.int .i64 2)), (27, (.bool false)), (6, (ptr u1 0)), (5, (.bool true)), (0, vl), (1, va)] ?_
                refine C_region ?_
                refine Rv (.int .i64 3) w17 ?_
                refine Rv (.bool false) w17 ?_
                refine Rv (.int .i64 (kindI (nth at_ k) 4500)) w17 ?_
                refine Rv (.slice sa1 sn1 sk1) w17 ?_
                refine Rw (.int .i64 (b2.length : Int)) w17 (X_len ((hx2.mono m8).mono H.m) rfl Try.underlying25 rfl) ?_
                refine Rw (.int .i64 ((kindI (nth at_ k) 4500) + (b2.length : Int))) w17 (eq_int (by kernel_rfl) (wrap64_in (by first | decide | omega | (rw [copyL_length _ _ _ (by simp), List.length_replicate]; omega) | (simp; omega)) (by first | decide | omega | (rw [copyL_length _ _ _ (by simp), List.length_replicate]; omega) | (simp; omega)))) ?_
                refine Rv (.bool (decide (((kindI (nth at_ k) 4500) + (b2.length : Int)) ≤ 4096))) w17 ?_
                refine Rv (.bool (!(false == (decide (((kindI (nth at_ k) 4500) + (b2.length : Int)) ≤ 4096))))) w17 ?_
                refine wpR_nil ?_
                refine E_then_normal ?_
                refine C_cond rfl (fun c13 => ?_) (fun c13 => ?_)
                · refine C_seq ?_
                  refine Cs [(101, (.bool (!(false == (decide (((kindI (nth at_ k) 4500) + (b2.length : Int)) ≤ 4096)))))), (15, (.int .i64 3)), (71, (.bool (decide ((nth at_ k) < 0)))), (12, (.int .i64 (kindI (nth at_ k) 4500))), (11, (.slice sa1 sn1 sk1)), (59, (.bool (decide (((nth l k).length : Int) > 300)))), (50, (.bool (decide (k < 20)))), (10, (.int .i64 k)), (9, vw), (35, (.bool false)), (8, (.int .i64 0)), (7, (.int .i64 2)), (27, (.bool false)), (6, (ptr u1 0)), (5, (.bool true)), (0, vl), (1, va)] ?_
                  refine C_region ?_
                  refine Rv (.bool false) w17 ?_
                  refine wpR_nil ?_
                  refine E_then_normal ?_
                  refine C_ret ?_
                  refine E_then_ret ?_
                  refine E_block_ret ?_
                  refine E_then_ret ?_
                  refine E_then_ret ?_
                  refine E_block_ret ?_
                  refine E_then_ret ?_
                  refine E_ret (res_one rfl rfl) ⟨_, rfl, ?_⟩
                  exact absurd ((by first | exact bstr_app_eq _ _ | (simp; done) | (simp; omega) | (simp_all; done) | (simp_all; omega) : (decide ((b2.length : Int) > 0)) = true).symm.trans c11) (by decide)
                · refine C_skip ?_
                  refine E_then_normal ?_
                  refine C_seq ?_
                  refine Cs [(101, (.bool (!(false == (decide (((kindI (nth at_ k) 4500) + (b2.length : Int)) ≤ 4096)))))), (15, (.int .i64 3)), (71, (.bool (decide ((nth at_ k) < 0)))), (12, (.int .i64 (kindI (nth at_ k) 4500))), (11, (.slice sa1 sn1 sk1)), (59, (.bool (decide (((nth l k).length : Int) > 300)))), (50, (.bool (decide (k < 20)))), (10, (.int .i64 k)), (9, vw), (35, (.bool false)), (8, (.int .i64 0)), (7, (.int .i64 2)), (27, (.bool false)), (6, (ptr u1 0)), (5, (.bool true)), (0, vl), (1, va)] ?_
                  refine C_region ?_
                  refine Rv (.int .i64 3) w17 ?_
                  refine Rv (.bool false) w17 ?_
                  refine Rv (.bool false) w17 ?_
                  iterate 3 refine Rs ?_
                  refine Rv (.bool false) w17 ?_
                  refine wpR_nil ?_
                  refine E_then_normal ?_
                  refine C_false rfl ?_
                  refine C_skip ?_
                  refine E_block_normal ?_
                  refine E_then_normal ?_
                  refine Cs [(108, (.bool false)), (101, (.bool (!(false == (decide (((kindI (nth at_ k) 4500) + (b2.length : Int)) ≤ 4096)))))), (15, (.int .i64 3)), (71, (.bool (decide ((nth at_ k) < 0)))), (12, (.int .i64 (kindI (nth at_ k) 4500))), (11, (.slice sa1 sn1 sk1)), (59, (.bool (decide (((nth l k).length : Int) > 300)))), (50, (.bool (decide (k < 20)))), (10, (.int .i64 k)), (9, vw), (35, (.bool false)), (8, (.int .i64 0)), (7, (.int .i64 2)), (27, (.bool false)), (6, (ptr u1 0)), (5, (.bool true)), (0, vl), (1, va)] ?_
                  refine C_region ?_
                  refine Rv (.int .i64 k) w17 ?_
                  refine Rw (.int .i64 (k + 1)) w17 (eq_int (by kernel_rfl) (wrap64_in (by first | decide | omega | (rw [copyL_length _ _ _ (by simp), List.length_replicate]; omega) | (simp; omega)) (by first | decide | omega | (rw [copyL_length _ _ _ (by simp), List.length_replicate]; omega) | (simp; omega)))) ?_
                  refine Rv (.int .i64 (k + 1)) w17 ?_
                  refine wpR_nil ?_
                  replace H := H.pick 1
                  refine E_then_mid fun aq6 ha6 => ⟨(k + 1, want, vw), ha6.sub ⟨rfl, rfl, rfl, rfl, rfl, rfl, rfl, rfl, rfl, rfl, trivial⟩, ⟨g7, by omega, by omega, by omega, by first | omega | (rw [sizedL_length]; omega) | (rw [writeL_length _ _ _ (by omega)]; omega), (m2.trans m8), H⟩, ?_⟩
                  (first | omega | (dsimp only; omega))
        · have d4 : ¬ ((nth l k).length : Int) > 300 := of_decide_eq_false c4
          refine C_skip ?_
          refine E_then_normal ?_
          refine C_seq ?_
          refine Cs [(59, (.bool (decide (((nth l k).length : Int) > 300)))), (11, vb1), (50, (.bool (decide (k < 20)))), (10, (.int .i64 k)), (9, vw), (35, (.bool false)), (8, (.int .i64 0)), (7, (.int .i64 2)), (27, (.bool false)), (6, (ptr u1 0)), (5, (.bool true)), (0, vl), (1, va)] ?_
          refine C_region ?_
          refine Rv va w5 ?_
          refine Rv (.int .i64 k) w5 ?_
          refine Rw (elemP 1 va k) w5 (X_indexAddr ((h_a.mono (m1.trans m2)).mono H.m) (by first | decide | omega | (rw [copyL_length _ _ _ (by simp), List.length_replicate]; omega) | (simp; omega)) (by first | decide | omega | (rw [copyL_length _ _ _ (by simp), List.length_replicate]; omega) | (simp; omega)) rfl Try.underlying53 (by kernel_rfl) rfl rfl) ?_
          obtain ⟨hi2, hi2'⟩ := int_at (h_a.mono (m1.trans m2)) (i := k) (by first | decide | omega | (rw [copyL_length _ _ _ (by simp), List.length_replicate]; omega) | (simp; omega)) (by first | decide | omega | (rw [copyL_length _ _ _ (by simp), List.length_replicate]; omega) | (simp; omega))
          refine Rw (.int .i64 (nth at_ k)) w5 (X_load rfl rfl (run_load_int ((h_a.mono (m1.trans m2)).mono H.m) (by first | decide | omega | (rw [copyL_length _ _ _ (by simp), List.length_replicate]; omega) | (simp; omega)) (by first | decide | omega | (rw [copyL_length _ _ _ (by simp), List.length_replicate]; omega) | (simp; omega)) Try.underlying3 (by kernel_rfl))) ?_
          refine Rc #[(.int .i64 (nth at_ k)), (.int .i64 4500)] w5 (kind_any (nth at_ k) 4500 (by first | decide | omega | (rw [copyL_length _ _ _ (by simp), List.length_replicate]; omega) | (simp; omega)) (by first | decide | omega | (rw [copyL_length _ _ _ (by simp), List.length_replicate]; omega) | (simp; omega)) (by first | decide | omega | (rw [copyL_length _ _ _ (by simp), List.length_replicate]; omega) | (simp; omega)) (by first | decide | omega | (rw [copyL_length _ _ _ (by simp), List.length_replicate]; omega) | (simp; omega)) _) ?_
          rintro _ w18 ⟨rfl, l3⟩
          replace H := H.le l3
          obtain ⟨hkr2, hkr2'⟩ := kindI_range (c := nth at_ k) (n := 4500) (by omega) (by omega) (by omega)
          refine Rv (.int .i64 (kindI (nth at_ k) 4500)) w18 ?_
          refine wpR_nil ?_
          refine E_then_normal ?_
          refine C_seq ?_
          refine C_seq ?_
          refine Cs [(12, (.int .i64 (kindI (nth at_ k) 4500))), (59, (.bool (decide (((nth l k).length : Int) > 300)))), (11, vb1), (50, (.bool (decide (k < 20)))), (10, (.int .i64 k)), (9, vw), (35, (.bool false)), (8, (.int .i64 0)), (7, (.int .i64 2)), (27, (.bool false)), (6, (ptr u1 0)), (5, (.bool true)), (0, vl), (1, va)] ?_
          refine C_region ?_
          refine Rv va w18 ?_
          refine Rv (.int .i64 k) w18 ?_
          refine Rw (elemP 1 va k) w18 (X_indexAddr ((h_a.mono (m1.trans m2)).mono H.m) (by first | decide | omega | (rw [copyL_length _ _ _ (by simp), List.length_replicate]; omega) | (simp; omega)) (by first | decide | omega | (rw [copyL_length _ _ _ (by simp), List.length_replicate]; omega) | (simp; omega)) rfl Try.underlying53 (by kernel_rfl) rfl rfl) ?_
          refine Rw (.int .i64 (nth at_ k)) w18 (X_load rfl rfl (run_load_int ((h_a.mono (m1.trans m2)).mono H.m) (by first | decide | omega | (rw [copyL_length _ _ _ (by simp), List.length_replicate]; omega) | (simp; omega)) (by first | decide | omega | (rw [copyL_length _ _ _ (by simp), List.length_replicate]; omega) | (simp; omega)) Try.underlying3 (by kernel_rfl))) ?_
          refine Rv (.bool (decide ((nth at_ k) < 0))) w18 ?_
          refine wpR_nil ?_
          refine E_then_normal ?_
          refine C_cond rfl (fun c14 => ?_) (fun c14 => ?_)
          · have d14 : (nth at_ k) < 0 := of_decide_eq_true c14
            refine C_seq ?_
            refine Cs [(71, (.bool (decide ((nth at_ k) < 0)))), (12, (.int .i64 (kindI (nth at_ k) 4500))), (59, (.bool (decide (((nth l k).length : Int) > 300)))), (11, vb1), (50, (.bool (decide (k < 20)))), (10, (.int .i64 k)), (9, vw), (35, (.bool false)), (8, (.int .i64 0)), (7, (.int .i64 2)), (27, (.bool false)), (6, (ptr u1 0)), (5, (.bool true)), (0, vl), (1, va)] ?_
            refine C_region ?_
            refine Rv (ptr u1 0) w18 ?_
            refine Rv (.int .i64 2) w18 ?_
            refine Rv (.int .i64 (kindI (nth at_ k) 4500)) w18 ?_
            rcases Bool.eq_false_or_eq_true (decide ((kindI (nth at_ k) 4500) ≤ 4096)) with c15 | c15
            · have d15 : (kindI (nth at_ k) 4500) ≤ 4096 := of_decide_eq_true c15
              replace H := H.pick 1
              refine Rc #[(ptr u1 0), (.int .i64 2), (.int .i64 (kindI (nth at_ k) 4500))] w18 (resize_S u1 9 9 3 ([(2, fileN want 1), (1, rootU [(⟨#[102]⟩, 2)])]) 2 (kindI (nth at_ k) 4500) _ _ _ _ H 0 ([(2, fileN (sizedL want (kindI (nth at_ k) 4500)) 1), (1, rootU [(⟨#[102]⟩, 2)])]) (rsOk (by omega) (by omega)) (rsOkU (by omega) (by omega)) (by decide)) ?_
              rintro _ w19 ⟨g8, m9, Hn, rfl⟩
              replace H := Hn
              clear Hn
              refine Rv (.int .i64 0) w19 ?_
              refine wpR_nil ?_
              refine E_then_normal ?_
              refine C_seq ?_
              refine C_seq ?_
              refine Cs [(13, (.int .i64 0)), (71, (.bool (decide ((nth at_ k) < 0)))), (12, (.int .i64 (kindI (nth at_ k) 4500))), (59, (.bool (decide (((nth l k).length : Int) > 300)))), (11, vb1), (50, (.bool (decide (k < 20)))), (10, (.int .i64 k)), (9, vw), (35, (.bool false)), (8, (.int .i64 0)), (7, (.int .i64 2)), (27, (.bool false)), (6, (ptr u1 0)), (5, (.bool true)), (0, vl), (1, va)] ?_
              refine C_region ?_
              refine Rv (.int .i64 0) w19 ?_
              refine Rv (.bool true) w19 ?_
              refine Rv (.int .i64 (kindI (nth at_ k) 4500)) w19 ?_
              refine Rw (.bool true) w19 (eq_bool (by kernel_rfl) c15) ?_
              refine Rv (.bool false) w19 ?_
              refine wpR_nil ?_
              refine E_then_normal ?_
              refine C_false rfl ?_
              refine C_skip ?_
              refine E_then_normal ?_
              refine C_seq ?_
              refine C_seq ?_
              refine Cs [(80, (.bool false)), (13, (.int .i64 0)), (71, (.bool (decide ((nth at_ k) < 0)))), (12, (.int .i64 (kindI (nth at_ k) 4500))), (59, (.bool (decide (((nth l k).length : Int) > 300)))), (11, vb1), (50, (.bool (decide (k < 20)))), (10, (.int .i64 k)), (9, vw), (35, (.bool false)), (8, (.int .i64 0)), (7, (.int .i64 2)), (27, (.bool false)), (6, (ptr u1 0)), (5, (.bool true)), (0, vl), (1, va)] ?_
              refine C_region ?_
              refine Rv (.int .i64 0) w19 ?_
              refine Rv (.bool true) w19 ?_
              refine wpR_nil ?_
              refine E_then_normal ?_
              refine C_true rfl ?_
              refine C_seq ?_
              refine Cs [(82, (.bool true)), (80, (.bool false)), (13, (.int .i64 0)), (71, (.bool (decide ((nth at_ k) < 0)))), (12, (.int .i64 (kindI (nth at_ k) 4500))), (59, (.bool (decide (((nth l k).length : Int) > 300)))), (11, vb1), (50, (.bool (decide (k < 20)))), (10, (.int .i64 k)), (9, vw), (35, (.bool false)), (8, (.int .i64 0)), (7, (.int .i64 2)), (27, (.bool false)), (6, (ptr u1 0)), (5, (.bool true)), (0, vl), (1, va)] ?_
              refine C_region ?_
              refine Rv (.int .i64 (kindI (nth at_ k) 4500)) w19 ?_
              refine S_makeB H Try.underlying25 (by kernel_rfl) (by first | decide | omega | (rw [copyL_length _ _ _ (by simp), List.length_replicate]; omega) | (simp; omega)) (by first | decide | omega | (rw [copyL_length _ _ _ (by simp), List.length_replicate]; omega) | (simp; omega)) rfl rfl rfl rfl rfl rfl fun b5 w20 Hn => ?_
              replace H := Hn
              clear Hn
              refine Rv (.slice (some ⟨b5, 0, none⟩) (kindI (nth at_ k) 4500 : Int).toNat (kindI (nth at_ k) 4500 : Int).toNat) w20 ?_
              refine wpR_nil ?_
              refine E_then_normal ?_
              refine C_seq ?_
              refine Cs [(14, (.slice (some ⟨b5, 0, none⟩) (kindI (nth at_ k) 4500 : Int).toNat (kindI (nth at_ k) 4500 : Int).toNat)), (82, (.bool true)), (80, (.bool false)), (13, (.int .i64 0)), (71, (.bool (decide ((nth at_ k) < 0)))), (12, (.int .i64 (kindI (nth at_ k) 4500))), (59, (.bool (decide (((nth l k).length : Int) > 300)))), (11, vb1), (50, (.bool (decide (k < 20)))), (10, (.int .i64 k)), (9, vw), (35, (.bool false)), (8, (.int .i64 0)), (7, (.int .i64 2)), (27, (.bool false)), (6, (ptr u1 0)), (5, (.bool true)), (0, vl), (1, va)] ?_
              refine C_region ?_
              refine Rv (.slice (some ⟨b5, 0, none⟩) (kindI (nth at_ k) 4500 : Int).toNat (kindI (nth at_ k) 4500 : Int).toNat) w20 ?_
              refine Rv vw w20 ?_
              refine S_copyV (off := 0) H (by first | rw [List.length_replicate] | rw [copyL_length _ _ _ (by simp), List.length_replicate]) (H.slRd (α := UInt8) (e := 5) (v := vw) (xs := want) 2) (by first | omega | (rw [List.length_replicate]; omega) | (rw [copyL_length _ _ _ (by simp), List.length_replicate]; omega) | (simp; done) | (simp; omega)) (by first | omega | (rw [List.length_replicate]; omega) | (rw [copyL_length _ _ _ (by simp), List.length_replicate]; omega) | (simp; done) | (simp; omega)) Try.underlying25 (by kernel_rfl) (sliceV_at (by first | rw [List.length_replicate] | rw [copyL_length _ _ _ (by simp), List.length_replicate])) rfl rfl rfl rfl rfl rfl fun w21 Hn => ?_
              replace H := Hn
              clear Hn
              refine wpR_nil ?_
              refine E_then_normal ?_
              refine Cs [(14, (.slice (some ⟨b5, 0, none⟩) (kindI (nth at_ k) 4500 : Int).toNat (kindI (nth at_ k) 4500 : Int).toNat)), (82, (.bool true)), (80, (.bool false)), (13, (.int .i64 0)), (71, (.bool (decide ((nth at_ k) < 0)))), (12, (.int .i64 (kindI (nth at_ k) 4500))), (59, (.bool (decide (((nth l k).length : Int) > 300)))), (11, vb1), (50, (.bool (decide (k < 20)))), (10, (.int .i64 k)), (9, vw), (35, (.bool false)), (8, (.int .i64 0)), (7, (.int .i64 2)), (27, (.bool false)), (6, (ptr u1 0)), (5, (.bool true)), (0, vl), (1, va)] ?_
              refine C_region ?_
              refine Rv (.slice (some ⟨b5, 0, none⟩) (kindI (nth at_ k) 4500 : Int).toNat (kindI (nth at_ k) 4500 : Int).toNat) w21 ?_
              refine Rv (.slice (some ⟨b5, 0, none⟩) (kindI (nth at_ k) 4500 : Int).toNat (kindI (nth at_ k) 4500 : Int).toNat) w21 ?_
              refine wpR_nil ?_
              refine E_then_normal ?_
              refine C_exit ?_
              refine E_then_exit ?_
              refine E_block_here ?_
              refine E_then_normal ?_
              refine Cs [(9, (.slice (some ⟨b5, 0, none⟩) (kindI (nth at_ k) 4500 : Int).toNat (kindI (nth at_ k) 4500 : Int).toNat)), (14, (.slice (some ⟨b5, 0, none⟩) (kindI (nth at_ k) 4500 : Int).toNat (kindI (nth at_ k) 4500 : Int).toNat)), (82, (.bool true)), (80, (.bool false)), (13, (.int .i64 0)), (71, (.bool (decide ((nth at_ k) < 0)))), (12, (.int .i64 (kindI (nth at_ k) 4500))), (59, (.bool (decide (((nth l k).length : Int) > 300)))), (11, vb1), (50, (.bool (decide (k < 20)))), (10, (.int .i64 k)), (35, (.bool false)), (8, (.int .i64 0)), (7, (.int .i64 2)), (27, (.bool false)), (6, (ptr u1 0)), (5, (.bool true)), (0, vl), (1, va)] ?_
              refine C_region ?_
              refine Rv (.int .i64 k) w21 ?_
              refine Rw (.int .i64 (k + 1)) w21 (eq_int (by kernel_rfl) (wrap64_in (by first | decide | omega | (rw [copyL_length _ _ _ (by simp), List.length_replicate]; omega) | (simp; omega)) (by first | decide | omega | (rw [copyL_length _ _ _ (by simp), List.length_replicate]; omega) | (simp; omega)))) ?_
              refine Rv (.int .i64 (k + 1)) w21 ?_
              refine wpR_nil ?_
              replace H := H.pick 2
              replace H := H.drop
              refine E_then_mid fun aq7 ha7 => ⟨(k + 1, sizedL want (kindI (nth at_ k) 4500), (.slice (some ⟨b5, 0, none⟩) (kindI (nth at_ k) 4500 : Int).toNat (kindI (nth at_ k) 4500 : Int).toNat)), ha7.sub ⟨rfl, rfl, rfl, rfl, rfl, rfl, rfl, rfl, rfl, rfl, trivial⟩, ⟨g8, by omega, by omega, by omega, by first | omega | (rw [sizedL_length]; omega) | (rw [writeL_length _ _ _ (by omega)]; omega), (m2.trans m9), H⟩, ?_⟩
              (first | omega | (dsimp only; omega))
            · have d15 : ¬ (kindI (nth at_ k) 4500) ≤ 4096 := of_decide_eq_false c15
              replace H := H.pick 1
              refine Rc #[(ptr u1 0), (.int .i64 2), (.int .i64 (kindI (nth at_ k) 4500))] w18 (resize_S u1 9 9 3 ([(2, fileN want 1), (1, rootU [(⟨#[102]⟩, 2)])]) 2 (kindI (nth at_ k) 4500) _ _ _ _ H 3 ([(2, fileN want 1), (1, rootU [(⟨#[102]⟩, 2)])]) (rsNo (by omega) (by omega)) (rsNoU (by omega) (by omega)) (by decide)) ?_
              rintro _ w22 ⟨g9, m10, Hn, rfl⟩
              replace H := Hn
              clear Hn
              refine Rv (.int .i64 3) w22 ?_
              refine wpR_nil ?_
              refine E_then_normal ?_
              refine C_seq ?_
              refine C_seq ?_
              refine Cs [(13, (.int .i64 3)), (71, (.bool (decide ((nth at_ k) < 0)))), (12, (.int .i64 (kindI (nth at_ k) 4500))), (59, (.bool (decide (((nth l k).length : Int) > 300)))), (11, vb1), (50, (.bool (decide (k < 20)))), (10, (.int .i64 k)), (9, vw), (35, (.bool false)), (8, (.int .i64 0)), (7, (.int .i64 2)), (27, (.bool false)), (6, (ptr u1 0)), (5, (.bool true)), (0, vl), (1, va)] ?_
              refine C_region ?_
              refine Rv (.int .i64 3) w22 ?_
              refine Rv (.bool false) w22 ?_
              refine Rv (.int .i64 (kindI (nth at_ k) 4500)) w22 ?_
              refine Rw (.bool false) w22 (eq_bool (by kernel_rfl) c15) ?_
              refine Rv (.bool false) w22 ?_
              refine wpR_nil ?_
              refine E_then_normal ?_
              refine C_false rfl ?_
              refine C_skip ?_
              refine E_then_normal ?_
              refine C_seq ?_
              refine C_seq ?_
              refine Cs [(80, (.bool false)), (13, (.int .i64 3)), (71, (.bool (decide ((nth at_ k) < 0)))), (12, (.int .i64 (kindI (nth at_ k) 4500))), (59, (.bool (decide (((nth l k).length : Int) > 300)))), (11, vb1), (50, (.bool (decide (k < 20)))), (10, (.int .i64 k)), (9, vw), (35, (.bool false)), (8, (.int .i64 0)), (7, (.int .i64 2)), (27, (.bool false)), (6, (ptr u1 0)), (5, (.bool true)), (0, vl), (1, va)] ?_
              refine C_region ?_
              refine Rv (.int .i64 3) w22 ?_
              refine Rv (.bool false) w22 ?_
              refine wpR_nil ?_
              refine E_then_normal ?_
              refine C_false rfl ?_
              refine C_skip ?_
              refine E_then_normal ?_
              refine C_exit ?_
              refine E_then_exit ?_
              refine E_block_here ?_
              refine E_then_normal ?_
              refine Cs [(82, (.bool false)), (80, (.bool false)), (13, (.int .i64 3)), (71, (.bool (decide ((nth at_ k) < 0)))), (12, (.int .i64 (kindI (nth at_ k) 4500))), (59, (.bool (decide (((nth l k).length : Int) > 300)))), (11, vb1), (50, (.bool (decide (k < 20)))), (10, (.int .i64 k)), (9, vw), (35, (.bool false)), (8, (.int .i64 0)), (7, (.int .i64 2)), (27, (.bool false)), (6, (ptr u1 0)), (5, (.bool true)), (0, vl), (1, va)] ?_
              refine C_region ?_
              refine Rv (.int .i64 k) w22 ?_
              refine Rw (.int .i64 (k + 1)) w22 (eq_int (by kernel_rfl) (wrap64_in (by first | decide | omega | (rw [copyL_length _ _ _ (by simp), List.length_replicate]; omega) | (simp; omega)) (by first | decide | omega | (rw [copyL_length _ _ _ (by simp), List.length_replicate]; omega) | (simp; omega)))) ?_
              refine Rv (.int .i64 (k + 1)) w22 ?_
              refine wpR_nil ?_
              replace H := H.pick 1
              refine E_then_mid fun aq8 ha8 => ⟨(k + 1, want, vw), ha8.sub ⟨rfl, rfl, rfl, rfl, rfl, rfl, rfl, rfl, rfl, rfl, trivial⟩, ⟨g9, by omega, by omega, by omega, by first | omega | (rw [sizedL_length]; omega) | (rw [writeL_length _ _ _ (by omega)]; omega), (m2.trans m10), H⟩, ?_⟩
              (first | omega | (dsimp only; omega))
          · have d14 : ¬ (nth at_ k) < 0 := of_decide_eq_false c14
            refine C_skip ?_
            refine E_then_normal ?_
            refine C_seq ?_
            refine Cs [(71, (.bool (decide ((nth at_ k) < 0)))), (12, (.int .i64 (kindI (nth at_ k) 4500))), (59, (.bool (decide (((nth l k).length : Int) > 300)))), (11, vb1), (50, (.bool (decide (k < 20)))), (10, (.int .i64 k)), (9, vw), (35, (.bool false)), (8, (.int .i64 0)), (7, (.int .i64 2)), (27, (.bool false)), (6, (ptr u1 0)), (5, (.bool true)), (0, vl), (1, va)] ?_
            refine C_region ?_
            refine Rv (ptr u1 0) w18 ?_
            refine Rv (.int .i64 2) w18 ?_
            refine Rv (.int .i64 (kindI (nth at_ k) 4500)) w18 ?_
            refine Rv vb1 w18 ?_
            rcases Bool.eq_false_or_eq_true (decide ((kindI (nth at_ k) 4500) + ((nth l k).length : Int) ≤ 4096)) with c16 | c16
            · have d16 : (kindI (nth at_ k) 4500) + ((nth l k).length : Int) ≤ 4096 := of_decide_eq_true c16
              rcases Bool.eq_false_or_eq_true (decide (((nth l k).length : Int) > 0)) with c17 | c17
              · have d17 : ((nth l k).length : Int) > 0 := of_decide_eq_true c17
                replace H := H.pick 1
                refine Rc #[(ptr u1 0), (.int .i64 2), (.int .i64 (kindI (nth at_ k) 4500)), vb1] w18 (write_S u1 9 9 3 ([(2, fileN want 1), (1, rootU [(⟨#[102]⟩, 2)])]) 2 (kindI (nth at_ k) 4500) (nth l k) vb1 _ _ _ _ H 0 ([(2, fileN (writeL want (kindI (nth at_ k) 4500) (nth l k)) 1), (1, rootU [(⟨#[102]⟩, 2)])]) (wrOk (by omega) (by omega)) (wrOkU (by omega) (by omega) (by omega)) hx1 (by decide) (ofGet rfl (by show want.length ≤ 1000000; omega))) ?_
                rintro _ w23 ⟨g10, m11, Hn, rfl⟩
                replace H := Hn
                clear Hn
                refine Rv (.int .i64 0) w23 ?_
                refine wpR_nil ?_
                refine E_then_normal ?_
                refine C_seq ?_
                refine C_seq ?_
                refine Cs [(15, (.int .i64 0)), (71, (.bool (decide ((nth at_ k) < 0)))), (12, (.int .i64 (kindI (nth at_ k) 4500))), (59, (.bool (decide (((nth l k).length : Int) > 300)))), (11, vb1), (50, (.bool (decide (k < 20)))), (10, (.int .i64 k)), (9, vw), (35, (.bool false)), (8, (.int .i64 0)), (7, (.int .i64 2)), (27, (.bool false)), (6, (ptr u1 0)), (5, (.bool true)), (0, vl), (1, va)] ?_
                refine C_region ?_
                refine Rv (.int .i64 0) w23 ?_
                refine Rv (.bool true) w23 ?_
                refine Rv (.int .i64 (kindI (nth at_ k) 4500)) w23 ?_
                refine Rv vb1 w23 ?_
                refine Rw (.int .i64 ((nth l k).length : Int)) w23 (X_len ((hx1.mono m11).mono H.m) rfl Try.underlying25 rfl) ?_
                refine Rw (.int .i64 ((kindI (nth at_ k) 4500) + ((nth l k).length : Int))) w23 (eq_int (by kernel_rfl) (wrap64_in (by first | decide | omega | (rw [copyL_length _ _ _ (by simp), List.length_replicate]; omega) | (simp; omega)) (by first | decide | omega | (rw [copyL_length _ _ _ (by simp), List.length_replicate]; omega) | (simp; omega)))) ?_
                refine Rv (.bool (decide (((kindI (nth at_ k) 4500) + ((nth l k).length : Int)) ≤ 4096))) w23 ?_
                refine Rv (.bool (!(true == (decide (((kindI (nth at_ k) 4500) + ((nth l k).length : Int)) ≤ 4096))))) w23 ?_
                refine wpR_nil ?_
                refine E_then_normal ?_
                refine C_cond rfl (fun c18 => ?_) (fun c18 => ?_)
                · refine C_seq ?_
                  refine Cs [(101, (.bool (!(true == (decide (((kindI (nth at_ k) 4500) + ((nth l k).length : Int)) ≤ 4096)))))), (15, (.int .i64 0)), (71, (.bool (decide ((nth at_ k) < 0)))), (12, (.int .i64 (kindI (nth at_ k) 4500))), (59, (.bool (decide (((nth l k).length : Int) > 300)))), (11, vb1), (50, (.bool (decide (k < 20)))), (10, (.int .i64 k)), (9, vw), (35, (.bool false)), (8, (.int .i64 0)), (7, (.int .i64 2)), (27, (.bool false)), (6, (ptr u1 0)), (5, (.bool true)), (0, vl), (1, va)] ?_
                  refine C_region ?_
                  refine Rv (.bool false) w23 ?_
                  refine wpR_nil ?_
                  refine E_then_normal ?_
                  refine C_ret ?_
                  refine E_then_ret ?_
                  refine E_block_ret ?_
                  refine E_then_ret ?_
                  refine E_then_ret ?_
                  refine E_block_ret ?_
                  refine E_then_ret ?_
                  refine E_ret (res_one rfl rfl) ⟨_, rfl, ?_⟩
                  exact absurd ((by first | exact bstr_app_eq _ _ | (simp; done) | (simp; omega) | (simp_all; done) | (simp_all; omega) : (decide ((nth at_ k) < 0)) = true).symm.trans c14) (by decide)
                · refine C_skip ?_
                  refine E_then_normal ?_
                  refine C_seq ?_
                  refine Cs [(101, (.bool (!(true == (decide (((kindI (nth at_ k) 4500) + ((nth l k).length : Int)) ≤ 4096)))))), (15, (.int .i64 0)), (71, (.bool (decide ((nth at_ k) < 0)))), (12, (.int .i64 (kindI (nth at_ k) 4500))), (59, (.bool (decide (((nth l k).length : Int) > 300)))), (11, vb1), (50, (.bool (decide (k < 20)))), (10, (.int .i64 k)), (9, vw), (35, (.bool false)), (8, (.int .i64 0)), (7, (.int .i64 2)), (27, (.bool false)), (6, (ptr u1 0)), (5, (.bool true)), (0, vl), (1, va)] ?_
                  refine C_region ?_
                  refine Rv (.int .i64 0) w23 ?_
                  refine Rv (.bool true) w23 ?_
                  refine Rv (.bool true) w23 ?_
                  refine Rv vb1 w23 ?_
                  refine Rw (.int .i64 ((nth l k).length : Int)) w23 (X_len ((hx1.mono m11).mono H.m) rfl Try.underlying25 rfl) ?_
                  refine Rw (.bool true) w23 (eq_bool (by kernel_rfl) c17) ?_
                  refine Rv (.bool true) w23 ?_
                  refine wpR_nil ?_
                  refine E_then_normal ?_
                  refine C_true rfl ?_
                  refine C_seq ?_
                  refine Cs [(108, (.bool true)), (101, (.bool (!(true == (decide (((kindI (nth at_ k) 4500) + ((nth l k).length : Int)) ≤ 4096)))))), (15, (.int .i64 0)), (71, (.bool (decide ((nth at_ k) < 0)))), (12, (.int .i64 (kindI (nth at_ k) 4500))), (59, (.bool (decide (((nth l k).length : Int) > 300)))), (11, vb1), (50, (.bool (decide (k < 20)))), (10, (.int .i64 k)), (9, vw), (35, (.bool false)), (8, (.int .i64 0)), (7, (.int .i64 2)), (27, (.bool false)), (6, (ptr u1 0)), (5, (.bool true)), (0, vl), (1, va)] ?_
                  refine C_region ?_
                  refine Rv vw w23 ?_
                  refine Rw (.int .i64 (want.length : Int)) w23 (X_len (H.slIs (α := UInt8) (e := 5) (v := vw) (xs := want) 1) rfl Try.underlying25 rfl) ?_
                  refine Rv (.int .i64 (kindI (nth at_ k) 4500)) w23 ?_
                  refine Rv vb1 w23 ?_
                  refine Rw (.int .i64 ((nth l k).length : Int)) w23 (X_len ((hx1.mono m11).mono H.m) rfl Try.underlying25 rfl) ?_
                  refine Rw (.int .i64 ((kindI (nth at_ k) 4500) + ((nth l k).length : Int))) w23 (eq_int (by kernel_rfl) (wrap64_in (by first | decide | omega | (rw [copyL_length _ _ _ (by simp), List.length_replicate]; omega) | (simp; omega)) (by first | decide | omega | (rw [copyL_length _ _ _ (by simp), List.length_replicate]; omega) | (simp; omega)))) ?_
                  refine Rw (.int .i64 (max (want.length : Int) ((kindI (nth at_ k) 4500) + ((nth l k).length : Int)))) w23 (X_max rfl rfl rfl) ?_
                  refine S_makeB H Try.underlying25 (by kernel_rfl) (by first | decide | omega | (rw [copyL_length _ _ _ (by simp), List.length_replicate]; omega) | (simp; omega)) (by first | decide | omega | (rw [copyL_length _ _ _ (by simp), List.length_replicate]; omega) | (simp; omega)) rfl rfl rfl rfl rfl rfl fun b6 w24 Hn => ?_
                  replace H := Hn
                  clear Hn
                  refine Rv (.slice (some ⟨b6, 0, none⟩) (max (want.length : Int) ((kindI (nth at_ k) 4500) + ((nth l k).length : Int)) : Int).toNat (max (want.length : Int) ((kindI (nth at_ k) 4500) + ((nth l k).length : Int)) : Int).toNat) w24 ?_
                  refine wpR_nil ?_
                  refine E_then_normal ?_
                  refine C_seq ?_
                  refine Cs [(16, (.slice (some ⟨b6, 0, none⟩) (max (want.length : Int) ((kindI (nth at_ k) 4500) + ((nth l k).length : Int)) : Int).toNat (max (want.length : Int) ((kindI (nth at_ k) 4500) + ((nth l k).length : Int)) : Int).toNat)), (108, (.bool true)), (101, (.bool (!(true == (decide (((kindI (nth at_ k) 4500) + ((nth l k).length : Int)) ≤ 4096)))))), (15, (.int .i64 0)), (71, (.bool (decide ((nth at_ k) < 0)))), (12, (.int .i64 (kindI (nth at_ k) 4500))), (59, (.bool (decide (((nth l k).length : Int) > 300)))), (11, vb1), (50, (.bool (decide (k < 20)))), (10, (.int .i64 k)), (9, vw), (35, (.bool false)), (8, (.int .i64 0)), (7, (.int .i64 2)), (27, (.bool false)), (6, (ptr u1 0)), (5, (.bool true)), (0, vl), (1, va)] ?_
                  refine C_region ?_
                  refine Rv (.slice (some ⟨b6, 0, none⟩) (max (want.length : Int) ((kindI (nth at_ k) 4500) + ((nth l k).length : Int)) : Int).toNat (max (want.length : Int) ((kindI (nth at_ k) 4500) + ((nth l k).length : Int)) : Int).toNat) w24 ?_
                  refine Rv vw w24 ?_
                  refine S_copyV (off := 0) H (by first | rw [List.length_replicate] | rw [copyL_length _ _ _ (by simp), List.length_replicate]) (H.slRd (α := UInt8) (e := 5) (v := vw) (xs := want) 2) (by first | omega | (rw [List.length_replicate]; omega) | (rw [copyL_length _ _ _ (by simp), List.length_replicate]; omega) | (simp; done) | (simp; omega)) (by first | omega | (rw [List.length_replicate]; omega) | (rw [copyL_length _ _ _ (by simp), List.length_replicate]; omega) | (simp; done) | (simp; omega)) Try.underlying25 (by kernel_rfl) (sliceV_at (by first | rw [List.length_replicate] | rw [copyL_length _ _ _ (by simp), List.length_replicate])) rfl rfl rfl rfl rfl rfl fun w25 Hn => ?_
                  replace H := Hn
                  clear Hn
                  refine wpR_nil ?_
                  refine E_then_normal ?_
                  refine C_seq ?_
                  refine Cs [(16, (.slice (some ⟨b6, 0, none⟩) (max (want.length : Int) ((kindI (nth at_ k) 4500) + ((nth l k).length : Int)) : Int).toNat (max (want.length : Int) ((kindI (nth at_ k) 4500) + ((nth l k).length : Int)) : Int).toNat)), (108, (.bool true)), (101, (.bool (!(true == (decide (((kindI (nth at_ k) 4500) + ((nth l k).length : Int)) ≤ 4096)))))), (15, (.int .i64 0)), (71, (.bool (decide ((nth at_ k) < 0)))), (12, (.int .i64 (kindI (nth at_ k) 4500))), (59, (.bool (decide (((nth l k).length : Int) > 300)))), (11, vb1), (50, (.bool (decide (k < 20)))), (10, (.int .i64 k)), (9, vw), (35, (.bool false)), (8, (.int .i64 0)), (7, (.int .i64 2)), (27, (.bool false)), (6, (ptr u1 0)), (5, (.bool true)), (0, vl), (1, va)] ?_
                  refine C_region ?_
                  refine Rv (.slice (some ⟨b6, 0, none⟩) (max (want.length : Int) ((kindI (nth at_ k) 4500) + ((nth l k).length : Int)) : Int).toNat (max (want.length : Int) ((kindI (nth at_ k) 4500) + ((nth l k).length : Int)) : Int).toNat) w25 ?_
                  refine Rv (.int .i64 (kindI (nth at_ k) 4500)) w25 ?_
                  refine Rw (sliceV 1 (.slice (some ⟨b6, 0, none⟩) (max (want.length : Int) ((kindI (nth at_ k) 4500) + ((nth l k).length : Int)) : Int).toNat (max (want.length : Int) ((kindI (nth at_ k) 4500) + ((nth l k).length : Int)) : Int).toNat) (kindI (nth at_ k) 4500) ((copyL (List.replicate (max (want.length : Int) ((kindI (nth at_ k) 4500) + ((nth l k).length : Int)) : Int).toNat (0 : UInt8)) (0 : Int).toNat want).length : Int)) w25 (X_slice (l := kindI (nth at_ k) 4500) (h := ((copyL (List.replicate (max (want.length : Int) ((kindI (nth at_ k) 4500) + ((nth l k).length : Int)) : Int).toNat (0 : UInt8)) (0 : Int).toNat want).length : Int)) (H.slIs (α := UInt8) (e := 5) (v := (.slice (some ⟨b6, 0, none⟩) (max (want.length : Int) ((kindI (nth at_ k) 4500) + ((nth l k).length : Int)) : Int).toNat (max (want.length : Int) ((kindI (nth at_ k) 4500) + ((nth l k).length : Int)) : Int).toNat)) (xs := (copyL (List.replicate (max (want.length : Int) ((kindI (nth at_ k) 4500) + ((nth l k).length : Int)) : Int).toNat (0 : UInt8)) (0 : Int).toNat want)) 0) (by first | decide | omega | (rw [copyL_length _ _ _ (by simp), List.length_replicate]; omega) | (simp; omega)) (by first | decide | omega | (rw [copyL_length _ _ _ (by simp), List.length_replicate]; omega) | (simp; omega)) (by first | decide | omega | (rw [copyL_length _ _ _ (by simp), List.length_replicate]; omega) | (simp; omega)) rfl Try.underlying25 (by kernel_rfl) rfl (.inr ⟨_, rfl, rfl⟩) (.inl ⟨rfl, rfl⟩)) ?_
                  refine Rv vb1 w25 ?_
                  refine S_copyV (off := kindI (nth at_ k) 4500) H (by first | rw [List.length_replicate] | rw [copyL_length _ _ _ (by simp), List.length_replicate]) (Is.rd (hx1.mono m11) H.m) (by first | omega | (rw [List.length_replicate]; omega) | (rw [copyL_length _ _ _ (by simp), List.length_replicate]; omega) | (simp; done) | (simp; omega)) (by first | omega | (rw [List.length_replicate]; omega) | (rw [copyL_length _ _ _ (by simp), List.length_replicate]; omega) | (simp; done) | (simp; omega)) Try.underlying25 (by kernel_rfl) rfl rfl rfl rfl rfl rfl rfl fun w26 Hn => ?_
                  replace H := Hn
                  clear Hn
                  refine wpR_nil ?_
                  refine E_then_normal ?_
                  refine Cs [(16, (.slice (some ⟨b6, 0, none⟩) (max (want.length : Int) ((kindI (nth at_ k) 4500) + ((nth l k).length : Int)) : Int).toNat (max (want.length : Int) ((kindI (nth at_ k) 4500) + ((nth l k).length : Int)) : Int).toNat)), (108, (.bool true)), (101, (.bool (!(true == (decide (((kindI (nth at_ k) 4500) + ((nth l k).length : Int)) ≤ 4096)))))), (15, (.int .i64 0)), (71, (.bool (decide ((nth at_ k) < 0)))), (12, (.int .i64 (kindI (nth at_ k) 4500))), (59, (.bool (decide (((nth l k).length : Int) > 300)))), (11, vb1), (50, (.bool (decide (k < 20)))), (10, (.int .i64 k)), (9, vw), (35, (.bool false)), (8, (.int .i64 0)), (7, (.int .i64 2)), (27, (.bool false)), (6, (ptr u1 0)), (5, (.bool true)), (0, vl), (1, va)] ?_
                  refine C_region ?_
                  refine Rv (.slice (some ⟨b6, 0, none⟩) (max (want.length : Int) ((kindI (nth at_ k) 4500) + ((nth l k).length : Int)) : Int).toNat (max (want.length : Int) ((kindI (nth at_ k) 4500) + ((nth l k).length : Int)) : Int).toNat) w26 ?_
                  refine Rv (.slice (some ⟨b6, 0, none⟩) (max (want.length : Int) ((kindI (nth at_ k) 4500) + ((nth l k).length : Int)) : Int).toNat (max (want.length : Int) ((kindI (nth at_ k) 4500) + ((nth l k).length : Int)) : Int).toNat) w26 ?_
                  refine wpR_nil ?_
                  refine E_block_normal ?_
                  refine E_then_normal ?_
                  refine Cs [(9, (.slice (some ⟨b6, 0, none⟩) (max (want.length : Int) ((kindI (nth at_ k) 4500) + ((nth l k).length : Int)) : Int).toNat (max (want.length : Int) ((kindI (nth at_ k) 4500) + ((nth l k).length : Int)) : Int).toNat)), (16, (.slice (some ⟨b6, 0, none⟩) (max (want.length : Int) ((kindI (nth at_ k) 4500) + ((nth l k).length : Int)) : Int).toNat (max (want.length : Int) ((kindI (nth at_ k) 4500) + ((nth l k).length : Int)) : Int).toNat)), (108, (.bool true)), (101, (.bool (!(true == (decide (((kindI (nth at_ k) 4500) + ((nth l k).length : Int)) ≤ 4096)))))), (15, (.int .i64 0)), (71, (.bool (decide ((nth at_ k) < 0)))), (12, (.int .i64 (kindI (nth at_ k) 4500))), (59, (.bool (decide (((nth l k).length : Int) > 300)))), (11, vb1), (50, (.bool (decide (k < 20)))), (10, (.int .i64 k)), (35, (.bool false)), (8, (.int .i64 0)), (7, (.int .i64 2)), (27, (.bool false)), (6, (ptr u1 0)), (5, (.bool true)), (0, vl), (1, va)] ?_
                  refine C_region ?_
                  refine Rv (.int .i64 k) w26 ?_
                  refine Rw (.int .i64 (k + 1)) w26 (eq_int (by kernel_rfl) (wrap64_in (by first | decide | omega | (rw [copyL_length _ _ _ (by simp), List.length_replicate]; omega) | (simp; omega)) (by first | decide | omega | (rw [copyL_length _ _ _ (by simp), List.length_replicate]; omega) | (simp; omega)))) ?_
                  refine Rv (.int .i64 (k + 1)) w26 ?_
                  refine wpR_nil ?_
                  replace H := H.pick 2
                  replace H := H.drop
                  refine E_then_mid fun aq9 ha9 => ⟨(k + 1, writeL want (kindI (nth at_ k) 4500) (nth l k), (.slice (some ⟨b6, 0, none⟩) (max (want.length : Int) ((kindI (nth at_ k) 4500) + ((nth l k).length : Int)) : Int).toNat (max (want.length : Int) ((kindI (nth at_ k) 4500) + ((nth l k).length : Int)) : Int).toNat)), ha9.sub ⟨rfl, rfl, rfl, rfl, rfl, rfl, rfl, rfl, rfl, rfl, trivial⟩, ⟨g10, by omega, by omega, by omega, by first | omega | (rw [sizedL_length]; omega) | (rw [writeL_length _ _ _ (by omega)]; omega), (m2.trans m11), H⟩, ?_⟩
                  (first | omega | (dsimp only; omega))
              · have d17 : ¬ ((nth l k).length : Int) > 0 := of_decide_eq_false c17
                replace H := H.pick 1
                refine Rc #[(ptr u1 0), (.int .i64 2), (.int .i64 (kindI (nth at_ k) 4500)), vb1] w18 (write_S u1 9 9 3 ([(2, fileN want 1), (1, rootU [(⟨#[102]⟩, 2)])]) 2 (kindI (nth at_ k) 4500) (nth l k) vb1 _ _ _ _ H 0 ([(2, fileN want 1), (1, rootU [(⟨#[102]⟩, 2)])]) (wrOk (by omega) (by omega)) (wrZeroU (by omega)) hx1 (by decide) (ofGet rfl (by show want.length ≤ 1000000; omega))) ?_
                rintro _ w27 ⟨g11, m12, Hn, rfl⟩
                replace H := Hn
                clear Hn
                refine Rv (.int .i64 0) w27 ?_
                refine wpR_nil ?_
                refine E_then_normal ?_
                refine C_seq ?_
                refine C_seq ?_
                refine Cs [(15, (.int .i64 0)), (71, (.bool (decide ((nth at_ k) < 0)))), (12, (.int .i64 (kindI (nth at_ k) 4500))), (59, (.bool (decide (((nth l k).length : Int) > 300)))), (11, vb1), (50, (.bool (decide (k < 20)))), (10, (.int .i64 k)), (9, vw), (35, (.bool false)), (8, (.int .i64 0)), (7, (.int .i64 2)), (27, (.bool false)), (6, (ptr u1 0)), (5, (.bool true)), (0, vl), (1, va)] ?_
                refine C_region ?_
                refine Rv (.int .i64 0) w27 ?_
                refine Rv (.bool true) w27 ?_
                refine Rv (.int .i64 (kindI (nth at_ k) 4500)) w27 ?_
                refine Rv vb1 w27 ?_
                refine Rw (.int .i64 ((nth l k).length : Int)) w27 (X_len ((hx1.mono m12).mono H.m) rfl Try.underlying25 rfl) ?_
                refine Rw (.int .i64 ((kindI (nth at_ k) 4500) + ((nth l k).length : Int))) w27 (eq_int (by kernel_rfl) (wrap64_in (by first | decide | omega | (rw [copyL_length _ _ _ (by simp), List.length_replicate]; omega) | (simp; omega)) (by first | decide | omega | (rw [copyL_length _ _ _ (by simp), List.length_replicate]; omega) | (simp; omega)))) ?_
                refine Rv (.bool (decide (((kindI (nth at_ k) 4500) + ((nth l k).length : Int)) ≤ 4096))) w27 ?_
                refine Rv (.bool (!(true == (decide (((kindI (nth at_ k) 4500) + ((nth l k).length : Int)) ≤ 4096))))) w27 ?_
                refine wpR_nil ?_
                refine E_then_normal ?_
                refine C_cond rfl (fun c19 => ?_) (fun c19 => ?_)
                · refine C_seq ?_
                  refine Cs [(101, (.bool (!(true == (decide (((kindI (nth at_ k) 4500) + ((nth l k).length : Int)) ≤ 4096)))))), (15, (.int .i64 0)), (71, (.bool (decide ((nth at_ k) < 0)))), (12, (.int .i64 (kindI (nth at_ k) 4500))), (59, (.bool (decide (((nth l k).length : Int) > 300)))), (11, vb1), (50, (.bool (decide (k < 20)))), (10, (.int .i64 k)), (9, vw), (35, (.bool false)), (8, (.int .i64 0)), (7, (.int .i64 2)), (27, (.bool false)), (6, (ptr u1 0)), (5, (.bool true)), (0, vl), (1, va)] ?_
                  refine C_region ?_
                  refine Rv (.bool false) w27 ?_
                  refine wpR_nil ?_
                  refine E_then_normal ?_
                  refine C_ret ?_
                  refine E_then_ret ?_
                  refine E_block_ret ?_
                  refine E_then_ret ?_
                  refine E_then_ret ?_
                  refine E_block_ret ?_
                  refine E_then_ret ?_
                  refine E_ret (res_one rfl rfl) ⟨_, rfl, ?_⟩
                  exact absurd ((by first | exact bstr_app_eq _ _ | (simp; done) | (simp; omega) | (simp_all; done) | (simp_all; omega) : (decide (((nth l k).length : Int) > 0)) = true).symm.trans c17) (by decide)
                · refine C_skip ?_
                  refine E_then_normal ?_
                  refine C_seq ?_
                  refine Cs [(101, (.bool (!(true == (decide (((kindI (nth at_ k) 4500) + ((nth l k).length : Int)) ≤ 4096)))))), (15, (.int .i64 0)), (71, (.bool (decide ((nth at_ k) < 0)))), (12, (.int .i64 (kindI (nth at_ k) 4500))), (59, (.bool (decide (((nth l k).length : Int) > 300)))), (11, vb1), (50, (.bool (decide (k < 20)))), (10, (.int .i64 k)), (9, vw), (35, (.bool false)), (8, (.int .i64 0)), (7, (.int .i64 2)), (27, (.bool false)), (6, (ptr u1 0)), (5, (.bool true)), (0, vl), (1, va)] ?_
                  refine C_region ?_
                  refine Rv (.int .i64 0) w27 ?_
                  refine Rv (.bool true) w27 ?_
                  refine Rv (.bool true) w27 ?_
                  refine Rv vb1 w27 ?_
                  refine Rw (.int .i64 ((nth l k).length : Int)) w27 (X_len ((hx1.mono m12).mono H.m) rfl Try.underlying25 rfl) ?_
                  refine Rw (.bool false) w27 (eq_bool (by kernel_rfl) c17) ?_
                  refine Rv (.bool false) w27 ?_
                  refine wpR_nil ?_
                  refine E_then_normal ?_
                  refine C_false rfl ?_
                  refine C_skip ?_
                  refine E_block_normal ?_
                  refine E_then_normal ?_
                  refine Cs [(108, (.bool false)), (101, (.bool (!(true == (decide (((kindI (nth at_ k) 4500) + ((nth l k).length : Int)) ≤ 4096)))))), (15, (.int .i64 0)), (71, (.bool (decide ((nth at_ k) < 0)))), (12, (.int .i64 (kindI (nth at_ k) 4500))), (59, (.bool (decide (((nth l k).length : Int) > 300)))), (11, vb1), (50, (.bool (decide (k < 20)))), (10, (.int .i64 k)), (9, vw), (35, (.bool false)), (8, (.int .i64 0)), (7, (.int .i64 2)), (27, (.bool false)), (6, (ptr u1 0)), (5, (.bool true)), (0, vl), (1, va)] ?_
                  refine C_region ?_
                  refine Rv (.int .i64 k) w27 ?_
                  refine Rw (.int .i64 (k + 1)) w27 (eq_int (by kernel_rfl) (wrap64_in (by first | decide | omega | (rw [copyL_length _ _ _ (by simp), List.length_replicate]; omega) | (simp; omega)) (by first | decide | omega | (rw [copyL_length _ _ _ (by simp), List.length_replicate]; omega) | (simp; omega)))) ?_
                  refine Rv (.int .i64 (k + 1)) w27 ?_
                  refine wpR_nil ?_
                  replace H := H.pick 1
                  refine E_then_mid fun aq10 ha10 => ⟨(k + 1, want, vw), ha10.sub ⟨rfl, rfl, rfl, rfl, rfl, rfl, rfl, rfl, rfl, rfl, trivial⟩, ⟨g11, by omega, by omega, by omega, by first | omega | (rw [sizedL_length]; omega) | (rw [writeL_length _ _ _ (by omega)]; omega), (m2.trans m12), H⟩, ?_⟩
                  (first | omega | (dsimp only; omega))
            · have d16 : ¬ (kindI (nth at_ k) 4500) + ((nth l k).length : Int) ≤ 4096 := of_decide_eq_false c16
              rcases Bool.eq_false_or_eq_true (decide (((nth l k).length : Int) > 0)) with c20 | c20
              · have d20 : ((nth l k).length : Int) > 0 := of_decide_eq_true c20
                replace H := H.pick 1
                refine Rc #[(ptr u1 0), (.int .i64 2), (.int .i64 (kindI (nth at_ k) 4500)), vb1] w18 (write_S u1 9 9 3 ([(2, fileN want 1), (1, rootU [(⟨#[102]⟩, 2)])]) 2 (kindI (nth at_ k) 4500) (nth l k) vb1 _ _ _ _ H 3 ([(2, fileN want 1), (1, rootU [(⟨#[102]⟩, 2)])]) (wrNo (by omega) (by omega)) (wrNoU (by omega) (by omega)) hx1 (by decide) (ofGet rfl (by show want.length ≤ 1000000; omega))) ?_
                rintro _ w28 ⟨g12, m13, Hn, rfl⟩
                replace H := Hn
                clear Hn
                refine Rv (.int .i64 3) w28 ?_
                refine wpR_nil ?_
                refine E_then_normal ?_
                refine C_seq ?_
                refine C_seq ?_
                refine Cs [(15, (.int .i64 3)), (71, (.bool (decide ((nth at_ k) < 0)))), (12, (.int .i64 (kindI (nth at_ k) 4500))), (59, (.bool (decide (((nth l k).length : Int) > 300)))), (11, vb1), (50, (.bool (decide (k < 20)))), (10, (.int .i64 k)), (9, vw), (35, (.bool false)), (8, (.int .i64 0)), (7, (.int .i64 2)), (27, (.bool false)), (6, (ptr u1 0)), (5, (.bool true)), (0, vl), (1, va)] ?_
                refine C_region ?_
                refine Rv (.int .i64 3) w28 ?_
                refine Rv (.bool false) w28 ?_
                refine Rv (.int .i64 (kindI (nth at_ k) 4500)) w28 ?_
                refine Rv vb1 w28 ?_
                refine Rw (.int .i64 ((nth l k).length : Int)) w28 (X_len ((hx1.mono m13).mono H.m) rfl Try.underlying25 rfl) ?_
                refine Rw (.int .i64 ((kindI (nth at_ k) 4500) + ((nth l k).length : Int))) w28 (eq_int (by kernel_rfl) (wrap64_in (by first | decide | omega | (rw [copyL_length _ _ _ (by simp), List.length_replicate]; omega) | (simp; omega)) (by first | decide | omega | (rw [copyL_length _ _ _ (by simp), List.length_replicate]; omega) | (simp; omega)))) ?_
                refine Rv (.bool (decide (((kindI (nth at_ k) 4500) + ((nth l k).length : Int)) ≤ 4096))) w28 ?_
                refine Rv (.bool (!(false == (decide (((kindI (nth at_ k) 4500) + ((nth l k).length : Int)) ≤ 4096))))) w28 ?_
                refine wpR_nil ?_
                refine E_then_normal ?_
                refine C_cond rfl (fun c21 => ?_) (fun c21 => ?_)
                · refine C_seq ?_
                  refine Cs [(101, (.bool (!(false == (decide (((kindI (nth at_ k) 4500) + ((nth l k).length : Int)) ≤ 4096)))))), (15, (.int .i64 3)), (71, (.bool (decide ((nth at_ k) < 0)))), (12, (.int .i64 (kindI (nth at_ k) 4500))), (59, (.bool (decide (((nth l k).length : Int) > 300)))), (11, vb1), (50, (.bool (decide (k < 20)))), (10, (.int .i64 k)), (9, vw), (35, (.bool false)), (8, (.int .i64 0)), (7, (.int .i64 2)), (27, (.bool false)), (6, (ptr u1 0)), (5, (.bool true)), (0, vl), (1, va)] ?_
                  refine C_region ?_
                  refine Rv (.bool false) w28 ?_
                  refine wpR_nil ?_
                  refine E_then_normal ?_
                  refine C_ret ?_
                  refine E_then_ret ?_
                  refine E_block_ret ?_
                  refine E_then_ret ?_
                  refine E_then_ret ?_
                  refine E_block_ret ?_
                  refine E_then_ret ?_
                  refine E_ret (res_one rfl rfl) ⟨_, rfl, ?_⟩
                  exact absurd ((by first | exact bstr_app_eq _ _ | (simp; done) | (simp; omega) | (simp_all; done) | (simp_all; omega) : (decide ((kindI (nth at_ k) 4500) + ((nth l k).length : Int) ≤ 4096)) = true).symm.trans c16) (by decide)
                · refine C_skip ?_
                  refine E_then_normal ?_
                  refine C_seq ?_
                  refine Cs [(101, (.bool (!(false == (decide (((kindI (nth at_ k) 4500) + ((nth l k).length : Int)) ≤ 4096)))))), (15, (.int .i64 3)), (71, (.bool (decide ((nth at_ k) < 0)))), (12, (.int .i64 (kindI (nth at_ k) 4500))), (59, (.bool (decide (((nth l k).length : Int) > 300)))), (11, vb1), (50, (.bool (decide (k < 20)))), (10, (.int .i64 k)), (9, vw), (35, (.bool false)), (8, (.int .i64 0)), (7, (.int .i64 2)), (27, (.bool false)), (6, (ptr u1 0)), (5, (.bool true)), (0, vl), (1, va)] ?_
                  refine C_region ?_
                  refine Rv (.int .i64 3) w28 ?_
                  refine Rv (.bool false) w28 ?_
                  refine Rv (.bool false) w28 ?_
                  iterate 3 refine Rs ?_
                  refine Rv (.bool false) w28 ?_
                  refine wpR_nil ?_
                  refine E_then_normal ?_
                  refine C_false rfl ?_
                  refine C_skip ?_
                  refine E_block_normal ?_
                  refine E_then_normal ?_
                  refine Cs [(108, (.bool false)), (101, (.bool (!(false == (decide (((kindI (nth at_ k) 4500) + ((nth l k).length : Int)) ≤ 4096)))))), (15, (.int .i64 3)), (71, (.bool (decide ((nth at_ k) < 0)))), (12, (.int .i64 (kindI (nth at_ k) 4500))), (59, (.bool (decide (((nth l k).length : Int) > 300)))), (11, vb1), (50, (.bool (decide (k < 20)))), (10, (.int .i64 k)), (9, vw), (35, (.bool false)), (8, (.int .i64 0)), (7, (.int .i64 2)), (27, (.bool false)), (6, (ptr u1 0)), (5, (.bool true)), (0, vl), (1, va)] ?_
                  refine C_region ?_
                  refine Rv (.int .i64 k) w28 ?_
                  refine Rw (.int .i64 (k + 1)) w28 (eq_int (by kernel_rfl) (wrap64_in (by first | decide | omega | (rw [copyL_length _ _ _ (by simp), List.length_replicate]; omega) | (simp; omega)) (by first | decide | omega | (rw [copyL_length _ _ _ (by simp), List.length_replicate]; omega) | (simp; omega)))) ?_
                  refine Rv (.int .i64 (k + 1)) w28 ?_
                  refine wpR_nil ?_
                  replace H := H.pick 1
                  refine E_then_mid fun aq11 ha11 => ⟨(k + 1, want, vw), ha11.sub ⟨rfl, rfl, rfl, rfl, rfl, rfl, rfl, rfl, rfl, rfl, trivial⟩, ⟨g12, by omega, by omega, by omega, by first | omega | (rw [sizedL_length]; omega) | (rw [writeL_length _ _ _ (by omega)]; omega), (m2.trans m13), H⟩, ?_⟩
                  (first | omega | (dsimp only; omega))
              · have d20 : ¬ ((nth l k).length : Int) > 0 := of_decide_eq_false c20
                replace H := H.pick 1
                refine Rc #[(ptr u1 0), (.int .i64 2), (.int .i64 (kindI (nth at_ k) 4500)), vb1] w18 (write_S u1 9 9 3 ([(2, fileN want 1), (1, rootU [(⟨#[102]⟩, 2)])]) 2 (kindI (nth at_ k) 4500) (nth l k) vb1 _ _ _ _ H 3 ([(2, fileN want 1), (1, rootU [(⟨#[102]⟩, 2)])]) (wrNo (by omega) (by omega)) (wrNoU (by omega) (by omega)) hx1 (by decide) (ofGet rfl (by show want.length ≤ 1000000; omega))) ?_
                rintro _ w29 ⟨g13, m14, Hn, rfl⟩
                replace H := Hn
                clear Hn
                refine Rv (.int .i64 3) w29 ?_
                refine wpR_nil ?_
                refine E_then_normal ?_
                refine C_seq ?_
                refine C_seq ?_
                refine Cs [(15, (.int .i64 3)), (71, (.bool (decide ((nth at_ k) < 0)))), (12, (.int .i64 (kindI (nth at_ k) 4500))), (59, (.bool (decide (((nth l k).length : Int) > 300)))), (11, vb1), (50, (.bool (decide (k < 20)))), (10, (.int .i64 k)), (9, vw), (35, (.bool false)), (8, (.int .i64 0)), (7, (.int .i64 2)), (27, (.bool false)), (6, (ptr u1 0)), (5, (.bool true)), (0, vl), (1, va)] ?_
                refine C_region ?_
                refine Rv (.int .i64 3) w29 ?_
                refine Rv (.bool false) w29 ?_
                refine Rv (.int .i64 (kindI (nth at_ k) 4500)) w29 ?_
                refine Rv vb1 w29 ?_
                refine Rw (.int .i64 ((nth l k).length : Int)) w29 (X_len ((hx1.mono m14).mono H.m) rfl Try.underlying25 rfl) ?_
                refine Rw (.int .i64 ((kindI (nth at_ k) 4500) + ((nth l k).length : Int))) w29 (eq_int (by kernel_rfl) (wrap64_in (by first | decide | omega | (rw [copyL_length _ _ _ (by simp), List.length_replicate]; omega) | (simp; omega)) (by first | decide | omega | (rw [copyL_length _ _ _ (by simp), List.length_replicate]; omega) | (simp; omega)))) ?_
                refine Rv (.bool (decide (((kindI (nth at_ k) 4500) + ((nth l k).length : Int)) ≤ 4096))) w29 ?_
                refine Rv (.bool (!(false == (decide (((kindI (nth at_ k) 4500) + ((nth l k).length : Int)) ≤ 4096))))) w29 ?_
                refine wpR_nil ?_
                refine E_then_normal ?_
                refine C_cond rfl (fun c22 => ?_) (fun c22 => ?_)
                · refine C_seq ?_
                  refine Cs [(101, (.bool (!(false == (decide (((kindI (nth at_ k) 4500) + ((nth l k).length : Int)) ≤ 4096)))))), (15, (.int .i64 3)), (71, (.bool (decide ((nth at_ k) < 0)))), (12, (.int .i64 (kindI (nth at_ k) 4500))), (59, (.bool (decide (((nth l k).length : Int) > 300)))), (11, vb1), (50, (.bool (decide (k < 20)))), (10, (.int .i64 k)), (9, vw), (35, (.bool false)), (8, (.int .i64 0)), (7, (.int .i64 2)), (27, (.bool false)), (6, (ptr u1 0)), (5, (.bool true)), (0, vl), (1, va)] ?_
                  refine C_region ?_
                  refine Rv (.bool false) w29 ?_
                  refine wpR_nil ?_
                  refine E_then_normal ?_
                  refine C_ret ?_
                  refine E_then_ret ?_
                  refine E_block_ret ?_
                  refine E_then_ret ?_
                  refine E_then_ret ?_
                  refine E_block_ret ?_
                  refine E_then_ret ?_
                  refine E_ret (res_one rfl rfl) ⟨_, rfl, ?_⟩
                  exact absurd ((by first | exact bstr_app_eq _ _ | (simp; done) | (simp; omega) | (simp_all; done) | (simp_all; omega) : (decide (((nth l k).length : Int) > 0)) = true).symm.trans c20) (by decide)
                · refine C_skip ?_
                  refine E_then_normal ?_
                  refine C_seq ?_
                  refine Cs [(101, (.bool (!(false == (decide (((kindI (nth at_ k) 4500) + ((nth l k).length : Int)) ≤ 4096)))))), (15, (.int .i64 3)), (71, (.bool (decide ((nth at_ k) < 0)))), (12, (.int .i64 (kindI (nth at_ k) 4500))), (59, (.bool (decide (((nth l k).length : Int) > 300)))), (11, vb1), (50, (.bool (decide (k < 20)))), (10, (.int .i64 k)), (9, vw), (35, (.bool false)), (8, (.int .i64 0)), (7, (.int .i64 2)), (27, (.bool false)), (6, (ptr u1 0)), (5, (.bool true)), (0, vl), (1, va)] ?_
                  refine C_region ?_
                  refine Rv (.int .i64 3) w29 ?_
                  refine Rv (.bool false) w29 ?_
                  refine Rv (.bool false) w29 ?_
                  iterate 3 refine Rs ?_
                  refine Rv (.bool false) w29 ?_
                  refine wpR_nil ?_
                  refine E_then_normal ?_
                  refine C_false rfl ?_
                  refine C_skip ?_
                  refine E_block_normal ?_
                  refine E_then_normal ?_
                  refine Cs [(108, (.bool false)), (101, (.bool (!(false == (decide (((kindI (nth at_ k) 4500) + ((nth l k).length : Int)) ≤ 4096)))))), (15, (.int .i64 3)), (71, (.bool (decide ((nth at_ k) < 0)))), (12, (.int .i64 (kindI (nth at_ k) 4500))), (59, (.bool (decide (((nth l k).length : Int) > 300)))), (11, vb1), (50, (.bool (decide (k < 20)))), (10, (.int .i64 k)), (9, vw), (35, (.bool false)), (8, (.int .i64 0)), (7, (.int .i64 2)), (27, (.bool false)), (6, (ptr u1 0)), (5, (.bool true)), (0, vl), (1, va)] ?_
                  refine C_region ?_
                  refine Rv (.int .i64 k) w29 ?_
                  refine Rw (.int .i64 (k + 1)) w29 (eq_int (by kernel_rfl) (wrap64_in (by first | decide | omega | (rw [copyL_length _ _ _ (by simp), List.length_replicate]; omega) | (simp; omega)) (by first | decide | omega | (rw [copyL_length _ _ _ (by simp), List.length_replicate]; omega) | (simp; omega)))) ?_
                  refine Rv (.int .i64 (k + 1)) w29 ?_
                  refine wpR_nil ?_
                  replace H := H.pick 1
                  refine E_then_mid fun aq12 ha12 => ⟨(k + 1, want, vw), ha12.sub ⟨rfl, rfl, rfl, rfl, rfl, rfl, rfl, rfl, rfl, rfl, trivial⟩, ⟨g13, by omega, by omega, by omega, by first | omega | (rw [sizedL_length]; omega) | (rw [writeL_length _ _ _ (by omega)]; omega), (m2.trans m14), H⟩, ?_⟩
                  (first | omega | (dsimp only; omega))
      · have d3 : ¬ k < 20 := of_decide_eq_false c3
        refine C_exit ?_
        refine E_then_exit ?_
        refine E_then_exit ?_
        refine E_block_here ?_
        refine E_then_normal ?_
        refine C_seq ?_
        refine Cs [(50, (.bool (decide (k < 20)))), (10, (.int .i64 k)), (9, vw), (35, (.bool false)), (8, (.int .i64 0)), (7, (.int .i64 2)), (27, (.bool false)), (6, (ptr u1 0)), (5, (.bool true)), (0, vl), (1, va)] ?_
        refine C_region ?_
        refine Rv (ptr u1 0) w5 ?_
        refine Rv (.int .i64 2) w5 ?_
        refine Rc #[(ptr u1 0), (.int .i64 2), (.int .i64 0), (.int .i64 4096)] w5 (read_S u1 9 9 3 ([(2, fileN want 1), (1, rootU [(⟨#[102]⟩, 2)])]) 2 0 4096 _ _ _ _ (H.pick 1) 0 want (rd1 _ _ _) (rd1U _ _ _ (by omega)) (by decide) (by decide)) ?_
        rintro _ w30 ⟨v1, rfl, hx3, l4⟩
        obtain ⟨g14, hg1, m15, H⟩ := H.data l4
        rw [hg1] at hx3
        have ln_hx3 := hx3.len_le
        refine Rv (.tuple #[v1, (.int .i64 0)]) w30 ?_
        refine Rv v1 w30 ?_
        refine Rv (.int .i64 0) w30 ?_
        refine Rv v1 w30 ?_
        refine Rv (.int .i64 0) w30 ?_
        refine wpR_nil ?_
        refine E_then_normal ?_
        refine C_seq ?_
        refine Cs [(18, (.int .i64 0)), (17, v1), (50, (.bool (decide (k < 20)))), (10, (.int .i64 k)), (9, vw), (35, (.bool false)), (8, (.int .i64 0)), (7, (.int .i64 2)), (27, (.bool false)), (6, (ptr u1 0)), (5, (.bool true)), (0, vl), (1, va)] ?_
        refine C_region ?_
        refine Rv (.int .i64 0) w30 ?_
        refine Rv (.bool true) w30 ?_
        refine Rv (.bool true) w30 ?_
        refine Rv v1 w30 ?_
        refine Rw (.string (bstr want)) w30 (X_convert_str (hx3.mono H.m) rfl rfl Try.underlying25 Try.underlying5 Try.underlying9) ?_
        refine Rv vw w30 ?_
        refine Rw (.string (bstr want)) w30 (X_convert_str (H.slIs (α := UInt8) (e := 5) (v := vw) (xs := want) 0) rfl rfl Try.underlying25 Try.underlying5 Try.underlying9) ?_
        refine Rv (.bool ((bstr want).toList == (bstr want).toList)) w30 ?_
        refine Rv (.bool ((bstr want).toList == (bstr want).toList)) w30 ?_
        refine Rv (.bool ((bstr want).toList == (bstr want).toList)) w30 ?_
        refine wpR_nil ?_
        refine E_then_normal ?_
        refine C_ret ?_
        refine E_ret (res_one rfl rfl) ⟨_, rfl, ?_⟩
        exact ⟨congrArg Value.bool (by first | exact bstr_app_eq _ _ | (simp; done) | (simp; omega) | (simp_all; done) | (simp_all; omega)), H.toLe⟩
    · have d2 : ¬ k < (at_.length : Int) := of_decide_eq_false c2
      refine Rw (.bool false) w5 (eq_bool (by kernel_rfl) c2) ?_
      iterate 2 refine Rs ?_
      refine Rv (.bool false) w5 ?_
      refine wpR_nil ?_
      refine E_then_normal ?_
      refine C_false rfl ?_
      refine C_exit ?_
      refine E_then_exit ?_
      refine E_then_exit ?_
      refine E_block_here ?_
      refine E_then_normal ?_
      refine C_seq ?_
      refine Cs [(50, (.bool false)), (10, (.int .i64 k)), (9, vw), (35, (.bool false)), (8, (.int .i64 0)), (7, (.int .i64 2)), (27, (.bool false)), (6, (ptr u1 0)), (5, (.bool true)), (0, vl), (1, va)] ?_
      refine C_region ?_
      refine Rv (ptr u1 0) w5 ?_
      refine Rv (.int .i64 2) w5 ?_
      refine Rc #[(ptr u1 0), (.int .i64 2), (.int .i64 0), (.int .i64 4096)] w5 (read_S u1 9 9 3 ([(2, fileN want 1), (1, rootU [(⟨#[102]⟩, 2)])]) 2 0 4096 _ _ _ _ (H.pick 1) 0 want (rd1 _ _ _) (rd1U _ _ _ (by omega)) (by decide) (by decide)) ?_
      rintro _ w31 ⟨v2, rfl, hx4, l5⟩
      obtain ⟨g15, hg2, m16, H⟩ := H.data l5
      rw [hg2] at hx4
      have ln_hx4 := hx4.len_le
      refine Rv (.tuple #[v2, (.int .i64 0)]) w31 ?_
      refine Rv v2 w31 ?_
      refine Rv (.int .i64 0) w31 ?_
      refine Rv v2 w31 ?_
      refine Rv (.int .i64 0) w31 ?_
      refine wpR_nil ?_
      refine E_then_normal ?_
      refine C_seq ?_
      refine Cs [(18, (.int .i64 0)), (17, v2), (50, (.bool false)), (10, (.int .i64 k)), (9, vw), (35, (.bool false)), (8, (.int .i64 0)), (7, (.int .i64 2)), (27, (.bool false)), (6, (ptr u1 0)), (5, (.bool true)), (0, vl), (1, va)] ?_
      refine C_region ?_
      refine Rv (.int .i64 0) w31 ?_
      refine Rv (.bool true) w31 ?_
      refine Rv (.bool true) w31 ?_
      refine Rv v2 w31 ?_
      refine Rw (.string (bstr want)) w31 (X_convert_str (hx4.mono H.m) rfl rfl Try.underlying25 Try.underlying5 Try.underlying9) ?_
      refine Rv vw w31 ?_
      refine Rw (.string (bstr want)) w31 (X_convert_str (H.slIs (α := UInt8) (e := 5) (v := vw) (xs := want) 0) rfl rfl Try.underlying25 Try.underlying5 Try.underlying9) ?_
      refine Rv (.bool ((bstr want).toList == (bstr want).toList)) w31 ?_
      refine Rv (.bool ((bstr want).toList == (bstr want).toList)) w31 ?_
      refine Rv (.bool ((bstr want).toList == (bstr want).toList)) w31 ?_
      refine wpR_nil ?_
      refine E_then_normal ?_
      refine C_ret ?_
      refine E_ret (res_one rfl rfl) ⟨_, rfl, ?_⟩
      exact ⟨congrArg Value.bool (by first | exact bstr_app_eq _ _ | (simp; done) | (simp; omega) | (simp_all; done) | (simp_all; omega)), H.toLe⟩
  · have d1 : ¬ k < (l.length : Int) := of_decide_eq_false c1
    refine Rw (.bool false) w5 (eq_bool (by kernel_rfl) c1) ?_
    iterate 4 refine Rs ?_
    refine Rv (.bool false) w5 ?_
    refine Rv (.bool false) w5 ?_
    iterate 2 refine Rs ?_
    refine Rv (.bool false) w5 ?_
    refine wpR_nil ?_
    refine E_then_normal ?_
    refine C_false rfl ?_
    refine C_exit ?_
    refine E_then_exit ?_
    refine E_then_exit ?_
    refine E_block_here ?_
    refine E_then_normal ?_
    refine C_seq ?_
    refine Cs [(50, (.bool false)), (10, (.int .i64 k)), (9, vw), (35, (.bool false)), (8, (.int .i64 0)), (7, (.int .i64 2)), (27, (.bool false)), (6, (ptr u1 0)), (5, (.bool true)), (0, vl), (1, va)] ?_
    refine C_region ?_
    refine Rv (ptr u1 0) w5 ?_
    refine Rv (.int .i64 2) w5 ?_
    refine Rc #[(ptr u1 0), (.int .i64 2), (.int .i64 0), (.int .i64 4096)] w5 (read_S u1 9 9 3 ([(2, fileN want 1), (1, rootU [(⟨#[102]⟩, 2)])]) 2 0 4096 _ _ _ _ (H.pick 1) 0 want (rd1 _ _ _) (rd1U _ _ _ (by omega)) (by decide) (by decide)) ?_
    rintro _ w32 ⟨v3, rfl, hx5, l6⟩
    obtain ⟨g16, hg3, m17, H⟩ := H.data l6
    rw [hg3] at hx5
    have ln_hx5 := hx5.len_le
    refine Rv (.tuple #[v3, (.int .i64 0)]) w32 ?_
    refine Rv v3 w32 ?_
    refine Rv (.int .i64 0) w32 ?_
    refine Rv v3 w32 ?_
    refine Rv (.int .i64 0) w32 ?_
    refine wpR_nil ?_
    refine E_then_normal ?_
    refine C_seq ?_
    refine Cs [(18, (.int .i64 0)), (17, v3), (50, (.bool false)), (10, (.int .i64 k)), (9, vw), (35, (.bool false)), (8, (.int .i64 0)), (7, (.int .i64 2)), (27, (.bool false)), (6, (ptr u1 0)), (5, (.bool true)), (0, vl), (1, va)] ?_
    refine C_region ?_
    refine Rv (.int .i64 0) w32 ?_
    refine Rv (.bool true) w32 ?_
    refine Rv (.bool true) w32 ?_
    refine Rv v3 w32 ?_
    refine Rw (.string (bstr want)) w32 (X_convert_str (hx5.mono H.m) rfl rfl Try.underlying25 Try.underlying5 Try.underlying9) ?_
    refine Rv vw w32 ?_
    refine Rw (.string (bstr want)) w32 (X_convert_str (H.slIs (α := UInt8) (e := 5) (v := vw) (xs := want) 0) rfl rfl Try.underlying25 Try.underlying5 Try.underlying9) ?_
    refine Rv (.bool ((bstr want).toList == (bstr want).toList)) w32 ?_
    refine Rv (.bool ((bstr want).toList == (bstr want).toList)) w32 ?_
    refine Rv (.bool ((bstr want).toList == (bstr want).toList)) w32 ?_
    refine wpR_nil ?_
    refine E_then_normal ?_
    refine C_ret ?_
    refine E_ret (res_one rfl rfl) ⟨_, rfl, ?_⟩
    exact ⟨congrArg Value.bool (by first | exact bstr_app_eq _ _ | (simp; done) | (simp; omega) | (simp_all; done) | (simp_all; omega)), H.toLe⟩
end Go.Proofs.Ytnmaehdklmgfmaa
