/- What name.Valid comes to. (Printed by a program of mine.) -/
import Derived.Test.YtnmaehdklmgfmaaProg
import Derived.Test.YtnmaehdklmgfmaaChecked
import Derived.Test.YtnmaehdklmgfmaaLmKA
import Derived.Test.YtnmaehdklmgfmaaLmKB
import Derived.Test.YtnmaehdklmgfmaaLmKN
namespace Go.Proofs
open Go Go.RowKit Go.Lm Go.LmN
set_option linter.unusedVariables false in
set_option linter.unusedSimpArgs false in
set_option maxHeartbeats 4000000 in
set_option maxRecDepth 100000 in
theorem valid_any (s : ByteArray) (w : World) : Ret Try.prog 68 #[(.string s)] w fun v w' => v = .int .i64 (validN s) ∧ Le w w' := by
  have H := SL.start (Sees.refl w)
  refine enter (args := [(.string s)]) Try.func68 rfl rfl rfl ?_
  refine C_seq ?_
  refine C_region ?_
  refine Rv (.int .i64 0) w ?_
  refine wpR_nil ?_
  refine E_then_normal ?_
  refine C_seq ?_
  refine C_block ?_
  refine C_seq ?_
  refine C_region ?_
  refine Rv (.string s) w ?_
  refine Rw (.int .i64 (s.size : Int)) w (X_len_str rfl Try.underlying9 rfl) ?_
  refine Rv (.bool (decide ((s.size : Int) > 255))) w ?_
  refine Rv (.bool (decide ((s.size : Int) > 255))) w ?_
  refine wpR_nil ?_
  refine E_then_normal ?_
  refine C_cond rfl (fun c1 => ?_) (fun c1 => ?_)
  · have d1 : (s.size : Int) > 255 := of_decide_eq_true c1
    refine C_seq ?_
    refine Cs [(5, (.bool (decide ((s.size : Int) > 255)))), (2, (.int .i64 0)), (0, (.string s))] ?_
    refine C_region ?_
    refine Rv (.int .i64 23) w ?_
    refine wpR_nil ?_
    refine E_then_normal ?_
    refine C_ret ?_
    refine E_block_ret ?_
    refine E_then_ret ?_
    refine E_ret (res_one rfl rfl) ⟨_, rfl, ?_⟩
    exact ⟨congrArg (Value.int .i64) (by unfold validN dots; simp_all [badB_end]), H.toLe⟩
  · have d1 : ¬ (s.size : Int) > 255 := of_decide_eq_false c1
    refine C_seq ?_
    refine Cs [(5, (.bool (decide ((s.size : Int) > 255)))), (2, (.int .i64 0)), (0, (.string s))] ?_
    refine C_region ?_
    refine Rv (.string s) w ?_
    refine Rv (.bool (s.toList == (⟨#[]⟩ : ByteArray).toList)) w ?_
    rcases Bool.eq_false_or_eq_true (s.toList == (⟨#[]⟩ : ByteArray).toList) with c2 | c2
    · refine Rw (.bool true) w (eq_bool (by kernel_rfl) c2) ?_
      iterate 2 refine Rs ?_
      refine Rv (.bool true) w ?_
      refine Rv (.bool true) w ?_
      iterate 2 refine Rs ?_
      refine Rv (.bool true) w ?_
      refine Rv (.bool true) w ?_
      refine wpR_nil ?_
      refine E_then_normal ?_
      refine C_true rfl ?_
      refine C_seq ?_
      refine Cs [(9, (.bool true)), (5, (.bool (decide ((s.size : Int) > 255)))), (2, (.int .i64 0)), (0, (.string s))] ?_
      refine C_region ?_
      refine Rv (.int .i64 22) w ?_
      refine wpR_nil ?_
      refine E_then_normal ?_
      refine C_ret ?_
      refine E_block_ret ?_
      refine E_then_ret ?_
      refine E_ret (res_one rfl rfl) ⟨_, rfl, ?_⟩
      exact ⟨congrArg (Value.int .i64) (by unfold validN dots; simp_all [badB_end]), H.toLe⟩
    · refine Rw (.bool false) w (eq_bool (by kernel_rfl) c2) ?_
      refine Rv (.string s) w ?_
      refine Rv (.bool (s.toList == (⟨#[46]⟩ : ByteArray).toList)) w ?_
      refine Rv (.bool (s.toList == (⟨#[46]⟩ : ByteArray).toList)) w ?_
      rcases Bool.eq_false_or_eq_true (s.toList == (⟨#[46]⟩ : ByteArray).toList) with c3 | c3
      · refine Rw (.bool true) w (eq_bool (by kernel_rfl) c3) ?_
        iterate 2 refine Rs ?_
        refine Rv (.bool true) w ?_
        refine Rv (.bool true) w ?_
        refine wpR_nil ?_
        refine E_then_normal ?_
        refine C_true rfl ?_
        refine C_seq ?_
        refine Cs [(9, (.bool true)), (5, (.bool (decide ((s.size : Int) > 255)))), (2, (.int .i64 0)), (0, (.string s))] ?_
        refine C_region ?_
        refine Rv (.int .i64 22) w ?_
        refine wpR_nil ?_
        refine E_then_normal ?_
        refine C_ret ?_
        refine E_block_ret ?_
        refine E_then_ret ?_
        refine E_ret (res_one rfl rfl) ⟨_, rfl, ?_⟩
        exact ⟨congrArg (Value.int .i64) (by unfold validN dots; simp_all [badB_end]), H.toLe⟩
      · refine Rw (.bool false) w (eq_bool (by kernel_rfl) c3) ?_
        refine Rv (.string s) w ?_
        refine Rv (.bool (s.toList == (⟨#[46, 46]⟩ : ByteArray).toList)) w ?_
        refine Rv (.bool (s.toList == (⟨#[46, 46]⟩ : ByteArray).toList)) w ?_
        refine Rv (.bool (s.toList == (⟨#[46, 46]⟩ : ByteArray).toList)) w ?_
        refine wpR_nil ?_
        refine E_then_normal ?_
        refine C_cond rfl (fun c4 => ?_) (fun c4 => ?_)
        · refine C_seq ?_
          refine Cs [(9, (.bool (s.toList == (⟨#[46, 46]⟩ : ByteArray).toList))), (5, (.bool (decide ((s.size : Int) > 255)))), (2, (.int .i64 0)), (0, (.string s))] ?_
          refine C_region ?_
          refine Rv (.int .i64 22) w ?_
          refine wpR_nil ?_
          refine E_then_normal ?_
          refine C_ret ?_
          refine E_block_ret ?_
          refine E_then_ret ?_
          refine E_ret (res_one rfl rfl) ⟨_, rfl, ?_⟩
          exact ⟨congrArg (Value.int .i64) (by unfold validN dots; simp_all [badB_end]), H.toLe⟩
        · refine C_skip ?_
          refine E_block_normal ?_
          refine E_then_normal ?_
          refine C_seq ?_
          refine C_seq ?_
          refine Cs [(9, (.bool (s.toList == (⟨#[46, 46]⟩ : ByteArray).toList))), (5, (.bool (decide ((s.size : Int) > 255)))), (2, (.int .i64 0)), (0, (.string s))] ?_
          refine C_region ?_
          refine Rv (.string s) w ?_
          refine S_range_str rfl Try.underlying9 rfl rfl rfl rfl fun b1 w1 n1 => ?_
          replace H := H.new n1
          refine wpR_nil ?_
          refine E_then_normal ?_
          refine C_block ?_
          refine Cs [(21, (ptr b1 0)), (9, (.bool (s.toList == (⟨#[46, 46]⟩ : ByteArray).toList))), (5, (.bool (decide ((s.size : Int) > 255)))), (2, (.int .i64 0)), (0, (.string s))] ?_
          refine C_loop (ι := Nat) (fun p : Nat => [(21, (ptr b1 0)), (9, (.bool (s.toList == (⟨#[46, 46]⟩ : ByteArray).toList))), (5, (.bool (decide ((s.size : Int) > 255)))), (0, (.string s))]) (fun (p : Nat) w' => badB s p = badB s 0 ∧ SL ⟨w, w⟩ w w' [obj b1 (.stringIter s p)]) (fun p : Nat => s.size - p) 0 ⟨rfl, rfl, rfl, rfl, trivial⟩ ⟨rfl, H⟩ ?_
          clear H
          rintro p w2 ⟨hc, H⟩
          refine Cs [(21, (ptr b1 0)), (9, (.bool (s.toList == (⟨#[46, 46]⟩ : ByteArray).toList))), (5, (.bool (decide ((s.size : Int) > 255)))), (0, (.string s))] ?_
          refine C_seq ?_
          refine C_region ?_
          by_cases hN1 : p < s.size
          · refine S_next_yes (H.has 0) hN1 rfl rfl rfl rfl rfl fun w3 u1 => ?_
            replace H := H.updO 0 u1
            refine Rv (.bool true) w3 ?_
            refine wpR_nil ?_
            refine E_then_normal ?_
            refine C_seq ?_
            refine C_true rfl ?_
            refine C_skip ?_
            refine E_then_normal ?_
            refine C_block ?_
            refine C_seq ?_
            refine C_region ?_
            refine Rv (.int .i32 ((Utf8.decode s p).1 : Int)) w3 ?_
            refine Rv (.int .i32 ((Utf8.decode s p).1 : Int)) w3 ?_
            refine wpR_nil ?_
            refine E_then_normal ?_
            refine C_seq ?_
            refine Cs [(4, (.int .i32 ((Utf8.decode s p).1 : Int))), (23, (.bool true)), (22, (.tuple #[(.bool true), (.int .i64 (p : Int)), (.int .i32 ((Utf8.decode s p).1 : Int))])), (21, (ptr b1 0)), (9, (.bool (s.toList == (⟨#[46, 46]⟩ : ByteArray).toList))), (5, (.bool (decide ((s.size : Int) > 255)))), (0, (.string s))] ?_
            refine C_region ?_
            refine Rv (.int .i32 ((Utf8.decode s p).1 : Int)) w3 ?_
            refine Rv (.bool (((Utf8.decode s p).1 : Int) == 0)) w3 ?_
            rcases Bool.eq_false_or_eq_true (((Utf8.decode s p).1 : Int) == 0) with c5 | c5
            · have d5 : ((Utf8.decode s p).1 : Int) = 0 := eq_of_beq c5
              refine Rw (.bool true) w3 (eq_bool (by kernel_rfl) c5) ?_
              iterate 2 refine Rs ?_
              refine Rv (.bool true) w3 ?_
              refine wpR_nil ?_
              refine E_then_normal ?_
              refine C_true rfl ?_
              refine C_seq ?_
              refine Cs [(30, (.bool true)), (4, (.int .i32 ((Utf8.decode s p).1 : Int))), (23, (.bool true)), (22, (.tuple #[(.bool true), (.int .i64 (p : Int)), (.int .i32 ((Utf8.decode s p).1 : Int))])), (21, (ptr b1 0)), (9, (.bool (s.toList == (⟨#[46, 46]⟩ : ByteArray).toList))), (5, (.bool (decide ((s.size : Int) > 255)))), (0, (.string s))] ?_
              refine C_region ?_
              refine Rv (.int .i64 22) w3 ?_
              refine wpR_nil ?_
              refine E_then_normal ?_
              refine C_ret ?_
              refine E_block_ret ?_
              refine E_then_ret ?_
              refine E_block_ret ?_
              refine E_then_ret ?_
              refine E_ret (res_one rfl rfl) ⟨_, rfl, ?_⟩
              have hb : badB s 0 = true := by rw [← hc, badB_rune s p hN1]; simp [c5]
              exact ⟨congrArg (Value.int .i64) (by unfold validN; rw [if_neg (by omega), hb, Bool.or_true, if_pos rfl]), H.toLe⟩
            · have d5 : ((Utf8.decode s p).1 : Int) ≠ 0 := ne_of_beq_false c5
              refine Rw (.bool false) w3 (eq_bool (by kernel_rfl) c5) ?_
              refine Rv (.int .i32 ((Utf8.decode s p).1 : Int)) w3 ?_
              refine Rv (.bool (((Utf8.decode s p).1 : Int) == 47)) w3 ?_
              refine Rv (.bool (((Utf8.decode s p).1 : Int) == 47)) w3 ?_
              refine wpR_nil ?_
              refine E_then_normal ?_
              refine C_cond rfl (fun c6 => ?_) (fun c6 => ?_)
              · have d6 : ((Utf8.decode s p).1 : Int) = 47 := eq_of_beq c6
                refine C_seq ?_
                refine Cs [(30, (.bool (((Utf8.decode s p).1 : Int) == 47))), (4, (.int .i32 ((Utf8.decode s p).1 : Int))), (23, (.bool true)), (22, (.tuple #[(.bool true), (.int .i64 (p : Int)), (.int .i32 ((Utf8.decode s p).1 : Int))])), (21, (ptr b1 0)), (9, (.bool (s.toList == (⟨#[46, 46]⟩ : ByteArray).toList))), (5, (.bool (decide ((s.size : Int) > 255)))), (0, (.string s))] ?_
                refine C_region ?_
                refine Rv (.int .i64 22) w3 ?_
                refine wpR_nil ?_
                refine E_then_normal ?_
                refine C_ret ?_
                refine E_block_ret ?_
                refine E_then_ret ?_
                refine E_block_ret ?_
                refine E_then_ret ?_
                refine E_ret (res_one rfl rfl) ⟨_, rfl, ?_⟩
                have hb : badB s 0 = true := by rw [← hc, badB_rune s p hN1]; simp [c6]
                exact ⟨congrArg (Value.int .i64) (by unfold validN; rw [if_neg (by omega), hb, Bool.or_true, if_pos rfl]), H.toLe⟩
              · have d6 : ((Utf8.decode s p).1 : Int) ≠ 47 := ne_of_beq_false c6
                refine C_skip ?_
                refine E_block_normal ?_
                refine E_then_mid fun aq1 ha1 => ⟨p + (Utf8.decode s p).2, ha1.sub ⟨rfl, rfl, rfl, rfl, trivial⟩, ⟨(by rw [← hc, badB_rune s p hN1]; simp_all), H⟩, ?_⟩
                have hdp := decode_pos s p hN1; first | omega | (dsimp only; omega)
          · refine S_next_no (H.has 0) hN1 rfl rfl rfl rfl rfl ?_
            refine Rv (.bool false) w2 ?_
            refine wpR_nil ?_
            refine E_then_normal ?_
            refine C_seq ?_
            refine C_false rfl ?_
            refine C_exit ?_
            refine E_then_exit ?_
            refine E_then_exit ?_
            refine E_block_here ?_
            refine E_then_normal ?_
            refine C_seq ?_
            refine C_region ?_
            refine Rv (.int .i64 0) w2 ?_
            refine wpR_nil ?_
            refine E_then_normal ?_
            refine C_ret ?_
            refine E_ret (res_one rfl rfl) ⟨_, rfl, ?_⟩
            exact ⟨congrArg (Value.int .i64) (by unfold validN dots; simp_all [badB_end]), H.toLe⟩
end Go.Proofs
