/- What the small functions of layer 17 come to. (Printed by a program of mine.) -/
import Derived.Test.YtnmaehdklmgfmaaRows
import Derived.Test.YtnmaehdklmgfmaaLib
import Derived.Test.YtnmaehdklmgfmaaLmGC
import Derived.Test.YtnmaehdklmgfmaaLmGA
namespace Go.Proofs.Ytnmaehdklmgfmaa
open Go Go.RowKit Go.Lm
set_option linter.unusedVariables false in
set_option linter.unusedSimpArgs false in
set_option maxHeartbeats 4000000 in
set_option maxRecDepth 100000 in
theorem kind_any (c n : Int) (hc0 : -9223372036854775808 ≤ c) (hc1 : c ≤ 9223372036854775807) (hn : 0 < n) (hn1 : n ≤ 1000000) (w : World) : Ret Try.prog 16 #[(.int .i64 c), (.int .i64 n)] w fun v w' => v = .int .i64 (kindI c n) ∧ Le w w' := by
  have H := SL.start (Sees.refl w)
  refine enter (args := [(.int .i64 c), (.int .i64 n)]) Try.func16 rfl rfl rfl ?_
  refine C_seq ?_
  refine C_region ?_
  refine Rv (.int .i64 0) w ?_
  refine wpR_nil ?_
  refine E_then_normal ?_
  refine C_seq ?_
  refine C_seq ?_
  refine C_region ?_
  refine Rv (.int .i64 c) w ?_
  refine Rv (.bool (decide (c < 0))) w ?_
  refine wpR_nil ?_
  refine E_then_normal ?_
  refine C_cond rfl (fun c1 => ?_) (fun c1 => ?_)
  · have d1 : c < 0 := of_decide_eq_true c1
    refine Cs [(6, (.bool (decide (c < 0)))), (4, (.int .i64 0)), (0, (.int .i64 c)), (1, (.int .i64 n))] ?_
    refine C_region ?_
    refine Rv (.int .i64 c) w ?_
    refine Rw (.int .i64 (c + 1)) w (eq_int (by kernel_rfl) (wrap64_in (by omega) (by omega))) ?_
    refine Rw (.int .i64 (0 - (c + 1))) w (eq_int (by kernel_rfl) (wrap64_in (by omega) (by omega))) ?_
    refine Rv (.int .i64 (0 - (c + 1))) w ?_
    refine wpR_nil ?_
    refine E_then_normal ?_
    refine C_seq ?_
    refine Cs [(0, (.int .i64 (0 - (c + 1)))), (6, (.bool (decide (c < 0)))), (4, (.int .i64 0)), (1, (.int .i64 n))] ?_
    refine C_region ?_
    refine Rv (.int .i64 (0 - (c + 1))) w ?_
    refine Rv (.int .i64 n) w ?_
    refine Rw (.int .i64 ((0 - (c + 1)).tmod n)) w (X_rem (by omega) rfl rfl rfl) ?_
    refine Rv (.int .i64 ((0 - (c + 1)).tmod n)) w ?_
    refine wpR_nil ?_
    refine E_then_normal ?_
    refine C_ret ?_
    refine E_ret (res_one rfl rfl) ⟨_, rfl, ?_⟩
    exact ⟨congrArg (Value.int .i64) (by unfold kindI; first | rw [if_pos (by assumption)] | rw [if_neg (by assumption)]), H.toLe⟩
  · have d1 : ¬ c < 0 := of_decide_eq_false c1
    refine C_skip ?_
    refine E_then_normal ?_
    refine C_seq ?_
    refine Cs [(6, (.bool (decide (c < 0)))), (4, (.int .i64 0)), (0, (.int .i64 c)), (1, (.int .i64 n))] ?_
    refine C_region ?_
    refine Rv (.int .i64 c) w ?_
    refine Rv (.int .i64 n) w ?_
    refine Rw (.int .i64 (c.tmod n)) w (X_rem (by omega) rfl rfl rfl) ?_
    refine Rv (.int .i64 (c.tmod n)) w ?_
    refine wpR_nil ?_
    refine E_then_normal ?_
    refine C_ret ?_
    refine E_ret (res_one rfl rfl) ⟨_, rfl, ?_⟩
    exact ⟨congrArg (Value.int .i64) (by unfold kindI; first | rw [if_pos (by assumption)] | rw [if_neg (by assumption)]), H.toLe⟩

set_option linter.unusedVariables false in
set_option linter.unusedSimpArgs false in
set_option maxHeartbeats 4000000 in
set_option maxRecDepth 100000 in
theorem valid_any (s : ByteArray) (w : World) : Ret Try.prog 68 #[(.string s)] w fun v w' => v = .int .i64 (validN s) ∧ Le w w' := by
  have H := SL.start (Sees.refl w)
  refine enter (args := [(.string s)]) Try.func68 rfl rfl rfl ?_
  refine C_seq ?_
  refine C_region ?_
  refine Rv (.int .i64 0) w ?_
  refine wpR_nil ?_
  refine E_then_normal ?_
  refine C_seq ?_
  refine C_block ?_
  refine C_seq ?_
  refine C_region ?_
  refine Rv (.string s) w ?_
  refine Rw (.int .i64 (s.size : Int)) w (X_len_str rfl Try.underlying9 rfl) ?_
  refine Rv (.bool (decide ((s.size : Int) > 255))) w ?_
  refine Rv (.bool (decide ((s.size : Int) > 255))) w ?_
  refine wpR_nil ?_
  refine E_then_normal ?_
  refine C_cond rfl (fun c1 => ?_) (fun c1 => ?_)
  · have d1 : (s.size : Int) > 255 := of_decide_eq_true c1
    refine C_seq ?_
    refine Cs [(5, (.bool (decide ((s.size : Int) > 255)))), (2, (.int .i64 0)), (0, (.string s))] ?_
    refine C_region ?_
    refine Rv (.int .i64 23) w ?_
    refine wpR_nil ?_
    refine E_then_normal ?_
    refine C_ret ?_
    refine E_block_ret ?_
    refine E_then_ret ?_
    refine E_ret (res_one rfl rfl) ⟨_, rfl, ?_⟩
    exact ⟨congrArg (Value.int .i64) (by unfold validN dots; simp_all [badB_end]), H.toLe⟩
  · have d1 : ¬ (s.size : Int) > 255 := of_decide_eq_false c1
    refine C_seq ?_
    refine Cs [(5, (.bool (decide ((s.size : Int) > 255)))), (2, (.int .i64 0)), (0, (.string s))] ?_
    refine C_region ?_
    refine Rv (.string s) w ?_
    refine Rv (.bool (s.toList == (⟨#[]⟩ : ByteArray).toList)) w ?_
    rcases Bool.eq_false_or_eq_true (s.toList == (⟨#[]⟩ : ByteArray).toList) with c2 | c2
    · refine Rw (.bool true) w (eq_bool (by kernel_rfl) c2) ?_
      iterate 2 refine Rs ?_
      refine Rv (.bool true) w ?_
      refine Rv (.bool true) w ?_
      iterate 2 refine Rs ?_
      refine Rv (.bool true) w ?_
      refine Rv (.bool true) w ?_
      refine wpR_nil ?_
      refine E_then_normal ?_
      refine C_true rfl ?_
      refine C_seq ?_
      refine Cs [(9, (.bool true)), (5, (.bool (decide ((s.size : Int) > 255)))), (2, (.int .i64 0)), (0, (.string s))] ?_
      refine C_region ?_
      refine Rv (.int .i64 22) w ?_
      refine wpR_nil ?_
      refine E_then_normal ?_
      refine C_ret ?_
      refine E_block_ret ?_
      refine E_then_ret ?_
      refine E_ret (res_one rfl rfl) ⟨_, rfl, ?_⟩
      exact ⟨congrArg (Value.int .i64) (by unfold validN dots; simp_all [badB_end]), H.toLe⟩
    · refine Rw (.bool false) w (eq_bool (by kernel_rfl) c2) ?_
      refine Rv (.string s) w ?_
      refine Rv (.bool (s.toList == (⟨#[46]⟩ : ByteArray).toList)) w ?_
      refine Rv (.bool (s.toList == (⟨#[46]⟩ : ByteArray).toList)) w ?_
      rcases Bool.eq_false_or_eq_true (s.toList == (⟨#[46]⟩ : ByteArray).toList) with c3 | c3
      · refine Rw (.bool true) w (eq_bool (by kernel_rfl) c3) ?_
        iterate 2 refine Rs ?_
        refine Rv (.bool true) w ?_
        refine Rv (.bool true) w ?_
        refine wpR_nil ?_
        refine E_then_normal ?_
        refine C_true rfl ?_
        refine C_seq ?_
        refine Cs [(9, (.bool true)), (5, (.bool (decide ((s.size : Int) > 255)))), (2, (.int .i64 0)), (0, (.string s))] ?_
        refine C_region ?_
        refine Rv (.int .i64 22) w ?_
        refine wpR_nil ?_
        refine E_then_normal ?_
        refine C_ret ?_
        refine E_block_ret ?_
        refine E_then_ret ?_
        refine E_ret (res_one rfl rfl) ⟨_, rfl, ?_⟩
        exact ⟨congrArg (Value.int .i64) (by unfold validN dots; simp_all [badB_end]), H.toLe⟩
      · refine Rw (.bool false) w (eq_bool (by kernel_rfl) c3) ?_
        refine Rv (.string s) w ?_
        refine Rv (.bool (s.toList == (⟨#[46, 46]⟩ : ByteArray).toList)) w ?_
        refine Rv (.bool (s.toList == (⟨#[46, 46]⟩ : ByteArray).toList)) w ?_
        refine Rv (.bool (s.toList == (⟨#[46, 46]⟩ : ByteArray).toList)) w ?_
        refine wpR_nil ?_
        refine E_then_normal ?_
        refine C_cond rfl (fun c4 => ?_) (fun c4 => ?_)
        · refine C_seq ?_
          refine Cs [(9, (.bool (s.toList == (⟨#[46, 46]⟩ : ByteArray).toList))), (5, (.bool (decide ((s.size : Int) > 255)))), (2, (.int .i64 0)), (0, (.string s))] ?_
          refine C_region ?_
          refine Rv (.int .i64 22) w ?_
          refine wpR_nil ?_
          refine E_then_normal ?_
          refine C_ret ?_
          refine E_block_ret ?_
          refine E_then_ret ?_
          refine E_ret (res_one rfl rfl) ⟨_, rfl, ?_⟩
          exact ⟨congrArg (Value.int .i64) (by unfold validN dots; simp_all [badB_end]), H.toLe⟩
        · refine C_skip ?_
          refine E_block_normal ?_
          refine E_then_normal ?_
          refine C_seq ?_
          refine C_seq ?_
          refine Cs [(9, (.bool (s.toList == (⟨#[46, 46]⟩ : ByteArray).toList))), (5, (.bool (decide ((s.size : Int) > 255)))), (2, (.int .i64 0)), (0, (.string s))] ?_
          refine C_region ?_
          refine Rv (.string s) w ?_
          refine S_range_str rfl Try.underlying9 rfl rfl rfl rfl fun b1 w1 n1 => ?_
          replace H := H.new n1
          refine wpR_nil ?_
          refine E_then_normal ?_
          refine C_block ?_
          refine Cs [(21, (ptr b1 0)), (9, (.bool (s.toList == (⟨#[46, 46]⟩ : ByteArray).toList))), (5, (.bool (decide ((s.size : Int) > 255)))), (2, (.int .i64 0)), (0, (.string s))] ?_
          refine C_loop (ι := Nat) (fun p : Nat => [(21, (ptr b1 0)), (9, (.bool (s.toList == (⟨#[46, 46]⟩ : ByteArray).toList))), (5, (.bool (decide ((s.size : Int) > 255)))), (0, (.string s))]) (fun (p : Nat) w' => badB s p = badB s 0 ∧ SL ⟨w, w⟩ w w' [obj b1 (.stringIter s p)]) (fun p : Nat => s.size - p) 0 ⟨rfl, rfl, rfl, rfl, trivial⟩ ⟨rfl, H⟩ ?_
          clear H
          rintro p w2 ⟨hc, H⟩
          refine Cs [(21, (ptr b1 0)), (9, (.bool (s.toList == (⟨#[46, 46]⟩ : ByteArray).toList))), (5, (.bool (decide ((s.size : Int) > 255)))), (0, (.string s))] ?_
          refine C_seq ?_
          refine C_region ?_
          by_cases hN1 : p < s.size
          · refine S_next_yes (H.has 0) hN1 rfl rfl rfl rfl rfl fun w3 u1 => ?_
            replace H := H.updO 0 u1
            refine Rv (.bool true) w3 ?_
            refine wpR_nil ?_
            refine E_then_normal ?_
            refine C_seq ?_
            refine C_true rfl ?_
            refine C_skip ?_
            refine E_then_normal ?_
            refine C_block ?_
            refine C_seq ?_
            refine C_region ?_
            refine Rv (.int .i32 ((Utf8.decode s p).1 : Int)) w3 ?_
            refine Rv (.int .i32 ((Utf8.decode s p).1 : Int)) w3 ?_
            refine wpR_nil ?_
            refine E_then_normal ?_
            refine C_seq ?_
            refine Cs [(4, (.int .i32 ((Utf8.decode s p).1 : Int))), (23, (.bool true)), (22, (.tuple #[(.bool true), (.int .i64 (p : Int)), (.int .i32 ((Utf8.decode s p).1 : Int))])), (21, (ptr b1 0)), (9, (.bool (s.toList == (⟨#[46, 46]⟩ : ByteArray).toList))), (5, (.bool (decide ((s.size : Int) > 255)))), (0, (.string s))] ?_
            refine C_region ?_
            refine Rv (.int .i32 ((Utf8.decode s p).1 : Int)) w3 ?_
            refine Rv (.bool (((Utf8.decode s p).1 : Int) == 0)) w3 ?_
            rcases Bool.eq_false_or_eq_true (((Utf8.decode s p).1 : Int) == 0) with c5 | c5
            · have d5 : ((Utf8.decode s p).1 : Int) = 0 := eq_of_beq c5
              refine Rw (.bool true) w3 (eq_bool (by kernel_rfl) c5) ?_
              iterate 2 refine Rs ?_
              refine Rv (.bool true) w3 ?_
              refine wpR_nil ?_
              refine E_then_normal ?_
              refine C_true rfl ?_
              refine C_seq ?_
              refine Cs [(30, (.bool true)), (4, (.int .i32 ((Utf8.decode s p).1 : Int))), (23, (.bool true)), (22, (.tuple #[(.bool true), (.int .i64 (p : Int)), (.int .i32 ((Utf8.decode s p).1 : Int))])), (21, (ptr b1 0)), (9, (.bool (s.toList == (⟨#[46, 46]⟩ : ByteArray).toList))), (5, (.bool (decide ((s.size : Int) > 255)))), (0, (.string s))] ?_
              refine C_region ?_
              refine Rv (.int .i64 22) w3 ?_
              refine wpR_nil ?_
              refine E_then_normal ?_
              refine C_ret ?_
              refine E_block_ret ?_
              refine E_then_ret ?_
              refine E_block_ret ?_
              refine E_then_ret ?_
              refine E_ret (res_one rfl rfl) ⟨_, rfl, ?_⟩
              have hb : badB s 0 = true := by rw [← hc, badB_rune s p hN1]; simp [c5]
              exact ⟨congrArg (Value.int .i64) (by unfold validN; rw [if_neg (by omega), hb, Bool.or_true, if_pos rfl]), H.toLe⟩
            · have d5 : ((Utf8.decode s p).1 : Int) ≠ 0 := ne_of_beq_false c5
              refine Rw (.bool false) w3 (eq_bool (by kernel_rfl) c5) ?_
              refine Rv (.int .i32 ((Utf8.decode s p).1 : Int)) w3 ?_
              refine Rv (.bool (((Utf8.decode s p).1 : Int) == 47)) w3 ?_
              refine Rv (.bool (((Utf8.decode s p).1 : Int) == 47)) w3 ?_
              refine wpR_nil ?_
              refine E_then_normal ?_
              refine C_cond rfl (fun c6 => ?_) (fun c6 => ?_)
              · have d6 : ((Utf8.decode s p).1 : Int) = 47 := eq_of_beq c6
                refine C_seq ?_
                refine Cs [(30, (.bool (((Utf8.decode s p).1 : Int) == 47))), (4, (.int .i32 ((Utf8.decode s p).1 : Int))), (23, (.bool true)), (22, (.tuple #[(.bool true), (.int .i64 (p : Int)), (.int .i32 ((Utf8.decode s p).1 : Int))])), (21, (ptr b1 0)), (9, (.bool (s.toList == (⟨#[46, 46]⟩ : ByteArray).toList))), (5, (.bool (decide ((s.size : Int) > 255)))), (0, (.string s))] ?_
                refine C_region ?_
                refine Rv (.int .i64 22) w3 ?_
                refine wpR_nil ?_
                refine E_then_normal ?_
                refine C_ret ?_
                refine E_block_ret ?_
                refine E_then_ret ?_
                refine E_block_ret ?_
                refine E_then_ret ?_
                refine E_ret (res_one rfl rfl) ⟨_, rfl, ?_⟩
                have hb : badB s 0 = true := by rw [← hc, badB_rune s p hN1]; simp [c6]
                exact ⟨congrArg (Value.int .i64) (by unfold validN; rw [if_neg (by omega), hb, Bool.or_true, if_pos rfl]), H.toLe⟩
              · have d6 : ((Utf8.decode s p).1 : Int) ≠ 47 := ne_of_beq_false c6
                refine C_skip ?_
                refine E_block_normal ?_
                refine E_then_mid fun aq1 ha1 => ⟨p + (Utf8.decode s p).2, ha1.sub ⟨rfl, rfl, rfl, rfl, trivial⟩, ⟨(by rw [← hc, badB_rune s p hN1]; simp_all), H⟩, ?_⟩
                have hdp := decode_pos s p hN1; first | omega | (dsimp only; omega)
          · refine S_next_no (H.has 0) hN1 rfl rfl rfl rfl rfl ?_
            refine Rv (.bool false) w2 ?_
            refine wpR_nil ?_
            refine E_then_normal ?_
            refine C_seq ?_
            refine C_false rfl ?_
            refine C_exit ?_
            refine E_then_exit ?_
            refine E_then_exit ?_
            refine E_block_here ?_
            refine E_then_normal ?_
            refine C_seq ?_
            refine C_region ?_
            refine Rv (.int .i64 0) w2 ?_
            refine wpR_nil ?_
            refine E_then_normal ?_
            refine C_ret ?_
            refine E_ret (res_one rfl rfl) ⟨_, rfl, ?_⟩
            exact ⟨congrArg (Value.int .i64) (by unfold validN dots; simp_all [badB_end]), H.toLe⟩

set_option linter.unusedVariables false in
set_option linter.unusedSimpArgs false in
set_option maxHeartbeats 4000000 in
set_option maxRecDepth 100000 in
theorem may_any (m u g' : Int) (w : World) : Ret Try.prog 70 #[(.agg #[(.int .i64 m), (.int .i64 u), (.int .i64 g')])] w fun v w' => v = .bool (may3 m u g') ∧ Le w w' := by
  have H := SL.start (Sees.refl w)
  refine enter (args := [(.agg #[(.int .i64 m), (.int .i64 u), (.int .i64 g')])]) Try.func70 rfl rfl rfl ?_
  refine C_seq ?_
  refine C_region ?_
  refine S_box rfl rfl rfl rfl rfl _ rfl fun b1 w1 n1 => ?_
  replace H := H.new n1
  refine Rv (.bool false) w1 ?_
  refine wpR_nil ?_
  refine E_then_normal ?_
  refine C_seq ?_
  refine C_seq ?_
  refine C_region ?_
  refine Rv (ptr b1 0) w1 ?_
  refine S_load (run_load_one (H.blk 0) Try.underlying3 rfl rfl) rfl rfl rfl rfl rfl ?_
  refine Rv (.agg #[(.int .i64 m), (.int .i64 511)]) w1 ?_
  refine Rv (ptr b1 1) w1 ?_
  refine S_load (run_load_one (H.blk 0) Try.underlying3 rfl rfl) rfl rfl rfl rfl rfl ?_
  refine Rv (.agg #[(.int .i64 u), (.int .i64 65535)]) w1 ?_
  refine Rv (ptr b1 2) w1 ?_
  refine S_load (run_load_one (H.blk 0) Try.underlying3 rfl rfl) rfl rfl rfl rfl rfl ?_
  refine Rv (.agg #[(.int .i64 g'), (.int .i64 65535)]) w1 ?_
  refine S_new (fun b => .slice (some ⟨b, 0, none⟩) 3 3) (.cells #[(.int .i64 m), (.int .i64 511), (.int .i64 u), (.int .i64 65535), (.int .i64 g'), (.int .i64 65535)] 135) (by kernel_rfl) (by kernel_rfl) rfl rfl rfl fun b2 w2 n2 => ?_
  replace H := H.new n2
  refine Rv (.int .i64 3) w2 ?_
  refine Rv (.int .i64 0) w2 ?_
  refine wpR_nil ?_
  refine E_then_normal ?_
  refine C_block ?_
  refine Cs [(16, (.int .i64 0)), (15, (.int .i64 3)), (14, (.slice (some ⟨b2, 0, none⟩) 3 3)), (2, (.bool false)), (1, (ptr b1 0)), (0, (.agg #[(.int .i64 m), (.int .i64 u), (.int .i64 g')]))] ?_
  refine C_unroll ?_
  refine C_seq ?_
  refine C_region ?_
  refine Rv (.bool true) w2 ?_
  refine wpR_nil ?_
  refine E_then_normal ?_
  refine C_seq ?_
  refine C_true rfl ?_
  refine C_skip ?_
  refine E_then_normal ?_
  refine C_seq ?_
  refine C_block ?_
  refine C_seq ?_
  refine C_region ?_
  refine Rv (ptr b2 0) w2 ?_
  refine S_load (run_load_row (H.blk 0) Try.underlying135 rfl (vs := [(.int .i64 m), (.int .i64 511)]) (by kernel_rfl) rfl) rfl rfl rfl rfl rfl ?_
  refine S_alloc #[(.int .i64 0), (.int .i64 0)] (by kernel_rfl) rfl rfl rfl rfl fun b3 w3 n3 => ?_
  replace H := H.new n3
  refine S_store (H.blk 0) rfl rfl rfl rfl rfl (by kernel_rfl) rfl (Nat.le_of_ble_eq_true rfl) #[(.int .i64 m), (.int .i64 511)] rfl fun w4 u1 => ?_
  replace H := H.upd 0 u1
  refine wpR_nil ?_
  refine E_then_normal ?_
  refine C_seq ?_
  refine Cs [(4, (ptr b3 0)), (17, (.bool true)), (16, (.int .i64 0)), (15, (.int .i64 3)), (14, (.slice (some ⟨b2, 0, none⟩) 3 3)), (2, (.bool false)), (1, (ptr b1 0)), (0, (.agg #[(.int .i64 m), (.int .i64 u), (.int .i64 g')]))] ?_
  refine C_region ?_
  refine Rv (ptr b3 0) w4 ?_
  refine S_load (run_load_one (H.blk 0) Try.underlying3 rfl rfl) rfl rfl rfl rfl rfl ?_
  refine Rv (.bool (decide (m < 0))) w4 ?_
  rcases Bool.eq_false_or_eq_true (decide (m < 0)) with c1 | c1
  · have d1 : m < 0 := of_decide_eq_true c1
    refine Rw (.bool true) w4 (eq_bool (by kernel_rfl) c1) ?_
    iterate 5 refine Rs ?_
    refine Rv (.bool true) w4 ?_
    refine wpR_nil ?_
    refine E_then_normal ?_
    refine C_true rfl ?_
    refine C_seq ?_
    refine Cs [(29, (.bool true)), (4, (ptr b3 0)), (17, (.bool true)), (16, (.int .i64 0)), (15, (.int .i64 3)), (14, (.slice (some ⟨b2, 0, none⟩) 3 3)), (2, (.bool false)), (1, (ptr b1 0)), (0, (.agg #[(.int .i64 m), (.int .i64 u), (.int .i64 g')]))] ?_
    refine C_region ?_
    refine Rv (.bool false) w4 ?_
    refine wpR_nil ?_
    refine E_then_normal ?_
    refine C_ret ?_
    refine E_block_ret ?_
    refine E_then_ret ?_
    refine E_then_ret ?_
    refine E_block_ret ?_
    refine E_then_ret ?_
    refine E_ret (res_one rfl rfl) ⟨_, rfl, ?_⟩
    exact ⟨congrArg Value.bool (by first | (unfold may3; simp; omega) | (unfold may3; simp_all; omega)), H.toLe⟩
  · have d1 : ¬ m < 0 := of_decide_eq_false c1
    refine Rw (.bool false) w4 (eq_bool (by kernel_rfl) c1) ?_
    refine Rv (ptr b3 0) w4 ?_
    refine S_load (run_load_one (H.blk 0) Try.underlying3 rfl rfl) rfl rfl rfl rfl rfl ?_
    refine Rv (ptr b3 1) w4 ?_
    refine S_load (run_load_one (H.blk 0) Try.underlying3 rfl rfl) rfl rfl rfl rfl rfl ?_
    refine Rv (.bool (decide (m > 511))) w4 ?_
    refine Rv (.bool (decide (m > 511))) w4 ?_
    refine wpR_nil ?_
    refine E_then_normal ?_
    refine C_cond rfl (fun c2 => ?_) (fun c2 => ?_)
    · have d2 : m > 511 := of_decide_eq_true c2
      refine C_seq ?_
      refine Cs [(29, (.bool (decide (m > 511)))), (4, (ptr b3 0)), (17, (.bool true)), (16, (.int .i64 0)), (15, (.int .i64 3)), (14, (.slice (some ⟨b2, 0, none⟩) 3 3)), (2, (.bool false)), (1, (ptr b1 0)), (0, (.agg #[(.int .i64 m), (.int .i64 u), (.int .i64 g')]))] ?_
      refine C_region ?_
      refine Rv (.bool false) w4 ?_
      refine wpR_nil ?_
      refine E_then_normal ?_
      refine C_ret ?_
      refine E_block_ret ?_
      refine E_then_ret ?_
      refine E_then_ret ?_
      refine E_block_ret ?_
      refine E_then_ret ?_
      refine E_ret (res_one rfl rfl) ⟨_, rfl, ?_⟩
      exact ⟨congrArg Value.bool (by first | (unfold may3; simp; omega) | (unfold may3; simp_all; omega)), H.toLe⟩
    · have d2 : ¬ m > 511 := of_decide_eq_false c2
      refine C_skip ?_
      refine E_block_normal ?_
      refine E_then_normal ?_
      refine Cs [(29, (.bool (decide (m > 511)))), (4, (ptr b3 0)), (17, (.bool true)), (16, (.int .i64 0)), (15, (.int .i64 3)), (14, (.slice (some ⟨b2, 0, none⟩) 3 3)), (2, (.bool false)), (1, (ptr b1 0)), (0, (.agg #[(.int .i64 m), (.int .i64 u), (.int .i64 g')]))] ?_
      refine C_region ?_
      refine Rv (.int .i64 1) w4 ?_
      refine Rv (.int .i64 1) w4 ?_
      refine wpR_nil ?_
      refine E_unroll ?_
      refine Cs [(16, (.int .i64 1)), (29, (.bool (decide (m > 511)))), (4, (ptr b3 0)), (17, (.bool true)), (15, (.int .i64 3)), (14, (.slice (some ⟨b2, 0, none⟩) 3 3)), (2, (.bool false)), (1, (ptr b1 0)), (0, (.agg #[(.int .i64 m), (.int .i64 u), (.int .i64 g')]))] ?_
      refine C_seq ?_
      refine C_region ?_
      refine Rv (.bool true) w4 ?_
      refine wpR_nil ?_
      refine E_then_normal ?_
      refine C_seq ?_
      refine C_true rfl ?_
      refine C_skip ?_
      refine E_then_normal ?_
      refine C_seq ?_
      refine C_block ?_
      refine C_seq ?_
      refine Cs [(17, (.bool true)), (16, (.int .i64 1)), (29, (.bool (decide (m > 511)))), (4, (ptr b3 0)), (15, (.int .i64 3)), (14, (.slice (some ⟨b2, 0, none⟩) 3 3)), (2, (.bool false)), (1, (ptr b1 0)), (0, (.agg #[(.int .i64 m), (.int .i64 u), (.int .i64 g')]))] ?_
      refine C_region ?_
      refine Rv (ptr b2 2) w4 ?_
      refine S_load (run_load_row (H.blk 1) Try.underlying135 rfl (vs := [(.int .i64 u), (.int .i64 65535)]) (by kernel_rfl) rfl) rfl rfl rfl rfl rfl ?_
      refine S_alloc #[(.int .i64 0), (.int .i64 0)] (by kernel_rfl) rfl rfl rfl rfl fun b4 w5 n4 => ?_
      replace H := H.new n4
      refine S_store (H.blk 0) rfl rfl rfl rfl rfl (by kernel_rfl) rfl (Nat.le_of_ble_eq_true rfl) #[(.int .i64 u), (.int .i64 65535)] rfl fun w6 u2 => ?_
      replace H := H.upd 0 u2
      refine wpR_nil ?_
      refine E_then_normal ?_
      refine C_seq ?_
      refine Cs [(4, (ptr b4 0)), (17, (.bool true)), (16, (.int .i64 1)), (29, (.bool (decide (m > 511)))), (15, (.int .i64 3)), (14, (.slice (some ⟨b2, 0, none⟩) 3 3)), (2, (.bool false)), (1, (ptr b1 0)), (0, (.agg #[(.int .i64 m), (.int .i64 u), (.int .i64 g')]))] ?_
      refine C_region ?_
      refine Rv (ptr b4 0) w6 ?_
      refine S_load (run_load_one (H.blk 0) Try.underlying3 rfl rfl) rfl rfl rfl rfl rfl ?_
      refine Rv (.bool (decide (u < 0))) w6 ?_
      rcases Bool.eq_false_or_eq_true (decide (u < 0)) with c3 | c3
      · have d3 : u < 0 := of_decide_eq_true c3
        refine Rw (.bool true) w6 (eq_bool (by kernel_rfl) c3) ?_
        iterate 5 refine Rs ?_
        refine Rv (.bool true) w6 ?_
        refine wpR_nil ?_
        refine E_then_normal ?_
        refine C_true rfl ?_
        refine C_seq ?_
        refine Cs [(29, (.bool true)), (4, (ptr b4 0)), (17, (.bool true)), (16, (.int .i64 1)), (15, (.int .i64 3)), (14, (.slice (some ⟨b2, 0, none⟩) 3 3)), (2, (.bool false)), (1, (ptr b1 0)), (0, (.agg #[(.int .i64 m), (.int .i64 u), (.int .i64 g')]))] ?_
        refine C_region ?_
        refine Rv (.bool false) w6 ?_
        refine wpR_nil ?_
        refine E_then_normal ?_
        refine C_ret ?_
        refine E_block_ret ?_
        refine E_then_ret ?_
        refine E_then_ret ?_
        refine E_block_ret ?_
        refine E_then_ret ?_
        refine E_ret (res_one rfl rfl) ⟨_, rfl, ?_⟩
        exact ⟨congrArg Value.bool (by first | (unfold may3; simp; omega) | (unfold may3; simp_all; omega)), H.toLe⟩
      · have d3 : ¬ u < 0 := of_decide_eq_false c3
        refine Rw (.bool false) w6 (eq_bool (by kernel_rfl) c3) ?_
        refine Rv (ptr b4 0) w6 ?_
        refine S_load (run_load_one (H.blk 0) Try.underlying3 rfl rfl) rfl rfl rfl rfl rfl ?_
        refine Rv (ptr b4 1) w6 ?_
        refine S_load (run_load_one (H.blk 0) Try.underlying3 rfl rfl) rfl rfl rfl rfl rfl ?_
        refine Rv (.bool (decide (u > 65535))) w6 ?_
        refine Rv (.bool (decide (u > 65535))) w6 ?_
        refine wpR_nil ?_
        refine E_then_normal ?_
        refine C_cond rfl (fun c4 => ?_) (fun c4 => ?_)
        · have d4 : u > 65535 := of_decide_eq_true c4
          refine C_seq ?_
          refine Cs [(29, (.bool (decide (u > 65535)))), (4, (ptr b4 0)), (17, (.bool true)), (16, (.int .i64 1)), (15, (.int .i64 3)), (14, (.slice (some ⟨b2, 0, none⟩) 3 3)), (2, (.bool false)), (1, (ptr b1 0)), (0, (.agg #[(.int .i64 m), (.int .i64 u), (.int .i64 g')]))] ?_
          refine C_region ?_
          refine Rv (.bool false) w6 ?_
          refine wpR_nil ?_
          refine E_then_normal ?_
          refine C_ret ?_
          refine E_block_ret ?_
          refine E_then_ret ?_
          refine E_then_ret ?_
          refine E_block_ret ?_
          refine E_then_ret ?_
          refine E_ret (res_one rfl rfl) ⟨_, rfl, ?_⟩
          exact ⟨congrArg Value.bool (by first | (unfold may3; simp; omega) | (unfold may3; simp_all; omega)), H.toLe⟩
        · have d4 : ¬ u > 65535 := of_decide_eq_false c4
          refine C_skip ?_
          refine E_block_normal ?_
          refine E_then_normal ?_
          refine Cs [(29, (.bool (decide (u > 65535)))), (4, (ptr b4 0)), (17, (.bool true)), (16, (.int .i64 1)), (15, (.int .i64 3)), (14, (.slice (some ⟨b2, 0, none⟩) 3 3)), (2, (.bool false)), (1, (ptr b1 0)), (0, (.agg #[(.int .i64 m), (.int .i64 u), (.int .i64 g')]))] ?_
          refine C_region ?_
          refine Rv (.int .i64 2) w6 ?_
          refine Rv (.int .i64 2) w6 ?_
          refine wpR_nil ?_
          refine E_unroll ?_
          refine Cs [(16, (.int .i64 2)), (29, (.bool (decide (u > 65535)))), (4, (ptr b4 0)), (17, (.bool true)), (15, (.int .i64 3)), (14, (.slice (some ⟨b2, 0, none⟩) 3 3)), (2, (.bool false)), (1, (ptr b1 0)), (0, (.agg #[(.int .i64 m), (.int .i64 u), (.int .i64 g')]))] ?_
          refine C_seq ?_
          refine C_region ?_
          refine Rv (.bool true) w6 ?_
          refine wpR_nil ?_
          refine E_then_normal ?_
          refine C_seq ?_
          refine C_true rfl ?_
          refine C_skip ?_
          refine E_then_normal ?_
          refine C_seq ?_
          refine C_block ?_
          refine C_seq ?_
          refine Cs [(17, (.bool true)), (16, (.int .i64 2)), (29, (.bool (decide (u > 65535)))), (4, (ptr b4 0)), (15, (.int .i64 3)), (14, (.slice (some ⟨b2, 0, none⟩) 3 3)), (2, (.bool false)), (1, (ptr b1 0)), (0, (.agg #[(.int .i64 m), (.int .i64 u), (.int .i64 g')]))] ?_
          refine C_region ?_
          refine Rv (ptr b2 4) w6 ?_
          refine S_load (run_load_row (H.blk 2) Try.underlying135 rfl (vs := [(.int .i64 g'), (.int .i64 65535)]) (by kernel_rfl) rfl) rfl rfl rfl rfl rfl ?_
          refine S_alloc #[(.int .i64 0), (.int .i64 0)] (by kernel_rfl) rfl rfl rfl rfl fun b5 w7 n5 => ?_
          replace H := H.new n5
          refine S_store (H.blk 0) rfl rfl rfl rfl rfl (by kernel_rfl) rfl (Nat.le_of_ble_eq_true rfl) #[(.int .i64 g'), (.int .i64 65535)] rfl fun w8 u3 => ?_
          replace H := H.upd 0 u3
          refine wpR_nil ?_
          refine E_then_normal ?_
          refine C_seq ?_
          refine Cs [(4, (ptr b5 0)), (17, (.bool true)), (16, (.int .i64 2)), (29, (.bool (decide (u > 65535)))), (15, (.int .i64 3)), (14, (.slice (some ⟨b2, 0, none⟩) 3 3)), (2, (.bool false)), (1, (ptr b1 0)), (0, (.agg #[(.int .i64 m), (.int .i64 u), (.int .i64 g')]))] ?_
          refine C_region ?_
          refine Rv (ptr b5 0) w8 ?_
          refine S_load (run_load_one (H.blk 0) Try.underlying3 rfl rfl) rfl rfl rfl rfl rfl ?_
          refine Rv (.bool (decide (g' < 0))) w8 ?_
          rcases Bool.eq_false_or_eq_true (decide (g' < 0)) with c5 | c5
          · have d5 : g' < 0 := of_decide_eq_true c5
            refine Rw (.bool true) w8 (eq_bool (by kernel_rfl) c5) ?_
            iterate 5 refine Rs ?_
            refine Rv (.bool true) w8 ?_
            refine wpR_nil ?_
            refine E_then_normal ?_
            refine C_true rfl ?_
            refine C_seq ?_
            refine Cs [(29, (.bool true)), (4, (ptr b5 0)), (17, (.bool true)), (16, (.int .i64 2)), (15, (.int .i64 3)), (14, (.slice (some ⟨b2, 0, none⟩) 3 3)), (2, (.bool false)), (1, (ptr b1 0)), (0, (.agg #[(.int .i64 m), (.int .i64 u), (.int .i64 g')]))] ?_
            refine C_region ?_
            refine Rv (.bool false) w8 ?_
            refine wpR_nil ?_
            refine E_then_normal ?_
            refine C_ret ?_
            refine E_block_ret ?_
            refine E_then_ret ?_
            refine E_then_ret ?_
            refine E_block_ret ?_
            refine E_then_ret ?_
            refine E_ret (res_one rfl rfl) ⟨_, rfl, ?_⟩
            exact ⟨congrArg Value.bool (by first | (unfold may3; simp; omega) | (unfold may3; simp_all; omega)), H.toLe⟩
          · have d5 : ¬ g' < 0 := of_decide_eq_false c5
            refine Rw (.bool false) w8 (eq_bool (by kernel_rfl) c5) ?_
            refine Rv (ptr b5 0) w8 ?_
            refine S_load (run_load_one (H.blk 0) Try.underlying3 rfl rfl) rfl rfl rfl rfl rfl ?_
            refine Rv (ptr b5 1) w8 ?_
            refine S_load (run_load_one (H.blk 0) Try.underlying3 rfl rfl) rfl rfl rfl rfl rfl ?_
            refine Rv (.bool (decide (g' > 65535))) w8 ?_
            refine Rv (.bool (decide (g' > 65535))) w8 ?_
            refine wpR_nil ?_
            refine E_then_normal ?_
            refine C_cond rfl (fun c6 => ?_) (fun c6 => ?_)
            · have d6 : g' > 65535 := of_decide_eq_true c6
              refine C_seq ?_
              refine Cs [(29, (.bool (decide (g' > 65535)))), (4, (ptr b5 0)), (17, (.bool true)), (16, (.int .i64 2)), (15, (.int .i64 3)), (14, (.slice (some ⟨b2, 0, none⟩) 3 3)), (2, (.bool false)), (1, (ptr b1 0)), (0, (.agg #[(.int .i64 m), (.int .i64 u), (.int .i64 g')]))] ?_
              refine C_region ?_
              refine Rv (.bool false) w8 ?_
              refine wpR_nil ?_
              refine E_then_normal ?_
              refine C_ret ?_
              refine E_block_ret ?_
              refine E_then_ret ?_
              refine E_then_ret ?_
              refine E_block_ret ?_
              refine E_then_ret ?_
              refine E_ret (res_one rfl rfl) ⟨_, rfl, ?_⟩
              exact ⟨congrArg Value.bool (by first | (unfold may3; simp; omega) | (unfold may3; simp_all; omega)), H.toLe⟩
            · have d6 : ¬ g' > 65535 := of_decide_eq_false c6
              refine C_skip ?_
              refine E_block_normal ?_
              refine E_then_normal ?_
              refine Cs [(29, (.bool (decide (g' > 65535)))), (4, (ptr b5 0)), (17, (.bool true)), (16, (.int .i64 2)), (15, (.int .i64 3)), (14, (.slice (some ⟨b2, 0, none⟩) 3 3)), (2, (.bool false)), (1, (ptr b1 0)), (0, (.agg #[(.int .i64 m), (.int .i64 u), (.int .i64 g')]))] ?_
              refine C_region ?_
              refine Rv (.int .i64 3) w8 ?_
              refine Rv (.int .i64 3) w8 ?_
              refine wpR_nil ?_
              refine E_unroll ?_
              refine Cs [(16, (.int .i64 3)), (29, (.bool (decide (g' > 65535)))), (4, (ptr b5 0)), (17, (.bool true)), (15, (.int .i64 3)), (14, (.slice (some ⟨b2, 0, none⟩) 3 3)), (2, (.bool false)), (1, (ptr b1 0)), (0, (.agg #[(.int .i64 m), (.int .i64 u), (.int .i64 g')]))] ?_
              refine C_seq ?_
              refine C_region ?_
              refine Rv (.bool false) w8 ?_
              refine wpR_nil ?_
              refine E_then_normal ?_
              refine C_seq ?_
              refine C_false rfl ?_
              refine C_exit ?_
              refine E_then_exit ?_
              refine E_then_exit ?_
              refine E_block_here ?_
              refine E_then_normal ?_
              refine C_seq ?_
              refine Cs [(17, (.bool false)), (16, (.int .i64 3)), (29, (.bool (decide (g' > 65535)))), (4, (ptr b5 0)), (15, (.int .i64 3)), (14, (.slice (some ⟨b2, 0, none⟩) 3 3)), (2, (.bool false)), (1, (ptr b1 0)), (0, (.agg #[(.int .i64 m), (.int .i64 u), (.int .i64 g')]))] ?_
              refine C_region ?_
              refine Rv (.bool true) w8 ?_
              refine wpR_nil ?_
              refine E_then_normal ?_
              refine C_ret ?_
              refine E_ret (res_one rfl rfl) ⟨_, rfl, ?_⟩
              exact ⟨congrArg Value.bool (by first | (unfold may3; simp; omega) | (unfold may3; simp_all; omega)), H.toLe⟩

set_option linter.unusedVariables false in
set_option linter.unusedSimpArgs false in
set_option maxHeartbeats 4000000 in
set_option maxRecDepth 100000 in
theorem mayx_any (a : List XattrD) (va : Value) (g w : World) (sees : Sees g w) (h_a : Is g va a) : Ret Try.prog 71 #[va] w fun v w' => v = .bool (mayX a) ∧ Le w w' := by
  have ln_h_a := h_a.len_le
  have H := SL.start sees
  refine enter (args := [va]) Try.func71 rfl rfl rfl ?_
  refine C_seq ?_
  refine C_region ?_
  refine Rv (.bool false) w ?_
  refine wpR_nil ?_
  refine E_then_normal ?_
  refine C_seq ?_
  refine C_region ?_
  refine Rv (.string (⟨#[]⟩ : ByteArray)) w ?_
  refine wpR_nil ?_
  refine E_then_normal ?_
  refine C_seq ?_
  refine C_seq ?_
  refine C_region ?_
  refine Rv va w ?_
  refine Rw (.int .i64 (a.length : Int)) w (X_len (h_a.mono H.m) rfl Try.underlying26 rfl) ?_
  refine Rv (.int .i64 0) w ?_
  refine wpR_nil ?_
  refine E_then_normal ?_
  refine C_block ?_
  refine C_loop (ι := Int × ByteArray) (fun (i : Int × ByteArray) => match i with | (k, last) => [(8, (.int .i64 k)), (3, (.string last)), (7, (.int .i64 (a.length : Int))), (6, va), (0, va)]) (fun (i : Int × ByteArray) w' => match i with | (k, last) => 0 ≤ k ∧ k ≤ a.length ∧ mayGo (a.drop k.toNat) last = mayGo a ⟨#[]⟩ ∧ SL ⟨w, g⟩ g w' []) (fun (i : Int × ByteArray) => match i with | (k, last) => ((a.length : Int) - k).toNat) (0, ⟨#[]⟩) ⟨rfl, rfl, rfl, rfl, rfl, trivial⟩ ⟨by omega, by omega, rfl, H⟩ ?_
  clear H
  rintro ⟨k, last⟩ w1 ⟨hk0, hks, hc, H⟩
  refine Cs [(8, (.int .i64 k)), (3, (.string last)), (7, (.int .i64 (a.length : Int))), (6, va), (0, va)] ?_
  refine C_seq ?_
  refine C_region ?_
  refine Rv (.bool (decide (k < (a.length : Int)))) w1 ?_
  refine wpR_nil ?_
  refine E_then_normal ?_
  refine C_seq ?_
  refine C_cond rfl (fun c1 => ?_) (fun c1 => ?_)
  · have d1 : k < (a.length : Int) := of_decide_eq_true c1
    refine C_skip ?_
    refine E_then_normal ?_
    refine C_seq ?_
    refine C_block ?_
    refine C_seq ?_
    refine C_region ?_
    refine Rw (elemP 2 va k) w1 (X_indexAddr (h_a.mono H.m) (by omega) (by omega) rfl Try.underlying26 (by kernel_rfl) rfl rfl) ?_
    obtain ⟨vx1, hc1, hx1, hn1⟩ := xattr_at (i := k) h_a (by omega) (by omega)
    have ln_hx1 := hx1.len_le
    unfold maxLen at hn1
    refine Rw (.agg #[(.string ((nth a k).v.1)), vx1]) w1 (X_load rfl rfl (run_elem_row hc1 H.m Try.underlying47 rfl (by kernel_rfl))) ?_
    refine S_alloc #[(.string (⟨#[]⟩)), (.slice none 0 0)] (by kernel_rfl) rfl rfl rfl rfl fun b1 w2 n1 => ?_
    replace H := H.new n1
    refine S_store (H.blk 0) rfl rfl rfl rfl rfl (by kernel_rfl) (one_all (l := [(.string ((nth a k).v.1)), vx1]) ⟨rfl, one_is hx1, trivial⟩) (Nat.le_of_ble_eq_true rfl) #[(.string ((nth a k).v.1)), vx1] rfl fun w3 u1 => ?_
    replace H := H.upd 0 u1
    refine wpR_nil ?_
    refine E_then_normal ?_
    refine C_seq ?_
    refine C_seq ?_
    refine Cs [(5, (ptr b1 0)), (9, (.bool (decide (k < (a.length : Int))))), (8, (.int .i64 k)), (3, (.string last)), (7, (.int .i64 (a.length : Int))), (6, va), (0, va)] ?_
    refine C_region ?_
    refine Rv (ptr b1 0) w3 ?_
    refine S_load (run_load_one (H.blk 0) Try.underlying9 rfl rfl) rfl rfl rfl rfl rfl ?_
    refine Rv (.string last) w3 ?_
    refine Rv (.bool (Op.bytesLess ((nth a k).v.1).toList last.toList || ((nth a k).v.1).toList == last.toList)) w3 ?_
    rcases Bool.eq_false_or_eq_true (Op.bytesLess ((nth a k).v.1).toList last.toList || ((nth a k).v.1).toList == last.toList) with c2 | c2
    · refine Rw (.bool true) w3 (eq_bool (by kernel_rfl) c2) ?_
      iterate 4 refine Rs ?_
      refine Rv (.bool true) w3 ?_
      refine Rv (.bool true) w3 ?_
      iterate 4 refine Rs ?_
      refine Rv (.bool true) w3 ?_
      refine Rv (.bool true) w3 ?_
      iterate 4 refine Rs ?_
      refine Rv (.bool true) w3 ?_
      refine wpR_nil ?_
      refine E_then_normal ?_
      refine C_true rfl ?_
      refine C_seq ?_
      refine Cs [(33, (.bool true)), (5, (ptr b1 0)), (9, (.bool (decide (k < (a.length : Int))))), (8, (.int .i64 k)), (3, (.string last)), (7, (.int .i64 (a.length : Int))), (6, va), (0, va)] ?_
      refine C_region ?_
      refine Rv (.bool false) w3 ?_
      refine wpR_nil ?_
      refine E_then_normal ?_
      refine C_ret ?_
      refine E_then_ret ?_
      refine E_block_ret ?_
      refine E_then_ret ?_
      refine E_then_ret ?_
      refine E_block_ret ?_
      refine E_then_ret ?_
      refine E_ret (res_one rfl rfl) ⟨_, rfl, ?_⟩
      exact ⟨congrArg Value.bool (by unfold mayX; rw [mg_bad (k := k) (by omega) (by omega) (by unfold badM leB; simp_all) hc]; rfl), H.toLe⟩
    · refine Rw (.bool false) w3 (eq_bool (by kernel_rfl) c2) ?_
      refine Rv (ptr b1 0) w3 ?_
      refine S_load (run_load_one (H.blk 0) Try.underlying9 rfl rfl) rfl rfl rfl rfl rfl ?_
      refine Rw (.int .i64 (((nth a k).v.1).size : Int)) w3 (X_len_str rfl Try.underlying9 rfl) ?_
      refine Rv (.bool (decide ((((nth a k).v.1).size : Int) > 40))) w3 ?_
      refine Rv (.bool (decide ((((nth a k).v.1).size : Int) > 40))) w3 ?_
      rcases Bool.eq_false_or_eq_true (decide ((((nth a k).v.1).size : Int) > 40)) with c3 | c3
      · have d3 : (((nth a k).v.1).size : Int) > 40 := of_decide_eq_true c3
        refine Rw (.bool true) w3 (eq_bool (by kernel_rfl) c3) ?_
        iterate 4 refine Rs ?_
        refine Rv (.bool true) w3 ?_
        refine Rv (.bool true) w3 ?_
        iterate 4 refine Rs ?_
        refine Rv (.bool true) w3 ?_
        refine wpR_nil ?_
        refine E_then_normal ?_
        refine C_true rfl ?_
        refine C_seq ?_
        refine Cs [(33, (.bool true)), (5, (ptr b1 0)), (9, (.bool (decide (k < (a.length : Int))))), (8, (.int .i64 k)), (3, (.string last)), (7, (.int .i64 (a.length : Int))), (6, va), (0, va)] ?_
        refine C_region ?_
        refine Rv (.bool false) w3 ?_
        refine wpR_nil ?_
        refine E_then_normal ?_
        refine C_ret ?_
        refine E_then_ret ?_
        refine E_block_ret ?_
        refine E_then_ret ?_
        refine E_then_ret ?_
        refine E_block_ret ?_
        refine E_then_ret ?_
        refine E_ret (res_one rfl rfl) ⟨_, rfl, ?_⟩
        exact ⟨congrArg Value.bool (by unfold mayX; rw [mg_bad (k := k) (by omega) (by omega) (by unfold badM leB; simp_all) hc]; rfl), H.toLe⟩
      · have d3 : ¬ (((nth a k).v.1).size : Int) > 40 := of_decide_eq_false c3
        refine Rw (.bool false) w3 (eq_bool (by kernel_rfl) c3) ?_
        refine Rv (ptr b1 0) w3 ?_
        refine S_load (run_load_one (H.blk 0) Try.underlying9 rfl rfl) rfl rfl rfl rfl rfl ?_
        refine Rc #[(.string ((nth a k).v.1)), (.int .u8 0)] w3 (indexNul_any ((nth a k).v.1) _) ?_
        rintro _ w4 ⟨rfl, l1⟩
        replace H := H.le l1
        refine Rv (.bool (decide ((nulAt ((nth a k).v.1)) ≥ 0))) w4 ?_
        refine Rv (.bool (decide ((nulAt ((nth a k).v.1)) ≥ 0))) w4 ?_
        rcases Bool.eq_false_or_eq_true (decide ((nulAt ((nth a k).v.1)) ≥ 0)) with c4 | c4
        · have d4 : (nulAt ((nth a k).v.1)) ≥ 0 := of_decide_eq_true c4
          refine Rw (.bool true) w4 (eq_bool (by kernel_rfl) c4) ?_
          iterate 4 refine Rs ?_
          refine Rv (.bool true) w4 ?_
          refine wpR_nil ?_
          refine E_then_normal ?_
          refine C_true rfl ?_
          refine C_seq ?_
          refine Cs [(33, (.bool true)), (5, (ptr b1 0)), (9, (.bool (decide (k < (a.length : Int))))), (8, (.int .i64 k)), (3, (.string last)), (7, (.int .i64 (a.length : Int))), (6, va), (0, va)] ?_
          refine C_region ?_
          refine Rv (.bool false) w4 ?_
          refine wpR_nil ?_
          refine E_then_normal ?_
          refine C_ret ?_
          refine E_then_ret ?_
          refine E_block_ret ?_
          refine E_then_ret ?_
          refine E_then_ret ?_
          refine E_block_ret ?_
          refine E_then_ret ?_
          refine E_ret (res_one rfl rfl) ⟨_, rfl, ?_⟩
          exact ⟨congrArg Value.bool (by unfold mayX; rw [mg_bad (k := k) (by omega) (by omega) (by unfold badM leB; simp_all) hc]; rfl), H.toLe⟩
        · have d4 : ¬ (nulAt ((nth a k).v.1)) ≥ 0 := of_decide_eq_false c4
          refine Rw (.bool false) w4 (eq_bool (by kernel_rfl) c4) ?_
          refine Rv (ptr b1 1) w4 ?_
          refine S_load (run_load_one (H.blk 0) Try.underlying25 rfl rfl) rfl rfl rfl rfl rfl ?_
          refine Rw (.int .i64 (((nth a k).v.2.1).length : Int)) w4 (X_len (hx1.mono H.m) rfl Try.underlying25 rfl) ?_
          refine Rv (.bool (decide ((((nth a k).v.2.1).length : Int) > 200))) w4 ?_
          refine Rv (.bool (decide ((((nth a k).v.2.1).length : Int) > 200))) w4 ?_
          refine wpR_nil ?_
          refine E_then_normal ?_
          refine C_cond rfl (fun c5 => ?_) (fun c5 => ?_)
          · have d5 : (((nth a k).v.2.1).length : Int) > 200 := of_decide_eq_true c5
            refine C_seq ?_
            refine Cs [(33, (.bool (decide ((((nth a k).v.2.1).length : Int) > 200)))), (5, (ptr b1 0)), (9, (.bool (decide (k < (a.length : Int))))), (8, (.int .i64 k)), (3, (.string last)), (7, (.int .i64 (a.length : Int))), (6, va), (0, va)] ?_
            refine C_region ?_
            refine Rv (.bool false) w4 ?_
            refine wpR_nil ?_
            refine E_then_normal ?_
            refine C_ret ?_
            refine E_then_ret ?_
            refine E_block_ret ?_
            refine E_then_ret ?_
            refine E_then_ret ?_
            refine E_block_ret ?_
            refine E_then_ret ?_
            refine E_ret (res_one rfl rfl) ⟨_, rfl, ?_⟩
            exact ⟨congrArg Value.bool (by unfold mayX; rw [mg_bad (k := k) (by omega) (by omega) (by unfold badM leB; simp_all) hc]; rfl), H.toLe⟩
          · have d5 : ¬ (((nth a k).v.2.1).length : Int) > 200 := of_decide_eq_false c5
            refine C_skip ?_
            refine E_then_normal ?_
            refine Cs [(33, (.bool (decide ((((nth a k).v.2.1).length : Int) > 200)))), (5, (ptr b1 0)), (9, (.bool (decide (k < (a.length : Int))))), (8, (.int .i64 k)), (3, (.string last)), (7, (.int .i64 (a.length : Int))), (6, va), (0, va)] ?_
            refine C_region ?_
            refine Rv (ptr b1 0) w4 ?_
            refine S_load (run_load_one (H.blk 0) Try.underlying9 rfl rfl) rfl rfl rfl rfl rfl ?_
            refine Rv (.string ((nth a k).v.1)) w4 ?_
            refine wpR_nil ?_
            refine E_block_normal ?_
            refine E_then_normal ?_
            refine Cs [(3, (.string ((nth a k).v.1))), (33, (.bool (decide ((((nth a k).v.2.1).length : Int) > 200)))), (5, (ptr b1 0)), (9, (.bool (decide (k < (a.length : Int))))), (8, (.int .i64 k)), (7, (.int .i64 (a.length : Int))), (6, va), (0, va)] ?_
            refine C_region ?_
            refine Rw (.int .i64 (k + 1)) w4 (eq_int (by kernel_rfl) (wrap64_in (by omega) (by omega))) ?_
            refine Rv (.int .i64 (k + 1)) w4 ?_
            refine wpR_nil ?_
            refine E_then_mid fun aq1 ha1 => ⟨(k + 1, (nth a k).v.1), ha1.sub ⟨rfl, rfl, rfl, rfl, rfl, trivial⟩, ⟨by omega, by omega, mg_next (by omega) (by omega) (by unfold badM leB; simp_all) hc, (H.dropN 1)⟩, ?_⟩
            (first | omega | (dsimp only; omega))
  · have d1 : ¬ k < (a.length : Int) := of_decide_eq_false c1
    refine C_exit ?_
    refine E_then_exit ?_
    refine E_then_exit ?_
    refine E_block_here ?_
    refine E_then_normal ?_
    refine C_seq ?_
    refine C_region ?_
    refine Rv va w1 ?_
    refine Rw (.int .i64 (a.length : Int)) w1 (X_len (h_a.mono H.m) rfl Try.underlying26 rfl) ?_
    refine Rv (.bool (decide ((a.length : Int) ≤ 8))) w1 ?_
    refine Rv (.bool (decide ((a.length : Int) ≤ 8))) w1 ?_
    refine wpR_nil ?_
    refine E_then_normal ?_
    refine C_ret ?_
    refine E_ret (res_one rfl rfl) ⟨_, rfl, ?_⟩
    exact ⟨congrArg Value.bool (by unfold mayX; rw [mg_fin (by omega) hc]; rfl), H.toLe⟩

set_option linter.unusedVariables false in
set_option linter.unusedSimpArgs false in
set_option maxHeartbeats 4000000 in
set_option maxRecDepth 100000 in
theorem bclone_any (a : List UInt8) (va : Value) (g w : World) (sees : Sees g w) (h_a : Is g va a) (hb : a.length ≤ 1000000000000) : Ret Try.prog 33 #[va] w fun v w' => Is (graft g w w') v a ∧ Le w w' := by
  have ln_h_a := h_a.len_le
  have H := SL.start sees
  refine enter (args := [va]) Try.func33 rfl rfl rfl ?_
  refine C_seq ?_
  refine C_region ?_
  refine Rv (.slice none 0 0) w ?_
  refine wpR_nil ?_
  refine E_then_normal ?_
  refine C_seq ?_
  refine C_seq ?_
  refine C_region ?_
  refine Rv va w ?_
  refine Rw (.bool (isNilV va)) w (X_nil_sl (h_a.mono H.m) rfl rfl rfl Try.underlying25) ?_
  refine wpR_nil ?_
  refine E_then_normal ?_
  refine C_cond rfl (fun c1 => ?_) (fun c1 => ?_)
  · refine C_seq ?_
    refine Cs [(4, (.bool (isNilV va))), (2, (.slice none 0 0)), (0, va)] ?_
    refine C_region ?_
    refine Rv (.slice none 0 0) w ?_
    refine wpR_nil ?_
    refine E_then_normal ?_
    refine C_ret ?_
    refine E_then_ret ?_
    refine E_ret (res_one rfl rfl) ⟨_, rfl, ?_⟩
    have he := is_none_nil h_a c1
    subst he
    exact ⟨is_nil _, H.toLe⟩
  · refine C_skip ?_
    refine E_then_normal ?_
    refine C_seq ?_
    refine Cs [(4, (.bool (isNilV va))), (2, (.slice none 0 0)), (0, va)] ?_
    refine C_region ?_
    refine S_new (fun b => .slice (some ⟨b, 0, none⟩) 0 0) (.cells #[] 5) (by kernel_rfl) (by kernel_rfl) rfl rfl rfl fun b1 w1 n1 => ?_
    replace H := H.new n1
    replace H := H.slEmpty UInt8
    refine Rv va w1 ?_
    refine S_app (bytes := 1) H (Is.rd h_a H.m) Try.underlying25 (by kernel_rfl) (by kernel_rfl) (by decide) (by (first | omega | (simp only [List.length_append, List.length_cons, List.length_nil]; omega))) (by (first | omega | (simp only [List.length_append, List.length_cons, List.length_nil]; omega))) rfl rfl rfl rfl rfl rfl fun v1 w2 Hn hnil1 => ?_
    replace H := Hn
    clear Hn
    refine Rv v1 w2 ?_
    refine wpR_nil ?_
    refine E_then_normal ?_
    refine C_ret ?_
    refine E_ret (res_one rfl rfl) ⟨_, rfl, ?_⟩
    obtain ⟨g9, m9, H, hx9⟩ := H.slHold 0
    exact ⟨hx9.mono (H.fin sees), H.toLe⟩

set_option linter.unusedVariables false in
set_option linter.unusedSimpArgs false in
set_option maxHeartbeats 4000000 in
set_option maxRecDepth 100000 in
theorem xclone_any (a : List XattrD) (va : Value) (g w : World) (sees : Sees g w) (h_a : Is g va a) (hb : a.length ≤ 1000000000000) : Ret Try.prog 72 #[va] w fun v w' => Is (graft g w w') v a ∧ Le w w' := by
  have ln_h_a := h_a.len_le
  have H := SL.start sees
  refine enter (args := [va]) Try.func72 rfl rfl rfl ?_
  refine C_seq ?_
  refine C_region ?_
  refine Rv (.slice none 0 0) w ?_
  refine wpR_nil ?_
  refine E_then_normal ?_
  refine C_seq ?_
  refine C_seq ?_
  refine C_region ?_
  refine Rv va w ?_
  refine Rw (.bool (isNilV va)) w (X_nil_sl (h_a.mono H.m) rfl rfl rfl Try.underlying26) ?_
  refine wpR_nil ?_
  refine E_then_normal ?_
  refine C_cond rfl (fun c1 => ?_) (fun c1 => ?_)
  · refine C_seq ?_
    refine Cs [(4, (.bool (isNilV va))), (2, (.slice none 0 0)), (0, va)] ?_
    refine C_region ?_
    refine Rv (.slice none 0 0) w ?_
    refine wpR_nil ?_
    refine E_then_normal ?_
    refine C_ret ?_
    refine E_then_ret ?_
    refine E_ret (res_one rfl rfl) ⟨_, rfl, ?_⟩
    have he := is_none_nil h_a c1
    subst he
    exact ⟨is_nil _, H.toLe⟩
  · refine C_skip ?_
    refine E_then_normal ?_
    refine C_seq ?_
    refine Cs [(4, (.bool (isNilV va))), (2, (.slice none 0 0)), (0, va)] ?_
    refine C_region ?_
    refine S_new (fun b => .slice (some ⟨b, 0, none⟩) 0 0) (.cells #[] 47) (by kernel_rfl) (by kernel_rfl) rfl rfl rfl fun b1 w1 n1 => ?_
    replace H := H.new n1
    replace H := H.slEmpty XattrD
    refine Rv va w1 ?_
    refine S_app (bytes := 40) H (Is.rd h_a H.m) Try.underlying26 (by kernel_rfl) (by kernel_rfl) (by decide) (by (first | omega | (simp only [List.length_append, List.length_cons, List.length_nil]; omega))) (by (first | omega | (simp only [List.length_append, List.length_cons, List.length_nil]; omega))) rfl rfl rfl rfl rfl rfl fun v1 w2 Hn hnil1 => ?_
    replace H := Hn
    clear Hn
    refine Rv v1 w2 ?_
    refine wpR_nil ?_
    refine E_then_normal ?_
    refine C_ret ?_
    refine E_ret (res_one rfl rfl) ⟨_, rfl, ?_⟩
    obtain ⟨g9, m9, H, hx9⟩ := H.slHold 0
    exact ⟨hx9.mono (H.fin sees), H.toLe⟩

set_option linter.unusedVariables false in
set_option linter.unusedSimpArgs false in
set_option maxHeartbeats 4000000 in
set_option maxRecDepth 100000 in
theorem xown_any (a : List XattrD) (va : Value) (W : Base) (g w : World) (F : List Atom) (H : SL W g w (F)) (h_a : Is g va a) (hb : a.length ≤ 1000000000000) : Ret Try.prog 72 #[va] w fun v w' => SL W g w' (slA 47 v a :: F) := by
  have ln_h_a := h_a.len_le
  refine enter (args := [va]) Try.func72 rfl rfl rfl ?_
  refine C_seq ?_
  refine C_region ?_
  refine Rv (.slice none 0 0) w ?_
  refine wpR_nil ?_
  refine E_then_normal ?_
  refine C_seq ?_
  refine C_seq ?_
  refine C_region ?_
  refine Rv va w ?_
  refine Rw (.bool (isNilV va)) w (X_nil_sl (h_a.mono H.m) rfl rfl rfl Try.underlying26) ?_
  refine wpR_nil ?_
  refine E_then_normal ?_
  refine C_cond rfl (fun c1 => ?_) (fun c1 => ?_)
  · refine C_seq ?_
    refine Cs [(4, (.bool (isNilV va))), (2, (.slice none 0 0)), (0, va)] ?_
    refine C_region ?_
    refine Rv (.slice none 0 0) w ?_
    refine wpR_nil ?_
    refine E_then_normal ?_
    refine C_ret ?_
    refine E_then_ret ?_
    refine E_ret (res_one rfl rfl) ⟨_, rfl, ?_⟩
    have he := is_none_nil h_a c1
    subst he
    exact H.slNil XattrD 47
  · refine C_skip ?_
    refine E_then_normal ?_
    refine C_seq ?_
    refine Cs [(4, (.bool (isNilV va))), (2, (.slice none 0 0)), (0, va)] ?_
    refine C_region ?_
    refine S_new (fun b => .slice (some ⟨b, 0, none⟩) 0 0) (.cells #[] 47) (by kernel_rfl) (by kernel_rfl) rfl rfl rfl fun b1 w1 n1 => ?_
    replace H := H.new n1
    replace H := H.slEmpty XattrD
    refine Rv va w1 ?_
    refine S_app (bytes := 40) H (Is.rd h_a H.m) Try.underlying26 (by kernel_rfl) (by kernel_rfl) (by decide) (by (first | omega | (simp only [List.length_append, List.length_cons, List.length_nil]; omega))) (by (first | omega | (simp only [List.length_append, List.length_cons, List.length_nil]; omega))) rfl rfl rfl rfl rfl rfl fun v1 w2 Hn hnil1 => ?_
    replace H := Hn
    clear Hn
    refine Rv v1 w2 ?_
    refine wpR_nil ?_
    refine E_then_normal ?_
    refine C_ret ?_
    refine E_ret (res_one rfl rfl) ⟨_, rfl, ?_⟩
    exact H

set_option linter.unusedVariables false in
set_option linter.unusedSimpArgs false in
set_option maxHeartbeats 4000000 in
set_option maxRecDepth 100000 in
theorem attributes_any (a : List XattrD) (va : Value) (g w : World) (sees : Sees g w) (h_a : Is g va a) (hb : a.length ≤ 1000000000000) (hbb : ∀ x ∈ a, x.v.2.1.length ≤ 1000000000000) : Ret Try.prog 34 #[va] w fun v w' => Is (graft g w w') v a ∧ Le w w' := by
  have ln_h_a := h_a.len_le
  have H := SL.start sees
  refine enter (args := [va]) Try.func34 rfl rfl rfl ?_
  refine C_seq ?_
  refine C_region ?_
  refine Rv (.slice none 0 0) w ?_
  refine wpR_nil ?_
  refine E_then_normal ?_
  refine C_seq ?_
  refine C_region ?_
  refine Rv va w ?_
  refine Rc #[va] w (xown_any a va _ _ _ _ H h_a (by first | omega | exact hbb _ (nth_mem (by omega) (by omega)))) ?_
  rintro v1 w1 Hn
  replace H := Hn
  clear Hn
  refine Rv v1 w1 ?_
  refine wpR_nil ?_
  refine E_then_normal ?_
  refine C_seq ?_
  refine C_seq ?_
  refine Cs [(3, v1), (2, (.slice none 0 0)), (0, va)] ?_
  refine C_region ?_
  refine Rv v1 w1 ?_
  refine Rw (.int .i64 (a.length : Int)) w1 (X_len (H.slIs (α := XattrD) (e := 47) (v := v1) (xs := a) 0) rfl Try.underlying26 rfl) ?_
  refine Rv (.int .i64 0) w1 ?_
  refine wpR_nil ?_
  refine E_then_normal ?_
  refine C_block ?_
  refine Cs [(9, (.int .i64 0)), (8, (.int .i64 (a.length : Int))), (3, v1), (2, (.slice none 0 0)), (0, va)] ?_
  refine C_loop (ι := Int) (fun k : Int => [(9, (.int .i64 k)), (8, (.int .i64 (a.length : Int))), (3, v1), (2, (.slice none 0 0)), (0, va)]) (fun (k : Int) w' => ∃ gl : World, 0 ≤ k ∧ k ≤ a.length ∧ Mono g gl ∧ SL ⟨w, g⟩ gl w' [slA 47 v1 (a : List XattrD)]) (fun k : Int => ((a.length : Int) - k).toNat) 0 ⟨rfl, rfl, rfl, rfl, rfl, trivial⟩ ⟨g, by omega, by omega, Mono.refl _, H⟩ ?_
  clear H
  rintro k w2 ⟨gl, hk0, hks, m1, H⟩
  refine Cs [(9, (.int .i64 k)), (8, (.int .i64 (a.length : Int))), (3, v1), (2, (.slice none 0 0)), (0, va)] ?_
  refine C_seq ?_
  refine C_region ?_
  refine Rv (.bool (decide (k < (a.length : Int)))) w2 ?_
  refine wpR_nil ?_
  refine E_then_normal ?_
  refine C_seq ?_
  refine C_cond rfl (fun c1 => ?_) (fun c1 => ?_)
  · have d1 : k < (a.length : Int) := of_decide_eq_true c1
    refine C_skip ?_
    refine E_then_normal ?_
    refine C_seq ?_
    refine C_block ?_
    refine C_seq ?_
    refine C_region ?_
    refine Rv (.int .i64 k) w2 ?_
    refine Rv (.int .i64 k) w2 ?_
    refine wpR_nil ?_
    refine E_then_normal ?_
    refine Cs [(4, (.int .i64 k)), (10, (.bool (decide (k < (a.length : Int))))), (9, (.int .i64 k)), (8, (.int .i64 (a.length : Int))), (3, v1), (2, (.slice none 0 0)), (0, va)] ?_
    refine C_region ?_
    refine Rv v1 w2 ?_
    refine Rv (.int .i64 k) w2 ?_
    refine Rv v1 w2 ?_
    refine Rv (.int .i64 k) w2 ?_
    refine Rw (elemP 2 v1 k) w2 (X_indexAddr (H.slIs (α := XattrD) (e := 47) (v := v1) (xs := a) 0) (by first | omega | exact hbb _ (nth_mem (by omega) (by omega))) (by first | omega | exact hbb _ (nth_mem (by omega) (by omega))) rfl Try.underlying26 (by kernel_rfl) rfl rfl) ?_
    obtain ⟨vx1, hc1, hx1, hn1⟩ := own_xattr (i := k) H (by first | omega | exact hbb _ (nth_mem (by omega) (by omega))) (by first | omega | exact hbb _ (nth_mem (by omega) (by omega)))
    have ln_hx1 := hx1.len_le
    unfold maxLen at hn1
    refine Rw (addP (elemP 2 v1 k) 1) w2 (X_fieldAddr_elem hc1 (Mono.refl _) rfl rfl Try.underlying47 rfl rfl (by kernel_rfl)) ?_
    refine Rw vx1 w2 (X_load rfl rfl (run_elem_field (off := 1) hc1 (Mono.refl _) Try.underlying25 rfl rfl)) ?_
    refine Rc #[vx1] w2 (bclone_any ((nth a k).v.2.1) vx1 _ _ H.sees hx1 (by first | omega | exact hbb _ (nth_mem (by omega) (by omega)))) ?_
    rintro v2 w3 ⟨hx2, l1⟩
    obtain ⟨g1, hg1, m2, H⟩ := H.data l1
    rw [hg1] at hx2
    have ln_hx2 := hx2.len_le
    refine Rw (elemP 2 v1 k) w3 (X_indexAddr (H.slIs (α := XattrD) (e := 47) (v := v1) (xs := a) 0) (by first | omega | exact hbb _ (nth_mem (by omega) (by omega))) (by first | omega | exact hbb _ (nth_mem (by omega) (by omega))) rfl Try.underlying26 (by kernel_rfl) rfl rfl) ?_
    obtain ⟨vx2, hc2, hx3, hn2⟩ := own_xattr (i := k) H (by first | omega | exact hbb _ (nth_mem (by omega) (by omega))) (by first | omega | exact hbb _ (nth_mem (by omega) (by omega)))
    have ln_hx3 := hx3.len_le
    unfold maxLen at hn2
    refine Rw (addP (elemP 2 v1 k) 1) w3 (X_fieldAddr_elem hc2 (Mono.refl _) rfl rfl Try.underlying47 rfl rfl (by kernel_rfl)) ?_
    refine S_setElem (off := 1) (nth a k) H (by first | omega | exact hbb _ (nth_mem (by omega) (by omega))) (by first | omega | exact hbb _ (nth_mem (by omega) (by omega))) (by decide) (one_is hx2) (cells_is hx2) (by kernel_rfl) (fun cs hr => (by rw [← nth_eq (by omega)] at hr; exact xattr_set1 hr hx2)) rfl rfl rfl rfl rfl fun w4 Hn => ?_
    replace H := Hn
    clear Hn
    rw [set_nth_self (by omega) (by omega)] at H
    refine wpR_nil ?_
    refine E_block_normal ?_
    refine E_then_normal ?_
    refine Cs [(4, (.int .i64 k)), (10, (.bool (decide (k < (a.length : Int))))), (9, (.int .i64 k)), (8, (.int .i64 (a.length : Int))), (3, v1), (2, (.slice none 0 0)), (0, va)] ?_
    refine C_region ?_
    refine Rw (.int .i64 (k + 1)) w4 (eq_int (by kernel_rfl) (wrap64_in (by first | omega | exact hbb _ (nth_mem (by omega) (by omega))) (by first | omega | exact hbb _ (nth_mem (by omega) (by omega))))) ?_
    refine Rv (.int .i64 (k + 1)) w4 ?_
    refine wpR_nil ?_
    refine E_then_mid fun aq1 ha1 => ⟨k + 1, ha1.sub ⟨rfl, rfl, rfl, rfl, rfl, trivial⟩, ⟨g1, by omega, by omega, (m1.trans m2), H⟩, ?_⟩
    (first | omega | (dsimp only; omega))
  · have d1 : ¬ k < (a.length : Int) := of_decide_eq_false c1
    refine C_exit ?_
    refine E_then_exit ?_
    refine E_then_exit ?_
    refine E_block_here ?_
    refine E_then_normal ?_
    refine C_seq ?_
    refine C_region ?_
    refine Rv v1 w2 ?_
    refine Rv v1 w2 ?_
    refine wpR_nil ?_
    refine E_then_normal ?_
    refine C_ret ?_
    refine E_ret (res_one rfl rfl) ⟨_, rfl, ?_⟩
    obtain ⟨g9, m9, H, hx9⟩ := H.slHold 0
    exact ⟨hx9.mono (H.fin sees), H.toLe⟩

set_option linter.unusedVariables false in
set_option linter.unusedSimpArgs false in
set_option maxHeartbeats 4000000 in
set_option maxRecDepth 100000 in
theorem good_any (vn : Value) (ino kind m u g' : Int) (vd : Value) (data : List UInt8) (target : ByteArray) (vx : Value) (xs : List XattrD) (opq : Bool) (g w : World) (sees : Sees g w)  (hd : Is g vd data) (hx : Is g vx xs) (ht : target.size ≤ 9223372036854775807) : Ret Try.prog 32 #[(.agg #[vn, (.int .i64 ino), (.int .i64 kind), (.int .i64 m), (.int .i64 u), (.int .i64 g'), vd, (.string target), vx, (.bool opq)])] w fun v w' => v = .bool (goodN kind m u g' data target xs) ∧ Le w w' := by
  have H := SL.start sees
  have ln_hd := hd.len_le
  have ln_hx := hx.len_le
  refine enter (args := [(.agg #[vn, (.int .i64 ino), (.int .i64 kind), (.int .i64 m), (.int .i64 u), (.int .i64 g'), vd, (.string target), vx, (.bool opq)])]) Try.func32 rfl rfl rfl ?_
  refine C_seq ?_
  refine C_region ?_
  refine S_box rfl rfl rfl rfl rfl _ rfl fun b1 w1 n1 => ?_
  replace H := H.new n1
  refine Rv (.bool false) w1 ?_
  refine wpR_nil ?_
  refine E_then_normal ?_
  refine C_seq ?_
  refine C_drawT 8 [fun _ v => v = (ptr b1 6), fun _ v => v = vd, fun _ v => v = (.int .i64 (data.length : Int)), fun _ v => v = (.bool ((data.length : Int) == 0)), fun _ v => v = (ptr b1 7), fun _ v => v = (.string target), fun _ v => v = (.bool (target.toList == (⟨#[]⟩ : ByteArray).toList)), fun _ v => v = (.bool ((data.length : Int) == 0))] (by kernel_rfl) (by kernel_rfl) (by kernel_rfl) (by kernel_rfl) ⟨stab_exact _, stab_exact _, stab_exact _, stab_exact _, stab_exact _, stab_exact _, stab_exact _, stab_exact _, trivial⟩ ⟨?_, ?_, ?_, ?_, ?_, ?_, ?_, ?_, trivial⟩ ?_
  · intro aq wd ld hfd hdd
    have hfd := Fr.cast (s' := [(2, (.bool false)), (1, (ptr b1 0)), (0, (.agg #[vn, (.int .i64 ino), (.int .i64 kind), (.int .i64 m), (.int .i64 u), (.int .i64 g'), vd, (.string target), vx, (.bool opq)]))]) hfd (by kernel_rfl)
    exact G_val (v := (ptr b1 6)) (w' := wd) hfd rfl (by kernel_rfl) (by kernel_rfl) (Le.refl _) rfl
  · intro aq wd ld hfd hdd
    have hfd := Fr.cast (s' := [(2, (.bool false)), (1, (ptr b1 0)), (0, (.agg #[vn, (.int .i64 ino), (.int .i64 kind), (.int .i64 m), (.int .i64 u), (.int .i64 g'), vd, (.string target), vx, (.bool opq)]))]) hfd (by kernel_rfl)
    obtain ⟨e0, _⟩ := hdd
    have hfd := Fr.add (t := 5) (v := (ptr b1 6)) hfd e0
    exact G_val hfd rfl (by kernel_rfl) (load_ev (run_load_one ((H.le ld).blk 0) Try.underlying25 rfl rfl) rfl rfl) (Le.refl _) rfl
  · intro aq wd ld hfd hdd
    have hfd := Fr.cast (s' := [(2, (.bool false)), (1, (ptr b1 0)), (0, (.agg #[vn, (.int .i64 ino), (.int .i64 kind), (.int .i64 m), (.int .i64 u), (.int .i64 g'), vd, (.string target), vx, (.bool opq)]))]) hfd (by kernel_rfl)
    obtain ⟨e1, _⟩ := hdd
    have hfd := Fr.add (t := 6) (v := vd) hfd e1
    exact G_val (v := (.int .i64 (data.length : Int))) (w' := wd) hfd rfl (by kernel_rfl) (X_len (hd.mono (H.le ld).m) rfl Try.underlying25 rfl) (Le.refl _) rfl
  · intro aq wd ld hfd hdd
    have hfd := Fr.cast (s' := [(2, (.bool false)), (1, (ptr b1 0)), (0, (.agg #[vn, (.int .i64 ino), (.int .i64 kind), (.int .i64 m), (.int .i64 u), (.int .i64 g'), vd, (.string target), vx, (.bool opq)]))]) hfd (by kernel_rfl)
    obtain ⟨e2, _⟩ := hdd
    have hfd := Fr.add (t := 7) (v := (.int .i64 (data.length : Int))) hfd e2
    exact G_val (v := (.bool ((data.length : Int) == 0))) (w' := wd) hfd rfl (by kernel_rfl) (by kernel_rfl) (Le.refl _) rfl
  · intro aq wd ld hfd hdd
    have hfd := Fr.cast (s' := [(2, (.bool false)), (1, (ptr b1 0)), (0, (.agg #[vn, (.int .i64 ino), (.int .i64 kind), (.int .i64 m), (.int .i64 u), (.int .i64 g'), vd, (.string target), vx, (.bool opq)]))]) hfd (by kernel_rfl)
    exact G_val (v := (ptr b1 7)) (w' := wd) hfd rfl (by kernel_rfl) (by kernel_rfl) (Le.refl _) rfl
  · intro aq wd ld hfd hdd
    have hfd := Fr.cast (s' := [(2, (.bool false)), (1, (ptr b1 0)), (0, (.agg #[vn, (.int .i64 ino), (.int .i64 kind), (.int .i64 m), (.int .i64 u), (.int .i64 g'), vd, (.string target), vx, (.bool opq)]))]) hfd (by kernel_rfl)
    obtain ⟨e4, _, _⟩ := hdd
    have hfd := Fr.add (t := 9) (v := (ptr b1 7)) hfd e4
    exact G_val hfd rfl (by kernel_rfl) (load_ev (run_load_one ((H.le ld).blk 0) Try.underlying9 rfl rfl) rfl rfl) (Le.refl _) rfl
  · intro aq wd ld hfd hdd
    have hfd := Fr.cast (s' := [(2, (.bool false)), (1, (ptr b1 0)), (0, (.agg #[vn, (.int .i64 ino), (.int .i64 kind), (.int .i64 m), (.int .i64 u), (.int .i64 g'), vd, (.string target), vx, (.bool opq)]))]) hfd (by kernel_rfl)
    obtain ⟨e5, _, _⟩ := hdd
    have hfd := Fr.add (t := 10) (v := (.string target)) hfd e5
    exact G_val (v := (.bool (target.toList == (⟨#[]⟩ : ByteArray).toList))) (w' := wd) hfd rfl (by kernel_rfl) (by kernel_rfl) (Le.refl _) rfl
  · intro aq wd ld hfd hdd
    have hfd := Fr.cast (s' := [(2, (.bool false)), (1, (ptr b1 0)), (0, (.agg #[vn, (.int .i64 ino), (.int .i64 kind), (.int .i64 m), (.int .i64 u), (.int .i64 g'), vd, (.string target), vx, (.bool opq)]))]) hfd (by kernel_rfl)
    obtain ⟨e3, _, _, _, _, _, _, _, _⟩ := hdd
    have hfd := Fr.add (t := 8) (v := (.bool ((data.length : Int) == 0))) hfd e3
    exact G_val (v := (.bool ((data.length : Int) == 0))) (w' := wd) hfd rfl (by kernel_rfl) (by kernel_rfl) (Le.refl _) rfl
  intro aq1 w2 l1 hf1 fa1
  obtain ⟨_, _, _, _, _, _, qv1, qv2, _⟩ := fa1
  have hf1 := Fr.cast (s' := [(2, (.bool false)), (1, (ptr b1 0)), (0, (.agg #[vn, (.int .i64 ino), (.int .i64 kind), (.int .i64 m), (.int .i64 u), (.int .i64 g'), vd, (.string target), vx, (.bool opq)]))]) hf1 (by kernel_rfl)
  have hf1 := Fr.add (t := 11) (v := (.bool (target.toList == (⟨#[]⟩ : ByteArray).toList))) hf1 qv1
  have hf1 := Fr.add (t := 3) (v := (.bool ((data.length : Int) == 0))) hf1 qv2
  replace H := H.le l1
  refine (?_ : wpR _ _ _ _ [(3, (.bool ((data.length : Int) == 0))), (11, (.bool (target.toList == (⟨#[]⟩ : ByteArray).toList))), (2, (.bool false)), (1, (ptr b1 0)), (0, (.agg #[vn, (.int .i64 ino), (.int .i64 kind), (.int .i64 m), (.int .i64 u), (.int .i64 g'), vd, (.string target), vx, (.bool opq)]))] _ _) aq1 (hf1.sub ⟨rfl, rfl, rfl, rfl, rfl, trivial⟩)
  refine Rv (.bool (target.toList == (⟨#[]⟩ : ByteArray).toList)) w2 ?_
  refine wpR_nil ?_
  refine E_then_normal ?_
  refine C_seq ?_
  refine C_seq ?_
  refine Cs [(4, (.bool (target.toList == (⟨#[]⟩ : ByteArray).toList))), (3, (.bool ((data.length : Int) == 0))), (2, (.bool false)), (1, (ptr b1 0)), (0, (.agg #[vn, (.int .i64 ino), (.int .i64 kind), (.int .i64 m), (.int .i64 u), (.int .i64 g'), vd, (.string target), vx, (.bool opq)]))] ?_
  refine C_region ?_
  refine Rv (ptr b1 2) w2 ?_
  refine S_load (run_load_one (H.blk 0) Try.underlying3 rfl rfl) rfl rfl rfl rfl rfl ?_
  refine wpR_nil ?_
  refine E_then_normal ?_
  refine C_block ?_
  refine C_seq ?_
  refine Cs [(13, (.int .i64 kind)), (4, (.bool (target.toList == (⟨#[]⟩ : ByteArray).toList))), (3, (.bool ((data.length : Int) == 0))), (2, (.bool false)), (1, (ptr b1 0)), (0, (.agg #[vn, (.int .i64 ino), (.int .i64 kind), (.int .i64 m), (.int .i64 u), (.int .i64 g'), vd, (.string target), vx, (.bool opq)]))] ?_
  refine C_region ?_
  refine Rv (.bool (kind == 1)) w2 ?_
  refine Rv (.bool (kind == 1)) w2 ?_
  refine wpR_nil ?_
  refine E_then_normal ?_
  refine C_cond rfl (fun c1 => ?_) (fun c1 => ?_)
  · have d1 : kind = 1 := eq_of_beq c1
    refine C_skip ?_
    refine E_block_normal ?_
    refine E_then_normal ?_
    refine C_seq ?_
    refine Cs [(14, (.bool (kind == 1))), (13, (.int .i64 kind)), (4, (.bool (target.toList == (⟨#[]⟩ : ByteArray).toList))), (3, (.bool ((data.length : Int) == 0))), (2, (.bool false)), (1, (ptr b1 0)), (0, (.agg #[vn, (.int .i64 ino), (.int .i64 kind), (.int .i64 m), (.int .i64 u), (.int .i64 g'), vd, (.string target), vx, (.bool opq)]))] ?_
    refine C_region ?_
    refine Rv (.bool ((data.length : Int) == 0)) w2 ?_
    rcases Bool.eq_false_or_eq_true ((data.length : Int) == 0) with c2 | c2
    · have d2 : (data.length : Int) = 0 := eq_of_beq c2
      refine Rw (.bool true) w2 (eq_bool (by kernel_rfl) c2) ?_
      refine Rv (.bool (target.toList == (⟨#[]⟩ : ByteArray).toList)) w2 ?_
      refine Rv (.bool (target.toList == (⟨#[]⟩ : ByteArray).toList)) w2 ?_
      rcases Bool.eq_false_or_eq_true (target.toList == (⟨#[]⟩ : ByteArray).toList) with c3 | c3
      · refine Rw (.bool true) w2 (eq_bool (by kernel_rfl) c3) ?_
        refine Rv (ptr b1 3) w2 ?_
        refine S_load (run_load_row (H.blk 0) Try.underlying24 rfl (vs := [(.int .i64 m), (.int .i64 u), (.int .i64 g')]) (by kernel_rfl) rfl) rfl rfl rfl rfl rfl ?_
        refine Rc #[(.agg #[(.int .i64 m), (.int .i64 u), (.int .i64 g')])] w2 (may_any m u g' _) ?_
        rintro _ w3 ⟨rfl, l2⟩
        replace H := H.le l2
        refine Rv (.bool (may3 m u g')) w3 ?_
        rcases Bool.eq_false_or_eq_true (may3 m u g') with c4 | c4
        · refine Rw (.bool true) w3 (eq_bool (by kernel_rfl) c4) ?_
          refine Rv (ptr b1 8) w3 ?_
          refine S_load (run_load_one (H.blk 0) Try.underlying26 rfl rfl) rfl rfl rfl rfl rfl ?_
          refine Rc #[vx] w3 (mayx_any xs vx _ _ H.sees hx) ?_
          rintro _ w4 ⟨rfl, l3⟩
          replace H := H.le l3
          refine Rv (.bool (mayX xs)) w4 ?_
          refine Rv (.bool (mayX xs)) w4 ?_
          refine wpR_nil ?_
          refine E_then_normal ?_
          refine C_ret ?_
          refine E_ret (res_one rfl rfl) ⟨_, rfl, ?_⟩
          exact ⟨congrArg Value.bool (by unfold goodN noB; first | (simp_all; done) | (simp_all; intros; simp_all; done) | (simp_all; omega)), H.toLe⟩
        · refine Rw (.bool false) w3 (eq_bool (by kernel_rfl) c4) ?_
          iterate 3 refine Rs ?_
          refine Rv (.bool false) w3 ?_
          refine Rv (.bool false) w3 ?_
          refine wpR_nil ?_
          refine E_then_normal ?_
          refine C_ret ?_
          refine E_ret (res_one rfl rfl) ⟨_, rfl, ?_⟩
          exact ⟨congrArg Value.bool (by unfold goodN noB; first | (simp_all; done) | (simp_all; intros; simp_all; done) | (simp_all; omega)), H.toLe⟩
      · refine Rw (.bool false) w2 (eq_bool (by kernel_rfl) c3) ?_
        iterate 3 refine Rs ?_
        refine Rv (.bool false) w2 ?_
        refine Rv (.bool false) w2 ?_
        iterate 3 refine Rs ?_
        refine Rv (.bool false) w2 ?_
        refine Rv (.bool false) w2 ?_
        refine wpR_nil ?_
        refine E_then_normal ?_
        refine C_ret ?_
        refine E_ret (res_one rfl rfl) ⟨_, rfl, ?_⟩
        exact ⟨congrArg Value.bool (by unfold goodN noB; first | (simp_all; done) | (simp_all; intros; simp_all; done) | (simp_all; omega)), H.toLe⟩
    · have d2 : (data.length : Int) ≠ 0 := ne_of_beq_false c2
      refine Rw (.bool false) w2 (eq_bool (by kernel_rfl) c2) ?_
      refine Rs ?_
      refine Rv (.bool false) w2 ?_
      refine Rv (.bool false) w2 ?_
      iterate 3 refine Rs ?_
      refine Rv (.bool false) w2 ?_
      refine Rv (.bool false) w2 ?_
      iterate 3 refine Rs ?_
      refine Rv (.bool false) w2 ?_
      refine Rv (.bool false) w2 ?_
      refine wpR_nil ?_
      refine E_then_normal ?_
      refine C_ret ?_
      refine E_ret (res_one rfl rfl) ⟨_, rfl, ?_⟩
      exact ⟨congrArg Value.bool (by unfold goodN noB; first | (simp_all; done) | (simp_all; intros; simp_all; done) | (simp_all; omega)), H.toLe⟩
  · have d1 : kind ≠ 1 := ne_of_beq_false c1
    refine C_seq ?_
    refine Cs [(14, (.bool (kind == 1))), (13, (.int .i64 kind)), (4, (.bool (target.toList == (⟨#[]⟩ : ByteArray).toList))), (3, (.bool ((data.length : Int) == 0))), (2, (.bool false)), (1, (ptr b1 0)), (0, (.agg #[vn, (.int .i64 ino), (.int .i64 kind), (.int .i64 m), (.int .i64 u), (.int .i64 g'), vd, (.string target), vx, (.bool opq)]))] ?_
    refine C_region ?_
    refine Rv (.bool (kind == 2)) w2 ?_
    refine Rv (.bool (kind == 2)) w2 ?_
    refine wpR_nil ?_
    refine E_then_normal ?_
    refine C_cond rfl (fun c5 => ?_) (fun c5 => ?_)
    · have d5 : kind = 2 := eq_of_beq c5
      refine Cs [(16, (.bool (kind == 2))), (14, (.bool (kind == 1))), (13, (.int .i64 kind)), (4, (.bool (target.toList == (⟨#[]⟩ : ByteArray).toList))), (3, (.bool ((data.length : Int) == 0))), (2, (.bool false)), (1, (ptr b1 0)), (0, (.agg #[vn, (.int .i64 ino), (.int .i64 kind), (.int .i64 m), (.int .i64 u), (.int .i64 g'), vd, (.string target), vx, (.bool opq)]))] ?_
      refine C_region ?_
      refine Rv (ptr b1 6) w2 ?_
      refine S_load (run_load_one (H.blk 0) Try.underlying25 rfl rfl) rfl rfl rfl rfl rfl ?_
      refine Rw (.int .i64 (data.length : Int)) w2 (X_len (hd.mono H.m) rfl Try.underlying25 rfl) ?_
      refine Rv (.bool (decide ((data.length : Int) ≤ 4096))) w2 ?_
      refine Rv (.bool (decide ((data.length : Int) ≤ 4096))) w2 ?_
      refine wpR_nil ?_
      refine E_block_normal ?_
      refine E_then_normal ?_
      refine C_seq ?_
      refine Cs [(3, (.bool (decide ((data.length : Int) ≤ 4096)))), (16, (.bool (kind == 2))), (14, (.bool (kind == 1))), (13, (.int .i64 kind)), (4, (.bool (target.toList == (⟨#[]⟩ : ByteArray).toList))), (2, (.bool false)), (1, (ptr b1 0)), (0, (.agg #[vn, (.int .i64 ino), (.int .i64 kind), (.int .i64 m), (.int .i64 u), (.int .i64 g'), vd, (.string target), vx, (.bool opq)]))] ?_
      refine C_region ?_
      refine Rv (.bool (decide ((data.length : Int) ≤ 4096))) w2 ?_
      rcases Bool.eq_false_or_eq_true (decide ((data.length : Int) ≤ 4096)) with c6 | c6
      · have d6 : (data.length : Int) ≤ 4096 := of_decide_eq_true c6
        refine Rw (.bool true) w2 (eq_bool (by kernel_rfl) c6) ?_
        refine Rv (.bool (target.toList == (⟨#[]⟩ : ByteArray).toList)) w2 ?_
        refine Rv (.bool (target.toList == (⟨#[]⟩ : ByteArray).toList)) w2 ?_
        rcases Bool.eq_false_or_eq_true (target.toList == (⟨#[]⟩ : ByteArray).toList) with c7 | c7
        · refine Rw (.bool true) w2 (eq_bool (by kernel_rfl) c7) ?_
          refine Rv (ptr b1 3) w2 ?_
          refine S_load (run_load_row (H.blk 0) Try.underlying24 rfl (vs := [(.int .i64 m), (.int .i64 u), (.int .i64 g')]) (by kernel_rfl) rfl) rfl rfl rfl rfl rfl ?_
          refine Rc #[(.agg #[(.int .i64 m), (.int .i64 u), (.int .i64 g')])] w2 (may_any m u g' _) ?_
          rintro _ w5 ⟨rfl, l4⟩
          replace H := H.le l4
          refine Rv (.bool (may3 m u g')) w5 ?_
          rcases Bool.eq_false_or_eq_true (may3 m u g') with c8 | c8
          · refine Rw (.bool true) w5 (eq_bool (by kernel_rfl) c8) ?_
            refine Rv (ptr b1 8) w5 ?_
            refine S_load (run_load_one (H.blk 0) Try.underlying26 rfl rfl) rfl rfl rfl rfl rfl ?_
            refine Rc #[vx] w5 (mayx_any xs vx _ _ H.sees hx) ?_
            rintro _ w6 ⟨rfl, l5⟩
            replace H := H.le l5
            refine Rv (.bool (mayX xs)) w6 ?_
            refine Rv (.bool (mayX xs)) w6 ?_
            refine wpR_nil ?_
            refine E_then_normal ?_
            refine C_ret ?_
            refine E_ret (res_one rfl rfl) ⟨_, rfl, ?_⟩
            exact ⟨congrArg Value.bool (by unfold goodN noB; first | (simp_all; done) | (simp_all; intros; simp_all; done) | (simp_all; omega)), H.toLe⟩
          · refine Rw (.bool false) w5 (eq_bool (by kernel_rfl) c8) ?_
            iterate 3 refine Rs ?_
            refine Rv (.bool false) w5 ?_
            refine Rv (.bool false) w5 ?_
            refine wpR_nil ?_
            refine E_then_normal ?_
            refine C_ret ?_
            refine E_ret (res_one rfl rfl) ⟨_, rfl, ?_⟩
            exact ⟨congrArg Value.bool (by unfold goodN noB; first | (simp_all; done) | (simp_all; intros; simp_all; done) | (simp_all; omega)), H.toLe⟩
        · refine Rw (.bool false) w2 (eq_bool (by kernel_rfl) c7) ?_
          iterate 3 refine Rs ?_
          refine Rv (.bool false) w2 ?_
          refine Rv (.bool false) w2 ?_
          iterate 3 refine Rs ?_
          refine Rv (.bool false) w2 ?_
          refine Rv (.bool false) w2 ?_
          refine wpR_nil ?_
          refine E_then_normal ?_
          refine C_ret ?_
          refine E_ret (res_one rfl rfl) ⟨_, rfl, ?_⟩
          exact ⟨congrArg Value.bool (by unfold goodN noB; first | (simp_all; done) | (simp_all; intros; simp_all; done) | (simp_all; omega)), H.toLe⟩
      · have d6 : ¬ (data.length : Int) ≤ 4096 := of_decide_eq_false c6
        refine Rw (.bool false) w2 (eq_bool (by kernel_rfl) c6) ?_
        refine Rs ?_
        refine Rv (.bool false) w2 ?_
        refine Rv (.bool false) w2 ?_
        iterate 3 refine Rs ?_
        refine Rv (.bool false) w2 ?_
        refine Rv (.bool false) w2 ?_
        iterate 3 refine Rs ?_
        refine Rv (.bool false) w2 ?_
        refine Rv (.bool false) w2 ?_
        refine wpR_nil ?_
        refine E_then_normal ?_
        refine C_ret ?_
        refine E_ret (res_one rfl rfl) ⟨_, rfl, ?_⟩
        exact ⟨congrArg Value.bool (by unfold goodN noB; first | (simp_all; done) | (simp_all; intros; simp_all; done) | (simp_all; omega)), H.toLe⟩
    · have d5 : kind ≠ 2 := ne_of_beq_false c5
      refine C_seq ?_
      refine Cs [(16, (.bool (kind == 2))), (14, (.bool (kind == 1))), (13, (.int .i64 kind)), (4, (.bool (target.toList == (⟨#[]⟩ : ByteArray).toList))), (3, (.bool ((data.length : Int) == 0))), (2, (.bool false)), (1, (ptr b1 0)), (0, (.agg #[vn, (.int .i64 ino), (.int .i64 kind), (.int .i64 m), (.int .i64 u), (.int .i64 g'), vd, (.string target), vx, (.bool opq)]))] ?_
      refine C_region ?_
      refine Rv (.bool (kind == 3)) w2 ?_
      refine Rv (.bool (kind == 3)) w2 ?_
      refine wpR_nil ?_
      refine E_then_normal ?_
      refine C_cond rfl (fun c9 => ?_) (fun c9 => ?_)
      · have d9 : kind = 3 := eq_of_beq c9
        refine Cs [(22, (.bool (kind == 3))), (16, (.bool (kind == 2))), (14, (.bool (kind == 1))), (13, (.int .i64 kind)), (4, (.bool (target.toList == (⟨#[]⟩ : ByteArray).toList))), (3, (.bool ((data.length : Int) == 0))), (2, (.bool false)), (1, (ptr b1 0)), (0, (.agg #[vn, (.int .i64 ino), (.int .i64 kind), (.int .i64 m), (.int .i64 u), (.int .i64 g'), vd, (.string target), vx, (.bool opq)]))] ?_
        refine C_region ?_
        refine Rv (.bool (target.toList == (⟨#[]⟩ : ByteArray).toList)) w2 ?_
        refine Rv (.bool (!(target.toList == (⟨#[]⟩ : ByteArray).toList))) w2 ?_
        rcases Bool.eq_false_or_eq_true (!(target.toList == (⟨#[]⟩ : ByteArray).toList)) with c10 | c10
        · refine Rw (.bool true) w2 (eq_bool (by kernel_rfl) c10) ?_
          refine Rv (ptr b1 7) w2 ?_
          refine S_load (run_load_one (H.blk 0) Try.underlying9 rfl rfl) rfl rfl rfl rfl rfl ?_
          refine Rw (.int .i64 (target.size : Int)) w2 (X_len_str rfl Try.underlying9 rfl) ?_
          refine Rv (.bool (decide ((target.size : Int) ≤ 200))) w2 ?_
          refine Rv (.bool (decide ((target.size : Int) ≤ 200))) w2 ?_
          rcases Bool.eq_false_or_eq_true (decide ((target.size : Int) ≤ 200)) with c11 | c11
          · have d11 : (target.size : Int) ≤ 200 := of_decide_eq_true c11
            refine Rw (.bool true) w2 (eq_bool (by kernel_rfl) c11) ?_
            refine Rv (ptr b1 7) w2 ?_
            refine S_load (run_load_one (H.blk 0) Try.underlying9 rfl rfl) rfl rfl rfl rfl rfl ?_
            refine S_convert_bytes H.sees Try.underlying9 Try.underlying25 Try.underlying5 (by omega) rfl rfl rfl rfl rfl fun v1 w7 hx1 l6 => ?_
            obtain ⟨g1, hg1, m1, H⟩ := H.data l6
            rw [hg1] at hx1
            have ln_hx1 := hx1.len_le
            refine Rc #[v1, (.int .u8 0)] w7 (bindex_any target.data.toList v1 _ _ H.sees hx1) ?_
            rintro _ w8 ⟨rfl, l7⟩
            replace H := H.le l7
            refine Rv (.bool (decide ((Lib.indexByte target.data.toList 0) < 0))) w8 ?_
            refine Rv (.bool (decide ((Lib.indexByte target.data.toList 0) < 0))) w8 ?_
            refine Rv (.bool (decide ((Lib.indexByte target.data.toList 0) < 0))) w8 ?_
            refine wpR_nil ?_
            refine E_block_normal ?_
            refine E_then_normal ?_
            refine C_seq ?_
            refine Cs [(4, (.bool (decide ((Lib.indexByte target.data.toList 0) < 0)))), (22, (.bool (kind == 3))), (16, (.bool (kind == 2))), (14, (.bool (kind == 1))), (13, (.int .i64 kind)), (3, (.bool ((data.length : Int) == 0))), (2, (.bool false)), (1, (ptr b1 0)), (0, (.agg #[vn, (.int .i64 ino), (.int .i64 kind), (.int .i64 m), (.int .i64 u), (.int .i64 g'), vd, (.string target), vx, (.bool opq)]))] ?_
            refine C_region ?_
            refine Rv (.bool ((data.length : Int) == 0)) w8 ?_
            rcases Bool.eq_false_or_eq_true ((data.length : Int) == 0) with c12 | c12
            · have d12 : (data.length : Int) = 0 := eq_of_beq c12
              refine Rw (.bool true) w8 (eq_bool (by kernel_rfl) c12) ?_
              refine Rv (.bool (decide ((Lib.indexByte target.data.toList 0) < 0))) w8 ?_
              refine Rv (.bool (decide ((Lib.indexByte target.data.toList 0) < 0))) w8 ?_
              rcases Bool.eq_false_or_eq_true (decide ((Lib.indexByte target.data.toList 0) < 0)) with c13 | c13
              · have d13 : (Lib.indexByte target.data.toList 0) < 0 := of_decide_eq_true c13
                refine Rw (.bool true) w8 (eq_bool (by kernel_rfl) c13) ?_
                refine Rv (ptr b1 3) w8 ?_
                refine S_load (run_load_row (H.blk 0) Try.underlying24 rfl (vs := [(.int .i64 m), (.int .i64 u), (.int .i64 g')]) (by kernel_rfl) rfl) rfl rfl rfl rfl rfl ?_
                refine Rc #[(.agg #[(.int .i64 m), (.int .i64 u), (.int .i64 g')])] w8 (may_any m u g' _) ?_
                rintro _ w9 ⟨rfl, l8⟩
                replace H := H.le l8
                refine Rv (.bool (may3 m u g')) w9 ?_
                rcases Bool.eq_false_or_eq_true (may3 m u g') with c14 | c14
                · refine Rw (.bool true) w9 (eq_bool (by kernel_rfl) c14) ?_
                  refine Rv (ptr b1 8) w9 ?_
                  refine S_load (run_load_one (H.blk 0) Try.underlying26 rfl rfl) rfl rfl rfl rfl rfl ?_
                  refine Rc #[vx] w9 (mayx_any xs vx _ _ H.sees (hx.mono m1)) ?_
                  rintro _ w10 ⟨rfl, l9⟩
                  replace H := H.le l9
                  refine Rv (.bool (mayX xs)) w10 ?_
                  refine Rv (.bool (mayX xs)) w10 ?_
                  refine wpR_nil ?_
                  refine E_then_normal ?_
                  refine C_ret ?_
                  refine E_ret (res_one rfl rfl) ⟨_, rfl, ?_⟩
                  exact ⟨congrArg Value.bool (by unfold goodN noB; first | (simp_all; done) | (simp_all; intros; simp_all; done) | (simp_all; omega)), H.toLe⟩
                · refine Rw (.bool false) w9 (eq_bool (by kernel_rfl) c14) ?_
                  iterate 3 refine Rs ?_
                  refine Rv (.bool false) w9 ?_
                  refine Rv (.bool false) w9 ?_
                  refine wpR_nil ?_
                  refine E_then_normal ?_
                  refine C_ret ?_
                  refine E_ret (res_one rfl rfl) ⟨_, rfl, ?_⟩
                  exact ⟨congrArg Value.bool (by unfold goodN noB; first | (simp_all; done) | (simp_all; intros; simp_all; done) | (simp_all; omega)), H.toLe⟩
              · have d13 : ¬ (Lib.indexByte target.data.toList 0) < 0 := of_decide_eq_false c13
                refine Rw (.bool false) w8 (eq_bool (by kernel_rfl) c13) ?_
                iterate 3 refine Rs ?_
                refine Rv (.bool false) w8 ?_
                refine Rv (.bool false) w8 ?_
                iterate 3 refine Rs ?_
                refine Rv (.bool false) w8 ?_
                refine Rv (.bool false) w8 ?_
                refine wpR_nil ?_
                refine E_then_normal ?_
                refine C_ret ?_
                refine E_ret (res_one rfl rfl) ⟨_, rfl, ?_⟩
                exact ⟨congrArg Value.bool (by unfold goodN noB; first | (simp_all; done) | (simp_all; intros; simp_all; done) | (simp_all; omega)), H.toLe⟩
            · have d12 : (data.length : Int) ≠ 0 := ne_of_beq_false c12
              refine Rw (.bool false) w8 (eq_bool (by kernel_rfl) c12) ?_
              refine Rs ?_
              refine Rv (.bool false) w8 ?_
              refine Rv (.bool false) w8 ?_
              iterate 3 refine Rs ?_
              refine Rv (.bool false) w8 ?_
              refine Rv (.bool false) w8 ?_
              iterate 3 refine Rs ?_
              refine Rv (.bool false) w8 ?_
              refine Rv (.bool false) w8 ?_
              refine wpR_nil ?_
              refine E_then_normal ?_
              refine C_ret ?_
              refine E_ret (res_one rfl rfl) ⟨_, rfl, ?_⟩
              exact ⟨congrArg Value.bool (by unfold goodN noB; first | (simp_all; done) | (simp_all; intros; simp_all; done) | (simp_all; omega)), H.toLe⟩
          · have d11 : ¬ (target.size : Int) ≤ 200 := of_decide_eq_false c11
            refine Rw (.bool false) w2 (eq_bool (by kernel_rfl) c11) ?_
            iterate 5 refine Rs ?_
            refine Rv (.bool false) w2 ?_
            refine Rv (.bool false) w2 ?_
            refine wpR_nil ?_
            refine E_block_normal ?_
            refine E_then_normal ?_
            refine C_seq ?_
            refine Cs [(4, (.bool false)), (22, (.bool (kind == 3))), (16, (.bool (kind == 2))), (14, (.bool (kind == 1))), (13, (.int .i64 kind)), (3, (.bool ((data.length : Int) == 0))), (2, (.bool false)), (1, (ptr b1 0)), (0, (.agg #[vn, (.int .i64 ino), (.int .i64 kind), (.int .i64 m), (.int .i64 u), (.int .i64 g'), vd, (.string target), vx, (.bool opq)]))] ?_
            refine C_region ?_
            refine Rv (.bool ((data.length : Int) == 0)) w2 ?_
            rcases Bool.eq_false_or_eq_true ((data.length : Int) == 0) with c15 | c15
            · have d15 : (data.length : Int) = 0 := eq_of_beq c15
              refine Rw (.bool true) w2 (eq_bool (by kernel_rfl) c15) ?_
              refine Rv (.bool false) w2 ?_
              refine Rv (.bool false) w2 ?_
              refine Rv (.bool false) w2 ?_
              iterate 3 refine Rs ?_
              refine Rv (.bool false) w2 ?_
              refine Rv (.bool false) w2 ?_
              iterate 3 refine Rs ?_
              refine Rv (.bool false) w2 ?_
              refine Rv (.bool false) w2 ?_
              refine wpR_nil ?_
              refine E_then_normal ?_
              refine C_ret ?_
              refine E_ret (res_one rfl rfl) ⟨_, rfl, ?_⟩
              exact ⟨congrArg Value.bool (by unfold goodN noB; first | (simp_all; done) | (simp_all; intros; simp_all; done) | (simp_all; omega)), H.toLe⟩
            · have d15 : (data.length : Int) ≠ 0 := ne_of_beq_false c15
              refine Rw (.bool false) w2 (eq_bool (by kernel_rfl) c15) ?_
              refine Rs ?_
              refine Rv (.bool false) w2 ?_
              refine Rv (.bool false) w2 ?_
              iterate 3 refine Rs ?_
              refine Rv (.bool false) w2 ?_
              refine Rv (.bool false) w2 ?_
              iterate 3 refine Rs ?_
              refine Rv (.bool false) w2 ?_
              refine Rv (.bool false) w2 ?_
              refine wpR_nil ?_
              refine E_then_normal ?_
              refine C_ret ?_
              refine E_ret (res_one rfl rfl) ⟨_, rfl, ?_⟩
              exact ⟨congrArg Value.bool (by unfold goodN noB; first | (simp_all; done) | (simp_all; intros; simp_all; done) | (simp_all; omega)), H.toLe⟩
        · refine Rw (.bool false) w2 (eq_bool (by kernel_rfl) c10) ?_
          iterate 4 refine Rs ?_
          refine Rv (.bool false) w2 ?_
          refine Rv (.bool false) w2 ?_
          iterate 5 refine Rs ?_
          refine Rv (.bool false) w2 ?_
          refine Rv (.bool false) w2 ?_
          refine wpR_nil ?_
          refine E_block_normal ?_
          refine E_then_normal ?_
          refine C_seq ?_
          refine Cs [(4, (.bool false)), (22, (.bool (kind == 3))), (16, (.bool (kind == 2))), (14, (.bool (kind == 1))), (13, (.int .i64 kind)), (3, (.bool ((data.length : Int) == 0))), (2, (.bool false)), (1, (ptr b1 0)), (0, (.agg #[vn, (.int .i64 ino), (.int .i64 kind), (.int .i64 m), (.int .i64 u), (.int .i64 g'), vd, (.string target), vx, (.bool opq)]))] ?_
          refine C_region ?_
          refine Rv (.bool ((data.length : Int) == 0)) w2 ?_
          rcases Bool.eq_false_or_eq_true ((data.length : Int) == 0) with c16 | c16
          · have d16 : (data.length : Int) = 0 := eq_of_beq c16
            refine Rw (.bool true) w2 (eq_bool (by kernel_rfl) c16) ?_
            refine Rv (.bool false) w2 ?_
            refine Rv (.bool false) w2 ?_
            refine Rv (.bool false) w2 ?_
            iterate 3 refine Rs ?_
            refine Rv (.bool false) w2 ?_
            refine Rv (.bool false) w2 ?_
            iterate 3 refine Rs ?_
            refine Rv (.bool false) w2 ?_
            refine Rv (.bool false) w2 ?_
            refine wpR_nil ?_
            refine E_then_normal ?_
            refine C_ret ?_
            refine E_ret (res_one rfl rfl) ⟨_, rfl, ?_⟩
            exact ⟨congrArg Value.bool (by unfold goodN noB; first | (simp_all; done) | (simp_all; intros; simp_all; done) | (simp_all; omega)), H.toLe⟩
          · have d16 : (data.length : Int) ≠ 0 := ne_of_beq_false c16
            refine Rw (.bool false) w2 (eq_bool (by kernel_rfl) c16) ?_
            refine Rs ?_
            refine Rv (.bool false) w2 ?_
            refine Rv (.bool false) w2 ?_
            iterate 3 refine Rs ?_
            refine Rv (.bool false) w2 ?_
            refine Rv (.bool false) w2 ?_
            iterate 3 refine Rs ?_
            refine Rv (.bool false) w2 ?_
            refine Rv (.bool false) w2 ?_
            refine wpR_nil ?_
            refine E_then_normal ?_
            refine C_ret ?_
            refine E_ret (res_one rfl rfl) ⟨_, rfl, ?_⟩
            exact ⟨congrArg Value.bool (by unfold goodN noB; first | (simp_all; done) | (simp_all; intros; simp_all; done) | (simp_all; omega)), H.toLe⟩
      · have d9 : kind ≠ 3 := ne_of_beq_false c9
        refine C_seq ?_
        refine Cs [(22, (.bool (kind == 3))), (16, (.bool (kind == 2))), (14, (.bool (kind == 1))), (13, (.int .i64 kind)), (4, (.bool (target.toList == (⟨#[]⟩ : ByteArray).toList))), (3, (.bool ((data.length : Int) == 0))), (2, (.bool false)), (1, (ptr b1 0)), (0, (.agg #[vn, (.int .i64 ino), (.int .i64 kind), (.int .i64 m), (.int .i64 u), (.int .i64 g'), vd, (.string target), vx, (.bool opq)]))] ?_
        refine C_region ?_
        refine Rv (.bool (kind == 4)) w2 ?_
        refine Rv (.bool (kind == 4)) w2 ?_
        refine wpR_nil ?_
        refine E_then_normal ?_
        refine C_cond rfl (fun c17 => ?_) (fun c17 => ?_)
        · have d17 : kind = 4 := eq_of_beq c17
          refine C_seq ?_
          refine Cs [(39, (.bool (kind == 4))), (22, (.bool (kind == 3))), (16, (.bool (kind == 2))), (14, (.bool (kind == 1))), (13, (.int .i64 kind)), (4, (.bool (target.toList == (⟨#[]⟩ : ByteArray).toList))), (3, (.bool ((data.length : Int) == 0))), (2, (.bool false)), (1, (ptr b1 0)), (0, (.agg #[vn, (.int .i64 ino), (.int .i64 kind), (.int .i64 m), (.int .i64 u), (.int .i64 g'), vd, (.string target), vx, (.bool opq)]))] ?_
          refine C_region ?_
          refine Rv (.bool ((data.length : Int) == 0)) w2 ?_
          rcases Bool.eq_false_or_eq_true ((data.length : Int) == 0) with c18 | c18
          · have d18 : (data.length : Int) = 0 := eq_of_beq c18
            refine Rw (.bool true) w2 (eq_bool (by kernel_rfl) c18) ?_
            refine Rv (.bool (target.toList == (⟨#[]⟩ : ByteArray).toList)) w2 ?_
            refine Rv (.bool (target.toList == (⟨#[]⟩ : ByteArray).toList)) w2 ?_
            rcases Bool.eq_false_or_eq_true (target.toList == (⟨#[]⟩ : ByteArray).toList) with c19 | c19
            · refine Rw (.bool true) w2 (eq_bool (by kernel_rfl) c19) ?_
              refine Rv (ptr b1 3) w2 ?_
              refine S_load (run_load_row (H.blk 0) Try.underlying24 rfl (vs := [(.int .i64 m), (.int .i64 u), (.int .i64 g')]) (by kernel_rfl) rfl) rfl rfl rfl rfl rfl ?_
              refine Rv (.agg #[(.int .i64 0), (.int .i64 0), (.int .i64 0)]) w2 ?_
              refine Rw (.bool ((m == 0) && ((u == 0) && ((g' == 0) && true)))) w2 (X_eql_struct rfl rfl rfl Try.underlying24 (by kernel_rfl) (by kernel_rfl) (eqF_int rfl Try.underlying3 (by kernel_rfl) rfl rfl (eqF_int rfl Try.underlying3 (by kernel_rfl) rfl rfl (eqF_int rfl Try.underlying3 (by kernel_rfl) rfl rfl (eqF_nil))))) ?_
              refine Rv (.bool ((m == 0) && ((u == 0) && ((g' == 0) && true)))) w2 ?_
              rcases Bool.eq_false_or_eq_true ((m == 0) && ((u == 0) && ((g' == 0) && true))) with c20 | c20
              · refine Rw (.bool true) w2 (eq_bool (by kernel_rfl) c20) ?_
                refine Rv (ptr b1 8) w2 ?_
                refine S_load (run_load_one (H.blk 0) Try.underlying26 rfl rfl) rfl rfl rfl rfl rfl ?_
                refine Rw (.int .i64 (xs.length : Int)) w2 (X_len (hx.mono H.m) rfl Try.underlying26 rfl) ?_
                refine Rv (.bool ((xs.length : Int) == 0)) w2 ?_
                refine Rv (.bool ((xs.length : Int) == 0)) w2 ?_
                refine Rv (.bool ((xs.length : Int) == 0)) w2 ?_
                refine wpR_nil ?_
                refine E_then_normal ?_
                refine C_ret ?_
                refine E_block_ret ?_
                refine E_then_ret ?_
                refine E_ret (res_one rfl rfl) ⟨_, rfl, ?_⟩
                exact ⟨congrArg Value.bool (by unfold goodN noB; first | (simp_all; done) | (simp_all; intros; simp_all; done) | (simp_all; omega)), H.toLe⟩
              · refine Rw (.bool false) w2 (eq_bool (by kernel_rfl) c20) ?_
                iterate 4 refine Rs ?_
                refine Rv (.bool false) w2 ?_
                refine Rv (.bool false) w2 ?_
                refine wpR_nil ?_
                refine E_then_normal ?_
                refine C_ret ?_
                refine E_block_ret ?_
                refine E_then_ret ?_
                refine E_ret (res_one rfl rfl) ⟨_, rfl, ?_⟩
                exact ⟨congrArg Value.bool (by unfold goodN noB; first | (simp_all; done) | (simp_all; intros; simp_all; done) | (simp_all; omega)), H.toLe⟩
            · refine Rw (.bool false) w2 (eq_bool (by kernel_rfl) c19) ?_
              iterate 4 refine Rs ?_
              refine Rv (.bool false) w2 ?_
              refine Rv (.bool false) w2 ?_
              iterate 4 refine Rs ?_
              refine Rv (.bool false) w2 ?_
              refine Rv (.bool false) w2 ?_
              refine wpR_nil ?_
              refine E_then_normal ?_
              refine C_ret ?_
              refine E_block_ret ?_
              refine E_then_ret ?_
              refine E_ret (res_one rfl rfl) ⟨_, rfl, ?_⟩
              exact ⟨congrArg Value.bool (by unfold goodN noB; first | (simp_all; done) | (simp_all; intros; simp_all; done) | (simp_all; omega)), H.toLe⟩
          · have d18 : (data.length : Int) ≠ 0 := ne_of_beq_false c18
            refine Rw (.bool false) w2 (eq_bool (by kernel_rfl) c18) ?_
            refine Rs ?_
            refine Rv (.bool false) w2 ?_
            refine Rv (.bool false) w2 ?_
            iterate 4 refine Rs ?_
            refine Rv (.bool false) w2 ?_
            refine Rv (.bool false) w2 ?_
            iterate 4 refine Rs ?_
            refine Rv (.bool false) w2 ?_
            refine Rv (.bool false) w2 ?_
            refine wpR_nil ?_
            refine E_then_normal ?_
            refine C_ret ?_
            refine E_block_ret ?_
            refine E_then_ret ?_
            refine E_ret (res_one rfl rfl) ⟨_, rfl, ?_⟩
            exact ⟨congrArg Value.bool (by unfold goodN noB; first | (simp_all; done) | (simp_all; intros; simp_all; done) | (simp_all; omega)), H.toLe⟩
        · have d17 : kind ≠ 4 := ne_of_beq_false c17
          refine C_seq ?_
          refine Cs [(39, (.bool (kind == 4))), (22, (.bool (kind == 3))), (16, (.bool (kind == 2))), (14, (.bool (kind == 1))), (13, (.int .i64 kind)), (4, (.bool (target.toList == (⟨#[]⟩ : ByteArray).toList))), (3, (.bool ((data.length : Int) == 0))), (2, (.bool false)), (1, (ptr b1 0)), (0, (.agg #[vn, (.int .i64 ino), (.int .i64 kind), (.int .i64 m), (.int .i64 u), (.int .i64 g'), vd, (.string target), vx, (.bool opq)]))] ?_
          refine C_region ?_
          refine Rv (.bool false) w2 ?_
          refine wpR_nil ?_
          refine E_then_normal ?_
          refine C_ret ?_
          refine E_block_ret ?_
          refine E_then_ret ?_
          refine E_ret (res_one rfl rfl) ⟨_, rfl, ?_⟩
          exact ⟨congrArg Value.bool (by unfold goodN noB; first | (simp_all; done) | (simp_all; intros; simp_all; done) | (simp_all; omega)), H.toLe⟩
end Go.Proofs.Ytnmaehdklmgfmaa
