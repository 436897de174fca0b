/- What the reference of layer 6 comes to. (Printed by a program of mine.) -/
import Derived.Test.YtepekaepgeekcaaDoorWalks
import Derived.Test.YtepekaepgeekcaaDoorLmJoin
namespace Go.Proofs.YtepekaepgeekcaaDoor
open Go Go.RowKit Go.Lm
set_option linter.unusedVariables false in
set_option linter.unusedSimpArgs false in
set_option maxHeartbeats 4000000 in
set_option maxRecDepth 100000 in
theorem refsplit_any (s : ByteArray) (g w : World) (sees : Sees g w)  : Ret Tryd.prog 20 #[(.string s)] w fun v w' => ∃ sv, v = .tuple #[sv, .bool (splitN s).2.1, .int .i64 (splitN s).2.2] ∧ Is (graft g w w') sv (splitN s).1 ∧ Le w w' := by
  have be0 := Below.refl w.heap.size w
  refine enter (args := [(.string s)]) Tryd.func20 rfl rfl rfl ?_
  refine C_seq ?_
  refine C_region ?_
  refine Rv (.slice none 0 0) w ?_
  refine Rv (.bool false) w ?_
  refine Rv (.int .i64 0) w ?_
  refine wpR_nil ?_
  refine E_then_normal ?_
  refine C_seq ?_
  refine C_seq ?_
  refine C_region ?_
  refine Rv (.string s) w ?_
  refine Rw (.int .i64 (s.size : Int)) w (X_len_str rfl Tryd.underlying9 rfl) ?_
  refine Rv (.bool (decide ((s.size : Int) > 1000))) w ?_
  refine wpR_nil ?_
  refine E_then_normal ?_
  refine C_cond rfl (fun c1 => ?_) (fun c1 => ?_)
  · have d1 : (s.size : Int) > 1000 := of_decide_eq_true c1
    refine C_seq ?_
    refine Cs [(12, (.bool (decide ((s.size : Int) > 1000)))), (4, (.int .i64 0)), (3, (.bool false)), (2, (.slice none 0 0)), (0, (.string s))] ?_
    refine C_region ?_
    refine Rv (.slice none 0 0) w ?_
    refine Rv (.bool false) w ?_
    refine Rv (.int .i64 23) w ?_
    refine wpR_nil ?_
    refine E_then_normal ?_
    refine C_ret ?_
    refine E_then_ret ?_
    refine E_ret (res_three rfl rfl rfl rfl) ⟨_, rfl, ?_⟩
    rw [splitN_long d1]
    exact ⟨_, rfl, is_nil _, be0⟩
  · have d1 : ¬ (s.size : Int) > 1000 := of_decide_eq_false c1
    refine C_skip ?_
    refine E_then_normal ?_
    refine C_seq ?_
    refine C_seq ?_
    refine Cs [(12, (.bool (decide ((s.size : Int) > 1000)))), (4, (.int .i64 0)), (3, (.bool false)), (2, (.slice none 0 0)), (0, (.string s))] ?_
    refine C_region ?_
    refine Rv (.string s) w ?_
    refine Rv (.bool (s.toList == (⟨#[]⟩ : ByteArray).toList)) w ?_
    rcases Bool.eq_false_or_eq_true (s.toList == (⟨#[]⟩ : ByteArray).toList) with c2 | c2
    · refine Rw (.bool true) w (eq_bool (by kernel_rfl) c2) ?_
      iterate 3 refine Rs ?_
      refine Rv (.bool true) w ?_
      refine wpR_nil ?_
      refine E_then_normal ?_
      refine C_true rfl ?_
      refine C_seq ?_
      refine Cs [(19, (.bool true)), (12, (.bool (decide ((s.size : Int) > 1000)))), (4, (.int .i64 0)), (3, (.bool false)), (2, (.slice none 0 0)), (0, (.string s))] ?_
      refine C_region ?_
      refine Rv (.slice none 0 0) w ?_
      refine Rv (.bool false) w ?_
      refine Rv (.int .i64 22) w ?_
      refine wpR_nil ?_
      refine E_then_normal ?_
      refine C_ret ?_
      refine E_then_ret ?_
      refine E_ret (res_three rfl rfl rfl rfl) ⟨_, rfl, ?_⟩
      rw [ref_no d1 (.inl c2)]
      exact ⟨_, rfl, is_nil _, be0⟩
    · refine Rw (.bool false) w (eq_bool (by kernel_rfl) c2) ?_
      refine Rv (.string s) w ?_
      refine Rw (.int .u8 ((byteAt s 0).toNat : Int)) w (X_index_str (by first | omega | (have hp2 := (starts_byte (s := s) (by assumption)).2; omega)) (by first | omega | (have hp2 := (starts_byte (s := s) (by assumption)).2; omega)) rfl Tryd.underlying9 rfl rfl) ?_
      refine Rv (.bool (((byteAt s 0).toNat : Int) != 47)) w ?_
      refine Rv (.bool (((byteAt s 0).toNat : Int) != 47)) w ?_
      refine wpR_nil ?_
      refine E_then_normal ?_
      refine C_cond rfl (fun c3 => ?_) (fun c3 => ?_)
      · have d3 : ((byteAt s 0).toNat : Int) ≠ 47 := bne_iff_ne.1 c3
        refine C_seq ?_
        refine Cs [(19, (.bool (((byteAt s 0).toNat : Int) != 47))), (12, (.bool (decide ((s.size : Int) > 1000)))), (4, (.int .i64 0)), (3, (.bool false)), (2, (.slice none 0 0)), (0, (.string s))] ?_
        refine C_region ?_
        refine Rv (.slice none 0 0) w ?_
        refine Rv (.bool false) w ?_
        refine Rv (.int .i64 22) w ?_
        refine wpR_nil ?_
        refine E_then_normal ?_
        refine C_ret ?_
        refine E_then_ret ?_
        refine E_ret (res_three rfl rfl rfl rfl) ⟨_, rfl, ?_⟩
        rw [ref_no d1 (.inr ⟨c2, c3⟩)]
        exact ⟨_, rfl, is_nil _, be0⟩
      · have d3 : ((byteAt s 0).toNat : Int) = 47 := bne_eq_false_iff_eq.1 c3
        refine C_skip ?_
        refine E_then_normal ?_
        refine C_seq ?_
        refine Cs [(19, (.bool (((byteAt s 0).toNat : Int) != 47))), (12, (.bool (decide ((s.size : Int) > 1000)))), (4, (.int .i64 0)), (3, (.bool false)), (2, (.slice none 0 0)), (0, (.string s))] ?_
        refine C_region ?_
        refine S_new (fun b => .slice (some ⟨b, 0, none⟩) 0 0) (.cells #[] 9) (by kernel_rfl) (by kernel_rfl) rfl rfl rfl fun b1 w1 n1 => ?_
        have ni1 := n1.notIn sees
        have sees1 := sees.le n1.le
        have k1 := n1.blk
        have o1 := n1.own be0
        have be1 := n1.below' be0
        have ow1 := OwnsL.empty (α := ByteArray) (g := g) n1 o1
        refine Rv (.slice (some ⟨b1, 0, none⟩) 0 0) w1 ?_
        refine wpR_nil ?_
        refine E_then_normal ?_
        refine C_seq ?_
        refine Cs [(5, (.slice (some ⟨b1, 0, none⟩) 0 0)), (19, (.bool (((byteAt s 0).toNat : Int) != 47))), (12, (.bool (decide ((s.size : Int) > 1000)))), (4, (.int .i64 0)), (3, (.bool false)), (2, (.slice none 0 0)), (0, (.string s))] ?_
        refine C_region ?_
        refine Rv (.string (⟨#[]⟩ : ByteArray)) w1 ?_
        refine wpR_nil ?_
        refine E_then_normal ?_
        refine C_seq ?_
        refine C_region ?_
        refine Rv (.int .i64 1) w1 ?_
        refine wpR_nil ?_
        refine E_then_normal ?_
        refine C_seq ?_
        refine C_seq ?_
        refine C_region ?_
        refine Rv (.int .i64 1) w1 ?_
        refine wpR_nil ?_
        refine E_then_normal ?_
        refine C_block ?_
        refine C_loop (ι := Int × Int × List ByteArray × ByteArray × Value) (fun i : Int × Int × List ByteArray × ByteArray × Value => match i with | (k, at_, acc, last, vl) => [(8, (.int .i64 k)), (7, (.int .i64 at_)), (6, (.string last)), (5, vl), (19, (.bool (((byteAt s 0).toNat : Int) != 47))), (12, (.bool (decide ((s.size : Int) > 1000)))), (0, (.string s))]) (fun (i : Int × Int × List ByteArray × ByteArray × Value) w' => match i with | (k, at_, acc, last, vl) => 1 ≤ at_ ∧ at_ ≤ k ∧ k ≤ s.size + 1 ∧ noSl s at_ k ∧ acc.length ≤ k ∧ refGo s at_ k acc last = splitN s ∧ OwnsL g w' w.heap.size 9 vl acc ∧ w.heap.size ≤ w'.heap.size ∧ Below w.heap.size w w' ∧ Sees g w' ∧ True) (fun i : Int × Int × List ByteArray × ByteArray × Value => match i with | (k, at_, acc, last, vl) => ((s.size : Int) + 1 - k).toNat) (1, 1, [], ⟨#[]⟩, (.slice (some ⟨b1, 0, none⟩) 0 0)) ⟨rfl, rfl, rfl, rfl, rfl, rfl, rfl, trivial⟩ ⟨by omega, by omega, by have := (starts_byte c2).2; omega, noSl_nil _ _, by simp, ref_init d1 c2 c3, ow1, Below.size be1, be1, sees1, trivial⟩ ?_
        rintro ⟨k, at_, acc, last, vl⟩ w2 ⟨h1, h2, h3, hno, hal, hc, how, hbs, be2, sees2, -⟩
        refine Cs [(8, (.int .i64 k)), (7, (.int .i64 at_)), (6, (.string last)), (5, vl), (19, (.bool (((byteAt s 0).toNat : Int) != 47))), (12, (.bool (decide ((s.size : Int) > 1000)))), (0, (.string s))] ?_
        have hxs : (s.extract (at_ : Int).toNat (k : Int).toNat).size ≤ s.size := extract_size_le _ _ _
        refine C_seq ?_
        refine C_seq ?_
        refine C_region ?_
        refine Rv (.int .i64 k) w2 ?_
        refine Rv (.string s) w2 ?_
        refine Rw (.int .i64 (s.size : Int)) w2 (X_len_str rfl Tryd.underlying9 rfl) ?_
        refine Rv (.bool (decide (k ≤ (s.size : Int)))) w2 ?_
        refine wpR_nil ?_
        refine E_then_normal ?_
        refine C_cond rfl (fun c4 => ?_) (fun c4 => ?_)
        · have d4 : k ≤ (s.size : Int) := of_decide_eq_true c4
          refine C_skip ?_
          refine E_then_normal ?_
          refine C_seq ?_
          refine C_block ?_
          refine C_seq ?_
          refine C_seq ?_
          refine Cs [(24, (.bool (decide (k ≤ (s.size : Int))))), (8, (.int .i64 k)), (7, (.int .i64 at_)), (6, (.string last)), (5, vl), (19, (.bool (((byteAt s 0).toNat : Int) != 47))), (12, (.bool (decide ((s.size : Int) > 1000)))), (0, (.string s))] ?_
          refine C_region ?_
          refine Rv (.int .i64 k) w2 ?_
          refine Rv (.string s) w2 ?_
          refine Rw (.int .i64 (s.size : Int)) w2 (X_len_str rfl Tryd.underlying9 rfl) ?_
          refine Rv (.bool (decide (k < (s.size : Int)))) w2 ?_
          rcases Bool.eq_false_or_eq_true (decide (k < (s.size : Int))) with c5 | c5
          · have d5 : k < (s.size : Int) := of_decide_eq_true c5
            refine Rw (.bool true) w2 (eq_bool (by kernel_rfl) c5) ?_
            refine Rv (.string s) w2 ?_
            refine Rv (.int .i64 k) w2 ?_
            refine Rw (.int .u8 ((byteAt s k).toNat : Int)) w2 (X_index_str (by first | omega | (have hp2 := (starts_byte (s := s) (by assumption)).2; omega)) (by first | omega | (have hp2 := (starts_byte (s := s) (by assumption)).2; omega)) rfl Tryd.underlying9 rfl rfl) ?_
            refine Rv (.bool (((byteAt s k).toNat : Int) != 47)) w2 ?_
            refine Rv (.bool (((byteAt s k).toNat : Int) != 47)) w2 ?_
            refine wpR_nil ?_
            refine E_then_normal ?_
            refine C_cond rfl (fun c6 => ?_) (fun c6 => ?_)
            · have d6 : ((byteAt s k).toNat : Int) ≠ 47 := bne_iff_ne.1 c6
              refine C_exit ?_
              refine E_then_exit ?_
              refine E_block_here ?_
              refine E_then_normal ?_
              refine Cs [(36, (.bool (((byteAt s k).toNat : Int) != 47))), (24, (.bool (decide (k ≤ (s.size : Int))))), (8, (.int .i64 k)), (7, (.int .i64 at_)), (6, (.string last)), (5, vl), (19, (.bool (((byteAt s 0).toNat : Int) != 47))), (12, (.bool (decide ((s.size : Int) > 1000)))), (0, (.string s))] ?_
              refine C_region ?_
              refine Rv (.int .i64 k) w2 ?_
              refine Rw (.int .i64 (k + 1)) w2 (eq_int (by kernel_rfl) (wrap64_in (by first | omega | (have hp2 := (starts_byte (s := s) (by assumption)).2; omega)) (by first | omega | (have hp2 := (starts_byte (s := s) (by assumption)).2; omega)))) ?_
              refine Rv (.int .i64 (k + 1)) w2 ?_
              refine wpR_nil ?_
              refine E_then_mid fun aq1 ha1 => ⟨(k + 1, at_, acc, last, vl), ha1.sub ⟨rfl, rfl, rfl, rfl, rfl, rfl, rfl, trivial⟩, ⟨by omega, by omega, by omega, noSl_step (by omega) (by omega) (by omega) hno (bne_iff_ne.1 c6), by omega, ref_next (by omega) hc, how, by omega, be2, sees2, trivial⟩, ?_⟩
              (first | omega | (dsimp only; omega))
            · have d6 : ((byteAt s k).toNat : Int) = 47 := bne_eq_false_iff_eq.1 c6
              refine C_skip ?_
              refine E_then_normal ?_
              refine C_seq ?_
              refine Cs [(36, (.bool (((byteAt s k).toNat : Int) != 47))), (24, (.bool (decide (k ≤ (s.size : Int))))), (8, (.int .i64 k)), (7, (.int .i64 at_)), (6, (.string last)), (5, vl), (19, (.bool (((byteAt s 0).toNat : Int) != 47))), (12, (.bool (decide ((s.size : Int) > 1000)))), (0, (.string s))] ?_
              refine C_region ?_
              refine Rv (.string s) w2 ?_
              refine Rv (.int .i64 at_) w2 ?_
              refine Rv (.int .i64 k) w2 ?_
              refine Rw (.string (s.extract (at_ : Int).toNat (k : Int).toNat)) w2 (X_slice_str (l := at_) (h := k) (by first | omega | (have hp2 := (starts_byte (s := s) (by assumption)).2; omega)) (by first | omega | (have hp2 := (starts_byte (s := s) (by assumption)).2; omega)) (by first | omega | (have hp2 := (starts_byte (s := s) (by assumption)).2; omega)) rfl Tryd.underlying9 rfl (.inr ⟨_, rfl, rfl⟩) (.inr ⟨_, rfl, rfl⟩)) ?_
              refine Rv (.string (s.extract (at_ : Int).toNat (k : Int).toNat)) w2 ?_
              refine wpR_nil ?_
              refine E_then_normal ?_
              refine C_seq ?_
              refine Cs [(6, (.string (s.extract (at_ : Int).toNat (k : Int).toNat))), (36, (.bool (((byteAt s k).toNat : Int) != 47))), (24, (.bool (decide (k ≤ (s.size : Int))))), (8, (.int .i64 k)), (7, (.int .i64 at_)), (5, vl), (19, (.bool (((byteAt s 0).toNat : Int) != 47))), (12, (.bool (decide ((s.size : Int) > 1000)))), (0, (.string s))] ?_
              refine C_region ?_
              refine Rv (.int .i64 k) w2 ?_
              refine Rw (.int .i64 (k + 1)) w2 (eq_int (by kernel_rfl) (wrap64_in (by first | omega | (have hp2 := (starts_byte (s := s) (by assumption)).2; omega)) (by first | omega | (have hp2 := (starts_byte (s := s) (by assumption)).2; omega)))) ?_
              refine Rv (.int .i64 (k + 1)) w2 ?_
              refine wpR_nil ?_
              refine E_then_normal ?_
              refine C_seq ?_
              refine C_seq ?_
              refine Cs [(7, (.int .i64 (k + 1))), (6, (.string (s.extract (at_ : Int).toNat (k : Int).toNat))), (36, (.bool (((byteAt s k).toNat : Int) != 47))), (24, (.bool (decide (k ≤ (s.size : Int))))), (8, (.int .i64 k)), (5, vl), (19, (.bool (((byteAt s 0).toNat : Int) != 47))), (12, (.bool (decide ((s.size : Int) > 1000)))), (0, (.string s))] ?_
              refine C_region ?_
              refine Rv (.string (s.extract (at_ : Int).toNat (k : Int).toNat)) w2 ?_
              refine Rv (.bool ((s.extract (at_ : Int).toNat (k : Int).toNat).toList == (⟨#[]⟩ : ByteArray).toList)) w2 ?_
              rcases Bool.eq_false_or_eq_true ((s.extract (at_ : Int).toNat (k : Int).toNat).toList == (⟨#[]⟩ : ByteArray).toList) with c7 | c7
              · refine Rw (.bool true) w2 (eq_bool (by kernel_rfl) c7) ?_
                iterate 2 refine Rs ?_
                refine Rv (.bool true) w2 ?_
                refine wpR_nil ?_
                refine E_then_normal ?_
                refine C_true rfl ?_
                refine C_exit ?_
                refine E_then_exit ?_
                refine E_block_here ?_
                refine E_then_normal ?_
                refine Cs [(48, (.bool true)), (7, (.int .i64 (k + 1))), (6, (.string (s.extract (at_ : Int).toNat (k : Int).toNat))), (36, (.bool (((byteAt s k).toNat : Int) != 47))), (24, (.bool (decide (k ≤ (s.size : Int))))), (8, (.int .i64 k)), (5, vl), (19, (.bool (((byteAt s 0).toNat : Int) != 47))), (12, (.bool (decide ((s.size : Int) > 1000)))), (0, (.string s))] ?_
                refine C_region ?_
                refine Rv (.int .i64 k) w2 ?_
                refine Rw (.int .i64 (k + 1)) w2 (eq_int (by kernel_rfl) (wrap64_in (by first | omega | (have hp2 := (starts_byte (s := s) (by assumption)).2; omega)) (by first | omega | (have hp2 := (starts_byte (s := s) (by assumption)).2; omega)))) ?_
                refine Rv (.int .i64 (k + 1)) w2 ?_
                refine wpR_nil ?_
                refine E_then_mid fun aq2 ha2 => ⟨(k + 1, k + 1, acc, s.extract (at_ : Int).toNat (k : Int).toNat, vl), ha2.sub ⟨rfl, rfl, rfl, rfl, rfl, rfl, rfl, trivial⟩, ⟨by omega, by omega, by omega, noSl_nil _ _, by omega, ref_skip (by omega) (by omega) (by omega) (fun _ => bne_eq_false_iff_eq.1 c6) hno (by first | (unfold emptyB; rw [c7]; rfl) | (unfold emptyB hereB; rw [c7, hc]; rfl)) hc, how, by omega, be2, sees2, trivial⟩, ?_⟩
                (first | omega | (dsimp only; omega))
              · refine Rw (.bool false) w2 (eq_bool (by kernel_rfl) c7) ?_
                refine Rv (.string (s.extract (at_ : Int).toNat (k : Int).toNat)) w2 ?_
                refine Rv (.bool ((s.extract (at_ : Int).toNat (k : Int).toNat).toList == (⟨#[46]⟩ : ByteArray).toList)) w2 ?_
                refine Rv (.bool ((s.extract (at_ : Int).toNat (k : Int).toNat).toList == (⟨#[46]⟩ : ByteArray).toList)) w2 ?_
                refine wpR_nil ?_
                refine E_then_normal ?_
                refine C_cond rfl (fun c8 => ?_) (fun c8 => ?_)
                · refine C_exit ?_
                  refine E_then_exit ?_
                  refine E_block_here ?_
                  refine E_then_normal ?_
                  refine Cs [(48, (.bool ((s.extract (at_ : Int).toNat (k : Int).toNat).toList == (⟨#[46]⟩ : ByteArray).toList))), (7, (.int .i64 (k + 1))), (6, (.string (s.extract (at_ : Int).toNat (k : Int).toNat))), (36, (.bool (((byteAt s k).toNat : Int) != 47))), (24, (.bool (decide (k ≤ (s.size : Int))))), (8, (.int .i64 k)), (5, vl), (19, (.bool (((byteAt s 0).toNat : Int) != 47))), (12, (.bool (decide ((s.size : Int) > 1000)))), (0, (.string s))] ?_
                  refine C_region ?_
                  refine Rv (.int .i64 k) w2 ?_
                  refine Rw (.int .i64 (k + 1)) w2 (eq_int (by kernel_rfl) (wrap64_in (by first | omega | (have hp2 := (starts_byte (s := s) (by assumption)).2; omega)) (by first | omega | (have hp2 := (starts_byte (s := s) (by assumption)).2; omega)))) ?_
                  refine Rv (.int .i64 (k + 1)) w2 ?_
                  refine wpR_nil ?_
                  refine E_then_mid fun aq3 ha3 => ⟨(k + 1, k + 1, acc, s.extract (at_ : Int).toNat (k : Int).toNat, vl), ha3.sub ⟨rfl, rfl, rfl, rfl, rfl, rfl, rfl, trivial⟩, ⟨by omega, by omega, by omega, noSl_nil _ _, by omega, ref_skip (by omega) (by omega) (by omega) (fun _ => bne_eq_false_iff_eq.1 c6) hno (by first | (unfold emptyB; rw [c7]; rfl) | (unfold emptyB hereB; rw [c7, c8]; rfl)) hc, how, by omega, be2, sees2, trivial⟩, ?_⟩
                  (first | omega | (dsimp only; omega))
                · refine C_skip ?_
                  refine E_then_normal ?_
                  refine C_seq ?_
                  refine C_seq ?_
                  refine Cs [(48, (.bool ((s.extract (at_ : Int).toNat (k : Int).toNat).toList == (⟨#[46]⟩ : ByteArray).toList))), (7, (.int .i64 (k + 1))), (6, (.string (s.extract (at_ : Int).toNat (k : Int).toNat))), (36, (.bool (((byteAt s k).toNat : Int) != 47))), (24, (.bool (decide (k ≤ (s.size : Int))))), (8, (.int .i64 k)), (5, vl), (19, (.bool (((byteAt s 0).toNat : Int) != 47))), (12, (.bool (decide ((s.size : Int) > 1000)))), (0, (.string s))] ?_
                  refine C_region ?_
                  refine Rv (.string (s.extract (at_ : Int).toNat (k : Int).toNat)) w2 ?_
                  refine Rv (.bool (!((s.extract (at_ : Int).toNat (k : Int).toNat).toList == (⟨#[46, 46]⟩ : ByteArray).toList))) w2 ?_
                  refine wpR_nil ?_
                  refine E_then_normal ?_
                  refine C_cond rfl (fun c9 => ?_) (fun c9 => ?_)
                  · refine C_seq ?_
                    refine Cs [(50, (.bool (!((s.extract (at_ : Int).toNat (k : Int).toNat).toList == (⟨#[46, 46]⟩ : ByteArray).toList)))), (48, (.bool ((s.extract (at_ : Int).toNat (k : Int).toNat).toList == (⟨#[46]⟩ : ByteArray).toList))), (7, (.int .i64 (k + 1))), (6, (.string (s.extract (at_ : Int).toNat (k : Int).toNat))), (36, (.bool (((byteAt s k).toNat : Int) != 47))), (24, (.bool (decide (k ≤ (s.size : Int))))), (8, (.int .i64 k)), (5, vl), (19, (.bool (((byteAt s 0).toNat : Int) != 47))), (12, (.bool (decide ((s.size : Int) > 1000)))), (0, (.string s))] ?_
                    refine C_region ?_
                    refine Rv (.string (s.extract (at_ : Int).toNat (k : Int).toNat)) w2 ?_
                    refine Rc #[(.string (s.extract (at_ : Int).toNat (k : Int).toNat))] w2 (refvalid_any (s.extract (at_ : Int).toNat (k : Int).toNat) (by omega) _) ?_
                    rintro _ w3 ⟨rfl, l1⟩
                    have sz1 := l1.size
                    have ow2 := how.le l1
                    have sees3 := sees2.le l1
                    have be3 := l1.below' be2
                    refine Rv (.int .i64 (validN (s.extract (at_ : Int).toNat (k : Int).toNat))) w3 ?_
                    refine wpR_nil ?_
                    refine E_then_normal ?_
                    refine C_seq ?_
                    refine Cs [(9, (.int .i64 (validN (s.extract (at_ : Int).toNat (k : Int).toNat)))), (50, (.bool (!((s.extract (at_ : Int).toNat (k : Int).toNat).toList == (⟨#[46, 46]⟩ : ByteArray).toList)))), (48, (.bool ((s.extract (at_ : Int).toNat (k : Int).toNat).toList == (⟨#[46]⟩ : ByteArray).toList))), (7, (.int .i64 (k + 1))), (6, (.string (s.extract (at_ : Int).toNat (k : Int).toNat))), (36, (.bool (((byteAt s k).toNat : Int) != 47))), (24, (.bool (decide (k ≤ (s.size : Int))))), (8, (.int .i64 k)), (5, vl), (19, (.bool (((byteAt s 0).toNat : Int) != 47))), (12, (.bool (decide ((s.size : Int) > 1000)))), (0, (.string s))] ?_
                    refine C_region ?_
                    refine Rv (.int .i64 (validN (s.extract (at_ : Int).toNat (k : Int).toNat))) w3 ?_
                    refine Rv (.bool ((validN (s.extract (at_ : Int).toNat (k : Int).toNat)) != 0)) w3 ?_
                    refine wpR_nil ?_
                    refine E_then_normal ?_
                    refine C_cond rfl (fun c10 => ?_) (fun c10 => ?_)
                    · have d10 : (validN (s.extract (at_ : Int).toNat (k : Int).toNat)) ≠ 0 := bne_iff_ne.1 c10
                      refine C_seq ?_
                      refine Cs [(54, (.bool ((validN (s.extract (at_ : Int).toNat (k : Int).toNat)) != 0))), (9, (.int .i64 (validN (s.extract (at_ : Int).toNat (k : Int).toNat)))), (50, (.bool (!((s.extract (at_ : Int).toNat (k : Int).toNat).toList == (⟨#[46, 46]⟩ : ByteArray).toList)))), (48, (.bool ((s.extract (at_ : Int).toNat (k : Int).toNat).toList == (⟨#[46]⟩ : ByteArray).toList))), (7, (.int .i64 (k + 1))), (6, (.string (s.extract (at_ : Int).toNat (k : Int).toNat))), (36, (.bool (((byteAt s k).toNat : Int) != 47))), (24, (.bool (decide (k ≤ (s.size : Int))))), (8, (.int .i64 k)), (5, vl), (19, (.bool (((byteAt s 0).toNat : Int) != 47))), (12, (.bool (decide ((s.size : Int) > 1000)))), (0, (.string s))] ?_
                      refine C_region ?_
                      refine Rv (.int .i64 (validN (s.extract (at_ : Int).toNat (k : Int).toNat))) w3 ?_
                      refine Rv (.slice none 0 0) w3 ?_
                      refine Rv (.bool false) w3 ?_
                      refine Rv (.int .i64 (validN (s.extract (at_ : Int).toNat (k : Int).toNat))) w3 ?_
                      refine wpR_nil ?_
                      refine E_then_normal ?_
                      refine C_ret ?_
                      refine E_then_ret ?_
                      refine E_block_ret ?_
                      refine E_then_ret ?_
                      refine E_then_ret ?_
                      refine E_block_ret ?_
                      refine E_then_ret ?_
                      refine E_ret (res_three rfl rfl rfl rfl) ⟨_, rfl, ?_⟩
                      have hR := ref_bad (by omega) (by omega) (by omega) (fun _ => bne_eq_false_iff_eq.1 c6) hno c7 c8 (notB_t c9) c10 hc
                      rw [hR]
                      exact ⟨_, rfl, is_nil _, be3⟩
                    · have d10 : (validN (s.extract (at_ : Int).toNat (k : Int).toNat)) = 0 := bne_eq_false_iff_eq.1 c10
                      refine C_skip ?_
                      refine E_then_normal ?_
                      refine Cs [(54, (.bool ((validN (s.extract (at_ : Int).toNat (k : Int).toNat)) != 0))), (9, (.int .i64 (validN (s.extract (at_ : Int).toNat (k : Int).toNat)))), (50, (.bool (!((s.extract (at_ : Int).toNat (k : Int).toNat).toList == (⟨#[46, 46]⟩ : ByteArray).toList)))), (48, (.bool ((s.extract (at_ : Int).toNat (k : Int).toNat).toList == (⟨#[46]⟩ : ByteArray).toList))), (7, (.int .i64 (k + 1))), (6, (.string (s.extract (at_ : Int).toNat (k : Int).toNat))), (36, (.bool (((byteAt s k).toNat : Int) != 47))), (24, (.bool (decide (k ≤ (s.size : Int))))), (8, (.int .i64 k)), (5, vl), (19, (.bool (((byteAt s 0).toNat : Int) != 47))), (12, (.bool (decide ((s.size : Int) > 1000)))), (0, (.string s))] ?_
                      refine C_region ?_
                      refine Rv vl w3 ?_
                      refine Rv (.string (s.extract (at_ : Int).toNat (k : Int).toNat)) w3 ?_
                      refine S_new (fun b => .slice (some ⟨b, 0, none⟩) 1 1) (.cells #[(.string (s.extract (at_ : Int).toNat (k : Int).toNat))] 9) (by kernel_rfl) (by kernel_rfl) rfl rfl rfl fun b2 w4 n2 => ?_
                      have sz2 := n2.le.size
                      have ow3 := ow2.le n2.le
                      have ni2 := n2.notIn sees3
                      have sees4 := sees3.le n2.le
                      have k2 := n2.blk
                      have o2 := n2.own be3
                      have be4 := n2.below' be3
                      refine S_append1 (bytes := 16) (a := s.extract (at_ : Int).toNat (k : Int).toNat) (c := [(.string (s.extract (at_ : Int).toNat (k : Int).toNat))]) ow3 k2 ⟨rfl, (by unfold maxLen; omega)⟩ Tryd.underlying26 (by kernel_rfl) (by kernel_rfl) (by decide) rfl (by first | omega | (have hp2 := (starts_byte (s := s) (by assumption)).2; omega)) (by first | omega | (have hp2 := (starts_byte (s := s) (by assumption)).2; omega)) (by first | omega | (have hp2 := (starts_byte (s := s) (by assumption)).2; omega)) rfl rfl rfl rfl rfl rfl fun v1 w5 ow4 bl1 => ?_
                      have sz3 := bl1.size
                      have sees5 := sees4.grew sees.size bl1
                      have be5 := be4.trans (bl1.mono (Nat.le_refl _))
                      refine Rv v1 w5 ?_
                      refine wpR_nil ?_
                      refine E_block_normal ?_
                      refine E_then_normal ?_
                      refine Cs [(5, v1), (54, (.bool ((validN (s.extract (at_ : Int).toNat (k : Int).toNat)) != 0))), (9, (.int .i64 (validN (s.extract (at_ : Int).toNat (k : Int).toNat)))), (50, (.bool (!((s.extract (at_ : Int).toNat (k : Int).toNat).toList == (⟨#[46, 46]⟩ : ByteArray).toList)))), (48, (.bool ((s.extract (at_ : Int).toNat (k : Int).toNat).toList == (⟨#[46]⟩ : ByteArray).toList))), (7, (.int .i64 (k + 1))), (6, (.string (s.extract (at_ : Int).toNat (k : Int).toNat))), (36, (.bool (((byteAt s k).toNat : Int) != 47))), (24, (.bool (decide (k ≤ (s.size : Int))))), (8, (.int .i64 k)), (19, (.bool (((byteAt s 0).toNat : Int) != 47))), (12, (.bool (decide ((s.size : Int) > 1000)))), (0, (.string s))] ?_
                      refine C_region ?_
                      refine Rv (.int .i64 k) w5 ?_
                      refine Rw (.int .i64 (k + 1)) w5 (eq_int (by kernel_rfl) (wrap64_in (by first | omega | (have hp2 := (starts_byte (s := s) (by assumption)).2; omega)) (by first | omega | (have hp2 := (starts_byte (s := s) (by assumption)).2; omega)))) ?_
                      refine Rv (.int .i64 (k + 1)) w5 ?_
                      refine wpR_nil ?_
                      refine E_then_mid fun aq4 ha4 => ⟨(k + 1, k + 1, acc ++ [s.extract (at_ : Int).toNat (k : Int).toNat], s.extract (at_ : Int).toNat (k : Int).toNat, v1), ha4.sub ⟨rfl, rfl, rfl, rfl, rfl, rfl, rfl, trivial⟩, ⟨by omega, by omega, by omega, noSl_nil _ _, by simp only [List.length_append, List.length_cons, List.length_nil]; omega, ref_good (by omega) (by omega) (by omega) (fun _ => bne_eq_false_iff_eq.1 c6) hno c7 c8 (notB_t c9) c10 hc, ow4, by omega, be5, sees5, trivial⟩, ?_⟩
                      (first | omega | (dsimp only; omega))
                  · refine C_skip ?_
                    refine E_then_normal ?_
                    refine Cs [(50, (.bool (!((s.extract (at_ : Int).toNat (k : Int).toNat).toList == (⟨#[46, 46]⟩ : ByteArray).toList)))), (48, (.bool ((s.extract (at_ : Int).toNat (k : Int).toNat).toList == (⟨#[46]⟩ : ByteArray).toList))), (7, (.int .i64 (k + 1))), (6, (.string (s.extract (at_ : Int).toNat (k : Int).toNat))), (36, (.bool (((byteAt s k).toNat : Int) != 47))), (24, (.bool (decide (k ≤ (s.size : Int))))), (8, (.int .i64 k)), (5, vl), (19, (.bool (((byteAt s 0).toNat : Int) != 47))), (12, (.bool (decide ((s.size : Int) > 1000)))), (0, (.string s))] ?_
                    refine C_region ?_
                    refine Rv vl w2 ?_
                    refine Rv (.string (s.extract (at_ : Int).toNat (k : Int).toNat)) w2 ?_
                    refine S_new (fun b => .slice (some ⟨b, 0, none⟩) 1 1) (.cells #[(.string (s.extract (at_ : Int).toNat (k : Int).toNat))] 9) (by kernel_rfl) (by kernel_rfl) rfl rfl rfl fun b3 w6 n3 => ?_
                    have sz4 := n3.le.size
                    have ow5 := how.le n3.le
                    have ni3 := n3.notIn sees2
                    have sees6 := sees2.le n3.le
                    have k3 := n3.blk
                    have o3 := n3.own be2
                    have be6 := n3.below' be2
                    refine S_append1 (bytes := 16) (a := s.extract (at_ : Int).toNat (k : Int).toNat) (c := [(.string (s.extract (at_ : Int).toNat (k : Int).toNat))]) ow5 k3 ⟨rfl, (by unfold maxLen; omega)⟩ Tryd.underlying26 (by kernel_rfl) (by kernel_rfl) (by decide) rfl (by first | omega | (have hp2 := (starts_byte (s := s) (by assumption)).2; omega)) (by first | omega | (have hp2 := (starts_byte (s := s) (by assumption)).2; omega)) (by first | omega | (have hp2 := (starts_byte (s := s) (by assumption)).2; omega)) rfl rfl rfl rfl rfl rfl fun v2 w7 ow6 bl2 => ?_
                    have sz5 := bl2.size
                    have sees7 := sees6.grew sees.size bl2
                    have be7 := be6.trans (bl2.mono (Nat.le_refl _))
                    refine Rv v2 w7 ?_
                    refine wpR_nil ?_
                    refine E_block_normal ?_
                    refine E_then_normal ?_
                    refine Cs [(5, v2), (50, (.bool (!((s.extract (at_ : Int).toNat (k : Int).toNat).toList == (⟨#[46, 46]⟩ : ByteArray).toList)))), (48, (.bool ((s.extract (at_ : Int).toNat (k : Int).toNat).toList == (⟨#[46]⟩ : ByteArray).toList))), (7, (.int .i64 (k + 1))), (6, (.string (s.extract (at_ : Int).toNat (k : Int).toNat))), (36, (.bool (((byteAt s k).toNat : Int) != 47))), (24, (.bool (decide (k ≤ (s.size : Int))))), (8, (.int .i64 k)), (19, (.bool (((byteAt s 0).toNat : Int) != 47))), (12, (.bool (decide ((s.size : Int) > 1000)))), (0, (.string s))] ?_
                    refine C_region ?_
                    refine Rv (.int .i64 k) w7 ?_
                    refine Rw (.int .i64 (k + 1)) w7 (eq_int (by kernel_rfl) (wrap64_in (by first | omega | (have hp2 := (starts_byte (s := s) (by assumption)).2; omega)) (by first | omega | (have hp2 := (starts_byte (s := s) (by assumption)).2; omega)))) ?_
                    refine Rv (.int .i64 (k + 1)) w7 ?_
                    refine wpR_nil ?_
                    refine E_then_mid fun aq5 ha5 => ⟨(k + 1, k + 1, acc ++ [s.extract (at_ : Int).toNat (k : Int).toNat], s.extract (at_ : Int).toNat (k : Int).toNat, v2), ha5.sub ⟨rfl, rfl, rfl, rfl, rfl, rfl, rfl, trivial⟩, ⟨by omega, by omega, by omega, noSl_nil _ _, by simp only [List.length_append, List.length_cons, List.length_nil]; omega, ref_above (by omega) (by omega) (by omega) (fun _ => bne_eq_false_iff_eq.1 c6) hno c7 c8 (notB_f c9) hc, ow6, by omega, be7, sees7, trivial⟩, ?_⟩
                    (first | omega | (dsimp only; omega))
          · have d5 : ¬ k < (s.size : Int) := of_decide_eq_false c5
            refine Rw (.bool false) w2 (eq_bool (by kernel_rfl) c5) ?_
            iterate 4 refine Rs ?_
            refine Rv (.bool false) w2 ?_
            refine wpR_nil ?_
            refine E_then_normal ?_
            refine C_false rfl ?_
            refine C_skip ?_
            refine E_then_normal ?_
            refine C_seq ?_
            refine Cs [(36, (.bool false)), (24, (.bool (decide (k ≤ (s.size : Int))))), (8, (.int .i64 k)), (7, (.int .i64 at_)), (6, (.string last)), (5, vl), (19, (.bool (((byteAt s 0).toNat : Int) != 47))), (12, (.bool (decide ((s.size : Int) > 1000)))), (0, (.string s))] ?_
            refine C_region ?_
            refine Rv (.string s) w2 ?_
            refine Rv (.int .i64 at_) w2 ?_
            refine Rv (.int .i64 k) w2 ?_
            refine Rw (.string (s.extract (at_ : Int).toNat (k : Int).toNat)) w2 (X_slice_str (l := at_) (h := k) (by first | omega | (have hp2 := (starts_byte (s := s) (by assumption)).2; omega)) (by first | omega | (have hp2 := (starts_byte (s := s) (by assumption)).2; omega)) (by first | omega | (have hp2 := (starts_byte (s := s) (by assumption)).2; omega)) rfl Tryd.underlying9 rfl (.inr ⟨_, rfl, rfl⟩) (.inr ⟨_, rfl, rfl⟩)) ?_
            refine Rv (.string (s.extract (at_ : Int).toNat (k : Int).toNat)) w2 ?_
            refine wpR_nil ?_
            refine E_then_normal ?_
            refine C_seq ?_
            refine Cs [(6, (.string (s.extract (at_ : Int).toNat (k : Int).toNat))), (36, (.bool false)), (24, (.bool (decide (k ≤ (s.size : Int))))), (8, (.int .i64 k)), (7, (.int .i64 at_)), (5, vl), (19, (.bool (((byteAt s 0).toNat : Int) != 47))), (12, (.bool (decide ((s.size : Int) > 1000)))), (0, (.string s))] ?_
            refine C_region ?_
            refine Rv (.int .i64 k) w2 ?_
            refine Rw (.int .i64 (k + 1)) w2 (eq_int (by kernel_rfl) (wrap64_in (by first | omega | (have hp2 := (starts_byte (s := s) (by assumption)).2; omega)) (by first | omega | (have hp2 := (starts_byte (s := s) (by assumption)).2; omega)))) ?_
            refine Rv (.int .i64 (k + 1)) w2 ?_
            refine wpR_nil ?_
            refine E_then_normal ?_
            refine C_seq ?_
            refine C_seq ?_
            refine Cs [(7, (.int .i64 (k + 1))), (6, (.string (s.extract (at_ : Int).toNat (k : Int).toNat))), (36, (.bool false)), (24, (.bool (decide (k ≤ (s.size : Int))))), (8, (.int .i64 k)), (5, vl), (19, (.bool (((byteAt s 0).toNat : Int) != 47))), (12, (.bool (decide ((s.size : Int) > 1000)))), (0, (.string s))] ?_
            refine C_region ?_
            refine Rv (.string (s.extract (at_ : Int).toNat (k : Int).toNat)) w2 ?_
            refine Rv (.bool ((s.extract (at_ : Int).toNat (k : Int).toNat).toList == (⟨#[]⟩ : ByteArray).toList)) w2 ?_
            rcases Bool.eq_false_or_eq_true ((s.extract (at_ : Int).toNat (k : Int).toNat).toList == (⟨#[]⟩ : ByteArray).toList) with c11 | c11
            · refine Rw (.bool true) w2 (eq_bool (by kernel_rfl) c11) ?_
              iterate 2 refine Rs ?_
              refine Rv (.bool true) w2 ?_
              refine wpR_nil ?_
              refine E_then_normal ?_
              refine C_true rfl ?_
              refine C_exit ?_
              refine E_then_exit ?_
              refine E_block_here ?_
              refine E_then_normal ?_
              refine Cs [(48, (.bool true)), (7, (.int .i64 (k + 1))), (6, (.string (s.extract (at_ : Int).toNat (k : Int).toNat))), (36, (.bool false)), (24, (.bool (decide (k ≤ (s.size : Int))))), (8, (.int .i64 k)), (5, vl), (19, (.bool (((byteAt s 0).toNat : Int) != 47))), (12, (.bool (decide ((s.size : Int) > 1000)))), (0, (.string s))] ?_
              refine C_region ?_
              refine Rv (.int .i64 k) w2 ?_
              refine Rw (.int .i64 (k + 1)) w2 (eq_int (by kernel_rfl) (wrap64_in (by first | omega | (have hp2 := (starts_byte (s := s) (by assumption)).2; omega)) (by first | omega | (have hp2 := (starts_byte (s := s) (by assumption)).2; omega)))) ?_
              refine Rv (.int .i64 (k + 1)) w2 ?_
              refine wpR_nil ?_
              refine E_then_mid fun aq6 ha6 => ⟨(k + 1, k + 1, acc, s.extract (at_ : Int).toNat (k : Int).toNat, vl), ha6.sub ⟨rfl, rfl, rfl, rfl, rfl, rfl, rfl, trivial⟩, ⟨by omega, by omega, by omega, noSl_nil _ _, by omega, ref_skip (by omega) (by omega) (by omega) (fun h => absurd h (by omega)) hno (by first | (unfold emptyB; rw [c11]; rfl) | (unfold emptyB hereB; rw [c11, hc]; rfl)) hc, how, by omega, be2, sees2, trivial⟩, ?_⟩
              (first | omega | (dsimp only; omega))
            · refine Rw (.bool false) w2 (eq_bool (by kernel_rfl) c11) ?_
              refine Rv (.string (s.extract (at_ : Int).toNat (k : Int).toNat)) w2 ?_
              refine Rv (.bool ((s.extract (at_ : Int).toNat (k : Int).toNat).toList == (⟨#[46]⟩ : ByteArray).toList)) w2 ?_
              refine Rv (.bool ((s.extract (at_ : Int).toNat (k : Int).toNat).toList == (⟨#[46]⟩ : ByteArray).toList)) w2 ?_
              refine wpR_nil ?_
              refine E_then_normal ?_
              refine C_cond rfl (fun c12 => ?_) (fun c12 => ?_)
              · refine C_exit ?_
                refine E_then_exit ?_
                refine E_block_here ?_
                refine E_then_normal ?_
                refine Cs [(48, (.bool ((s.extract (at_ : Int).toNat (k : Int).toNat).toList == (⟨#[46]⟩ : ByteArray).toList))), (7, (.int .i64 (k + 1))), (6, (.string (s.extract (at_ : Int).toNat (k : Int).toNat))), (36, (.bool false)), (24, (.bool (decide (k ≤ (s.size : Int))))), (8, (.int .i64 k)), (5, vl), (19, (.bool (((byteAt s 0).toNat : Int) != 47))), (12, (.bool (decide ((s.size : Int) > 1000)))), (0, (.string s))] ?_
                refine C_region ?_
                refine Rv (.int .i64 k) w2 ?_
                refine Rw (.int .i64 (k + 1)) w2 (eq_int (by kernel_rfl) (wrap64_in (by first | omega | (have hp2 := (starts_byte (s := s) (by assumption)).2; omega)) (by first | omega | (have hp2 := (starts_byte (s := s) (by assumption)).2; omega)))) ?_
                refine Rv (.int .i64 (k + 1)) w2 ?_
                refine wpR_nil ?_
                refine E_then_mid fun aq7 ha7 => ⟨(k + 1, k + 1, acc, s.extract (at_ : Int).toNat (k : Int).toNat, vl), ha7.sub ⟨rfl, rfl, rfl, rfl, rfl, rfl, rfl, trivial⟩, ⟨by omega, by omega, by omega, noSl_nil _ _, by omega, ref_skip (by omega) (by omega) (by omega) (fun h => absurd h (by omega)) hno (by first | (unfold emptyB; rw [c11]; rfl) | (unfold emptyB hereB; rw [c11, c12]; rfl)) hc, how, by omega, be2, sees2, trivial⟩, ?_⟩
                (first | omega | (dsimp only; omega))
              · refine C_skip ?_
                refine E_then_normal ?_
                refine C_seq ?_
                refine C_seq ?_
                refine Cs [(48, (.bool ((s.extract (at_ : Int).toNat (k : Int).toNat).toList == (⟨#[46]⟩ : ByteArray).toList))), (7, (.int .i64 (k + 1))), (6, (.string (s.extract (at_ : Int).toNat (k : Int).toNat))), (36, (.bool false)), (24, (.bool (decide (k ≤ (s.size : Int))))), (8, (.int .i64 k)), (5, vl), (19, (.bool (((byteAt s 0).toNat : Int) != 47))), (12, (.bool (decide ((s.size : Int) > 1000)))), (0, (.string s))] ?_
                refine C_region ?_
                refine Rv (.string (s.extract (at_ : Int).toNat (k : Int).toNat)) w2 ?_
                refine Rv (.bool (!((s.extract (at_ : Int).toNat (k : Int).toNat).toList == (⟨#[46, 46]⟩ : ByteArray).toList))) w2 ?_
                refine wpR_nil ?_
                refine E_then_normal ?_
                refine C_cond rfl (fun c13 => ?_) (fun c13 => ?_)
                · refine C_seq ?_
                  refine Cs [(50, (.bool (!((s.extract (at_ : Int).toNat (k : Int).toNat).toList == (⟨#[46, 46]⟩ : ByteArray).toList)))), (48, (.bool ((s.extract (at_ : Int).toNat (k : Int).toNat).toList == (⟨#[46]⟩ : ByteArray).toList))), (7, (.int .i64 (k + 1))), (6, (.string (s.extract (at_ : Int).toNat (k : Int).toNat))), (36, (.bool false)), (24, (.bool (decide (k ≤ (s.size : Int))))), (8, (.int .i64 k)), (5, vl), (19, (.bool (((byteAt s 0).toNat : Int) != 47))), (12, (.bool (decide ((s.size : Int) > 1000)))), (0, (.string s))] ?_
                  refine C_region ?_
                  refine Rv (.string (s.extract (at_ : Int).toNat (k : Int).toNat)) w2 ?_
                  refine Rc #[(.string (s.extract (at_ : Int).toNat (k : Int).toNat))] w2 (refvalid_any (s.extract (at_ : Int).toNat (k : Int).toNat) (by omega) _) ?_
                  rintro _ w8 ⟨rfl, l2⟩
                  have sz6 := l2.size
                  have ow7 := how.le l2
                  have sees8 := sees2.le l2
                  have be8 := l2.below' be2
                  refine Rv (.int .i64 (validN (s.extract (at_ : Int).toNat (k : Int).toNat))) w8 ?_
                  refine wpR_nil ?_
                  refine E_then_normal ?_
                  refine C_seq ?_
                  refine Cs [(9, (.int .i64 (validN (s.extract (at_ : Int).toNat (k : Int).toNat)))), (50, (.bool (!((s.extract (at_ : Int).toNat (k : Int).toNat).toList == (⟨#[46, 46]⟩ : ByteArray).toList)))), (48, (.bool ((s.extract (at_ : Int).toNat (k : Int).toNat).toList == (⟨#[46]⟩ : ByteArray).toList))), (7, (.int .i64 (k + 1))), (6, (.string (s.extract (at_ : Int).toNat (k : Int).toNat))), (36, (.bool false)), (24, (.bool (decide (k ≤ (s.size : Int))))), (8, (.int .i64 k)), (5, vl), (19, (.bool (((byteAt s 0).toNat : Int) != 47))), (12, (.bool (decide ((s.size : Int) > 1000)))), (0, (.string s))] ?_
                  refine C_region ?_
                  refine Rv (.int .i64 (validN (s.extract (at_ : Int).toNat (k : Int).toNat))) w8 ?_
                  refine Rv (.bool ((validN (s.extract (at_ : Int).toNat (k : Int).toNat)) != 0)) w8 ?_
                  refine wpR_nil ?_
                  refine E_then_normal ?_
                  refine C_cond rfl (fun c14 => ?_) (fun c14 => ?_)
                  · have d14 : (validN (s.extract (at_ : Int).toNat (k : Int).toNat)) ≠ 0 := bne_iff_ne.1 c14
                    refine C_seq ?_
                    refine Cs [(54, (.bool ((validN (s.extract (at_ : Int).toNat (k : Int).toNat)) != 0))), (9, (.int .i64 (validN (s.extract (at_ : Int).toNat (k : Int).toNat)))), (50, (.bool (!((s.extract (at_ : Int).toNat (k : Int).toNat).toList == (⟨#[46, 46]⟩ : ByteArray).toList)))), (48, (.bool ((s.extract (at_ : Int).toNat (k : Int).toNat).toList == (⟨#[46]⟩ : ByteArray).toList))), (7, (.int .i64 (k + 1))), (6, (.string (s.extract (at_ : Int).toNat (k : Int).toNat))), (36, (.bool false)), (24, (.bool (decide (k ≤ (s.size : Int))))), (8, (.int .i64 k)), (5, vl), (19, (.bool (((byteAt s 0).toNat : Int) != 47))), (12, (.bool (decide ((s.size : Int) > 1000)))), (0, (.string s))] ?_
                    refine C_region ?_
                    refine Rv (.int .i64 (validN (s.extract (at_ : Int).toNat (k : Int).toNat))) w8 ?_
                    refine Rv (.slice none 0 0) w8 ?_
                    refine Rv (.bool false) w8 ?_
                    refine Rv (.int .i64 (validN (s.extract (at_ : Int).toNat (k : Int).toNat))) w8 ?_
                    refine wpR_nil ?_
                    refine E_then_normal ?_
                    refine C_ret ?_
                    refine E_then_ret ?_
                    refine E_block_ret ?_
                    refine E_then_ret ?_
                    refine E_then_ret ?_
                    refine E_block_ret ?_
                    refine E_then_ret ?_
                    refine E_ret (res_three rfl rfl rfl rfl) ⟨_, rfl, ?_⟩
                    have hR := ref_bad (by omega) (by omega) (by omega) (fun h => absurd h (by omega)) hno c11 c12 (notB_t c13) c14 hc
                    rw [hR]
                    exact ⟨_, rfl, is_nil _, be8⟩
                  · have d14 : (validN (s.extract (at_ : Int).toNat (k : Int).toNat)) = 0 := bne_eq_false_iff_eq.1 c14
                    refine C_skip ?_
                    refine E_then_normal ?_
                    refine Cs [(54, (.bool ((validN (s.extract (at_ : Int).toNat (k : Int).toNat)) != 0))), (9, (.int .i64 (validN (s.extract (at_ : Int).toNat (k : Int).toNat)))), (50, (.bool (!((s.extract (at_ : Int).toNat (k : Int).toNat).toList == (⟨#[46, 46]⟩ : ByteArray).toList)))), (48, (.bool ((s.extract (at_ : Int).toNat (k : Int).toNat).toList == (⟨#[46]⟩ : ByteArray).toList))), (7, (.int .i64 (k + 1))), (6, (.string (s.extract (at_ : Int).toNat (k : Int).toNat))), (36, (.bool false)), (24, (.bool (decide (k ≤ (s.size : Int))))), (8, (.int .i64 k)), (5, vl), (19, (.bool (((byteAt s 0).toNat : Int) != 47))), (12, (.bool (decide ((s.size : Int) > 1000)))), (0, (.string s))] ?_
                    refine C_region ?_
                    refine Rv vl w8 ?_
                    refine Rv (.string (s.extract (at_ : Int).toNat (k : Int).toNat)) w8 ?_
                    refine S_new (fun b => .slice (some ⟨b, 0, none⟩) 1 1) (.cells #[(.string (s.extract (at_ : Int).toNat (k : Int).toNat))] 9) (by kernel_rfl) (by kernel_rfl) rfl rfl rfl fun b4 w9 n4 => ?_
                    have sz7 := n4.le.size
                    have ow8 := ow7.le n4.le
                    have ni4 := n4.notIn sees8
                    have sees9 := sees8.le n4.le
                    have k4 := n4.blk
                    have o4 := n4.own be8
                    have be9 := n4.below' be8
                    refine S_append1 (bytes := 16) (a := s.extract (at_ : Int).toNat (k : Int).toNat) (c := [(.string (s.extract (at_ : Int).toNat (k : Int).toNat))]) ow8 k4 ⟨rfl, (by unfold maxLen; omega)⟩ Tryd.underlying26 (by kernel_rfl) (by kernel_rfl) (by decide) rfl (by first | omega | (have hp2 := (starts_byte (s := s) (by assumption)).2; omega)) (by first | omega | (have hp2 := (starts_byte (s := s) (by assumption)).2; omega)) (by first | omega | (have hp2 := (starts_byte (s := s) (by assumption)).2; omega)) rfl rfl rfl rfl rfl rfl fun v3 w10 ow9 bl3 => ?_
                    have sz8 := bl3.size
                    have sees10 := sees9.grew sees.size bl3
                    have be10 := be9.trans (bl3.mono (Nat.le_refl _))
                    refine Rv v3 w10 ?_
                    refine wpR_nil ?_
                    refine E_block_normal ?_
                    refine E_then_normal ?_
                    refine Cs [(5, v3), (54, (.bool ((validN (s.extract (at_ : Int).toNat (k : Int).toNat)) != 0))), (9, (.int .i64 (validN (s.extract (at_ : Int).toNat (k : Int).toNat)))), (50, (.bool (!((s.extract (at_ : Int).toNat (k : Int).toNat).toList == (⟨#[46, 46]⟩ : ByteArray).toList)))), (48, (.bool ((s.extract (at_ : Int).toNat (k : Int).toNat).toList == (⟨#[46]⟩ : ByteArray).toList))), (7, (.int .i64 (k + 1))), (6, (.string (s.extract (at_ : Int).toNat (k : Int).toNat))), (36, (.bool false)), (24, (.bool (decide (k ≤ (s.size : Int))))), (8, (.int .i64 k)), (19, (.bool (((byteAt s 0).toNat : Int) != 47))), (12, (.bool (decide ((s.size : Int) > 1000)))), (0, (.string s))] ?_
                    refine C_region ?_
                    refine Rv (.int .i64 k) w10 ?_
                    refine Rw (.int .i64 (k + 1)) w10 (eq_int (by kernel_rfl) (wrap64_in (by first | omega | (have hp2 := (starts_byte (s := s) (by assumption)).2; omega)) (by first | omega | (have hp2 := (starts_byte (s := s) (by assumption)).2; omega)))) ?_
                    refine Rv (.int .i64 (k + 1)) w10 ?_
                    refine wpR_nil ?_
                    refine E_then_mid fun aq8 ha8 => ⟨(k + 1, k + 1, acc ++ [s.extract (at_ : Int).toNat (k : Int).toNat], s.extract (at_ : Int).toNat (k : Int).toNat, v3), ha8.sub ⟨rfl, rfl, rfl, rfl, rfl, rfl, rfl, trivial⟩, ⟨by omega, by omega, by omega, noSl_nil _ _, by simp only [List.length_append, List.length_cons, List.length_nil]; omega, ref_good (by omega) (by omega) (by omega) (fun h => absurd h (by omega)) hno c11 c12 (notB_t c13) c14 hc, ow9, by omega, be10, sees10, trivial⟩, ?_⟩
                    (first | omega | (dsimp only; omega))
                · refine C_skip ?_
                  refine E_then_normal ?_
                  refine Cs [(50, (.bool (!((s.extract (at_ : Int).toNat (k : Int).toNat).toList == (⟨#[46, 46]⟩ : ByteArray).toList)))), (48, (.bool ((s.extract (at_ : Int).toNat (k : Int).toNat).toList == (⟨#[46]⟩ : ByteArray).toList))), (7, (.int .i64 (k + 1))), (6, (.string (s.extract (at_ : Int).toNat (k : Int).toNat))), (36, (.bool false)), (24, (.bool (decide (k ≤ (s.size : Int))))), (8, (.int .i64 k)), (5, vl), (19, (.bool (((byteAt s 0).toNat : Int) != 47))), (12, (.bool (decide ((s.size : Int) > 1000)))), (0, (.string s))] ?_
                  refine C_region ?_
                  refine Rv vl w2 ?_
                  refine Rv (.string (s.extract (at_ : Int).toNat (k : Int).toNat)) w2 ?_
                  refine S_new (fun b => .slice (some ⟨b, 0, none⟩) 1 1) (.cells #[(.string (s.extract (at_ : Int).toNat (k : Int).toNat))] 9) (by kernel_rfl) (by kernel_rfl) rfl rfl rfl fun b5 w11 n5 => ?_
                  have sz9 := n5.le.size
                  have ow10 := how.le n5.le
                  have ni5 := n5.notIn sees2
                  have sees11 := sees2.le n5.le
                  have k5 := n5.blk
                  have o5 := n5.own be2
                  have be11 := n5.below' be2
                  refine S_append1 (bytes := 16) (a := s.extract (at_ : Int).toNat (k : Int).toNat) (c := [(.string (s.extract (at_ : Int).toNat (k : Int).toNat))]) ow10 k5 ⟨rfl, (by unfold maxLen; omega)⟩ Tryd.underlying26 (by kernel_rfl) (by kernel_rfl) (by decide) rfl (by first | omega | (have hp2 := (starts_byte (s := s) (by assumption)).2; omega)) (by first | omega | (have hp2 := (starts_byte (s := s) (by assumption)).2; omega)) (by first | omega | (have hp2 := (starts_byte (s := s) (by assumption)).2; omega)) rfl rfl rfl rfl rfl rfl fun v4 w12 ow11 bl4 => ?_
                  have sz10 := bl4.size
                  have sees12 := sees11.grew sees.size bl4
                  have be12 := be11.trans (bl4.mono (Nat.le_refl _))
                  refine Rv v4 w12 ?_
                  refine wpR_nil ?_
                  refine E_block_normal ?_
                  refine E_then_normal ?_
                  refine Cs [(5, v4), (50, (.bool (!((s.extract (at_ : Int).toNat (k : Int).toNat).toList == (⟨#[46, 46]⟩ : ByteArray).toList)))), (48, (.bool ((s.extract (at_ : Int).toNat (k : Int).toNat).toList == (⟨#[46]⟩ : ByteArray).toList))), (7, (.int .i64 (k + 1))), (6, (.string (s.extract (at_ : Int).toNat (k : Int).toNat))), (36, (.bool false)), (24, (.bool (decide (k ≤ (s.size : Int))))), (8, (.int .i64 k)), (19, (.bool (((byteAt s 0).toNat : Int) != 47))), (12, (.bool (decide ((s.size : Int) > 1000)))), (0, (.string s))] ?_
                  refine C_region ?_
                  refine Rv (.int .i64 k) w12 ?_
                  refine Rw (.int .i64 (k + 1)) w12 (eq_int (by kernel_rfl) (wrap64_in (by first | omega | (have hp2 := (starts_byte (s := s) (by assumption)).2; omega)) (by first | omega | (have hp2 := (starts_byte (s := s) (by assumption)).2; omega)))) ?_
                  refine Rv (.int .i64 (k + 1)) w12 ?_
                  refine wpR_nil ?_
                  refine E_then_mid fun aq9 ha9 => ⟨(k + 1, k + 1, acc ++ [s.extract (at_ : Int).toNat (k : Int).toNat], s.extract (at_ : Int).toNat (k : Int).toNat, v4), ha9.sub ⟨rfl, rfl, rfl, rfl, rfl, rfl, rfl, trivial⟩, ⟨by omega, by omega, by omega, noSl_nil _ _, by simp only [List.length_append, List.length_cons, List.length_nil]; omega, ref_above (by omega) (by omega) (by omega) (fun h => absurd h (by omega)) hno c11 c12 (notB_f c13) hc, ow11, by omega, be12, sees12, trivial⟩, ?_⟩
                  (first | omega | (dsimp only; omega))
        · have d4 : ¬ k ≤ (s.size : Int) := of_decide_eq_false c4
          refine C_exit ?_
          refine E_then_exit ?_
          refine E_then_exit ?_
          refine E_block_here ?_
          refine E_then_normal ?_
          refine C_seq ?_
          refine Cs [(24, (.bool (decide (k ≤ (s.size : Int))))), (8, (.int .i64 k)), (7, (.int .i64 at_)), (6, (.string last)), (5, vl), (19, (.bool (((byteAt s 0).toNat : Int) != 47))), (12, (.bool (decide ((s.size : Int) > 1000)))), (0, (.string s))] ?_
          refine C_region ?_
          refine Rv vl w2 ?_
          refine Rv (.string last) w2 ?_
          refine Rv (.bool (last.toList == (⟨#[]⟩ : ByteArray).toList)) w2 ?_
          rcases Bool.eq_false_or_eq_true (last.toList == (⟨#[]⟩ : ByteArray).toList) with c15 | c15
          · refine Rw (.bool true) w2 (eq_bool (by kernel_rfl) c15) ?_
            iterate 2 refine Rs ?_
            refine Rv (.bool true) w2 ?_
            refine Rv (.bool true) w2 ?_
            iterate 2 refine Rs ?_
            refine Rv (.bool true) w2 ?_
            refine Rv vl w2 ?_
            refine Rv (.bool true) w2 ?_
            refine Rv (.int .i64 0) w2 ?_
            refine wpR_nil ?_
            refine E_then_normal ?_
            refine C_ret ?_
            refine E_ret (res_three rfl rfl rfl rfl) ⟨_, rfl, ?_⟩
            have hR := ref_fin (by omega) hc
            have hd : dirB last = true := by unfold dirB emptyB hereB aboveB; first | (rw [c15]; rfl) | (rw [c15, hc]; rfl) | (rw [c15, hc, hc]; rfl)
            rw [hR, hd]
            exact ⟨_, rfl, OwnsL.fin how (Agr.refl g w) sees sees2 be2.size (Nat.le_refl _), be2⟩
          · refine Rw (.bool false) w2 (eq_bool (by kernel_rfl) c15) ?_
            refine Rv (.string last) w2 ?_
            refine Rv (.bool (last.toList == (⟨#[46]⟩ : ByteArray).toList)) w2 ?_
            refine Rv (.bool (last.toList == (⟨#[46]⟩ : ByteArray).toList)) w2 ?_
            rcases Bool.eq_false_or_eq_true (last.toList == (⟨#[46]⟩ : ByteArray).toList) with c16 | c16
            · refine Rw (.bool true) w2 (eq_bool (by kernel_rfl) c16) ?_
              iterate 2 refine Rs ?_
              refine Rv (.bool true) w2 ?_
              refine Rv vl w2 ?_
              refine Rv (.bool true) w2 ?_
              refine Rv (.int .i64 0) w2 ?_
              refine wpR_nil ?_
              refine E_then_normal ?_
              refine C_ret ?_
              refine E_ret (res_three rfl rfl rfl rfl) ⟨_, rfl, ?_⟩
              have hR := ref_fin (by omega) hc
              have hd : dirB last = true := by unfold dirB emptyB hereB aboveB; first | (rw [c15]; rfl) | (rw [c15, c16]; rfl) | (rw [c15, c16, hc]; rfl)
              rw [hR, hd]
              exact ⟨_, rfl, OwnsL.fin how (Agr.refl g w) sees sees2 be2.size (Nat.le_refl _), be2⟩
            · refine Rw (.bool false) w2 (eq_bool (by kernel_rfl) c16) ?_
              refine Rv (.string last) w2 ?_
              refine Rv (.bool (last.toList == (⟨#[46, 46]⟩ : ByteArray).toList)) w2 ?_
              refine Rv (.bool (last.toList == (⟨#[46, 46]⟩ : ByteArray).toList)) w2 ?_
              refine Rv vl w2 ?_
              refine Rv (.bool (last.toList == (⟨#[46, 46]⟩ : ByteArray).toList)) w2 ?_
              refine Rv (.int .i64 0) w2 ?_
              refine wpR_nil ?_
              refine E_then_normal ?_
              refine C_ret ?_
              refine E_ret (res_three rfl rfl rfl rfl) ⟨_, rfl, ?_⟩
              have hR := ref_fin (by omega) hc
              have hd : dirB last = (last.toList == (⟨#[46, 46]⟩ : ByteArray).toList) := by unfold dirB emptyB hereB aboveB; first | (rw [c15]; rfl) | (rw [c15, c16]; rfl) | (rw [c15, c16, hc]; rfl)
              rw [hR, hd]
              exact ⟨_, rfl, OwnsL.fin how (Agr.refl g w) sees sees2 be2.size (Nat.le_refl _), be2⟩

set_option linter.unusedVariables false in
set_option linter.unusedSimpArgs false in
set_option maxHeartbeats 4000000 in
set_option maxRecDepth 100000 in
theorem join_any (a : List ByteArray) (va : Value) (g w : World) (sees : Sees g w) (h_a : Is g va a)(hb : (joinN a).size ≤ 140737488355328) : Ret Tryd.prog 21 #[va] w fun v w' => v = .string (joinN a) ∧ Le w w' := by
  have ln_h_a := h_a.len_le
  have be0 := Below.refl w.heap.size w
  refine enter (args := [va]) Tryd.func21 rfl rfl rfl ?_
  refine C_seq ?_
  refine C_region ?_
  refine Rv (.string (⟨#[]⟩ : ByteArray)) w ?_
  refine wpR_nil ?_
  refine E_then_normal ?_
  refine C_seq ?_
  refine C_region ?_
  refine Rv va w ?_
  refine Rc #[va, (.string (⟨#[47]⟩ : ByteArray))] w (join_lib a va _ _ sees h_a hb) ?_
  rintro _ w1 ⟨rfl, l1⟩
  have sees1 := sees.le l1
  have be1 := l1.below' be0
  refine Rw (.string ((⟨#[47]⟩ : ByteArray) ++ (⟨(Lib.join (a.map (·.data.toList)) [47]).toArray⟩ : ByteArray))) w1 (X_add_str (by first | omega | (have h1 := join_len1 a; have h2 := size_list (⟨(Lib.join (a.map (·.data.toList)) [47]).toArray⟩ : ByteArray); have h3 : (⟨#[47]⟩ : ByteArray).size = 1 := rfl; simp only [] at h2; omega)) rfl rfl rfl) ?_
  refine Rv (.string ((⟨#[47]⟩ : ByteArray) ++ (⟨(Lib.join (a.map (·.data.toList)) [47]).toArray⟩ : ByteArray))) w1 ?_
  refine wpR_nil ?_
  refine E_then_normal ?_
  refine C_ret ?_
  refine E_ret (res_one rfl rfl) ⟨_, rfl, ?_⟩
  exact ⟨congrArg Value.string (joinN_lib a), be1⟩

set_option linter.unusedVariables false in
set_option linter.unusedSimpArgs false in
set_option maxHeartbeats 4000000 in
set_option maxRecDepth 100000 in
theorem refjoin_any (a : List ByteArray) (va : Value) (g w : World) (sees : Sees g w) (h_a : Is g va a)(hb : (joinN a).size ≤ 140737488355328) : Ret Tryd.prog 22 #[va] w fun v w' => v = .string (joinN a) ∧ Le w w' := by
  have ln_h_a := h_a.len_le
  have be0 := Below.refl w.heap.size w
  refine enter (args := [va]) Tryd.func22 rfl rfl rfl ?_
  refine C_seq ?_
  refine C_region ?_
  refine Rv (.string (⟨#[]⟩ : ByteArray)) w ?_
  refine wpR_nil ?_
  refine E_then_normal ?_
  refine C_seq ?_
  refine C_seq ?_
  refine C_region ?_
  refine Rv va w ?_
  refine Rw (.int .i64 (a.length : Int)) w (X_len (h_a.mono sees.mono) rfl Tryd.underlying26 rfl) ?_
  refine Rv (.bool ((a.length : Int) == 0)) w ?_
  refine wpR_nil ?_
  refine E_then_normal ?_
  refine C_cond rfl (fun c1 => ?_) (fun c1 => ?_)
  · have d1 : (a.length : Int) = 0 := eq_of_beq c1
    refine C_seq ?_
    refine Cs [(7, (.bool ((a.length : Int) == 0))), (2, (.string (⟨#[]⟩ : ByteArray))), (0, va)] ?_
    refine C_region ?_
    refine Rv (.string (⟨#[47]⟩ : ByteArray)) w ?_
    refine wpR_nil ?_
    refine E_then_normal ?_
    refine C_ret ?_
    refine E_then_ret ?_
    refine E_ret (res_one rfl rfl) ⟨_, rfl, ?_⟩
    exact ⟨congrArg Value.string (by unfold joinN; first | (rw [if_pos (by omega)]; done) | (rw [if_neg (by omega)]; exact jn_fin (by omega) hc)), be0⟩
  · have d1 : (a.length : Int) ≠ 0 := ne_of_beq_false c1
    refine C_skip ?_
    refine E_then_normal ?_
    refine C_seq ?_
    refine Cs [(7, (.bool ((a.length : Int) == 0))), (2, (.string (⟨#[]⟩ : ByteArray))), (0, va)] ?_
    refine C_region ?_
    refine Rv (.string (⟨#[]⟩ : ByteArray)) w ?_
    refine wpR_nil ?_
    refine E_then_normal ?_
    refine C_seq ?_
    refine C_seq ?_
    refine C_region ?_
    refine Rv (.int .i64 0) w ?_
    refine wpR_nil ?_
    refine E_then_normal ?_
    refine C_block ?_
    refine C_loop (ι := Int × ByteArray) (fun i : Int × ByteArray => match i with | (k, acc) => [(4, (.int .i64 k)), (3, (.string acc)), (7, (.bool ((a.length : Int) == 0))), (2, (.string (⟨#[]⟩ : ByteArray))), (0, va)]) (fun (i : Int × ByteArray) w' => match i with | (k, acc) => 0 ≤ k ∧ k ≤ a.length ∧ jn acc (a.drop k.toNat) = jn ⟨#[]⟩ a ∧ Below w.heap.size w w' ∧ Sees g w' ∧ True) (fun i : Int × ByteArray => match i with | (k, acc) => ((a.length : Int) - k).toNat) (0, ⟨#[]⟩) ⟨rfl, rfl, rfl, rfl, rfl, trivial⟩ ⟨by omega, by omega, rfl, be0, sees, trivial⟩ ?_
    rintro ⟨k, acc⟩ w1 ⟨hk0, hkl, hc, be1, sees1, -⟩
    refine Cs [(4, (.int .i64 k)), (3, (.string acc)), (7, (.bool ((a.length : Int) == 0))), (2, (.string (⟨#[]⟩ : ByteArray))), (0, va)] ?_
    refine C_seq ?_
    refine C_seq ?_
    refine C_region ?_
    refine Rv (.int .i64 k) w1 ?_
    refine Rv va w1 ?_
    refine Rw (.int .i64 (a.length : Int)) w1 (X_len (h_a.mono sees1.mono) rfl Tryd.underlying26 rfl) ?_
    refine Rv (.bool (decide (k < (a.length : Int)))) w1 ?_
    refine wpR_nil ?_
    refine E_then_normal ?_
    refine C_cond rfl (fun c2 => ?_) (fun c2 => ?_)
    · have d2 : k < (a.length : Int) := of_decide_eq_true c2
      refine C_skip ?_
      refine E_then_normal ?_
      refine C_seq ?_
      refine C_block ?_
      refine Cs [(11, (.bool (decide (k < (a.length : Int))))), (4, (.int .i64 k)), (3, (.string acc)), (7, (.bool ((a.length : Int) == 0))), (2, (.string (⟨#[]⟩ : ByteArray))), (0, va)] ?_
      refine C_region ?_
      refine Rv (.string acc) w1 ?_
      refine Rw (.string (acc ++ (⟨#[47]⟩ : ByteArray))) w1 (X_add_str (by first | omega | (have h1 := jn_bound (by omega) (by omega) hc; have h2 : joinN a = jn ⟨#[]⟩ a := if_neg (by omega); rw [h2] at hb; have h3 : (⟨#[47]⟩ : ByteArray).size = 1 := rfl; have h4 := app_size acc ⟨#[47]⟩; omega)) rfl rfl rfl) ?_
      refine Rv va w1 ?_
      refine Rv (.int .i64 k) w1 ?_
      refine Rw (elemP 1 va k) w1 (X_indexAddr (h_a.mono sees1.mono) (by first | omega | (have h1 := jn_bound (by omega) (by omega) hc; have h2 : joinN a = jn ⟨#[]⟩ a := if_neg (by omega); rw [h2] at hb; have h3 : (⟨#[47]⟩ : ByteArray).size = 1 := rfl; have h4 := app_size acc ⟨#[47]⟩; omega)) (by first | omega | (have h1 := jn_bound (by omega) (by omega) hc; have h2 : joinN a = jn ⟨#[]⟩ a := if_neg (by omega); rw [h2] at hb; have h3 : (⟨#[47]⟩ : ByteArray).size = 1 := rfl; have h4 := app_size acc ⟨#[47]⟩; omega)) rfl Tryd.underlying26 (by kernel_rfl) rfl rfl) ?_
      refine Rw (.string (nth a k)) w1 (X_load rfl rfl (run_load_str (h_a.mono sees1.mono) (by first | omega | (have h1 := jn_bound (by omega) (by omega) hc; have h2 : joinN a = jn ⟨#[]⟩ a := if_neg (by omega); rw [h2] at hb; have h3 : (⟨#[47]⟩ : ByteArray).size = 1 := rfl; have h4 := app_size acc ⟨#[47]⟩; omega)) (by first | omega | (have h1 := jn_bound (by omega) (by omega) hc; have h2 : joinN a = jn ⟨#[]⟩ a := if_neg (by omega); rw [h2] at hb; have h3 : (⟨#[47]⟩ : ByteArray).size = 1 := rfl; have h4 := app_size acc ⟨#[47]⟩; omega)) Tryd.underlying9 (by kernel_rfl))) ?_
      refine Rw (.string ((acc ++ (⟨#[47]⟩ : ByteArray)) ++ (nth a k))) w1 (X_add_str (by first | omega | (have h1 := jn_bound (by omega) (by omega) hc; have h2 : joinN a = jn ⟨#[]⟩ a := if_neg (by omega); rw [h2] at hb; have h3 : (⟨#[47]⟩ : ByteArray).size = 1 := rfl; have h4 := app_size acc ⟨#[47]⟩; omega)) rfl rfl rfl) ?_
      refine Rv (.string ((acc ++ (⟨#[47]⟩ : ByteArray)) ++ (nth a k))) w1 ?_
      refine wpR_nil ?_
      refine E_block_normal ?_
      refine E_then_normal ?_
      refine Cs [(3, (.string ((acc ++ (⟨#[47]⟩ : ByteArray)) ++ (nth a k)))), (11, (.bool (decide (k < (a.length : Int))))), (4, (.int .i64 k)), (7, (.bool ((a.length : Int) == 0))), (2, (.string (⟨#[]⟩ : ByteArray))), (0, va)] ?_
      refine C_region ?_
      refine Rv (.int .i64 k) w1 ?_
      refine Rw (.int .i64 (k + 1)) w1 (eq_int (by kernel_rfl) (wrap64_in (by first | omega | (have h1 := jn_bound (by omega) (by omega) hc; have h2 : joinN a = jn ⟨#[]⟩ a := if_neg (by omega); rw [h2] at hb; have h3 : (⟨#[47]⟩ : ByteArray).size = 1 := rfl; have h4 := app_size acc ⟨#[47]⟩; omega)) (by first | omega | (have h1 := jn_bound (by omega) (by omega) hc; have h2 : joinN a = jn ⟨#[]⟩ a := if_neg (by omega); rw [h2] at hb; have h3 : (⟨#[47]⟩ : ByteArray).size = 1 := rfl; have h4 := app_size acc ⟨#[47]⟩; omega)))) ?_
      refine Rv (.int .i64 (k + 1)) w1 ?_
      refine wpR_nil ?_
      refine E_then_mid fun aq1 ha1 => ⟨(k + 1, acc ++ ⟨#[47]⟩ ++ nth a k), ha1.sub ⟨rfl, rfl, rfl, rfl, rfl, trivial⟩, ⟨by omega, by omega, jn_next (by omega) (by omega) hc, be1, sees1, trivial⟩, ?_⟩
      (first | omega | (dsimp only; omega))
    · have d2 : ¬ k < (a.length : Int) := of_decide_eq_false c2
      refine C_exit ?_
      refine E_then_exit ?_
      refine E_then_exit ?_
      refine E_block_here ?_
      refine E_then_normal ?_
      refine C_seq ?_
      refine Cs [(11, (.bool (decide (k < (a.length : Int))))), (4, (.int .i64 k)), (3, (.string acc)), (7, (.bool ((a.length : Int) == 0))), (2, (.string (⟨#[]⟩ : ByteArray))), (0, va)] ?_
      refine C_region ?_
      refine Rv (.string acc) w1 ?_
      refine Rv (.string acc) w1 ?_
      refine wpR_nil ?_
      refine E_then_normal ?_
      refine C_ret ?_
      refine E_ret (res_one rfl rfl) ⟨_, rfl, ?_⟩
      exact ⟨congrArg Value.string (by unfold joinN; first | (rw [if_pos (by omega)]; done) | (rw [if_neg (by omega)]; exact jn_fin (by omega) hc)), be1⟩
end Go.Proofs.YtepekaepgeekcaaDoor
