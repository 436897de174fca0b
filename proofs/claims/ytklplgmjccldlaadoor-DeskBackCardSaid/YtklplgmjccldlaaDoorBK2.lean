/- Texts of mine, laid together: D21 D22 D23 D24. -/
import Derived.Test.YtklplgmjccldlaaDoorBK1
import Derived.Test.YtklplgmjccldlaaDoorProg
import Derived.Test.YtklplgmjccldlaaDoorChecked
import Derived.Test.YtklplgmjccldlaaDoorBV2
namespace Go.Proofs
open Go Go.Lm Go.RowKit
def c_lawParses : Ct
  | [.v (.c (.k (.string s)))], [], Q => Q (.bool true) []
  | _, _, _ => False
noncomputable def XD2123 : Vx := { P := Tryd.prog, ct := [(16, c_sameE), (15, c_parseR), (32, c_eventR), (33, c_lineR), (48, c_wordsR), (49, c_numberR), (36, c_bldS), (34, c_bldW), (4, c_lawPlain), (3, c_lawQuotes), (9, c_shown), (14, c_parse), (31, c_event), (47, c_atoi), (35, c_line), (45, c_words), (51, c_sjoin), (46, c_split), (30, c_cut), (29, c_count), (37, c_itoa), (11, c_unquoteR), (23, c_digit), (10, c_unquote), (13, c_quoteR), (27, c_decode), (12, c_quote), (28, c_itselfR), (26, c_itself), (24, c_hasPre), (39, c_hasPre0), (22, c_indexByte), (25, c_runeLen)], ty := tyTab, hold := [51, 16] }
theorem XD2123_ok : CtOk Inv Tryd.prog XD2123.ct := CtOk.cons w_sameE (CtOk.cons w_parseR (CtOk.cons w_eventR (CtOk.cons w_lineR (CtOk.cons w_wordsR (CtOk.cons w_numberR (CtOk.cons w_bldS (CtOk.cons w_bldW (CtOk.cons w_lawPlain (CtOk.cons w_lawQuotes (CtOk.cons w_shown (CtOk.cons w_parse (CtOk.cons w_event (CtOk.cons w_atoi (CtOk.cons w_line (CtOk.cons w_words (CtOk.cons w_sjoin (CtOk.cons w_split (CtOk.cons w_cut (CtOk.cons w_count (CtOk.cons w_itoa (CtOk.cons w_unquoteR (CtOk.cons w_digit (CtOk.cons w_unquote (CtOk.cons w_quoteR (CtOk.cons w_decode (CtOk.cons w_quote (CtOk.cons w_itselfR (CtOk.cons w_itself (CtOk.cons w_hasPre (CtOk.cons w_hasPre0 (CtOk.cons w_indexByte (CtOk.cons w_runeLen (CtOk.nil _ _)))))))))))))))))))))))))))))))))
def vc_lawParses : (ByteArray) → (SV → List HO → Prop) → Prop :=
 fun s Q => ByteArray.size s ≤ (9223372036854775807 : Nat) → br (decide ((↑(ByteArray.size s) : Int) > (66000 : Int))) ((0 : Int) ≤ boundV none (0 : Int) ∧ boundV none (0 : Int) ≤ boundV (some (66000 : 
 Int)) (↑(ByteArray.size s) : Int) ∧ boundV (some (66000 : Int)) (↑(ByteArray.size s) : Int) ≤ (↑(ByteArray.size s) : Int) ∧ br ((parseN (ByteArray.extract s (0 : Nat) (Int.toNat (boundV (some (66000 : 
 Int)) (↑(ByteArray.size s) : Int))))).snd.snd == (0 : Int)) (inK IntKind.i64 (parseN (ByteArray.extract s (0 : Nat) (Int.toNat (boundV (some (66000 : Int)) (↑(ByteArray.size s) : Int))))).snd.fst → 
 inK IntKind.i64 (parseN (ByteArray.extract s (0 : Nat) (Int.toNat (boundV (some (66000 : Int)) (↑(ByteArray.size s) : Int))))).snd.snd → br ((parseN (ByteArray.extract s (0 : Nat) (Int.toNat (boundV 
 (some (66000 : Int)) (↑(ByteArray.size s) : Int))))).snd.snd == (0 : Int)) (inK IntKind.i64 (parseN (ByteArray.extract s (0 : Nat) (Int.toNat (boundV (some (66000 : Int)) (↑(ByteArray.size s) : 
 Int))))).snd.fst → inK IntKind.i64 (parseN (ByteArray.extract s (0 : Nat) (Int.toNat (boundV (some (66000 : Int)) (↑(ByteArray.size s) : Int))))).snd.snd → EvsEq (parseN (ByteArray.extract s (0 : Nat) 
 (Int.toNat (boundV (some (66000 : Int)) (↑(ByteArray.size s) : Int))))).fst (parseN (ByteArray.extract s (0 : Nat) (Int.toNat (boundV (some (66000 : Int)) (↑(ByteArray.size s) : Int))))).fst ∧ br 
 ((parseN (ByteArray.extract s (0 : Nat) (Int.toNat (boundV (some (66000 : Int)) (↑(ByteArray.size s) : Int))))).snd.fst == (parseN (ByteArray.extract s (0 : Nat) (Int.toNat (boundV (some (66000 : 
 Int)) (↑(ByteArray.size s) : Int))))).snd.fst) (Q (SV.v (S1.c (Cl.k (Value.bool ((parseN (ByteArray.extract s (0 : Nat) (Int.toNat (boundV (some (66000 : Int)) (↑(ByteArray.size s) : Int))))).snd.snd 
 == (parseN (ByteArray.extract s (0 : Nat) (Int.toNat (boundV (some (66000 : Int)) (↑(ByteArray.size s) : Int))))).snd.snd))))) []) (Q (SV.v (S1.c (Cl.k (Value.bool false)))) [])) (inK IntKind.i64 
 (parseN (ByteArray.extract s (0 : Nat) (Int.toNat (boundV (some (66000 : Int)) (↑(ByteArray.size s) : Int))))).snd.fst → inK IntKind.i64 (parseN (ByteArray.extract s (0 : Nat) (Int.toNat (boundV (some 
 (66000 : Int)) (↑(ByteArray.size s) : Int))))).snd.snd → EvsEq (parseN (ByteArray.extract s (0 : Nat) (Int.toNat (boundV (some (66000 : Int)) (↑(ByteArray.size s) : Int))))).fst [] ∧ br ((parseN 
 (ByteArray.extract s (0 : Nat) (Int.toNat (boundV (some (66000 : Int)) (↑(ByteArray.size s) : Int))))).snd.fst == (parseN (ByteArray.extract s (0 : Nat) (Int.toNat (boundV (some (66000 : Int)) 
 (↑(ByteArray.size s) : Int))))).snd.fst) (Q (SV.v (S1.c (Cl.k (Value.bool ((parseN (ByteArray.extract s (0 : Nat) (Int.toNat (boundV (some (66000 : Int)) (↑(ByteArray.size s) : Int))))).snd.snd == 
 (parseN (ByteArray.extract s (0 : Nat) (Int.toNat (boundV (some (66000 : Int)) (↑(ByteArray.size s) : Int))))).snd.snd))))) []) (Q (SV.v (S1.c (Cl.k (Value.bool false)))) []))) (inK IntKind.i64 
 (parseN (ByteArray.extract s (0 : Nat) (Int.toNat (boundV (some (66000 : Int)) (↑(ByteArray.size s) : Int))))).snd.fst → inK IntKind.i64 (parseN (ByteArray.extract s (0 : Nat) (Int.toNat (boundV (some 
 (66000 : Int)) (↑(ByteArray.size s) : Int))))).snd.snd → br ((parseN (ByteArray.extract s (0 : Nat) (Int.toNat (boundV (some (66000 : Int)) (↑(ByteArray.size s) : Int))))).snd.snd == (0 : Int)) (inK 
 IntKind.i64 (parseN (ByteArray.extract s (0 : Nat) (Int.toNat (boundV (some (66000 : Int)) (↑(ByteArray.size s) : Int))))).snd.fst → inK IntKind.i64 (parseN (ByteArray.extract s (0 : Nat) (Int.toNat 
 (boundV (some (66000 : Int)) (↑(ByteArray.size s) : Int))))).snd.snd → EvsEq [] (parseN (ByteArray.extract s (0 : Nat) (Int.toNat (boundV (some (66000 : Int)) (↑(ByteArray.size s) : Int))))).fst ∧ br 
 ((parseN (ByteArray.extract s (0 : Nat) (Int.toNat (boundV (some (66000 : Int)) (↑(ByteArray.size s) : Int))))).snd.fst == (parseN (ByteArray.extract s (0 : Nat) (Int.toNat (boundV (some (66000 : 
 Int)) (↑(ByteArray.size s) : Int))))).snd.fst) (Q (SV.v (S1.c (Cl.k (Value.bool ((parseN (ByteArray.extract s (0 : Nat) (Int.toNat (boundV (some (66000 : Int)) (↑(ByteArray.size s) : Int))))).snd.snd 
 == (parseN (ByteArray.extract s (0 : Nat) (Int.toNat (boundV (some (66000 : Int)) (↑(ByteArray.size s) : Int))))).snd.snd))))) []) (Q (SV.v (S1.c (Cl.k (Value.bool false)))) [])) (inK IntKind.i64 
 (parseN (ByteArray.extract s (0 : Nat) (Int.toNat (boundV (some (66000 : Int)) (↑(ByteArray.size s) : Int))))).snd.fst → inK IntKind.i64 (parseN (ByteArray.extract s (0 : Nat) (Int.toNat (boundV (some 
 (66000 : Int)) (↑(ByteArray.size s) : Int))))).snd.snd → EvsEq [] [] ∧ br ((parseN (ByteArray.extract s (0 : Nat) (Int.toNat (boundV (some (66000 : Int)) (↑(ByteArray.size s) : Int))))).snd.fst == 
 (parseN (ByteArray.extract s (0 : Nat) (Int.toNat (boundV (some (66000 : Int)) (↑(ByteArray.size s) : Int))))).snd.fst) (Q (SV.v (S1.c (Cl.k (Value.bool ((parseN (ByteArray.extract s (0 : Nat) 
 (Int.toNat (boundV (some (66000 : Int)) (↑(ByteArray.size s) : Int))))).snd.snd == (parseN (ByteArray.extract s (0 : Nat) (Int.toNat (boundV (some (66000 : Int)) (↑(ByteArray.size s) : 
 Int))))).snd.snd))))) []) (Q (SV.v (S1.c (Cl.k (Value.bool false)))) [])))) (br ((parseN s).snd.snd == (0 : Int)) (inK IntKind.i64 (parseN s).snd.fst → inK IntKind.i64 (parseN s).snd.snd → br ((parseN 
 s).snd.snd == (0 : Int)) (inK IntKind.i64 (parseN s).snd.fst → inK IntKind.i64 (parseN s).snd.snd → EvsEq (parseN s).fst (parseN s).fst ∧ br ((parseN s).snd.fst == (parseN s).snd.fst) (Q (SV.v (S1.c 
 (Cl.k (Value.bool ((parseN s).snd.snd == (parseN s).snd.snd))))) []) (Q (SV.v (S1.c (Cl.k (Value.bool false)))) [])) (inK IntKind.i64 (parseN s).snd.fst → inK IntKind.i64 (parseN s).snd.snd → EvsEq 
 (parseN s).fst [] ∧ br ((parseN s).snd.fst == (parseN s).snd.fst) (Q (SV.v (S1.c (Cl.k (Value.bool ((parseN s).snd.snd == (parseN s).snd.snd))))) []) (Q (SV.v (S1.c (Cl.k (Value.bool false)))) []))) 
 (inK IntKind.i64 (parseN s).snd.fst → inK IntKind.i64 (parseN s).snd.snd → br ((parseN s).snd.snd == (0 : Int)) (inK IntKind.i64 (parseN s).snd.fst → inK IntKind.i64 (parseN s).snd.snd → EvsEq [] 
 (parseN s).fst ∧ br ((parseN s).snd.fst == (parseN s).snd.fst) (Q (SV.v (S1.c (Cl.k (Value.bool ((parseN s).snd.snd == (parseN s).snd.snd))))) []) (Q (SV.v (S1.c (Cl.k (Value.bool false)))) [])) (inK 
 IntKind.i64 (parseN s).snd.fst → inK IntKind.i64 (parseN s).snd.snd → EvsEq [] [] ∧ br ((parseN s).snd.fst == (parseN s).snd.fst) (Q (SV.v (S1.c (Cl.k (Value.bool ((parseN s).snd.snd == (parseN 
 s).snd.snd))))) []) (Q (SV.v (S1.c (Cl.k (Value.bool false)))) []))))
set_option maxRecDepth 1000000 in
theorem vc_lawParses_eq (s : ByteArray) (Q : SV → List HO → Prop) : vFun XD2123 ⟨[], []⟩ Tryd.f5 [.str s] [] Q = vc_lawParses s Q := by kernel_rfl
set_option maxRecDepth 100000 in
theorem w_lawParses : ∀ args H Q, c_lawParses args H Q → Wp Inv Tryd.prog 5 args H Q := by
  intro args H Q h
  unfold c_lawParses at h
  split at h
  · rename_i s
    refine Wp.enter (X := XD2123) XD2123_ok ⟨[], []⟩ (fn := Tryd.f5) (by kernel_rfl) ?_
    have hv := vc_lawParses_eq s Q
    rw [show vFun _ _ _ _ _ _ = _ from hv]
    unfold vc_lawParses
    clear hv
    intro hs
    refine @br_of _ _ _ ?_ ?_
    · intro c1
      have c1 : (s.size : Int) > 66000 := by simpa using c1
      refine ⟨by decide, by show (0 : Int) ≤ 66000; decide, by show (66000 : Int) ≤ s.size; omega, ?_⟩
      generalize hp : parseN (s.extract 0 (Int.toNat (boundV (some 66000) (s.size : Int)))) = p
      refine @br_of _ _ _ ?_ ?_
      · intro e1
        intro _ _
        refine @br_of _ _ _ ?_ ?_
        · intro e2
          intro _ _
          refine ⟨⟨rfl⟩, ?_⟩
          rw [beq_self_eq_true, beq_self_eq_true]
          exact h
        · intro e2
          rw [e1] at e2; cases e2
      · intro e1
        intro _ _
        refine @br_of _ _ _ ?_ ?_
        · intro e2
          rw [e1] at e2; cases e2
        · intro e2
          intro _ _
          refine ⟨⟨rfl⟩, ?_⟩
          rw [beq_self_eq_true, beq_self_eq_true]
          exact h
    · intro c1
      skip
      generalize hp : parseN s = p
      refine @br_of _ _ _ ?_ ?_
      · intro e1
        intro _ _
        refine @br_of _ _ _ ?_ ?_
        · intro e2
          intro _ _
          refine ⟨⟨rfl⟩, ?_⟩
          rw [beq_self_eq_true, beq_self_eq_true]
          exact h
        · intro e2
          rw [e1] at e2; cases e2
      · intro e1
        intro _ _
        refine @br_of _ _ _ ?_ ?_
        · intro e2
          rw [e1] at e2; cases e2
        · intro e2
          intro _ _
          refine ⟨⟨rfl⟩, ?_⟩
          rw [beq_self_eq_true, beq_self_eq_true]
          exact h
  · exact h.elim
end Go.Proofs

namespace Go.Proofs
open Go Go.Lm Go.RowKit
def c_few : Ct
  | [.v (.c cl)], [], Q => (match (Ty.sl tEvent).of [cl] with
    | some (l, []) => (EvsIn (fewN l) → Q (.v (.c (.o 0))) [.sl 41 tEvent (fewN l)])
    | _ => False)
  | _, _, _ => False
noncomputable def XD2224 : Vx := { P := Tryd.prog, ct := [(5, c_lawParses), (16, c_sameE), (15, c_parseR), (32, c_eventR), (33, c_lineR), (48, c_wordsR), (49, c_numberR), (36, c_bldS), (34, c_bldW), (4, c_lawPlain), (3, c_lawQuotes), (9, c_shown), (14, c_parse), (31, c_event), (47, c_atoi), (35, c_line), (45, c_words), (51, c_sjoin), (46, c_split), (30, c_cut), (29, c_count), (37, c_itoa), (11, c_unquoteR), (23, c_digit), (10, c_unquote), (13, c_quoteR), (27, c_decode), (12, c_quote), (28, c_itselfR), (26, c_itself), (24, c_hasPre), (39, c_hasPre0), (22, c_indexByte), (25, c_runeLen)], ty := tyTab, hold := [51, 16] }
theorem XD2224_ok : CtOk Inv Tryd.prog XD2224.ct := CtOk.cons w_lawParses (CtOk.cons w_sameE (CtOk.cons w_parseR (CtOk.cons w_eventR (CtOk.cons w_lineR (CtOk.cons w_wordsR (CtOk.cons w_numberR (CtOk.cons w_bldS (CtOk.cons w_bldW (CtOk.cons w_lawPlain (CtOk.cons w_lawQuotes (CtOk.cons w_shown (CtOk.cons w_parse (CtOk.cons w_event (CtOk.cons w_atoi (CtOk.cons w_line (CtOk.cons w_words (CtOk.cons w_sjoin (CtOk.cons w_split (CtOk.cons w_cut (CtOk.cons w_count (CtOk.cons w_itoa (CtOk.cons w_unquoteR (CtOk.cons w_digit (CtOk.cons w_unquote (CtOk.cons w_quoteR (CtOk.cons w_decode (CtOk.cons w_quote (CtOk.cons w_itselfR (CtOk.cons w_itself (CtOk.cons w_hasPre (CtOk.cons w_hasPre0 (CtOk.cons w_indexByte (CtOk.cons w_runeLen (CtOk.nil _ _))))))))))))))))))))))))))))))))))
def vc_few : (List (tEvent).den) → (SV → List HO → Prop) → Prop :=
 fun l Q => List.length l ≤ (9223372036854775807 : Nat) → LoopP (fun i again => List.length l ≤ (9223372036854775807 : Nat) → br (decide (i.fst.snd.fst < (↑(List.length l) : Int))) (br (decide 
 (i.fst.snd.fst < (60 : Int))) ((0 : Int) ≤ i.fst.snd.fst ∧ i.fst.snd.fst < (↑(List.length l) : Int) ∧ (Ty.ok tEvent (ixD tEvent l i.fst.snd.fst) → List.length (ixD tEvent l 
 i.fst.snd.fst).snd.snd.snd.snd.snd.snd.fst ≤ (9223372036854775807 : Nat) → br (decide ((↑(List.length (ixD tEvent l i.fst.snd.fst).snd.snd.snd.snd.snd.snd.fst) : Int) > (300 : Int))) ((0 : Int) ≤ 
 boundV none (0 : Int) ∧ boundV none (0 : Int) ≤ boundV (some (300 : Int)) (↑(List.length (ixD tEvent l i.fst.snd.fst).snd.snd.snd.snd.snd.snd.fst) : Int) ∧ boundV (some (300 : Int)) (↑(List.length 
 (ixD tEvent l i.fst.snd.fst).snd.snd.snd.snd.snd.snd.fst) : Int) ≤ (↑(List.length (ixD tEvent l i.fst.snd.fst).snd.snd.snd.snd.snd.snd.fst) : Int) ∧ br (decide ((↑(ByteArray.size (ixD tEvent l 
 i.fst.snd.fst).snd.snd.snd.snd.fst) : Int) > (300 : Int))) ((0 : Int) ≤ boundV none (0 : Int) ∧ boundV none (0 : Int) ≤ boundV (some (300 : Int)) (↑(ByteArray.size (ixD tEvent l 
 i.fst.snd.fst).snd.snd.snd.snd.fst) : Int) ∧ boundV (some (300 : Int)) (↑(ByteArray.size (ixD tEvent l i.fst.snd.fst).snd.snd.snd.snd.fst) : Int) ≤ (↑(ByteArray.size (ixD tEvent l 
 i.fst.snd.fst).snd.snd.snd.snd.fst) : Int) ∧ br (decide ((↑(ByteArray.size (ixD tEvent l i.fst.snd.fst).snd.snd.snd.snd.snd.fst) : Int) > (300 : Int))) ((0 : Int) ≤ boundV none (0 : Int) ∧ boundV none 
 (0 : Int) ≤ boundV (some (300 : Int)) (↑(ByteArray.size (ixD tEvent l i.fst.snd.fst).snd.snd.snd.snd.snd.fst) : Int) ∧ boundV (some (300 : Int)) (↑(ByteArray.size (ixD tEvent l 
 i.fst.snd.fst).snd.snd.snd.snd.snd.fst) : Int) ≤ (↑(ByteArray.size (ixD tEvent l i.fst.snd.fst).snd.snd.snd.snd.snd.fst) : Int) ∧ (List.length i.fst.fst + List.length [((ixD tEvent l 
 i.fst.snd.fst).fst, (ixD tEvent l i.fst.snd.fst).snd.fst, (ixD tEvent l i.fst.snd.fst).snd.snd.fst, (ixD tEvent l i.fst.snd.fst).snd.snd.snd.fst, ByteArray.extract (ixD tEvent l 
 i.fst.snd.fst).snd.snd.snd.snd.fst (0 : Nat) (Int.toNat (boundV (some (300 : Int)) (↑(ByteArray.size (ixD tEvent l i.fst.snd.fst).snd.snd.snd.snd.fst) : Int))), ByteArray.extract (ixD tEvent l 
 i.fst.snd.fst).snd.snd.snd.snd.snd.fst (0 : Nat) (Int.toNat (boundV (some (300 : Int)) (↑(ByteArray.size (ixD tEvent l i.fst.snd.fst).snd.snd.snd.snd.snd.fst) : Int))), List.take (Int.toNat (boundV 
 (some (300 : Int)) (↑(List.length (ixD tEvent l i.fst.snd.fst).snd.snd.snd.snd.snd.snd.fst) : Int)) - (0 : Nat)) (List.drop (0 : Nat) (ixD tEvent l i.fst.snd.fst).snd.snd.snd.snd.snd.snd.fst), ())]) * 
 (88 : Nat) ≤ (140737488355328 : Nat) ∧ List.length i.fst.fst + List.length [((ixD tEvent l i.fst.snd.fst).fst, (ixD tEvent l i.fst.snd.fst).snd.fst, (ixD tEvent l i.fst.snd.fst).snd.snd.fst, (ixD 
 tEvent l i.fst.snd.fst).snd.snd.snd.fst, ByteArray.extract (ixD tEvent l i.fst.snd.fst).snd.snd.snd.snd.fst (0 : Nat) (Int.toNat (boundV (some (300 : Int)) (↑(ByteArray.size (ixD tEvent l 
 i.fst.snd.fst).snd.snd.snd.snd.fst) : Int))), ByteArray.extract (ixD tEvent l i.fst.snd.fst).snd.snd.snd.snd.snd.fst (0 : Nat) (Int.toNat (boundV (some (300 : Int)) (↑(ByteArray.size (ixD tEvent l 
 i.fst.snd.fst).snd.snd.snd.snd.snd.fst) : Int))), List.take (Int.toNat (boundV (some (300 : Int)) (↑(List.length (ixD tEvent l i.fst.snd.fst).snd.snd.snd.snd.snd.snd.fst) : Int)) - (0 : Nat)) 
 (List.drop (0 : Nat) (ixD tEvent l i.fst.snd.fst).snd.snd.snd.snd.snd.snd.fst), ())] ≤ (9223372036854775807 : Nat) ∧ inK IntKind.i64 (i.fst.snd.fst + (1 : Int)) ∧ again ((i.fst.fst ++ [((ixD tEvent l 
 i.fst.snd.fst).fst, (ixD tEvent l i.fst.snd.fst).snd.fst, (ixD tEvent l i.fst.snd.fst).snd.snd.fst, (ixD tEvent l i.fst.snd.fst).snd.snd.snd.fst, ByteArray.extract (ixD tEvent l 
 i.fst.snd.fst).snd.snd.snd.snd.fst (0 : Nat) (Int.toNat (boundV (some (300 : Int)) (↑(ByteArray.size (ixD tEvent l i.fst.snd.fst).snd.snd.snd.snd.fst) : Int))), ByteArray.extract (ixD tEvent l 
 i.fst.snd.fst).snd.snd.snd.snd.snd.fst (0 : Nat) (Int.toNat (boundV (some (300 : Int)) (↑(ByteArray.size (ixD tEvent l i.fst.snd.fst).snd.snd.snd.snd.snd.fst) : Int))), List.take (Int.toNat (boundV 
 (some (300 : Int)) (↑(List.length (ixD tEvent l i.fst.snd.fst).snd.snd.snd.snd.snd.snd.fst) : Int)) - (0 : Nat)) (List.drop (0 : Nat) (ixD tEvent l i.fst.snd.fst).snd.snd.snd.snd.snd.snd.fst), ())], 
 i.fst.snd.fst + (1 : Int), ()), ())) ((List.length i.fst.fst + List.length [((ixD tEvent l i.fst.snd.fst).fst, (ixD tEvent l i.fst.snd.fst).snd.fst, (ixD tEvent l i.fst.snd.fst).snd.snd.fst, (ixD 
 tEvent l i.fst.snd.fst).snd.snd.snd.fst, ByteArray.extract (ixD tEvent l i.fst.snd.fst).snd.snd.snd.snd.fst (0 : Nat) (Int.toNat (boundV (some (300 : Int)) (↑(ByteArray.size (ixD tEvent l 
 i.fst.snd.fst).snd.snd.snd.snd.fst) : Int))), (ixD tEvent l i.fst.snd.fst).snd.snd.snd.snd.snd.fst, List.take (Int.toNat (boundV (some (300 : Int)) (↑(List.length (ixD tEvent l 
 i.fst.snd.fst).snd.snd.snd.snd.snd.snd.fst) : Int)) - (0 : Nat)) (List.drop (0 : Nat) (ixD tEvent l i.fst.snd.fst).snd.snd.snd.snd.snd.snd.fst), ())]) * (88 : Nat) ≤ (140737488355328 : Nat) ∧ 
 List.length i.fst.fst + List.length [((ixD tEvent l i.fst.snd.fst).fst, (ixD tEvent l i.fst.snd.fst).snd.fst, (ixD tEvent l i.fst.snd.fst).snd.snd.fst, (ixD tEvent l i.fst.snd.fst).snd.snd.snd.fst, 
 ByteArray.extract (ixD tEvent l i.fst.snd.fst).snd.snd.snd.snd.fst (0 : Nat) (Int.toNat (boundV (some (300 : Int)) (↑(ByteArray.size (ixD tEvent l i.fst.snd.fst).snd.snd.snd.snd.fst) : Int))), (ixD 
 tEvent l i.fst.snd.fst).snd.snd.snd.snd.snd.fst, List.take (Int.toNat (boundV (some (300 : Int)) (↑(List.length (ixD tEvent l i.fst.snd.fst).snd.snd.snd.snd.snd.snd.fst) : Int)) - (0 : Nat)) 
 (List.drop (0 : Nat) (ixD tEvent l i.fst.snd.fst).snd.snd.snd.snd.snd.snd.fst), ())] ≤ (9223372036854775807 : Nat) ∧ inK IntKind.i64 (i.fst.snd.fst + (1 : Int)) ∧ again ((i.fst.fst ++ [((ixD tEvent l 
 i.fst.snd.fst).fst, (ixD tEvent l i.fst.snd.fst).snd.fst, (ixD tEvent l i.fst.snd.fst).snd.snd.fst, (ixD tEvent l i.fst.snd.fst).snd.snd.snd.fst, ByteArray.extract (ixD tEvent l 
 i.fst.snd.fst).snd.snd.snd.snd.fst (0 : Nat) (Int.toNat (boundV (some (300 : Int)) (↑(ByteArray.size (ixD tEvent l i.fst.snd.fst).snd.snd.snd.snd.fst) : Int))), (ixD tEvent l 
 i.fst.snd.fst).snd.snd.snd.snd.snd.fst, List.take (Int.toNat (boundV (some (300 : Int)) (↑(List.length (ixD tEvent l i.fst.snd.fst).snd.snd.snd.snd.snd.snd.fst) : Int)) - (0 : Nat)) (List.drop (0 : 
 Nat) (ixD tEvent l i.fst.snd.fst).snd.snd.snd.snd.snd.snd.fst), ())], i.fst.snd.fst + (1 : Int), ()), ()))) (br (decide ((↑(ByteArray.size (ixD tEvent l i.fst.snd.fst).snd.snd.snd.snd.snd.fst) : Int) 
 > (300 : Int))) ((0 : Int) ≤ boundV none (0 : Int) ∧ boundV none (0 : Int) ≤ boundV (some (300 : Int)) (↑(ByteArray.size (ixD tEvent l i.fst.snd.fst).snd.snd.snd.snd.snd.fst) : Int) ∧ boundV (some 
 (300 : Int)) (↑(ByteArray.size (ixD tEvent l i.fst.snd.fst).snd.snd.snd.snd.snd.fst) : Int) ≤ (↑(ByteArray.size (ixD tEvent l i.fst.snd.fst).snd.snd.snd.snd.snd.fst) : Int) ∧ (List.length i.fst.fst + 
 List.length [((ixD tEvent l i.fst.snd.fst).fst, (ixD tEvent l i.fst.snd.fst).snd.fst, (ixD tEvent l i.fst.snd.fst).snd.snd.fst, (ixD tEvent l i.fst.snd.fst).snd.snd.snd.fst, (ixD tEvent l 
 i.fst.snd.fst).snd.snd.snd.snd.fst, ByteArray.extract (ixD tEvent l i.fst.snd.fst).snd.snd.snd.snd.snd.fst (0 : Nat) (Int.toNat (boundV (some (300 : Int)) (↑(ByteArray.size (ixD tEvent l 
 i.fst.snd.fst).snd.snd.snd.snd.snd.fst) : Int))), List.take (Int.toNat (boundV (some (300 : Int)) (↑(List.length (ixD tEvent l i.fst.snd.fst).snd.snd.snd.snd.snd.snd.fst) : Int)) - (0 : Nat)) 
 (List.drop (0 : Nat) (ixD tEvent l i.fst.snd.fst).snd.snd.snd.snd.snd.snd.fst), ())]) * (88 : Nat) ≤ (140737488355328 : Nat) ∧ List.length i.fst.fst + List.length [((ixD tEvent l i.fst.snd.fst).fst, 
 (ixD tEvent l i.fst.snd.fst).snd.fst, (ixD tEvent l i.fst.snd.fst).snd.snd.fst, (ixD tEvent l i.fst.snd.fst).snd.snd.snd.fst, (ixD tEvent l i.fst.snd.fst).snd.snd.snd.snd.fst, ByteArray.extract (ixD 
 tEvent l i.fst.snd.fst).snd.snd.snd.snd.snd.fst (0 : Nat) (Int.toNat (boundV (some (300 : Int)) (↑(ByteArray.size (ixD tEvent l i.fst.snd.fst).snd.snd.snd.snd.snd.fst) : Int))), List.take (Int.toNat 
 (boundV (some (300 : Int)) (↑(List.length (ixD tEvent l i.fst.snd.fst).snd.snd.snd.snd.snd.snd.fst) : Int)) - (0 : Nat)) (List.drop (0 : Nat) (ixD tEvent l i.fst.snd.fst).snd.snd.snd.snd.snd.snd.fst), 
 ())] ≤ (9223372036854775807 : Nat) ∧ inK IntKind.i64 (i.fst.snd.fst + (1 : Int)) ∧ again ((i.fst.fst ++ [((ixD tEvent l i.fst.snd.fst).fst, (ixD tEvent l i.fst.snd.fst).snd.fst, (ixD tEvent l 
 i.fst.snd.fst).snd.snd.fst, (ixD tEvent l i.fst.snd.fst).snd.snd.snd.fst, (ixD tEvent l i.fst.snd.fst).snd.snd.snd.snd.fst, ByteArray.extract (ixD tEvent l i.fst.snd.fst).snd.snd.snd.snd.snd.fst (0 : 
 Nat) (Int.toNat (boundV (some (300 : Int)) (↑(ByteArray.size (ixD tEvent l i.fst.snd.fst).snd.snd.snd.snd.snd.fst) : Int))), List.take (Int.toNat (boundV (some (300 : Int)) (↑(List.length (ixD tEvent 
 l i.fst.snd.fst).snd.snd.snd.snd.snd.snd.fst) : Int)) - (0 : Nat)) (List.drop (0 : Nat) (ixD tEvent l i.fst.snd.fst).snd.snd.snd.snd.snd.snd.fst), ())], i.fst.snd.fst + (1 : Int), ()), ())) 
 ((List.length i.fst.fst + List.length [((ixD tEvent l i.fst.snd.fst).fst, (ixD tEvent l i.fst.snd.fst).snd.fst, (ixD tEvent l i.fst.snd.fst).snd.snd.fst, (ixD tEvent l i.fst.snd.fst).snd.snd.snd.fst, 
 (ixD tEvent l i.fst.snd.fst).snd.snd.snd.snd.fst, (ixD tEvent l i.fst.snd.fst).snd.snd.snd.snd.snd.fst, List.take (Int.toNat (boundV (some (300 : Int)) (↑(List.length (ixD tEvent l 
 i.fst.snd.fst).snd.snd.snd.snd.snd.snd.fst) : Int)) - (0 : Nat)) (List.drop (0 : Nat) (ixD tEvent l i.fst.snd.fst).snd.snd.snd.snd.snd.snd.fst), ())]) * (88 : Nat) ≤ (140737488355328 : Nat) ∧ 
 List.length i.fst.fst + List.length [((ixD tEvent l i.fst.snd.fst).fst, (ixD tEvent l i.fst.snd.fst).snd.fst, (ixD tEvent l i.fst.snd.fst).snd.snd.fst, (ixD tEvent l i.fst.snd.fst).snd.snd.snd.fst, 
 (ixD tEvent l i.fst.snd.fst).snd.snd.snd.snd.fst, (ixD tEvent l i.fst.snd.fst).snd.snd.snd.snd.snd.fst, List.take (Int.toNat (boundV (some (300 : Int)) (↑(List.length (ixD tEvent l 
 i.fst.snd.fst).snd.snd.snd.snd.snd.snd.fst) : Int)) - (0 : Nat)) (List.drop (0 : Nat) (ixD tEvent l i.fst.snd.fst).snd.snd.snd.snd.snd.snd.fst), ())] ≤ (9223372036854775807 : Nat) ∧ inK IntKind.i64 
 (i.fst.snd.fst + (1 : Int)) ∧ again ((i.fst.fst ++ [((ixD tEvent l i.fst.snd.fst).fst, (ixD tEvent l i.fst.snd.fst).snd.fst, (ixD tEvent l i.fst.snd.fst).snd.snd.fst, (ixD tEvent l 
 i.fst.snd.fst).snd.snd.snd.fst, (ixD tEvent l i.fst.snd.fst).snd.snd.snd.snd.fst, (ixD tEvent l i.fst.snd.fst).snd.snd.snd.snd.snd.fst, List.take (Int.toNat (boundV (some (300 : Int)) (↑(List.length 
 (ixD tEvent l i.fst.snd.fst).snd.snd.snd.snd.snd.snd.fst) : Int)) - (0 : Nat)) (List.drop (0 : Nat) (ixD tEvent l i.fst.snd.fst).snd.snd.snd.snd.snd.snd.fst), ())], i.fst.snd.fst + (1 : Int), ()), 
 ())))) (br (decide ((↑(ByteArray.size (ixD tEvent l i.fst.snd.fst).snd.snd.snd.snd.fst) : Int) > (300 : Int))) ((0 : Int) ≤ boundV none (0 : Int) ∧ boundV none (0 : Int) ≤ boundV (some (300 : Int)) 
 (↑(ByteArray.size (ixD tEvent l i.fst.snd.fst).snd.snd.snd.snd.fst) : Int) ∧ boundV (some (300 : Int)) (↑(ByteArray.size (ixD tEvent l i.fst.snd.fst).snd.snd.snd.snd.fst) : Int) ≤ (↑(ByteArray.size 
 (ixD tEvent l i.fst.snd.fst).snd.snd.snd.snd.fst) : Int) ∧ br (decide ((↑(ByteArray.size (ixD tEvent l i.fst.snd.fst).snd.snd.snd.snd.snd.fst) : Int) > (300 : Int))) ((0 : Int) ≤ boundV none (0 : Int) 
 ∧ boundV none (0 : Int) ≤ boundV (some (300 : Int)) (↑(ByteArray.size (ixD tEvent l i.fst.snd.fst).snd.snd.snd.snd.snd.fst) : Int) ∧ boundV (some (300 : Int)) (↑(ByteArray.size (ixD tEvent l 
 i.fst.snd.fst).snd.snd.snd.snd.snd.fst) : Int) ≤ (↑(ByteArray.size (ixD tEvent l i.fst.snd.fst).snd.snd.snd.snd.snd.fst) : Int) ∧ (List.length i.fst.fst + List.length [((ixD tEvent l 
 i.fst.snd.fst).fst, (ixD tEvent l i.fst.snd.fst).snd.fst, (ixD tEvent l i.fst.snd.fst).snd.snd.fst, (ixD tEvent l i.fst.snd.fst).snd.snd.snd.fst, ByteArray.extract (ixD tEvent l 
 i.fst.snd.fst).snd.snd.snd.snd.fst (0 : Nat) (Int.toNat (boundV (some (300 : Int)) (↑(ByteArray.size (ixD tEvent l i.fst.snd.fst).snd.snd.snd.snd.fst) : Int))), ByteArray.extract (ixD tEvent l 
 i.fst.snd.fst).snd.snd.snd.snd.snd.fst (0 : Nat) (Int.toNat (boundV (some (300 : Int)) (↑(ByteArray.size (ixD tEvent l i.fst.snd.fst).snd.snd.snd.snd.snd.fst) : Int))), (ixD tEvent l 
 i.fst.snd.fst).snd.snd.snd.snd.snd.snd)]) * (88 : Nat) ≤ (140737488355328 : Nat) ∧ List.length i.fst.fst + List.length [((ixD tEvent l i.fst.snd.fst).fst, (ixD tEvent l i.fst.snd.fst).snd.fst, (ixD 
 tEvent l i.fst.snd.fst).snd.snd.fst, (ixD tEvent l i.fst.snd.fst).snd.snd.snd.fst, ByteArray.extract (ixD tEvent l i.fst.snd.fst).snd.snd.snd.snd.fst (0 : Nat) (Int.toNat (boundV (some (300 : Int)) 
 (↑(ByteArray.size (ixD tEvent l i.fst.snd.fst).snd.snd.snd.snd.fst) : Int))), ByteArray.extract (ixD tEvent l i.fst.snd.fst).snd.snd.snd.snd.snd.fst (0 : Nat) (Int.toNat (boundV (some (300 : Int)) 
 (↑(ByteArray.size (ixD tEvent l i.fst.snd.fst).snd.snd.snd.snd.snd.fst) : Int))), (ixD tEvent l i.fst.snd.fst).snd.snd.snd.snd.snd.snd)] ≤ (9223372036854775807 : Nat) ∧ inK IntKind.i64 (i.fst.snd.fst 
 + (1 : Int)) ∧ again ((i.fst.fst ++ [((ixD tEvent l i.fst.snd.fst).fst, (ixD tEvent l i.fst.snd.fst).snd.fst, (ixD tEvent l i.fst.snd.fst).snd.snd.fst, (ixD tEvent l i.fst.snd.fst).snd.snd.snd.fst, 
 ByteArray.extract (ixD tEvent l i.fst.snd.fst).snd.snd.snd.snd.fst (0 : Nat) (Int.toNat (boundV (some (300 : Int)) (↑(ByteArray.size (ixD tEvent l i.fst.snd.fst).snd.snd.snd.snd.fst) : Int))), 
 ByteArray.extract (ixD tEvent l i.fst.snd.fst).snd.snd.snd.snd.snd.fst (0 : Nat) (Int.toNat (boundV (some (300 : Int)) (↑(ByteArray.size (ixD tEvent l i.fst.snd.fst).snd.snd.snd.snd.snd.fst) : Int))), 
 (ixD tEvent l i.fst.snd.fst).snd.snd.snd.snd.snd.snd)], i.fst.snd.fst + (1 : Int), ()), ())) ((List.length i.fst.fst + List.length [((ixD tEvent l i.fst.snd.fst).fst, (ixD tEvent l 
 i.fst.snd.fst).snd.fst, (ixD tEvent l i.fst.snd.fst).snd.snd.fst, (ixD tEvent l i.fst.snd.fst).snd.snd.snd.fst, ByteArray.extract (ixD tEvent l i.fst.snd.fst).snd.snd.snd.snd.fst (0 : Nat) (Int.toNat 
 (boundV (some (300 : Int)) (↑(ByteArray.size (ixD tEvent l i.fst.snd.fst).snd.snd.snd.snd.fst) : Int))), (ixD tEvent l i.fst.snd.fst).snd.snd.snd.snd.snd)]) * (88 : Nat) ≤ (140737488355328 : Nat) ∧ 
 List.length i.fst.fst + List.length [((ixD tEvent l i.fst.snd.fst).fst, (ixD tEvent l i.fst.snd.fst).snd.fst, (ixD tEvent l i.fst.snd.fst).snd.snd.fst, (ixD tEvent l i.fst.snd.fst).snd.snd.snd.fst, 
 ByteArray.extract (ixD tEvent l i.fst.snd.fst).snd.snd.snd.snd.fst (0 : Nat) (Int.toNat (boundV (some (300 : Int)) (↑(ByteArray.size (ixD tEvent l i.fst.snd.fst).snd.snd.snd.snd.fst) : Int))), (ixD 
 tEvent l i.fst.snd.fst).snd.snd.snd.snd.snd)] ≤ (9223372036854775807 : Nat) ∧ inK IntKind.i64 (i.fst.snd.fst + (1 : Int)) ∧ again ((i.fst.fst ++ [((ixD tEvent l i.fst.snd.fst).fst, (ixD tEvent l 
 i.fst.snd.fst).snd.fst, (ixD tEvent l i.fst.snd.fst).snd.snd.fst, (ixD tEvent l i.fst.snd.fst).snd.snd.snd.fst, ByteArray.extract (ixD tEvent l i.fst.snd.fst).snd.snd.snd.snd.fst (0 : Nat) (Int.toNat 
 (boundV (some (300 : Int)) (↑(ByteArray.size (ixD tEvent l i.fst.snd.fst).snd.snd.snd.snd.fst) : Int))), (ixD tEvent l i.fst.snd.fst).snd.snd.snd.snd.snd)], i.fst.snd.fst + (1 : Int), ()), ()))) (br 
 (decide ((↑(ByteArray.size (ixD tEvent l i.fst.snd.fst).snd.snd.snd.snd.snd.fst) : Int) > (300 : Int))) ((0 : Int) ≤ boundV none (0 : Int) ∧ boundV none (0 : Int) ≤ boundV (some (300 : Int)) 
 (↑(ByteArray.size (ixD tEvent l i.fst.snd.fst).snd.snd.snd.snd.snd.fst) : Int) ∧ boundV (some (300 : Int)) (↑(ByteArray.size (ixD tEvent l i.fst.snd.fst).snd.snd.snd.snd.snd.fst) : Int) ≤ 
 (↑(ByteArray.size (ixD tEvent l i.fst.snd.fst).snd.snd.snd.snd.snd.fst) : Int) ∧ (List.length i.fst.fst + List.length [((ixD tEvent l i.fst.snd.fst).fst, (ixD tEvent l i.fst.snd.fst).snd.fst, (ixD 
 tEvent l i.fst.snd.fst).snd.snd.fst, (ixD tEvent l i.fst.snd.fst).snd.snd.snd.fst, (ixD tEvent l i.fst.snd.fst).snd.snd.snd.snd.fst, ByteArray.extract (ixD tEvent l 
 i.fst.snd.fst).snd.snd.snd.snd.snd.fst (0 : Nat) (Int.toNat (boundV (some (300 : Int)) (↑(ByteArray.size (ixD tEvent l i.fst.snd.fst).snd.snd.snd.snd.snd.fst) : Int))), (ixD tEvent l 
 i.fst.snd.fst).snd.snd.snd.snd.snd.snd)]) * (88 : Nat) ≤ (140737488355328 : Nat) ∧ List.length i.fst.fst + List.length [((ixD tEvent l i.fst.snd.fst).fst, (ixD tEvent l i.fst.snd.fst).snd.fst, (ixD 
 tEvent l i.fst.snd.fst).snd.snd.fst, (ixD tEvent l i.fst.snd.fst).snd.snd.snd.fst, (ixD tEvent l i.fst.snd.fst).snd.snd.snd.snd.fst, ByteArray.extract (ixD tEvent l 
 i.fst.snd.fst).snd.snd.snd.snd.snd.fst (0 : Nat) (Int.toNat (boundV (some (300 : Int)) (↑(ByteArray.size (ixD tEvent l i.fst.snd.fst).snd.snd.snd.snd.snd.fst) : Int))), (ixD tEvent l 
 i.fst.snd.fst).snd.snd.snd.snd.snd.snd)] ≤ (9223372036854775807 : Nat) ∧ inK IntKind.i64 (i.fst.snd.fst + (1 : Int)) ∧ again ((i.fst.fst ++ [((ixD tEvent l i.fst.snd.fst).fst, (ixD tEvent l 
 i.fst.snd.fst).snd.fst, (ixD tEvent l i.fst.snd.fst).snd.snd.fst, (ixD tEvent l i.fst.snd.fst).snd.snd.snd.fst, (ixD tEvent l i.fst.snd.fst).snd.snd.snd.snd.fst, ByteArray.extract (ixD tEvent l 
 i.fst.snd.fst).snd.snd.snd.snd.snd.fst (0 : Nat) (Int.toNat (boundV (some (300 : Int)) (↑(ByteArray.size (ixD tEvent l i.fst.snd.fst).snd.snd.snd.snd.snd.fst) : Int))), (ixD tEvent l 
 i.fst.snd.fst).snd.snd.snd.snd.snd.snd)], i.fst.snd.fst + (1 : Int), ()), ())) ((List.length i.fst.fst + List.length [ixD tEvent l i.fst.snd.fst]) * (88 : Nat) ≤ (140737488355328 : Nat) ∧ List.length 
 i.fst.fst + List.length [ixD tEvent l i.fst.snd.fst] ≤ (9223372036854775807 : Nat) ∧ inK IntKind.i64 (i.fst.snd.fst + (1 : Int)) ∧ again ((i.fst.fst ++ [ixD tEvent l i.fst.snd.fst], i.fst.snd.fst + (1 
 : Int), ()), ())))))) (Q (SV.v (S1.c (Cl.o (0 : Nat)))) [HO.sl (41 : TypeId) tEvent i.fst.fst])) (Q (SV.v (S1.c (Cl.o (0 : Nat)))) [HO.sl (41 : TypeId) tEvent i.fst.fst])) (([], (0 : Int), ()), ())
set_option maxRecDepth 1000000 in
theorem vc_few_eq (l : List (tEvent).den) (Q : SV → List HO → Prop) : vFun XD2224 ⟨[(4, ⟨[(3, .own 41 tEvent), (4, .int .i64)], []⟩)], []⟩ Tryd.f17 [.c (.d tEvent l)] [] Q = vc_few l Q := by kernel_rfl
set_option maxRecDepth 100000 in
theorem w_few : ∀ args H Q, c_few args H Q → Wp Inv Tryd.prog 17 args H Q := by
  intro args H Q h
  unfold c_few at h
  split at h
  · rename_i cl
    split at h
    · rename_i l hl
      refine Wp.said (args' := [.c (.d tEvent l)]) (fun E g => RelVs.cons1 (of_list hl) (fun _ h => h)) ?_
      clear hl
      refine Wp.enter (X := XD2224) XD2224_ok ⟨[(4, ⟨[(3, .own 41 tEvent), (4, .int .i64)], []⟩)], []⟩ (fn := Tryd.f17) (by kernel_rfl) ?_
      have hv := vc_few_eq l Q
      rw [show vFun _ _ _ _ _ _ = _ from hv]
      unfold vc_few
      clear hv
      intro hs
      refine LoopP.intro (fun i => ∃ p : Nat, i.1.2.1 = (p : Int) ∧ p ≤ l.length ∧ p ≤ 60 ∧ i.1.1 = (l.take p).map cutEv ∧ ∀ e ∈ i.1.1, EvIn e) (fun i => 60 - i.1.2.1.toNat) ⟨0, rfl, Nat.zero_le _, by decide, rfl, fun _ he => by cases he⟩ ?_
      rintro ⟨⟨o, i, _⟩, _⟩ ⟨p, h0, h1, h2, h3, h4⟩
      simp only at h0 h3 h4 ⊢
      subst h0
      have ho : o.length = p := by rw [h3, List.length_map, List.length_take]; omega
      intro _
      refine @br_of _ _ _ ?_ ?_
      · intro c1
        have c1 : p < l.length := by have : (p : Int) < l.length := (by simpa using c1); omega
        refine @br_of _ _ _ ?_ ?_
        · intro c2
          have c2 : p < 60 := by have : (p : Int) < 60 := (by simpa using c2); omega
          refine ⟨by omega, by omega, fun ok _ => ?_⟩
          have hin := evsIn_next h4 (evIn_cut (evIn_ok ok))
          refine @br_of _ _ _ ?_ ?_
          · intro d0
            have e0 := of_decide_eq_true d0
            refine ⟨by decide, by show (0 : Int) ≤ 300; decide, by show (300 : Int) ≤ _; omega, ?_⟩
            refine @br_of _ _ _ ?_ ?_
            · intro d1
              have e1 := of_decide_eq_true d1
              refine ⟨by decide, by show (0 : Int) ≤ 300; decide, by show (300 : Int) ≤ _; omega, ?_⟩
              refine @br_of _ _ _ ?_ ?_
              · intro d2
                have e2 := of_decide_eq_true d2
                refine ⟨by decide, by show (0 : Int) ≤ 300; decide, by show (300 : Int) ≤ _; omega, ?_⟩
                refine ⟨by show (o.length + 1) * 88 ≤ _; omega, by show o.length + 1 ≤ _; omega, by unfold inK; omega, ⟨p + 1, by omega, by omega, by omega, ?_⟩, by omega⟩
                exact few_leaf (by unfold cutEv cut3 cutL; rw [d0, d1, d2]; rfl) h3 c1 hin
              · intro d2
                refine ⟨by show (o.length + 1) * 88 ≤ _; omega, by show o.length + 1 ≤ _; omega, by unfold inK; omega, ⟨p + 1, by omega, by omega, by omega, ?_⟩, by omega⟩
                exact few_leaf (by unfold cutEv cut3 cutL; rw [d0, d1, d2]; rfl) h3 c1 hin
            · intro d1
              refine @br_of _ _ _ ?_ ?_
              · intro d2
                have e2 := of_decide_eq_true d2
                refine ⟨by decide, by show (0 : Int) ≤ 300; decide, by show (300 : Int) ≤ _; omega, ?_⟩
                refine ⟨by show (o.length + 1) * 88 ≤ _; omega, by show o.length + 1 ≤ _; omega, by unfold inK; omega, ⟨p + 1, by omega, by omega, by omega, ?_⟩, by omega⟩
                exact few_leaf (by unfold cutEv cut3 cutL; rw [d0, d1, d2]; rfl) h3 c1 hin
              · intro d2
                refine ⟨by show (o.length + 1) * 88 ≤ _; omega, by show o.length + 1 ≤ _; omega, by unfold inK; omega, ⟨p + 1, by omega, by omega, by omega, ?_⟩, by omega⟩
                exact few_leaf (by unfold cutEv cut3 cutL; rw [d0, d1, d2]; rfl) h3 c1 hin
          · intro d0
            refine @br_of _ _ _ ?_ ?_
            · intro d1
              have e1 := of_decide_eq_true d1
              refine ⟨by decide, by show (0 : Int) ≤ 300; decide, by show (300 : Int) ≤ _; omega, ?_⟩
              refine @br_of _ _ _ ?_ ?_
              · intro d2
                have e2 := of_decide_eq_true d2
                refine ⟨by decide, by show (0 : Int) ≤ 300; decide, by show (300 : Int) ≤ _; omega, ?_⟩
                refine ⟨by show (o.length + 1) * 88 ≤ _; omega, by show o.length + 1 ≤ _; omega, by unfold inK; omega, ⟨p + 1, by omega, by omega, by omega, ?_⟩, by omega⟩
                exact few_leaf (by unfold cutEv cut3 cutL; rw [d0, d1, d2]; rfl) h3 c1 hin
              · intro d2
                refine ⟨by show (o.length + 1) * 88 ≤ _; omega, by show o.length + 1 ≤ _; omega, by unfold inK; omega, ⟨p + 1, by omega, by omega, by omega, ?_⟩, by omega⟩
                exact few_leaf (by unfold cutEv cut3 cutL; rw [d0, d1, d2]; rfl) h3 c1 hin
            · intro d1
              refine @br_of _ _ _ ?_ ?_
              · intro d2
                have e2 := of_decide_eq_true d2
                refine ⟨by decide, by show (0 : Int) ≤ 300; decide, by show (300 : Int) ≤ _; omega, ?_⟩
                refine ⟨by show (o.length + 1) * 88 ≤ _; omega, by show o.length + 1 ≤ _; omega, by unfold inK; omega, ⟨p + 1, by omega, by omega, by omega, ?_⟩, by omega⟩
                exact few_leaf (by unfold cutEv cut3 cutL; rw [d0, d1, d2]; rfl) h3 c1 hin
              · intro d2
                refine ⟨by show (o.length + 1) * 88 ≤ _; omega, by show o.length + 1 ≤ _; omega, by unfold inK; omega, ⟨p + 1, by omega, by omega, by omega, ?_⟩, by omega⟩
                exact few_leaf (by unfold cutEv cut3 cutL; rw [d0, d1, d2]; rfl) h3 c1 hin
        · intro c2
          have c2 : p = 60 := by have : ¬ (p : Int) < 60 := (by simpa using c2); omega
          rw [h3, few_end h2 (.inr c2)] at h4 ⊢
          exact h ⟨h4⟩
      · intro c1
        have c1 : p = l.length := by have : ¬ (p : Int) < l.length := (by simpa using c1); omega
        rw [h3, few_end h2 (.inl c1)] at h4 ⊢
        exact h ⟨h4⟩
    · exact h.elim
  · exact h.elim
end Go.Proofs

namespace Go.Proofs
open Go Go.Lm Go.RowKit
def c_print : Ct
  | [.v (.c ca)], [], Q => (match (Ty.sl tEvent).of [ca] with
    | some (a, []) => ((a.length : Int) ≤ 2048 ∧ EvsSz 100000000 a ∧ Q (.tup [.c (.k (.string (printN a))), .c (.k (.int .i64 0))]) [])
    | _ => False)
  | _, _, _ => False
noncomputable def XD2325 : Vx := { P := Tryd.prog, ct := [(17, c_few), (5, c_lawParses), (16, c_sameE), (15, c_parseR), (32, c_eventR), (33, c_lineR), (48, c_wordsR), (49, c_numberR), (36, c_bldS), (34, c_bldW), (4, c_lawPlain), (3, c_lawQuotes), (9, c_shown), (14, c_parse), (31, c_event), (47, c_atoi), (35, c_line), (45, c_words), (51, c_sjoin), (46, c_split), (30, c_cut), (29, c_count), (37, c_itoa), (11, c_unquoteR), (23, c_digit), (10, c_unquote), (13, c_quoteR), (27, c_decode), (12, c_quote), (28, c_itselfR), (26, c_itself), (24, c_hasPre), (39, c_hasPre0), (22, c_indexByte), (25, c_runeLen)], ty := tyTab, hold := [51, 16], bld := some (59, 5) }
theorem XD2325_ok : CtOk Inv Tryd.prog XD2325.ct := CtOk.cons w_few (CtOk.cons w_lawParses (CtOk.cons w_sameE (CtOk.cons w_parseR (CtOk.cons w_eventR (CtOk.cons w_lineR (CtOk.cons w_wordsR (CtOk.cons w_numberR (CtOk.cons w_bldS (CtOk.cons w_bldW (CtOk.cons w_lawPlain (CtOk.cons w_lawQuotes (CtOk.cons w_shown (CtOk.cons w_parse (CtOk.cons w_event (CtOk.cons w_atoi (CtOk.cons w_line (CtOk.cons w_words (CtOk.cons w_sjoin (CtOk.cons w_split (CtOk.cons w_cut (CtOk.cons w_count (CtOk.cons w_itoa (CtOk.cons w_unquoteR (CtOk.cons w_digit (CtOk.cons w_unquote (CtOk.cons w_quoteR (CtOk.cons w_decode (CtOk.cons w_quote (CtOk.cons w_itselfR (CtOk.cons w_itself (CtOk.cons w_hasPre (CtOk.cons w_hasPre0 (CtOk.cons w_indexByte (CtOk.cons w_runeLen (CtOk.nil _ _)))))))))))))))))))))))))))))))))))
def vc_print : (List (tEvent).den) → (SV → List HO → Prop) → Prop :=
 fun a Q => List.length a ≤ (9223372036854775807 : Nat) → List.length a ≤ (9223372036854775807 : Nat) → br (decide ((↑(List.length a) : Int) > (2048 : Int))) (Q (SV.tup [S1.c (Cl.k (Value.string 
 (ByteArray.mk ( #[] )))), S1.c (Cl.k (Value.int IntKind.i64 (3 : Int)))]) []) (List.length a ≤ (9223372036854775807 : Nat) → LoopP (fun i again => br (decide (i.fst.fst < (↑(List.length a) : Int))) 
 ((0 : Int) ≤ i.fst.fst ∧ i.fst.fst < (↑(List.length a) : Int) ∧ (Ty.ok tEvent (ixD tEvent a i.fst.fst) → (↑(ByteArray.size (ixD tEvent a i.fst.fst).snd.snd.snd.snd.fst) : Int) ≤ (100000000 : Int) ∧ 
 (↑(ByteArray.size (ixD tEvent a i.fst.fst).snd.snd.snd.snd.snd.fst) : Int) ≤ (100000000 : Int) ∧ (↑(List.length (ixD tEvent a i.fst.fst).snd.snd.snd.snd.snd.snd.fst) : Int) ≤ (100000000 : Int) ∧ 
 (ByteArray.size (lineN (ixD tEvent a i.fst.fst)) ≤ (9223372036854775807 : Nat) → ByteArray.size (lineN (ixD tEvent a i.fst.fst)) + (1 : Nat) ≤ (9223372036854775807 : Nat) ∧ (59 : TypeId) = (59 : 
 TypeId) ∧ (5 : TypeId) = (5 : TypeId) ∧ (↑(List.length i.snd.fst + ByteArray.size (lineN (ixD tEvent a i.fst.fst) ++ (ByteArray.mk ( #[(10 : UInt8)] )))) : Int) ≤ (140737488355328 : Int) ∧ (inK 
 IntKind.i64 (↑(ByteArray.size (lineN (ixD tEvent a i.fst.fst) ++ (ByteArray.mk ( #[(10 : UInt8)] )))) : Int) → inK IntKind.i64 (i.fst.fst + (1 : Int)) ∧ again ((i.fst.fst + (1 : Int), ()), i.snd.fst 
 ++ (lineN (ixD tEvent a i.fst.fst) ++ (ByteArray.mk ( #[(10 : UInt8)] ))).data.toList, ()))))) ((59 : TypeId) = (59 : TypeId) ∧ (5 : TypeId) = (5 : TypeId) ∧ (ByteArray.size (bstr i.snd.fst) ≤ 
 (9223372036854775807 : Nat) → Q (SV.tup [S1.c (Cl.k (Value.string (bstr i.snd.fst))), S1.c (Cl.k (Value.int IntKind.i64 (0 : Int)))]) []))) (((0 : Int), ()), [], ()))
set_option maxRecDepth 1000000 in
theorem vc_print_eq (a : List (tEvent).den) (Q : SV → List HO → Prop) : vFun XD2325 ⟨[(6, ⟨[(12, .int .i64)], [(0, .ab (.bld 59 5))]⟩)], []⟩ Tryd.f18 [.c (.d tEvent a)] [] Q = vc_print a Q := by kernel_rfl
set_option maxRecDepth 100000 in
theorem w_print : ∀ args H Q, c_print args H Q → Wp Inv Tryd.prog 18 args H Q := by
  intro args H Q h
  unfold c_print at h
  split at h
  · rename_i ca
    split at h
    · rename_i a ha
      refine Wp.said (args' := [.c (.d tEvent a)]) (fun E g => RelVs.cons1 (of_list ha) (fun _ h => h)) ?_
      clear ha
      refine Wp.enter (X := XD2325) XD2325_ok ⟨[(6, ⟨[(12, .int .i64)], [(0, .ab (.bld 59 5))]⟩)], []⟩ (fn := Tryd.f18) (by kernel_rfl) ?_
      have hv := vc_print_eq a Q
      rw [show vFun _ _ _ _ _ _ = _ from hv]
      unfold vc_print
      clear hv
      obtain ⟨hb, hz, h⟩ := h
      intro _ _
      refine @br_of _ _ _ ?_ ?_
      · intro c1
        have c1 : (a.length : Int) > 2048 := by simpa using c1
        omega
      · intro c1
        intro _
        refine LoopP.intro (fun i => ∃ p : Nat, i.1.1 = (p : Int) ∧ p ≤ a.length ∧ i.2.1 = printL (a.take p) ∧ i.2.1.length ≤ p * 900000098) (fun i => a.length - i.1.1.toNat) ⟨0, rfl, Nat.zero_le _, rfl, Nat.le_refl _⟩ ?_
        rintro ⟨⟨i, _⟩, x, _⟩ ⟨p, h0, h1, h2, h3⟩
        simp only at h0 h2 h3 ⊢
        subst h0
        refine @br_of _ _ _ ?_ ?_
        · intro c2
          have c2 : p < a.length := by have : (p : Int) < a.length := (by simpa using c2); omega
          refine ⟨by omega, by omega, fun ho => ?_⟩
          have hk := ev_at (m := 100000000) hz c2 ho
          have hl := line_sz hk
          have hn := print_next c2
          obtain ⟨_, _, _, _, s1, s2, s3⟩ := hk
          have hn1 : (lineN (ixD tEvent a (p : Int)) ++ (⟨#[10]⟩ : ByteArray)).size = (lineN (ixD tEvent a (p : Int))).size + 1 := ByteArray.size_append
          refine ⟨by omega, by omega, by omega, fun _ => ⟨by omega, trivial, trivial, by rw [hn1]; omega, fun _ => ⟨by unfold inK; omega, ⟨p + 1, by omega, by omega, ?_, ?_⟩, by omega⟩⟩⟩
          · rw [app_lst, h2, hn]
          · rw [List.length_append, ← sz_list, hn1]
            omega
        · intro c2
          have c2 : p = a.length := by have : ¬ (p : Int) < a.length := (by simpa using c2); omega
          refine ⟨trivial, trivial, fun _ => ?_⟩
          rw [h2, c2, List.take_of_length_le (Nat.le_refl _)]
          exact h
    · exact h.elim
  · exact h.elim
end Go.Proofs

namespace Go.Proofs
open Go Go.Lm Go.RowKit
def c_lawBack : Ct
  | [.v (.c cl), .v (.c (.k (.string s)))], [], Q => (match (Ty.sl tEvent).of [cl] with
    | some (l, []) => Q (.bool true) []
    | _ => False)
  | _, _, _ => False
noncomputable def XD2426 : Vx := { P := Tryd.prog, ct := [(18, c_print), (17, c_few), (5, c_lawParses), (16, c_sameE), (15, c_parseR), (32, c_eventR), (33, c_lineR), (48, c_wordsR), (49, c_numberR), (36, c_bldS), (34, c_bldW), (4, c_lawPlain), (3, c_lawQuotes), (9, c_shown), (14, c_parse), (31, c_event), (47, c_atoi), (35, c_line), (45, c_words), (51, c_sjoin), (46, c_split), (30, c_cut), (29, c_count), (37, c_itoa), (11, c_unquoteR), (23, c_digit), (10, c_unquote), (13, c_quoteR), (27, c_decode), (12, c_quote), (28, c_itselfR), (26, c_itself), (24, c_hasPre), (39, c_hasPre0), (22, c_indexByte), (25, c_runeLen)], ty := tyTab, hold := [51, 16, 18] }
theorem XD2426_ok : CtOk Inv Tryd.prog XD2426.ct := CtOk.cons w_print (CtOk.cons w_few (CtOk.cons w_lawParses (CtOk.cons w_sameE (CtOk.cons w_parseR (CtOk.cons w_eventR (CtOk.cons w_lineR (CtOk.cons w_wordsR (CtOk.cons w_numberR (CtOk.cons w_bldS (CtOk.cons w_bldW (CtOk.cons w_lawPlain (CtOk.cons w_lawQuotes (CtOk.cons w_shown (CtOk.cons w_parse (CtOk.cons w_event (CtOk.cons w_atoi (CtOk.cons w_line (CtOk.cons w_words (CtOk.cons w_sjoin (CtOk.cons w_split (CtOk.cons w_cut (CtOk.cons w_count (CtOk.cons w_itoa (CtOk.cons w_unquoteR (CtOk.cons w_digit (CtOk.cons w_unquote (CtOk.cons w_quoteR (CtOk.cons w_decode (CtOk.cons w_quote (CtOk.cons w_itselfR (CtOk.cons w_itself (CtOk.cons w_hasPre (CtOk.cons w_hasPre0 (CtOk.cons w_indexByte (CtOk.cons w_runeLen (CtOk.nil _ _))))))))))))))))))))))))))))))))))))
def vc_lawBack : (List (tEvent).den) → (ByteArray) → (SV → List HO → Prop) → Prop :=
 fun l s Q => List.length l ≤ (9223372036854775807 : Nat) → ByteArray.size s ≤ (9223372036854775807 : Nat) → EvsIn (fewN l) → br (decide ((↑(ByteArray.size s) : Int) > (3000 : Int))) ((0 : Int) ≤ 
 boundV none (0 : Int) ∧ boundV none (0 : Int) ≤ boundV (some (3000 : Int)) (↑(ByteArray.size s) : Int) ∧ boundV (some (3000 : Int)) (↑(ByteArray.size s) : Int) ≤ (↑(ByteArray.size s) : Int) ∧ 
 (↑(List.length (fewN l)) : Int) ≤ (2048 : Int) ∧ EvsSz (100000000 : Int) (fewN l) ∧ (ByteArray.size (printN (fewN l)) ≤ (9223372036854775807 : Nat) → inK IntKind.i64 (0 : Int) → br (decide 
 ((↑(ByteArray.size (printN (fewN l))) : Int) ≤ (65536 : Int))) (br ((parseN (printN (fewN l))).snd.snd == (0 : Int)) (inK IntKind.i64 (parseN (printN (fewN l))).snd.fst → inK IntKind.i64 (parseN 
 (printN (fewN l))).snd.snd → EvsEq (parseN (printN (fewN l))).fst (fewN l) ∧ br ((parseN (printN (fewN l))).snd.snd != (0 : Int)) (Q (SV.v (S1.c (Cl.k (Value.bool false)))) []) (br ((parseN (printN 
 (fewN l))).snd.fst != (0 : Int)) (Q (SV.v (S1.c (Cl.k (Value.bool false)))) []) (br ((parseN (ByteArray.extract s (0 : Nat) (Int.toNat (boundV (some (3000 : Int)) (↑(ByteArray.size s) : 
 Int))))).snd.snd == (0 : Int)) (inK IntKind.i64 (parseN (ByteArray.extract s (0 : Nat) (Int.toNat (boundV (some (3000 : Int)) (↑(ByteArray.size s) : Int))))).snd.fst → inK IntKind.i64 (parseN 
 (ByteArray.extract s (0 : Nat) (Int.toNat (boundV (some (3000 : Int)) (↑(ByteArray.size s) : Int))))).snd.snd → br ((parseN (ByteArray.extract s (0 : Nat) (Int.toNat (boundV (some (3000 : Int)) 
 (↑(ByteArray.size s) : Int))))).snd.snd != (0 : Int)) (List.length (parseN (ByteArray.extract s (0 : Nat) (Int.toNat (boundV (some (3000 : Int)) (↑(ByteArray.size s) : Int))))).fst ≤ 
 (9223372036854775807 : Nat) → Q (SV.v (S1.c (Cl.k (Value.bool ((↑(List.length (parseN (ByteArray.extract s (0 : Nat) (Int.toNat (boundV (some (3000 : Int)) (↑(ByteArray.size s) : Int))))).fst) : Int) 
 == (0 : Int)))))) []) ((↑(List.length (parseN (ByteArray.extract s (0 : Nat) (Int.toNat (boundV (some (3000 : Int)) (↑(ByteArray.size s) : Int))))).fst) : Int) ≤ (2048 : Int) ∧ EvsSz (100000000 : Int) 
 (parseN (ByteArray.extract s (0 : Nat) (Int.toNat (boundV (some (3000 : Int)) (↑(ByteArray.size s) : Int))))).fst ∧ (ByteArray.size (printN (parseN (ByteArray.extract s (0 : Nat) (Int.toNat (boundV 
 (some (3000 : Int)) (↑(ByteArray.size s) : Int))))).fst) ≤ (9223372036854775807 : Nat) → inK IntKind.i64 (0 : Int) → Q (SV.v (S1.c (Cl.k (Value.bool (sEq (printN (parseN (ByteArray.extract s (0 : Nat) 
 (Int.toNat (boundV (some (3000 : Int)) (↑(ByteArray.size s) : Int))))).fst) (ByteArray.extract s (0 : Nat) (Int.toNat (boundV (some (3000 : Int)) (↑(ByteArray.size s) : Int))))))))) []))) (inK 
 IntKind.i64 (parseN (ByteArray.extract s (0 : Nat) (Int.toNat (boundV (some (3000 : Int)) (↑(ByteArray.size s) : Int))))).snd.fst → inK IntKind.i64 (parseN (ByteArray.extract s (0 : Nat) (Int.toNat 
 (boundV (some (3000 : Int)) (↑(ByteArray.size s) : Int))))).snd.snd → br ((parseN (ByteArray.extract s (0 : Nat) (Int.toNat (boundV (some (3000 : Int)) (↑(ByteArray.size s) : Int))))).snd.snd != (0 : 
 Int)) (Q (SV.v (S1.c (Cl.k (Value.bool ((0 : Int) == (0 : Int)))))) []) ((↑(0 : Nat) : Int) ≤ (2048 : Int) ∧ EvsSz (100000000 : Int) [] ∧ ((0 : Nat) ≤ (9223372036854775807 : Nat) → inK IntKind.i64 (0 
 : Int) → Q (SV.v (S1.c (Cl.k (Value.bool (sEq (printN []) (ByteArray.extract s (0 : Nat) (Int.toNat (boundV (some (3000 : Int)) (↑(ByteArray.size s) : Int))))))))) [])))))) (inK IntKind.i64 (parseN 
 (printN (fewN l))).snd.fst → inK IntKind.i64 (parseN (printN (fewN l))).snd.snd → EvsEq [] (fewN l) ∧ br ((parseN (printN (fewN l))).snd.snd != (0 : Int)) (Q (SV.v (S1.c (Cl.k (Value.bool false)))) 
 []) (br ((parseN (printN (fewN l))).snd.fst != (0 : Int)) (Q (SV.v (S1.c (Cl.k (Value.bool false)))) []) (br ((parseN (ByteArray.extract s (0 : Nat) (Int.toNat (boundV (some (3000 : Int)) 
 (↑(ByteArray.size s) : Int))))).snd.snd == (0 : Int)) (inK IntKind.i64 (parseN (ByteArray.extract s (0 : Nat) (Int.toNat (boundV (some (3000 : Int)) (↑(ByteArray.size s) : Int))))).snd.fst → inK 
 IntKind.i64 (parseN (ByteArray.extract s (0 : Nat) (Int.toNat (boundV (some (3000 : Int)) (↑(ByteArray.size s) : Int))))).snd.snd → br ((parseN (ByteArray.extract s (0 : Nat) (Int.toNat (boundV (some 
 (3000 : Int)) (↑(ByteArray.size s) : Int))))).snd.snd != (0 : Int)) (List.length (parseN (ByteArray.extract s (0 : Nat) (Int.toNat (boundV (some (3000 : Int)) (↑(ByteArray.size s) : Int))))).fst ≤ 
 (9223372036854775807 : Nat) → Q (SV.v (S1.c (Cl.k (Value.bool ((↑(List.length (parseN (ByteArray.extract s (0 : Nat) (Int.toNat (boundV (some (3000 : Int)) (↑(ByteArray.size s) : Int))))).fst) : Int) 
 == (0 : Int)))))) []) ((↑(List.length (parseN (ByteArray.extract s (0 : Nat) (Int.toNat (boundV (some (3000 : Int)) (↑(ByteArray.size s) : Int))))).fst) : Int) ≤ (2048 : Int) ∧ EvsSz (100000000 : Int) 
 (parseN (ByteArray.extract s (0 : Nat) (Int.toNat (boundV (some (3000 : Int)) (↑(ByteArray.size s) : Int))))).fst ∧ (ByteArray.size (printN (parseN (ByteArray.extract s (0 : Nat) (Int.toNat (boundV 
 (some (3000 : Int)) (↑(ByteArray.size s) : Int))))).fst) ≤ (9223372036854775807 : Nat) → inK IntKind.i64 (0 : Int) → Q (SV.v (S1.c (Cl.k (Value.bool (sEq (printN (parseN (ByteArray.extract s (0 : Nat) 
 (Int.toNat (boundV (some (3000 : Int)) (↑(ByteArray.size s) : Int))))).fst) (ByteArray.extract s (0 : Nat) (Int.toNat (boundV (some (3000 : Int)) (↑(ByteArray.size s) : Int))))))))) []))) (inK 
 IntKind.i64 (parseN (ByteArray.extract s (0 : Nat) (Int.toNat (boundV (some (3000 : Int)) (↑(ByteArray.size s) : Int))))).snd.fst → inK IntKind.i64 (parseN (ByteArray.extract s (0 : Nat) (Int.toNat 
 (boundV (some (3000 : Int)) (↑(ByteArray.size s) : Int))))).snd.snd → br ((parseN (ByteArray.extract s (0 : Nat) (Int.toNat (boundV (some (3000 : Int)) (↑(ByteArray.size s) : Int))))).snd.snd != (0 : 
 Int)) (Q (SV.v (S1.c (Cl.k (Value.bool ((0 : Int) == (0 : Int)))))) []) ((↑(0 : Nat) : Int) ≤ (2048 : Int) ∧ EvsSz (100000000 : Int) [] ∧ ((0 : Nat) ≤ (9223372036854775807 : Nat) → inK IntKind.i64 (0 
 : Int) → Q (SV.v (S1.c (Cl.k (Value.bool (sEq (printN []) (ByteArray.extract s (0 : Nat) (Int.toNat (boundV (some (3000 : Int)) (↑(ByteArray.size s) : Int))))))))) []))))))) (br ((parseN 
 (ByteArray.extract s (0 : Nat) (Int.toNat (boundV (some (3000 : Int)) (↑(ByteArray.size s) : Int))))).snd.snd == (0 : Int)) (inK IntKind.i64 (parseN (ByteArray.extract s (0 : Nat) (Int.toNat (boundV 
 (some (3000 : Int)) (↑(ByteArray.size s) : Int))))).snd.fst → inK IntKind.i64 (parseN (ByteArray.extract s (0 : Nat) (Int.toNat (boundV (some (3000 : Int)) (↑(ByteArray.size s) : Int))))).snd.snd → br 
 ((parseN (ByteArray.extract s (0 : Nat) (Int.toNat (boundV (some (3000 : Int)) (↑(ByteArray.size s) : Int))))).snd.snd != (0 : Int)) (List.length (parseN (ByteArray.extract s (0 : Nat) (Int.toNat 
 (boundV (some (3000 : Int)) (↑(ByteArray.size s) : Int))))).fst ≤ (9223372036854775807 : Nat) → Q (SV.v (S1.c (Cl.k (Value.bool ((↑(List.length (parseN (ByteArray.extract s (0 : Nat) (Int.toNat 
 (boundV (some (3000 : Int)) (↑(ByteArray.size s) : Int))))).fst) : Int) == (0 : Int)))))) []) ((↑(List.length (parseN (ByteArray.extract s (0 : Nat) (Int.toNat (boundV (some (3000 : Int)) 
 (↑(ByteArray.size s) : Int))))).fst) : Int) ≤ (2048 : Int) ∧ EvsSz (100000000 : Int) (parseN (ByteArray.extract s (0 : Nat) (Int.toNat (boundV (some (3000 : Int)) (↑(ByteArray.size s) : Int))))).fst ∧ 
 (ByteArray.size (printN (parseN (ByteArray.extract s (0 : Nat) (Int.toNat (boundV (some (3000 : Int)) (↑(ByteArray.size s) : Int))))).fst) ≤ (9223372036854775807 : Nat) → inK IntKind.i64 (0 : Int) → Q 
 (SV.v (S1.c (Cl.k (Value.bool (sEq (printN (parseN (ByteArray.extract s (0 : Nat) (Int.toNat (boundV (some (3000 : Int)) (↑(ByteArray.size s) : Int))))).fst) (ByteArray.extract s (0 : Nat) (Int.toNat 
 (boundV (some (3000 : Int)) (↑(ByteArray.size s) : Int))))))))) []))) (inK IntKind.i64 (parseN (ByteArray.extract s (0 : Nat) (Int.toNat (boundV (some (3000 : Int)) (↑(ByteArray.size s) : 
 Int))))).snd.fst → inK IntKind.i64 (parseN (ByteArray.extract s (0 : Nat) (Int.toNat (boundV (some (3000 : Int)) (↑(ByteArray.size s) : Int))))).snd.snd → br ((parseN (ByteArray.extract s (0 : Nat) 
 (Int.toNat (boundV (some (3000 : Int)) (↑(ByteArray.size s) : Int))))).snd.snd != (0 : Int)) (Q (SV.v (S1.c (Cl.k (Value.bool ((0 : Int) == (0 : Int)))))) []) ((↑(0 : Nat) : Int) ≤ (2048 : Int) ∧ 
 EvsSz (100000000 : Int) [] ∧ ((0 : Nat) ≤ (9223372036854775807 : Nat) → inK IntKind.i64 (0 : Int) → Q (SV.v (S1.c (Cl.k (Value.bool (sEq (printN []) (ByteArray.extract s (0 : Nat) (Int.toNat (boundV 
 (some (3000 : Int)) (↑(ByteArray.size s) : Int))))))))) [])))))) ((↑(List.length (fewN l)) : Int) ≤ (2048 : Int) ∧ EvsSz (100000000 : Int) (fewN l) ∧ (ByteArray.size (printN (fewN l)) ≤ 
 (9223372036854775807 : Nat) → inK IntKind.i64 (0 : Int) → br (decide ((↑(ByteArray.size (printN (fewN l))) : Int) ≤ (65536 : Int))) (br ((parseN (printN (fewN l))).snd.snd == (0 : Int)) (inK 
 IntKind.i64 (parseN (printN (fewN l))).snd.fst → inK IntKind.i64 (parseN (printN (fewN l))).snd.snd → EvsEq (parseN (printN (fewN l))).fst (fewN l) ∧ br ((parseN (printN (fewN l))).snd.snd != (0 : 
 Int)) (Q (SV.v (S1.c (Cl.k (Value.bool false)))) []) (br ((parseN (printN (fewN l))).snd.fst != (0 : Int)) (Q (SV.v (S1.c (Cl.k (Value.bool false)))) []) (br ((parseN s).snd.snd == (0 : Int)) (inK 
 IntKind.i64 (parseN s).snd.fst → inK IntKind.i64 (parseN s).snd.snd → br ((parseN s).snd.snd != (0 : Int)) (List.length (parseN s).fst ≤ (9223372036854775807 : Nat) → Q (SV.v (S1.c (Cl.k (Value.bool 
 ((↑(List.length (parseN s).fst) : Int) == (0 : Int)))))) []) ((↑(List.length (parseN s).fst) : Int) ≤ (2048 : Int) ∧ EvsSz (100000000 : Int) (parseN s).fst ∧ (ByteArray.size (printN (parseN s).fst) ≤ 
 (9223372036854775807 : Nat) → inK IntKind.i64 (0 : Int) → Q (SV.v (S1.c (Cl.k (Value.bool (sEq (printN (parseN s).fst) s))))) []))) (inK IntKind.i64 (parseN s).snd.fst → inK IntKind.i64 (parseN 
 s).snd.snd → br ((parseN s).snd.snd != (0 : Int)) (Q (SV.v (S1.c (Cl.k (Value.bool ((0 : Int) == (0 : Int)))))) []) ((↑(0 : Nat) : Int) ≤ (2048 : Int) ∧ EvsSz (100000000 : Int) [] ∧ ((0 : Nat) ≤ 
 (9223372036854775807 : Nat) → inK IntKind.i64 (0 : Int) → Q (SV.v (S1.c (Cl.k (Value.bool (sEq (printN []) s))))) [])))))) (inK IntKind.i64 (parseN (printN (fewN l))).snd.fst → inK IntKind.i64 (parseN 
 (printN (fewN l))).snd.snd → EvsEq [] (fewN l) ∧ br ((parseN (printN (fewN l))).snd.snd != (0 : Int)) (Q (SV.v (S1.c (Cl.k (Value.bool false)))) []) (br ((parseN (printN (fewN l))).snd.fst != (0 : 
 Int)) (Q (SV.v (S1.c (Cl.k (Value.bool false)))) []) (br ((parseN s).snd.snd == (0 : Int)) (inK IntKind.i64 (parseN s).snd.fst → inK IntKind.i64 (parseN s).snd.snd → br ((parseN s).snd.snd != (0 : 
 Int)) (List.length (parseN s).fst ≤ (9223372036854775807 : Nat) → Q (SV.v (S1.c (Cl.k (Value.bool ((↑(List.length (parseN s).fst) : Int) == (0 : Int)))))) []) ((↑(List.length (parseN s).fst) : Int) ≤ 
 (2048 : Int) ∧ EvsSz (100000000 : Int) (parseN s).fst ∧ (ByteArray.size (printN (parseN s).fst) ≤ (9223372036854775807 : Nat) → inK IntKind.i64 (0 : Int) → Q (SV.v (S1.c (Cl.k (Value.bool (sEq (printN 
 (parseN s).fst) s))))) []))) (inK IntKind.i64 (parseN s).snd.fst → inK IntKind.i64 (parseN s).snd.snd → br ((parseN s).snd.snd != (0 : Int)) (Q (SV.v (S1.c (Cl.k (Value.bool ((0 : Int) == (0 : 
 Int)))))) []) ((↑(0 : Nat) : Int) ≤ (2048 : Int) ∧ EvsSz (100000000 : Int) [] ∧ ((0 : Nat) ≤ (9223372036854775807 : Nat) → inK IntKind.i64 (0 : Int) → Q (SV.v (S1.c (Cl.k (Value.bool (sEq (printN []) 
 s))))) []))))))) (br ((parseN s).snd.snd == (0 : Int)) (inK IntKind.i64 (parseN s).snd.fst → inK IntKind.i64 (parseN s).snd.snd → br ((parseN s).snd.snd != (0 : Int)) (List.length (parseN s).fst ≤ 
 (9223372036854775807 : Nat) → Q (SV.v (S1.c (Cl.k (Value.bool ((↑(List.length (parseN s).fst) : Int) == (0 : Int)))))) []) ((↑(List.length (parseN s).fst) : Int) ≤ (2048 : Int) ∧ EvsSz (100000000 : 
 Int) (parseN s).fst ∧ (ByteArray.size (printN (parseN s).fst) ≤ (9223372036854775807 : Nat) → inK IntKind.i64 (0 : Int) → Q (SV.v (S1.c (Cl.k (Value.bool (sEq (printN (parseN s).fst) s))))) []))) (inK 
 IntKind.i64 (parseN s).snd.fst → inK IntKind.i64 (parseN s).snd.snd → br ((parseN s).snd.snd != (0 : Int)) (Q (SV.v (S1.c (Cl.k (Value.bool ((0 : Int) == (0 : Int)))))) []) ((↑(0 : Nat) : Int) ≤ (2048 
 : Int) ∧ EvsSz (100000000 : Int) [] ∧ ((0 : Nat) ≤ (9223372036854775807 : Nat) → inK IntKind.i64 (0 : Int) → Q (SV.v (S1.c (Cl.k (Value.bool (sEq (printN []) s))))) []))))))
set_option maxRecDepth 1000000 in
theorem vc_lawBack_eq (l : List (tEvent).den) (s : ByteArray) (Q : SV → List HO → Prop) : vFun XD2426 ⟨[], []⟩ Tryd.f6 [.c (.d tEvent l), .str s] [] Q = vc_lawBack l s Q := by kernel_rfl
set_option maxRecDepth 100000 in
theorem w_lawBack : ∀ args H Q, c_lawBack args H Q → Wp Inv Tryd.prog 6 args H Q := by
  intro args H Q h
  unfold c_lawBack at h
  split at h
  · rename_i cl s
    split at h
    · rename_i l hl
      refine Wp.said (args' := [.c (.d tEvent l), .str s]) (fun E g => RelVs.cons1 (of_list hl) (RelVs.cons1 (fun _ h => h) (fun _ h => h))) ?_
      clear hl
      refine Wp.enter (X := XD2426) XD2426_ok ⟨[], []⟩ (fn := Tryd.f6) (by kernel_rfl) ?_
      have hv := vc_lawBack_eq l s Q
      rw [show vFun _ _ _ _ _ _ = _ from hv]
      unfold vc_lawBack
      clear hv
      intro hl hs hin
      have hfl := few_len l
      refine @br_of _ _ _ ?_ ?_
      · intro c1
        have c1 : (s.size : Int) > 3000 := by simpa using c1
        have hz : (s.extract 0 (Int.toNat (boundV (some 3000) (s.size : Int)))).size ≤ 3000 := by
          rw [sz_list, ext_lst, List.length_drop, List.length_take]
          show min 3000 _ - 0 ≤ 3000
          omega
        refine ⟨by decide, by show (0 : Int) ≤ 3000; decide, by show (3000 : Int) ≤ s.size; omega, ?_⟩
        refine ⟨by omega, ⟨fun e he => by have := few_sz he; omega⟩, fun _ _ => ?_⟩
        refine @br_of _ _ _ ?_ ?_
        · intro c2
          have c2 : (printN (fewN l)).size ≤ 65536 := by have : ((printN (fewN l)).size : Int) ≤ 65536 := (by simpa using c2); omega
          have hpp := parse_print hin.all (by omega) c2
          rw [hpp]
          refine @br_of _ _ _ ?_ ?_
          · intro e3
            intro _ _
            refine ⟨⟨rfl⟩, ?_⟩
            refine @br_of _ _ _ ?_ ?_
            · intro e4
              exact absurd (show ((0 : Int) != 0) = true from e4) (by decide)
            · intro e4
              refine @br_of _ _ _ ?_ ?_
              · intro e5
                exact absurd (show ((0 : Int) != 0) = true from e5) (by decide)
              · intro e5
                skip
                generalize hq : parseN (s.extract 0 (Int.toNat (boundV (some 3000) (s.size : Int)))) = q
                obtain ⟨r, n, c⟩ := q
                refine @br_of _ _ _ ?_ ?_
                · intro e1
                  have e1 : c = 0 := by simpa using e1
                  subst e1
                  obtain ⟨p1, p2, p3⟩ := print_parse hq
                  intro _ _
                  refine @br_of _ _ _ ?_ ?_
                  · intro e2
                    exact absurd (show ((0 : Int) != 0) = true from e2) (by decide)
                  · intro e2
                    refine ⟨by show (r.length : Int) ≤ 2048; omega, ⟨fun e he => ?_⟩, fun _ _ => ?_⟩
                    · have := p3.sz e he
                      omega
                    · rw [p1, sEq_self]
                      exact h
                · intro e1
                  have e1 : ¬ c = 0 := by simpa using e1
                  intro _ _
                  refine @br_of _ _ _ ?_ ?_
                  · intro e2
                    exact h
                  · intro e2
                    exact absurd (show c = 0 by simpa using e2) e1
          · intro e3
            exact absurd (show ((0 : Int) == 0) = false from e3) (by decide)
        · intro c2
          skip
          generalize hq : parseN (s.extract 0 (Int.toNat (boundV (some 3000) (s.size : Int)))) = q
          obtain ⟨r, n, c⟩ := q
          refine @br_of _ _ _ ?_ ?_
          · intro e1
            have e1 : c = 0 := by simpa using e1
            subst e1
            obtain ⟨p1, p2, p3⟩ := print_parse hq
            intro _ _
            refine @br_of _ _ _ ?_ ?_
            · intro e2
              exact absurd (show ((0 : Int) != 0) = true from e2) (by decide)
            · intro e2
              refine ⟨by show (r.length : Int) ≤ 2048; omega, ⟨fun e he => ?_⟩, fun _ _ => ?_⟩
              · have := p3.sz e he
                omega
              · rw [p1, sEq_self]
                exact h
          · intro e1
            have e1 : ¬ c = 0 := by simpa using e1
            intro _ _
            refine @br_of _ _ _ ?_ ?_
            · intro e2
              exact h
            · intro e2
              exact absurd (show c = 0 by simpa using e2) e1
      · intro c1
        have c1 : ¬ (s.size : Int) > 3000 := by simpa using c1
        have hz : s.size ≤ 3000 := by omega
        refine ⟨by omega, ⟨fun e he => by have := few_sz he; omega⟩, fun _ _ => ?_⟩
        refine @br_of _ _ _ ?_ ?_
        · intro c2
          have c2 : (printN (fewN l)).size ≤ 65536 := by have : ((printN (fewN l)).size : Int) ≤ 65536 := (by simpa using c2); omega
          have hpp := parse_print hin.all (by omega) c2
          rw [hpp]
          refine @br_of _ _ _ ?_ ?_
          · intro e3
            intro _ _
            refine ⟨⟨rfl⟩, ?_⟩
            refine @br_of _ _ _ ?_ ?_
            · intro e4
              exact absurd (show ((0 : Int) != 0) = true from e4) (by decide)
            · intro e4
              refine @br_of _ _ _ ?_ ?_
              · intro e5
                exact absurd (show ((0 : Int) != 0) = true from e5) (by decide)
              · intro e5
                skip
                generalize hq : parseN s = q
                obtain ⟨r, n, c⟩ := q
                refine @br_of _ _ _ ?_ ?_
                · intro e1
                  have e1 : c = 0 := by simpa using e1
                  subst e1
                  obtain ⟨p1, p2, p3⟩ := print_parse hq
                  intro _ _
                  refine @br_of _ _ _ ?_ ?_
                  · intro e2
                    exact absurd (show ((0 : Int) != 0) = true from e2) (by decide)
                  · intro e2
                    refine ⟨by show (r.length : Int) ≤ 2048; omega, ⟨fun e he => ?_⟩, fun _ _ => ?_⟩
                    · have := p3.sz e he
                      omega
                    · rw [p1, sEq_self]
                      exact h
                · intro e1
                  have e1 : ¬ c = 0 := by simpa using e1
                  intro _ _
                  refine @br_of _ _ _ ?_ ?_
                  · intro e2
                    exact h
                  · intro e2
                    exact absurd (show c = 0 by simpa using e2) e1
          · intro e3
            exact absurd (show ((0 : Int) == 0) = false from e3) (by decide)
        · intro c2
          skip
          generalize hq : parseN s = q
          obtain ⟨r, n, c⟩ := q
          refine @br_of _ _ _ ?_ ?_
          · intro e1
            have e1 : c = 0 := by simpa using e1
            subst e1
            obtain ⟨p1, p2, p3⟩ := print_parse hq
            intro _ _
            refine @br_of _ _ _ ?_ ?_
            · intro e2
              exact absurd (show ((0 : Int) != 0) = true from e2) (by decide)
            · intro e2
              refine ⟨by show (r.length : Int) ≤ 2048; omega, ⟨fun e he => ?_⟩, fun _ _ => ?_⟩
              · have := p3.sz e he
                omega
              · rw [p1, sEq_self]
                exact h
          · intro e1
            have e1 : ¬ c = 0 := by simpa using e1
            intro _ _
            refine @br_of _ _ _ ?_ ?_
            · intro e2
              exact h
            · intro e2
              exact absurd (show c = 0 by simpa using e2) e1
    · exact h.elim
  · exact h.elim
end Go.Proofs
