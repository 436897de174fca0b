/- Texts of mine, laid together: D21 D22 D23 D24 D25 D26 D27 D28 Upt. -/
import Derived.Test.YtklplgmjccldlaaDoorBK1
import Derived.Test.YtklplgmjccldlaaDoorProg
import Derived.Test.YtklplgmjccldlaaDoorChecked
import Derived.Test.YtklplgmjccldlaaDoorBV2
import Derived.Test.YtklplgmjccldlaaDoorRows
import Derived.Test.YtklplgmjccldlaaDoorBW1
namespace Go.Proofs
open Go Go.Lm Go.RowKit
def c_lawParses : Ct
  | [.v (.c (.k (.string s)))], [], Q => Q (.bool true) []
  | _, _, _ => False
noncomputable def XD2123 : Vx := { P := Tryd.prog, ct := [(16, c_sameE), (15, c_parseR), (32, c_eventR), (33, c_lineR), (48, c_wordsR), (49, c_numberR), (36, c_bldS), (34, c_bldW), (4, c_lawPlain), (3, c_lawQuotes), (9, c_shown), (14, c_parse), (31, c_event), (47, c_atoi), (35, c_line), (45, c_words), (51, c_sjoin), (46, c_split), (30, c_cut), (29, c_count), (37, c_itoa), (11, c_unquoteR), (23, c_digit), (10, c_unquote), (13, c_quoteR), (27, c_decode), (12, c_quote), (28, c_itselfR), (26, c_itself), (24, c_hasPre), (39, c_hasPre0), (22, c_indexByte), (25, c_runeLen)], ty := tyTab, hold := [51, 16] }
theorem XD2123_ok : CtOk Inv Tryd.prog XD2123.ct := CtOk.cons w_sameE (CtOk.cons w_parseR (CtOk.cons w_eventR (CtOk.cons w_lineR (CtOk.cons w_wordsR (CtOk.cons w_numberR (CtOk.cons w_bldS (CtOk.cons w_bldW (CtOk.cons w_lawPlain (CtOk.cons w_lawQuotes (CtOk.cons w_shown (CtOk.cons w_parse (CtOk.cons w_event (CtOk.cons w_atoi (CtOk.cons w_line (CtOk.cons w_words (CtOk.cons w_sjoin (CtOk.cons w_split (CtOk.cons w_cut (CtOk.cons w_count (CtOk.cons w_itoa (CtOk.cons w_unquoteR (CtOk.cons w_digit (CtOk.cons w_unquote (CtOk.cons w_quoteR (CtOk.cons w_decode (CtOk.cons w_quote (CtOk.cons w_itselfR (CtOk.cons w_itself (CtOk.cons w_hasPre (CtOk.cons w_hasPre0 (CtOk.cons w_indexByte (CtOk.cons w_runeLen (CtOk.nil _ _)))))))))))))))))))))))))))))))))
def vc_lawParses : (ByteArray) → (SV → List HO → Prop) → Prop :=
 fun s Q => ByteArray.size s ≤ (9223372036854775807 : Nat) → br (decide ((↑(ByteArray.size s) : Int) > (66000 : Int))) ((0 : Int) ≤ boundV none (0 : Int) ∧ boundV none (0 : Int) ≤ boundV (some (66000 : 
 Int)) (↑(ByteArray.size s) : Int) ∧ boundV (some (66000 : Int)) (↑(ByteArray.size s) : Int) ≤ (↑(ByteArray.size s) : Int) ∧ br ((parseN (ByteArray.extract s (0 : Nat) (Int.toNat (boundV (some (66000 : 
 Int)) (↑(ByteArray.size s) : Int))))).snd.snd == (0 : Int)) (inK IntKind.i64 (parseN (ByteArray.extract s (0 : Nat) (Int.toNat (boundV (some (66000 : Int)) (↑(ByteArray.size s) : Int))))).snd.fst → 
 inK IntKind.i64 (parseN (ByteArray.extract s (0 : Nat) (Int.toNat (boundV (some (66000 : Int)) (↑(ByteArray.size s) : Int))))).snd.snd → br ((parseN (ByteArray.extract s (0 : Nat) (Int.toNat (boundV 
 (some (66000 : Int)) (↑(ByteArray.size s) : Int))))).snd.snd == (0 : Int)) (inK IntKind.i64 (parseN (ByteArray.extract s (0 : Nat) (Int.toNat (boundV (some (66000 : Int)) (↑(ByteArray.size s) : 
 Int))))).snd.fst → inK IntKind.i64 (parseN (ByteArray.extract s (0 : Nat) (Int.toNat (boundV (some (66000 : Int)) (↑(ByteArray.size s) : Int))))).snd.snd → EvsEq (parseN (ByteArray.extract s (0 : Nat) 
 (Int.toNat (boundV (some (66000 : Int)) (↑(ByteArray.size s) : Int))))).fst (parseN (ByteArray.extract s (0 : Nat) (Int.toNat (boundV (some (66000 : Int)) (↑(ByteArray.size s) : Int))))).fst ∧ br 
 ((parseN (ByteArray.extract s (0 : Nat) (Int.toNat (boundV (some (66000 : Int)) (↑(ByteArray.size s) : Int))))).snd.fst == (parseN (ByteArray.extract s (0 : Nat) (Int.toNat (boundV (some (66000 : 
 Int)) (↑(ByteArray.size s) : Int))))).snd.fst) (Q (SV.v (S1.c (Cl.k (Value.bool ((parseN (ByteArray.extract s (0 : Nat) (Int.toNat (boundV (some (66000 : Int)) (↑(ByteArray.size s) : Int))))).snd.snd 
 == (parseN (ByteArray.extract s (0 : Nat) (Int.toNat (boundV (some (66000 : Int)) (↑(ByteArray.size s) : Int))))).snd.snd))))) []) (Q (SV.v (S1.c (Cl.k (Value.bool false)))) [])) (inK IntKind.i64 
 (parseN (ByteArray.extract s (0 : Nat) (Int.toNat (boundV (some (66000 : Int)) (↑(ByteArray.size s) : Int))))).snd.fst → inK IntKind.i64 (parseN (ByteArray.extract s (0 : Nat) (Int.toNat (boundV (some 
 (66000 : Int)) (↑(ByteArray.size s) : Int))))).snd.snd → EvsEq (parseN (ByteArray.extract s (0 : Nat) (Int.toNat (boundV (some (66000 : Int)) (↑(ByteArray.size s) : Int))))).fst [] ∧ br ((parseN 
 (ByteArray.extract s (0 : Nat) (Int.toNat (boundV (some (66000 : Int)) (↑(ByteArray.size s) : Int))))).snd.fst == (parseN (ByteArray.extract s (0 : Nat) (Int.toNat (boundV (some (66000 : Int)) 
 (↑(ByteArray.size s) : Int))))).snd.fst) (Q (SV.v (S1.c (Cl.k (Value.bool ((parseN (ByteArray.extract s (0 : Nat) (Int.toNat (boundV (some (66000 : Int)) (↑(ByteArray.size s) : Int))))).snd.snd == 
 (parseN (ByteArray.extract s (0 : Nat) (Int.toNat (boundV (some (66000 : Int)) (↑(ByteArray.size s) : Int))))).snd.snd))))) []) (Q (SV.v (S1.c (Cl.k (Value.bool false)))) []))) (inK IntKind.i64 
 (parseN (ByteArray.extract s (0 : Nat) (Int.toNat (boundV (some (66000 : Int)) (↑(ByteArray.size s) : Int))))).snd.fst → inK IntKind.i64 (parseN (ByteArray.extract s (0 : Nat) (Int.toNat (boundV (some 
 (66000 : Int)) (↑(ByteArray.size s) : Int))))).snd.snd → br ((parseN (ByteArray.extract s (0 : Nat) (Int.toNat (boundV (some (66000 : Int)) (↑(ByteArray.size s) : Int))))).snd.snd == (0 : Int)) (inK 
 IntKind.i64 (parseN (ByteArray.extract s (0 : Nat) (Int.toNat (boundV (some (66000 : Int)) (↑(ByteArray.size s) : Int))))).snd.fst → inK IntKind.i64 (parseN (ByteArray.extract s (0 : Nat) (Int.toNat 
 (boundV (some (66000 : Int)) (↑(ByteArray.size s) : Int))))).snd.snd → EvsEq [] (parseN (ByteArray.extract s (0 : Nat) (Int.toNat (boundV (some (66000 : Int)) (↑(ByteArray.size s) : Int))))).fst ∧ br 
 ((parseN (ByteArray.extract s (0 : Nat) (Int.toNat (boundV (some (66000 : Int)) (↑(ByteArray.size s) : Int))))).snd.fst == (parseN (ByteArray.extract s (0 : Nat) (Int.toNat (boundV (some (66000 : 
 Int)) (↑(ByteArray.size s) : Int))))).snd.fst) (Q (SV.v (S1.c (Cl.k (Value.bool ((parseN (ByteArray.extract s (0 : Nat) (Int.toNat (boundV (some (66000 : Int)) (↑(ByteArray.size s) : Int))))).snd.snd 
 == (parseN (ByteArray.extract s (0 : Nat) (Int.toNat (boundV (some (66000 : Int)) (↑(ByteArray.size s) : Int))))).snd.snd))))) []) (Q (SV.v (S1.c (Cl.k (Value.bool false)))) [])) (inK IntKind.i64 
 (parseN (ByteArray.extract s (0 : Nat) (Int.toNat (boundV (some (66000 : Int)) (↑(ByteArray.size s) : Int))))).snd.fst → inK IntKind.i64 (parseN (ByteArray.extract s (0 : Nat) (Int.toNat (boundV (some 
 (66000 : Int)) (↑(ByteArray.size s) : Int))))).snd.snd → EvsEq [] [] ∧ br ((parseN (ByteArray.extract s (0 : Nat) (Int.toNat (boundV (some (66000 : Int)) (↑(ByteArray.size s) : Int))))).snd.fst == 
 (parseN (ByteArray.extract s (0 : Nat) (Int.toNat (boundV (some (66000 : Int)) (↑(ByteArray.size s) : Int))))).snd.fst) (Q (SV.v (S1.c (Cl.k (Value.bool ((parseN (ByteArray.extract s (0 : Nat) 
 (Int.toNat (boundV (some (66000 : Int)) (↑(ByteArray.size s) : Int))))).snd.snd == (parseN (ByteArray.extract s (0 : Nat) (Int.toNat (boundV (some (66000 : Int)) (↑(ByteArray.size s) : 
 Int))))).snd.snd))))) []) (Q (SV.v (S1.c (Cl.k (Value.bool false)))) [])))) (br ((parseN s).snd.snd == (0 : Int)) (inK IntKind.i64 (parseN s).snd.fst → inK IntKind.i64 (parseN s).snd.snd → br ((parseN 
 s).snd.snd == (0 : Int)) (inK IntKind.i64 (parseN s).snd.fst → inK IntKind.i64 (parseN s).snd.snd → EvsEq (parseN s).fst (parseN s).fst ∧ br ((parseN s).snd.fst == (parseN s).snd.fst) (Q (SV.v (S1.c 
 (Cl.k (Value.bool ((parseN s).snd.snd == (parseN s).snd.snd))))) []) (Q (SV.v (S1.c (Cl.k (Value.bool false)))) [])) (inK IntKind.i64 (parseN s).snd.fst → inK IntKind.i64 (parseN s).snd.snd → EvsEq 
 (parseN s).fst [] ∧ br ((parseN s).snd.fst == (parseN s).snd.fst) (Q (SV.v (S1.c (Cl.k (Value.bool ((parseN s).snd.snd == (parseN s).snd.snd))))) []) (Q (SV.v (S1.c (Cl.k (Value.bool false)))) []))) 
 (inK IntKind.i64 (parseN s).snd.fst → inK IntKind.i64 (parseN s).snd.snd → br ((parseN s).snd.snd == (0 : Int)) (inK IntKind.i64 (parseN s).snd.fst → inK IntKind.i64 (parseN s).snd.snd → EvsEq [] 
 (parseN s).fst ∧ br ((parseN s).snd.fst == (parseN s).snd.fst) (Q (SV.v (S1.c (Cl.k (Value.bool ((parseN s).snd.snd == (parseN s).snd.snd))))) []) (Q (SV.v (S1.c (Cl.k (Value.bool false)))) [])) (inK 
 IntKind.i64 (parseN s).snd.fst → inK IntKind.i64 (parseN s).snd.snd → EvsEq [] [] ∧ br ((parseN s).snd.fst == (parseN s).snd.fst) (Q (SV.v (S1.c (Cl.k (Value.bool ((parseN s).snd.snd == (parseN 
 s).snd.snd))))) []) (Q (SV.v (S1.c (Cl.k (Value.bool false)))) []))))
set_option maxRecDepth 1000000 in
theorem vc_lawParses_eq (s : ByteArray) (Q : SV → List HO → Prop) : vFun XD2123 ⟨[], []⟩ Tryd.f5 [.str s] [] Q = vc_lawParses s Q := by kernel_rfl
set_option maxRecDepth 100000 in
theorem w_lawParses : ∀ args H Q, c_lawParses args H Q → Wp Inv Tryd.prog 5 args H Q := by
  intro args H Q h
  unfold c_lawParses at h
  split at h
  · rename_i s
    refine Wp.enter (X := XD2123) XD2123_ok ⟨[], []⟩ (fn := Tryd.f5) (by kernel_rfl) ?_
    have hv := vc_lawParses_eq s Q
    rw [show vFun _ _ _ _ _ _ = _ from hv]
    unfold vc_lawParses
    clear hv
    intro hs
    refine @br_of _ _ _ ?_ ?_
    · intro c1
      have c1 : (s.size : Int) > 66000 := by simpa using c1
      refine ⟨by decide, by show (0 : Int) ≤ 66000; decide, by show (66000 : Int) ≤ s.size; omega, ?_⟩
      generalize hp : parseN (s.extract 0 (Int.toNat (boundV (some 66000) (s.size : Int)))) = p
      refine @br_of _ _ _ ?_ ?_
      · intro e1
        intro _ _
        refine @br_of _ _ _ ?_ ?_
        · intro e2
          intro _ _
          refine ⟨⟨rfl⟩, ?_⟩
          rw [beq_self_eq_true, beq_self_eq_true]
          exact h
        · intro e2
          rw [e1] at e2; cases e2
      · intro e1
        intro _ _
        refine @br_of _ _ _ ?_ ?_
        · intro e2
          rw [e1] at e2; cases e2
        · intro e2
          intro _ _
          refine ⟨⟨rfl⟩, ?_⟩
          rw [beq_self_eq_true, beq_self_eq_true]
          exact h
    · intro c1
      skip
      generalize hp : parseN s = p
      refine @br_of _ _ _ ?_ ?_
      · intro e1
        intro _ _
        refine @br_of _ _ _ ?_ ?_
        · intro e2
          intro _ _
          refine ⟨⟨rfl⟩, ?_⟩
          rw [beq_self_eq_true, beq_self_eq_true]
          exact h
        · intro e2
          rw [e1] at e2; cases e2
      · intro e1
        intro _ _
        refine @br_of _ _ _ ?_ ?_
        · intro e2
          rw [e1] at e2; cases e2
        · intro e2
          intro _ _
          refine ⟨⟨rfl⟩, ?_⟩
          rw [beq_self_eq_true, beq_self_eq_true]
          exact h
  · exact h.elim
end Go.Proofs

namespace Go.Proofs
open Go Go.Lm Go.RowKit
def c_few : Ct
  | [.v (.c cl)], [], Q => (match (Ty.sl tEvent).of [cl] with
    | some (l, []) => (EvsIn (fewN l) → Q (.v (.c (.o 0))) [.sl 41 tEvent (fewN l)])
    | _ => False)
  | _, _, _ => False
noncomputable def XD2224 : Vx := { P := Tryd.prog, ct := [(5, c_lawParses), (16, c_sameE), (15, c_parseR), (32, c_eventR), (33, c_lineR), (48, c_wordsR), (49, c_numberR), (36, c_bldS), (34, c_bldW), (4, c_lawPlain), (3, c_lawQuotes), (9, c_shown), (14, c_parse), (31, c_event), (47, c_atoi), (35, c_line), (45, c_words), (51, c_sjoin), (46, c_split), (30, c_cut), (29, c_count), (37, c_itoa), (11, c_unquoteR), (23, c_digit), (10, c_unquote), (13, c_quoteR), (27, c_decode), (12, c_quote), (28, c_itselfR), (26, c_itself), (24, c_hasPre), (39, c_hasPre0), (22, c_indexByte), (25, c_runeLen)], ty := tyTab, hold := [51, 16] }
theorem XD2224_ok : CtOk Inv Tryd.prog XD2224.ct := CtOk.cons w_lawParses (CtOk.cons w_sameE (CtOk.cons w_parseR (CtOk.cons w_eventR (CtOk.cons w_lineR (CtOk.cons w_wordsR (CtOk.cons w_numberR (CtOk.cons w_bldS (CtOk.cons w_bldW (CtOk.cons w_lawPlain (CtOk.cons w_lawQuotes (CtOk.cons w_shown (CtOk.cons w_parse (CtOk.cons w_event (CtOk.cons w_atoi (CtOk.cons w_line (CtOk.cons w_words (CtOk.cons w_sjoin (CtOk.cons w_split (CtOk.cons w_cut (CtOk.cons w_count (CtOk.cons w_itoa (CtOk.cons w_unquoteR (CtOk.cons w_digit (CtOk.cons w_unquote (CtOk.cons w_quoteR (CtOk.cons w_decode (CtOk.cons w_quote (CtOk.cons w_itselfR (CtOk.cons w_itself (CtOk.cons w_hasPre (CtOk.cons w_hasPre0 (CtOk.cons w_indexByte (CtOk.cons w_runeLen (CtOk.nil _ _))))))))))))))))))))))))))))))))))
def vc_few : (List (tEvent).den) → (SV → List HO → Prop) → Prop :=
 fun l Q => List.length l ≤ (9223372036854775807 : Nat) → LoopP (fun i again => List.length l ≤ (9223372036854775807 : Nat) → br (decide (i.fst.snd.fst < (↑(List.length l) : Int))) (br (decide 
 (i.fst.snd.fst < (60 : Int))) ((0 : Int) ≤ i.fst.snd.fst ∧ i.fst.snd.fst < (↑(List.length l) : Int) ∧ (Ty.ok tEvent (ixD tEvent l i.fst.snd.fst) → List.length (ixD tEvent l 
 i.fst.snd.fst).snd.snd.snd.snd.snd.snd.fst ≤ (9223372036854775807 : Nat) → br (decide ((↑(List.length (ixD tEvent l i.fst.snd.fst).snd.snd.snd.snd.snd.snd.fst) : Int) > (300 : Int))) ((0 : Int) ≤ 
 boundV none (0 : Int) ∧ boundV none (0 : Int) ≤ boundV (some (300 : Int)) (↑(List.length (ixD tEvent l i.fst.snd.fst).snd.snd.snd.snd.snd.snd.fst) : Int) ∧ boundV (some (300 : Int)) (↑(List.length 
 (ixD tEvent l i.fst.snd.fst).snd.snd.snd.snd.snd.snd.fst) : Int) ≤ (↑(List.length (ixD tEvent l i.fst.snd.fst).snd.snd.snd.snd.snd.snd.fst) : Int) ∧ br (decide ((↑(ByteArray.size (ixD tEvent l 
 i.fst.snd.fst).snd.snd.snd.snd.fst) : Int) > (300 : Int))) ((0 : Int) ≤ boundV none (0 : Int) ∧ boundV none (0 : Int) ≤ boundV (some (300 : Int)) (↑(ByteArray.size (ixD tEvent l 
 i.fst.snd.fst).snd.snd.snd.snd.fst) : Int) ∧ boundV (some (300 : Int)) (↑(ByteArray.size (ixD tEvent l i.fst.snd.fst).snd.snd.snd.snd.fst) : Int) ≤ (↑(ByteArray.size (ixD tEvent l 
 i.fst.snd.fst).snd.snd.snd.snd.fst) : Int) ∧ br (decide ((↑(ByteArray.size (ixD tEvent l i.fst.snd.fst).snd.snd.snd.snd.snd.fst) : Int) > (300 : Int))) ((0 : Int) ≤ boundV none (0 : Int) ∧ boundV none 
 (0 : Int) ≤ boundV (some (300 : Int)) (↑(ByteArray.size (ixD tEvent l i.fst.snd.fst).snd.snd.snd.snd.snd.fst) : Int) ∧ boundV (some (300 : Int)) (↑(ByteArray.size (ixD tEvent l 
 i.fst.snd.fst).snd.snd.snd.snd.snd.fst) : Int) ≤ (↑(ByteArray.size (ixD tEvent l i.fst.snd.fst).snd.snd.snd.snd.snd.fst) : Int) ∧ (List.length i.fst.fst + List.length [((ixD tEvent l 
 i.fst.snd.fst).fst, (ixD tEvent l i.fst.snd.fst).snd.fst, (ixD tEvent l i.fst.snd.fst).snd.snd.fst, (ixD tEvent l i.fst.snd.fst).snd.snd.snd.fst, ByteArray.extract (ixD tEvent l 
 i.fst.snd.fst).snd.snd.snd.snd.fst (0 : Nat) (Int.toNat (boundV (some (300 : Int)) (↑(ByteArray.size (ixD tEvent l i.fst.snd.fst).snd.snd.snd.snd.fst) : Int))), ByteArray.extract (ixD tEvent l 
 i.fst.snd.fst).snd.snd.snd.snd.snd.fst (0 : Nat) (Int.toNat (boundV (some (300 : Int)) (↑(ByteArray.size (ixD tEvent l i.fst.snd.fst).snd.snd.snd.snd.snd.fst) : Int))), List.take (Int.toNat (boundV 
 (some (300 : Int)) (↑(List.length (ixD tEvent l i.fst.snd.fst).snd.snd.snd.snd.snd.snd.fst) : Int)) - (0 : Nat)) (List.drop (0 : Nat) (ixD tEvent l i.fst.snd.fst).snd.snd.snd.snd.snd.snd.fst), ())]) * 
 (88 : Nat) ≤ (140737488355328 : Nat) ∧ List.length i.fst.fst + List.length [((ixD tEvent l i.fst.snd.fst).fst, (ixD tEvent l i.fst.snd.fst).snd.fst, (ixD tEvent l i.fst.snd.fst).snd.snd.fst, (ixD 
 tEvent l i.fst.snd.fst).snd.snd.snd.fst, ByteArray.extract (ixD tEvent l i.fst.snd.fst).snd.snd.snd.snd.fst (0 : Nat) (Int.toNat (boundV (some (300 : Int)) (↑(ByteArray.size (ixD tEvent l 
 i.fst.snd.fst).snd.snd.snd.snd.fst) : Int))), ByteArray.extract (ixD tEvent l i.fst.snd.fst).snd.snd.snd.snd.snd.fst (0 : Nat) (Int.toNat (boundV (some (300 : Int)) (↑(ByteArray.size (ixD tEvent l 
 i.fst.snd.fst).snd.snd.snd.snd.snd.fst) : Int))), List.take (Int.toNat (boundV (some (300 : Int)) (↑(List.length (ixD tEvent l i.fst.snd.fst).snd.snd.snd.snd.snd.snd.fst) : Int)) - (0 : Nat)) 
 (List.drop (0 : Nat) (ixD tEvent l i.fst.snd.fst).snd.snd.snd.snd.snd.snd.fst), ())] ≤ (9223372036854775807 : Nat) ∧ inK IntKind.i64 (i.fst.snd.fst + (1 : Int)) ∧ again ((i.fst.fst ++ [((ixD tEvent l 
 i.fst.snd.fst).fst, (ixD tEvent l i.fst.snd.fst).snd.fst, (ixD tEvent l i.fst.snd.fst).snd.snd.fst, (ixD tEvent l i.fst.snd.fst).snd.snd.snd.fst, ByteArray.extract (ixD tEvent l 
 i.fst.snd.fst).snd.snd.snd.snd.fst (0 : Nat) (Int.toNat (boundV (some (300 : Int)) (↑(ByteArray.size (ixD tEvent l i.fst.snd.fst).snd.snd.snd.snd.fst) : Int))), ByteArray.extract (ixD tEvent l 
 i.fst.snd.fst).snd.snd.snd.snd.snd.fst (0 : Nat) (Int.toNat (boundV (some (300 : Int)) (↑(ByteArray.size (ixD tEvent l i.fst.snd.fst).snd.snd.snd.snd.snd.fst) : Int))), List.take (Int.toNat (boundV 
 (some (300 : Int)) (↑(List.length (ixD tEvent l i.fst.snd.fst).snd.snd.snd.snd.snd.snd.fst) : Int)) - (0 : Nat)) (List.drop (0 : Nat) (ixD tEvent l i.fst.snd.fst).snd.snd.snd.snd.snd.snd.fst), ())], 
 i.fst.snd.fst + (1 : Int), ()), ())) ((List.length i.fst.fst + List.length [((ixD tEvent l i.fst.snd.fst).fst, (ixD tEvent l i.fst.snd.fst).snd.fst, (ixD tEvent l i.fst.snd.fst).snd.snd.fst, (ixD 
 tEvent l i.fst.snd.fst).snd.snd.snd.fst, ByteArray.extract (ixD tEvent l i.fst.snd.fst).snd.snd.snd.snd.fst (0 : Nat) (Int.toNat (boundV (some (300 : Int)) (↑(ByteArray.size (ixD tEvent l 
 i.fst.snd.fst).snd.snd.snd.snd.fst) : Int))), (ixD tEvent l i.fst.snd.fst).snd.snd.snd.snd.snd.fst, List.take (Int.toNat (boundV (some (300 : Int)) (↑(List.length (ixD tEvent l 
 i.fst.snd.fst).snd.snd.snd.snd.snd.snd.fst) : Int)) - (0 : Nat)) (List.drop (0 : Nat) (ixD tEvent l i.fst.snd.fst).snd.snd.snd.snd.snd.snd.fst), ())]) * (88 : Nat) ≤ (140737488355328 : Nat) ∧ 
 List.length i.fst.fst + List.length [((ixD tEvent l i.fst.snd.fst).fst, (ixD tEvent l i.fst.snd.fst).snd.fst, (ixD tEvent l i.fst.snd.fst).snd.snd.fst, (ixD tEvent l i.fst.snd.fst).snd.snd.snd.fst, 
 ByteArray.extract (ixD tEvent l i.fst.snd.fst).snd.snd.snd.snd.fst (0 : Nat) (Int.toNat (boundV (some (300 : Int)) (↑(ByteArray.size (ixD tEvent l i.fst.snd.fst).snd.snd.snd.snd.fst) : Int))), (ixD 
 tEvent l i.fst.snd.fst).snd.snd.snd.snd.snd.fst, List.take (Int.toNat (boundV (some (300 : Int)) (↑(List.length (ixD tEvent l i.fst.snd.fst).snd.snd.snd.snd.snd.snd.fst) : Int)) - (0 : Nat)) 
 (List.drop (0 : Nat) (ixD tEvent l i.fst.snd.fst).snd.snd.snd.snd.snd.snd.fst), ())] ≤ (9223372036854775807 : Nat) ∧ inK IntKind.i64 (i.fst.snd.fst + (1 : Int)) ∧ again ((i.fst.fst ++ [((ixD tEvent l 
 i.fst.snd.fst).fst, (ixD tEvent l i.fst.snd.fst).snd.fst, (ixD tEvent l i.fst.snd.fst).snd.snd.fst, (ixD tEvent l i.fst.snd.fst).snd.snd.snd.fst, ByteArray.extract (ixD tEvent l 
 i.fst.snd.fst).snd.snd.snd.snd.fst (0 : Nat) (Int.toNat (boundV (some (300 : Int)) (↑(ByteArray.size (ixD tEvent l i.fst.snd.fst).snd.snd.snd.snd.fst) : Int))), (ixD tEvent l 
 i.fst.snd.fst).snd.snd.snd.snd.snd.fst, List.take (Int.toNat (boundV (some (300 : Int)) (↑(List.length (ixD tEvent l i.fst.snd.fst).snd.snd.snd.snd.snd.snd.fst) : Int)) - (0 : Nat)) (List.drop (0 : 
 Nat) (ixD tEvent l i.fst.snd.fst).snd.snd.snd.snd.snd.snd.fst), ())], i.fst.snd.fst + (1 : Int), ()), ()))) (br (decide ((↑(ByteArray.size (ixD tEvent l i.fst.snd.fst).snd.snd.snd.snd.snd.fst) : Int) 
 > (300 : Int))) ((0 : Int) ≤ boundV none (0 : Int) ∧ boundV none (0 : Int) ≤ boundV (some (300 : Int)) (↑(ByteArray.size (ixD tEvent l i.fst.snd.fst).snd.snd.snd.snd.snd.fst) : Int) ∧ boundV (some 
 (300 : Int)) (↑(ByteArray.size (ixD tEvent l i.fst.snd.fst).snd.snd.snd.snd.snd.fst) : Int) ≤ (↑(ByteArray.size (ixD tEvent l i.fst.snd.fst).snd.snd.snd.snd.snd.fst) : Int) ∧ (List.length i.fst.fst + 
 List.length [((ixD tEvent l i.fst.snd.fst).fst, (ixD tEvent l i.fst.snd.fst).snd.fst, (ixD tEvent l i.fst.snd.fst).snd.snd.fst, (ixD tEvent l i.fst.snd.fst).snd.snd.snd.fst, (ixD tEvent l 
 i.fst.snd.fst).snd.snd.snd.snd.fst, ByteArray.extract (ixD tEvent l i.fst.snd.fst).snd.snd.snd.snd.snd.fst (0 : Nat) (Int.toNat (boundV (some (300 : Int)) (↑(ByteArray.size (ixD tEvent l 
 i.fst.snd.fst).snd.snd.snd.snd.snd.fst) : Int))), List.take (Int.toNat (boundV (some (300 : Int)) (↑(List.length (ixD tEvent l i.fst.snd.fst).snd.snd.snd.snd.snd.snd.fst) : Int)) - (0 : Nat)) 
 (List.drop (0 : Nat) (ixD tEvent l i.fst.snd.fst).snd.snd.snd.snd.snd.snd.fst), ())]) * (88 : Nat) ≤ (140737488355328 : Nat) ∧ List.length i.fst.fst + List.length [((ixD tEvent l i.fst.snd.fst).fst, 
 (ixD tEvent l i.fst.snd.fst).snd.fst, (ixD tEvent l i.fst.snd.fst).snd.snd.fst, (ixD tEvent l i.fst.snd.fst).snd.snd.snd.fst, (ixD tEvent l i.fst.snd.fst).snd.snd.snd.snd.fst, ByteArray.extract (ixD 
 tEvent l i.fst.snd.fst).snd.snd.snd.snd.snd.fst (0 : Nat) (Int.toNat (boundV (some (300 : Int)) (↑(ByteArray.size (ixD tEvent l i.fst.snd.fst).snd.snd.snd.snd.snd.fst) : Int))), List.take (Int.toNat 
 (boundV (some (300 : Int)) (↑(List.length (ixD tEvent l i.fst.snd.fst).snd.snd.snd.snd.snd.snd.fst) : Int)) - (0 : Nat)) (List.drop (0 : Nat) (ixD tEvent l i.fst.snd.fst).snd.snd.snd.snd.snd.snd.fst), 
 ())] ≤ (9223372036854775807 : Nat) ∧ inK IntKind.i64 (i.fst.snd.fst + (1 : Int)) ∧ again ((i.fst.fst ++ [((ixD tEvent l i.fst.snd.fst).fst, (ixD tEvent l i.fst.snd.fst).snd.fst, (ixD tEvent l 
 i.fst.snd.fst).snd.snd.fst, (ixD tEvent l i.fst.snd.fst).snd.snd.snd.fst, (ixD tEvent l i.fst.snd.fst).snd.snd.snd.snd.fst, ByteArray.extract (ixD tEvent l i.fst.snd.fst).snd.snd.snd.snd.snd.fst (0 : 
 Nat) (Int.toNat (boundV (some (300 : Int)) (↑(ByteArray.size (ixD tEvent l i.fst.snd.fst).snd.snd.snd.snd.snd.fst) : Int))), List.take (Int.toNat (boundV (some (300 : Int)) (↑(List.length (ixD tEvent 
 l i.fst.snd.fst).snd.snd.snd.snd.snd.snd.fst) : Int)) - (0 : Nat)) (List.drop (0 : Nat) (ixD tEvent l i.fst.snd.fst).snd.snd.snd.snd.snd.snd.fst), ())], i.fst.snd.fst + (1 : Int), ()), ())) 
 ((List.length i.fst.fst + List.length [((ixD tEvent l i.fst.snd.fst).fst, (ixD tEvent l i.fst.snd.fst).snd.fst, (ixD tEvent l i.fst.snd.fst).snd.snd.fst, (ixD tEvent l i.fst.snd.fst).snd.snd.snd.fst, 
 (ixD tEvent l i.fst.snd.fst).snd.snd.snd.snd.fst, (ixD tEvent l i.fst.snd.fst).snd.snd.snd.snd.snd.fst, List.take (Int.toNat (boundV (some (300 : Int)) (↑(List.length (ixD tEvent l 
 i.fst.snd.fst).snd.snd.snd.snd.snd.snd.fst) : Int)) - (0 : Nat)) (List.drop (0 : Nat) (ixD tEvent l i.fst.snd.fst).snd.snd.snd.snd.snd.snd.fst), ())]) * (88 : Nat) ≤ (140737488355328 : Nat) ∧ 
 List.length i.fst.fst + List.length [((ixD tEvent l i.fst.snd.fst).fst, (ixD tEvent l i.fst.snd.fst).snd.fst, (ixD tEvent l i.fst.snd.fst).snd.snd.fst, (ixD tEvent l i.fst.snd.fst).snd.snd.snd.fst, 
 (ixD tEvent l i.fst.snd.fst).snd.snd.snd.snd.fst, (ixD tEvent l i.fst.snd.fst).snd.snd.snd.snd.snd.fst, List.take (Int.toNat (boundV (some (300 : Int)) (↑(List.length (ixD tEvent l 
 i.fst.snd.fst).snd.snd.snd.snd.snd.snd.fst) : Int)) - (0 : Nat)) (List.drop (0 : Nat) (ixD tEvent l i.fst.snd.fst).snd.snd.snd.snd.snd.snd.fst), ())] ≤ (9223372036854775807 : Nat) ∧ inK IntKind.i64 
 (i.fst.snd.fst + (1 : Int)) ∧ again ((i.fst.fst ++ [((ixD tEvent l i.fst.snd.fst).fst, (ixD tEvent l i.fst.snd.fst).snd.fst, (ixD tEvent l i.fst.snd.fst).snd.snd.fst, (ixD tEvent l 
 i.fst.snd.fst).snd.snd.snd.fst, (ixD tEvent l i.fst.snd.fst).snd.snd.snd.snd.fst, (ixD tEvent l i.fst.snd.fst).snd.snd.snd.snd.snd.fst, List.take (Int.toNat (boundV (some (300 : Int)) (↑(List.length 
 (ixD tEvent l i.fst.snd.fst).snd.snd.snd.snd.snd.snd.fst) : Int)) - (0 : Nat)) (List.drop (0 : Nat) (ixD tEvent l i.fst.snd.fst).snd.snd.snd.snd.snd.snd.fst), ())], i.fst.snd.fst + (1 : Int), ()), 
 ())))) (br (decide ((↑(ByteArray.size (ixD tEvent l i.fst.snd.fst).snd.snd.snd.snd.fst) : Int) > (300 : Int))) ((0 : Int) ≤ boundV none (0 : Int) ∧ boundV none (0 : Int) ≤ boundV (some (300 : Int)) 
 (↑(ByteArray.size (ixD tEvent l i.fst.snd.fst).snd.snd.snd.snd.fst) : Int) ∧ boundV (some (300 : Int)) (↑(ByteArray.size (ixD tEvent l i.fst.snd.fst).snd.snd.snd.snd.fst) : Int) ≤ (↑(ByteArray.size 
 (ixD tEvent l i.fst.snd.fst).snd.snd.snd.snd.fst) : Int) ∧ br (decide ((↑(ByteArray.size (ixD tEvent l i.fst.snd.fst).snd.snd.snd.snd.snd.fst) : Int) > (300 : Int))) ((0 : Int) ≤ boundV none (0 : Int) 
 ∧ boundV none (0 : Int) ≤ boundV (some (300 : Int)) (↑(ByteArray.size (ixD tEvent l i.fst.snd.fst).snd.snd.snd.snd.snd.fst) : Int) ∧ boundV (some (300 : Int)) (↑(ByteArray.size (ixD tEvent l 
 i.fst.snd.fst).snd.snd.snd.snd.snd.fst) : Int) ≤ (↑(ByteArray.size (ixD tEvent l i.fst.snd.fst).snd.snd.snd.snd.snd.fst) : Int) ∧ (List.length i.fst.fst + List.length [((ixD tEvent l 
 i.fst.snd.fst).fst, (ixD tEvent l i.fst.snd.fst).snd.fst, (ixD tEvent l i.fst.snd.fst).snd.snd.fst, (ixD tEvent l i.fst.snd.fst).snd.snd.snd.fst, ByteArray.extract (ixD tEvent l 
 i.fst.snd.fst).snd.snd.snd.snd.fst (0 : Nat) (Int.toNat (boundV (some (300 : Int)) (↑(ByteArray.size (ixD tEvent l i.fst.snd.fst).snd.snd.snd.snd.fst) : Int))), ByteArray.extract (ixD tEvent l 
 i.fst.snd.fst).snd.snd.snd.snd.snd.fst (0 : Nat) (Int.toNat (boundV (some (300 : Int)) (↑(ByteArray.size (ixD tEvent l i.fst.snd.fst).snd.snd.snd.snd.snd.fst) : Int))), (ixD tEvent l 
 i.fst.snd.fst).snd.snd.snd.snd.snd.snd)]) * (88 : Nat) ≤ (140737488355328 : Nat) ∧ List.length i.fst.fst + List.length [((ixD tEvent l i.fst.snd.fst).fst, (ixD tEvent l i.fst.snd.fst).snd.fst, (ixD 
 tEvent l i.fst.snd.fst).snd.snd.fst, (ixD tEvent l i.fst.snd.fst).snd.snd.snd.fst, ByteArray.extract (ixD tEvent l i.fst.snd.fst).snd.snd.snd.snd.fst (0 : Nat) (Int.toNat (boundV (some (300 : Int)) 
 (↑(ByteArray.size (ixD tEvent l i.fst.snd.fst).snd.snd.snd.snd.fst) : Int))), ByteArray.extract (ixD tEvent l i.fst.snd.fst).snd.snd.snd.snd.snd.fst (0 : Nat) (Int.toNat (boundV (some (300 : Int)) 
 (↑(ByteArray.size (ixD tEvent l i.fst.snd.fst).snd.snd.snd.snd.snd.fst) : Int))), (ixD tEvent l i.fst.snd.fst).snd.snd.snd.snd.snd.snd)] ≤ (9223372036854775807 : Nat) ∧ inK IntKind.i64 (i.fst.snd.fst 
 + (1 : Int)) ∧ again ((i.fst.fst ++ [((ixD tEvent l i.fst.snd.fst).fst, (ixD tEvent l i.fst.snd.fst).snd.fst, (ixD tEvent l i.fst.snd.fst).snd.snd.fst, (ixD tEvent l i.fst.snd.fst).snd.snd.snd.fst, 
 ByteArray.extract (ixD tEvent l i.fst.snd.fst).snd.snd.snd.snd.fst (0 : Nat) (Int.toNat (boundV (some (300 : Int)) (↑(ByteArray.size (ixD tEvent l i.fst.snd.fst).snd.snd.snd.snd.fst) : Int))), 
 ByteArray.extract (ixD tEvent l i.fst.snd.fst).snd.snd.snd.snd.snd.fst (0 : Nat) (Int.toNat (boundV (some (300 : Int)) (↑(ByteArray.size (ixD tEvent l i.fst.snd.fst).snd.snd.snd.snd.snd.fst) : Int))), 
 (ixD tEvent l i.fst.snd.fst).snd.snd.snd.snd.snd.snd)], i.fst.snd.fst + (1 : Int), ()), ())) ((List.length i.fst.fst + List.length [((ixD tEvent l i.fst.snd.fst).fst, (ixD tEvent l 
 i.fst.snd.fst).snd.fst, (ixD tEvent l i.fst.snd.fst).snd.snd.fst, (ixD tEvent l i.fst.snd.fst).snd.snd.snd.fst, ByteArray.extract (ixD tEvent l i.fst.snd.fst).snd.snd.snd.snd.fst (0 : Nat) (Int.toNat 
 (boundV (some (300 : Int)) (↑(ByteArray.size (ixD tEvent l i.fst.snd.fst).snd.snd.snd.snd.fst) : Int))), (ixD tEvent l i.fst.snd.fst).snd.snd.snd.snd.snd)]) * (88 : Nat) ≤ (140737488355328 : Nat) ∧ 
 List.length i.fst.fst + List.length [((ixD tEvent l i.fst.snd.fst).fst, (ixD tEvent l i.fst.snd.fst).snd.fst, (ixD tEvent l i.fst.snd.fst).snd.snd.fst, (ixD tEvent l i.fst.snd.fst).snd.snd.snd.fst, 
 ByteArray.extract (ixD tEvent l i.fst.snd.fst).snd.snd.snd.snd.fst (0 : Nat) (Int.toNat (boundV (some (300 : Int)) (↑(ByteArray.size (ixD tEvent l i.fst.snd.fst).snd.snd.snd.snd.fst) : Int))), (ixD 
 tEvent l i.fst.snd.fst).snd.snd.snd.snd.snd)] ≤ (9223372036854775807 : Nat) ∧ inK IntKind.i64 (i.fst.snd.fst + (1 : Int)) ∧ again ((i.fst.fst ++ [((ixD tEvent l i.fst.snd.fst).fst, (ixD tEvent l 
 i.fst.snd.fst).snd.fst, (ixD tEvent l i.fst.snd.fst).snd.snd.fst, (ixD tEvent l i.fst.snd.fst).snd.snd.snd.fst, ByteArray.extract (ixD tEvent l i.fst.snd.fst).snd.snd.snd.snd.fst (0 : Nat) (Int.toNat 
 (boundV (some (300 : Int)) (↑(ByteArray.size (ixD tEvent l i.fst.snd.fst).snd.snd.snd.snd.fst) : Int))), (ixD tEvent l i.fst.snd.fst).snd.snd.snd.snd.snd)], i.fst.snd.fst + (1 : Int), ()), ()))) (br 
 (decide ((↑(ByteArray.size (ixD tEvent l i.fst.snd.fst).snd.snd.snd.snd.snd.fst) : Int) > (300 : Int))) ((0 : Int) ≤ boundV none (0 : Int) ∧ boundV none (0 : Int) ≤ boundV (some (300 : Int)) 
 (↑(ByteArray.size (ixD tEvent l i.fst.snd.fst).snd.snd.snd.snd.snd.fst) : Int) ∧ boundV (some (300 : Int)) (↑(ByteArray.size (ixD tEvent l i.fst.snd.fst).snd.snd.snd.snd.snd.fst) : Int) ≤ 
 (↑(ByteArray.size (ixD tEvent l i.fst.snd.fst).snd.snd.snd.snd.snd.fst) : Int) ∧ (List.length i.fst.fst + List.length [((ixD tEvent l i.fst.snd.fst).fst, (ixD tEvent l i.fst.snd.fst).snd.fst, (ixD 
 tEvent l i.fst.snd.fst).snd.snd.fst, (ixD tEvent l i.fst.snd.fst).snd.snd.snd.fst, (ixD tEvent l i.fst.snd.fst).snd.snd.snd.snd.fst, ByteArray.extract (ixD tEvent l 
 i.fst.snd.fst).snd.snd.snd.snd.snd.fst (0 : Nat) (Int.toNat (boundV (some (300 : Int)) (↑(ByteArray.size (ixD tEvent l i.fst.snd.fst).snd.snd.snd.snd.snd.fst) : Int))), (ixD tEvent l 
 i.fst.snd.fst).snd.snd.snd.snd.snd.snd)]) * (88 : Nat) ≤ (140737488355328 : Nat) ∧ List.length i.fst.fst + List.length [((ixD tEvent l i.fst.snd.fst).fst, (ixD tEvent l i.fst.snd.fst).snd.fst, (ixD 
 tEvent l i.fst.snd.fst).snd.snd.fst, (ixD tEvent l i.fst.snd.fst).snd.snd.snd.fst, (ixD tEvent l i.fst.snd.fst).snd.snd.snd.snd.fst, ByteArray.extract (ixD tEvent l 
 i.fst.snd.fst).snd.snd.snd.snd.snd.fst (0 : Nat) (Int.toNat (boundV (some (300 : Int)) (↑(ByteArray.size (ixD tEvent l i.fst.snd.fst).snd.snd.snd.snd.snd.fst) : Int))), (ixD tEvent l 
 i.fst.snd.fst).snd.snd.snd.snd.snd.snd)] ≤ (9223372036854775807 : Nat) ∧ inK IntKind.i64 (i.fst.snd.fst + (1 : Int)) ∧ again ((i.fst.fst ++ [((ixD tEvent l i.fst.snd.fst).fst, (ixD tEvent l 
 i.fst.snd.fst).snd.fst, (ixD tEvent l i.fst.snd.fst).snd.snd.fst, (ixD tEvent l i.fst.snd.fst).snd.snd.snd.fst, (ixD tEvent l i.fst.snd.fst).snd.snd.snd.snd.fst, ByteArray.extract (ixD tEvent l 
 i.fst.snd.fst).snd.snd.snd.snd.snd.fst (0 : Nat) (Int.toNat (boundV (some (300 : Int)) (↑(ByteArray.size (ixD tEvent l i.fst.snd.fst).snd.snd.snd.snd.snd.fst) : Int))), (ixD tEvent l 
 i.fst.snd.fst).snd.snd.snd.snd.snd.snd)], i.fst.snd.fst + (1 : Int), ()), ())) ((List.length i.fst.fst + List.length [ixD tEvent l i.fst.snd.fst]) * (88 : Nat) ≤ (140737488355328 : Nat) ∧ List.length 
 i.fst.fst + List.length [ixD tEvent l i.fst.snd.fst] ≤ (9223372036854775807 : Nat) ∧ inK IntKind.i64 (i.fst.snd.fst + (1 : Int)) ∧ again ((i.fst.fst ++ [ixD tEvent l i.fst.snd.fst], i.fst.snd.fst + (1 
 : Int), ()), ())))))) (Q (SV.v (S1.c (Cl.o (0 : Nat)))) [HO.sl (41 : TypeId) tEvent i.fst.fst])) (Q (SV.v (S1.c (Cl.o (0 : Nat)))) [HO.sl (41 : TypeId) tEvent i.fst.fst])) (([], (0 : Int), ()), ())
set_option maxRecDepth 1000000 in
theorem vc_few_eq (l : List (tEvent).den) (Q : SV → List HO → Prop) : vFun XD2224 ⟨[(4, ⟨[(3, .own 41 tEvent), (4, .int .i64)], []⟩)], []⟩ Tryd.f17 [.c (.d tEvent l)] [] Q = vc_few l Q := by kernel_rfl
set_option maxRecDepth 100000 in
theorem w_few : ∀ args H Q, c_few args H Q → Wp Inv Tryd.prog 17 args H Q := by
  intro args H Q h
  unfold c_few at h
  split at h
  · rename_i cl
    split at h
    · rename_i l hl
      refine Wp.said (args' := [.c (.d tEvent l)]) (fun E g => RelVs.cons1 (of_list hl) (fun _ h => h)) ?_
      clear hl
      refine Wp.enter (X := XD2224) XD2224_ok ⟨[(4, ⟨[(3, .own 41 tEvent), (4, .int .i64)], []⟩)], []⟩ (fn := Tryd.f17) (by kernel_rfl) ?_
      have hv := vc_few_eq l Q
      rw [show vFun _ _ _ _ _ _ = _ from hv]
      unfold vc_few
      clear hv
      intro hs
      refine LoopP.intro (fun i => ∃ p : Nat, i.1.2.1 = (p : Int) ∧ p ≤ l.length ∧ p ≤ 60 ∧ i.1.1 = (l.take p).map cutEv ∧ ∀ e ∈ i.1.1, EvIn e) (fun i => 60 - i.1.2.1.toNat) ⟨0, rfl, Nat.zero_le _, by decide, rfl, fun _ he => by cases he⟩ ?_
      rintro ⟨⟨o, i, _⟩, _⟩ ⟨p, h0, h1, h2, h3, h4⟩
      simp only at h0 h3 h4 ⊢
      subst h0
      have ho : o.length = p := by rw [h3, List.length_map, List.length_take]; omega
      intro _
      refine @br_of _ _ _ ?_ ?_
      · intro c1
        have c1 : p < l.length := by have : (p : Int) < l.length := (by simpa using c1); omega
        refine @br_of _ _ _ ?_ ?_
        · intro c2
          have c2 : p < 60 := by have : (p : Int) < 60 := (by simpa using c2); omega
          refine ⟨by omega, by omega, fun ok _ => ?_⟩
          have hin := evsIn_next h4 (evIn_cut (evIn_ok ok))
          refine @br_of _ _ _ ?_ ?_
          · intro d0
            have e0 := of_decide_eq_true d0
            refine ⟨by decide, by show (0 : Int) ≤ 300; decide, by show (300 : Int) ≤ _; omega, ?_⟩
            refine @br_of _ _ _ ?_ ?_
            · intro d1
              have e1 := of_decide_eq_true d1
              refine ⟨by decide, by show (0 : Int) ≤ 300; decide, by show (300 : Int) ≤ _; omega, ?_⟩
              refine @br_of _ _ _ ?_ ?_
              · intro d2
                have e2 := of_decide_eq_true d2
                refine ⟨by decide, by show (0 : Int) ≤ 300; decide, by show (300 : Int) ≤ _; omega, ?_⟩
                refine ⟨by show (o.length + 1) * 88 ≤ _; omega, by show o.length + 1 ≤ _; omega, by unfold inK; omega, ⟨p + 1, by omega, by omega, by omega, ?_⟩, by omega⟩
                exact few_leaf (by unfold cutEv cut3 cutL; rw [d0, d1, d2]; rfl) h3 c1 hin
              · intro d2
                refine ⟨by show (o.length + 1) * 88 ≤ _; omega, by show o.length + 1 ≤ _; omega, by unfold inK; omega, ⟨p + 1, by omega, by omega, by omega, ?_⟩, by omega⟩
                exact few_leaf (by unfold cutEv cut3 cutL; rw [d0, d1, d2]; rfl) h3 c1 hin
            · intro d1
              refine @br_of _ _ _ ?_ ?_
              · intro d2
                have e2 := of_decide_eq_true d2
                refine ⟨by decide, by show (0 : Int) ≤ 300; decide, by show (300 : Int) ≤ _; omega, ?_⟩
                refine ⟨by show (o.length + 1) * 88 ≤ _; omega, by show o.length + 1 ≤ _; omega, by unfold inK; omega, ⟨p + 1, by omega, by omega, by omega, ?_⟩, by omega⟩
                exact few_leaf (by unfold cutEv cut3 cutL; rw [d0, d1, d2]; rfl) h3 c1 hin
              · intro d2
                refine ⟨by show (o.length + 1) * 88 ≤ _; omega, by show o.length + 1 ≤ _; omega, by unfold inK; omega, ⟨p + 1, by omega, by omega, by omega, ?_⟩, by omega⟩
                exact few_leaf (by unfold cutEv cut3 cutL; rw [d0, d1, d2]; rfl) h3 c1 hin
          · intro d0
            refine @br_of _ _ _ ?_ ?_
            · intro d1
              have e1 := of_decide_eq_true d1
              refine ⟨by decide, by show (0 : Int) ≤ 300; decide, by show (300 : Int) ≤ _; omega, ?_⟩
              refine @br_of _ _ _ ?_ ?_
              · intro d2
                have e2 := of_decide_eq_true d2
                refine ⟨by decide, by show (0 : Int) ≤ 300; decide, by show (300 : Int) ≤ _; omega, ?_⟩
                refine ⟨by show (o.length + 1) * 88 ≤ _; omega, by show o.length + 1 ≤ _; omega, by unfold inK; omega, ⟨p + 1, by omega, by omega, by omega, ?_⟩, by omega⟩
                exact few_leaf (by unfold cutEv cut3 cutL; rw [d0, d1, d2]; rfl) h3 c1 hin
              · intro d2
                refine ⟨by show (o.length + 1) * 88 ≤ _; omega, by show o.length + 1 ≤ _; omega, by unfold inK; omega, ⟨p + 1, by omega, by omega, by omega, ?_⟩, by omega⟩
                exact few_leaf (by unfold cutEv cut3 cutL; rw [d0, d1, d2]; rfl) h3 c1 hin
            · intro d1
              refine @br_of _ _ _ ?_ ?_
              · intro d2
                have e2 := of_decide_eq_true d2
                refine ⟨by decide, by show (0 : Int) ≤ 300; decide, by show (300 : Int) ≤ _; omega, ?_⟩
                refine ⟨by show (o.length + 1) * 88 ≤ _; omega, by show o.length + 1 ≤ _; omega, by unfold inK; omega, ⟨p + 1, by omega, by omega, by omega, ?_⟩, by omega⟩
                exact few_leaf (by unfold cutEv cut3 cutL; rw [d0, d1, d2]; rfl) h3 c1 hin
              · intro d2
                refine ⟨by show (o.length + 1) * 88 ≤ _; omega, by show o.length + 1 ≤ _; omega, by unfold inK; omega, ⟨p + 1, by omega, by omega, by omega, ?_⟩, by omega⟩
                exact few_leaf (by unfold cutEv cut3 cutL; rw [d0, d1, d2]; rfl) h3 c1 hin
        · intro c2
          have c2 : p = 60 := by have : ¬ (p : Int) < 60 := (by simpa using c2); omega
          rw [h3, few_end h2 (.inr c2)] at h4 ⊢
          exact h ⟨h4⟩
      · intro c1
        have c1 : p = l.length := by have : ¬ (p : Int) < l.length := (by simpa using c1); omega
        rw [h3, few_end h2 (.inl c1)] at h4 ⊢
        exact h ⟨h4⟩
    · exact h.elim
  · exact h.elim
end Go.Proofs

namespace Go.Proofs
open Go Go.Lm Go.RowKit
def c_print : Ct
  | [.v (.c ca)], [], Q => (match (Ty.sl tEvent).of [ca] with
    | some (a, []) => ((a.length : Int) ≤ 2048 ∧ EvsSz 100000000 a ∧ Q (.tup [.c (.k (.string (printN a))), .c (.k (.int .i64 0))]) [])
    | _ => False)
  | _, _, _ => False
noncomputable def XD2325 : Vx := { P := Tryd.prog, ct := [(17, c_few), (5, c_lawParses), (16, c_sameE), (15, c_parseR), (32, c_eventR), (33, c_lineR), (48, c_wordsR), (49, c_numberR), (36, c_bldS), (34, c_bldW), (4, c_lawPlain), (3, c_lawQuotes), (9, c_shown), (14, c_parse), (31, c_event), (47, c_atoi), (35, c_line), (45, c_words), (51, c_sjoin), (46, c_split), (30, c_cut), (29, c_count), (37, c_itoa), (11, c_unquoteR), (23, c_digit), (10, c_unquote), (13, c_quoteR), (27, c_decode), (12, c_quote), (28, c_itselfR), (26, c_itself), (24, c_hasPre), (39, c_hasPre0), (22, c_indexByte), (25, c_runeLen)], ty := tyTab, hold := [51, 16], bld := some (59, 5) }
theorem XD2325_ok : CtOk Inv Tryd.prog XD2325.ct := CtOk.cons w_few (CtOk.cons w_lawParses (CtOk.cons w_sameE (CtOk.cons w_parseR (CtOk.cons w_eventR (CtOk.cons w_lineR (CtOk.cons w_wordsR (CtOk.cons w_numberR (CtOk.cons w_bldS (CtOk.cons w_bldW (CtOk.cons w_lawPlain (CtOk.cons w_lawQuotes (CtOk.cons w_shown (CtOk.cons w_parse (CtOk.cons w_event (CtOk.cons w_atoi (CtOk.cons w_line (CtOk.cons w_words (CtOk.cons w_sjoin (CtOk.cons w_split (CtOk.cons w_cut (CtOk.cons w_count (CtOk.cons w_itoa (CtOk.cons w_unquoteR (CtOk.cons w_digit (CtOk.cons w_unquote (CtOk.cons w_quoteR (CtOk.cons w_decode (CtOk.cons w_quote (CtOk.cons w_itselfR (CtOk.cons w_itself (CtOk.cons w_hasPre (CtOk.cons w_hasPre0 (CtOk.cons w_indexByte (CtOk.cons w_runeLen (CtOk.nil _ _)))))))))))))))))))))))))))))))))))
def vc_print : (List (tEvent).den) → (SV → List HO → Prop) → Prop :=
 fun a Q => List.length a ≤ (9223372036854775807 : Nat) → List.length a ≤ (9223372036854775807 : Nat) → br (decide ((↑(List.length a) : Int) > (2048 : Int))) (Q (SV.tup [S1.c (Cl.k (Value.string 
 (ByteArray.mk ( #[] )))), S1.c (Cl.k (Value.int IntKind.i64 (3 : Int)))]) []) (List.length a ≤ (9223372036854775807 : Nat) → LoopP (fun i again => br (decide (i.fst.fst < (↑(List.length a) : Int))) 
 ((0 : Int) ≤ i.fst.fst ∧ i.fst.fst < (↑(List.length a) : Int) ∧ (Ty.ok tEvent (ixD tEvent a i.fst.fst) → (↑(ByteArray.size (ixD tEvent a i.fst.fst).snd.snd.snd.snd.fst) : Int) ≤ (100000000 : Int) ∧ 
 (↑(ByteArray.size (ixD tEvent a i.fst.fst).snd.snd.snd.snd.snd.fst) : Int) ≤ (100000000 : Int) ∧ (↑(List.length (ixD tEvent a i.fst.fst).snd.snd.snd.snd.snd.snd.fst) : Int) ≤ (100000000 : Int) ∧ 
 (ByteArray.size (lineN (ixD tEvent a i.fst.fst)) ≤ (9223372036854775807 : Nat) → ByteArray.size (lineN (ixD tEvent a i.fst.fst)) + (1 : Nat) ≤ (9223372036854775807 : Nat) ∧ (59 : TypeId) = (59 : 
 TypeId) ∧ (5 : TypeId) = (5 : TypeId) ∧ (↑(List.length i.snd.fst + ByteArray.size (lineN (ixD tEvent a i.fst.fst) ++ (ByteArray.mk ( #[(10 : UInt8)] )))) : Int) ≤ (140737488355328 : Int) ∧ (inK 
 IntKind.i64 (↑(ByteArray.size (lineN (ixD tEvent a i.fst.fst) ++ (ByteArray.mk ( #[(10 : UInt8)] )))) : Int) → inK IntKind.i64 (i.fst.fst + (1 : Int)) ∧ again ((i.fst.fst + (1 : Int), ()), i.snd.fst 
 ++ (lineN (ixD tEvent a i.fst.fst) ++ (ByteArray.mk ( #[(10 : UInt8)] ))).data.toList, ()))))) ((59 : TypeId) = (59 : TypeId) ∧ (5 : TypeId) = (5 : TypeId) ∧ (ByteArray.size (bstr i.snd.fst) ≤ 
 (9223372036854775807 : Nat) → Q (SV.tup [S1.c (Cl.k (Value.string (bstr i.snd.fst))), S1.c (Cl.k (Value.int IntKind.i64 (0 : Int)))]) []))) (((0 : Int), ()), [], ()))
set_option maxRecDepth 1000000 in
theorem vc_print_eq (a : List (tEvent).den) (Q : SV → List HO → Prop) : vFun XD2325 ⟨[(6, ⟨[(12, .int .i64)], [(0, .ab (.bld 59 5))]⟩)], []⟩ Tryd.f18 [.c (.d tEvent a)] [] Q = vc_print a Q := by kernel_rfl
set_option maxRecDepth 100000 in
theorem w_print : ∀ args H Q, c_print args H Q → Wp Inv Tryd.prog 18 args H Q := by
  intro args H Q h
  unfold c_print at h
  split at h
  · rename_i ca
    split at h
    · rename_i a ha
      refine Wp.said (args' := [.c (.d tEvent a)]) (fun E g => RelVs.cons1 (of_list ha) (fun _ h => h)) ?_
      clear ha
      refine Wp.enter (X := XD2325) XD2325_ok ⟨[(6, ⟨[(12, .int .i64)], [(0, .ab (.bld 59 5))]⟩)], []⟩ (fn := Tryd.f18) (by kernel_rfl) ?_
      have hv := vc_print_eq a Q
      rw [show vFun _ _ _ _ _ _ = _ from hv]
      unfold vc_print
      clear hv
      obtain ⟨hb, hz, h⟩ := h
      intro _ _
      refine @br_of _ _ _ ?_ ?_
      · intro c1
        have c1 : (a.length : Int) > 2048 := by simpa using c1
        omega
      · intro c1
        intro _
        refine LoopP.intro (fun i => ∃ p : Nat, i.1.1 = (p : Int) ∧ p ≤ a.length ∧ i.2.1 = printL (a.take p) ∧ i.2.1.length ≤ p * 900000098) (fun i => a.length - i.1.1.toNat) ⟨0, rfl, Nat.zero_le _, rfl, Nat.le_refl _⟩ ?_
        rintro ⟨⟨i, _⟩, x, _⟩ ⟨p, h0, h1, h2, h3⟩
        simp only at h0 h2 h3 ⊢
        subst h0
        refine @br_of _ _ _ ?_ ?_
        · intro c2
          have c2 : p < a.length := by have : (p : Int) < a.length := (by simpa using c2); omega
          refine ⟨by omega, by omega, fun ho => ?_⟩
          have hk := ev_at (m := 100000000) hz c2 ho
          have hl := line_sz hk
          have hn := print_next c2
          obtain ⟨_, _, _, _, s1, s2, s3⟩ := hk
          have hn1 : (lineN (ixD tEvent a (p : Int)) ++ (⟨#[10]⟩ : ByteArray)).size = (lineN (ixD tEvent a (p : Int))).size + 1 := ByteArray.size_append
          refine ⟨by omega, by omega, by omega, fun _ => ⟨by omega, trivial, trivial, by rw [hn1]; omega, fun _ => ⟨by unfold inK; omega, ⟨p + 1, by omega, by omega, ?_, ?_⟩, by omega⟩⟩⟩
          · rw [app_lst, h2, hn]
          · rw [List.length_append, ← sz_list, hn1]
            omega
        · intro c2
          have c2 : p = a.length := by have : ¬ (p : Int) < a.length := (by simpa using c2); omega
          refine ⟨trivial, trivial, fun _ => ?_⟩
          rw [h2, c2, List.take_of_length_le (Nat.le_refl _)]
          exact h
    · exact h.elim
  · exact h.elim
end Go.Proofs

namespace Go.Proofs
open Go Go.Lm Go.RowKit
def c_lawBack : Ct
  | [.v (.c cl), .v (.c (.k (.string s)))], [], Q => (match (Ty.sl tEvent).of [cl] with
    | some (l, []) => Q (.bool true) []
    | _ => False)
  | _, _, _ => False
noncomputable def XD2426 : Vx := { P := Tryd.prog, ct := [(18, c_print), (17, c_few), (5, c_lawParses), (16, c_sameE), (15, c_parseR), (32, c_eventR), (33, c_lineR), (48, c_wordsR), (49, c_numberR), (36, c_bldS), (34, c_bldW), (4, c_lawPlain), (3, c_lawQuotes), (9, c_shown), (14, c_parse), (31, c_event), (47, c_atoi), (35, c_line), (45, c_words), (51, c_sjoin), (46, c_split), (30, c_cut), (29, c_count), (37, c_itoa), (11, c_unquoteR), (23, c_digit), (10, c_unquote), (13, c_quoteR), (27, c_decode), (12, c_quote), (28, c_itselfR), (26, c_itself), (24, c_hasPre), (39, c_hasPre0), (22, c_indexByte), (25, c_runeLen)], ty := tyTab, hold := [51, 16, 18] }
theorem XD2426_ok : CtOk Inv Tryd.prog XD2426.ct := CtOk.cons w_print (CtOk.cons w_few (CtOk.cons w_lawParses (CtOk.cons w_sameE (CtOk.cons w_parseR (CtOk.cons w_eventR (CtOk.cons w_lineR (CtOk.cons w_wordsR (CtOk.cons w_numberR (CtOk.cons w_bldS (CtOk.cons w_bldW (CtOk.cons w_lawPlain (CtOk.cons w_lawQuotes (CtOk.cons w_shown (CtOk.cons w_parse (CtOk.cons w_event (CtOk.cons w_atoi (CtOk.cons w_line (CtOk.cons w_words (CtOk.cons w_sjoin (CtOk.cons w_split (CtOk.cons w_cut (CtOk.cons w_count (CtOk.cons w_itoa (CtOk.cons w_unquoteR (CtOk.cons w_digit (CtOk.cons w_unquote (CtOk.cons w_quoteR (CtOk.cons w_decode (CtOk.cons w_quote (CtOk.cons w_itselfR (CtOk.cons w_itself (CtOk.cons w_hasPre (CtOk.cons w_hasPre0 (CtOk.cons w_indexByte (CtOk.cons w_runeLen (CtOk.nil _ _))))))))))))))))))))))))))))))))))))
def vc_lawBack : (List (tEvent).den) → (ByteArray) → (SV → List HO → Prop) → Prop :=
 fun l s Q => List.length l ≤ (9223372036854775807 : Nat) → ByteArray.size s ≤ (9223372036854775807 : Nat) → EvsIn (fewN l) → br (decide ((↑(ByteArray.size s) : Int) > (3000 : Int))) ((0 : Int) ≤ 
 boundV none (0 : Int) ∧ boundV none (0 : Int) ≤ boundV (some (3000 : Int)) (↑(ByteArray.size s) : Int) ∧ boundV (some (3000 : Int)) (↑(ByteArray.size s) : Int) ≤ (↑(ByteArray.size s) : Int) ∧ 
 (↑(List.length (fewN l)) : Int) ≤ (2048 : Int) ∧ EvsSz (100000000 : Int) (fewN l) ∧ (ByteArray.size (printN (fewN l)) ≤ (9223372036854775807 : Nat) → inK IntKind.i64 (0 : Int) → br (decide 
 ((↑(ByteArray.size (printN (fewN l))) : Int) ≤ (65536 : Int))) (br ((parseN (printN (fewN l))).snd.snd == (0 : Int)) (inK IntKind.i64 (parseN (printN (fewN l))).snd.fst → inK IntKind.i64 (parseN 
 (printN (fewN l))).snd.snd → EvsEq (parseN (printN (fewN l))).fst (fewN l) ∧ br ((parseN (printN (fewN l))).snd.snd != (0 : Int)) (Q (SV.v (S1.c (Cl.k (Value.bool false)))) []) (br ((parseN (printN 
 (fewN l))).snd.fst != (0 : Int)) (Q (SV.v (S1.c (Cl.k (Value.bool false)))) []) (br ((parseN (ByteArray.extract s (0 : Nat) (Int.toNat (boundV (some (3000 : Int)) (↑(ByteArray.size s) : 
 Int))))).snd.snd == (0 : Int)) (inK IntKind.i64 (parseN (ByteArray.extract s (0 : Nat) (Int.toNat (boundV (some (3000 : Int)) (↑(ByteArray.size s) : Int))))).snd.fst → inK IntKind.i64 (parseN 
 (ByteArray.extract s (0 : Nat) (Int.toNat (boundV (some (3000 : Int)) (↑(ByteArray.size s) : Int))))).snd.snd → br ((parseN (ByteArray.extract s (0 : Nat) (Int.toNat (boundV (some (3000 : Int)) 
 (↑(ByteArray.size s) : Int))))).snd.snd != (0 : Int)) (List.length (parseN (ByteArray.extract s (0 : Nat) (Int.toNat (boundV (some (3000 : Int)) (↑(ByteArray.size s) : Int))))).fst ≤ 
 (9223372036854775807 : Nat) → Q (SV.v (S1.c (Cl.k (Value.bool ((↑(List.length (parseN (ByteArray.extract s (0 : Nat) (Int.toNat (boundV (some (3000 : Int)) (↑(ByteArray.size s) : Int))))).fst) : Int) 
 == (0 : Int)))))) []) ((↑(List.length (parseN (ByteArray.extract s (0 : Nat) (Int.toNat (boundV (some (3000 : Int)) (↑(ByteArray.size s) : Int))))).fst) : Int) ≤ (2048 : Int) ∧ EvsSz (100000000 : Int) 
 (parseN (ByteArray.extract s (0 : Nat) (Int.toNat (boundV (some (3000 : Int)) (↑(ByteArray.size s) : Int))))).fst ∧ (ByteArray.size (printN (parseN (ByteArray.extract s (0 : Nat) (Int.toNat (boundV 
 (some (3000 : Int)) (↑(ByteArray.size s) : Int))))).fst) ≤ (9223372036854775807 : Nat) → inK IntKind.i64 (0 : Int) → Q (SV.v (S1.c (Cl.k (Value.bool (sEq (printN (parseN (ByteArray.extract s (0 : Nat) 
 (Int.toNat (boundV (some (3000 : Int)) (↑(ByteArray.size s) : Int))))).fst) (ByteArray.extract s (0 : Nat) (Int.toNat (boundV (some (3000 : Int)) (↑(ByteArray.size s) : Int))))))))) []))) (inK 
 IntKind.i64 (parseN (ByteArray.extract s (0 : Nat) (Int.toNat (boundV (some (3000 : Int)) (↑(ByteArray.size s) : Int))))).snd.fst → inK IntKind.i64 (parseN (ByteArray.extract s (0 : Nat) (Int.toNat 
 (boundV (some (3000 : Int)) (↑(ByteArray.size s) : Int))))).snd.snd → br ((parseN (ByteArray.extract s (0 : Nat) (Int.toNat (boundV (some (3000 : Int)) (↑(ByteArray.size s) : Int))))).snd.snd != (0 : 
 Int)) (Q (SV.v (S1.c (Cl.k (Value.bool ((0 : Int) == (0 : Int)))))) []) ((↑(0 : Nat) : Int) ≤ (2048 : Int) ∧ EvsSz (100000000 : Int) [] ∧ ((0 : Nat) ≤ (9223372036854775807 : Nat) → inK IntKind.i64 (0 
 : Int) → Q (SV.v (S1.c (Cl.k (Value.bool (sEq (printN []) (ByteArray.extract s (0 : Nat) (Int.toNat (boundV (some (3000 : Int)) (↑(ByteArray.size s) : Int))))))))) [])))))) (inK IntKind.i64 (parseN 
 (printN (fewN l))).snd.fst → inK IntKind.i64 (parseN (printN (fewN l))).snd.snd → EvsEq [] (fewN l) ∧ br ((parseN (printN (fewN l))).snd.snd != (0 : Int)) (Q (SV.v (S1.c (Cl.k (Value.bool false)))) 
 []) (br ((parseN (printN (fewN l))).snd.fst != (0 : Int)) (Q (SV.v (S1.c (Cl.k (Value.bool false)))) []) (br ((parseN (ByteArray.extract s (0 : Nat) (Int.toNat (boundV (some (3000 : Int)) 
 (↑(ByteArray.size s) : Int))))).snd.snd == (0 : Int)) (inK IntKind.i64 (parseN (ByteArray.extract s (0 : Nat) (Int.toNat (boundV (some (3000 : Int)) (↑(ByteArray.size s) : Int))))).snd.fst → inK 
 IntKind.i64 (parseN (ByteArray.extract s (0 : Nat) (Int.toNat (boundV (some (3000 : Int)) (↑(ByteArray.size s) : Int))))).snd.snd → br ((parseN (ByteArray.extract s (0 : Nat) (Int.toNat (boundV (some 
 (3000 : Int)) (↑(ByteArray.size s) : Int))))).snd.snd != (0 : Int)) (List.length (parseN (ByteArray.extract s (0 : Nat) (Int.toNat (boundV (some (3000 : Int)) (↑(ByteArray.size s) : Int))))).fst ≤ 
 (9223372036854775807 : Nat) → Q (SV.v (S1.c (Cl.k (Value.bool ((↑(List.length (parseN (ByteArray.extract s (0 : Nat) (Int.toNat (boundV (some (3000 : Int)) (↑(ByteArray.size s) : Int))))).fst) : Int) 
 == (0 : Int)))))) []) ((↑(List.length (parseN (ByteArray.extract s (0 : Nat) (Int.toNat (boundV (some (3000 : Int)) (↑(ByteArray.size s) : Int))))).fst) : Int) ≤ (2048 : Int) ∧ EvsSz (100000000 : Int) 
 (parseN (ByteArray.extract s (0 : Nat) (Int.toNat (boundV (some (3000 : Int)) (↑(ByteArray.size s) : Int))))).fst ∧ (ByteArray.size (printN (parseN (ByteArray.extract s (0 : Nat) (Int.toNat (boundV 
 (some (3000 : Int)) (↑(ByteArray.size s) : Int))))).fst) ≤ (9223372036854775807 : Nat) → inK IntKind.i64 (0 : Int) → Q (SV.v (S1.c (Cl.k (Value.bool (sEq (printN (parseN (ByteArray.extract s (0 : Nat) 
 (Int.toNat (boundV (some (3000 : Int)) (↑(ByteArray.size s) : Int))))).fst) (ByteArray.extract s (0 : Nat) (Int.toNat (boundV (some (3000 : Int)) (↑(ByteArray.size s) : Int))))))))) []))) (inK 
 IntKind.i64 (parseN (ByteArray.extract s (0 : Nat) (Int.toNat (boundV (some (3000 : Int)) (↑(ByteArray.size s) : Int))))).snd.fst → inK IntKind.i64 (parseN (ByteArray.extract s (0 : Nat) (Int.toNat 
 (boundV (some (3000 : Int)) (↑(ByteArray.size s) : Int))))).snd.snd → br ((parseN (ByteArray.extract s (0 : Nat) (Int.toNat (boundV (some (3000 : Int)) (↑(ByteArray.size s) : Int))))).snd.snd != (0 : 
 Int)) (Q (SV.v (S1.c (Cl.k (Value.bool ((0 : Int) == (0 : Int)))))) []) ((↑(0 : Nat) : Int) ≤ (2048 : Int) ∧ EvsSz (100000000 : Int) [] ∧ ((0 : Nat) ≤ (9223372036854775807 : Nat) → inK IntKind.i64 (0 
 : Int) → Q (SV.v (S1.c (Cl.k (Value.bool (sEq (printN []) (ByteArray.extract s (0 : Nat) (Int.toNat (boundV (some (3000 : Int)) (↑(ByteArray.size s) : Int))))))))) []))))))) (br ((parseN 
 (ByteArray.extract s (0 : Nat) (Int.toNat (boundV (some (3000 : Int)) (↑(ByteArray.size s) : Int))))).snd.snd == (0 : Int)) (inK IntKind.i64 (parseN (ByteArray.extract s (0 : Nat) (Int.toNat (boundV 
 (some (3000 : Int)) (↑(ByteArray.size s) : Int))))).snd.fst → inK IntKind.i64 (parseN (ByteArray.extract s (0 : Nat) (Int.toNat (boundV (some (3000 : Int)) (↑(ByteArray.size s) : Int))))).snd.snd → br 
 ((parseN (ByteArray.extract s (0 : Nat) (Int.toNat (boundV (some (3000 : Int)) (↑(ByteArray.size s) : Int))))).snd.snd != (0 : Int)) (List.length (parseN (ByteArray.extract s (0 : Nat) (Int.toNat 
 (boundV (some (3000 : Int)) (↑(ByteArray.size s) : Int))))).fst ≤ (9223372036854775807 : Nat) → Q (SV.v (S1.c (Cl.k (Value.bool ((↑(List.length (parseN (ByteArray.extract s (0 : Nat) (Int.toNat 
 (boundV (some (3000 : Int)) (↑(ByteArray.size s) : Int))))).fst) : Int) == (0 : Int)))))) []) ((↑(List.length (parseN (ByteArray.extract s (0 : Nat) (Int.toNat (boundV (some (3000 : Int)) 
 (↑(ByteArray.size s) : Int))))).fst) : Int) ≤ (2048 : Int) ∧ EvsSz (100000000 : Int) (parseN (ByteArray.extract s (0 : Nat) (Int.toNat (boundV (some (3000 : Int)) (↑(ByteArray.size s) : Int))))).fst ∧ 
 (ByteArray.size (printN (parseN (ByteArray.extract s (0 : Nat) (Int.toNat (boundV (some (3000 : Int)) (↑(ByteArray.size s) : Int))))).fst) ≤ (9223372036854775807 : Nat) → inK IntKind.i64 (0 : Int) → Q 
 (SV.v (S1.c (Cl.k (Value.bool (sEq (printN (parseN (ByteArray.extract s (0 : Nat) (Int.toNat (boundV (some (3000 : Int)) (↑(ByteArray.size s) : Int))))).fst) (ByteArray.extract s (0 : Nat) (Int.toNat 
 (boundV (some (3000 : Int)) (↑(ByteArray.size s) : Int))))))))) []))) (inK IntKind.i64 (parseN (ByteArray.extract s (0 : Nat) (Int.toNat (boundV (some (3000 : Int)) (↑(ByteArray.size s) : 
 Int))))).snd.fst → inK IntKind.i64 (parseN (ByteArray.extract s (0 : Nat) (Int.toNat (boundV (some (3000 : Int)) (↑(ByteArray.size s) : Int))))).snd.snd → br ((parseN (ByteArray.extract s (0 : Nat) 
 (Int.toNat (boundV (some (3000 : Int)) (↑(ByteArray.size s) : Int))))).snd.snd != (0 : Int)) (Q (SV.v (S1.c (Cl.k (Value.bool ((0 : Int) == (0 : Int)))))) []) ((↑(0 : Nat) : Int) ≤ (2048 : Int) ∧ 
 EvsSz (100000000 : Int) [] ∧ ((0 : Nat) ≤ (9223372036854775807 : Nat) → inK IntKind.i64 (0 : Int) → Q (SV.v (S1.c (Cl.k (Value.bool (sEq (printN []) (ByteArray.extract s (0 : Nat) (Int.toNat (boundV 
 (some (3000 : Int)) (↑(ByteArray.size s) : Int))))))))) [])))))) ((↑(List.length (fewN l)) : Int) ≤ (2048 : Int) ∧ EvsSz (100000000 : Int) (fewN l) ∧ (ByteArray.size (printN (fewN l)) ≤ 
 (9223372036854775807 : Nat) → inK IntKind.i64 (0 : Int) → br (decide ((↑(ByteArray.size (printN (fewN l))) : Int) ≤ (65536 : Int))) (br ((parseN (printN (fewN l))).snd.snd == (0 : Int)) (inK 
 IntKind.i64 (parseN (printN (fewN l))).snd.fst → inK IntKind.i64 (parseN (printN (fewN l))).snd.snd → EvsEq (parseN (printN (fewN l))).fst (fewN l) ∧ br ((parseN (printN (fewN l))).snd.snd != (0 : 
 Int)) (Q (SV.v (S1.c (Cl.k (Value.bool false)))) []) (br ((parseN (printN (fewN l))).snd.fst != (0 : Int)) (Q (SV.v (S1.c (Cl.k (Value.bool false)))) []) (br ((parseN s).snd.snd == (0 : Int)) (inK 
 IntKind.i64 (parseN s).snd.fst → inK IntKind.i64 (parseN s).snd.snd → br ((parseN s).snd.snd != (0 : Int)) (List.length (parseN s).fst ≤ (9223372036854775807 : Nat) → Q (SV.v (S1.c (Cl.k (Value.bool 
 ((↑(List.length (parseN s).fst) : Int) == (0 : Int)))))) []) ((↑(List.length (parseN s).fst) : Int) ≤ (2048 : Int) ∧ EvsSz (100000000 : Int) (parseN s).fst ∧ (ByteArray.size (printN (parseN s).fst) ≤ 
 (9223372036854775807 : Nat) → inK IntKind.i64 (0 : Int) → Q (SV.v (S1.c (Cl.k (Value.bool (sEq (printN (parseN s).fst) s))))) []))) (inK IntKind.i64 (parseN s).snd.fst → inK IntKind.i64 (parseN 
 s).snd.snd → br ((parseN s).snd.snd != (0 : Int)) (Q (SV.v (S1.c (Cl.k (Value.bool ((0 : Int) == (0 : Int)))))) []) ((↑(0 : Nat) : Int) ≤ (2048 : Int) ∧ EvsSz (100000000 : Int) [] ∧ ((0 : Nat) ≤ 
 (9223372036854775807 : Nat) → inK IntKind.i64 (0 : Int) → Q (SV.v (S1.c (Cl.k (Value.bool (sEq (printN []) s))))) [])))))) (inK IntKind.i64 (parseN (printN (fewN l))).snd.fst → inK IntKind.i64 (parseN 
 (printN (fewN l))).snd.snd → EvsEq [] (fewN l) ∧ br ((parseN (printN (fewN l))).snd.snd != (0 : Int)) (Q (SV.v (S1.c (Cl.k (Value.bool false)))) []) (br ((parseN (printN (fewN l))).snd.fst != (0 : 
 Int)) (Q (SV.v (S1.c (Cl.k (Value.bool false)))) []) (br ((parseN s).snd.snd == (0 : Int)) (inK IntKind.i64 (parseN s).snd.fst → inK IntKind.i64 (parseN s).snd.snd → br ((parseN s).snd.snd != (0 : 
 Int)) (List.length (parseN s).fst ≤ (9223372036854775807 : Nat) → Q (SV.v (S1.c (Cl.k (Value.bool ((↑(List.length (parseN s).fst) : Int) == (0 : Int)))))) []) ((↑(List.length (parseN s).fst) : Int) ≤ 
 (2048 : Int) ∧ EvsSz (100000000 : Int) (parseN s).fst ∧ (ByteArray.size (printN (parseN s).fst) ≤ (9223372036854775807 : Nat) → inK IntKind.i64 (0 : Int) → Q (SV.v (S1.c (Cl.k (Value.bool (sEq (printN 
 (parseN s).fst) s))))) []))) (inK IntKind.i64 (parseN s).snd.fst → inK IntKind.i64 (parseN s).snd.snd → br ((parseN s).snd.snd != (0 : Int)) (Q (SV.v (S1.c (Cl.k (Value.bool ((0 : Int) == (0 : 
 Int)))))) []) ((↑(0 : Nat) : Int) ≤ (2048 : Int) ∧ EvsSz (100000000 : Int) [] ∧ ((0 : Nat) ≤ (9223372036854775807 : Nat) → inK IntKind.i64 (0 : Int) → Q (SV.v (S1.c (Cl.k (Value.bool (sEq (printN []) 
 s))))) []))))))) (br ((parseN s).snd.snd == (0 : Int)) (inK IntKind.i64 (parseN s).snd.fst → inK IntKind.i64 (parseN s).snd.snd → br ((parseN s).snd.snd != (0 : Int)) (List.length (parseN s).fst ≤ 
 (9223372036854775807 : Nat) → Q (SV.v (S1.c (Cl.k (Value.bool ((↑(List.length (parseN s).fst) : Int) == (0 : Int)))))) []) ((↑(List.length (parseN s).fst) : Int) ≤ (2048 : Int) ∧ EvsSz (100000000 : 
 Int) (parseN s).fst ∧ (ByteArray.size (printN (parseN s).fst) ≤ (9223372036854775807 : Nat) → inK IntKind.i64 (0 : Int) → Q (SV.v (S1.c (Cl.k (Value.bool (sEq (printN (parseN s).fst) s))))) []))) (inK 
 IntKind.i64 (parseN s).snd.fst → inK IntKind.i64 (parseN s).snd.snd → br ((parseN s).snd.snd != (0 : Int)) (Q (SV.v (S1.c (Cl.k (Value.bool ((0 : Int) == (0 : Int)))))) []) ((↑(0 : Nat) : Int) ≤ (2048 
 : Int) ∧ EvsSz (100000000 : Int) [] ∧ ((0 : Nat) ≤ (9223372036854775807 : Nat) → inK IntKind.i64 (0 : Int) → Q (SV.v (S1.c (Cl.k (Value.bool (sEq (printN []) s))))) []))))))
set_option maxRecDepth 1000000 in
theorem vc_lawBack_eq (l : List (tEvent).den) (s : ByteArray) (Q : SV → List HO → Prop) : vFun XD2426 ⟨[], []⟩ Tryd.f6 [.c (.d tEvent l), .str s] [] Q = vc_lawBack l s Q := by kernel_rfl
set_option maxRecDepth 100000 in
theorem w_lawBack : ∀ args H Q, c_lawBack args H Q → Wp Inv Tryd.prog 6 args H Q := by
  intro args H Q h
  unfold c_lawBack at h
  split at h
  · rename_i cl s
    split at h
    · rename_i l hl
      refine Wp.said (args' := [.c (.d tEvent l), .str s]) (fun E g => RelVs.cons1 (of_list hl) (RelVs.cons1 (fun _ h => h) (fun _ h => h))) ?_
      clear hl
      refine Wp.enter (X := XD2426) XD2426_ok ⟨[], []⟩ (fn := Tryd.f6) (by kernel_rfl) ?_
      have hv := vc_lawBack_eq l s Q
      rw [show vFun _ _ _ _ _ _ = _ from hv]
      unfold vc_lawBack
      clear hv
      intro hl hs hin
      have hfl := few_len l
      refine @br_of _ _ _ ?_ ?_
      · intro c1
        have c1 : (s.size : Int) > 3000 := by simpa using c1
        have hz : (s.extract 0 (Int.toNat (boundV (some 3000) (s.size : Int)))).size ≤ 3000 := by
          rw [sz_list, ext_lst, List.length_drop, List.length_take]
          show min 3000 _ - 0 ≤ 3000
          omega
        refine ⟨by decide, by show (0 : Int) ≤ 3000; decide, by show (3000 : Int) ≤ s.size; omega, ?_⟩
        refine ⟨by omega, ⟨fun e he => by have := few_sz he; omega⟩, fun _ _ => ?_⟩
        refine @br_of _ _ _ ?_ ?_
        · intro c2
          have c2 : (printN (fewN l)).size ≤ 65536 := by have : ((printN (fewN l)).size : Int) ≤ 65536 := (by simpa using c2); omega
          have hpp := parse_print hin.all (by omega) c2
          rw [hpp]
          refine @br_of _ _ _ ?_ ?_
          · intro e3
            intro _ _
            refine ⟨⟨rfl⟩, ?_⟩
            refine @br_of _ _ _ ?_ ?_
            · intro e4
              exact absurd (show ((0 : Int) != 0) = true from e4) (by decide)
            · intro e4
              refine @br_of _ _ _ ?_ ?_
              · intro e5
                exact absurd (show ((0 : Int) != 0) = true from e5) (by decide)
              · intro e5
                skip
                generalize hq : parseN (s.extract 0 (Int.toNat (boundV (some 3000) (s.size : Int)))) = q
                obtain ⟨r, n, c⟩ := q
                refine @br_of _ _ _ ?_ ?_
                · intro e1
                  have e1 : c = 0 := by simpa using e1
                  subst e1
                  obtain ⟨p1, p2, p3⟩ := print_parse hq
                  intro _ _
                  refine @br_of _ _ _ ?_ ?_
                  · intro e2
                    exact absurd (show ((0 : Int) != 0) = true from e2) (by decide)
                  · intro e2
                    refine ⟨by show (r.length : Int) ≤ 2048; omega, ⟨fun e he => ?_⟩, fun _ _ => ?_⟩
                    · have := p3.sz e he
                      omega
                    · rw [p1, sEq_self]
                      exact h
                · intro e1
                  have e1 : ¬ c = 0 := by simpa using e1
                  intro _ _
                  refine @br_of _ _ _ ?_ ?_
                  · intro e2
                    exact h
                  · intro e2
                    exact absurd (show c = 0 by simpa using e2) e1
          · intro e3
            exact absurd (show ((0 : Int) == 0) = false from e3) (by decide)
        · intro c2
          skip
          generalize hq : parseN (s.extract 0 (Int.toNat (boundV (some 3000) (s.size : Int)))) = q
          obtain ⟨r, n, c⟩ := q
          refine @br_of _ _ _ ?_ ?_
          · intro e1
            have e1 : c = 0 := by simpa using e1
            subst e1
            obtain ⟨p1, p2, p3⟩ := print_parse hq
            intro _ _
            refine @br_of _ _ _ ?_ ?_
            · intro e2
              exact absurd (show ((0 : Int) != 0) = true from e2) (by decide)
            · intro e2
              refine ⟨by show (r.length : Int) ≤ 2048; omega, ⟨fun e he => ?_⟩, fun _ _ => ?_⟩
              · have := p3.sz e he
                omega
              · rw [p1, sEq_self]
                exact h
          · intro e1
            have e1 : ¬ c = 0 := by simpa using e1
            intro _ _
            refine @br_of _ _ _ ?_ ?_
            · intro e2
              exact h
            · intro e2
              exact absurd (show c = 0 by simpa using e2) e1
      · intro c1
        have c1 : ¬ (s.size : Int) > 3000 := by simpa using c1
        have hz : s.size ≤ 3000 := by omega
        refine ⟨by omega, ⟨fun e he => by have := few_sz he; omega⟩, fun _ _ => ?_⟩
        refine @br_of _ _ _ ?_ ?_
        · intro c2
          have c2 : (printN (fewN l)).size ≤ 65536 := by have : ((printN (fewN l)).size : Int) ≤ 65536 := (by simpa using c2); omega
          have hpp := parse_print hin.all (by omega) c2
          rw [hpp]
          refine @br_of _ _ _ ?_ ?_
          · intro e3
            intro _ _
            refine ⟨⟨rfl⟩, ?_⟩
            refine @br_of _ _ _ ?_ ?_
            · intro e4
              exact absurd (show ((0 : Int) != 0) = true from e4) (by decide)
            · intro e4
              refine @br_of _ _ _ ?_ ?_
              · intro e5
                exact absurd (show ((0 : Int) != 0) = true from e5) (by decide)
              · intro e5
                skip
                generalize hq : parseN s = q
                obtain ⟨r, n, c⟩ := q
                refine @br_of _ _ _ ?_ ?_
                · intro e1
                  have e1 : c = 0 := by simpa using e1
                  subst e1
                  obtain ⟨p1, p2, p3⟩ := print_parse hq
                  intro _ _
                  refine @br_of _ _ _ ?_ ?_
                  · intro e2
                    exact absurd (show ((0 : Int) != 0) = true from e2) (by decide)
                  · intro e2
                    refine ⟨by show (r.length : Int) ≤ 2048; omega, ⟨fun e he => ?_⟩, fun _ _ => ?_⟩
                    · have := p3.sz e he
                      omega
                    · rw [p1, sEq_self]
                      exact h
                · intro e1
                  have e1 : ¬ c = 0 := by simpa using e1
                  intro _ _
                  refine @br_of _ _ _ ?_ ?_
                  · intro e2
                    exact h
                  · intro e2
                    exact absurd (show c = 0 by simpa using e2) e1
          · intro e3
            exact absurd (show ((0 : Int) == 0) = false from e3) (by decide)
        · intro c2
          skip
          generalize hq : parseN s = q
          obtain ⟨r, n, c⟩ := q
          refine @br_of _ _ _ ?_ ?_
          · intro e1
            have e1 : c = 0 := by simpa using e1
            subst e1
            obtain ⟨p1, p2, p3⟩ := print_parse hq
            intro _ _
            refine @br_of _ _ _ ?_ ?_
            · intro e2
              exact absurd (show ((0 : Int) != 0) = true from e2) (by decide)
            · intro e2
              refine ⟨by show (r.length : Int) ≤ 2048; omega, ⟨fun e he => ?_⟩, fun _ _ => ?_⟩
              · have := p3.sz e he
                omega
              · rw [p1, sEq_self]
                exact h
          · intro e1
            have e1 : ¬ c = 0 := by simpa using e1
            intro _ _
            refine @br_of _ _ _ ?_ ?_
            · intro e2
              exact h
            · intro e2
              exact absurd (show c = 0 by simpa using e2) e1
    · exact h.elim
  · exact h.elim
end Go.Proofs

namespace Go.Proofs
open Go Go.Lm Go.RowKit
def c_printR : Ct
  | [.v (.c ca)], [], Q => (match (Ty.sl tEvent).of [ca] with
    | some (a, []) => ((a.length : Int) ≤ 2048 ∧ EvsSz 100000000 a ∧ Q (.tup [.c (.k (.string (printN a))), .c (.k (.int .i64 0))]) [])
    | _ => False)
  | _, _, _ => False
noncomputable def XD2527 : Vx := { P := Tryd.prog, ct := [(6, c_lawBack), (18, c_print), (17, c_few), (5, c_lawParses), (16, c_sameE), (15, c_parseR), (32, c_eventR), (33, c_lineR), (48, c_wordsR), (49, c_numberR), (36, c_bldS), (34, c_bldW), (4, c_lawPlain), (3, c_lawQuotes), (9, c_shown), (14, c_parse), (31, c_event), (47, c_atoi), (35, c_line), (45, c_words), (51, c_sjoin), (46, c_split), (30, c_cut), (29, c_count), (37, c_itoa), (11, c_unquoteR), (23, c_digit), (10, c_unquote), (13, c_quoteR), (27, c_decode), (12, c_quote), (28, c_itselfR), (26, c_itself), (24, c_hasPre), (39, c_hasPre0), (22, c_indexByte), (25, c_runeLen)], ty := tyTab, hold := [51, 16, 18, 19] }
theorem XD2527_ok : CtOk Inv Tryd.prog XD2527.ct := CtOk.cons w_lawBack (CtOk.cons w_print (CtOk.cons w_few (CtOk.cons w_lawParses (CtOk.cons w_sameE (CtOk.cons w_parseR (CtOk.cons w_eventR (CtOk.cons w_lineR (CtOk.cons w_wordsR (CtOk.cons w_numberR (CtOk.cons w_bldS (CtOk.cons w_bldW (CtOk.cons w_lawPlain (CtOk.cons w_lawQuotes (CtOk.cons w_shown (CtOk.cons w_parse (CtOk.cons w_event (CtOk.cons w_atoi (CtOk.cons w_line (CtOk.cons w_words (CtOk.cons w_sjoin (CtOk.cons w_split (CtOk.cons w_cut (CtOk.cons w_count (CtOk.cons w_itoa (CtOk.cons w_unquoteR (CtOk.cons w_digit (CtOk.cons w_unquote (CtOk.cons w_quoteR (CtOk.cons w_decode (CtOk.cons w_quote (CtOk.cons w_itselfR (CtOk.cons w_itself (CtOk.cons w_hasPre (CtOk.cons w_hasPre0 (CtOk.cons w_indexByte (CtOk.cons w_runeLen (CtOk.nil _ _)))))))))))))))))))))))))))))))))))))
def vc_printR : (List (tEvent).den) → (SV → List HO → Prop) → Prop :=
 fun a Q => List.length a ≤ (9223372036854775807 : Nat) → List.length a ≤ (9223372036854775807 : Nat) → br (decide ((↑(List.length a) : Int) > (2048 : Int))) (Q (SV.tup [S1.c (Cl.k (Value.string 
 (ByteArray.mk ( #[] )))), S1.c (Cl.k (Value.int IntKind.i64 (3 : Int)))]) []) (LoopP (fun i again => List.length a ≤ (9223372036854775807 : Nat) → br (decide (i.fst.snd.fst < (↑(List.length a) : 
 Int))) ((0 : Int) ≤ i.fst.snd.fst ∧ i.fst.snd.fst < (↑(List.length a) : Int) ∧ (Ty.ok tEvent (ixD tEvent a i.fst.snd.fst) → (↑(ByteArray.size (ixD tEvent a i.fst.snd.fst).snd.snd.snd.snd.fst) : Int) ≤ 
 (100000000 : Int) ∧ (↑(ByteArray.size (ixD tEvent a i.fst.snd.fst).snd.snd.snd.snd.snd.fst) : Int) ≤ (100000000 : Int) ∧ (↑(List.length (ixD tEvent a i.fst.snd.fst).snd.snd.snd.snd.snd.snd.fst) : Int) 
 ≤ (100000000 : Int) ∧ (ByteArray.size (lineN (ixD tEvent a i.fst.snd.fst)) ≤ (9223372036854775807 : Nat) → ByteArray.size i.fst.fst + ByteArray.size (lineN (ixD tEvent a i.fst.snd.fst)) ≤ 
 (9223372036854775807 : Nat) ∧ ByteArray.size (i.fst.fst ++ lineN (ixD tEvent a i.fst.snd.fst)) + (1 : Nat) ≤ (9223372036854775807 : Nat) ∧ inK IntKind.i64 (i.fst.snd.fst + (1 : Int)) ∧ again 
 ((i.fst.fst ++ lineN (ixD tEvent a i.fst.snd.fst) ++ (ByteArray.mk ( #[(10 : UInt8)] )), i.fst.snd.fst + (1 : Int), ()), ())))) (Q (SV.tup [S1.c (Cl.k (Value.string i.fst.fst)), S1.c (Cl.k (Value.int 
 IntKind.i64 (0 : Int)))]) [])) (((ByteArray.mk ( #[] )), (0 : Int), ()), ()))
set_option maxRecDepth 1000000 in
theorem vc_printR_eq (a : List (tEvent).den) (Q : SV → List HO → Prop) : vFun XD2527 ⟨[(6, ⟨[(4, .str), (5, .int .i64)], []⟩)], []⟩ Tryd.f19 [.c (.d tEvent a)] [] Q = vc_printR a Q := by kernel_rfl
set_option maxRecDepth 100000 in
theorem w_printR : ∀ args H Q, c_printR args H Q → Wp Inv Tryd.prog 19 args H Q := by
  intro args H Q h
  unfold c_printR at h
  split at h
  · rename_i ca
    split at h
    · rename_i a ha
      refine Wp.said (args' := [.c (.d tEvent a)]) (fun E g => RelVs.cons1 (of_list ha) (fun _ h => h)) ?_
      clear ha
      refine Wp.enter (X := XD2527) XD2527_ok ⟨[(6, ⟨[(4, .str), (5, .int .i64)], []⟩)], []⟩ (fn := Tryd.f19) (by kernel_rfl) ?_
      have hv := vc_printR_eq a Q
      rw [show vFun _ _ _ _ _ _ = _ from hv]
      unfold vc_printR
      clear hv
      obtain ⟨hb, hz, h⟩ := h
      intro _ _
      refine @br_of _ _ _ ?_ ?_
      · intro c1
        have c1 : (a.length : Int) > 2048 := by simpa using c1
        omega
      · intro c1
        refine LoopP.intro (fun i => ∃ p : Nat, i.1.2.1 = (p : Int) ∧ p ≤ a.length ∧ i.1.1 = printN (a.take p) ∧ i.1.1.size ≤ p * 900000098) (fun i => a.length - i.1.2.1.toNat) ⟨0, rfl, Nat.zero_le _, rfl, Nat.le_refl _⟩ ?_
        rintro ⟨⟨x, i, _⟩, _⟩ ⟨p, h0, h1, h2, h3⟩
        simp only at h0 h2 h3 ⊢
        subst h0
        intro _
        refine @br_of _ _ _ ?_ ?_
        · intro c2
          have c2 : p < a.length := by have : (p : Int) < a.length := (by simpa using c2); omega
          refine ⟨by omega, by omega, fun ho => ?_⟩
          have hk := ev_at (m := 100000000) hz c2 ho
          have hl := line_sz hk
          have hn := print_next c2
          obtain ⟨_, _, _, _, s1, s2, s3⟩ := hk
          have hx : (x ++ lineN (ixD tEvent a (p : Int))).size = x.size + (lineN (ixD tEvent a (p : Int))).size := ByteArray.size_append
          have hx2 : (x ++ lineN (ixD tEvent a (p : Int)) ++ (⟨#[10]⟩ : ByteArray)).size = (x ++ lineN (ixD tEvent a (p : Int))).size + 1 := ByteArray.size_append
          refine ⟨by omega, by omega, by omega, fun _ => ⟨by omega, by omega, by unfold inK; omega, ⟨p + 1, by omega, by omega, ?_, ?_⟩, by omega⟩⟩
          · refine lst_ext ?_
            have h2' : x.data.toList = printL (a.take p) := by rw [h2]; exact bstr_lst _
            unfold printN
            rw [app_lst, app_lst, bstr_lst, hn, h2', List.append_assoc]
          · rw [hx2, hx]
            omega
        · intro c2
          have c2 : p = a.length := by have : ¬ (p : Int) < a.length := (by simpa using c2); omega
          rw [h2, c2, List.take_of_length_le (Nat.le_refl _)]
          exact h
    · exact h.elim
  · exact h.elim
end Go.Proofs

namespace Go.Proofs
open Go Go.Lm Go.RowKit
def c_show : Ct
  | [.v (.c ca)], [], Q => (match (Ty.sl tAnswer).of [ca] with
    | some (a, []) => ((a.length : Int) ≤ 60 ∧ AnsSz 1048576 a ∧ Q (.str (bstr (showsL a))) [])
    | _ => False)
  | _, _, _ => False
noncomputable def XD2628 : Vx := { P := Tryd.prog, ct := [(19, c_printR), (6, c_lawBack), (18, c_print), (17, c_few), (5, c_lawParses), (16, c_sameE), (15, c_parseR), (32, c_eventR), (33, c_lineR), (48, c_wordsR), (49, c_numberR), (36, c_bldS), (34, c_bldW), (4, c_lawPlain), (3, c_lawQuotes), (9, c_shown), (14, c_parse), (31, c_event), (47, c_atoi), (35, c_line), (45, c_words), (51, c_sjoin), (46, c_split), (30, c_cut), (29, c_count), (37, c_itoa), (11, c_unquoteR), (23, c_digit), (10, c_unquote), (13, c_quoteR), (27, c_decode), (12, c_quote), (28, c_itselfR), (26, c_itself), (24, c_hasPre), (39, c_hasPre0), (22, c_indexByte), (25, c_runeLen)], ty := tyTab, hold := [51, 16, 18, 19], bld := some (59, 5) }
theorem XD2628_ok : CtOk Inv Tryd.prog XD2628.ct := CtOk.cons w_printR (CtOk.cons w_lawBack (CtOk.cons w_print (CtOk.cons w_few (CtOk.cons w_lawParses (CtOk.cons w_sameE (CtOk.cons w_parseR (CtOk.cons w_eventR (CtOk.cons w_lineR (CtOk.cons w_wordsR (CtOk.cons w_numberR (CtOk.cons w_bldS (CtOk.cons w_bldW (CtOk.cons w_lawPlain (CtOk.cons w_lawQuotes (CtOk.cons w_shown (CtOk.cons w_parse (CtOk.cons w_event (CtOk.cons w_atoi (CtOk.cons w_line (CtOk.cons w_words (CtOk.cons w_sjoin (CtOk.cons w_split (CtOk.cons w_cut (CtOk.cons w_count (CtOk.cons w_itoa (CtOk.cons w_unquoteR (CtOk.cons w_digit (CtOk.cons w_unquote (CtOk.cons w_quoteR (CtOk.cons w_decode (CtOk.cons w_quote (CtOk.cons w_itselfR (CtOk.cons w_itself (CtOk.cons w_hasPre (CtOk.cons w_hasPre0 (CtOk.cons w_indexByte (CtOk.cons w_runeLen (CtOk.nil _ _))))))))))))))))))))))))))))))))))))))
def vc_show : (List (tAnswer).den) → (SV → List HO → Prop) → Prop :=
 fun a Q => List.length a ≤ (9223372036854775807 : Nat) → List.length a ≤ (9223372036854775807 : Nat) → LoopP (fun i again => br (decide (i.fst.fst < (↑(List.length a) : Int))) ((0 : Int) ≤ i.fst.fst ∧ 
 i.fst.fst < (↑(List.length a) : Int) ∧ (Ty.ok tAnswer (ixD tAnswer a i.fst.fst) → List.length [(ixD tAnswer a i.fst.fst).fst, (ixD tAnswer a i.fst.fst).snd.fst, (ixD tAnswer a i.fst.fst).snd.snd.fst] 
 ≤ (9223372036854775807 : Nat) → LoopP (fun i_1 again_1 => br (decide (i_1.fst.fst < (↑(List.length [(ixD tAnswer a i.fst.fst).fst, (ixD tAnswer a i.fst.fst).snd.fst, (ixD tAnswer a 
 i.fst.fst).snd.snd.fst]) : Int))) ((0 : Int) ≤ i_1.fst.fst ∧ i_1.fst.fst < (↑(List.length [(ixD tAnswer a i.fst.fst).fst, (ixD tAnswer a i.fst.fst).snd.fst, (ixD tAnswer a i.fst.fst).snd.snd.fst]) : 
 Int) ∧ (0 : Int) ≤ i_1.fst.fst ∧ i_1.fst.fst < (↑(List.length [(ixD tAnswer a i.fst.fst).fst, (ixD tAnswer a i.fst.fst).snd.fst, (ixD tAnswer a i.fst.fst).snd.snd.fst]) : Int) ∧ (Ty.ok (Ty.int 
 IntKind.i64) (ixD (Ty.int IntKind.i64) [(ixD tAnswer a i.fst.fst).fst, (ixD tAnswer a i.fst.fst).snd.fst, (ixD tAnswer a i.fst.fst).snd.snd.fst] i_1.fst.fst) → ByteArray.size (itoaN (ixD (Ty.int 
 IntKind.i64) [(ixD tAnswer a i.fst.fst).fst, (ixD tAnswer a i.fst.fst).snd.fst, (ixD tAnswer a i.fst.fst).snd.snd.fst] i_1.fst.fst)) ≤ (9223372036854775807 : Nat) → ByteArray.size (itoaN (ixD (Ty.int 
 IntKind.i64) [(ixD tAnswer a i.fst.fst).fst, (ixD tAnswer a i.fst.fst).snd.fst, (ixD tAnswer a i.fst.fst).snd.snd.fst] i_1.fst.fst)) + (1 : Nat) ≤ (9223372036854775807 : Nat) ∧ (59 : TypeId) = (59 : 
 TypeId) ∧ (5 : TypeId) = (5 : TypeId) ∧ (↑(List.length i_1.snd.fst + ByteArray.size (itoaN (ixD (Ty.int IntKind.i64) [(ixD tAnswer a i.fst.fst).fst, (ixD tAnswer a i.fst.fst).snd.fst, (ixD tAnswer a 
 i.fst.fst).snd.snd.fst] i_1.fst.fst) ++ (ByteArray.mk ( #[(32 : UInt8)] )))) : Int) ≤ (140737488355328 : Int) ∧ (inK IntKind.i64 (↑(ByteArray.size (itoaN (ixD (Ty.int IntKind.i64) [(ixD tAnswer a 
 i.fst.fst).fst, (ixD tAnswer a i.fst.fst).snd.fst, (ixD tAnswer a i.fst.fst).snd.snd.fst] i_1.fst.fst) ++ (ByteArray.mk ( #[(32 : UInt8)] )))) : Int) → inK IntKind.i64 (i_1.fst.fst + (1 : Int)) ∧ 
 again_1 ((i_1.fst.fst + (1 : Int), ()), i_1.snd.fst ++ (itoaN (ixD (Ty.int IntKind.i64) [(ixD tAnswer a i.fst.fst).fst, (ixD tAnswer a i.fst.fst).snd.fst, (ixD tAnswer a i.fst.fst).snd.snd.fst] 
 i_1.fst.fst) ++ (ByteArray.mk ( #[(32 : UInt8)] ))).data.toList, ())))) ((↑(ByteArray.size (bstr (ixD tAnswer a i.fst.fst).snd.snd.snd.fst)) : Int) ≤ (1000000000 : Int) ∧ (ByteArray.size (quoteN (bstr 
 (ixD tAnswer a i.fst.fst).snd.snd.snd.fst)) ≤ (9223372036854775807 : Nat) → (59 : TypeId) = (59 : TypeId) ∧ (5 : TypeId) = (5 : TypeId) ∧ (↑(List.length i_1.snd.fst + ByteArray.size (quoteN (bstr (ixD 
 tAnswer a i.fst.fst).snd.snd.snd.fst))) : Int) ≤ (140737488355328 : Int) ∧ (inK IntKind.i64 (↑(ByteArray.size (quoteN (bstr (ixD tAnswer a i.fst.fst).snd.snd.snd.fst))) : Int) → List.length (ixD 
 tAnswer a i.fst.fst).snd.snd.snd.snd.fst ≤ (9223372036854775807 : Nat) → List.length [(ixD tAnswer a i.fst.fst).snd.snd.snd.snd.snd.fst.fst, (ixD tAnswer a 
 i.fst.fst).snd.snd.snd.snd.snd.fst.snd.fst.fst, (ixD tAnswer a i.fst.fst).snd.snd.snd.snd.snd.fst.snd.fst.snd.fst, (ixD tAnswer a i.fst.fst).snd.snd.snd.snd.snd.fst.snd.fst.snd.snd.fst, (ixD tAnswer a 
 i.fst.fst).snd.snd.snd.snd.snd.fst.snd.snd.fst, (ixD tAnswer a i.fst.fst).snd.snd.snd.snd.snd.fst.snd.snd.snd.fst, (↑(List.length (ixD tAnswer a i.fst.fst).snd.snd.snd.snd.fst) : Int)] ≤ 
 (9223372036854775807 : Nat) → LoopP (fun i_2 again_2 => br (decide (i_2.fst.fst < (↑(List.length [(ixD tAnswer a i.fst.fst).snd.snd.snd.snd.snd.fst.fst, (ixD tAnswer a 
 i.fst.fst).snd.snd.snd.snd.snd.fst.snd.fst.fst, (ixD tAnswer a i.fst.fst).snd.snd.snd.snd.snd.fst.snd.fst.snd.fst, (ixD tAnswer a i.fst.fst).snd.snd.snd.snd.snd.fst.snd.fst.snd.snd.fst, (ixD tAnswer a 
 i.fst.fst).snd.snd.snd.snd.snd.fst.snd.snd.fst, (ixD tAnswer a i.fst.fst).snd.snd.snd.snd.snd.fst.snd.snd.snd.fst, (↑(List.length (ixD tAnswer a i.fst.fst).snd.snd.snd.snd.fst) : Int)]) : Int))) ((0 : 
 Int) ≤ i_2.fst.fst ∧ i_2.fst.fst < (↑(List.length [(ixD tAnswer a i.fst.fst).snd.snd.snd.snd.snd.fst.fst, (ixD tAnswer a i.fst.fst).snd.snd.snd.snd.snd.fst.snd.fst.fst, (ixD tAnswer a 
 i.fst.fst).snd.snd.snd.snd.snd.fst.snd.fst.snd.fst, (ixD tAnswer a i.fst.fst).snd.snd.snd.snd.snd.fst.snd.fst.snd.snd.fst, (ixD tAnswer a i.fst.fst).snd.snd.snd.snd.snd.fst.snd.snd.fst, (ixD tAnswer a 
 i.fst.fst).snd.snd.snd.snd.snd.fst.snd.snd.snd.fst, (↑(List.length (ixD tAnswer a i.fst.fst).snd.snd.snd.snd.fst) : Int)]) : Int) ∧ (0 : Int) ≤ i_2.fst.fst ∧ i_2.fst.fst < (↑(List.length [(ixD tAnswer 
 a i.fst.fst).snd.snd.snd.snd.snd.fst.fst, (ixD tAnswer a i.fst.fst).snd.snd.snd.snd.snd.fst.snd.fst.fst, (ixD tAnswer a i.fst.fst).snd.snd.snd.snd.snd.fst.snd.fst.snd.fst, (ixD tAnswer a 
 i.fst.fst).snd.snd.snd.snd.snd.fst.snd.fst.snd.snd.fst, (ixD tAnswer a i.fst.fst).snd.snd.snd.snd.snd.fst.snd.snd.fst, (ixD tAnswer a i.fst.fst).snd.snd.snd.snd.snd.fst.snd.snd.snd.fst, (↑(List.length 
 (ixD tAnswer a i.fst.fst).snd.snd.snd.snd.fst) : Int)]) : Int) ∧ (Ty.ok (Ty.int IntKind.i64) (ixD (Ty.int IntKind.i64) [(ixD tAnswer a i.fst.fst).snd.snd.snd.snd.snd.fst.fst, (ixD tAnswer a 
 i.fst.fst).snd.snd.snd.snd.snd.fst.snd.fst.fst, (ixD tAnswer a i.fst.fst).snd.snd.snd.snd.snd.fst.snd.fst.snd.fst, (ixD tAnswer a i.fst.fst).snd.snd.snd.snd.snd.fst.snd.fst.snd.snd.fst, (ixD tAnswer a 
 i.fst.fst).snd.snd.snd.snd.snd.fst.snd.snd.fst, (ixD tAnswer a i.fst.fst).snd.snd.snd.snd.snd.fst.snd.snd.snd.fst, (↑(List.length (ixD tAnswer a i.fst.fst).snd.snd.snd.snd.fst) : Int)] i_2.fst.fst) → 
 ByteArray.size (itoaN (ixD (Ty.int IntKind.i64) [(ixD tAnswer a i.fst.fst).snd.snd.snd.snd.snd.fst.fst, (ixD tAnswer a i.fst.fst).snd.snd.snd.snd.snd.fst.snd.fst.fst, (ixD tAnswer a 
 i.fst.fst).snd.snd.snd.snd.snd.fst.snd.fst.snd.fst, (ixD tAnswer a i.fst.fst).snd.snd.snd.snd.snd.fst.snd.fst.snd.snd.fst, (ixD tAnswer a i.fst.fst).snd.snd.snd.snd.snd.fst.snd.snd.fst, (ixD tAnswer a 
 i.fst.fst).snd.snd.snd.snd.snd.fst.snd.snd.snd.fst, (↑(List.length (ixD tAnswer a i.fst.fst).snd.snd.snd.snd.fst) : Int)] i_2.fst.fst)) ≤ (9223372036854775807 : Nat) → (1 : Nat) + ByteArray.size 
 (itoaN (ixD (Ty.int IntKind.i64) [(ixD tAnswer a i.fst.fst).snd.snd.snd.snd.snd.fst.fst, (ixD tAnswer a i.fst.fst).snd.snd.snd.snd.snd.fst.snd.fst.fst, (ixD tAnswer a 
 i.fst.fst).snd.snd.snd.snd.snd.fst.snd.fst.snd.fst, (ixD tAnswer a i.fst.fst).snd.snd.snd.snd.snd.fst.snd.fst.snd.snd.fst, (ixD tAnswer a i.fst.fst).snd.snd.snd.snd.snd.fst.snd.snd.fst, (ixD tAnswer a 
 i.fst.fst).snd.snd.snd.snd.snd.fst.snd.snd.snd.fst, (↑(List.length (ixD tAnswer a i.fst.fst).snd.snd.snd.snd.fst) : Int)] i_2.fst.fst)) ≤ (9223372036854775807 : Nat) ∧ (59 : TypeId) = (59 : TypeId) ∧ 
 (5 : TypeId) = (5 : TypeId) ∧ (↑(List.length i_2.snd.fst + ByteArray.size ((ByteArray.mk ( #[(32 : UInt8)] )) ++ itoaN (ixD (Ty.int IntKind.i64) [(ixD tAnswer a i.fst.fst).snd.snd.snd.snd.snd.fst.fst, 
 (ixD tAnswer a i.fst.fst).snd.snd.snd.snd.snd.fst.snd.fst.fst, (ixD tAnswer a i.fst.fst).snd.snd.snd.snd.snd.fst.snd.fst.snd.fst, (ixD tAnswer a i.fst.fst).snd.snd.snd.snd.snd.fst.snd.fst.snd.snd.fst, 
 (ixD tAnswer a i.fst.fst).snd.snd.snd.snd.snd.fst.snd.snd.fst, (ixD tAnswer a i.fst.fst).snd.snd.snd.snd.snd.fst.snd.snd.snd.fst, (↑(List.length (ixD tAnswer a i.fst.fst).snd.snd.snd.snd.fst) : Int)] 
 i_2.fst.fst))) : Int) ≤ (140737488355328 : Int) ∧ (inK IntKind.i64 (↑(ByteArray.size ((ByteArray.mk ( #[(32 : UInt8)] )) ++ itoaN (ixD (Ty.int IntKind.i64) [(ixD tAnswer a 
 i.fst.fst).snd.snd.snd.snd.snd.fst.fst, (ixD tAnswer a i.fst.fst).snd.snd.snd.snd.snd.fst.snd.fst.fst, (ixD tAnswer a i.fst.fst).snd.snd.snd.snd.snd.fst.snd.fst.snd.fst, (ixD tAnswer a 
 i.fst.fst).snd.snd.snd.snd.snd.fst.snd.fst.snd.snd.fst, (ixD tAnswer a i.fst.fst).snd.snd.snd.snd.snd.fst.snd.snd.fst, (ixD tAnswer a i.fst.fst).snd.snd.snd.snd.snd.fst.snd.snd.snd.fst, (↑(List.length 
 (ixD tAnswer a i.fst.fst).snd.snd.snd.snd.fst) : Int)] i_2.fst.fst))) : Int) → inK IntKind.i64 (i_2.fst.fst + (1 : Int)) ∧ again_2 ((i_2.fst.fst + (1 : Int), ()), i_2.snd.fst ++ ((ByteArray.mk ( #[(32 
 : UInt8)] )) ++ itoaN (ixD (Ty.int IntKind.i64) [(ixD tAnswer a i.fst.fst).snd.snd.snd.snd.snd.fst.fst, (ixD tAnswer a i.fst.fst).snd.snd.snd.snd.snd.fst.snd.fst.fst, (ixD tAnswer a 
 i.fst.fst).snd.snd.snd.snd.snd.fst.snd.fst.snd.fst, (ixD tAnswer a i.fst.fst).snd.snd.snd.snd.snd.fst.snd.fst.snd.snd.fst, (ixD tAnswer a i.fst.fst).snd.snd.snd.snd.snd.fst.snd.snd.fst, (ixD tAnswer a 
 i.fst.fst).snd.snd.snd.snd.snd.fst.snd.snd.snd.fst, (↑(List.length (ixD tAnswer a i.fst.fst).snd.snd.snd.snd.fst) : Int)] i_2.fst.fst)).data.toList, ())))) (List.length (ixD tAnswer a 
 i.fst.fst).snd.snd.snd.snd.fst ≤ (9223372036854775807 : Nat) → LoopP (fun i_3 again_3 => br (decide (i_3.fst.fst < (↑(List.length (ixD tAnswer a i.fst.fst).snd.snd.snd.snd.fst) : Int))) ((0 : Int) ≤ 
 i_3.fst.fst ∧ i_3.fst.fst < (↑(List.length (ixD tAnswer a i.fst.fst).snd.snd.snd.snd.fst) : Int) ∧ (Ty.ok Ty.str (ixD Ty.str (ixD tAnswer a i.fst.fst).snd.snd.snd.snd.fst i_3.fst.fst) → 
 (↑(ByteArray.size (ixD Ty.str (ixD tAnswer a i.fst.fst).snd.snd.snd.snd.fst i_3.fst.fst)) : Int) ≤ (1000000000 : Int) ∧ (ByteArray.size (quoteN (ixD Ty.str (ixD tAnswer a 
 i.fst.fst).snd.snd.snd.snd.fst i_3.fst.fst)) ≤ (9223372036854775807 : Nat) → (1 : Nat) + ByteArray.size (quoteN (ixD Ty.str (ixD tAnswer a i.fst.fst).snd.snd.snd.snd.fst i_3.fst.fst)) ≤ 
 (9223372036854775807 : Nat) ∧ (59 : TypeId) = (59 : TypeId) ∧ (5 : TypeId) = (5 : TypeId) ∧ (↑(List.length i_3.snd.fst + ByteArray.size ((ByteArray.mk ( #[(32 : UInt8)] )) ++ quoteN (ixD Ty.str (ixD 
 tAnswer a i.fst.fst).snd.snd.snd.snd.fst i_3.fst.fst))) : Int) ≤ (140737488355328 : Int) ∧ (inK IntKind.i64 (↑(ByteArray.size ((ByteArray.mk ( #[(32 : UInt8)] )) ++ quoteN (ixD Ty.str (ixD tAnswer a 
 i.fst.fst).snd.snd.snd.snd.fst i_3.fst.fst))) : Int) → inK IntKind.i64 (i_3.fst.fst + (1 : Int)) ∧ again_3 ((i_3.fst.fst + (1 : Int), ()), i_3.snd.fst ++ ((ByteArray.mk ( #[(32 : UInt8)] )) ++ quoteN 
 (ixD Ty.str (ixD tAnswer a i.fst.fst).snd.snd.snd.snd.fst i_3.fst.fst)).data.toList, ()))))) ((59 : TypeId) = (59 : TypeId) ∧ (5 : TypeId) = (5 : TypeId) ∧ (↑(List.length i_3.snd.fst + (1 : Nat)) : 
 Int) ≤ (140737488355328 : Int) ∧ (inK IntKind.i64 (↑(1 : Nat) : Int) → inK IntKind.i64 (i.fst.fst + (1 : Int)) ∧ again ((i.fst.fst + (1 : Int), ()), i_3.snd.fst ++ (ByteArray.mk ( #[(10 : UInt8)] 
 )).data.toList, ())))) (((0 : Int), ()), i_2.snd))) (((0 : Int), ()), i_1.snd.fst ++ (quoteN (bstr (ixD tAnswer a i.fst.fst).snd.snd.snd.fst)).data.toList, ()))))) (((0 : Int), ()), i.snd))) ((59 : 
 TypeId) = (59 : TypeId) ∧ (5 : TypeId) = (5 : TypeId) ∧ (ByteArray.size (bstr i.snd.fst) ≤ (9223372036854775807 : Nat) → Q (SV.v (S1.c (Cl.k (Value.string (bstr i.snd.fst))))) []))) (((0 : Int), ()), 
 [], ())
set_option maxRecDepth 1000000 in
theorem vc_show_eq (a : List (tAnswer).den) (Q : SV → List HO → Prop) : vFun XD2628 ⟨[(4, ⟨[(15, .int .i64)], [(0, .ab (.bld 59 5))]⟩), (7, ⟨[(27, .int .i64)], [(0, .ab (.bld 59 5))]⟩), (14, ⟨[(63, .int .i64)], [(0, .ab (.bld 59 5))]⟩), (19, ⟨[(75, .int .i64)], [(0, .ab (.bld 59 5))]⟩)], []⟩ Tryd.f20 [.c (.d tAnswer a)] [] Q = vc_show a Q := by kernel_rfl
set_option maxRecDepth 100000 in
theorem w_show : ∀ args H Q, c_show args H Q → Wp Inv Tryd.prog 20 args H Q := by
  intro args H Q h
  unfold c_show at h
  split at h
  · rename_i ca
    split at h
    · rename_i a ha
      refine Wp.said (args' := [.c (.d tAnswer a)]) (fun E g => RelVs.cons1 (of_list ha) (fun _ h => h)) ?_
      clear ha
      refine Wp.enter (X := XD2628) XD2628_ok ⟨[(4, ⟨[(15, .int .i64)], [(0, .ab (.bld 59 5))]⟩), (7, ⟨[(27, .int .i64)], [(0, .ab (.bld 59 5))]⟩), (14, ⟨[(63, .int .i64)], [(0, .ab (.bld 59 5))]⟩), (19, ⟨[(75, .int .i64)], [(0, .ab (.bld 59 5))]⟩)], []⟩ (fn := Tryd.f20) (by kernel_rfl) ?_
      have hv := vc_show_eq a Q
      rw [show vFun _ _ _ _ _ _ = _ from hv]
      unfold vc_show
      clear hv
      obtain ⟨hb, hz, h⟩ := h
      intro _ _
      refine LoopP.intro (fun i => ∃ p : Nat, i.1.1 = (p : Int) ∧ p ≤ a.length ∧ i.2.1 = showsL (a.take p) ∧ i.2.1.length ≤ p * 10000000) (fun i => a.length - i.1.1.toNat) ⟨0, rfl, Nat.zero_le _, rfl, Nat.zero_le _⟩ ?_
      rintro ⟨⟨i, _⟩, x, _⟩ ⟨p, h0, h1, h2, h3⟩
      simp only at h0 h2 h3 ⊢
      subst h0
      refine @br_of _ _ _ ?_ ?_
      · intro c1
        have c1 : p < a.length := by have : (p : Int) < a.length := (by simpa using c1); omega
        refine ⟨by omega, by omega, fun ho => ?_⟩
        have hw := ans_at hz c1
        have hn := shows_next c1
        generalize ixD tAnswer a (p : Int) = y at ho hw hn ⊢
        rw [show ([y.1, y.2.1, y.2.2.1] : List Int) = nums3 y from rfl, show ([y.2.2.2.2.2.1.1, y.2.2.2.2.2.1.2.1.1, y.2.2.2.2.2.1.2.1.2.1, y.2.2.2.2.2.1.2.1.2.2.1, y.2.2.2.2.2.1.2.2.1, y.2.2.2.2.2.1.2.2.2.1, (y.2.2.2.2.1.length : Int)] : List Int) = nums y from rfl]
        intro _
        refine LoopP.intro (fun i => ∃ q : Nat, i.1.1 = (q : Int) ∧ q ≤ 3 ∧ i.2.1 = x ++ ((nums3 y).take q).flatMap numA ∧ i.2.1.length ≤ x.length + q * 22) (fun i => 3 - i.1.1.toNat) ⟨0, rfl, by decide, (List.append_nil _).symm, Nat.le_refl _⟩ ?_
        rintro ⟨⟨j, _⟩, x1, _⟩ ⟨q, g0, g1, g2, g3⟩
        simp only at g0 g2 g3 ⊢
        subst g0
        have hl3 : (nums3 y).length = 3 := rfl
        refine @br_of _ _ _ ?_ ?_
        · intro d1
          have d1 : q < (nums3 y).length := by have : (q : Int) < ((nums3 y).length : Int) := (of_decide_eq_true d1); omega
          have hx := flat_next (e := .int .i64) (l := nums3 y) numA d1
          refine ⟨by omega, by omega, by omega, by omega, fun hok _ => ?_⟩
          have hs := itoa_sz hok
          refine ⟨by omega, trivial, trivial, by rw [sp1]; omega, fun _ => ⟨by unfold inK; omega, ⟨q + 1, by omega, by omega, ?_, ?_⟩, by omega⟩⟩
          · rw [a_lst, g2, hx, List.append_assoc]
          · rw [List.length_append, ← sz_list, sp1]; omega
        · intro d1
          have d1 : q = 3 := by have : ¬ (q : Int) < ((nums3 y).length : Int) := (of_decide_eq_false d1); omega
          subst d1
          have g2 : x1 = x ++ (nums3 y).flatMap numA := g2
          have hq := quoteN_size (bstr y.2.2.2.1)
          have hbz := bstr_size y.2.2.2.1
          refine ⟨by rw [hbz]; omega, fun _ => ⟨trivial, trivial, by omega, fun _ _ _ => ?_⟩⟩
          have hX : (x1 ++ (quoteN (bstr y.2.2.2.1)).data.toList).length = x1.length + (quoteN (bstr y.2.2.2.1)).size := by rw [List.length_append, ← sz_list]
          generalize hB : x1 ++ (quoteN (bstr y.2.2.2.1)).data.toList = x2 at hX ⊢
          refine LoopP.intro (fun i => ∃ q : Nat, i.1.1 = (q : Int) ∧ q ≤ 7 ∧ i.2.1 = x2 ++ ((nums y).take q).flatMap numB ∧ i.2.1.length ≤ x2.length + q * 22) (fun i => 7 - i.1.1.toNat) ⟨0, rfl, by decide, (List.append_nil _).symm, Nat.le_refl _⟩ ?_
          rintro ⟨⟨j, _⟩, x3, _⟩ ⟨q, k0, k1, k2, k3⟩
          simp only at k0 k2 k3 ⊢
          subst k0
          have hl7 : (nums y).length = 7 := rfl
          refine @br_of _ _ _ ?_ ?_
          · intro d2
            have d2 : q < (nums y).length := by have : (q : Int) < ((nums y).length : Int) := (of_decide_eq_true d2); omega
            have hx := flat_next (e := .int .i64) (l := nums y) numB d2
            refine ⟨by omega, by omega, by omega, by omega, fun hok _ => ?_⟩
            have hs := itoa_sz hok
            refine ⟨by omega, trivial, trivial, by rw [sp2]; omega, fun _ => ⟨by unfold inK; omega, ⟨q + 1, by omega, by omega, ?_, ?_⟩, by omega⟩⟩
            · rw [b_lst, k2, hx, List.append_assoc]
            · rw [List.length_append, ← sz_list, sp2]; omega
          · intro d2
            have d2 : q = 7 := by have : ¬ (q : Int) < ((nums y).length : Int) := (of_decide_eq_false d2); omega
            subst d2
            have k2 : x3 = x2 ++ (nums y).flatMap numB := k2
            intro _
            refine LoopP.intro (fun i => ∃ q : Nat, i.1.1 = (q : Int) ∧ q ≤ y.2.2.2.2.1.length ∧ i.2.1 = x3 ++ (y.2.2.2.2.1.take q).flatMap nameB ∧ i.2.1.length ≤ x3.length + 3 * wtN (y.2.2.2.2.1.take q)) (fun i => y.2.2.2.2.1.length - i.1.1.toNat) ⟨0, rfl, Nat.zero_le _, (List.append_nil _).symm, Nat.le_refl _⟩ ?_
            rintro ⟨⟨j, _⟩, x4, _⟩ ⟨q, m0, m1, m2, m3⟩
            simp only at m0 m2 m3 ⊢
            subst m0
            have hwt := wt_take y.2.2.2.2.1 q
            refine @br_of _ _ _ ?_ ?_
            · intro d3
              have d3 : q < y.2.2.2.2.1.length := by have : (q : Int) < (y.2.2.2.2.1.length : Int) := (of_decide_eq_true d3); omega
              have hx := flat_next (e := .str) (l := y.2.2.2.2.1) nameB d3
              have hwn := wt_next d3
              have hwt2 := wt_take y.2.2.2.2.1 (q + 1)
              have hqs := quoteN_size (ixD .str y.2.2.2.2.1 (q : Int))
              refine ⟨by omega, by omega, fun _ => ⟨by omega, fun _ => ⟨by omega, trivial, trivial, by rw [sp2]; omega, fun _ => ⟨by unfold inK; omega, ⟨q + 1, by omega, by omega, ?_, ?_⟩, by omega⟩⟩⟩⟩
              · rw [q_lst, m2, hx, List.append_assoc]
              · rw [List.length_append, ← sz_list, sp2]; omega
            · intro d3
              have d3 : q = y.2.2.2.2.1.length := by have : ¬ (q : Int) < (y.2.2.2.2.1.length : Int) := (of_decide_eq_false d3); omega
              rw [d3, List.take_of_length_le (Nat.le_refl _)] at m2
              refine ⟨trivial, trivial, by omega, fun _ => ⟨by unfold inK; omega, ⟨p + 1, by omega, by omega, ?_, ?_⟩, by omega⟩⟩
              · rw [hn, m2, k2, ← hB, g2, h2]
                unfold showL
                simp only [List.append_assoc]
                rfl
              · rw [List.length_append]
                show x4.length + 1 ≤ _
                omega
      · intro c1
        have c1 : p = a.length := by have : ¬ (p : Int) < a.length := (by simpa using c1); omega
        refine ⟨trivial, trivial, fun _ => ?_⟩
        rw [h2, c1, List.take_of_length_le (Nat.le_refl _)]
        exact h
    · exact h.elim
  · exact h.elim
end Go.Proofs

namespace Go.Proofs
open Go Go.Lm Go.RowKit
def c_showR : Ct
  | [.v (.c ca)], [], Q => (match (Ty.sl tAnswer).of [ca] with
    | some (a, []) => ((a.length : Int) ≤ 60 ∧ AnsSz 1048576 a ∧ Q (.str (bstr (showsL a))) [])
    | _ => False)
  | _, _, _ => False
noncomputable def XD2729 : Vx := { P := Tryd.prog, ct := [(20, c_show), (19, c_printR), (6, c_lawBack), (18, c_print), (17, c_few), (5, c_lawParses), (16, c_sameE), (15, c_parseR), (32, c_eventR), (33, c_lineR), (48, c_wordsR), (49, c_numberR), (36, c_bldS), (34, c_bldW), (4, c_lawPlain), (3, c_lawQuotes), (9, c_shown), (14, c_parse), (31, c_event), (47, c_atoi), (35, c_line), (45, c_words), (51, c_sjoin), (46, c_split), (30, c_cut), (29, c_count), (37, c_itoa), (11, c_unquoteR), (23, c_digit), (10, c_unquote), (13, c_quoteR), (27, c_decode), (12, c_quote), (28, c_itselfR), (26, c_itself), (24, c_hasPre), (39, c_hasPre0), (22, c_indexByte), (25, c_runeLen)], ty := tyTab, hold := [51, 16, 18, 19] }
theorem XD2729_ok : CtOk Inv Tryd.prog XD2729.ct := CtOk.cons w_show (CtOk.cons w_printR (CtOk.cons w_lawBack (CtOk.cons w_print (CtOk.cons w_few (CtOk.cons w_lawParses (CtOk.cons w_sameE (CtOk.cons w_parseR (CtOk.cons w_eventR (CtOk.cons w_lineR (CtOk.cons w_wordsR (CtOk.cons w_numberR (CtOk.cons w_bldS (CtOk.cons w_bldW (CtOk.cons w_lawPlain (CtOk.cons w_lawQuotes (CtOk.cons w_shown (CtOk.cons w_parse (CtOk.cons w_event (CtOk.cons w_atoi (CtOk.cons w_line (CtOk.cons w_words (CtOk.cons w_sjoin (CtOk.cons w_split (CtOk.cons w_cut (CtOk.cons w_count (CtOk.cons w_itoa (CtOk.cons w_unquoteR (CtOk.cons w_digit (CtOk.cons w_unquote (CtOk.cons w_quoteR (CtOk.cons w_decode (CtOk.cons w_quote (CtOk.cons w_itselfR (CtOk.cons w_itself (CtOk.cons w_hasPre (CtOk.cons w_hasPre0 (CtOk.cons w_indexByte (CtOk.cons w_runeLen (CtOk.nil _ _)))))))))))))))))))))))))))))))))))))))
def vc_showR : (List (tAnswer).den) → (SV → List HO → Prop) → Prop :=
 fun a Q => List.length a ≤ (9223372036854775807 : Nat) → LoopP (fun i again => List.length a ≤ (9223372036854775807 : Nat) → br (decide (i.fst.snd.fst < (↑(List.length a) : Int))) ((0 : Int) ≤ 
 i.fst.snd.fst ∧ i.fst.snd.fst < (↑(List.length a) : Int) ∧ (Ty.ok tAnswer (ixD tAnswer a i.fst.snd.fst) → List.length (ixD tAnswer a i.fst.snd.fst).snd.snd.snd.snd.fst ≤ (9223372036854775807 : Nat) → 
 ByteArray.size (itoaN (ixD tAnswer a i.fst.snd.fst).fst) ≤ (9223372036854775807 : Nat) → ByteArray.size i.fst.fst + ByteArray.size (itoaN (ixD tAnswer a i.fst.snd.fst).fst) ≤ (9223372036854775807 : 
 Nat) ∧ ByteArray.size (i.fst.fst ++ itoaN (ixD tAnswer a i.fst.snd.fst).fst) + (1 : Nat) ≤ (9223372036854775807 : Nat) ∧ (ByteArray.size (itoaN (ixD tAnswer a i.fst.snd.fst).snd.fst) ≤ 
 (9223372036854775807 : Nat) → ByteArray.size (i.fst.fst ++ itoaN (ixD tAnswer a i.fst.snd.fst).fst ++ (ByteArray.mk ( #[(32 : UInt8)] ))) + ByteArray.size (itoaN (ixD tAnswer a i.fst.snd.fst).snd.fst) 
 ≤ (9223372036854775807 : Nat) ∧ ByteArray.size (i.fst.fst ++ itoaN (ixD tAnswer a i.fst.snd.fst).fst ++ (ByteArray.mk ( #[(32 : UInt8)] )) ++ itoaN (ixD tAnswer a i.fst.snd.fst).snd.fst) + (1 : Nat) ≤ 
 (9223372036854775807 : Nat) ∧ (ByteArray.size (itoaN (ixD tAnswer a i.fst.snd.fst).snd.snd.fst) ≤ (9223372036854775807 : Nat) → ByteArray.size (i.fst.fst ++ itoaN (ixD tAnswer a i.fst.snd.fst).fst ++ 
 (ByteArray.mk ( #[(32 : UInt8)] )) ++ itoaN (ixD tAnswer a i.fst.snd.fst).snd.fst ++ (ByteArray.mk ( #[(32 : UInt8)] ))) + ByteArray.size (itoaN (ixD tAnswer a i.fst.snd.fst).snd.snd.fst) ≤ 
 (9223372036854775807 : Nat) ∧ ByteArray.size (i.fst.fst ++ itoaN (ixD tAnswer a i.fst.snd.fst).fst ++ (ByteArray.mk ( #[(32 : UInt8)] )) ++ itoaN (ixD tAnswer a i.fst.snd.fst).snd.fst ++ (ByteArray.mk 
 ( #[(32 : UInt8)] )) ++ itoaN (ixD tAnswer a i.fst.snd.fst).snd.snd.fst) + (1 : Nat) ≤ (9223372036854775807 : Nat) ∧ (↑(ByteArray.size (bstr (ixD tAnswer a i.fst.snd.fst).snd.snd.snd.fst)) : Int) ≤ 
 (1000000000 : Int) ∧ (ByteArray.size (quoteN (bstr (ixD tAnswer a i.fst.snd.fst).snd.snd.snd.fst)) ≤ (9223372036854775807 : Nat) → ByteArray.size (i.fst.fst ++ itoaN (ixD tAnswer a i.fst.snd.fst).fst 
 ++ (ByteArray.mk ( #[(32 : UInt8)] )) ++ itoaN (ixD tAnswer a i.fst.snd.fst).snd.fst ++ (ByteArray.mk ( #[(32 : UInt8)] )) ++ itoaN (ixD tAnswer a i.fst.snd.fst).snd.snd.fst ++ (ByteArray.mk ( #[(32 : 
 UInt8)] ))) + ByteArray.size (quoteN (bstr (ixD tAnswer a i.fst.snd.fst).snd.snd.snd.fst)) ≤ (9223372036854775807 : Nat) ∧ LoopP (fun i_1 again_1 => List.length [(ixD tAnswer a 
 i.fst.snd.fst).snd.snd.snd.snd.snd.fst.fst, (ixD tAnswer a i.fst.snd.fst).snd.snd.snd.snd.snd.fst.snd.fst.fst, (ixD tAnswer a i.fst.snd.fst).snd.snd.snd.snd.snd.fst.snd.fst.snd.fst, (ixD tAnswer a 
 i.fst.snd.fst).snd.snd.snd.snd.snd.fst.snd.fst.snd.snd.fst, (ixD tAnswer a i.fst.snd.fst).snd.snd.snd.snd.snd.fst.snd.snd.fst, (ixD tAnswer a i.fst.snd.fst).snd.snd.snd.snd.snd.fst.snd.snd.snd.fst, 
 (↑(List.length (ixD tAnswer a i.fst.snd.fst).snd.snd.snd.snd.fst) : Int)] ≤ (9223372036854775807 : Nat) → br (decide (i_1.fst.snd.fst < (↑(List.length [(ixD tAnswer a 
 i.fst.snd.fst).snd.snd.snd.snd.snd.fst.fst, (ixD tAnswer a i.fst.snd.fst).snd.snd.snd.snd.snd.fst.snd.fst.fst, (ixD tAnswer a i.fst.snd.fst).snd.snd.snd.snd.snd.fst.snd.fst.snd.fst, (ixD tAnswer a 
 i.fst.snd.fst).snd.snd.snd.snd.snd.fst.snd.fst.snd.snd.fst, (ixD tAnswer a i.fst.snd.fst).snd.snd.snd.snd.snd.fst.snd.snd.fst, (ixD tAnswer a i.fst.snd.fst).snd.snd.snd.snd.snd.fst.snd.snd.snd.fst, 
 (↑(List.length (ixD tAnswer a i.fst.snd.fst).snd.snd.snd.snd.fst) : Int)]) : Int))) (ByteArray.size i_1.fst.fst + (1 : Nat) ≤ (9223372036854775807 : Nat) ∧ (0 : Int) ≤ i_1.fst.snd.fst ∧ 
 i_1.fst.snd.fst < (↑(List.length [(ixD tAnswer a i.fst.snd.fst).snd.snd.snd.snd.snd.fst.fst, (ixD tAnswer a i.fst.snd.fst).snd.snd.snd.snd.snd.fst.snd.fst.fst, (ixD tAnswer a 
 i.fst.snd.fst).snd.snd.snd.snd.snd.fst.snd.fst.snd.fst, (ixD tAnswer a i.fst.snd.fst).snd.snd.snd.snd.snd.fst.snd.fst.snd.snd.fst, (ixD tAnswer a i.fst.snd.fst).snd.snd.snd.snd.snd.fst.snd.snd.fst, 
 (ixD tAnswer a i.fst.snd.fst).snd.snd.snd.snd.snd.fst.snd.snd.snd.fst, (↑(List.length (ixD tAnswer a i.fst.snd.fst).snd.snd.snd.snd.fst) : Int)]) : Int) ∧ (0 : Int) ≤ i_1.fst.snd.fst ∧ i_1.fst.snd.fst 
 < (↑(List.length [(ixD tAnswer a i.fst.snd.fst).snd.snd.snd.snd.snd.fst.fst, (ixD tAnswer a i.fst.snd.fst).snd.snd.snd.snd.snd.fst.snd.fst.fst, (ixD tAnswer a 
 i.fst.snd.fst).snd.snd.snd.snd.snd.fst.snd.fst.snd.fst, (ixD tAnswer a i.fst.snd.fst).snd.snd.snd.snd.snd.fst.snd.fst.snd.snd.fst, (ixD tAnswer a i.fst.snd.fst).snd.snd.snd.snd.snd.fst.snd.snd.fst, 
 (ixD tAnswer a i.fst.snd.fst).snd.snd.snd.snd.snd.fst.snd.snd.snd.fst, (↑(List.length (ixD tAnswer a i.fst.snd.fst).snd.snd.snd.snd.fst) : Int)]) : Int) ∧ (Ty.ok (Ty.int IntKind.i64) (ixD (Ty.int 
 IntKind.i64) [(ixD tAnswer a i.fst.snd.fst).snd.snd.snd.snd.snd.fst.fst, (ixD tAnswer a i.fst.snd.fst).snd.snd.snd.snd.snd.fst.snd.fst.fst, (ixD tAnswer a 
 i.fst.snd.fst).snd.snd.snd.snd.snd.fst.snd.fst.snd.fst, (ixD tAnswer a i.fst.snd.fst).snd.snd.snd.snd.snd.fst.snd.fst.snd.snd.fst, (ixD tAnswer a i.fst.snd.fst).snd.snd.snd.snd.snd.fst.snd.snd.fst, 
 (ixD tAnswer a i.fst.snd.fst).snd.snd.snd.snd.snd.fst.snd.snd.snd.fst, (↑(List.length (ixD tAnswer a i.fst.snd.fst).snd.snd.snd.snd.fst) : Int)] i_1.fst.snd.fst) → ByteArray.size (itoaN (ixD (Ty.int 
 IntKind.i64) [(ixD tAnswer a i.fst.snd.fst).snd.snd.snd.snd.snd.fst.fst, (ixD tAnswer a i.fst.snd.fst).snd.snd.snd.snd.snd.fst.snd.fst.fst, (ixD tAnswer a 
 i.fst.snd.fst).snd.snd.snd.snd.snd.fst.snd.fst.snd.fst, (ixD tAnswer a i.fst.snd.fst).snd.snd.snd.snd.snd.fst.snd.fst.snd.snd.fst, (ixD tAnswer a i.fst.snd.fst).snd.snd.snd.snd.snd.fst.snd.snd.fst, 
 (ixD tAnswer a i.fst.snd.fst).snd.snd.snd.snd.snd.fst.snd.snd.snd.fst, (↑(List.length (ixD tAnswer a i.fst.snd.fst).snd.snd.snd.snd.fst) : Int)] i_1.fst.snd.fst)) ≤ (9223372036854775807 : Nat) → 
 ByteArray.size (i_1.fst.fst ++ (ByteArray.mk ( #[(32 : UInt8)] ))) + ByteArray.size (itoaN (ixD (Ty.int IntKind.i64) [(ixD tAnswer a i.fst.snd.fst).snd.snd.snd.snd.snd.fst.fst, (ixD tAnswer a 
 i.fst.snd.fst).snd.snd.snd.snd.snd.fst.snd.fst.fst, (ixD tAnswer a i.fst.snd.fst).snd.snd.snd.snd.snd.fst.snd.fst.snd.fst, (ixD tAnswer a i.fst.snd.fst).snd.snd.snd.snd.snd.fst.snd.fst.snd.snd.fst, 
 (ixD tAnswer a i.fst.snd.fst).snd.snd.snd.snd.snd.fst.snd.snd.fst, (ixD tAnswer a i.fst.snd.fst).snd.snd.snd.snd.snd.fst.snd.snd.snd.fst, (↑(List.length (ixD tAnswer a 
 i.fst.snd.fst).snd.snd.snd.snd.fst) : Int)] i_1.fst.snd.fst)) ≤ (9223372036854775807 : Nat) ∧ inK IntKind.i64 (i_1.fst.snd.fst + (1 : Int)) ∧ again_1 ((i_1.fst.fst ++ (ByteArray.mk ( #[(32 : UInt8)] 
 )) ++ itoaN (ixD (Ty.int IntKind.i64) [(ixD tAnswer a i.fst.snd.fst).snd.snd.snd.snd.snd.fst.fst, (ixD tAnswer a i.fst.snd.fst).snd.snd.snd.snd.snd.fst.snd.fst.fst, (ixD tAnswer a 
 i.fst.snd.fst).snd.snd.snd.snd.snd.fst.snd.fst.snd.fst, (ixD tAnswer a i.fst.snd.fst).snd.snd.snd.snd.snd.fst.snd.fst.snd.snd.fst, (ixD tAnswer a i.fst.snd.fst).snd.snd.snd.snd.snd.fst.snd.snd.fst, 
 (ixD tAnswer a i.fst.snd.fst).snd.snd.snd.snd.snd.fst.snd.snd.snd.fst, (↑(List.length (ixD tAnswer a i.fst.snd.fst).snd.snd.snd.snd.fst) : Int)] i_1.fst.snd.fst), i_1.fst.snd.fst + (1 : Int), ()), 
 ()))) (LoopP (fun i_2 again_2 => List.length (ixD tAnswer a i.fst.snd.fst).snd.snd.snd.snd.fst ≤ (9223372036854775807 : Nat) → br (decide (i_2.fst.snd.fst < (↑(List.length (ixD tAnswer a 
 i.fst.snd.fst).snd.snd.snd.snd.fst) : Int))) (ByteArray.size i_2.fst.fst + (1 : Nat) ≤ (9223372036854775807 : Nat) ∧ (0 : Int) ≤ i_2.fst.snd.fst ∧ i_2.fst.snd.fst < (↑(List.length (ixD tAnswer a 
 i.fst.snd.fst).snd.snd.snd.snd.fst) : Int) ∧ (Ty.ok Ty.str (ixD Ty.str (ixD tAnswer a i.fst.snd.fst).snd.snd.snd.snd.fst i_2.fst.snd.fst) → (↑(ByteArray.size (ixD Ty.str (ixD tAnswer a 
 i.fst.snd.fst).snd.snd.snd.snd.fst i_2.fst.snd.fst)) : Int) ≤ (1000000000 : Int) ∧ (ByteArray.size (quoteN (ixD Ty.str (ixD tAnswer a i.fst.snd.fst).snd.snd.snd.snd.fst i_2.fst.snd.fst)) ≤ 
 (9223372036854775807 : Nat) → ByteArray.size (i_2.fst.fst ++ (ByteArray.mk ( #[(32 : UInt8)] ))) + ByteArray.size (quoteN (ixD Ty.str (ixD tAnswer a i.fst.snd.fst).snd.snd.snd.snd.fst 
 i_2.fst.snd.fst)) ≤ (9223372036854775807 : Nat) ∧ inK IntKind.i64 (i_2.fst.snd.fst + (1 : Int)) ∧ again_2 ((i_2.fst.fst ++ (ByteArray.mk ( #[(32 : UInt8)] )) ++ quoteN (ixD Ty.str (ixD tAnswer a 
 i.fst.snd.fst).snd.snd.snd.snd.fst i_2.fst.snd.fst), i_2.fst.snd.fst + (1 : Int), ()), ())))) (ByteArray.size i_2.fst.fst + (1 : Nat) ≤ (9223372036854775807 : Nat) ∧ inK IntKind.i64 (i.fst.snd.fst + 
 (1 : Int)) ∧ again ((i_2.fst.fst ++ (ByteArray.mk ( #[(10 : UInt8)] )), i.fst.snd.fst + (1 : Int), ()), ()))) ((i_1.fst.fst, (0 : Int), ()), ()))) ((i.fst.fst ++ itoaN (ixD tAnswer a 
 i.fst.snd.fst).fst ++ (ByteArray.mk ( #[(32 : UInt8)] )) ++ itoaN (ixD tAnswer a i.fst.snd.fst).snd.fst ++ (ByteArray.mk ( #[(32 : UInt8)] )) ++ itoaN (ixD tAnswer a i.fst.snd.fst).snd.snd.fst ++ 
 (ByteArray.mk ( #[(32 : UInt8)] )) ++ quoteN (bstr (ixD tAnswer a i.fst.snd.fst).snd.snd.snd.fst), (0 : Int), ()), ())))))) (Q (SV.v (S1.c (Cl.k (Value.string i.fst.fst)))) [])) (((ByteArray.mk ( #[] 
 )), (0 : Int), ()), ())
set_option maxRecDepth 1000000 in
theorem vc_showR_eq (a : List (tAnswer).den) (Q : SV → List HO → Prop) : vFun XD2729 ⟨[(4, ⟨[(3, .str), (4, .int .i64)], []⟩), (10, ⟨[(3, .str), (7, .int .i64)], []⟩), (14, ⟨[(3, .str), (8, .int .i64)], []⟩)], []⟩ Tryd.f21 [.c (.d tAnswer a)] [] Q = vc_showR a Q := by kernel_rfl
set_option maxRecDepth 100000 in
theorem w_showR : ∀ args H Q, c_showR args H Q → Wp Inv Tryd.prog 21 args H Q := by
  intro args H Q h
  unfold c_showR at h
  split at h
  · rename_i ca
    split at h
    · rename_i a ha
      refine Wp.said (args' := [.c (.d tAnswer a)]) (fun E g => RelVs.cons1 (of_list ha) (fun _ h => h)) ?_
      clear ha
      refine Wp.enter (X := XD2729) XD2729_ok ⟨[(4, ⟨[(3, .str), (4, .int .i64)], []⟩), (10, ⟨[(3, .str), (7, .int .i64)], []⟩), (14, ⟨[(3, .str), (8, .int .i64)], []⟩)], []⟩ (fn := Tryd.f21) (by kernel_rfl) ?_
      have hv := vc_showR_eq a Q
      rw [show vFun _ _ _ _ _ _ = _ from hv]
      unfold vc_showR
      clear hv
      obtain ⟨hb, hz, h⟩ := h
      intro _
      have hsp : (ByteArray.mk #[32]).size = 1 := rfl
      have hsl : (ByteArray.mk #[32]).data.toList = [32] := rfl
      have hnl : (ByteArray.mk #[10]).size = 1 := rfl
      refine LoopP.intro (fun i => ∃ p : Nat, i.1.2.1 = (p : Int) ∧ p ≤ a.length ∧ i.1.1.data.toList = showsL (a.take p) ∧ i.1.1.size ≤ p * 10000000) (fun i => a.length - i.1.2.1.toNat) ⟨0, rfl, Nat.zero_le _, rfl, Nat.zero_le _⟩ ?_
      rintro ⟨⟨x, i, _⟩, _⟩ ⟨p, h0, h1, h2, h3⟩
      simp only at h0 h2 h3 ⊢
      subst h0
      intro _
      refine @br_of _ _ _ ?_ ?_
      · intro c1
        have c1 : p < a.length := by have : (p : Int) < a.length := (by simpa using c1); omega
        refine ⟨by omega, by omega, fun ho => ?_⟩
        have hw := ans_at hz c1
        have hn := shows_next c1
        generalize ixD tAnswer a (p : Int) = y at ho hw hn ⊢
        rw [show ([y.2.2.2.2.2.1.1, y.2.2.2.2.2.1.2.1.1, y.2.2.2.2.2.1.2.1.2.1, y.2.2.2.2.2.1.2.1.2.2.1, y.2.2.2.2.2.1.2.2.1, y.2.2.2.2.2.1.2.2.2.1, (y.2.2.2.2.1.length : Int)] : List Int) = nums y from rfl]
        have i1 := itoa_sz ho.1
        have i2 := itoa_sz ho.2.1
        have i3 := itoa_sz ho.2.2.1
        have hq := quoteN_size (bstr y.2.2.2.1)
        have hbz := bstr_size y.2.2.2.1
        intro _ _
        refine ⟨by omega, by simp only [ByteArray.size_append]; omega, fun _ => ⟨by simp only [ByteArray.size_append, hsp]; omega, by simp only [ByteArray.size_append, hsp]; omega, fun _ => ⟨by simp only [ByteArray.size_append, hsp]; omega, by simp only [ByteArray.size_append, hsp]; omega, by rw [hbz]; omega, fun _ => ⟨by simp only [ByteArray.size_append, hsp]; omega, ?_⟩⟩⟩⟩
        have hXl : (x ++ itoaN y.1 ++ ⟨#[32]⟩ ++ itoaN y.2.1 ++ ⟨#[32]⟩ ++ itoaN y.2.2.1 ++ ⟨#[32]⟩ ++ quoteN (bstr y.2.2.2.1)).data.toList = x.data.toList ++ ((nums3 y).flatMap numA ++ quoteL (bstr y.2.2.2.1)) := by
          have e3 : (nums3 y).flatMap numA = numA y.1 ++ (numA y.2.1 ++ (numA y.2.2.1 ++ [])) := rfl
          rw [e3]
          unfold numA itoaL quoteL
          simp only [app_lst, List.append_assoc, List.append_nil]
        have hXs : (x ++ itoaN y.1 ++ ⟨#[32]⟩ ++ itoaN y.2.1 ++ ⟨#[32]⟩ ++ itoaN y.2.2.1 ++ ⟨#[32]⟩ ++ quoteN (bstr y.2.2.2.1)).size ≤ x.size + 66 + (quoteN (bstr y.2.2.2.1)).size := by
          simp only [ByteArray.size_append, hsp]
          omega
        generalize x ++ itoaN y.1 ++ ⟨#[32]⟩ ++ itoaN y.2.1 ++ ⟨#[32]⟩ ++ itoaN y.2.2.1 ++ ⟨#[32]⟩ ++ quoteN (bstr y.2.2.2.1) = x2 at hXl hXs ⊢
        refine LoopP.intro (fun i => ∃ q : Nat, i.1.2.1 = (q : Int) ∧ q ≤ 7 ∧ i.1.1.data.toList = x2.data.toList ++ ((nums y).take q).flatMap numB ∧ i.1.1.size ≤ x2.size + q * 22) (fun i => 7 - i.1.2.1.toNat) ⟨0, rfl, by decide, (List.append_nil _).symm, Nat.le_refl _⟩ ?_
        rintro ⟨⟨x3, j, _⟩, _⟩ ⟨q, k0, k1, k2, k3⟩
        simp only at k0 k2 k3 ⊢
        subst k0
        have hl7 : (nums y).length = 7 := rfl
        intro _
        refine @br_of _ _ _ ?_ ?_
        · intro d2
          have d2 : q < (nums y).length := by have : (q : Int) < ((nums y).length : Int) := (of_decide_eq_true d2); omega
          have hx := flat_next (e := .int .i64) (l := nums y) numB d2
          refine ⟨by omega, by omega, by omega, by omega, by omega, fun hok _ => ?_⟩
          have hs := itoa_sz hok
          refine ⟨by simp only [ByteArray.size_append, hsp]; omega, by unfold inK; omega, ⟨q + 1, by omega, by omega, ?_, by simp only [ByteArray.size_append, hsp]; omega⟩, by omega⟩
          rw [hx, app_lst, app_lst, k2, List.append_assoc, List.append_assoc]
          rfl
        · intro d2
          have d2 : q = 7 := by have : ¬ (q : Int) < ((nums y).length : Int) := (of_decide_eq_false d2); omega
          subst d2
          have k2 : x3.data.toList = x2.data.toList ++ (nums y).flatMap numB := k2
          refine LoopP.intro (fun i => ∃ q : Nat, i.1.2.1 = (q : Int) ∧ q ≤ y.2.2.2.2.1.length ∧ i.1.1.data.toList = x3.data.toList ++ (y.2.2.2.2.1.take q).flatMap nameB ∧ i.1.1.size ≤ x3.size + 3 * wtN (y.2.2.2.2.1.take q)) (fun i => y.2.2.2.2.1.length - i.1.2.1.toNat) ⟨0, rfl, Nat.zero_le _, (List.append_nil _).symm, Nat.le_refl _⟩ ?_
          rintro ⟨⟨x4, j, _⟩, _⟩ ⟨q, m0, m1, m2, m3⟩
          simp only at m0 m2 m3 ⊢
          subst m0
          have hwt := wt_take y.2.2.2.2.1 q
          intro _
          refine @br_of _ _ _ ?_ ?_
          · intro d3
            have d3 : q < y.2.2.2.2.1.length := by have : (q : Int) < (y.2.2.2.2.1.length : Int) := (of_decide_eq_true d3); omega
            have hx := flat_next (e := .str) (l := y.2.2.2.2.1) nameB d3
            have hwn := wt_next d3
            have hwt2 := wt_take y.2.2.2.2.1 (q + 1)
            have hqs := quoteN_size (ixD .str y.2.2.2.2.1 (q : Int))
            refine ⟨by omega, by omega, by omega, fun _ => ⟨by omega, fun _ => ⟨by simp only [ByteArray.size_append, hsp]; omega, by unfold inK; omega, ⟨q + 1, by omega, by omega, ?_, by simp only [ByteArray.size_append, hsp]; omega⟩, by omega⟩⟩⟩
            rw [hx, app_lst, app_lst, m2, List.append_assoc, List.append_assoc]
            rfl
          · intro d3
            have d3 : q = y.2.2.2.2.1.length := by have : ¬ (q : Int) < (y.2.2.2.2.1.length : Int) := (of_decide_eq_false d3); omega
            rw [d3, List.take_of_length_le (Nat.le_refl _)] at m2
            refine ⟨by omega, by unfold inK; omega, ⟨p + 1, by omega, by omega, ?_, by simp only [ByteArray.size_append, hnl]; omega⟩, by omega⟩
            rw [app_lst, hn, m2, k2, hXl, h2]
            unfold showL
            simp only [List.append_assoc]
      · intro c1
        have c1 : p = a.length := by have : ¬ (p : Int) < a.length := (by simpa using c1); omega
        rw [c1, List.take_of_length_le (Nat.le_refl _)] at h2
        rw [← h2, lst_bstr] at h
        exact h
    · exact h.elim
  · exact h.elim
end Go.Proofs

namespace Go.Proofs
open Go Go.Lm Go.RowKit
def c_lawPrints : Ct
  | [.v (.c cl), .v (.c ca)], [], Q => (match (Ty.sl tEvent).of [cl] with
    | some (l, []) => (match (Ty.sl tAnswer).of [ca] with
    | some (a, []) => (AnsSz 1048576 a ∧ Q (.bool true) [])
    | _ => False)
    | _ => False)
  | _, _, _ => False
noncomputable def XD2830 : Vx := { P := Tryd.prog, ct := [(21, c_showR), (20, c_show), (19, c_printR), (6, c_lawBack), (18, c_print), (17, c_few), (5, c_lawParses), (16, c_sameE), (15, c_parseR), (32, c_eventR), (33, c_lineR), (48, c_wordsR), (49, c_numberR), (36, c_bldS), (34, c_bldW), (4, c_lawPlain), (3, c_lawQuotes), (9, c_shown), (14, c_parse), (31, c_event), (47, c_atoi), (35, c_line), (45, c_words), (51, c_sjoin), (46, c_split), (30, c_cut), (29, c_count), (37, c_itoa), (11, c_unquoteR), (23, c_digit), (10, c_unquote), (13, c_quoteR), (27, c_decode), (12, c_quote), (28, c_itselfR), (26, c_itself), (24, c_hasPre), (39, c_hasPre0), (22, c_indexByte), (25, c_runeLen)], ty := tyTab, hold := [51, 16, 18, 19] }
theorem XD2830_ok : CtOk Inv Tryd.prog XD2830.ct := CtOk.cons w_showR (CtOk.cons w_show (CtOk.cons w_printR (CtOk.cons w_lawBack (CtOk.cons w_print (CtOk.cons w_few (CtOk.cons w_lawParses (CtOk.cons w_sameE (CtOk.cons w_parseR (CtOk.cons w_eventR (CtOk.cons w_lineR (CtOk.cons w_wordsR (CtOk.cons w_numberR (CtOk.cons w_bldS (CtOk.cons w_bldW (CtOk.cons w_lawPlain (CtOk.cons w_lawQuotes (CtOk.cons w_shown (CtOk.cons w_parse (CtOk.cons w_event (CtOk.cons w_atoi (CtOk.cons w_line (CtOk.cons w_words (CtOk.cons w_sjoin (CtOk.cons w_split (CtOk.cons w_cut (CtOk.cons w_count (CtOk.cons w_itoa (CtOk.cons w_unquoteR (CtOk.cons w_digit (CtOk.cons w_unquote (CtOk.cons w_quoteR (CtOk.cons w_decode (CtOk.cons w_quote (CtOk.cons w_itselfR (CtOk.cons w_itself (CtOk.cons w_hasPre (CtOk.cons w_hasPre0 (CtOk.cons w_indexByte (CtOk.cons w_runeLen (CtOk.nil _ _))))))))))))))))))))))))))))))))))))))))
def vc_lawPrints : (List (tEvent).den) → (List (tAnswer).den) → (SV → List HO → Prop) → Prop :=
 fun l a Q => List.length l ≤ (9223372036854775807 : Nat) → List.length a ≤ (9223372036854775807 : Nat) → EvsIn (fewN l) → List.length a ≤ (9223372036854775807 : Nat) → br (decide ((↑(List.length a) : 
 Int) > (60 : Int))) ((0 : Int) ≤ boundV none (0 : Int) ∧ boundV none (0 : Int) ≤ boundV (some (60 : Int)) (↑(List.length a) : Int) ∧ boundV (some (60 : Int)) (↑(List.length a) : Int) ≤ (↑(List.length 
 a) : Int) ∧ (↑(List.length (fewN l)) : Int) ≤ (2048 : Int) ∧ EvsSz (100000000 : Int) (fewN l) ∧ (ByteArray.size (printN (fewN l)) ≤ (9223372036854775807 : Nat) → inK IntKind.i64 (0 : Int) → 
 (↑(List.length (fewN l)) : Int) ≤ (2048 : Int) ∧ EvsSz (100000000 : Int) (fewN l) ∧ (ByteArray.size (printN (fewN l)) ≤ (9223372036854775807 : Nat) → inK IntKind.i64 (0 : Int) → br (sEq (printN (fewN 
 l)) (printN (fewN l))) ((↑(List.length (List.take (Int.toNat (boundV (some (60 : Int)) (↑(List.length a) : Int)) - (0 : Nat)) (List.drop (0 : Nat) a))) : Int) ≤ (60 : Int) ∧ AnsSz (1048576 : Nat) 
 (List.take (Int.toNat (boundV (some (60 : Int)) (↑(List.length a) : Int)) - (0 : Nat)) (List.drop (0 : Nat) a)) ∧ (ByteArray.size (bstr (showsL (List.take (Int.toNat (boundV (some (60 : Int)) 
 (↑(List.length a) : Int)) - (0 : Nat)) (List.drop (0 : Nat) a)))) ≤ (9223372036854775807 : Nat) → (↑(List.length (List.take (Int.toNat (boundV (some (60 : Int)) (↑(List.length a) : Int)) - (0 : Nat)) 
 (List.drop (0 : Nat) a))) : Int) ≤ (60 : Int) ∧ AnsSz (1048576 : Nat) (List.take (Int.toNat (boundV (some (60 : Int)) (↑(List.length a) : Int)) - (0 : Nat)) (List.drop (0 : Nat) a)) ∧ (ByteArray.size 
 (bstr (showsL (List.take (Int.toNat (boundV (some (60 : Int)) (↑(List.length a) : Int)) - (0 : Nat)) (List.drop (0 : Nat) a)))) ≤ (9223372036854775807 : Nat) → Q (SV.v (S1.c (Cl.k (Value.bool (sEq 
 (bstr (showsL (List.take (Int.toNat (boundV (some (60 : Int)) (↑(List.length a) : Int)) - (0 : Nat)) (List.drop (0 : Nat) a)))) (bstr (showsL (List.take (Int.toNat (boundV (some (60 : Int)) 
 (↑(List.length a) : Int)) - (0 : Nat)) (List.drop (0 : Nat) a))))))))) []))) (Q (SV.v (S1.c (Cl.k (Value.bool false)))) [])))) ((↑(List.length (fewN l)) : Int) ≤ (2048 : Int) ∧ EvsSz (100000000 : Int) 
 (fewN l) ∧ (ByteArray.size (printN (fewN l)) ≤ (9223372036854775807 : Nat) → inK IntKind.i64 (0 : Int) → (↑(List.length (fewN l)) : Int) ≤ (2048 : Int) ∧ EvsSz (100000000 : Int) (fewN l) ∧ 
 (ByteArray.size (printN (fewN l)) ≤ (9223372036854775807 : Nat) → inK IntKind.i64 (0 : Int) → br (sEq (printN (fewN l)) (printN (fewN l))) ((↑(List.length a) : Int) ≤ (60 : Int) ∧ AnsSz (1048576 : 
 Nat) a ∧ (ByteArray.size (bstr (showsL a)) ≤ (9223372036854775807 : Nat) → (↑(List.length a) : Int) ≤ (60 : Int) ∧ AnsSz (1048576 : Nat) a ∧ (ByteArray.size (bstr (showsL a)) ≤ (9223372036854775807 : 
 Nat) → Q (SV.v (S1.c (Cl.k (Value.bool (sEq (bstr (showsL a)) (bstr (showsL a))))))) []))) (Q (SV.v (S1.c (Cl.k (Value.bool false)))) []))))
set_option maxRecDepth 1000000 in
theorem vc_lawPrints_eq (l : List (tEvent).den) (a : List (tAnswer).den) (Q : SV → List HO → Prop) : vFun XD2830 ⟨[], []⟩ Tryd.f7 [.c (.d tEvent l), .c (.d tAnswer a)] [] Q = vc_lawPrints l a Q := by kernel_rfl
set_option maxRecDepth 100000 in
theorem w_lawPrints : ∀ args H Q, c_lawPrints args H Q → Wp Inv Tryd.prog 7 args H Q := by
  intro args H Q h
  unfold c_lawPrints at h
  split at h
  · rename_i cl ca
    split at h
    · rename_i l hl
      split at h
      · rename_i a ha
        refine Wp.said (args' := [.c (.d tEvent l), .c (.d tAnswer a)]) (fun E g => RelVs.cons1 (of_list hl) (RelVs.cons1 (of_list ha) (fun _ h => h))) ?_
        clear hl ha
        refine Wp.enter (X := XD2830) XD2830_ok ⟨[], []⟩ (fn := Tryd.f7) (by kernel_rfl) ?_
        have hv := vc_lawPrints_eq l a Q
        rw [show vFun _ _ _ _ _ _ = _ from hv]
        unfold vc_lawPrints
        clear hv
        obtain ⟨ha, h⟩ := h
        intro _ _ _ _
        have hfl := few_len l
        refine @br_of _ _ _ ?_ ?_
        · intro c1
          have c1 : (a.length : Int) > 60 := by simpa using c1
          refine ⟨by decide, by show (0 : Int) ≤ 60; decide, by show (60 : Int) ≤ a.length; omega, ?_⟩
          have hA : List.take (Int.toNat (boundV (some 60) (a.length : Int)) - 0) (List.drop 0 a) = a.take 60 := rfl
          rw [hA]
          have ha := ansSz_take ha 60
          have hal : (a.take 60).length ≤ 60 := by rw [List.length_take]; omega
          refine ⟨by omega, ⟨fun e he => by have := few_sz he; omega⟩, fun _ _ => ⟨by omega, ⟨fun e he => by have := few_sz he; omega⟩, fun _ _ => ?_⟩⟩
          rw [sEq_self]
          refine @br_of _ _ _ ?_ ?_
          · intro c2
            refine ⟨by omega, ha, fun _ => ⟨by omega, ha, fun _ => ?_⟩⟩
            rw [sEq_self]
            exact h
          · intro c2
            cases c2
        · intro c1
          have c1 : ¬ (a.length : Int) > 60 := by simpa using c1
          refine ⟨by omega, ⟨fun e he => by have := few_sz he; omega⟩, fun _ _ => ⟨by omega, ⟨fun e he => by have := few_sz he; omega⟩, fun _ _ => ?_⟩⟩
          rw [sEq_self]
          refine @br_of _ _ _ ?_ ?_
          · intro c2
            refine ⟨by omega, ha, fun _ => ⟨by omega, ha, fun _ => ?_⟩⟩
            rw [sEq_self]
            exact h
          · intro c2
            cases c2
      · exact h.elim
    · exact h.elim
  · exact h.elim
def c_lawLines : Ct
  | [.v (.c cl), .v (.c ca)], [], Q => (match (Ty.sl tEvent).of [cl] with
    | some (l, []) => (match (Ty.sl tAnswer).of [ca] with
    | some (a, []) => (AnsSz 1048576 a ∧ Q (.bool true) [])
    | _ => False)
    | _ => False)
  | _, _, _ => False
noncomputable def XD2831 : Vx := { P := Tryd.prog, ct := [(7, c_lawPrints), (21, c_showR), (20, c_show), (19, c_printR), (6, c_lawBack), (18, c_print), (17, c_few), (5, c_lawParses), (16, c_sameE), (15, c_parseR), (32, c_eventR), (33, c_lineR), (48, c_wordsR), (49, c_numberR), (36, c_bldS), (34, c_bldW), (4, c_lawPlain), (3, c_lawQuotes), (9, c_shown), (14, c_parse), (31, c_event), (47, c_atoi), (35, c_line), (45, c_words), (51, c_sjoin), (46, c_split), (30, c_cut), (29, c_count), (37, c_itoa), (11, c_unquoteR), (23, c_digit), (10, c_unquote), (13, c_quoteR), (27, c_decode), (12, c_quote), (28, c_itselfR), (26, c_itself), (24, c_hasPre), (39, c_hasPre0), (22, c_indexByte), (25, c_runeLen)], ty := tyTab, hold := [51, 16, 18, 19] }
theorem XD2831_ok : CtOk Inv Tryd.prog XD2831.ct := CtOk.cons w_lawPrints (CtOk.cons w_showR (CtOk.cons w_show (CtOk.cons w_printR (CtOk.cons w_lawBack (CtOk.cons w_print (CtOk.cons w_few (CtOk.cons w_lawParses (CtOk.cons w_sameE (CtOk.cons w_parseR (CtOk.cons w_eventR (CtOk.cons w_lineR (CtOk.cons w_wordsR (CtOk.cons w_numberR (CtOk.cons w_bldS (CtOk.cons w_bldW (CtOk.cons w_lawPlain (CtOk.cons w_lawQuotes (CtOk.cons w_shown (CtOk.cons w_parse (CtOk.cons w_event (CtOk.cons w_atoi (CtOk.cons w_line (CtOk.cons w_words (CtOk.cons w_sjoin (CtOk.cons w_split (CtOk.cons w_cut (CtOk.cons w_count (CtOk.cons w_itoa (CtOk.cons w_unquoteR (CtOk.cons w_digit (CtOk.cons w_unquote (CtOk.cons w_quoteR (CtOk.cons w_decode (CtOk.cons w_quote (CtOk.cons w_itselfR (CtOk.cons w_itself (CtOk.cons w_hasPre (CtOk.cons w_hasPre0 (CtOk.cons w_indexByte (CtOk.cons w_runeLen (CtOk.nil _ _)))))))))))))))))))))))))))))))))))))))))
def vc_lawLines : (List (tEvent).den) → (List (tAnswer).den) → (SV → List HO → Prop) → Prop :=
 fun l a Q => List.length l ≤ (9223372036854775807 : Nat) → List.length a ≤ (9223372036854775807 : Nat) → EvsIn (fewN l) → List.length a ≤ (9223372036854775807 : Nat) → br (decide ((↑(List.length a) : 
 Int) > (60 : Int))) ((0 : Int) ≤ boundV none (0 : Int) ∧ boundV none (0 : Int) ≤ boundV (some (60 : Int)) (↑(List.length a) : Int) ∧ boundV (some (60 : Int)) (↑(List.length a) : Int) ≤ (↑(List.length 
 a) : Int) ∧ (↑(List.length (fewN l)) : Int) ≤ (2048 : Int) ∧ EvsSz (100000000 : Int) (fewN l) ∧ (ByteArray.size (printN (fewN l)) ≤ (9223372036854775807 : Nat) → inK IntKind.i64 (0 : Int) → 
 (↑(List.length (List.take (Int.toNat (boundV (some (60 : Int)) (↑(List.length a) : Int)) - (0 : Nat)) (List.drop (0 : Nat) a))) : Int) ≤ (60 : Int) ∧ AnsSz (1048576 : Nat) (List.take (Int.toNat 
 (boundV (some (60 : Int)) (↑(List.length a) : Int)) - (0 : Nat)) (List.drop (0 : Nat) a)) ∧ (ByteArray.size (bstr (showsL (List.take (Int.toNat (boundV (some (60 : Int)) (↑(List.length a) : Int)) - (0 
 : Nat)) (List.drop (0 : Nat) a)))) ≤ (9223372036854775807 : Nat) → LoopP (fun i again => br (decide (i.fst.snd.fst < (↑(ByteArray.size (printN (fewN l))) : Int))) ((0 : Int) ≤ i.fst.snd.fst ∧ 
 i.fst.snd.fst < (↑(ByteArray.size (printN (fewN l))) : Int) ∧ br ((↑(UInt8.toNat (byteAt (printN (fewN l)) i.fst.snd.fst)) : Int) == (10 : Int)) (inK IntKind.i64 (i.fst.fst + (1 : Int)) ∧ inK 
 IntKind.i64 (i.fst.snd.fst + (1 : Int)) ∧ again ((i.fst.fst + (1 : Int), i.fst.snd.fst + (1 : Int), ()), ())) (inK IntKind.i64 (i.fst.snd.fst + (1 : Int)) ∧ again ((i.fst.fst, i.fst.snd.fst + (1 : 
 Int), ()), ()))) (LoopP (fun i_1 again => br (decide (i_1.fst.snd.fst < (↑(ByteArray.size (bstr (showsL (List.take (Int.toNat (boundV (some (60 : Int)) (↑(List.length a) : Int)) - (0 : Nat)) 
 (List.drop (0 : Nat) a))))) : Int))) ((0 : Int) ≤ i_1.fst.snd.fst ∧ i_1.fst.snd.fst < (↑(ByteArray.size (bstr (showsL (List.take (Int.toNat (boundV (some (60 : Int)) (↑(List.length a) : Int)) - (0 : 
 Nat)) (List.drop (0 : Nat) a))))) : Int) ∧ br ((↑(UInt8.toNat (byteAt (bstr (showsL (List.take (Int.toNat (boundV (some (60 : Int)) (↑(List.length a) : Int)) - (0 : Nat)) (List.drop (0 : Nat) a)))) 
 i_1.fst.snd.fst)) : Int) == (10 : Int)) (inK IntKind.i64 (i_1.fst.fst + (1 : Int)) ∧ inK IntKind.i64 (i_1.fst.snd.fst + (1 : Int)) ∧ again ((i_1.fst.fst + (1 : Int), i_1.fst.snd.fst + (1 : Int), ()), 
 ())) (inK IntKind.i64 (i_1.fst.snd.fst + (1 : Int)) ∧ again ((i_1.fst.fst, i_1.fst.snd.fst + (1 : Int), ()), ()))) (List.length (fewN l) ≤ (9223372036854775807 : Nat) → br (i.fst.fst == (↑(List.length 
 (fewN l)) : Int)) (List.length (List.take (Int.toNat (boundV (some (60 : Int)) (↑(List.length a) : Int)) - (0 : Nat)) (List.drop (0 : Nat) a)) ≤ (9223372036854775807 : Nat) → Q (SV.v (S1.c (Cl.k 
 (Value.bool (i_1.fst.fst == (↑(List.length (List.take (Int.toNat (boundV (some (60 : Int)) (↑(List.length a) : Int)) - (0 : Nat)) (List.drop (0 : Nat) a))) : Int)))))) []) (Q (SV.v (S1.c (Cl.k 
 (Value.bool false)))) []))) (((0 : Int), (0 : Int), ()), ()))) (((0 : Int), (0 : Int), ()), ())))) ((↑(List.length (fewN l)) : Int) ≤ (2048 : Int) ∧ EvsSz (100000000 : Int) (fewN l) ∧ (ByteArray.size 
 (printN (fewN l)) ≤ (9223372036854775807 : Nat) → inK IntKind.i64 (0 : Int) → (↑(List.length a) : Int) ≤ (60 : Int) ∧ AnsSz (1048576 : Nat) a ∧ (ByteArray.size (bstr (showsL a)) ≤ (9223372036854775807 
 : Nat) → LoopP (fun i again => br (decide (i.fst.snd.fst < (↑(ByteArray.size (printN (fewN l))) : Int))) ((0 : Int) ≤ i.fst.snd.fst ∧ i.fst.snd.fst < (↑(ByteArray.size (printN (fewN l))) : Int) ∧ br 
 ((↑(UInt8.toNat (byteAt (printN (fewN l)) i.fst.snd.fst)) : Int) == (10 : Int)) (inK IntKind.i64 (i.fst.fst + (1 : Int)) ∧ inK IntKind.i64 (i.fst.snd.fst + (1 : Int)) ∧ again ((i.fst.fst + (1 : Int), 
 i.fst.snd.fst + (1 : Int), ()), ())) (inK IntKind.i64 (i.fst.snd.fst + (1 : Int)) ∧ again ((i.fst.fst, i.fst.snd.fst + (1 : Int), ()), ()))) (LoopP (fun i_1 again => br (decide (i_1.fst.snd.fst < 
 (↑(ByteArray.size (bstr (showsL a))) : Int))) ((0 : Int) ≤ i_1.fst.snd.fst ∧ i_1.fst.snd.fst < (↑(ByteArray.size (bstr (showsL a))) : Int) ∧ br ((↑(UInt8.toNat (byteAt (bstr (showsL a)) 
 i_1.fst.snd.fst)) : Int) == (10 : Int)) (inK IntKind.i64 (i_1.fst.fst + (1 : Int)) ∧ inK IntKind.i64 (i_1.fst.snd.fst + (1 : Int)) ∧ again ((i_1.fst.fst + (1 : Int), i_1.fst.snd.fst + (1 : Int), ()), 
 ())) (inK IntKind.i64 (i_1.fst.snd.fst + (1 : Int)) ∧ again ((i_1.fst.fst, i_1.fst.snd.fst + (1 : Int), ()), ()))) (List.length (fewN l) ≤ (9223372036854775807 : Nat) → br (i.fst.fst == (↑(List.length 
 (fewN l)) : Int)) (List.length a ≤ (9223372036854775807 : Nat) → Q (SV.v (S1.c (Cl.k (Value.bool (i_1.fst.fst == (↑(List.length a) : Int)))))) []) (Q (SV.v (S1.c (Cl.k (Value.bool false)))) []))) (((0 
 : Int), (0 : Int), ()), ()))) (((0 : Int), (0 : Int), ()), ()))))
set_option maxRecDepth 1000000 in
theorem vc_lawLines_eq (l : List (tEvent).den) (a : List (tAnswer).den) (Q : SV → List HO → Prop) : vFun XD2831 ⟨[(10, ⟨[(9, .int .i64), (10, .int .i64)], []⟩), (16, ⟨[(11, .int .i64), (12, .int .i64)], []⟩)], []⟩ Tryd.f8 [.c (.d tEvent l), .c (.d tAnswer a)] [] Q = vc_lawLines l a Q := by kernel_rfl
set_option maxRecDepth 100000 in
theorem w_lawLines : ∀ args H Q, c_lawLines args H Q → Wp Inv Tryd.prog 8 args H Q := by
  intro args H Q h
  unfold c_lawLines at h
  split at h
  · rename_i cl ca
    split at h
    · rename_i l hl
      split at h
      · rename_i a ha
        refine Wp.said (args' := [.c (.d tEvent l), .c (.d tAnswer a)]) (fun E g => RelVs.cons1 (of_list hl) (RelVs.cons1 (of_list ha) (fun _ h => h))) ?_
        clear hl ha
        refine Wp.enter (X := XD2831) XD2831_ok ⟨[(10, ⟨[(9, .int .i64), (10, .int .i64)], []⟩), (16, ⟨[(11, .int .i64), (12, .int .i64)], []⟩)], []⟩ (fn := Tryd.f8) (by kernel_rfl) ?_
        have hv := vc_lawLines_eq l a Q
        rw [show vFun _ _ _ _ _ _ = _ from hv]
        unfold vc_lawLines
        clear hv
        obtain ⟨ha, h⟩ := h
        intro _ _ _ _
        have hfl := few_len l
        refine @br_of _ _ _ ?_ ?_
        · intro c1
          have c1 : (a.length : Int) > 60 := by simpa using c1
          refine ⟨by decide, by show (0 : Int) ≤ 60; decide, by show (60 : Int) ≤ a.length; omega, ?_⟩
          have hA : List.take (Int.toNat (boundV (some 60) (a.length : Int)) - 0) (List.drop 0 a) = a.take 60 := rfl
          rw [hA]
          have ha := ansSz_take ha 60
          have hal : (a.take 60).length ≤ 60 := by rw [List.length_take]; omega
          refine ⟨by omega, ⟨fun e he => by have := few_sz he; omega⟩, fun hs1 _ => ⟨by omega, ha, fun hs2 => ?_⟩⟩
          have hc1 : Lib.countByte (printN (fewN l)).data.toList 10 = (fewN l).length := by unfold printN; rw [bstr_lst, count_print]
          have hc2 : Lib.countByte (bstr (showsL (a.take 60))).data.toList 10 = ((a.take 60)).length := by rw [bstr_lst, count_shows]
          generalize printN (fewN l) = s1 at hs1 hc1 ⊢
          generalize bstr (showsL (a.take 60)) = s2 at hs2 hc2 ⊢
        
          refine LoopP.intro (fun i => ∃ p : Nat, i.1.2.1 = (p : Int) ∧ p ≤ s1.size ∧ i.1.1 = (Lib.countByte (s1.data.toList.take p) 10 : Int) ∧ Lib.countByte (s1.data.toList.take p) 10 ≤ p) (fun i => s1.size - i.1.2.1.toNat) ⟨0, rfl, Nat.zero_le _, rfl, Nat.le_refl _⟩ ?_
          rintro ⟨⟨n1, i, _⟩, _⟩ ⟨p1, g0, g1, g2, g3⟩
          simp only at g0 g2 ⊢
          subst g0
          refine @br_of _ _ _ ?_ ?_
          · intro c3
            have c3 : p1 < s1.size := by have : (p1 : Int) < (s1.size : Int) := (of_decide_eq_true c3); omega
            have hn := count_next (s := s1) (i := p1) c3
            refine ⟨by omega, by omega, ?_⟩
            refine @br_of _ _ _ ?_ ?_
            · intro c4
              have c4 : byteAt s1 (p1 : Int) = 10 := UInt8.toNat_inj.1 (by have : ((byteAt s1 (p1 : Int)).toNat : Int) = 10 := (by simpa using c4); show (byteAt s1 (p1 : Int)).toNat = 10; omega)
              rw [if_pos c4] at hn
              exact ⟨by unfold inK; omega, by unfold inK; omega, ⟨p1 + 1, by omega, by omega, by rw [g2, hn]; omega, by omega⟩, by omega⟩
            · intro c4
              have c4 : byteAt s1 (p1 : Int) ≠ 10 := fun e => by
                rw [e] at c4; exact absurd c4 (by decide)
              rw [if_neg c4] at hn
              exact ⟨by unfold inK; omega, ⟨p1 + 1, by omega, by omega, by rw [g2, hn]; omega, by omega⟩, by omega⟩
          · intro c3
            have c3 : p1 = s1.size := by have : ¬ (p1 : Int) < (s1.size : Int) := (of_decide_eq_false c3); omega
            rw [List.take_of_length_le (by rw [← sz_list]; omega), hc1] at g2
            subst g2
            refine LoopP.intro (fun i => ∃ p : Nat, i.1.2.1 = (p : Int) ∧ p ≤ s2.size ∧ i.1.1 = (Lib.countByte (s2.data.toList.take p) 10 : Int) ∧ Lib.countByte (s2.data.toList.take p) 10 ≤ p) (fun i => s2.size - i.1.2.1.toNat) ⟨0, rfl, Nat.zero_le _, rfl, Nat.le_refl _⟩ ?_
            rintro ⟨⟨n2, i, _⟩, _⟩ ⟨p2, g0, g1, g2, g3⟩
            simp only at g0 g2 ⊢
            subst g0
            refine @br_of _ _ _ ?_ ?_
            · intro c3
              have c3 : p2 < s2.size := by have : (p2 : Int) < (s2.size : Int) := (of_decide_eq_true c3); omega
              have hn := count_next (s := s2) (i := p2) c3
              refine ⟨by omega, by omega, ?_⟩
              refine @br_of _ _ _ ?_ ?_
              · intro c4
                have c4 : byteAt s2 (p2 : Int) = 10 := UInt8.toNat_inj.1 (by have : ((byteAt s2 (p2 : Int)).toNat : Int) = 10 := (by simpa using c4); show (byteAt s2 (p2 : Int)).toNat = 10; omega)
                rw [if_pos c4] at hn
                exact ⟨by unfold inK; omega, by unfold inK; omega, ⟨p2 + 1, by omega, by omega, by rw [g2, hn]; omega, by omega⟩, by omega⟩
              · intro c4
                have c4 : byteAt s2 (p2 : Int) ≠ 10 := fun e => by
                  rw [e] at c4; exact absurd c4 (by decide)
                rw [if_neg c4] at hn
                exact ⟨by unfold inK; omega, ⟨p2 + 1, by omega, by omega, by rw [g2, hn]; omega, by omega⟩, by omega⟩
            · intro c3
              have c3 : p2 = s2.size := by have : ¬ (p2 : Int) < (s2.size : Int) := (of_decide_eq_false c3); omega
              rw [List.take_of_length_le (by rw [← sz_list]; omega), hc2] at g2
              subst g2
              intro _
              rw [beq_self_eq_true, beq_self_eq_true]
              refine @br_of _ _ _ ?_ ?_
              · intro c5
                exact fun _ => h
              · intro c5
                cases c5
        · intro c1
          have c1 : ¬ (a.length : Int) > 60 := by simpa using c1
          refine ⟨by omega, ⟨fun e he => by have := few_sz he; omega⟩, fun hs1 _ => ⟨by omega, ha, fun hs2 => ?_⟩⟩
          have hc1 : Lib.countByte (printN (fewN l)).data.toList 10 = (fewN l).length := by unfold printN; rw [bstr_lst, count_print]
          have hc2 : Lib.countByte (bstr (showsL a)).data.toList 10 = (a).length := by rw [bstr_lst, count_shows]
          generalize printN (fewN l) = s1 at hs1 hc1 ⊢
          generalize bstr (showsL a) = s2 at hs2 hc2 ⊢
        
          refine LoopP.intro (fun i => ∃ p : Nat, i.1.2.1 = (p : Int) ∧ p ≤ s1.size ∧ i.1.1 = (Lib.countByte (s1.data.toList.take p) 10 : Int) ∧ Lib.countByte (s1.data.toList.take p) 10 ≤ p) (fun i => s1.size - i.1.2.1.toNat) ⟨0, rfl, Nat.zero_le _, rfl, Nat.le_refl _⟩ ?_
          rintro ⟨⟨n1, i, _⟩, _⟩ ⟨p1, g0, g1, g2, g3⟩
          simp only at g0 g2 ⊢
          subst g0
          refine @br_of _ _ _ ?_ ?_
          · intro c3
            have c3 : p1 < s1.size := by have : (p1 : Int) < (s1.size : Int) := (of_decide_eq_true c3); omega
            have hn := count_next (s := s1) (i := p1) c3
            refine ⟨by omega, by omega, ?_⟩
            refine @br_of _ _ _ ?_ ?_
            · intro c4
              have c4 : byteAt s1 (p1 : Int) = 10 := UInt8.toNat_inj.1 (by have : ((byteAt s1 (p1 : Int)).toNat : Int) = 10 := (by simpa using c4); show (byteAt s1 (p1 : Int)).toNat = 10; omega)
              rw [if_pos c4] at hn
              exact ⟨by unfold inK; omega, by unfold inK; omega, ⟨p1 + 1, by omega, by omega, by rw [g2, hn]; omega, by omega⟩, by omega⟩
            · intro c4
              have c4 : byteAt s1 (p1 : Int) ≠ 10 := fun e => by
                rw [e] at c4; exact absurd c4 (by decide)
              rw [if_neg c4] at hn
              exact ⟨by unfold inK; omega, ⟨p1 + 1, by omega, by omega, by rw [g2, hn]; omega, by omega⟩, by omega⟩
          · intro c3
            have c3 : p1 = s1.size := by have : ¬ (p1 : Int) < (s1.size : Int) := (of_decide_eq_false c3); omega
            rw [List.take_of_length_le (by rw [← sz_list]; omega), hc1] at g2
            subst g2
            refine LoopP.intro (fun i => ∃ p : Nat, i.1.2.1 = (p : Int) ∧ p ≤ s2.size ∧ i.1.1 = (Lib.countByte (s2.data.toList.take p) 10 : Int) ∧ Lib.countByte (s2.data.toList.take p) 10 ≤ p) (fun i => s2.size - i.1.2.1.toNat) ⟨0, rfl, Nat.zero_le _, rfl, Nat.le_refl _⟩ ?_
            rintro ⟨⟨n2, i, _⟩, _⟩ ⟨p2, g0, g1, g2, g3⟩
            simp only at g0 g2 ⊢
            subst g0
            refine @br_of _ _ _ ?_ ?_
            · intro c3
              have c3 : p2 < s2.size := by have : (p2 : Int) < (s2.size : Int) := (of_decide_eq_true c3); omega
              have hn := count_next (s := s2) (i := p2) c3
              refine ⟨by omega, by omega, ?_⟩
              refine @br_of _ _ _ ?_ ?_
              · intro c4
                have c4 : byteAt s2 (p2 : Int) = 10 := UInt8.toNat_inj.1 (by have : ((byteAt s2 (p2 : Int)).toNat : Int) = 10 := (by simpa using c4); show (byteAt s2 (p2 : Int)).toNat = 10; omega)
                rw [if_pos c4] at hn
                exact ⟨by unfold inK; omega, by unfold inK; omega, ⟨p2 + 1, by omega, by omega, by rw [g2, hn]; omega, by omega⟩, by omega⟩
              · intro c4
                have c4 : byteAt s2 (p2 : Int) ≠ 10 := fun e => by
                  rw [e] at c4; exact absurd c4 (by decide)
                rw [if_neg c4] at hn
                exact ⟨by unfold inK; omega, ⟨p2 + 1, by omega, by omega, by rw [g2, hn]; omega, by omega⟩, by omega⟩
            · intro c3
              have c3 : p2 = s2.size := by have : ¬ (p2 : Int) < (s2.size : Int) := (of_decide_eq_false c3); omega
              rw [List.take_of_length_le (by rw [← sz_list]; omega), hc2] at g2
              subst g2
              intro _
              rw [beq_self_eq_true, beq_self_eq_true]
              refine @br_of _ _ _ ?_ ?_
              · intro c5
                exact fun _ => h
              · intro c5
                cases c5
      · exact h.elim
    · exact h.elim
  · exact h.elim
end Go.Proofs

/- What comes in reads as data, and takes no more than its reading. -/
namespace Go.Proofs.YtklplgmjccldlaaDoor
open Go Go.RowKit Go.Lm
variable {P : Program}
def wtT : (τ : Ty) → τ.den → Nat
  | .u8, _ => 1
  | .str, s => s.size + 1
  | .pair a b, x => wtT a x.1 + wtT b x.2
  | .sl e, x => (x.map (wtT e)).sum
  | _, _ => 0
theorem bulk_pos {H : Type} : ∀ d : DataW H, 1 ≤ Rows.uptoBulk d
  | .lit (.string b) => by unfold Rows.uptoBulk; omega
  | .lit (.int _ _) => by unfold Rows.uptoBulk; omega
  | .lit (.bool _) => by unfold Rows.uptoBulk; omega
  | .lit (.float _ _) => by unfold Rows.uptoBulk; omega
  | .lit .nil => by unfold Rows.uptoBulk; omega
  | .nil => by unfold Rows.uptoBulk; omega
  | .ptr _ => by unfold Rows.uptoBulk; omega
  | .slice _ _ => by unfold Rows.uptoBulk; omega
  | .agg _ => by unfold Rows.uptoBulk; omega
  | .iface _ _ => by unfold Rows.uptoBulk; omega
  | .map _ => by unfold Rows.uptoBulk; omega
  | .held _ => by unfold Rows.uptoBulk; omega
def OpensW (P : Program) (t : TypeId) (e : Ty) : Prop :=
  ∀ {H : Type} (enc : TypeId × Value → H) (w : World) (base : Nat) (spare : Nat → Bool) (held : Bool) (fuel : Nat) (cs : List Value) (y : DataW H × List MemPlace), DataW.trod enc P w base spare held fuel t cs = some y → ∃ x : e.den, e.rep.rel w cs x ∧ wtT e x ≤ Rows.uptoBulk y.1
def OpensG (P : Program) (fs : List Field) (off : Nat) (e : Ty) : Prop :=
  ∀ {H : Type} (enc : TypeId × Value → H) (w : World) (base : Nat) (spare : Nat → Bool) (held : Bool) (fuel : Nat) (cs : List Value) (ys : List (DataW H × List MemPlace)), cs.length = off + e.size → ys.length = fs.length →
    (∀ (i : Nat) (f : Field), fs[i]? = some f → DataW.trod enc P w base spare held fuel f.type ((cs.drop f.offset).take (P.cellsOf f.type)) = ys[i]?) → ∃ x : e.den, e.rep.rel w (cs.drop off) x ∧ wtT e x ≤ Rows.uptoBulkAll (ys.map (·.1))
theorem opensW_zero {t : TypeId} {e : Ty} (h : OpensD P t e) (hz : ∀ x, wtT e x ≤ 1) : OpensW P t e := fun enc w base spare held fuel cs y hy => by
  obtain ⟨x, hx⟩ := h enc w base spare held fuel cs y hy
  exact ⟨x, hx, Nat.le_trans (hz x) (bulk_pos _)⟩
theorem opensW_str {t : TypeId} (ht : P.underlying t = some .string) : OpensW P t .str := fun enc w base spare held fuel cs y hy => by
  obtain ⟨s, hc, he, hs⟩ := DataW.trod_string ht hy
  refine ⟨s, ⟨hc, hs⟩, ?_⟩
  subst he
  show s.size + 1 ≤ Rows.uptoBulk (.lit (.string s.data.toList))
  unfold Rows.uptoBulk
  rw [← sz_list]
  exact Nat.le_refl _
theorem sum_le {H : Type} {e : Ty} : ∀ (l : List e.den) (ds : List (DataW H)), l.length = ds.length → (∀ (i : Nat) x d, l[i]? = some x → ds[i]? = some d → wtT e x ≤ Rows.uptoBulk d) → (l.map (wtT e)).sum ≤ Rows.uptoBulkAll ds
  | [], _, _, _ => Nat.zero_le _
  | _ :: _, [], h, _ => by simp at h
  | x :: l, d :: ds, h, hp => by
    have h1 := sum_le l ds (by simpa using h) fun i y q hy hq => hp (i + 1) y q (by simpa using hy) (by simpa using hq)
    have h2 := hp 0 x d rfl rfl
    rw [List.map_cons, List.sum_cons]
    unfold Rows.uptoBulkAll
    omega
theorem opensW_list {t et : TypeId} {e : Ty} (ht : P.underlying t = some (.slice et)) (hs : P.cellsOf et = e.size) (he : OpensW P et e) : OpensW P t (.sl e) := fun {H} enc w base spare held fuel cs y hy => by
  have hrs : @GoRep.size e.den e.rep = e.size := e.rep_size
  rcases DataW.trod_slice ht hy with ⟨hc, _⟩ | ⟨a, len, cap, elems, rest, n, _, hc, hx, _, hl, hm, hel, hi, _⟩
  · exact ⟨[], ⟨_, hc, .inl ⟨rfl, rfl⟩⟩, Nat.zero_le _⟩
  · obtain ⟨l, hll, hp⟩ := list_choose (α := e.den) (p := fun i x => (∃ cs : List Value, (∀ (j : Nat) (c : Value), cs[j]? = some c → w.cell? (a.add (i * @GoRep.size e.den e.rep + j)) = some c) ∧ e.rep.rel w cs x) ∧ ∀ d, elems[i]? = some d → wtT e x ≤ Rows.uptoBulk d.1) len fun i hi' => by
      have h1 := hi i hi'
      have hlt : i < elems.length := by omega
      rw [List.getElem?_eq_getElem hlt] at h1
      obtain ⟨cs', h2, h3⟩ := Option.bind_eq_some_iff.1 h1
      obtain ⟨x, hx, hw⟩ := he enc w base spare held n cs' _ h3
      refine ⟨x, ⟨cs', fun j c hj => ?_, hx⟩, fun d hd => ?_⟩
      · obtain ⟨_, hcl, hat⟩ := World.cells?_some h2
        have hjl : j < P.cellsOf et := by rw [← hcl]; exact (List.getElem?_eq_some_iff.1 hj).1
        have := hat j hjl
        rw [Go.Deep.add_add, hs] at this
        rw [hrs, this, hj]
      · rw [List.getElem?_eq_getElem hlt] at hd
        obtain rfl := Option.some.inj hd
        exact hw
    subst hll
    refine ⟨l, ⟨_, hc, .inr ⟨a, cap, rfl, hl, hm, fun i x hx => (hp i x hx).1⟩⟩, ?_⟩
    subst hx
    show (l.map (wtT e)).sum ≤ Rows.uptoBulk (.slice (elems.map (·.1)) (rest.map (·.1)))
    have := sum_le l (elems.map (·.1)) (by rw [List.length_map]; omega) fun i x d hx hd => by
      rw [List.getElem?_map] at hd
      obtain ⟨d', h1, rfl⟩ := Option.map_eq_some_iff.1 hd
      exact (hp i x hx).2 d' h1
    unfold Rows.uptoBulk
    omega
theorem opensG_nil {off : Nat} : OpensG P [] off .unit := fun _ _ _ _ _ _ cs _ hl _ _ => ⟨(), by
  show cs.drop off = []
  exact List.drop_eq_nil_of_le (by rw [hl]; exact Nat.le_refl _), Nat.zero_le _⟩
theorem opensG_cons {a b : Ty} {f : Field} {fs : List Field} {off : Nat} (ho : f.offset = off) (hs : P.cellsOf f.type = a.size) (h1 : OpensW P f.type a) (h2 : OpensG P fs (off + a.size) b) : OpensG P (f :: fs) off (.pair a b) := fun enc w base spare held fuel cs ys hl hy h => by
  match ys, hy with
  | [], hy => simp at hy
  | y :: ys, hy =>
    have h0 := h 0 f rfl
    have h0 : _ = some y := h0
    obtain ⟨x, hx, hw⟩ := h1 enc w base spare held fuel _ y h0
    have hl' : cs.length = off + (a.size + b.size) := hl
    obtain ⟨r, hr, hwr⟩ := h2 enc w base spare held fuel cs ys (by omega) (by simpa using hy) fun i g hg => by
      have := h (i + 1) g (by simpa using hg)
      simpa using this
    rw [ho, hs] at hx
    refine ⟨(x, r), ⟨_, _, ?_, hx, hr⟩, ?_⟩
    · rw [← List.drop_drop, List.take_append_drop]
    · show wtT a x + wtT b r ≤ _
      rw [List.map_cons]
      unfold Rows.uptoBulkAll
      omega
theorem opensW_struct {t : TypeId} {e : Ty} {fs : Array Field} (ht : P.underlying t = some (.struct fs)) (hs : P.cellsOf t = e.size) (h : OpensG P fs.toList 0 e) : OpensW P t e := fun enc w base spare held fuel cs y hy => by
  obtain ⟨xs, n, _, hx, hlen, hxl, hf⟩ := DataW.trod_struct ht hy
  obtain ⟨x, hr, hw⟩ := h enc w base spare held n cs xs (by rw [hlen, hs]; omega) (by rw [hxl]; simp) fun i f hi => hf i f (by simpa using hi)
  rw [List.drop_zero] at hr
  refine ⟨x, hr, ?_⟩
  subst hx
  show wtT e x ≤ Rows.uptoBulk (.agg (xs.map (·.1)))
  unfold Rows.uptoBulk
  omega
theorem fit_okW : ∀ (e : Ty), (∀ t, fit P e (.inl t) = true → OpensW P t e) ∧ ∀ fs off, fit P e (.inr (fs, off)) = true → OpensG P fs off e
  | .int k => ⟨fun t h => opensW_zero ((fit_ok (.int k)).1 t h) fun _ => Nat.zero_le _, fun fs off h => by simp [fit] at h⟩
  | .u8 => ⟨fun t h => opensW_zero ((fit_ok .u8).1 t h) fun _ => Nat.le_refl _, fun fs off h => by simp [fit] at h⟩
  | .bool => ⟨fun t h => opensW_zero ((fit_ok .bool).1 t h) fun _ => Nat.zero_le _, fun fs off h => by simp [fit] at h⟩
  | .str => by
    refine ⟨fun t h => ?_, fun fs off h => by simp [fit] at h⟩
    unfold fit at h
    split at h
    · rename_i hk; exact opensW_str hk
    · cases h
  | .unit => by
    refine ⟨fun t h => by simp [fit] at h, fun fs off h => ?_⟩
    cases fs with
    | nil => exact opensG_nil
    | cons f r => simp [fit] at h
  | .sl e => by
    refine ⟨fun t h => ?_, fun fs off h => by simp [fit] at h⟩
    unfold fit at h
    split at h
    · rename_i et hk
      rw [Bool.and_eq_true] at h
      exact opensW_list hk (Nat.eq_of_beq_eq_true h.1) ((fit_okW e).1 et h.2)
    · cases h
  | .pair a b => by
    refine ⟨fun t h => ?_, fun fs off h => ?_⟩
    · unfold fit at h
      split at h
      · rename_i fs hk
        split at h
        · rename_i f r hf
          simp only [Bool.and_eq_true] at h
          obtain ⟨h1, h2, h3, h4, h5⟩ := h
          refine opensW_struct (e := .pair a b) hk (Nat.eq_of_beq_eq_true h1) ?_
          rw [hf]
          refine opensG_cons (Nat.eq_of_beq_eq_true h2) (Nat.eq_of_beq_eq_true h3) ((fit_okW a).1 _ h4) ?_
          rw [Nat.zero_add]
          exact (fit_okW b).2 _ _ h5
        · cases h
      · cases h
    · cases fs with
      | nil => simp [fit] at h
      | cons f r =>
        unfold fit at h
        simp only [Bool.and_eq_true] at h
        obtain ⟨h2, h3, h4, h5⟩ := h
        exact opensG_cons (Nat.eq_of_beq_eq_true h2) (Nat.eq_of_beq_eq_true h3) ((fit_okW a).1 _ h4) ((fit_okW b).2 _ _ h5)
/-- A slice that comes in, and what it takes. -/
theorem open_slW {t : TypeId} {e : Ty} (hf : fit P (.sl e) (.inl t) = true) {H : Type} {enc : TypeId × Value → H} {w : World} {base : Nat} {spare : Nat → Bool} {held : Bool} {v : Value} {d : DataW H} {ps : List MemPlace}
    (hv : v.cells = #[v]) (h : DataW.Trod enc P w base spare held t v d ps) : ∃ x : List e.den, IsD e w v x ∧ wtT (.sl e) x ≤ Rows.uptoBulk d := by
  obtain ⟨fuel, hf'⟩ := h
  obtain ⟨x, hx, hw⟩ := (fit_okW (.sl e)).1 t hf enc w base spare held fuel _ _ hf'
  refine ⟨x, ?_, hw⟩
  unfold IsD Is
  rw [if_neg (show ¬ @GoRep.agg (List e.den) (listRep e.den e.rep) = true from fun q => by cases q)]
  rw [hv] at hx; exact hx
theorem wt_names : ∀ l : List ByteArray, (l.map (wtT .str)).sum = wtN l
  | [] => rfl
  | s :: l => by
    have := wt_names l
    unfold wtN at *
    rw [List.map_cons, List.sum_cons, List.map_cons, List.sum_cons, this]; rfl
theorem wt_bytes : ∀ l : List UInt8, (l.map (wtT .u8)).sum = l.length
  | [] => rfl
  | _ :: l => by
    rw [List.map_cons, List.sum_cons, wt_bytes l, List.length_cons]
    show 1 + _ = _
    omega
theorem ansSz_of {m : Nat} : ∀ {a : List Ans}, (a.map (wtT tAnswer)).sum ≤ m → AnsSz m a
  | [], _ => ⟨fun x hx => by cases hx⟩
  | x :: a, h => by
    rw [List.map_cons, List.sum_cons] at h
    refine ⟨fun y hy => ?_⟩
    rcases List.mem_cons.1 hy with rfl | hy
    · have e : wtT tAnswer y = 0 + (0 + (0 + ((y.2.2.2.1.map (wtT .u8)).sum + ((y.2.2.2.2.1.map (wtT .str)).sum + (wtT tStat y.2.2.2.2.2.1 + 0))))) := rfl
      rw [e, wt_bytes, wt_names] at h
      omega
    · exact (ansSz_of (a := a) (by omega)).sz y hy
end Go.Proofs.YtklplgmjccldlaaDoor
