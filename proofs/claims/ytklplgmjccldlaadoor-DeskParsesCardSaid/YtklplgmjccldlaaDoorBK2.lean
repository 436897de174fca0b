/- Texts of mine, laid together: D21. -/
import Derived.Test.YtklplgmjccldlaaDoorBK1
import Derived.Test.YtklplgmjccldlaaDoorProg
import Derived.Test.YtklplgmjccldlaaDoorChecked
import Derived.Test.YtklplgmjccldlaaDoorBV2
namespace Go.Proofs
open Go Go.Lm Go.RowKit
def c_lawParses : Ct
  | [.v (.c (.k (.string s)))], [], Q => Q (.bool true) []
  | _, _, _ => False
noncomputable def XD2123 : Vx := { P := Tryd.prog, ct := [(16, c_sameE), (15, c_parseR), (32, c_eventR), (33, c_lineR), (48, c_wordsR), (49, c_numberR), (36, c_bldS), (34, c_bldW), (4, c_lawPlain), (3, c_lawQuotes), (9, c_shown), (14, c_parse), (31, c_event), (47, c_atoi), (35, c_line), (45, c_words), (51, c_sjoin), (46, c_split), (30, c_cut), (29, c_count), (37, c_itoa), (11, c_unquoteR), (23, c_digit), (10, c_unquote), (13, c_quoteR), (27, c_decode), (12, c_quote), (28, c_itselfR), (26, c_itself), (24, c_hasPre), (39, c_hasPre0), (22, c_indexByte), (25, c_runeLen)], ty := tyTab, hold := [51, 16] }
theorem XD2123_ok : CtOk Inv Tryd.prog XD2123.ct := CtOk.cons w_sameE (CtOk.cons w_parseR (CtOk.cons w_eventR (CtOk.cons w_lineR (CtOk.cons w_wordsR (CtOk.cons w_numberR (CtOk.cons w_bldS (CtOk.cons w_bldW (CtOk.cons w_lawPlain (CtOk.cons w_lawQuotes (CtOk.cons w_shown (CtOk.cons w_parse (CtOk.cons w_event (CtOk.cons w_atoi (CtOk.cons w_line (CtOk.cons w_words (CtOk.cons w_sjoin (CtOk.cons w_split (CtOk.cons w_cut (CtOk.cons w_count (CtOk.cons w_itoa (CtOk.cons w_unquoteR (CtOk.cons w_digit (CtOk.cons w_unquote (CtOk.cons w_quoteR (CtOk.cons w_decode (CtOk.cons w_quote (CtOk.cons w_itselfR (CtOk.cons w_itself (CtOk.cons w_hasPre (CtOk.cons w_hasPre0 (CtOk.cons w_indexByte (CtOk.cons w_runeLen (CtOk.nil _ _)))))))))))))))))))))))))))))))))
def vc_lawParses : (ByteArray) → (SV → List HO → Prop) → Prop :=
 fun s Q => ByteArray.size s ≤ (9223372036854775807 : Nat) → br (decide ((↑(ByteArray.size s) : Int) > (66000 : Int))) ((0 : Int) ≤ boundV none (0 : Int) ∧ boundV none (0 : Int) ≤ boundV (some (66000 : 
 Int)) (↑(ByteArray.size s) : Int) ∧ boundV (some (66000 : Int)) (↑(ByteArray.size s) : Int) ≤ (↑(ByteArray.size s) : Int) ∧ br ((parseN (ByteArray.extract s (0 : Nat) (Int.toNat (boundV (some (66000 : 
 Int)) (↑(ByteArray.size s) : Int))))).snd.snd == (0 : Int)) (inK IntKind.i64 (parseN (ByteArray.extract s (0 : Nat) (Int.toNat (boundV (some (66000 : Int)) (↑(ByteArray.size s) : Int))))).snd.fst → 
 inK IntKind.i64 (parseN (ByteArray.extract s (0 : Nat) (Int.toNat (boundV (some (66000 : Int)) (↑(ByteArray.size s) : Int))))).snd.snd → br ((parseN (ByteArray.extract s (0 : Nat) (Int.toNat (boundV 
 (some (66000 : Int)) (↑(ByteArray.size s) : Int))))).snd.snd == (0 : Int)) (inK IntKind.i64 (parseN (ByteArray.extract s (0 : Nat) (Int.toNat (boundV (some (66000 : Int)) (↑(ByteArray.size s) : 
 Int))))).snd.fst → inK IntKind.i64 (parseN (ByteArray.extract s (0 : Nat) (Int.toNat (boundV (some (66000 : Int)) (↑(ByteArray.size s) : Int))))).snd.snd → EvsEq (parseN (ByteArray.extract s (0 : Nat) 
 (Int.toNat (boundV (some (66000 : Int)) (↑(ByteArray.size s) : Int))))).fst (parseN (ByteArray.extract s (0 : Nat) (Int.toNat (boundV (some (66000 : Int)) (↑(ByteArray.size s) : Int))))).fst ∧ br 
 ((parseN (ByteArray.extract s (0 : Nat) (Int.toNat (boundV (some (66000 : Int)) (↑(ByteArray.size s) : Int))))).snd.fst == (parseN (ByteArray.extract s (0 : Nat) (Int.toNat (boundV (some (66000 : 
 Int)) (↑(ByteArray.size s) : Int))))).snd.fst) (Q (SV.v (S1.c (Cl.k (Value.bool ((parseN (ByteArray.extract s (0 : Nat) (Int.toNat (boundV (some (66000 : Int)) (↑(ByteArray.size s) : Int))))).snd.snd 
 == (parseN (ByteArray.extract s (0 : Nat) (Int.toNat (boundV (some (66000 : Int)) (↑(ByteArray.size s) : Int))))).snd.snd))))) []) (Q (SV.v (S1.c (Cl.k (Value.bool false)))) [])) (inK IntKind.i64 
 (parseN (ByteArray.extract s (0 : Nat) (Int.toNat (boundV (some (66000 : Int)) (↑(ByteArray.size s) : Int))))).snd.fst → inK IntKind.i64 (parseN (ByteArray.extract s (0 : Nat) (Int.toNat (boundV (some 
 (66000 : Int)) (↑(ByteArray.size s) : Int))))).snd.snd → EvsEq (parseN (ByteArray.extract s (0 : Nat) (Int.toNat (boundV (some (66000 : Int)) (↑(ByteArray.size s) : Int))))).fst [] ∧ br ((parseN 
 (ByteArray.extract s (0 : Nat) (Int.toNat (boundV (some (66000 : Int)) (↑(ByteArray.size s) : Int))))).snd.fst == (parseN (ByteArray.extract s (0 : Nat) (Int.toNat (boundV (some (66000 : Int)) 
 (↑(ByteArray.size s) : Int))))).snd.fst) (Q (SV.v (S1.c (Cl.k (Value.bool ((parseN (ByteArray.extract s (0 : Nat) (Int.toNat (boundV (some (66000 : Int)) (↑(ByteArray.size s) : Int))))).snd.snd == 
 (parseN (ByteArray.extract s (0 : Nat) (Int.toNat (boundV (some (66000 : Int)) (↑(ByteArray.size s) : Int))))).snd.snd))))) []) (Q (SV.v (S1.c (Cl.k (Value.bool false)))) []))) (inK IntKind.i64 
 (parseN (ByteArray.extract s (0 : Nat) (Int.toNat (boundV (some (66000 : Int)) (↑(ByteArray.size s) : Int))))).snd.fst → inK IntKind.i64 (parseN (ByteArray.extract s (0 : Nat) (Int.toNat (boundV (some 
 (66000 : Int)) (↑(ByteArray.size s) : Int))))).snd.snd → br ((parseN (ByteArray.extract s (0 : Nat) (Int.toNat (boundV (some (66000 : Int)) (↑(ByteArray.size s) : Int))))).snd.snd == (0 : Int)) (inK 
 IntKind.i64 (parseN (ByteArray.extract s (0 : Nat) (Int.toNat (boundV (some (66000 : Int)) (↑(ByteArray.size s) : Int))))).snd.fst → inK IntKind.i64 (parseN (ByteArray.extract s (0 : Nat) (Int.toNat 
 (boundV (some (66000 : Int)) (↑(ByteArray.size s) : Int))))).snd.snd → EvsEq [] (parseN (ByteArray.extract s (0 : Nat) (Int.toNat (boundV (some (66000 : Int)) (↑(ByteArray.size s) : Int))))).fst ∧ br 
 ((parseN (ByteArray.extract s (0 : Nat) (Int.toNat (boundV (some (66000 : Int)) (↑(ByteArray.size s) : Int))))).snd.fst == (parseN (ByteArray.extract s (0 : Nat) (Int.toNat (boundV (some (66000 : 
 Int)) (↑(ByteArray.size s) : Int))))).snd.fst) (Q (SV.v (S1.c (Cl.k (Value.bool ((parseN (ByteArray.extract s (0 : Nat) (Int.toNat (boundV (some (66000 : Int)) (↑(ByteArray.size s) : Int))))).snd.snd 
 == (parseN (ByteArray.extract s (0 : Nat) (Int.toNat (boundV (some (66000 : Int)) (↑(ByteArray.size s) : Int))))).snd.snd))))) []) (Q (SV.v (S1.c (Cl.k (Value.bool false)))) [])) (inK IntKind.i64 
 (parseN (ByteArray.extract s (0 : Nat) (Int.toNat (boundV (some (66000 : Int)) (↑(ByteArray.size s) : Int))))).snd.fst → inK IntKind.i64 (parseN (ByteArray.extract s (0 : Nat) (Int.toNat (boundV (some 
 (66000 : Int)) (↑(ByteArray.size s) : Int))))).snd.snd → EvsEq [] [] ∧ br ((parseN (ByteArray.extract s (0 : Nat) (Int.toNat (boundV (some (66000 : Int)) (↑(ByteArray.size s) : Int))))).snd.fst == 
 (parseN (ByteArray.extract s (0 : Nat) (Int.toNat (boundV (some (66000 : Int)) (↑(ByteArray.size s) : Int))))).snd.fst) (Q (SV.v (S1.c (Cl.k (Value.bool ((parseN (ByteArray.extract s (0 : Nat) 
 (Int.toNat (boundV (some (66000 : Int)) (↑(ByteArray.size s) : Int))))).snd.snd == (parseN (ByteArray.extract s (0 : Nat) (Int.toNat (boundV (some (66000 : Int)) (↑(ByteArray.size s) : 
 Int))))).snd.snd))))) []) (Q (SV.v (S1.c (Cl.k (Value.bool false)))) [])))) (br ((parseN s).snd.snd == (0 : Int)) (inK IntKind.i64 (parseN s).snd.fst → inK IntKind.i64 (parseN s).snd.snd → br ((parseN 
 s).snd.snd == (0 : Int)) (inK IntKind.i64 (parseN s).snd.fst → inK IntKind.i64 (parseN s).snd.snd → EvsEq (parseN s).fst (parseN s).fst ∧ br ((parseN s).snd.fst == (parseN s).snd.fst) (Q (SV.v (S1.c 
 (Cl.k (Value.bool ((parseN s).snd.snd == (parseN s).snd.snd))))) []) (Q (SV.v (S1.c (Cl.k (Value.bool false)))) [])) (inK IntKind.i64 (parseN s).snd.fst → inK IntKind.i64 (parseN s).snd.snd → EvsEq 
 (parseN s).fst [] ∧ br ((parseN s).snd.fst == (parseN s).snd.fst) (Q (SV.v (S1.c (Cl.k (Value.bool ((parseN s).snd.snd == (parseN s).snd.snd))))) []) (Q (SV.v (S1.c (Cl.k (Value.bool false)))) []))) 
 (inK IntKind.i64 (parseN s).snd.fst → inK IntKind.i64 (parseN s).snd.snd → br ((parseN s).snd.snd == (0 : Int)) (inK IntKind.i64 (parseN s).snd.fst → inK IntKind.i64 (parseN s).snd.snd → EvsEq [] 
 (parseN s).fst ∧ br ((parseN s).snd.fst == (parseN s).snd.fst) (Q (SV.v (S1.c (Cl.k (Value.bool ((parseN s).snd.snd == (parseN s).snd.snd))))) []) (Q (SV.v (S1.c (Cl.k (Value.bool false)))) [])) (inK 
 IntKind.i64 (parseN s).snd.fst → inK IntKind.i64 (parseN s).snd.snd → EvsEq [] [] ∧ br ((parseN s).snd.fst == (parseN s).snd.fst) (Q (SV.v (S1.c (Cl.k (Value.bool ((parseN s).snd.snd == (parseN 
 s).snd.snd))))) []) (Q (SV.v (S1.c (Cl.k (Value.bool false)))) []))))
set_option maxRecDepth 1000000 in
theorem vc_lawParses_eq (s : ByteArray) (Q : SV → List HO → Prop) : vFun XD2123 ⟨[], []⟩ Tryd.f5 [.str s] [] Q = vc_lawParses s Q := by kernel_rfl
set_option maxRecDepth 100000 in
theorem w_lawParses : ∀ args H Q, c_lawParses args H Q → Wp Inv Tryd.prog 5 args H Q := by
  intro args H Q h
  unfold c_lawParses at h
  split at h
  · rename_i s
    refine Wp.enter (X := XD2123) XD2123_ok ⟨[], []⟩ (fn := Tryd.f5) (by kernel_rfl) ?_
    have hv := vc_lawParses_eq s Q
    rw [show vFun _ _ _ _ _ _ = _ from hv]
    unfold vc_lawParses
    clear hv
    intro hs
    refine @br_of _ _ _ ?_ ?_
    · intro c1
      have c1 : (s.size : Int) > 66000 := by simpa using c1
      refine ⟨by decide, by show (0 : Int) ≤ 66000; decide, by show (66000 : Int) ≤ s.size; omega, ?_⟩
      generalize hp : parseN (s.extract 0 (Int.toNat (boundV (some 66000) (s.size : Int)))) = p
      refine @br_of _ _ _ ?_ ?_
      · intro e1
        intro _ _
        refine @br_of _ _ _ ?_ ?_
        · intro e2
          intro _ _
          refine ⟨⟨rfl⟩, ?_⟩
          rw [beq_self_eq_true, beq_self_eq_true]
          exact h
        · intro e2
          rw [e1] at e2; cases e2
      · intro e1
        intro _ _
        refine @br_of _ _ _ ?_ ?_
        · intro e2
          rw [e1] at e2; cases e2
        · intro e2
          intro _ _
          refine ⟨⟨rfl⟩, ?_⟩
          rw [beq_self_eq_true, beq_self_eq_true]
          exact h
    · intro c1
      skip
      generalize hp : parseN s = p
      refine @br_of _ _ _ ?_ ?_
      · intro e1
        intro _ _
        refine @br_of _ _ _ ?_ ?_
        · intro e2
          intro _ _
          refine ⟨⟨rfl⟩, ?_⟩
          rw [beq_self_eq_true, beq_self_eq_true]
          exact h
        · intro e2
          rw [e1] at e2; cases e2
      · intro e1
        intro _ _
        refine @br_of _ _ _ ?_ ?_
        · intro e2
          rw [e1] at e2; cases e2
        · intro e2
          intro _ _
          refine ⟨⟨rfl⟩, ?_⟩
          rw [beq_self_eq_true, beq_self_eq_true]
          exact h
  · exact h.elim
end Go.Proofs
