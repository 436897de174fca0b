/- Texts of mine, laid together: K24 K25. -/
import Derived.Test.YtnmaehdklmgfmaaBK1
import Derived.Test.YtnmaehdklmgfmaaProg
import Derived.Test.YtnmaehdklmgfmaaChecked
import Derived.Test.YtnmaehdklmgfmaaBV2
import Derived.Test.YtnmaehdklmgfmaaBW1
namespace Go.Proofs
open Go Go.Lm Go.RowKit
abbrev rootN : NoD := ([], 1, 1, (0, 0, 0, ()), [], ⟨#[]⟩, [], false, ())
abbrev whiteN : NoD := ([⟨#[97]⟩], 2, 4, (0, 0, 0, ()), [], ⟨#[]⟩, [], false, ())
abbrev inN : NoD := ([⟨#[97]⟩, ⟨#[98]⟩], 3, 2, (0, 0, 0, ()), [], ⟨#[]⟩, [], false, ())
theorem shown_5 : (checkU [rootN, whiteN, inN] == 5) = true := by decide +kernel
def c_shown : Ct
  | [], [], Q => Q (.bool true) []
  | _, _, _ => False
noncomputable def XK2439 : Vx := { P := Try.prog, ct := [(9, c_new), (42, c_kind), (25, c_checkU), (44, c_check), (75, c_anyT), (73, c_named), (74, c_join), (98, c_sjoin), (68, c_valid), (26, c_checkR), (48, c_placed), (80, c_namedR), (50, c_alikeR), (43, c_bplain), (47, c_white), (78, c_linked), (103, c_alike), (117, c_eqXs), (115, c_alikeX), (116, c_bequal), (46, c_opaque), (81, c_isDir), (105, c_find), (118, c_sameR), (104, c_validR), (24, c_few), (49, c_may18), (82, c_mayR), (92, c_xattrsR), (45, c_marks), (75, c_anyM), (99, c_idxM), (79, c_badM), (99, c_idxT), (76, c_badT), (77, c_may), (102, c_xattrs), (100, c_plain), (97, c_indexByte), (106, c_nul), (101, c_within)], ty := tyTab, hold := [44, 25, 26] }
theorem XK2439_ok : CtOk Try.prog XK2439.ct := CtOk.cons w_new (CtOk.cons w_kind (CtOk.cons w_checkU (CtOk.cons w_check (CtOk.cons w_anyT (CtOk.cons w_named (CtOk.cons w_join (CtOk.cons w_sjoin (CtOk.cons w_valid (CtOk.cons w_checkR (CtOk.cons w_placed (CtOk.cons w_namedR (CtOk.cons w_alikeR (CtOk.cons w_bplain (CtOk.cons w_white (CtOk.cons w_linked (CtOk.cons w_alike (CtOk.cons w_eqXs (CtOk.cons w_alikeX (CtOk.cons w_bequal (CtOk.cons w_opaque (CtOk.cons w_isDir (CtOk.cons w_find (CtOk.cons w_sameR (CtOk.cons w_validR (CtOk.cons w_few (CtOk.cons w_may18 (CtOk.cons w_mayR (CtOk.cons w_xattrsR (CtOk.cons w_marks (CtOk.cons w_anyM (CtOk.cons w_idxM (CtOk.cons w_badM (CtOk.cons w_idxT (CtOk.cons w_badT (CtOk.cons w_may (CtOk.cons w_xattrs (CtOk.cons w_plain (CtOk.cons w_indexByte (CtOk.cons w_nul (CtOk.cons w_within (CtOk.nil _)))))))))))))))))))))))))))))))))))))))))
def vc_shown : (SV → List HO → Prop) → Prop :=
  fun Q =>
    inK IntKind.i64 (0 : Int) →
      inK IntKind.i64 (2 : Int) →
        (↑(2 : Nat) : Int) ≤ (1000 : Int) ∧
          (inK IntKind.i64
              (checkU
                [([], (1 : Int), (1 : Int), ((0 : Int), (0 : Int), (0 : Int), ()), [], (ByteArray.mk ( #[] )), [], false, ()),
                  ([(ByteArray.mk ( #[(97 : UInt8)] ))], (2 : Int), (4 : Int), ((0 : Int), (0 : Int), (0 : Int), ()), [],
                    (ByteArray.mk ( #[] )), [], false, ())]) →
            (↑(3 : Nat) : Int) ≤ (1000 : Int) ∧
              (inK IntKind.i64
                  (checkU
                    [([], (1 : Int), (1 : Int), ((0 : Int), (0 : Int), (0 : Int), ()), [], (ByteArray.mk ( #[] )), [], false,
                        ()),
                      ([(ByteArray.mk ( #[(97 : UInt8)] ))], (2 : Int), (4 : Int), ((0 : Int), (0 : Int), (0 : Int), ()), [],
                        (ByteArray.mk ( #[] )), [], false, ()),
                      ([(ByteArray.mk ( #[(97 : UInt8)] )), (ByteArray.mk ( #[(98 : UInt8)] ))], (3 : Int), (2 : Int),
                        ((0 : Int), (0 : Int), (0 : Int), ()), [], (ByteArray.mk ( #[] )), [], false, ())]) →
                Q
                  (SV.v
                    (S1.c
                      (Cl.k
                        (Value.bool
                          (checkU
                              [([], (1 : Int), (1 : Int), ((0 : Int), (0 : Int), (0 : Int), ()), [], (ByteArray.mk ( #[] )), [],
                                  false, ()),
                                ([(ByteArray.mk ( #[(97 : UInt8)] ))], (2 : Int), (4 : Int),
                                  ((0 : Int), (0 : Int), (0 : Int), ()), [], (ByteArray.mk ( #[] )), [], false, ()),
                                ([(ByteArray.mk ( #[(97 : UInt8)] )), (ByteArray.mk ( #[(98 : UInt8)] ))], (3 : Int), (2 : Int),
                                  ((0 : Int), (0 : Int), (0 : Int), ()), [], (ByteArray.mk ( #[] )), [], false, ())] ==
                            (5 : Int))))))
                  []))
theorem vc_shown_eq  (Q : SV → List HO → Prop) : vFun XK2439 ⟨[], []⟩ Try.f23 [] [] Q = vc_shown  Q := by kernel_rfl
theorem w_shown : ∀ args H Q, c_shown args H Q → Wp Try.prog 23 args H Q := by
  intro args H Q h
  unfold c_shown at h
  split at h
  · skip
    refine Wp.enter (X := XK2439) XK2439_ok ⟨[], []⟩ (fn := Try.f23) (by kernel_rfl) ?_
    have hv := vc_shown_eq  Q
    rw [show vFun _ _ _ _ _ _ = _ from hv]
    unfold vc_shown
    clear hv
    intro _ _
    refine ⟨by decide, fun _ => ⟨by decide, fun _ => ?_⟩⟩
    exact Eq.mp (congrArg (fun z => Q (SV.bool z) []) shown_5.symm) h
  · exact h.elim
abbrev fewN (l : List NoD) : List NoD := (l.take 40).map clipN
end Go.Proofs

namespace Go.Proofs
open Go Go.Lm Go.RowKit
def c_law : Ct
  | [.v (.c cl)], [], Q => (match (Ty.sl tNode).of [cl] with
    | some (l, []) => Q (.bool true) []
    | _ => False)
  | _, _, _ => False
noncomputable def XK2540 : Vx := { P := Try.prog, ct := [(23, c_shown), (9, c_new), (42, c_kind), (25, c_checkU), (44, c_check), (75, c_anyT), (73, c_named), (74, c_join), (98, c_sjoin), (68, c_valid), (26, c_checkR), (48, c_placed), (80, c_namedR), (50, c_alikeR), (43, c_bplain), (47, c_white), (78, c_linked), (103, c_alike), (117, c_eqXs), (115, c_alikeX), (116, c_bequal), (46, c_opaque), (81, c_isDir), (105, c_find), (118, c_sameR), (104, c_validR), (24, c_few), (49, c_may18), (82, c_mayR), (92, c_xattrsR), (45, c_marks), (75, c_anyM), (99, c_idxM), (79, c_badM), (99, c_idxT), (76, c_badT), (77, c_may), (102, c_xattrs), (100, c_plain), (97, c_indexByte), (106, c_nul), (101, c_within)], ty := tyTab, hold := [44, 25, 26] }
theorem XK2540_ok : CtOk Try.prog XK2540.ct := CtOk.cons w_shown (CtOk.cons w_new (CtOk.cons w_kind (CtOk.cons w_checkU (CtOk.cons w_check (CtOk.cons w_anyT (CtOk.cons w_named (CtOk.cons w_join (CtOk.cons w_sjoin (CtOk.cons w_valid (CtOk.cons w_checkR (CtOk.cons w_placed (CtOk.cons w_namedR (CtOk.cons w_alikeR (CtOk.cons w_bplain (CtOk.cons w_white (CtOk.cons w_linked (CtOk.cons w_alike (CtOk.cons w_eqXs (CtOk.cons w_alikeX (CtOk.cons w_bequal (CtOk.cons w_opaque (CtOk.cons w_isDir (CtOk.cons w_find (CtOk.cons w_sameR (CtOk.cons w_validR (CtOk.cons w_few (CtOk.cons w_may18 (CtOk.cons w_mayR (CtOk.cons w_xattrsR (CtOk.cons w_marks (CtOk.cons w_anyM (CtOk.cons w_idxM (CtOk.cons w_badM (CtOk.cons w_idxT (CtOk.cons w_badT (CtOk.cons w_may (CtOk.cons w_xattrs (CtOk.cons w_plain (CtOk.cons w_indexByte (CtOk.cons w_nul (CtOk.cons w_within (CtOk.nil _))))))))))))))))))))))))))))))))))))))))))
def vc_law : (List (tNode).den) → (SV → List HO → Prop) → Prop :=
  fun l Q =>
    List.length l ≤ (9223372036854775807 : Nat) →
      (↑(List.length (List.map clipN (List.take (40 : Nat) l))) : Int) ≤ (1000 : Int) ∧
        (inK IntKind.i64 (checkU (List.map clipN (List.take (40 : Nat) l))) →
          inK IntKind.i64 (checkR (List.map clipN (List.take (40 : Nat) l))) →
            Q
              (SV.v
                (S1.c
                  (Cl.k
                    (Value.bool
                      (checkU (List.map clipN (List.take (40 : Nat) l)) ==
                        checkR (List.map clipN (List.take (40 : Nat) l)))))))
              [])
theorem vc_law_eq (l : List (tNode).den) (Q : SV → List HO → Prop) : vFun XK2540 ⟨[], []⟩ Try.f6 [.c (.d tNode l)] [] Q = vc_law l Q := by kernel_rfl
theorem w_law : ∀ args H Q, c_law args H Q → Wp Try.prog 6 args H Q := by
  intro args H Q h
  unfold c_law at h
  split at h
  · rename_i cl
    split at h
    · rename_i l hl
      refine Wp.said (args' := [.c (.d tNode l)]) (fun E g => RelVs.cons1 (of_list hl) (fun _ h => h)) ?_
      clear hl
      refine Wp.enter (X := XK2540) XK2540_ok ⟨[], []⟩ (fn := Try.f6) (by kernel_rfl) ?_
      have hv := vc_law_eq l Q
      rw [show vFun _ _ _ _ _ _ = _ from hv]
      unfold vc_law
      clear hv
      intro _
      refine ⟨by rw [List.length_map, List.length_take]; omega, fun _ _ => ?_⟩
      rw [check_eq, beq_self_eq_true]
      exact h
    · exact h.elim
  · exact h.elim
theorem law_any (l : List NoD) (v : Value) (W : World) (h : IsD tNode W v l) : Ret Try.prog 6 #[v] W fun v w' => v = .bool true ∧ Le W w' :=
  Wp.run (w_law [.v (.c (.d tNode l))] [] _ (by
    have e : (Ty.sl tNode).of [.d tNode l] = some (l, []) := by kernel_rfl
    unfold c_law
    simp only [e])) ⟨v, [], rfl, h, rfl⟩
end Go.Proofs
