/- Texts of mine, laid together: K1 K2 K3 K4 K5 K6 K7 K8 K9 K10 K11 K12 K13 K14 K15 K16 K17 K18 K19 K20 K21 K22 KL K23. -/
import Derived.Test.YtnmaehdklmgfmaaProg
import Derived.Test.YtnmaehdklmgfmaaChecked
import Derived.Test.YtnmaehdklmgfmaaBV2
import Derived.Test.YtnmaehdklmgfmaaShelf
import Derived.Test.YtnmaehdklmgfmaaBW1
import Derived.Test.YtnmaehdklmgfmaaLmKN
import Derived.Test.YtnmaehdklmgfmaaKV
import Derived.Test.YtnmaehdklmgfmaaKW
namespace Go.Proofs
open Go Go.Lm Go.RowKit
abbrev tXattr : Ty := .pair .str (.pair (.sl .u8) .unit)
abbrev tAttr : Ty := .pair (.int .i64) (.pair (.int .i64) (.pair (.int .i64) .unit))
abbrev tNode : Ty := .pair (.sl .str) (.pair (.int .i64) (.pair (.int .i64) (.pair tAttr (.pair (.sl .u8) (.pair .str (.pair (.sl tXattr) (.pair .bool .unit)))))))
def tyTab : List (Nat × Ty) := [(28, tNode), (47, tXattr), (9, .str), (5, .u8)]
def c_within : Ct
  | [.v (.c (.k (.int .i64 x))), .v (.c (.k (.int .i64 a))), .v (.c (.k (.int .i64 b)))], [], Q => Q (.bool (withinI x a b)) []
  | _, _, _ => False
noncomputable def XK11 : Vx := { P := Try.prog, ct := [], ty := tyTab, hold := [] }
theorem XK11_ok : CtOk Try.prog XK11.ct := CtOk.nil _
def vc_within : (Int) → (Int) → (Int) → (SV → List HO → Prop) → Prop :=
  fun x a b Q =>
    inK IntKind.i64 x →
      inK IntKind.i64 a →
        inK IntKind.i64 b →
          br (decide (a ≤ x)) (Q (SV.v (S1.c (Cl.k (Value.bool (decide (x ≤ b)))))) [])
            (Q (SV.v (S1.c (Cl.k (Value.bool false)))) [])
theorem vc_within_eq (x : Int) (a : Int) (b : Int) (Q : SV → List HO → Prop) : vFun XK11 ⟨[], []⟩ Try.f101 [.int x, .int a, .int b] [] Q = vc_within x a b Q := by kernel_rfl
theorem w_within : ∀ args H Q, c_within args H Q → Wp Try.prog 101 args H Q := by
  intro args H Q h
  unfold c_within at h
  split at h
  · rename_i x a b
    refine Wp.enter (X := XK11) XK11_ok ⟨[], []⟩ (fn := Try.f101) (by kernel_rfl) ?_
    have hv := vc_within_eq x a b Q
    rw [show vFun _ _ _ _ _ _ = _ from hv]
    unfold vc_within
    intro _ _ _
    unfold withinI at h
    refine br_of (fun hc => ?_) (fun hc => ?_) <;> rw [hc] at h <;> exact h
  · exact h.elim
def c_nul : Ct
  | [.v (.c (.k (.string s)))], [], Q => Q (.bool (nulB s 0)) []
  | _, _, _ => False
noncomputable def XK12 : Vx := { P := Try.prog, ct := [(101, c_within)], ty := tyTab, hold := [] }
theorem XK12_ok : CtOk Try.prog XK12.ct := CtOk.cons w_within (CtOk.nil _)
def vc_nul : (ByteArray) → (SV → List HO → Prop) → Prop :=
  fun s Q =>
    ByteArray.size s ≤ (9223372036854775807 : Nat) →
      LoopP
        (fun i again =>
          br (decide (i.fst.fst < (↑(ByteArray.size s) : Int)))
            ((0 : Int) ≤ i.fst.fst ∧
              i.fst.fst < (↑(ByteArray.size s) : Int) ∧
                br ((↑(UInt8.toNat (byteAt s i.fst.fst)) : Int) == (0 : Int))
                  (Q (SV.v (S1.c (Cl.k (Value.bool true)))) [])
                  (inK IntKind.i64 (i.fst.fst + (1 : Int)) ∧ again ((i.fst.fst + (1 : Int), ()), ())))
            (Q (SV.v (S1.c (Cl.k (Value.bool false)))) []))
        (((0 : Int), ()), ())
theorem vc_nul_eq (s : ByteArray) (Q : SV → List HO → Prop) : vFun XK12 ⟨[(3, ⟨[(3, .int .i64)], []⟩)], []⟩ Try.f106 [.str s] [] Q = vc_nul s Q := by kernel_rfl
theorem w_nul : ∀ args H Q, c_nul args H Q → Wp Try.prog 106 args H Q := by
  intro args H Q h
  unfold c_nul at h
  split at h
  · rename_i s
    refine Wp.enter (X := XK12) XK12_ok ⟨[(3, ⟨[(3, .int .i64)], []⟩)], []⟩ (fn := Try.f106) (by kernel_rfl) ?_
    have hv := vc_nul_eq s Q
    rw [show vFun _ _ _ _ _ _ = _ from hv]
    unfold vc_nul
    intro hs
    refine LoopP.intro (fun i => 0 ≤ i.1.1 ∧ i.1.1 ≤ s.size ∧ nulB s i.1.1.toNat = nulB s 0) (fun i => s.size - i.1.1.toNat) ⟨by simp, by simp, rfl⟩ ?_
    rintro ⟨⟨i, _⟩, _⟩ ⟨h0, h1, h2⟩
    simp only at h0 h1 h2 ⊢
    refine br_of (fun hc => ?_) (fun hc => ?_)
    · have hc : i < s.size := by simpa using hc
      have hst := nulB_step h0 hc
      refine ⟨h0, hc, br_of (fun hb => ?_) (fun hb => ?_)⟩
      · rw [hb, Bool.true_or] at hst
        rw [← h2, hst] at h
        exact h
      · rw [hb, Bool.false_or] at hst
        refine ⟨by unfold inK; omega, ⟨by omega, by omega, by rw [← hst, h2]⟩, by omega⟩
    · have hc : ¬ i < s.size := by simpa using hc
      rw [← h2, nulB_end hc h0] at h
      exact h
  · exact h.elim
def c_indexByte : Ct
  | [.v (.c (.k (.string s))), .v (.c (.k (.int .u8 c)))], [], Q => Q (.int (Lib.indexByte s.data.toList c.toNat.toUInt8)) []
  | _, _, _ => False
theorem w_indexByte : ∀ args H Q, c_indexByte args H Q → Wp Try.prog 97 args H Q := by
  intro args H Q h
  unfold c_indexByte at h
  split at h
  · rename_i s c
    refine Wp.of_pure (fun E g w vs m hv => ?_) h
    obtain ⟨u, v, rfl, ⟨rfl, hs⟩, ⟨rfl, _⟩⟩ := relVs_two hv
    refine (Ret.of (Try.strings_IndexByte s c w)).mono fun x w' ⟨h1, h2⟩ => ⟨?_, by rw [h2]; exact Le.refl w⟩
    rw [h1]
    refine relV_mk ?_
    have := indexByte_in s.data.toList c.toNat.toUInt8
    have hs' : s.data.toList.length ≤ 9223372036854775807 := by rw [← sz_list]; exact hs
    unfold inK
    omega
  · exact h.elim
def c_plain : Ct
  | [.v (.c (.k (.string s))), .v (.c (.k (.int .i64 m)))], [], Q => Q (.bool (plainS s m)) []
  | _, _, _ => False
noncomputable def XK13 : Vx := { P := Try.prog, ct := [(97, c_indexByte), (106, c_nul), (101, c_within)], ty := tyTab, hold := [] }
theorem XK13_ok : CtOk Try.prog XK13.ct := CtOk.cons w_indexByte (CtOk.cons w_nul (CtOk.cons w_within (CtOk.nil _)))
def vc_plain : (ByteArray) → (Int) → (SV → List HO → Prop) → Prop :=
  fun s m Q =>
    ByteArray.size s ≤ (9223372036854775807 : Nat) →
      inK IntKind.i64 m →
        br (withinI (↑(ByteArray.size s) : Int) (1 : Int) m)
          (inK IntKind.i64 (Lib.indexByte s.data.toList (Nat.toUInt8 (0 : Nat))) →
            Q (SV.v (S1.c (Cl.k (Value.bool (decide (Lib.indexByte s.data.toList (Nat.toUInt8 (0 : Nat)) < (0 : Int)))))))
              [])
          (Q (SV.v (S1.c (Cl.k (Value.bool false)))) [])
theorem vc_plain_eq (s : ByteArray) (m : Int) (Q : SV → List HO → Prop) : vFun XK13 ⟨[], []⟩ Try.f100 [.str s, .int m] [] Q = vc_plain s m Q := by kernel_rfl
theorem w_plain : ∀ args H Q, c_plain args H Q → Wp Try.prog 100 args H Q := by
  intro args H Q h
  unfold c_plain at h
  split at h
  · rename_i s m
    refine Wp.enter (X := XK13) XK13_ok ⟨[], []⟩ (fn := Try.f100) (by kernel_rfl) ?_
    have hv := vc_plain_eq s m Q
    rw [show vFun _ _ _ _ _ _ = _ from hv]
    unfold vc_plain
    intro _ _
    unfold plainS at h
    refine br_of (fun hc => ?_) (fun hc => ?_) <;> rw [hc] at h
    · intro _
      exact h
    · exact h
  · exact h.elim
end Go.Proofs

namespace Go.Proofs
open Go Go.Lm Go.RowKit
def c_xattrs : Ct
  | [.v (.c cl)], [], Q => (match (Ty.sl tXattr).of [cl] with
    | some (l, []) => Q (.bool (xattrsB l)) []
    | _ => False)
  | _, _, _ => False
noncomputable def XK24 : Vx := { P := Try.prog, ct := [(100, c_plain), (97, c_indexByte), (106, c_nul), (101, c_within)], ty := tyTab, hold := [] }
theorem XK24_ok : CtOk Try.prog XK24.ct := CtOk.cons w_plain (CtOk.cons w_indexByte (CtOk.cons w_nul (CtOk.cons w_within (CtOk.nil _))))
def vc_xattrs : (List (tXattr).den) → (SV → List HO → Prop) → Prop :=
  fun l Q =>
    List.length l ≤ (9223372036854775807 : Nat) →
      List.length l ≤ (9223372036854775807 : Nat) →
        LoopP
          (fun i again =>
            br (decide (i.fst.fst < (↑(List.length l) : Int)))
              ((0 : Int) ≤ i.fst.fst ∧
                i.fst.fst < (↑(List.length l) : Int) ∧
                  (Ty.ok tXattr (ixD tXattr l i.fst.fst) →
                    br (!plainS (ixD tXattr l i.fst.fst).fst (40 : Int)) (Q (SV.v (S1.c (Cl.k (Value.bool false)))) [])
                      (br
                        (sLt (ixD tXattr l i.fst.fst).fst i.fst.snd.fst || sEq (ixD tXattr l i.fst.fst).fst i.fst.snd.fst)
                        (Q (SV.v (S1.c (Cl.k (Value.bool false)))) [])
                        (List.length (ixD tXattr l i.fst.fst).snd.fst ≤ (9223372036854775807 : Nat) →
                          br (decide ((↑(List.length (ixD tXattr l i.fst.fst).snd.fst) : Int) > (200 : Int)))
                            (Q (SV.v (S1.c (Cl.k (Value.bool false)))) [])
                            (inK IntKind.i64 (i.fst.fst + (1 : Int)) ∧
                              again ((i.fst.fst + (1 : Int), (ixD tXattr l i.fst.fst).fst, ()), ()))))))
              (List.length l ≤ (9223372036854775807 : Nat) →
                Q (SV.v (S1.c (Cl.k (Value.bool (decide ((↑(List.length l) : Int) ≤ (8 : Int))))))) []))
          (((0 : Int), (ByteArray.mk ( #[] )), ()), ())
theorem vc_xattrs_eq (l : List (tXattr).den) (Q : SV → List HO → Prop) : vFun XK24 ⟨[(4, ⟨[(8, .int .i64), (3, .str)], []⟩)], []⟩ Try.f102 [.c (.d tXattr l)] [] Q = vc_xattrs l Q := by kernel_rfl
theorem w_xattrs : ∀ args H Q, c_xattrs args H Q → Wp Try.prog 102 args H Q := by
  intro args H Q h
  unfold c_xattrs at h
  split at h
  · rename_i cl
    split at h
    · rename_i l hl
      refine Wp.said (args' := [.c (.d tXattr l)]) (fun E g => RelVs.cons1 (of_list hl) (fun _ h => h)) ?_
      clear hl
      refine Wp.enter (X := XK24) XK24_ok ⟨[(4, ⟨[(8, .int .i64), (3, .str)], []⟩)], []⟩ (fn := Try.f102) (by kernel_rfl) ?_
      have hv := vc_xattrs_eq l Q
      rw [show vFun _ _ _ _ _ _ = _ from hv]
      unfold vc_xattrs
      intro hl0 _
      refine LoopP.intro (fun i => 0 ≤ i.1.1 ∧ i.1.1 ≤ l.length ∧ xattrsGo l ⟨#[]⟩ = xattrsGo (l.drop i.1.1.toNat) i.1.2.1) (fun i => l.length - i.1.1.toNat) ⟨by simp, by simp, by simp⟩ ?_
      rintro ⟨⟨i, last, _⟩, _⟩ ⟨h0, h1, h2⟩
      simp only at h0 h1 h2 ⊢
      refine br_of (fun hc => ?_) (fun hc => ?_)
      · have hc : i < l.length := by simpa using hc
        refine ⟨h0, hc, fun _ => ?_⟩
        rw [ixD_drop (e := tXattr) h0 hc] at h2
        have bad : badX (ixD tXattr l i) last = true → Q (.bool false) [] := fun hb => by
          simp only [xattrsGo, hb, if_true] at h2
          unfold xattrsB at h
          rw [h2, Bool.false_and] at h
          exact h
        unfold badX leB at bad
        refine br_of (fun h3 => bad (by rw [h3]; rfl)) (fun h3 => br_of (fun h4 => bad (by rw [h4]; simp)) (fun h4 => ?_))
        intro _
        refine br_of (fun h5 => bad (by rw [h5]; simp)) (fun h5 => ?_)
        have hn : badX (ixD tXattr l i) last = false := by unfold badX leB; rw [h3, h4, h5]; rfl
        simp only [xattrsGo, hn, Bool.false_eq_true, if_false] at h2
        exact ⟨by unfold inK; omega, ⟨by omega, by omega, h2⟩, by omega⟩
      · have hc : ¬ i < l.length := by simpa using hc
        rw [drop_all hc] at h2
        intro _
        unfold xattrsB at h
        rw [h2] at h
        exact h
    · exact h.elim
  · exact h.elim
end Go.Proofs

namespace Go.Proofs
open Go Go.Lm Go.RowKit
def c_may : Ct
  | [.v (.agg cx)], [], Q => (match (tNode).of cx with
    | some (x, []) => Q (.bool (mayT x)) []
    | _ => False)
  | _, _, _ => False
noncomputable def XK35 : Vx := { P := Try.prog, ct := [(102, c_xattrs), (100, c_plain), (97, c_indexByte), (106, c_nul), (101, c_within)], ty := tyTab, hold := [] }
theorem XK35_ok : CtOk Try.prog XK35.ct := CtOk.cons w_xattrs (CtOk.cons w_plain (CtOk.cons w_indexByte (CtOk.cons w_nul (CtOk.cons w_within (CtOk.nil _)))))
def vc_may : ((tNode).den) → (SV → List HO → Prop) → Prop :=
  fun x Q =>
    List.length x.fst ≤ (9223372036854775807 : Nat) →
      inK IntKind.i64 x.snd.fst →
        inK IntKind.i64 x.snd.snd.fst →
          inK IntKind.i64 x.snd.snd.snd.fst.fst →
            inK IntKind.i64 x.snd.snd.snd.fst.snd.fst →
              inK IntKind.i64 x.snd.snd.snd.fst.snd.snd.fst →
                List.length x.snd.snd.snd.snd.fst ≤ (9223372036854775807 : Nat) →
                  ByteArray.size x.snd.snd.snd.snd.snd.fst ≤ (9223372036854775807 : Nat) →
                    List.length x.snd.snd.snd.snd.snd.snd.fst ≤ (9223372036854775807 : Nat) →
                      List.length x.snd.snd.snd.snd.fst ≤ (9223372036854775807 : Nat) →
                        br (x.snd.snd.fst == (1 : Int))
                          (br ((↑(List.length x.snd.snd.snd.snd.fst) : Int) == (0 : Int))
                            (br (sEq x.snd.snd.snd.snd.snd.fst (ByteArray.mk ( #[] )))
                              (br (!x.snd.snd.snd.snd.snd.snd.snd.fst)
                                (br (withinI x.snd.snd.snd.fst.fst (0 : Int) (511 : Int))
                                  (br (withinI x.snd.snd.snd.fst.snd.fst (0 : Int) (65535 : Int))
                                    (br (withinI x.snd.snd.snd.fst.snd.snd.fst (0 : Int) (65535 : Int))
                                      (Q (SV.v (S1.c (Cl.k (Value.bool (xattrsB x.snd.snd.snd.snd.snd.snd.fst))))) [])
                                      (Q (SV.v (S1.c (Cl.k (Value.bool false)))) []))
                                    (Q (SV.v (S1.c (Cl.k (Value.bool false)))) []))
                                  (Q (SV.v (S1.c (Cl.k (Value.bool false)))) []))
                                (Q (SV.v (S1.c (Cl.k (Value.bool false)))) []))
                              (Q (SV.v (S1.c (Cl.k (Value.bool false)))) []))
                            (Q (SV.v (S1.c (Cl.k (Value.bool false)))) []))
                          (br (x.snd.snd.fst == (2 : Int))
                            (List.length x.snd.snd.snd.snd.fst ≤ (9223372036854775807 : Nat) →
                              br (decide ((↑(List.length x.snd.snd.snd.snd.fst) : Int) ≤ (4096 : Int)))
                                (br (sEq x.snd.snd.snd.snd.snd.fst (ByteArray.mk ( #[] )))
                                  (br (!x.snd.snd.snd.snd.snd.snd.snd.fst)
                                    (br (withinI x.snd.snd.snd.fst.fst (0 : Int) (511 : Int))
                                      (br (withinI x.snd.snd.snd.fst.snd.fst (0 : Int) (65535 : Int))
                                        (br (withinI x.snd.snd.snd.fst.snd.snd.fst (0 : Int) (65535 : Int))
                                          (Q (SV.v (S1.c (Cl.k (Value.bool (xattrsB x.snd.snd.snd.snd.snd.snd.fst))))) [])
                                          (Q (SV.v (S1.c (Cl.k (Value.bool false)))) []))
                                        (Q (SV.v (S1.c (Cl.k (Value.bool false)))) []))
                                      (Q (SV.v (S1.c (Cl.k (Value.bool false)))) []))
                                    (Q (SV.v (S1.c (Cl.k (Value.bool false)))) []))
                                  (Q (SV.v (S1.c (Cl.k (Value.bool false)))) []))
                                (Q (SV.v (S1.c (Cl.k (Value.bool false)))) []))
                            (br (x.snd.snd.fst == (3 : Int))
                              (br ((↑(List.length x.snd.snd.snd.snd.fst) : Int) == (0 : Int))
                                (br (plainS x.snd.snd.snd.snd.snd.fst (200 : Int))
                                  (br (!x.snd.snd.snd.snd.snd.snd.snd.fst)
                                    (br (withinI x.snd.snd.snd.fst.fst (0 : Int) (511 : Int))
                                      (br (withinI x.snd.snd.snd.fst.snd.fst (0 : Int) (65535 : Int))
                                        (br (withinI x.snd.snd.snd.fst.snd.snd.fst (0 : Int) (65535 : Int))
                                          (Q (SV.v (S1.c (Cl.k (Value.bool (xattrsB x.snd.snd.snd.snd.snd.snd.fst))))) [])
                                          (Q (SV.v (S1.c (Cl.k (Value.bool false)))) []))
                                        (Q (SV.v (S1.c (Cl.k (Value.bool false)))) []))
                                      (Q (SV.v (S1.c (Cl.k (Value.bool false)))) []))
                                    (Q (SV.v (S1.c (Cl.k (Value.bool false)))) []))
                                  (Q (SV.v (S1.c (Cl.k (Value.bool false)))) []))
                                (Q (SV.v (S1.c (Cl.k (Value.bool false)))) []))
                              (Q (SV.v (S1.c (Cl.k (Value.bool false)))) [])))
theorem vc_may_eq (x : (tNode).den) (Q : SV → List HO → Prop) : vFun XK35 ⟨[], []⟩ Try.f77 [.v (.agg (Ty.cells tNode x))] [] Q = vc_may x Q := by kernel_rfl
theorem w_may : ∀ args H Q, c_may args H Q → Wp Try.prog 77 args H Q := by
  intro args H Q h
  unfold c_may at h
  split at h
  · rename_i cx
    split at h
    · rename_i x hx
      refine Wp.said (args' := [.v (.agg (Ty.cells tNode x))]) (fun E g => RelVs.cons1 (of_row hx) (fun _ h => h)) ?_
      clear hx
      refine Wp.enter (X := XK35) XK35_ok ⟨[], []⟩ (fn := Try.f77) (by kernel_rfl) ?_
      have hv := vc_may_eq x Q
      rw [show vFun _ _ _ _ _ _ = _ from hv]
      unfold vc_may
      intro _ _ _ _ _ _ _ _ _ _
      repeat' (first | (intro _; done) | refine br_of (fun _ => ?_) (fun _ => ?_) | intro _)
      all_goals refine Eq.mp (congrArg (fun z => Q (SV.bool z) []) ?_) h
      all_goals unfold mayT noB may3
      all_goals clear hv h
      all_goals simp_all
      all_goals (intros; omega)
    · exact h.elim
  · exact h.elim
end Go.Proofs

namespace Go.Proofs
open Go Go.Lm Go.RowKit
def c_badT : Ct
  | [.v (.agg cx)], [], Q => (match (tNode).of cx with
    | some (x, []) => Q (.bool (!mayT x)) []
    | _ => False)
  | _, _, _ => False
noncomputable def XK46 : Vx := { P := Try.prog, ct := [(77, c_may), (102, c_xattrs), (100, c_plain), (97, c_indexByte), (106, c_nul), (101, c_within)], ty := tyTab, hold := [] }
theorem XK46_ok : CtOk Try.prog XK46.ct := CtOk.cons w_may (CtOk.cons w_xattrs (CtOk.cons w_plain (CtOk.cons w_indexByte (CtOk.cons w_nul (CtOk.cons w_within (CtOk.nil _))))))
def vc_badT : ((tNode).den) → (SV → List HO → Prop) → Prop :=
  fun x Q =>
    List.length x.fst ≤ (9223372036854775807 : Nat) →
      inK IntKind.i64 x.snd.fst →
        inK IntKind.i64 x.snd.snd.fst →
          inK IntKind.i64 x.snd.snd.snd.fst.fst →
            inK IntKind.i64 x.snd.snd.snd.fst.snd.fst →
              inK IntKind.i64 x.snd.snd.snd.fst.snd.snd.fst →
                List.length x.snd.snd.snd.snd.fst ≤ (9223372036854775807 : Nat) →
                  ByteArray.size x.snd.snd.snd.snd.snd.fst ≤ (9223372036854775807 : Nat) →
                    List.length x.snd.snd.snd.snd.snd.snd.fst ≤ (9223372036854775807 : Nat) →
                      Q
                        (SV.v
                          (S1.c
                            (Cl.k
                              (Value.bool
                                !mayT
                                    (x.fst, x.snd.fst, x.snd.snd.fst,
                                      (x.snd.snd.snd.fst.fst, x.snd.snd.snd.fst.snd.fst, x.snd.snd.snd.fst.snd.snd.fst,
                                        ()),
                                      x.snd.snd.snd.snd.fst, x.snd.snd.snd.snd.snd.fst, x.snd.snd.snd.snd.snd.snd.fst,
                                      x.snd.snd.snd.snd.snd.snd.snd.fst, ())))))
                        []
theorem vc_badT_eq (x : (tNode).den) (Q : SV → List HO → Prop) : vFun XK46 ⟨[], []⟩ Try.f76 [.v (.agg (Ty.cells tNode x))] [] Q = vc_badT x Q := by kernel_rfl
theorem w_badT : ∀ args H Q, c_badT args H Q → Wp Try.prog 76 args H Q := by
  intro args H Q h
  unfold c_badT at h
  split at h
  · rename_i cx
    split at h
    · rename_i x hx
      refine Wp.said (args' := [.v (.agg (Ty.cells tNode x))]) (fun E g => RelVs.cons1 (of_row hx) (fun _ h => h)) ?_
      clear hx
      refine Wp.enter (X := XK46) XK46_ok ⟨[], []⟩ (fn := Try.f76) (by kernel_rfl) ?_
      have hv := vc_badT_eq x Q
      rw [show vFun _ _ _ _ _ _ = _ from hv]
      unfold vc_badT
      intros
      exact h
    · exact h.elim
  · exact h.elim
def c_idxT : Ct
  | [.v (.c cl), .v (.c (.fn 76 []))], [], Q => (match (Ty.sl tNode).of [cl] with
    | some (l, []) => Q (.int (idxF (fun x : NoD => !mayT x) l 0)) []
    | _ => False)
  | _, _, _ => False
noncomputable def XK47 : Vx := { P := Try.prog, ct := [(76, c_badT), (77, c_may), (102, c_xattrs), (100, c_plain), (97, c_indexByte), (106, c_nul), (101, c_within)], ty := tyTab, hold := [] }
theorem XK47_ok : CtOk Try.prog XK47.ct := CtOk.cons w_badT (CtOk.cons w_may (CtOk.cons w_xattrs (CtOk.cons w_plain (CtOk.cons w_indexByte (CtOk.cons w_nul (CtOk.cons w_within (CtOk.nil _)))))))
def vc_idxT : (List (tNode).den) → (SV → List HO → Prop) → Prop :=
  fun l Q =>
    List.length l ≤ (9223372036854775807 : Nat) →
      List.length l ≤ (9223372036854775807 : Nat) →
        LoopP
          (fun i again =>
            br (decide (i.fst.fst < (↑(List.length l) : Int)))
              ((0 : Int) ≤ i.fst.fst ∧
                i.fst.fst < (↑(List.length l) : Int) ∧
                  (Ty.ok tNode (ixD tNode l i.fst.fst) →
                    br
                      (!mayT
                          ((ixD tNode l i.fst.fst).fst, (ixD tNode l i.fst.fst).snd.fst,
                            (ixD tNode l i.fst.fst).snd.snd.fst,
                            ((ixD tNode l i.fst.fst).snd.snd.snd.fst.fst, (ixD tNode l i.fst.fst).snd.snd.snd.fst.snd.fst,
                              (ixD tNode l i.fst.fst).snd.snd.snd.fst.snd.snd.fst, ()),
                            (ixD tNode l i.fst.fst).snd.snd.snd.snd.fst, (ixD tNode l i.fst.fst).snd.snd.snd.snd.snd.fst,
                            (ixD tNode l i.fst.fst).snd.snd.snd.snd.snd.snd.fst,
                            (ixD tNode l i.fst.fst).snd.snd.snd.snd.snd.snd.snd.fst, ()))
                      (Q (SV.v (S1.c (Cl.k (Value.int IntKind.i64 i.fst.fst)))) [])
                      (inK IntKind.i64 (i.fst.fst + (1 : Int)) ∧ again ((i.fst.fst + (1 : Int), ()), ()))))
              (Q (SV.v (S1.c (Cl.k (Value.int IntKind.i64 (-1 : Int))))) []))
          (((0 : Int), ()), ())
theorem vc_idxT_eq (l : List (tNode).den) (Q : SV → List HO → Prop) : vFun XK47 ⟨[(3, ⟨[(8, .int .i64)], []⟩)], []⟩ Try.f99 [.c (.d tNode l), .c (.fn 76 [])] [] Q = vc_idxT l Q := by kernel_rfl
theorem w_idxT : ∀ args H Q, c_idxT args H Q → Wp Try.prog 99 args H Q := by
  intro args H Q h
  unfold c_idxT at h
  split at h
  · rename_i cl
    split at h
    · rename_i l hl
      refine Wp.said (args' := [.c (.d tNode l), .c (.fn 76 [])]) (fun E g => RelVs.cons1 (of_list hl) (RelVs.cons1 (fun _ h => h) (fun _ h => h))) ?_
      clear hl
      refine Wp.enter (X := XK47) XK47_ok ⟨[(3, ⟨[(8, .int .i64)], []⟩)], []⟩ (fn := Try.f99) (by kernel_rfl) ?_
      have hv := vc_idxT_eq l Q
      rw [show vFun _ _ _ _ _ _ = _ from hv]
      unfold vc_idxT
      intro hl _
      refine LoopP.intro (fun i => 0 ≤ i.1.1 ∧ i.1.1 ≤ l.length ∧ idxF (fun x : NoD => !mayT x) (l.drop i.1.1.toNat) i.1.1 = idxF (fun x : NoD => !mayT x) l 0) (fun i => l.length - i.1.1.toNat) ⟨by simp, by simp, by simp⟩ ?_
      rintro ⟨⟨i, _⟩, _⟩ ⟨h0, h1, h2⟩
      simp only at h0 h1 h2 ⊢
      refine br_of (fun hc => ?_) (fun hc => ?_)
      · have hc : i < l.length := by simpa using hc
        refine ⟨h0, hc, fun _ => ?_⟩
        rw [ixD_drop (e := tNode) h0 hc] at h2
        refine br_of (fun h3 => ?_) (fun h3 => ?_)
        · simp only [idxF, h3, if_true] at h2
          rw [h2]; exact h
        · simp only [idxF, h3, Bool.false_eq_true, if_false] at h2
          refine ⟨by unfold inK; omega, ⟨by omega, by omega, ?_⟩, by omega⟩
          rw [show (i + 1).toNat = (i + 1).toNat from rfl]
          exact h2
      · have hc : ¬ i < l.length := by simpa using hc
        rw [drop_all hc] at h2
        simp only [idxF] at h2
        rw [h2]; exact h
    · exact h.elim
  · exact h.elim
def c_anyT : Ct
  | [.v (.c cl), .v (.c (.fn 76 []))], [], Q => (match (Ty.sl tNode).of [cl] with
    | some (l, []) => Q (.bool (l.any fun x : NoD => !mayT x)) []
    | _ => False)
  | _, _, _ => False
noncomputable def XK48 : Vx := { P := Try.prog, ct := [(99, c_idxT), (76, c_badT), (77, c_may), (102, c_xattrs), (100, c_plain), (97, c_indexByte), (106, c_nul), (101, c_within)], ty := tyTab, hold := [] }
theorem XK48_ok : CtOk Try.prog XK48.ct := CtOk.cons w_idxT (CtOk.cons w_badT (CtOk.cons w_may (CtOk.cons w_xattrs (CtOk.cons w_plain (CtOk.cons w_indexByte (CtOk.cons w_nul (CtOk.cons w_within (CtOk.nil _))))))))
def vc_anyT : (List (tNode).den) → (SV → List HO → Prop) → Prop :=
  fun l Q =>
    List.length l ≤ (9223372036854775807 : Nat) →
      inK IntKind.i64 (idxF (fun x => !mayT x) l (0 : Int)) →
        Q (SV.v (S1.c (Cl.k (Value.bool (decide (idxF (fun x => !mayT x) l (0 : Int) ≥ (0 : Int))))))) []
theorem vc_anyT_eq (l : List (tNode).den) (Q : SV → List HO → Prop) : vFun XK48 ⟨[], []⟩ Try.f75 [.c (.d tNode l), .c (.fn 76 [])] [] Q = vc_anyT l Q := by kernel_rfl
theorem w_anyT : ∀ args H Q, c_anyT args H Q → Wp Try.prog 75 args H Q := by
  intro args H Q h
  unfold c_anyT at h
  split at h
  · rename_i cl
    split at h
    · rename_i l hl
      refine Wp.said (args' := [.c (.d tNode l), .c (.fn 76 [])]) (fun E g => RelVs.cons1 (of_list hl) (RelVs.cons1 (fun _ h => h) (fun _ h => h))) ?_
      clear hl
      refine Wp.enter (X := XK48) XK48_ok ⟨[], []⟩ (fn := Try.f75) (by kernel_rfl) ?_
      have hv := vc_anyT_eq l Q
      rw [show vFun _ _ _ _ _ _ = _ from hv]
      unfold vc_anyT
      intro _ _
      rw [← idxF_any (Int.le_refl 0)] at h
      exact h
    · exact h.elim
  · exact h.elim
end Go.Proofs

namespace Go.Proofs
open Go Go.Lm Go.RowKit
def c_badM : Ct
  | [.v (.agg cx)], [], Q => (match (tNode).of cx with
    | some (x, []) => Q (.bool (badM x)) []
    | _ => False)
  | _, _, _ => False
noncomputable def XK59 : Vx := { P := Try.prog, ct := [(75, c_anyT), (99, c_idxT), (76, c_badT), (77, c_may), (102, c_xattrs), (100, c_plain), (97, c_indexByte), (106, c_nul), (101, c_within)], ty := tyTab, hold := [] }
theorem XK59_ok : CtOk Try.prog XK59.ct := CtOk.cons w_anyT (CtOk.cons w_idxT (CtOk.cons w_badT (CtOk.cons w_may (CtOk.cons w_xattrs (CtOk.cons w_plain (CtOk.cons w_indexByte (CtOk.cons w_nul (CtOk.cons w_within (CtOk.nil _)))))))))
def vc_badM : ((tNode).den) → (SV → List HO → Prop) → Prop :=
  fun x Q =>
    List.length x.fst ≤ (9223372036854775807 : Nat) →
      inK IntKind.i64 x.snd.fst →
        inK IntKind.i64 x.snd.snd.fst →
          inK IntKind.i64 x.snd.snd.snd.fst.fst →
            inK IntKind.i64 x.snd.snd.snd.fst.snd.fst →
              inK IntKind.i64 x.snd.snd.snd.fst.snd.snd.fst →
                List.length x.snd.snd.snd.snd.fst ≤ (9223372036854775807 : Nat) →
                  ByteArray.size x.snd.snd.snd.snd.snd.fst ≤ (9223372036854775807 : Nat) →
                    List.length x.snd.snd.snd.snd.snd.snd.fst ≤ (9223372036854775807 : Nat) →
                      br (x.snd.snd.fst == (4 : Int))
                        (br
                          (!(x.snd.snd.snd.fst.fst == (0 : Int) &&
                              (x.snd.snd.snd.fst.snd.fst == (0 : Int) &&
                                (x.snd.snd.snd.fst.snd.snd.fst == (0 : Int) && true))))
                          (Q (SV.v (S1.c (Cl.k (Value.bool true)))) [])
                          (List.length x.snd.snd.snd.snd.fst ≤ (9223372036854775807 : Nat) →
                            br (decide ((↑(List.length x.snd.snd.snd.snd.fst) : Int) > (0 : Int)))
                              (Q (SV.v (S1.c (Cl.k (Value.bool true)))) [])
                              (br (!sEq x.snd.snd.snd.snd.snd.fst (ByteArray.mk ( #[] )))
                                (Q (SV.v (S1.c (Cl.k (Value.bool true)))) [])
                                (List.length x.snd.snd.snd.snd.snd.snd.fst ≤ (9223372036854775807 : Nat) →
                                  br (decide ((↑(List.length x.snd.snd.snd.snd.snd.snd.fst) : Int) > (0 : Int)))
                                    (Q (SV.v (S1.c (Cl.k (Value.bool true)))) [])
                                    (Q (SV.v (S1.c (Cl.k (Value.bool x.snd.snd.snd.snd.snd.snd.snd.fst)))) [])))))
                        (Q (SV.v (S1.c (Cl.k (Value.bool false)))) [])
theorem vc_badM_eq (x : (tNode).den) (Q : SV → List HO → Prop) : vFun XK59 ⟨[], []⟩ Try.f79 [.v (.agg (Ty.cells tNode x))] [] Q = vc_badM x Q := by kernel_rfl
theorem w_badM : ∀ args H Q, c_badM args H Q → Wp Try.prog 79 args H Q := by
  intro args H Q h
  unfold c_badM at h
  split at h
  · rename_i cx
    split at h
    · rename_i x hx
      refine Wp.said (args' := [.v (.agg (Ty.cells tNode x))]) (fun E g => RelVs.cons1 (of_row hx) (fun _ h => h)) ?_
      clear hx
      refine Wp.enter (X := XK59) XK59_ok ⟨[], []⟩ (fn := Try.f79) (by kernel_rfl) ?_
      have hv := vc_badM_eq x Q
      rw [show vFun _ _ _ _ _ _ = _ from hv]
      unfold vc_badM
      intro _ _ _ _ _ _ _ _ _
      repeat' (first | refine br_of (fun _ => ?_) (fun _ => ?_) | intro _)
      all_goals refine Eq.mp (congrArg (fun z => Q (SV.bool z) []) ?_) h
      all_goals unfold badM
      all_goals clear hv h
      all_goals simp_all
    · exact h.elim
  · exact h.elim
def c_idxM : Ct
  | [.v (.c cl), .v (.c (.fn 79 []))], [], Q => (match (Ty.sl tNode).of [cl] with
    | some (l, []) => Q (.int (idxF (fun x : NoD => badM x) l 0)) []
    | _ => False)
  | _, _, _ => False
noncomputable def XK510 : Vx := { P := Try.prog, ct := [(79, c_badM), (75, c_anyT), (99, c_idxT), (76, c_badT), (77, c_may), (102, c_xattrs), (100, c_plain), (97, c_indexByte), (106, c_nul), (101, c_within)], ty := tyTab, hold := [] }
theorem XK510_ok : CtOk Try.prog XK510.ct := CtOk.cons w_badM (CtOk.cons w_anyT (CtOk.cons w_idxT (CtOk.cons w_badT (CtOk.cons w_may (CtOk.cons w_xattrs (CtOk.cons w_plain (CtOk.cons w_indexByte (CtOk.cons w_nul (CtOk.cons w_within (CtOk.nil _))))))))))
def vc_idxM : (List (tNode).den) → (SV → List HO → Prop) → Prop :=
  fun l Q =>
    List.length l ≤ (9223372036854775807 : Nat) →
      List.length l ≤ (9223372036854775807 : Nat) →
        LoopP
          (fun i again =>
            br (decide (i.fst.fst < (↑(List.length l) : Int)))
              ((0 : Int) ≤ i.fst.fst ∧
                i.fst.fst < (↑(List.length l) : Int) ∧
                  (Ty.ok tNode (ixD tNode l i.fst.fst) →
                    br
                      (badM
                        ((ixD tNode l i.fst.fst).fst, (ixD tNode l i.fst.fst).snd.fst,
                          (ixD tNode l i.fst.fst).snd.snd.fst,
                          ((ixD tNode l i.fst.fst).snd.snd.snd.fst.fst, (ixD tNode l i.fst.fst).snd.snd.snd.fst.snd.fst,
                            (ixD tNode l i.fst.fst).snd.snd.snd.fst.snd.snd.fst, ()),
                          (ixD tNode l i.fst.fst).snd.snd.snd.snd.fst, (ixD tNode l i.fst.fst).snd.snd.snd.snd.snd.fst,
                          (ixD tNode l i.fst.fst).snd.snd.snd.snd.snd.snd.fst,
                          (ixD tNode l i.fst.fst).snd.snd.snd.snd.snd.snd.snd.fst, ()))
                      (Q (SV.v (S1.c (Cl.k (Value.int IntKind.i64 i.fst.fst)))) [])
                      (inK IntKind.i64 (i.fst.fst + (1 : Int)) ∧ again ((i.fst.fst + (1 : Int), ()), ()))))
              (Q (SV.v (S1.c (Cl.k (Value.int IntKind.i64 (-1 : Int))))) []))
          (((0 : Int), ()), ())
theorem vc_idxM_eq (l : List (tNode).den) (Q : SV → List HO → Prop) : vFun XK510 ⟨[(3, ⟨[(8, .int .i64)], []⟩)], []⟩ Try.f99 [.c (.d tNode l), .c (.fn 79 [])] [] Q = vc_idxM l Q := by kernel_rfl
theorem w_idxM : ∀ args H Q, c_idxM args H Q → Wp Try.prog 99 args H Q := by
  intro args H Q h
  unfold c_idxM at h
  split at h
  · rename_i cl
    split at h
    · rename_i l hl
      refine Wp.said (args' := [.c (.d tNode l), .c (.fn 79 [])]) (fun E g => RelVs.cons1 (of_list hl) (RelVs.cons1 (fun _ h => h) (fun _ h => h))) ?_
      clear hl
      refine Wp.enter (X := XK510) XK510_ok ⟨[(3, ⟨[(8, .int .i64)], []⟩)], []⟩ (fn := Try.f99) (by kernel_rfl) ?_
      have hv := vc_idxM_eq l Q
      rw [show vFun _ _ _ _ _ _ = _ from hv]
      unfold vc_idxM
      intro hl _
      refine LoopP.intro (fun i => 0 ≤ i.1.1 ∧ i.1.1 ≤ l.length ∧ idxF (fun x : NoD => badM x) (l.drop i.1.1.toNat) i.1.1 = idxF (fun x : NoD => badM x) l 0) (fun i => l.length - i.1.1.toNat) ⟨by simp, by simp, by simp⟩ ?_
      rintro ⟨⟨i, _⟩, _⟩ ⟨h0, h1, h2⟩
      simp only at h0 h1 h2 ⊢
      refine br_of (fun hc => ?_) (fun hc => ?_)
      · have hc : i < l.length := by simpa using hc
        refine ⟨h0, hc, fun _ => ?_⟩
        rw [ixD_drop (e := tNode) h0 hc] at h2
        refine br_of (fun h3 => ?_) (fun h3 => ?_)
        · simp only [idxF, h3, if_true] at h2
          rw [h2]; exact h
        · simp only [idxF, h3, Bool.false_eq_true, if_false] at h2
          refine ⟨by unfold inK; omega, ⟨by omega, by omega, ?_⟩, by omega⟩
          rw [show (i + 1).toNat = (i + 1).toNat from rfl]
          exact h2
      · have hc : ¬ i < l.length := by simpa using hc
        rw [drop_all hc] at h2
        simp only [idxF] at h2
        rw [h2]; exact h
    · exact h.elim
  · exact h.elim
def c_anyM : Ct
  | [.v (.c cl), .v (.c (.fn 79 []))], [], Q => (match (Ty.sl tNode).of [cl] with
    | some (l, []) => Q (.bool (l.any fun x : NoD => badM x)) []
    | _ => False)
  | _, _, _ => False
noncomputable def XK511 : Vx := { P := Try.prog, ct := [(99, c_idxM), (79, c_badM), (75, c_anyT), (99, c_idxT), (76, c_badT), (77, c_may), (102, c_xattrs), (100, c_plain), (97, c_indexByte), (106, c_nul), (101, c_within)], ty := tyTab, hold := [] }
theorem XK511_ok : CtOk Try.prog XK511.ct := CtOk.cons w_idxM (CtOk.cons w_badM (CtOk.cons w_anyT (CtOk.cons w_idxT (CtOk.cons w_badT (CtOk.cons w_may (CtOk.cons w_xattrs (CtOk.cons w_plain (CtOk.cons w_indexByte (CtOk.cons w_nul (CtOk.cons w_within (CtOk.nil _)))))))))))
def vc_anyM : (List (tNode).den) → (SV → List HO → Prop) → Prop :=
  fun l Q =>
    List.length l ≤ (9223372036854775807 : Nat) →
      inK IntKind.i64 (idxF (fun x => badM x) l (0 : Int)) →
        Q (SV.v (S1.c (Cl.k (Value.bool (decide (idxF (fun x => badM x) l (0 : Int) ≥ (0 : Int))))))) []
theorem vc_anyM_eq (l : List (tNode).den) (Q : SV → List HO → Prop) : vFun XK511 ⟨[], []⟩ Try.f75 [.c (.d tNode l), .c (.fn 79 [])] [] Q = vc_anyM l Q := by kernel_rfl
theorem w_anyM : ∀ args H Q, c_anyM args H Q → Wp Try.prog 75 args H Q := by
  intro args H Q h
  unfold c_anyM at h
  split at h
  · rename_i cl
    split at h
    · rename_i l hl
      refine Wp.said (args' := [.c (.d tNode l), .c (.fn 79 [])]) (fun E g => RelVs.cons1 (of_list hl) (RelVs.cons1 (fun _ h => h) (fun _ h => h))) ?_
      clear hl
      refine Wp.enter (X := XK511) XK511_ok ⟨[], []⟩ (fn := Try.f75) (by kernel_rfl) ?_
      have hv := vc_anyM_eq l Q
      rw [show vFun _ _ _ _ _ _ = _ from hv]
      unfold vc_anyM
      intro _ _
      rw [← idxF_any (Int.le_refl 0)] at h
      exact h
    · exact h.elim
  · exact h.elim
def c_marks : Ct
  | [.v (.c cl)], [], Q => (match (Ty.sl tNode).of [cl] with
    | some (l, []) => Q (.bool (!l.any fun x : NoD => badM x)) []
    | _ => False)
  | _, _, _ => False
noncomputable def XK512 : Vx := { P := Try.prog, ct := [(75, c_anyM), (99, c_idxM), (79, c_badM), (75, c_anyT), (99, c_idxT), (76, c_badT), (77, c_may), (102, c_xattrs), (100, c_plain), (97, c_indexByte), (106, c_nul), (101, c_within)], ty := tyTab, hold := [] }
theorem XK512_ok : CtOk Try.prog XK512.ct := CtOk.cons w_anyM (CtOk.cons w_idxM (CtOk.cons w_badM (CtOk.cons w_anyT (CtOk.cons w_idxT (CtOk.cons w_badT (CtOk.cons w_may (CtOk.cons w_xattrs (CtOk.cons w_plain (CtOk.cons w_indexByte (CtOk.cons w_nul (CtOk.cons w_within (CtOk.nil _))))))))))))
def vc_marks : (List (tNode).den) → (SV → List HO → Prop) → Prop :=
  fun l Q =>
    List.length l ≤ (9223372036854775807 : Nat) → Q (SV.v (S1.c (Cl.k (Value.bool !List.any l fun x => badM x)))) []
theorem vc_marks_eq (l : List (tNode).den) (Q : SV → List HO → Prop) : vFun XK512 ⟨[], []⟩ Try.f45 [.c (.d tNode l)] [] Q = vc_marks l Q := by kernel_rfl
theorem w_marks : ∀ args H Q, c_marks args H Q → Wp Try.prog 45 args H Q := by
  intro args H Q h
  unfold c_marks at h
  split at h
  · rename_i cl
    split at h
    · rename_i l hl
      refine Wp.said (args' := [.c (.d tNode l)]) (fun E g => RelVs.cons1 (of_list hl) (fun _ h => h)) ?_
      clear hl
      refine Wp.enter (X := XK512) XK512_ok ⟨[], []⟩ (fn := Try.f45) (by kernel_rfl) ?_
      have hv := vc_marks_eq l Q
      rw [show vFun _ _ _ _ _ _ = _ from hv]
      unfold vc_marks
      intros
      exact h
    · exact h.elim
  · exact h.elim
end Go.Proofs

namespace Go.Proofs
open Go Go.Lm Go.RowKit
def c_xattrsR : Ct
  | [.v (.c cl)], [], Q => (match (Ty.sl tXattr).of [cl] with
    | some (l, []) => Q (.bool (xattrsB l)) []
    | _ => False)
  | _, _, _ => False
noncomputable def XK613 : Vx := { P := Try.prog, ct := [(45, c_marks), (75, c_anyM), (99, c_idxM), (79, c_badM), (75, c_anyT), (99, c_idxT), (76, c_badT), (77, c_may), (102, c_xattrs), (100, c_plain), (97, c_indexByte), (106, c_nul), (101, c_within)], ty := tyTab, hold := [] }
theorem XK613_ok : CtOk Try.prog XK613.ct := CtOk.cons w_marks (CtOk.cons w_anyM (CtOk.cons w_idxM (CtOk.cons w_badM (CtOk.cons w_anyT (CtOk.cons w_idxT (CtOk.cons w_badT (CtOk.cons w_may (CtOk.cons w_xattrs (CtOk.cons w_plain (CtOk.cons w_indexByte (CtOk.cons w_nul (CtOk.cons w_within (CtOk.nil _)))))))))))))
def vc_xattrsR : (List (tXattr).den) → (SV → List HO → Prop) → Prop :=
  fun l Q =>
    List.length l ≤ (9223372036854775807 : Nat) →
      LoopP
        (fun i again =>
          List.length l ≤ (9223372036854775807 : Nat) →
            br (decide (i.fst.fst < (↑(List.length l) : Int)))
              ((0 : Int) ≤ i.fst.fst ∧
                i.fst.fst < (↑(List.length l) : Int) ∧
                  (Ty.ok tXattr (ixD tXattr l i.fst.fst) →
                    br (decide ((↑(ByteArray.size (ixD tXattr l i.fst.fst).fst) : Int) < (1 : Int)))
                      (Q (SV.v (S1.c (Cl.k (Value.bool false)))) [])
                      (br (decide ((↑(ByteArray.size (ixD tXattr l i.fst.fst).fst) : Int) > (40 : Int)))
                        (Q (SV.v (S1.c (Cl.k (Value.bool false)))) [])
                        (br (nulB (ixD tXattr l i.fst.fst).fst (0 : Nat)) (Q (SV.v (S1.c (Cl.k (Value.bool false)))) [])
                          (List.length (ixD tXattr l i.fst.fst).snd.fst ≤ (9223372036854775807 : Nat) →
                            br (decide ((↑(List.length (ixD tXattr l i.fst.fst).snd.fst) : Int) > (200 : Int)))
                              (Q (SV.v (S1.c (Cl.k (Value.bool false)))) [])
                              (br (decide (i.fst.fst > (0 : Int)))
                                (inK IntKind.i64 (i.fst.fst - (1 : Int)) ∧
                                  (0 : Int) ≤ i.fst.fst - (1 : Int) ∧
                                    i.fst.fst - (1 : Int) < (↑(List.length l) : Int) ∧
                                      (Ty.ok tXattr (ixD tXattr l (i.fst.fst - (1 : Int))) →
                                        br (!sLt (ixD tXattr l (i.fst.fst - (1 : Int))).fst (ixD tXattr l i.fst.fst).fst)
                                          (Q (SV.v (S1.c (Cl.k (Value.bool false)))) [])
                                          (inK IntKind.i64 (i.fst.fst + (1 : Int)) ∧
                                            again ((i.fst.fst + (1 : Int), ()), ()))))
                                (inK IntKind.i64 (i.fst.fst + (1 : Int)) ∧ again ((i.fst.fst + (1 : Int), ()), ()))))))))
              (List.length l ≤ (9223372036854775807 : Nat) →
                Q (SV.v (S1.c (Cl.k (Value.bool (decide ((↑(List.length l) : Int) ≤ (8 : Int))))))) []))
        (((0 : Int), ()), ())
theorem vc_xattrsR_eq (l : List (tXattr).den) (Q : SV → List HO → Prop) : vFun XK613 ⟨[(3, ⟨[(3, .int .i64)], []⟩)], []⟩ Try.f92 [.c (.d tXattr l)] [] Q = vc_xattrsR l Q := by kernel_rfl
theorem w_xattrsR : ∀ args H Q, c_xattrsR args H Q → Wp Try.prog 92 args H Q := by
  intro args H Q h
  unfold c_xattrsR at h
  split at h
  · rename_i cl
    split at h
    · rename_i l hl
      refine Wp.said (args' := [.c (.d tXattr l)]) (fun E g => RelVs.cons1 (of_list hl) (fun _ h => h)) ?_
      clear hl
      refine Wp.enter (X := XK613) XK613_ok ⟨[(3, ⟨[(3, .int .i64)], []⟩)], []⟩ (fn := Try.f92) (by kernel_rfl) ?_
      have hv := vc_xattrsR_eq l Q
      rw [show vFun _ _ _ _ _ _ = _ from hv]
      unfold vc_xattrsR
      intro hl0
      refine LoopP.intro (fun i => 0 ≤ i.1.1 ∧ i.1.1 ≤ l.length ∧ xattrsGo l ⟨#[]⟩ = xattrsGo (l.drop i.1.1.toNat) (prevN l i.1.1)) (fun i => l.length - i.1.1.toNat) ⟨by simp, by simp, by simp [prevN]⟩ ?_
      rintro ⟨⟨i, _⟩, _⟩ ⟨h0, h1, h2⟩
      simp only at h0 h1 h2 ⊢
      intro _
      refine br_of (fun hc => ?_) (fun hc => ?_)
      · have hc : i < l.length := by simpa using hc
        refine ⟨h0, hc, fun _ => ?_⟩
        rw [ixD_drop (e := tXattr) h0 hc] at h2
        have bad : badX (ixD tXattr l i) (prevN l i) = true → Q (.bool false) [] := fun hb => by
          simp only [xattrsGo, hb, if_true] at h2
          unfold xattrsB at h
          rw [h2, Bool.false_and] at h
          exact h
        have good : badX (ixD tXattr l i) (prevN l i) = false → inK .i64 (i + 1) ∧ (0 ≤ i + 1 ∧ i + 1 ≤ l.length ∧ xattrsGo l ⟨#[]⟩ = xattrsGo (l.drop (i + 1).toNat) (prevN l (i + 1))) ∧ l.length - (i + 1).toNat < l.length - i.toNat := fun hb => by
          simp only [xattrsGo, hb, Bool.false_eq_true, if_false] at h2
          have hp : prevN l (i + 1) = (ixD tXattr l i).1 := by
            unfold prevN
            rw [if_pos (by omega), show i + 1 - 1 = i by omega]; rfl
          rw [hp]
          exact ⟨by unfold inK; omega, ⟨by omega, by omega, h2⟩, by omega⟩
        rw [badX_ref] at bad good
        refine br_of (fun h3 => bad (by rw [h3]; rfl)) (fun h3 => br_of (fun h4 => bad (by rw [h4]; simp)) (fun h4 => br_of (fun h5 => bad (by rw [h5]; simp)) (fun h5 => fun _ => br_of (fun h6 => bad (by rw [h6]; simp)) (fun h6 => ?_))))
        refine br_of (fun h7 => ?_) (fun h7 => ?_)
        · have h7 : i > 0 := by simpa using h7
          have hp : prevN l i = (ixD tXattr l (i - 1)).1 := by
            unfold prevN
            rw [if_pos h7]; rfl
          refine ⟨by unfold inK; omega, by omega, by omega, fun _ => ?_⟩
          rw [hp] at bad good
          exact br_of (fun h8 => bad (by rw [h8]; simp)) (fun h8 => good (by rw [h3, h4, h5, h6, h8]; rfl))
        · have hp : prevN l i = ⟨#[]⟩ := by
            unfold prevN
            rw [if_neg (by simpa using h7)]
          have h9 : sLt ⟨#[]⟩ (ixD tXattr l i).1 = true := nil_lt (by
            have : ¬ ((ixD tXattr l i).1.size : Int) < 1 := by simpa using h3
            omega)
          exact good (by rw [h3, h4, h5, h6, hp, h9]; rfl)
      · have hc : ¬ i < l.length := by simpa using hc
        rw [drop_all hc] at h2
        intro _
        unfold xattrsB at h
        rw [h2] at h
        exact h
    · exact h.elim
  · exact h.elim
end Go.Proofs

namespace Go.Proofs
open Go Go.Lm Go.RowKit
def c_mayR : Ct
  | [.v (.agg cx)], [], Q => (match (tNode).of cx with
    | some (x, []) => Q (.bool (mayT x)) []
    | _ => False)
  | _, _, _ => False
noncomputable def XK714 : Vx := { P := Try.prog, ct := [(92, c_xattrsR), (45, c_marks), (75, c_anyM), (99, c_idxM), (79, c_badM), (75, c_anyT), (99, c_idxT), (76, c_badT), (77, c_may), (102, c_xattrs), (100, c_plain), (97, c_indexByte), (106, c_nul), (101, c_within)], ty := tyTab, hold := [] }
theorem XK714_ok : CtOk Try.prog XK714.ct := CtOk.cons w_xattrsR (CtOk.cons w_marks (CtOk.cons w_anyM (CtOk.cons w_idxM (CtOk.cons w_badM (CtOk.cons w_anyT (CtOk.cons w_idxT (CtOk.cons w_badT (CtOk.cons w_may (CtOk.cons w_xattrs (CtOk.cons w_plain (CtOk.cons w_indexByte (CtOk.cons w_nul (CtOk.cons w_within (CtOk.nil _))))))))))))))
def vc_mayR : ((tNode).den) → (SV → List HO → Prop) → Prop :=
  fun x Q =>
    List.length x.fst ≤ (9223372036854775807 : Nat) →
      inK IntKind.i64 x.snd.fst →
        inK IntKind.i64 x.snd.snd.fst →
          inK IntKind.i64 x.snd.snd.snd.fst.fst →
            inK IntKind.i64 x.snd.snd.snd.fst.snd.fst →
              inK IntKind.i64 x.snd.snd.snd.fst.snd.snd.fst →
                List.length x.snd.snd.snd.snd.fst ≤ (9223372036854775807 : Nat) →
                  ByteArray.size x.snd.snd.snd.snd.snd.fst ≤ (9223372036854775807 : Nat) →
                    List.length x.snd.snd.snd.snd.snd.snd.fst ≤ (9223372036854775807 : Nat) →
                      br (decide (x.snd.snd.fst < (1 : Int))) (Q (SV.v (S1.c (Cl.k (Value.bool false)))) [])
                        (br (decide (x.snd.snd.fst > (3 : Int))) (Q (SV.v (S1.c (Cl.k (Value.bool false)))) [])
                          (br x.snd.snd.snd.snd.snd.snd.snd.fst (Q (SV.v (S1.c (Cl.k (Value.bool false)))) [])
                            (br (decide (x.snd.snd.snd.fst.fst < (0 : Int)))
                              (Q (SV.v (S1.c (Cl.k (Value.bool false)))) [])
                              (br (decide (x.snd.snd.snd.fst.fst > (511 : Int)))
                                (Q (SV.v (S1.c (Cl.k (Value.bool false)))) [])
                                (br (decide (x.snd.snd.snd.fst.snd.fst < (0 : Int)))
                                  (Q (SV.v (S1.c (Cl.k (Value.bool false)))) [])
                                  (br (decide (x.snd.snd.snd.fst.snd.fst > (65535 : Int)))
                                    (Q (SV.v (S1.c (Cl.k (Value.bool false)))) [])
                                    (br (decide (x.snd.snd.snd.fst.snd.snd.fst < (0 : Int)))
                                      (Q (SV.v (S1.c (Cl.k (Value.bool false)))) [])
                                      (br (decide (x.snd.snd.snd.fst.snd.snd.fst > (65535 : Int)))
                                        (Q (SV.v (S1.c (Cl.k (Value.bool false)))) [])
                                        (br (x.snd.snd.fst != (2 : Int))
                                          (List.length x.snd.snd.snd.snd.fst ≤ (9223372036854775807 : Nat) →
                                            br (decide ((↑(List.length x.snd.snd.snd.snd.fst) : Int) > (0 : Int)))
                                              (Q (SV.v (S1.c (Cl.k (Value.bool false)))) [])
                                              (List.length x.snd.snd.snd.snd.fst ≤ (9223372036854775807 : Nat) →
                                                br (decide ((↑(List.length x.snd.snd.snd.snd.fst) : Int) > (4096 : Int)))
                                                  (Q (SV.v (S1.c (Cl.k (Value.bool false)))) [])
                                                  (br (x.snd.snd.fst != (3 : Int))
                                                    (br (!sEq x.snd.snd.snd.snd.snd.fst (ByteArray.mk ( #[] )))
                                                      (Q (SV.v (S1.c (Cl.k (Value.bool false)))) [])
                                                      (br (x.snd.snd.fst == (3 : Int))
                                                        (br (sEq x.snd.snd.snd.snd.snd.fst (ByteArray.mk ( #[] )))
                                                          (Q (SV.v (S1.c (Cl.k (Value.bool false)))) [])
                                                          (br
                                                            (decide
                                                              ((↑(ByteArray.size x.snd.snd.snd.snd.snd.fst) : Int) >
                                                                (200 : Int)))
                                                            (Q (SV.v (S1.c (Cl.k (Value.bool false)))) [])
                                                            (br (nulB x.snd.snd.snd.snd.snd.fst (0 : Nat))
                                                              (Q (SV.v (S1.c (Cl.k (Value.bool false)))) [])
                                                              (Q
                                                                (SV.v
                                                                  (S1.c
                                                                    (Cl.k
                                                                      (Value.bool
                                                                        (xattrsB x.snd.snd.snd.snd.snd.snd.fst)))))
                                                                []))))
                                                        (Q
                                                          (SV.v
                                                            (S1.c
                                                              (Cl.k
                                                                (Value.bool (xattrsB x.snd.snd.snd.snd.snd.snd.fst)))))
                                                          [])))
                                                    (br (x.snd.snd.fst == (3 : Int))
                                                      (br (sEq x.snd.snd.snd.snd.snd.fst (ByteArray.mk ( #[] )))
                                                        (Q (SV.v (S1.c (Cl.k (Value.bool false)))) [])
                                                        (br
                                                          (decide
                                                            ((↑(ByteArray.size x.snd.snd.snd.snd.snd.fst) : Int) >
                                                              (200 : Int)))
                                                          (Q (SV.v (S1.c (Cl.k (Value.bool false)))) [])
                                                          (br (nulB x.snd.snd.snd.snd.snd.fst (0 : Nat))
                                                            (Q (SV.v (S1.c (Cl.k (Value.bool false)))) [])
                                                            (Q
                                                              (SV.v
                                                                (S1.c
                                                                  (Cl.k
                                                                    (Value.bool
                                                                      (xattrsB x.snd.snd.snd.snd.snd.snd.fst)))))
                                                              []))))
                                                      (Q
                                                        (SV.v
                                                          (S1.c
                                                            (Cl.k (Value.bool (xattrsB x.snd.snd.snd.snd.snd.snd.fst)))))
                                                        [])))))
                                          (List.length x.snd.snd.snd.snd.fst ≤ (9223372036854775807 : Nat) →
                                            br (decide ((↑(List.length x.snd.snd.snd.snd.fst) : Int) > (4096 : Int)))
                                              (Q (SV.v (S1.c (Cl.k (Value.bool false)))) [])
                                              (br (x.snd.snd.fst != (3 : Int))
                                                (br (!sEq x.snd.snd.snd.snd.snd.fst (ByteArray.mk ( #[] )))
                                                  (Q (SV.v (S1.c (Cl.k (Value.bool false)))) [])
                                                  (br (x.snd.snd.fst == (3 : Int))
                                                    (br (sEq x.snd.snd.snd.snd.snd.fst (ByteArray.mk ( #[] )))
                                                      (Q (SV.v (S1.c (Cl.k (Value.bool false)))) [])
                                                      (br
                                                        (decide
                                                          ((↑(ByteArray.size x.snd.snd.snd.snd.snd.fst) : Int) >
                                                            (200 : Int)))
                                                        (Q (SV.v (S1.c (Cl.k (Value.bool false)))) [])
                                                        (br (nulB x.snd.snd.snd.snd.snd.fst (0 : Nat))
                                                          (Q (SV.v (S1.c (Cl.k (Value.bool false)))) [])
                                                          (Q
                                                            (SV.v
                                                              (S1.c
                                                                (Cl.k
                                                                  (Value.bool (xattrsB x.snd.snd.snd.snd.snd.snd.fst)))))
                                                            []))))
                                                    (Q
                                                      (SV.v
                                                        (S1.c
                                                          (Cl.k (Value.bool (xattrsB x.snd.snd.snd.snd.snd.snd.fst)))))
                                                      [])))
                                                (br (x.snd.snd.fst == (3 : Int))
                                                  (br (sEq x.snd.snd.snd.snd.snd.fst (ByteArray.mk ( #[] )))
                                                    (Q (SV.v (S1.c (Cl.k (Value.bool false)))) [])
                                                    (br
                                                      (decide
                                                        ((↑(ByteArray.size x.snd.snd.snd.snd.snd.fst) : Int) >
                                                          (200 : Int)))
                                                      (Q (SV.v (S1.c (Cl.k (Value.bool false)))) [])
                                                      (br (nulB x.snd.snd.snd.snd.snd.fst (0 : Nat))
                                                        (Q (SV.v (S1.c (Cl.k (Value.bool false)))) [])
                                                        (Q
                                                          (SV.v
                                                            (S1.c
                                                              (Cl.k
                                                                (Value.bool (xattrsB x.snd.snd.snd.snd.snd.snd.fst)))))
                                                          []))))
                                                  (Q
                                                    (SV.v
                                                      (S1.c (Cl.k (Value.bool (xattrsB x.snd.snd.snd.snd.snd.snd.fst)))))
                                                    [])))))))))))))
theorem vc_mayR_eq (x : (tNode).den) (Q : SV → List HO → Prop) : vFun XK714 ⟨[], []⟩ Try.f82 [.v (.agg (Ty.cells tNode x))] [] Q = vc_mayR x Q := by kernel_rfl
theorem w_mayR : ∀ args H Q, c_mayR args H Q → Wp Try.prog 82 args H Q := by
  intro args H Q h
  unfold c_mayR at h
  split at h
  · rename_i cx
    split at h
    · rename_i x hx
      refine Wp.said (args' := [.v (.agg (Ty.cells tNode x))]) (fun E g => RelVs.cons1 (of_row hx) (fun _ h => h)) ?_
      clear hx
      refine Wp.enter (X := XK714) XK714_ok ⟨[], []⟩ (fn := Try.f82) (by kernel_rfl) ?_
      have hv := vc_mayR_eq x Q
      rw [show vFun _ _ _ _ _ _ = _ from hv]
      unfold vc_mayR
      intro _ _ _ _ _ _ _ _ _
      repeat' (first | refine br_of (fun _ => ?_) (fun _ => ?_) | intro _)
      all_goals refine Eq.mp (congrArg (fun z => Q (SV.bool z) []) ?_) h
      all_goals rw [← refMay_eq]
      all_goals unfold refMay
      all_goals clear hv h
      all_goals simp only [*, Bool.true_or, Bool.or_true, Bool.false_or, Bool.or_false, Bool.and_true, Bool.true_and, Bool.and_false, Bool.false_and, if_true, if_false, Bool.false_eq_true]
      all_goals (exfalso; simp_all; done)
    · exact h.elim
  · exact h.elim
def c_may18 : Ct
  | [.v (.agg cx)], [], Q => (match (tNode).of cx with
    | some (x, []) => Q (.bool (mayU x)) []
    | _ => False)
  | _, _, _ => False
noncomputable def XK715 : Vx := { P := Try.prog, ct := [(82, c_mayR), (92, c_xattrsR), (45, c_marks), (75, c_anyM), (99, c_idxM), (79, c_badM), (75, c_anyT), (99, c_idxT), (76, c_badT), (77, c_may), (102, c_xattrs), (100, c_plain), (97, c_indexByte), (106, c_nul), (101, c_within)], ty := tyTab, hold := [] }
theorem XK715_ok : CtOk Try.prog XK715.ct := CtOk.cons w_mayR (CtOk.cons w_xattrsR (CtOk.cons w_marks (CtOk.cons w_anyM (CtOk.cons w_idxM (CtOk.cons w_badM (CtOk.cons w_anyT (CtOk.cons w_idxT (CtOk.cons w_badT (CtOk.cons w_may (CtOk.cons w_xattrs (CtOk.cons w_plain (CtOk.cons w_indexByte (CtOk.cons w_nul (CtOk.cons w_within (CtOk.nil _)))))))))))))))
def vc_may18 : ((tNode).den) → (SV → List HO → Prop) → Prop :=
  fun x Q =>
    List.length x.fst ≤ (9223372036854775807 : Nat) →
      inK IntKind.i64 x.snd.fst →
        inK IntKind.i64 x.snd.snd.fst →
          inK IntKind.i64 x.snd.snd.snd.fst.fst →
            inK IntKind.i64 x.snd.snd.snd.fst.snd.fst →
              inK IntKind.i64 x.snd.snd.snd.fst.snd.snd.fst →
                List.length x.snd.snd.snd.snd.fst ≤ (9223372036854775807 : Nat) →
                  ByteArray.size x.snd.snd.snd.snd.snd.fst ≤ (9223372036854775807 : Nat) →
                    List.length x.snd.snd.snd.snd.snd.snd.fst ≤ (9223372036854775807 : Nat) →
                      br (x.snd.snd.fst == (4 : Int))
                        (br
                          (x.snd.snd.snd.fst.fst == (0 : Int) &&
                            (x.snd.snd.snd.fst.snd.fst == (0 : Int) &&
                              (x.snd.snd.snd.fst.snd.snd.fst == (0 : Int) && true)))
                          (List.length x.snd.snd.snd.snd.fst ≤ (9223372036854775807 : Nat) →
                            br ((↑(List.length x.snd.snd.snd.snd.fst) : Int) == (0 : Int))
                              (br (sEq x.snd.snd.snd.snd.snd.fst (ByteArray.mk ( #[] )))
                                (List.length x.snd.snd.snd.snd.snd.snd.fst ≤ (9223372036854775807 : Nat) →
                                  br ((↑(List.length x.snd.snd.snd.snd.snd.snd.fst) : Int) == (0 : Int))
                                    (Q (SV.v (S1.c (Cl.k (Value.bool !x.snd.snd.snd.snd.snd.snd.snd.fst)))) [])
                                    (Q (SV.v (S1.c (Cl.k (Value.bool false)))) []))
                                (Q (SV.v (S1.c (Cl.k (Value.bool false)))) []))
                              (Q (SV.v (S1.c (Cl.k (Value.bool false)))) []))
                          (Q (SV.v (S1.c (Cl.k (Value.bool false)))) []))
                        (br (x.snd.snd.fst == (1 : Int))
                          (Q
                            (SV.v
                              (S1.c
                                (Cl.k
                                  (Value.bool
                                    (mayT
                                      (x.fst, x.snd.fst, x.snd.snd.fst,
                                        (x.snd.snd.snd.fst.fst, x.snd.snd.snd.fst.snd.fst, x.snd.snd.snd.fst.snd.snd.fst,
                                          ()),
                                        x.snd.snd.snd.snd.fst, x.snd.snd.snd.snd.snd.fst, x.snd.snd.snd.snd.snd.snd.fst,
                                        false, ()))))))
                            [])
                          (Q
                            (SV.v
                              (S1.c
                                (Cl.k
                                  (Value.bool
                                    (mayT
                                      (x.fst, x.snd.fst, x.snd.snd.fst,
                                        (x.snd.snd.snd.fst.fst, x.snd.snd.snd.fst.snd.fst, x.snd.snd.snd.fst.snd.snd.fst,
                                          ()),
                                        x.snd.snd.snd.snd.fst, x.snd.snd.snd.snd.snd.fst, x.snd.snd.snd.snd.snd.snd.fst,
                                        x.snd.snd.snd.snd.snd.snd.snd.fst, ()))))))
                            []))
theorem vc_may18_eq (x : (tNode).den) (Q : SV → List HO → Prop) : vFun XK715 ⟨[], []⟩ Try.f49 [.v (.agg (Ty.cells tNode x))] [] Q = vc_may18 x Q := by kernel_rfl
theorem w_may18 : ∀ args H Q, c_may18 args H Q → Wp Try.prog 49 args H Q := by
  intro args H Q h
  unfold c_may18 at h
  split at h
  · rename_i cx
    split at h
    · rename_i x hx
      refine Wp.said (args' := [.v (.agg (Ty.cells tNode x))]) (fun E g => RelVs.cons1 (of_row hx) (fun _ h => h)) ?_
      clear hx
      refine Wp.enter (X := XK715) XK715_ok ⟨[], []⟩ (fn := Try.f49) (by kernel_rfl) ?_
      have hv := vc_may18_eq x Q
      rw [show vFun _ _ _ _ _ _ = _ from hv]
      unfold vc_may18
      intro _ _ _ _ _ _ _ _ _
      repeat' (first | refine br_of (fun _ => ?_) (fun _ => ?_) | intro _)
      all_goals refine Eq.mp (congrArg (fun z => Q (SV.bool z) []) ?_) h
      all_goals unfold mayU badM
      all_goals clear hv h
      all_goals simp_all
    · exact h.elim
  · exact h.elim
end Go.Proofs

namespace Go.Proofs
open Go Go.Lm Go.RowKit
abbrev shNode : List Sh := [.d .str, .int .i64, .int .i64, .int .i64, .int .i64, .int .i64, .d .u8, .str, .d tXattr, .bool]
def c_few : Ct
  | [.v (.c cl)], [], Q => (match (Ty.sl tNode).of [cl] with
    | some (l, []) => Q (.c (.o 0)) [.sl 28 tNode ((l.take 40).map clipN)]
    | _ => False)
  | _, _, _ => False
noncomputable def XK816 : Vx := { P := Try.prog, ct := [(49, c_may18), (82, c_mayR), (92, c_xattrsR), (45, c_marks), (75, c_anyM), (99, c_idxM), (79, c_badM), (75, c_anyT), (99, c_idxT), (76, c_badT), (77, c_may), (102, c_xattrs), (100, c_plain), (97, c_indexByte), (106, c_nul), (101, c_within)], ty := tyTab, hold := [] }
theorem XK816_ok : CtOk Try.prog XK816.ct := CtOk.cons w_may18 (CtOk.cons w_mayR (CtOk.cons w_xattrsR (CtOk.cons w_marks (CtOk.cons w_anyM (CtOk.cons w_idxM (CtOk.cons w_badM (CtOk.cons w_anyT (CtOk.cons w_idxT (CtOk.cons w_badT (CtOk.cons w_may (CtOk.cons w_xattrs (CtOk.cons w_plain (CtOk.cons w_indexByte (CtOk.cons w_nul (CtOk.cons w_within (CtOk.nil _))))))))))))))))
def vc_few : (List (tNode).den) → (SV → List HO → Prop) → Prop :=
  fun l Q =>
    List.length l ≤ (9223372036854775807 : Nat) →
      LoopP
        (fun i again =>
          List.length l ≤ (9223372036854775807 : Nat) →
            br (decide (i.fst.fst < (↑(List.length l) : Int)))
              (br (decide (i.fst.fst < (40 : Int)))
                ((0 : Int) ≤ i.fst.fst ∧
                  i.fst.fst < (↑(List.length l) : Int) ∧
                    (Ty.ok tNode (ixD tNode l i.fst.fst) →
                      JoinP
                        (fun k =>
                          List.length (ixD tNode l i.fst.fst).fst ≤ (9223372036854775807 : Nat) →
                            br (decide ((↑(List.length (ixD tNode l i.fst.fst).fst) : Int) > (18 : Int)))
                              ((0 : Int) ≤ boundV none (0 : Int) ∧
                                boundV none (0 : Int) ≤
                                    boundV (some (18 : Int)) (↑(List.length (ixD tNode l i.fst.fst).fst) : Int) ∧
                                  boundV (some (18 : Int)) (↑(List.length (ixD tNode l i.fst.fst).fst) : Int) ≤
                                      (↑(List.length (ixD tNode l i.fst.fst).fst) : Int) ∧
                                    k
                                      ((),
                                        (List.take
                                            (Int.toNat
                                                (boundV (some (18 : Int))
                                                  (↑(List.length (ixD tNode l i.fst.fst).fst) : Int)) -
                                              (0 : Nat))
                                            (List.drop (0 : Nat) (ixD tNode l i.fst.fst).fst),
                                          (ixD tNode l i.fst.fst).snd.fst, (ixD tNode l i.fst.fst).snd.snd.fst,
                                          (ixD tNode l i.fst.fst).snd.snd.snd.fst.fst,
                                          (ixD tNode l i.fst.fst).snd.snd.snd.fst.snd.fst,
                                          (ixD tNode l i.fst.fst).snd.snd.snd.fst.snd.snd.fst,
                                          (ixD tNode l i.fst.fst).snd.snd.snd.snd.fst,
                                          (ixD tNode l i.fst.fst).snd.snd.snd.snd.snd.fst,
                                          (ixD tNode l i.fst.fst).snd.snd.snd.snd.snd.snd.fst,
                                          (ixD tNode l i.fst.fst).snd.snd.snd.snd.snd.snd.snd.fst, ()),
                                        ()))
                              (k
                                ((),
                                  ((ixD tNode l i.fst.fst).fst, (ixD tNode l i.fst.fst).snd.fst,
                                    (ixD tNode l i.fst.fst).snd.snd.fst, (ixD tNode l i.fst.fst).snd.snd.snd.fst.fst,
                                    (ixD tNode l i.fst.fst).snd.snd.snd.fst.snd.fst,
                                    (ixD tNode l i.fst.fst).snd.snd.snd.fst.snd.snd.fst,
                                    (ixD tNode l i.fst.fst).snd.snd.snd.snd.fst,
                                    (ixD tNode l i.fst.fst).snd.snd.snd.snd.snd.fst,
                                    (ixD tNode l i.fst.fst).snd.snd.snd.snd.snd.snd.fst,
                                    (ixD tNode l i.fst.fst).snd.snd.snd.snd.snd.snd.snd.fst, ()),
                                  ())))
                        fun i_1 =>
                        JoinP
                          (fun k =>
                            List.length i_1.snd.fst.snd.snd.snd.snd.snd.snd.fst ≤ (9223372036854775807 : Nat) →
                              br (decide ((↑(List.length i_1.snd.fst.snd.snd.snd.snd.snd.snd.fst) : Int) > (1500 : Int)))
                                ((0 : Int) ≤ boundV none (0 : Int) ∧
                                  boundV none (0 : Int) ≤
                                      boundV (some (1500 : Int))
                                        (↑(List.length i_1.snd.fst.snd.snd.snd.snd.snd.snd.fst) : Int) ∧
                                    boundV (some (1500 : Int))
                                          (↑(List.length i_1.snd.fst.snd.snd.snd.snd.snd.snd.fst) : Int) ≤
                                        (↑(List.length i_1.snd.fst.snd.snd.snd.snd.snd.snd.fst) : Int) ∧
                                      k
                                        ((),
                                          (i_1.snd.fst.fst, i_1.snd.fst.snd.fst, i_1.snd.fst.snd.snd.fst,
                                            i_1.snd.fst.snd.snd.snd.fst, i_1.snd.fst.snd.snd.snd.snd.fst,
                                            i_1.snd.fst.snd.snd.snd.snd.snd.fst,
                                            List.take
                                              (Int.toNat
                                                  (boundV (some (1500 : Int))
                                                    (↑(List.length i_1.snd.fst.snd.snd.snd.snd.snd.snd.fst) : Int)) -
                                                (0 : Nat))
                                              (List.drop (0 : Nat) i_1.snd.fst.snd.snd.snd.snd.snd.snd.fst),
                                            i_1.snd.fst.snd.snd.snd.snd.snd.snd.snd.fst,
                                            i_1.snd.fst.snd.snd.snd.snd.snd.snd.snd.snd.fst,
                                            i_1.snd.fst.snd.snd.snd.snd.snd.snd.snd.snd.snd.fst, ()),
                                          ()))
                                (k
                                  ((),
                                    (i_1.snd.fst.fst, i_1.snd.fst.snd.fst, i_1.snd.fst.snd.snd.fst,
                                      i_1.snd.fst.snd.snd.snd.fst, i_1.snd.fst.snd.snd.snd.snd.fst,
                                      i_1.snd.fst.snd.snd.snd.snd.snd.fst, i_1.snd.fst.snd.snd.snd.snd.snd.snd.fst,
                                      i_1.snd.fst.snd.snd.snd.snd.snd.snd.snd.fst,
                                      i_1.snd.fst.snd.snd.snd.snd.snd.snd.snd.snd.fst,
                                      i_1.snd.fst.snd.snd.snd.snd.snd.snd.snd.snd.snd.fst, ()),
                                    ())))
                          fun i_2 =>
                          JoinP
                            (fun k =>
                              List.length i_2.snd.fst.snd.snd.snd.snd.snd.snd.snd.snd.fst ≤ (9223372036854775807 : Nat) →
                                br
                                  (decide
                                    ((↑(List.length i_2.snd.fst.snd.snd.snd.snd.snd.snd.snd.snd.fst) : Int) > (10 : Int)))
                                  ((0 : Int) ≤ boundV none (0 : Int) ∧
                                    boundV none (0 : Int) ≤
                                        boundV (some (10 : Int))
                                          (↑(List.length i_2.snd.fst.snd.snd.snd.snd.snd.snd.snd.snd.fst) : Int) ∧
                                      boundV (some (10 : Int))
                                            (↑(List.length i_2.snd.fst.snd.snd.snd.snd.snd.snd.snd.snd.fst) : Int) ≤
                                          (↑(List.length i_2.snd.fst.snd.snd.snd.snd.snd.snd.snd.snd.fst) : Int) ∧
                                        k
                                          ((),
                                            (i_2.snd.fst.fst, i_2.snd.fst.snd.fst, i_2.snd.fst.snd.snd.fst,
                                              i_2.snd.fst.snd.snd.snd.fst, i_2.snd.fst.snd.snd.snd.snd.fst,
                                              i_2.snd.fst.snd.snd.snd.snd.snd.fst,
                                              i_2.snd.fst.snd.snd.snd.snd.snd.snd.fst,
                                              i_2.snd.fst.snd.snd.snd.snd.snd.snd.snd.fst,
                                              List.take
                                                (Int.toNat
                                                    (boundV (some (10 : Int))
                                                      (↑(List.length i_2.snd.fst.snd.snd.snd.snd.snd.snd.snd.snd.fst) :
                                                        Int)) -
                                                  (0 : Nat))
                                                (List.drop (0 : Nat) i_2.snd.fst.snd.snd.snd.snd.snd.snd.snd.snd.fst),
                                              i_2.snd.fst.snd.snd.snd.snd.snd.snd.snd.snd.snd.fst, ()),
                                            ()))
                                  (k
                                    ((),
                                      (i_2.snd.fst.fst, i_2.snd.fst.snd.fst, i_2.snd.fst.snd.snd.fst,
                                        i_2.snd.fst.snd.snd.snd.fst, i_2.snd.fst.snd.snd.snd.snd.fst,
                                        i_2.snd.fst.snd.snd.snd.snd.snd.fst, i_2.snd.fst.snd.snd.snd.snd.snd.snd.fst,
                                        i_2.snd.fst.snd.snd.snd.snd.snd.snd.snd.fst,
                                        i_2.snd.fst.snd.snd.snd.snd.snd.snd.snd.snd.fst,
                                        i_2.snd.fst.snd.snd.snd.snd.snd.snd.snd.snd.snd.fst, ()),
                                      ())))
                            fun i_3 =>
                            (List.length i.fst.snd.fst +
                                    List.length
                                      [(i_3.snd.fst.fst, i_3.snd.fst.snd.fst, i_3.snd.fst.snd.snd.fst,
                                          (i_3.snd.fst.snd.snd.snd.fst, i_3.snd.fst.snd.snd.snd.snd.fst,
                                            i_3.snd.fst.snd.snd.snd.snd.snd.fst, ()),
                                          i_3.snd.fst.snd.snd.snd.snd.snd.snd.fst,
                                          i_3.snd.fst.snd.snd.snd.snd.snd.snd.snd.fst,
                                          i_3.snd.fst.snd.snd.snd.snd.snd.snd.snd.snd.fst,
                                          i_3.snd.fst.snd.snd.snd.snd.snd.snd.snd.snd.snd.fst, ())]) *
                                  (136 : Nat) ≤
                                (140737488355328 : Nat) ∧
                              List.length i.fst.snd.fst +
                                    List.length
                                      [(i_3.snd.fst.fst, i_3.snd.fst.snd.fst, i_3.snd.fst.snd.snd.fst,
                                          (i_3.snd.fst.snd.snd.snd.fst, i_3.snd.fst.snd.snd.snd.snd.fst,
                                            i_3.snd.fst.snd.snd.snd.snd.snd.fst, ()),
                                          i_3.snd.fst.snd.snd.snd.snd.snd.snd.fst,
                                          i_3.snd.fst.snd.snd.snd.snd.snd.snd.snd.fst,
                                          i_3.snd.fst.snd.snd.snd.snd.snd.snd.snd.snd.fst,
                                          i_3.snd.fst.snd.snd.snd.snd.snd.snd.snd.snd.snd.fst, ())] ≤
                                  (9223372036854775807 : Nat) ∧
                                inK IntKind.i64 (i.fst.fst + (1 : Int)) ∧
                                  again
                                    ((i.fst.fst + (1 : Int),
                                        i.fst.snd.fst ++
                                          [(i_3.snd.fst.fst, i_3.snd.fst.snd.fst, i_3.snd.fst.snd.snd.fst,
                                              (i_3.snd.fst.snd.snd.snd.fst, i_3.snd.fst.snd.snd.snd.snd.fst,
                                                i_3.snd.fst.snd.snd.snd.snd.snd.fst, ()),
                                              i_3.snd.fst.snd.snd.snd.snd.snd.snd.fst,
                                              i_3.snd.fst.snd.snd.snd.snd.snd.snd.snd.fst,
                                              i_3.snd.fst.snd.snd.snd.snd.snd.snd.snd.snd.fst,
                                              i_3.snd.fst.snd.snd.snd.snd.snd.snd.snd.snd.snd.fst, ())],
                                        ()),
                                      ())))
                (Q (SV.v (S1.c (Cl.o (0 : Nat)))) [HO.sl (28 : TypeId) tNode i.fst.snd.fst]))
              (Q (SV.v (S1.c (Cl.o (0 : Nat)))) [HO.sl (28 : TypeId) tNode i.fst.snd.fst]))
        (((0 : Int), [], ()), ())
theorem vc_few_eq (l : List (tNode).den) (Q : SV → List HO → Prop) : vFun XK816 ⟨[(4, ⟨[(4, .int .i64), (3, .own 28 tNode)], []⟩)], [(9, ⟨[], [(2, .cells 28 shNode)]⟩), (11, ⟨[], [(2, .cells 28 shNode)]⟩), (13, ⟨[], [(2, .cells 28 shNode)]⟩)]⟩ Try.f24 [.c (.d tNode l)] [] Q = vc_few l Q := by kernel_rfl
theorem w_few : ∀ args H Q, c_few args H Q → Wp Try.prog 24 args H Q := by
  intro args H Q h
  unfold c_few at h
  split at h
  · rename_i cl
    split at h
    · rename_i l hl
      refine Wp.said (args' := [.c (.d tNode l)]) (fun E g => RelVs.cons1 (of_list hl) (fun _ h => h)) ?_
      clear hl
      refine Wp.enter (X := XK816) XK816_ok ⟨[(4, ⟨[(4, .int .i64), (3, .own 28 tNode)], []⟩)], [(9, ⟨[], [(2, .cells 28 shNode)]⟩), (11, ⟨[], [(2, .cells 28 shNode)]⟩), (13, ⟨[], [(2, .cells 28 shNode)]⟩)]⟩ (fn := Try.f24) (by kernel_rfl) ?_
      have hv := vc_few_eq l Q
      rw [show vFun _ _ _ _ _ _ = _ from hv]
      unfold vc_few
      intro hl0
      refine LoopP.intro (fun i => 0 ≤ i.1.1 ∧ i.1.1 ≤ l.length ∧ i.1.1 ≤ 40 ∧ i.1.2.1 = (l.take i.1.1.toNat).map clipN) (fun i => l.length - i.1.1.toNat) ⟨by simp, by simp, by simp, by simp⟩ ?_
      rintro ⟨⟨i, out, _⟩, _⟩ ⟨h0, h1, h2, h3⟩
      simp only at h0 h1 h2 h3 ⊢
      intro _
      have fin : ¬ (i < l.length ∧ i < 40) → Q (.c (.o 0)) [.sl 28 tNode out] := fun hn => by
        have : l.take i.toNat = l.take 40 := by
          by_cases h4 : i < l.length
          · have : i = 40 := by omega
            subst this; rfl
          · rw [List.take_of_length_le (by omega), List.take_of_length_le (by omega)]
        rw [h3, this]; exact h
      refine br_of (fun hc => br_of (fun hc2 => ?_) (fun hc2 => fin ?_)) (fun hc => fin ?_)
      · have hc : i < l.length := by simpa using hc
        have hc2 : i < 40 := by simpa using hc2
        refine ⟨h0, hc, fun _ => ?_⟩
        have ht := take_ixD (e := tNode) h0 hc
        generalize ixD tNode l i = x at ht ⊢
        refine JoinP.intro (fun k => k.2.1 = (x.1.take 18, x.2.1, x.2.2.1, x.2.2.2.1.1, x.2.2.2.1.2.1, x.2.2.2.1.2.2.1, x.2.2.2.2.1, x.2.2.2.2.2.1, x.2.2.2.2.2.2.1, x.2.2.2.2.2.2.2.1, ())) ?_ ?_
        · intro _
          refine br_of (fun h4 => ?_) (fun h4 => ?_)
          · have h4 : (18 : Int) < x.1.length := by simpa using h4
            exact ⟨by simp [boundV], by simp [boundV], by simp [boundV]; omega, by simp [boundV]⟩
          · have h4 : ¬ (18 : Int) < x.1.length := by simpa using h4
            have h5 : x.1.take 18 = x.1 := List.take_of_length_le (by omega)
            simp [h5]
        rintro ⟨_, k1, _⟩ hk
        simp only at hk
        subst hk
        dsimp only
        refine JoinP.intro (fun k => k.2.1 = (x.1.take 18, x.2.1, x.2.2.1, x.2.2.2.1.1, x.2.2.2.1.2.1, x.2.2.2.1.2.2.1, x.2.2.2.2.1.take 1500, x.2.2.2.2.2.1, x.2.2.2.2.2.2.1, x.2.2.2.2.2.2.2.1, ())) ?_ ?_
        · intro _
          refine br_of (fun h4 => ?_) (fun h4 => ?_)
          · have h4 : (1500 : Int) < x.2.2.2.2.1.length := by simpa using h4
            exact ⟨by simp [boundV], by simp [boundV], by simp [boundV]; omega, by simp [boundV]⟩
          · have h4 : ¬ (1500 : Int) < x.2.2.2.2.1.length := by simpa using h4
            have h5 : x.2.2.2.2.1.take 1500 = x.2.2.2.2.1 := List.take_of_length_le (by omega)
            simp [h5]
        rintro ⟨_, k1, _⟩ hk
        simp only at hk
        subst hk
        dsimp only
        refine JoinP.intro (fun k => k.2.1 = (x.1.take 18, x.2.1, x.2.2.1, x.2.2.2.1.1, x.2.2.2.1.2.1, x.2.2.2.1.2.2.1, x.2.2.2.2.1.take 1500, x.2.2.2.2.2.1, x.2.2.2.2.2.2.1.take 10, x.2.2.2.2.2.2.2.1, ())) ?_ ?_
        · intro _
          refine br_of (fun h4 => ?_) (fun h4 => ?_)
          · have h4 : (10 : Int) < x.2.2.2.2.2.2.1.length := by simpa using h4
            exact ⟨by simp [boundV], by simp [boundV], by simp [boundV]; omega, by simp [boundV]⟩
          · have h4 : ¬ (10 : Int) < x.2.2.2.2.2.2.1.length := by simpa using h4
            have h5 : x.2.2.2.2.2.2.1.take 10 = x.2.2.2.2.2.2.1 := List.take_of_length_le (by omega)
            simp [h5]
        rintro ⟨_, k1, _⟩ hk
        simp only at hk
        subst hk
        dsimp only
        have hlen : out.length = i.toNat := by rw [h3, List.length_map, List.length_take]; omega
        refine ⟨by simp only [List.length_cons, List.length_nil, hlen]; omega, by simp only [List.length_cons, List.length_nil, hlen]; omega, by unfold inK; omega, ⟨by omega, by omega, by omega, ?_⟩, by omega⟩
        rw [ht, List.map_append, ← h3]; rfl
      · have : ¬ i < 40 := by simpa using hc2
        omega
      · have : ¬ i < l.length := by simpa using hc
        omega
    · exact h.elim
  · exact h.elim
end Go.Proofs

namespace Go.Proofs
open Go Go.Lm Go.RowKit
def c_validR : Ct
  | [.v (.c (.k (.string s)))], [], Q => Q (.int (validN s)) []
  | _, _, _ => False
noncomputable def XK917 : Vx := { P := Try.prog, ct := [(24, c_few), (49, c_may18), (82, c_mayR), (92, c_xattrsR), (45, c_marks), (75, c_anyM), (99, c_idxM), (79, c_badM), (75, c_anyT), (99, c_idxT), (76, c_badT), (77, c_may), (102, c_xattrs), (100, c_plain), (97, c_indexByte), (106, c_nul), (101, c_within)], ty := tyTab, hold := [] }
theorem XK917_ok : CtOk Try.prog XK917.ct := CtOk.cons w_few (CtOk.cons w_may18 (CtOk.cons w_mayR (CtOk.cons w_xattrsR (CtOk.cons w_marks (CtOk.cons w_anyM (CtOk.cons w_idxM (CtOk.cons w_badM (CtOk.cons w_anyT (CtOk.cons w_idxT (CtOk.cons w_badT (CtOk.cons w_may (CtOk.cons w_xattrs (CtOk.cons w_plain (CtOk.cons w_indexByte (CtOk.cons w_nul (CtOk.cons w_within (CtOk.nil _)))))))))))))))))
def vc_validR : (ByteArray) → (SV → List HO → Prop) → Prop :=
  fun s Q =>
    ByteArray.size s ≤ (9223372036854775807 : Nat) →
      br (decide ((↑(ByteArray.size s) : Int) > (255 : Int)))
        (Q (SV.v (S1.c (Cl.k (Value.int IntKind.i64 (23 : Int))))) [])
        (LoopP
          (fun i again =>
            br (decide (i.fst.fst < (↑(ByteArray.size s) : Int)))
              ((0 : Int) ≤ i.fst.fst ∧
                i.fst.fst < (↑(ByteArray.size s) : Int) ∧
                  br ((↑(UInt8.toNat (byteAt s i.fst.fst)) : Int) == (0 : Int))
                    (Q (SV.v (S1.c (Cl.k (Value.int IntKind.i64 (22 : Int))))) [])
                    ((0 : Int) ≤ i.fst.fst ∧
                      i.fst.fst < (↑(ByteArray.size s) : Int) ∧
                        br ((↑(UInt8.toNat (byteAt s i.fst.fst)) : Int) == (47 : Int))
                          (Q (SV.v (S1.c (Cl.k (Value.int IntKind.i64 (22 : Int))))) [])
                          (inK IntKind.i64 (i.fst.fst + (1 : Int)) ∧ again ((i.fst.fst + (1 : Int), ()), ()))))
              (br (sEq s (ByteArray.mk ( #[] ))) (Q (SV.v (S1.c (Cl.k (Value.int IntKind.i64 (22 : Int))))) [])
                (br (sEq s (ByteArray.mk ( #[(46 : UInt8)] ))) (Q (SV.v (S1.c (Cl.k (Value.int IntKind.i64 (22 : Int))))) [])
                  (br (sEq s (ByteArray.mk ( #[(46 : UInt8), (46 : UInt8)] )))
                    (Q (SV.v (S1.c (Cl.k (Value.int IntKind.i64 (22 : Int))))) [])
                    (Q (SV.v (S1.c (Cl.k (Value.int IntKind.i64 (0 : Int))))) [])))))
          (((0 : Int), ()), ()))
theorem vc_validR_eq (s : ByteArray) (Q : SV → List HO → Prop) : vFun XK917 ⟨[(5, ⟨[(3, .int .i64)], []⟩)], []⟩ Try.f104 [.str s] [] Q = vc_validR s Q := by kernel_rfl
theorem w_validR : ∀ args H Q, c_validR args H Q → Wp Try.prog 104 args H Q := by
  intro args H Q h
  unfold c_validR at h
  split at h
  · rename_i s
    refine Wp.enter (X := XK917) XK917_ok ⟨[(5, ⟨[(3, .int .i64)], []⟩)], []⟩ (fn := Try.f104) (by kernel_rfl) ?_
    have hv := vc_validR_eq s Q
    rw [show vFun _ _ _ _ _ _ = _ from hv]
    unfold vc_validR
    intro hs
    unfold validN at h
    refine br_of (fun h1 => ?_) (fun h1 => ?_)
    · rw [if_pos (by simpa using h1)] at h; exact h
    · rw [if_neg (by simpa using h1)] at h
      refine LoopP.intro (fun i => 0 ≤ i.1.1 ∧ i.1.1 ≤ s.size ∧ slashB s i.1.1.toNat = slashB s 0) (fun i => s.size - i.1.1.toNat) ⟨by simp, by simp, rfl⟩ ?_
      rintro ⟨⟨i, _⟩, _⟩ ⟨h0, h2, h3⟩
      simp only at h0 h2 h3 ⊢
      refine br_of (fun hc => ?_) (fun hc => ?_)
      · have hc : i < s.size := by simpa using hc
        have hst := slashB_step h0 hc
        refine ⟨h0, hc, br_of (fun hb => ?_) (fun hb => ⟨h0, hc, br_of (fun hd => ?_) (fun hd => ?_)⟩)⟩
        · rw [hb, Bool.true_or] at hst
          rw [← h3, hst] at h
          exact h
        · rw [hb, hd] at hst
          rw [← h3, hst] at h
          exact h
        · rw [hb, hd, Bool.false_or, Bool.false_or] at hst
          exact ⟨by unfold inK; omega, ⟨by omega, by omega, by rw [← hst, h3]⟩, by omega⟩
      · have hc : ¬ i < s.size := by simpa using hc
        rw [← h3, slashB_end hc h0, Bool.false_or] at h
        unfold dotsB at h
        refine br_of (fun h5 => ?_) (fun h5 => br_of (fun h6 => ?_) (fun h6 => br_of (fun h7 => ?_) (fun h7 => ?_)))
        · rw [h5] at h; exact h
        · rw [h5, h6] at h; exact h
        · rw [h5, h6, h7] at h; exact h
        · rw [h5, h6, h7] at h; exact h
  · exact h.elim
def c_sameR : Ct
  | [.v (.c ca), .v (.c cb)], [], Q => (match (Ty.sl Ty.str).of [ca] with
    | some (a, []) => (match (Ty.sl Ty.str).of [cb] with
    | some (b, []) => Q (.bool (sameN a b)) []
    | _ => False)
    | _ => False)
  | _, _, _ => False
noncomputable def XK918 : Vx := { P := Try.prog, ct := [(104, c_validR), (24, c_few), (49, c_may18), (82, c_mayR), (92, c_xattrsR), (45, c_marks), (75, c_anyM), (99, c_idxM), (79, c_badM), (75, c_anyT), (99, c_idxT), (76, c_badT), (77, c_may), (102, c_xattrs), (100, c_plain), (97, c_indexByte), (106, c_nul), (101, c_within)], ty := tyTab, hold := [] }
theorem XK918_ok : CtOk Try.prog XK918.ct := CtOk.cons w_validR (CtOk.cons w_few (CtOk.cons w_may18 (CtOk.cons w_mayR (CtOk.cons w_xattrsR (CtOk.cons w_marks (CtOk.cons w_anyM (CtOk.cons w_idxM (CtOk.cons w_badM (CtOk.cons w_anyT (CtOk.cons w_idxT (CtOk.cons w_badT (CtOk.cons w_may (CtOk.cons w_xattrs (CtOk.cons w_plain (CtOk.cons w_indexByte (CtOk.cons w_nul (CtOk.cons w_within (CtOk.nil _))))))))))))))))))
def vc_sameR : (List (Ty.str).den) → (List (Ty.str).den) → (SV → List HO → Prop) → Prop :=
  fun a b Q =>
    List.length a ≤ (9223372036854775807 : Nat) →
      List.length b ≤ (9223372036854775807 : Nat) →
        List.length a ≤ (9223372036854775807 : Nat) →
          List.length b ≤ (9223372036854775807 : Nat) →
            br ((↑(List.length a) : Int) != (↑(List.length b) : Int)) (Q (SV.v (S1.c (Cl.k (Value.bool false)))) [])
              (LoopP
                (fun i again =>
                  List.length a ≤ (9223372036854775807 : Nat) →
                    br (decide (i.fst.fst < (↑(List.length a) : Int)))
                      ((0 : Int) ≤ i.fst.fst ∧
                        i.fst.fst < (↑(List.length a) : Int) ∧
                          (Ty.ok Ty.str (ixD Ty.str a i.fst.fst) →
                            (0 : Int) ≤ i.fst.fst ∧
                              i.fst.fst < (↑(List.length b) : Int) ∧
                                (Ty.ok Ty.str (ixD Ty.str b i.fst.fst) →
                                  br (!sEq (ixD Ty.str a i.fst.fst) (ixD Ty.str b i.fst.fst))
                                    (Q (SV.v (S1.c (Cl.k (Value.bool false)))) [])
                                    (inK IntKind.i64 (i.fst.fst + (1 : Int)) ∧ again ((i.fst.fst + (1 : Int), ()), ())))))
                      (Q (SV.v (S1.c (Cl.k (Value.bool true)))) []))
                (((0 : Int), ()), ()))
theorem vc_sameR_eq (a : List (Ty.str).den) (b : List (Ty.str).den) (Q : SV → List HO → Prop) : vFun XK918 ⟨[(5, ⟨[(5, .int .i64)], []⟩)], []⟩ Try.f118 [.c (.d Ty.str a), .c (.d Ty.str b)] [] Q = vc_sameR a b Q := by kernel_rfl
theorem w_sameR : ∀ args H Q, c_sameR args H Q → Wp Try.prog 118 args H Q := by
  intro args H Q h
  unfold c_sameR at h
  split at h
  · rename_i ca cb
    split at h
    · rename_i a ha
      split at h
      · rename_i b hb
        refine Wp.said (args' := [.c (.d Ty.str a), .c (.d Ty.str b)]) (fun E g => RelVs.cons1 (of_list ha) (RelVs.cons1 (of_list hb) (fun _ h => h))) ?_
        clear ha hb
        refine Wp.enter (X := XK918) XK918_ok ⟨[(5, ⟨[(5, .int .i64)], []⟩)], []⟩ (fn := Try.f118) (by kernel_rfl) ?_
        have hv := vc_sameR_eq a b Q
        rw [show vFun _ _ _ _ _ _ = _ from hv]
        unfold vc_sameR
        intro _ _ _ _
        refine br_of (fun h1 => ?_) (fun h1 => ?_)
        · rw [sameN_len (by intro e; rw [e] at h1; simp at h1)] at h
          exact h
        · have hl : a.length = b.length := by
            have : ((a.length : Int) = b.length) := by simpa using h1
            omega
          refine LoopP.intro (fun i => 0 ≤ i.1.1 ∧ i.1.1 ≤ a.length ∧ sameN (a.drop i.1.1.toNat) (b.drop i.1.1.toNat) = sameN a b) (fun i => a.length - i.1.1.toNat) ⟨by simp, by simp, by simp⟩ ?_
          rintro ⟨⟨i, _⟩, _⟩ ⟨h0, h2, h3⟩
          simp only at h0 h2 h3 ⊢
          intro _
          refine br_of (fun hc => ?_) (fun hc => ?_)
          · have hc : i < a.length := by simpa using hc
            have hc2 : i < b.length := by omega
            rw [ixD_drop (e := .str) h0 hc, ixD_drop (e := .str) h0 hc2] at h3
            simp only [sameN] at h3
            refine ⟨h0, hc, fun _ => ⟨h0, hc2, fun _ => br_of (fun h4 => ?_) (fun h4 => ?_)⟩⟩
            · have h4 : sEq (ixD .str a i) (ixD .str b i) = false := by simpa using h4
              rw [h4, Bool.false_and] at h3
              rw [← h3] at h; exact h
            · have h4 : sEq (ixD .str a i) (ixD .str b i) = true := by simpa using h4
              rw [h4, Bool.true_and] at h3
              exact ⟨by unfold inK; omega, ⟨by omega, by omega, h3⟩, by omega⟩
          · have hc : ¬ i < a.length := by simpa using hc
            rw [drop_all hc, drop_all (by omega)] at h3
            simp only [sameN] at h3
            rw [← h3] at h; exact h
      · exact h.elim
    · exact h.elim
  · exact h.elim
end Go.Proofs

namespace Go.Proofs
open Go Go.Lm Go.RowKit
def c_find : Ct
  | [.v (.c cl), .v (.c ca)], [], Q => (match (Ty.sl tNode).of [cl] with
    | some (l, []) => (match (Ty.sl Ty.str).of [ca] with
    | some (a, []) => Q (.int (idxF (isNm a) l 0)) []
    | _ => False)
    | _ => False)
  | _, _, _ => False
noncomputable def XK1019 : Vx := { P := Try.prog, ct := [(118, c_sameR), (104, c_validR), (24, c_few), (49, c_may18), (82, c_mayR), (92, c_xattrsR), (45, c_marks), (75, c_anyM), (99, c_idxM), (79, c_badM), (75, c_anyT), (99, c_idxT), (76, c_badT), (77, c_may), (102, c_xattrs), (100, c_plain), (97, c_indexByte), (106, c_nul), (101, c_within)], ty := tyTab, hold := [] }
theorem XK1019_ok : CtOk Try.prog XK1019.ct := CtOk.cons w_sameR (CtOk.cons w_validR (CtOk.cons w_few (CtOk.cons w_may18 (CtOk.cons w_mayR (CtOk.cons w_xattrsR (CtOk.cons w_marks (CtOk.cons w_anyM (CtOk.cons w_idxM (CtOk.cons w_badM (CtOk.cons w_anyT (CtOk.cons w_idxT (CtOk.cons w_badT (CtOk.cons w_may (CtOk.cons w_xattrs (CtOk.cons w_plain (CtOk.cons w_indexByte (CtOk.cons w_nul (CtOk.cons w_within (CtOk.nil _)))))))))))))))))))
def vc_find : (List (tNode).den) → (List (Ty.str).den) → (SV → List HO → Prop) → Prop :=
  fun l a Q =>
    List.length l ≤ (9223372036854775807 : Nat) →
      List.length a ≤ (9223372036854775807 : Nat) →
        LoopP
          (fun i again =>
            List.length l ≤ (9223372036854775807 : Nat) →
              br (decide (i.fst.fst < (↑(List.length l) : Int)))
                ((0 : Int) ≤ i.fst.fst ∧
                  i.fst.fst < (↑(List.length l) : Int) ∧
                    (Ty.ok tNode (ixD tNode l i.fst.fst) →
                      br (sameN (ixD tNode l i.fst.fst).fst a)
                        (Q (SV.v (S1.c (Cl.k (Value.int IntKind.i64 i.fst.fst)))) [])
                        (inK IntKind.i64 (i.fst.fst + (1 : Int)) ∧ again ((i.fst.fst + (1 : Int), ()), ()))))
                (Q (SV.v (S1.c (Cl.k (Value.int IntKind.i64 (-1 : Int))))) []))
          (((0 : Int), ()), ())
theorem vc_find_eq (l : List (tNode).den) (a : List (Ty.str).den) (Q : SV → List HO → Prop) : vFun XK1019 ⟨[(3, ⟨[(5, .int .i64)], []⟩)], []⟩ Try.f105 [.c (.d tNode l), .c (.d Ty.str a)] [] Q = vc_find l a Q := by kernel_rfl
theorem w_find : ∀ args H Q, c_find args H Q → Wp Try.prog 105 args H Q := by
  intro args H Q h
  unfold c_find at h
  split at h
  · rename_i cl ca
    split at h
    · rename_i l hl
      split at h
      · rename_i a ha
        refine Wp.said (args' := [.c (.d tNode l), .c (.d Ty.str a)]) (fun E g => RelVs.cons1 (of_list hl) (RelVs.cons1 (of_list ha) (fun _ h => h))) ?_
        clear hl ha
        refine Wp.enter (X := XK1019) XK1019_ok ⟨[(3, ⟨[(5, .int .i64)], []⟩)], []⟩ (fn := Try.f105) (by kernel_rfl) ?_
        have hv := vc_find_eq l a Q
        rw [show vFun _ _ _ _ _ _ = _ from hv]
        unfold vc_find
        intro hl _
        refine LoopP.intro (fun i => 0 ≤ i.1.1 ∧ i.1.1 ≤ l.length ∧ idxF (isNm a) (l.drop i.1.1.toNat) i.1.1 = idxF (isNm a) l 0) (fun i => l.length - i.1.1.toNat) ⟨by simp, by simp, by simp⟩ ?_
        rintro ⟨⟨i, _⟩, _⟩ ⟨h0, h1, h2⟩
        simp only at h0 h1 h2 ⊢
        intro _
        refine br_of (fun hc => ?_) (fun hc => ?_)
        · have hc : i < l.length := by simpa using hc
          rw [ixD_drop (e := tNode) h0 hc] at h2
          refine ⟨h0, hc, fun _ => br_of (fun h3 => ?_) (fun h3 => ?_)⟩
          · have h3 : isNm a (ixD tNode l i) = true := h3
            simp only [idxF, h3, if_true] at h2
            rw [h2]; exact h
          · have h3 : isNm a (ixD tNode l i) = false := h3
            simp only [idxF, h3, Bool.false_eq_true, if_false] at h2
            exact ⟨by unfold inK; omega, ⟨by omega, by omega, h2⟩, by omega⟩
        · have hc : ¬ i < l.length := by simpa using hc
          rw [drop_all hc] at h2
          simp only [idxF] at h2
          rw [h2]; exact h
      · exact h.elim
    · exact h.elim
  · exact h.elim
def c_isDir : Ct
  | [.v (.c cl), .v (.c ca)], [], Q => (match (Ty.sl tNode).of [cl] with
    | some (l, []) => (match (Ty.sl Ty.str).of [ca] with
    | some (a, []) => Q (.bool (isDirB l a)) []
    | _ => False)
    | _ => False)
  | _, _, _ => False
noncomputable def XK1020 : Vx := { P := Try.prog, ct := [(105, c_find), (118, c_sameR), (104, c_validR), (24, c_few), (49, c_may18), (82, c_mayR), (92, c_xattrsR), (45, c_marks), (75, c_anyM), (99, c_idxM), (79, c_badM), (75, c_anyT), (99, c_idxT), (76, c_badT), (77, c_may), (102, c_xattrs), (100, c_plain), (97, c_indexByte), (106, c_nul), (101, c_within)], ty := tyTab, hold := [] }
theorem XK1020_ok : CtOk Try.prog XK1020.ct := CtOk.cons w_find (CtOk.cons w_sameR (CtOk.cons w_validR (CtOk.cons w_few (CtOk.cons w_may18 (CtOk.cons w_mayR (CtOk.cons w_xattrsR (CtOk.cons w_marks (CtOk.cons w_anyM (CtOk.cons w_idxM (CtOk.cons w_badM (CtOk.cons w_anyT (CtOk.cons w_idxT (CtOk.cons w_badT (CtOk.cons w_may (CtOk.cons w_xattrs (CtOk.cons w_plain (CtOk.cons w_indexByte (CtOk.cons w_nul (CtOk.cons w_within (CtOk.nil _))))))))))))))))))))
def vc_isDir : (List (tNode).den) → (List (Ty.str).den) → (SV → List HO → Prop) → Prop :=
  fun l a Q =>
    List.length l ≤ (9223372036854775807 : Nat) →
      List.length a ≤ (9223372036854775807 : Nat) →
        inK IntKind.i64 (idxF (isNm a) l (0 : Int)) →
          br (decide (idxF (isNm a) l (0 : Int) ≥ (0 : Int)))
            ((0 : Int) ≤ idxF (isNm a) l (0 : Int) ∧
              idxF (isNm a) l (0 : Int) < (↑(List.length l) : Int) ∧
                (Ty.ok tNode (ixD tNode l (idxF (isNm a) l (0 : Int))) →
                  Q (SV.v (S1.c (Cl.k (Value.bool ((ixD tNode l (idxF (isNm a) l (0 : Int))).snd.snd.fst == (1 : Int))))))
                    []))
            (Q (SV.v (S1.c (Cl.k (Value.bool false)))) [])
theorem vc_isDir_eq (l : List (tNode).den) (a : List (Ty.str).den) (Q : SV → List HO → Prop) : vFun XK1020 ⟨[], []⟩ Try.f81 [.c (.d tNode l), .c (.d Ty.str a)] [] Q = vc_isDir l a Q := by kernel_rfl
theorem w_isDir : ∀ args H Q, c_isDir args H Q → Wp Try.prog 81 args H Q := by
  intro args H Q h
  unfold c_isDir at h
  split at h
  · rename_i cl ca
    split at h
    · rename_i l hl
      split at h
      · rename_i a ha
        refine Wp.said (args' := [.c (.d tNode l), .c (.d Ty.str a)]) (fun E g => RelVs.cons1 (of_list hl) (RelVs.cons1 (of_list ha) (fun _ h => h))) ?_
        clear hl ha
        refine Wp.enter (X := XK1020) XK1020_ok ⟨[], []⟩ (fn := Try.f81) (by kernel_rfl) ?_
        have hv := vc_isDir_eq l a Q
        rw [show vFun _ _ _ _ _ _ = _ from hv]
        unfold vc_isDir
        intro _ _ _
        unfold isDirB at h
        rcases idxF_spec (p := isNm a) (l := l) (k := 0) with ⟨h1, h2⟩ | ⟨j, h1, h2, h3⟩
        · rw [h1]
          rw [h2] at h
          exact br_of (fun hc => by simp at hc) (fun _ => h)
        · rw [h1]
          rw [h3, List.getElem?_eq_getElem h2] at h
          refine br_of (fun hc => ⟨by omega, by omega, fun _ => ?_⟩) (fun hc => by simp at hc)
          have e : ixD tNode l (0 + (j : Int)) = l[j] := by
            unfold ixD
            rw [List.getD_eq_getElem?_getD, show (0 + (j : Int)).toNat = j by omega, List.getElem?_eq_getElem h2]; rfl
          rw [e]
          exact h
      · exact h.elim
    · exact h.elim
  · exact h.elim
end Go.Proofs

namespace Go.Proofs
open Go Go.Lm Go.RowKit
def c_opaque : Ct
  | [.v (.c cl)], [], Q => (match (Ty.sl tNode).of [cl] with
    | some (l, []) => Q (.bool (opqGo l [])) []
    | _ => False)
  | _, _, _ => False
noncomputable def XK1121 : Vx := { P := Try.prog, ct := [(81, c_isDir), (105, c_find), (118, c_sameR), (104, c_validR), (24, c_few), (49, c_may18), (82, c_mayR), (92, c_xattrsR), (45, c_marks), (75, c_anyM), (99, c_idxM), (79, c_badM), (75, c_anyT), (99, c_idxT), (76, c_badT), (77, c_may), (102, c_xattrs), (100, c_plain), (97, c_indexByte), (106, c_nul), (101, c_within)], ty := tyTab, hold := [] }
theorem XK1121_ok : CtOk Try.prog XK1121.ct := CtOk.cons w_isDir (CtOk.cons w_find (CtOk.cons w_sameR (CtOk.cons w_validR (CtOk.cons w_few (CtOk.cons w_may18 (CtOk.cons w_mayR (CtOk.cons w_xattrsR (CtOk.cons w_marks (CtOk.cons w_anyM (CtOk.cons w_idxM (CtOk.cons w_badM (CtOk.cons w_anyT (CtOk.cons w_idxT (CtOk.cons w_badT (CtOk.cons w_may (CtOk.cons w_xattrs (CtOk.cons w_plain (CtOk.cons w_indexByte (CtOk.cons w_nul (CtOk.cons w_within (CtOk.nil _)))))))))))))))))))))
def vc_opaque : (List (tNode).den) → (SV → List HO → Prop) → Prop :=
  fun l Q =>
    List.length l ≤ (9223372036854775807 : Nat) →
      List.length l ≤ (9223372036854775807 : Nat) →
        LoopP
          (fun i again =>
            br (decide (i.fst.fst < (↑(List.length l) : Int)))
              ((0 : Int) ≤ i.fst.fst ∧
                i.fst.fst < (↑(List.length l) : Int) ∧
                  (Ty.ok tNode (ixD tNode l i.fst.fst) →
                    Ty.ok Ty.bool (Option.getD (Kk.get Kk.int i.snd.fst (ixD tNode l i.fst.fst).snd.fst) false) →
                      br (Option.getD (Kk.get Kk.int i.snd.fst (ixD tNode l i.fst.fst).snd.fst) false)
                        (Q (SV.v (S1.c (Cl.k (Value.bool true)))) [])
                        (List.length i.snd.fst < (9223372036854775807 : Nat) ∧
                          inK IntKind.i64 (i.fst.fst + (1 : Int)) ∧
                            again
                              ((i.fst.fst + (1 : Int), ()),
                                Kk.put Kk.int i.snd.fst (ixD tNode l i.fst.fst).snd.fst
                                  ((ixD tNode l i.fst.fst).snd.snd.fst == (1 : Int)),
                                ()))))
              (Q (SV.v (S1.c (Cl.k (Value.bool false)))) []))
          (((0 : Int), ()), [], ())
theorem vc_opaque_eq (l : List (tNode).den) (Q : SV → List HO → Prop) : vFun XK1121 ⟨[(4, ⟨[(9, .int .i64)], [(0, .map 3 .int .bool)]⟩)], []⟩ Try.f46 [.c (.d tNode l)] [] Q = vc_opaque l Q := by kernel_rfl
theorem w_opaque : ∀ args H Q, c_opaque args H Q → Wp Try.prog 46 args H Q := by
  intro args H Q h
  unfold c_opaque at h
  split at h
  · rename_i cl
    split at h
    · rename_i l hl
      refine Wp.said (args' := [.c (.d tNode l)]) (fun E g => RelVs.cons1 (of_list hl) (fun _ h => h)) ?_
      clear hl
      refine Wp.enter (X := XK1121) XK1121_ok ⟨[(4, ⟨[(9, .int .i64)], [(0, .map 3 .int .bool)]⟩)], []⟩ (fn := Try.f46) (by kernel_rfl) ?_
      have hv := vc_opaque_eq l Q
      rw [show vFun _ _ _ _ _ _ = _ from hv]
      unfold vc_opaque
      intro hl _
      refine LoopP.intro (fun i => 0 ≤ i.1.1 ∧ i.1.1 ≤ l.length ∧ opqGo (l.drop i.1.1.toNat) i.2.1 = opqGo l [] ∧ (i.2.1.length : Int) ≤ i.1.1) (fun i => l.length - i.1.1.toNat) ⟨by simp, by simp, by simp, by simp⟩ ?_
      rintro ⟨⟨i, _⟩, m, _⟩ ⟨h0, h1, h2, h3⟩
      simp only at h0 h1 h2 h3 ⊢
      refine br_of (fun hc => ?_) (fun hc => ?_)
      · have hc : i < l.length := by simpa using hc
        rw [ixD_drop (e := tNode) h0 hc] at h2
        refine ⟨h0, hc, fun _ _ => br_of (fun h4 => ?_) (fun h4 => ?_)⟩
        · have h4 : (Kk.get .int m (ixD tNode l i).2.1).getD false = true := h4
          simp only [opqGo, h4, if_true] at h2
          rw [← h2] at h; exact h
        · have h4 : (Kk.get .int m (ixD tNode l i).2.1).getD false = false := h4
          simp only [opqGo, h4, Bool.false_eq_true, if_false] at h2
          have hp := put_len (k := .int) (l := m) (x := (ixD tNode l i).2.1) (v := ((ixD tNode l i).2.2.1 == 1))
          exact ⟨by omega, by unfold inK; omega, ⟨by omega, by omega, h2, by omega⟩, by omega⟩
      · have hc : ¬ i < l.length := by simpa using hc
        rw [drop_all hc] at h2
        simp only [opqGo] at h2
        rw [← h2] at h; exact h
    · exact h.elim
  · exact h.elim
end Go.Proofs

namespace Go.Proofs
open Go Go.Lm Go.RowKit
def eqB (a b : List UInt8) : Bool := sEq (bstr a) (bstr b)
def c_bequal : Ct
  | [.v (.c ca), .v (.c cb)], [], Q => (match (Ty.sl Ty.u8).of [ca] with
    | some (a, []) => (match (Ty.sl Ty.u8).of [cb] with
    | some (b, []) => Q (.bool (eqB a b)) []
    | _ => False)
    | _ => False)
  | _, _, _ => False
noncomputable def XK1222 : Vx := { P := Try.prog, ct := [(46, c_opaque), (81, c_isDir), (105, c_find), (118, c_sameR), (104, c_validR), (24, c_few), (49, c_may18), (82, c_mayR), (92, c_xattrsR), (45, c_marks), (75, c_anyM), (99, c_idxM), (79, c_badM), (75, c_anyT), (99, c_idxT), (76, c_badT), (77, c_may), (102, c_xattrs), (100, c_plain), (97, c_indexByte), (106, c_nul), (101, c_within)], ty := tyTab, hold := [] }
theorem XK1222_ok : CtOk Try.prog XK1222.ct := CtOk.cons w_opaque (CtOk.cons w_isDir (CtOk.cons w_find (CtOk.cons w_sameR (CtOk.cons w_validR (CtOk.cons w_few (CtOk.cons w_may18 (CtOk.cons w_mayR (CtOk.cons w_xattrsR (CtOk.cons w_marks (CtOk.cons w_anyM (CtOk.cons w_idxM (CtOk.cons w_badM (CtOk.cons w_anyT (CtOk.cons w_idxT (CtOk.cons w_badT (CtOk.cons w_may (CtOk.cons w_xattrs (CtOk.cons w_plain (CtOk.cons w_indexByte (CtOk.cons w_nul (CtOk.cons w_within (CtOk.nil _))))))))))))))))))))))
def vc_bequal : (List (Ty.u8).den) → (List (Ty.u8).den) → (SV → List HO → Prop) → Prop :=
  fun a b Q =>
    List.length a ≤ (9223372036854775807 : Nat) →
      List.length b ≤ (9223372036854775807 : Nat) → Q (SV.v (S1.c (Cl.k (Value.bool (sEq (bstr a) (bstr b)))))) []
theorem vc_bequal_eq (a : List (Ty.u8).den) (b : List (Ty.u8).den) (Q : SV → List HO → Prop) : vFun XK1222 ⟨[], []⟩ Try.f116 [.c (.d Ty.u8 a), .c (.d Ty.u8 b)] [] Q = vc_bequal a b Q := by kernel_rfl
theorem w_bequal : ∀ args H Q, c_bequal args H Q → Wp Try.prog 116 args H Q := by
  intro args H Q h
  unfold c_bequal at h
  split at h
  · rename_i ca cb
    split at h
    · rename_i a ha
      split at h
      · rename_i b hb
        refine Wp.said (args' := [.c (.d Ty.u8 a), .c (.d Ty.u8 b)]) (fun E g => RelVs.cons1 (of_list ha) (RelVs.cons1 (of_list hb) (fun _ h => h))) ?_
        clear ha hb
        refine Wp.enter (X := XK1222) XK1222_ok ⟨[], []⟩ (fn := Try.f116) (by kernel_rfl) ?_
        have hv := vc_bequal_eq a b Q
        rw [show vFun _ _ _ _ _ _ = _ from hv]
        unfold vc_bequal
        intros
        exact h
      · exact h.elim
    · exact h.elim
  · exact h.elim
def alikeX (x y : XaD) : Bool := sEq x.1 y.1 && eqB x.2.1 y.2.1
def c_alikeX : Ct
  | [.v (.agg cx), .v (.agg cy)], [], Q => (match (tXattr).of cx with
    | some (x, []) => (match (tXattr).of cy with
    | some (y, []) => Q (.bool (alikeX x y)) []
    | _ => False)
    | _ => False)
  | _, _, _ => False
noncomputable def XK1223 : Vx := { P := Try.prog, ct := [(116, c_bequal), (46, c_opaque), (81, c_isDir), (105, c_find), (118, c_sameR), (104, c_validR), (24, c_few), (49, c_may18), (82, c_mayR), (92, c_xattrsR), (45, c_marks), (75, c_anyM), (99, c_idxM), (79, c_badM), (75, c_anyT), (99, c_idxT), (76, c_badT), (77, c_may), (102, c_xattrs), (100, c_plain), (97, c_indexByte), (106, c_nul), (101, c_within)], ty := tyTab, hold := [] }
theorem XK1223_ok : CtOk Try.prog XK1223.ct := CtOk.cons w_bequal (CtOk.cons w_opaque (CtOk.cons w_isDir (CtOk.cons w_find (CtOk.cons w_sameR (CtOk.cons w_validR (CtOk.cons w_few (CtOk.cons w_may18 (CtOk.cons w_mayR (CtOk.cons w_xattrsR (CtOk.cons w_marks (CtOk.cons w_anyM (CtOk.cons w_idxM (CtOk.cons w_badM (CtOk.cons w_anyT (CtOk.cons w_idxT (CtOk.cons w_badT (CtOk.cons w_may (CtOk.cons w_xattrs (CtOk.cons w_plain (CtOk.cons w_indexByte (CtOk.cons w_nul (CtOk.cons w_within (CtOk.nil _)))))))))))))))))))))))
def vc_alikeX : ((tXattr).den) → ((tXattr).den) → (SV → List HO → Prop) → Prop :=
  fun x y Q =>
    ByteArray.size x.fst ≤ (9223372036854775807 : Nat) →
      List.length x.snd.fst ≤ (9223372036854775807 : Nat) →
        ByteArray.size y.fst ≤ (9223372036854775807 : Nat) →
          List.length y.snd.fst ≤ (9223372036854775807 : Nat) →
            br (sEq x.fst y.fst) (Q (SV.v (S1.c (Cl.k (Value.bool (eqB x.snd.fst y.snd.fst))))) [])
              (Q (SV.v (S1.c (Cl.k (Value.bool false)))) [])
theorem vc_alikeX_eq (x : (tXattr).den) (y : (tXattr).den) (Q : SV → List HO → Prop) : vFun XK1223 ⟨[], []⟩ Try.f115 [.v (.agg (Ty.cells tXattr x)), .v (.agg (Ty.cells tXattr y))] [] Q = vc_alikeX x y Q := by kernel_rfl
theorem w_alikeX : ∀ args H Q, c_alikeX args H Q → Wp Try.prog 115 args H Q := by
  intro args H Q h
  unfold c_alikeX at h
  split at h
  · rename_i cx cy
    split at h
    · rename_i x hx
      split at h
      · rename_i y hy
        refine Wp.said (args' := [.v (.agg (Ty.cells tXattr x)), .v (.agg (Ty.cells tXattr y))]) (fun E g => RelVs.cons1 (of_row hx) (RelVs.cons1 (of_row hy) (fun _ h => h))) ?_
        clear hx hy
        refine Wp.enter (X := XK1223) XK1223_ok ⟨[], []⟩ (fn := Try.f115) (by kernel_rfl) ?_
        have hv := vc_alikeX_eq x y Q
        rw [show vFun _ _ _ _ _ _ = _ from hv]
        unfold vc_alikeX
        unfold alikeX at h
        intros
        refine br_of (fun hc => ?_) (fun hc => ?_) <;> rw [hc] at h <;> first | exact h | (intros; exact h)
      · exact h.elim
    · exact h.elim
  · exact h.elim
end Go.Proofs

namespace Go.Proofs
open Go Go.Lm Go.RowKit
def alikeXs : List XaD → List XaD → Bool
  | [], [] => true
  | x :: a, y :: b => alikeX x y && alikeXs a b
  | _, _ => false
theorem alikeXs_len : ∀ {a b : List XaD}, a.length ≠ b.length → alikeXs a b = false
  | [], [], h => absurd rfl h
  | _ :: a, _ :: b, h => by
    unfold alikeXs
    rw [alikeXs_len (a := a) (b := b) (by simpa using h), Bool.and_false]
  | [], _ :: _, _ => rfl
  | _ :: _, [], _ => rfl
def c_eqXs : Ct
  | [.v (.c ca), .v (.c cb), .v (.c (.fn 115 []))], [], Q => (match (Ty.sl tXattr).of [ca] with
    | some (a, []) => (match (Ty.sl tXattr).of [cb] with
    | some (b, []) => Q (.bool (alikeXs a b)) []
    | _ => False)
    | _ => False)
  | _, _, _ => False
noncomputable def XK1324 : Vx := { P := Try.prog, ct := [(115, c_alikeX), (116, c_bequal), (46, c_opaque), (81, c_isDir), (105, c_find), (118, c_sameR), (104, c_validR), (24, c_few), (49, c_may18), (82, c_mayR), (92, c_xattrsR), (45, c_marks), (75, c_anyM), (99, c_idxM), (79, c_badM), (75, c_anyT), (99, c_idxT), (76, c_badT), (77, c_may), (102, c_xattrs), (100, c_plain), (97, c_indexByte), (106, c_nul), (101, c_within)], ty := tyTab, hold := [] }
theorem XK1324_ok : CtOk Try.prog XK1324.ct := CtOk.cons w_alikeX (CtOk.cons w_bequal (CtOk.cons w_opaque (CtOk.cons w_isDir (CtOk.cons w_find (CtOk.cons w_sameR (CtOk.cons w_validR (CtOk.cons w_few (CtOk.cons w_may18 (CtOk.cons w_mayR (CtOk.cons w_xattrsR (CtOk.cons w_marks (CtOk.cons w_anyM (CtOk.cons w_idxM (CtOk.cons w_badM (CtOk.cons w_anyT (CtOk.cons w_idxT (CtOk.cons w_badT (CtOk.cons w_may (CtOk.cons w_xattrs (CtOk.cons w_plain (CtOk.cons w_indexByte (CtOk.cons w_nul (CtOk.cons w_within (CtOk.nil _))))))))))))))))))))))))
def vc_eqXs : (List (tXattr).den) → (List (tXattr).den) → (SV → List HO → Prop) → Prop :=
  fun a b Q =>
    List.length a ≤ (9223372036854775807 : Nat) →
      List.length b ≤ (9223372036854775807 : Nat) →
        List.length a ≤ (9223372036854775807 : Nat) →
          List.length b ≤ (9223372036854775807 : Nat) →
            br ((↑(List.length a) : Int) != (↑(List.length b) : Int)) (Q (SV.v (S1.c (Cl.k (Value.bool false)))) [])
              (List.length a ≤ (9223372036854775807 : Nat) →
                LoopP
                  (fun i again =>
                    br (decide (i.fst.fst < (↑(List.length a) : Int)))
                      ((0 : Int) ≤ i.fst.fst ∧
                        i.fst.fst < (↑(List.length a) : Int) ∧
                          (Ty.ok tXattr (ixD tXattr a i.fst.fst) →
                            (0 : Int) ≤ i.fst.fst ∧
                              i.fst.fst < (↑(List.length b) : Int) ∧
                                (Ty.ok tXattr (ixD tXattr b i.fst.fst) →
                                  br
                                    (!alikeX ((ixD tXattr a i.fst.fst).fst, (ixD tXattr a i.fst.fst).snd.fst, ())
                                        ((ixD tXattr b i.fst.fst).fst, (ixD tXattr b i.fst.fst).snd.fst, ()))
                                    (Q (SV.v (S1.c (Cl.k (Value.bool false)))) [])
                                    (inK IntKind.i64 (i.fst.fst + (1 : Int)) ∧ again ((i.fst.fst + (1 : Int), ()), ())))))
                      (Q (SV.v (S1.c (Cl.k (Value.bool true)))) []))
                  (((0 : Int), ()), ()))
theorem vc_eqXs_eq (a : List (tXattr).den) (b : List (tXattr).den) (Q : SV → List HO → Prop) : vFun XK1324 ⟨[(5, ⟨[(17, .int .i64)], []⟩)], []⟩ Try.f117 [.c (.d tXattr a), .c (.d tXattr b), .c (.fn 115 [])] [] Q = vc_eqXs a b Q := by kernel_rfl
theorem w_eqXs : ∀ args H Q, c_eqXs args H Q → Wp Try.prog 117 args H Q := by
  intro args H Q h
  unfold c_eqXs at h
  split at h
  · rename_i ca cb
    split at h
    · rename_i a ha
      split at h
      · rename_i b hb
        refine Wp.said (args' := [.c (.d tXattr a), .c (.d tXattr b), .c (.fn 115 [])]) (fun E g => RelVs.cons1 (of_list ha) (RelVs.cons1 (of_list hb) (RelVs.cons1 (fun _ h => h) (fun _ h => h)))) ?_
        clear ha hb
        refine Wp.enter (X := XK1324) XK1324_ok ⟨[(5, ⟨[(17, .int .i64)], []⟩)], []⟩ (fn := Try.f117) (by kernel_rfl) ?_
        have hv := vc_eqXs_eq a b Q
        rw [show vFun _ _ _ _ _ _ = _ from hv]
        unfold vc_eqXs
        intro _ _ _ _
        refine br_of (fun h1 => ?_) (fun h1 => ?_)
        · rw [alikeXs_len (by intro e; rw [e] at h1; simp at h1)] at h
          exact h
        · have hl : a.length = b.length := by
            have : (a.length : Int) = (b.length : Int) := by simpa only [bne_eq_false_iff_eq] using h1
            omega
          intro _
          refine LoopP.intro (fun i => 0 ≤ i.1.1 ∧ i.1.1 ≤ a.length ∧ alikeXs (a.drop i.1.1.toNat) (b.drop i.1.1.toNat) = alikeXs a b) (fun i => a.length - i.1.1.toNat) ⟨by simp, by simp, by simp⟩ ?_
          rintro ⟨⟨i, _⟩, _⟩ ⟨h0, h2, h3⟩
          simp only at h0 h2 h3 ⊢
          refine br_of (fun hc => ?_) (fun hc => ?_)
          · have hc : i < a.length := by simpa using hc
            have hc2 : i < b.length := by omega
            rw [ixD_drop (e := tXattr) h0 hc, ixD_drop (e := tXattr) h0 hc2] at h3
            simp only [alikeXs] at h3
            refine ⟨h0, hc, fun _ => ⟨h0, hc2, fun _ => br_of (fun h4 => ?_) (fun h4 => ?_)⟩⟩
            · have h4 : alikeX (ixD tXattr a i) (ixD tXattr b i) = false := by simpa using h4
              rw [h4, Bool.false_and] at h3
              rw [← h3] at h; exact h
            · have h4 : alikeX (ixD tXattr a i) (ixD tXattr b i) = true := by simpa using h4
              rw [h4, Bool.true_and] at h3
              exact ⟨by unfold inK; omega, ⟨by omega, by omega, h3⟩, by omega⟩
          · have hc : ¬ i < a.length := by simpa using hc
            rw [drop_all hc, drop_all (by omega)] at h3
            simp only [alikeXs] at h3
            rw [← h3] at h; exact h
      · exact h.elim
    · exact h.elim
  · exact h.elim
end Go.Proofs

namespace Go.Proofs
open Go Go.Lm Go.RowKit
def alikeN (x y : NoD) : Bool := x.2.2.1 == y.2.2.1 && ((x.2.2.2.1.1 == y.2.2.2.1.1 && (x.2.2.2.1.2.1 == y.2.2.2.1.2.1 && (x.2.2.2.1.2.2.1 == y.2.2.2.1.2.2.1 && true))) && (sEq x.2.2.2.2.2.1 y.2.2.2.2.2.1 && (x.2.2.2.2.2.2.2.1 == y.2.2.2.2.2.2.2.1 && (eqB x.2.2.2.2.1 y.2.2.2.2.1 && alikeXs x.2.2.2.2.2.2.1 y.2.2.2.2.2.2.1))))
def c_alike : Ct
  | [.v (.agg cx), .v (.agg cy)], [], Q => (match (tNode).of cx with
    | some (x, []) => (match (tNode).of cy with
    | some (y, []) => Q (.bool (alikeN x y)) []
    | _ => False)
    | _ => False)
  | _, _, _ => False
noncomputable def XK1425 : Vx := { P := Try.prog, ct := [(117, c_eqXs), (115, c_alikeX), (116, c_bequal), (46, c_opaque), (81, c_isDir), (105, c_find), (118, c_sameR), (104, c_validR), (24, c_few), (49, c_may18), (82, c_mayR), (92, c_xattrsR), (45, c_marks), (75, c_anyM), (99, c_idxM), (79, c_badM), (75, c_anyT), (99, c_idxT), (76, c_badT), (77, c_may), (102, c_xattrs), (100, c_plain), (97, c_indexByte), (106, c_nul), (101, c_within)], ty := tyTab, hold := [] }
theorem XK1425_ok : CtOk Try.prog XK1425.ct := CtOk.cons w_eqXs (CtOk.cons w_alikeX (CtOk.cons w_bequal (CtOk.cons w_opaque (CtOk.cons w_isDir (CtOk.cons w_find (CtOk.cons w_sameR (CtOk.cons w_validR (CtOk.cons w_few (CtOk.cons w_may18 (CtOk.cons w_mayR (CtOk.cons w_xattrsR (CtOk.cons w_marks (CtOk.cons w_anyM (CtOk.cons w_idxM (CtOk.cons w_badM (CtOk.cons w_anyT (CtOk.cons w_idxT (CtOk.cons w_badT (CtOk.cons w_may (CtOk.cons w_xattrs (CtOk.cons w_plain (CtOk.cons w_indexByte (CtOk.cons w_nul (CtOk.cons w_within (CtOk.nil _)))))))))))))))))))))))))
def vc_alike : ((tNode).den) → ((tNode).den) → (SV → List HO → Prop) → Prop :=
  fun x y Q =>
    List.length x.fst ≤ (9223372036854775807 : Nat) →
      inK IntKind.i64 x.snd.fst →
        inK IntKind.i64 x.snd.snd.fst →
          inK IntKind.i64 x.snd.snd.snd.fst.fst →
            inK IntKind.i64 x.snd.snd.snd.fst.snd.fst →
              inK IntKind.i64 x.snd.snd.snd.fst.snd.snd.fst →
                List.length x.snd.snd.snd.snd.fst ≤ (9223372036854775807 : Nat) →
                  ByteArray.size x.snd.snd.snd.snd.snd.fst ≤ (9223372036854775807 : Nat) →
                    List.length x.snd.snd.snd.snd.snd.snd.fst ≤ (9223372036854775807 : Nat) →
                      List.length y.fst ≤ (9223372036854775807 : Nat) →
                        inK IntKind.i64 y.snd.fst →
                          inK IntKind.i64 y.snd.snd.fst →
                            inK IntKind.i64 y.snd.snd.snd.fst.fst →
                              inK IntKind.i64 y.snd.snd.snd.fst.snd.fst →
                                inK IntKind.i64 y.snd.snd.snd.fst.snd.snd.fst →
                                  List.length y.snd.snd.snd.snd.fst ≤ (9223372036854775807 : Nat) →
                                    ByteArray.size y.snd.snd.snd.snd.snd.fst ≤ (9223372036854775807 : Nat) →
                                      List.length y.snd.snd.snd.snd.snd.snd.fst ≤ (9223372036854775807 : Nat) →
                                        br (x.snd.snd.fst == y.snd.snd.fst)
                                          (br
                                            (x.snd.snd.snd.fst.fst == y.snd.snd.snd.fst.fst &&
                                              (x.snd.snd.snd.fst.snd.fst == y.snd.snd.snd.fst.snd.fst &&
                                                (x.snd.snd.snd.fst.snd.snd.fst == y.snd.snd.snd.fst.snd.snd.fst && true)))
                                            (br (sEq x.snd.snd.snd.snd.snd.fst y.snd.snd.snd.snd.snd.fst)
                                              (br (x.snd.snd.snd.snd.snd.snd.snd.fst == y.snd.snd.snd.snd.snd.snd.snd.fst)
                                                (br (eqB x.snd.snd.snd.snd.fst y.snd.snd.snd.snd.fst)
                                                  (Q
                                                    (SV.v
                                                      (S1.c
                                                        (Cl.k
                                                          (Value.bool
                                                            (alikeXs x.snd.snd.snd.snd.snd.snd.fst
                                                              y.snd.snd.snd.snd.snd.snd.fst)))))
                                                    [])
                                                  (Q (SV.v (S1.c (Cl.k (Value.bool false)))) []))
                                                (Q (SV.v (S1.c (Cl.k (Value.bool false)))) []))
                                              (Q (SV.v (S1.c (Cl.k (Value.bool false)))) []))
                                            (Q (SV.v (S1.c (Cl.k (Value.bool false)))) []))
                                          (Q (SV.v (S1.c (Cl.k (Value.bool false)))) [])
theorem vc_alike_eq (x : (tNode).den) (y : (tNode).den) (Q : SV → List HO → Prop) : vFun XK1425 ⟨[], []⟩ Try.f103 [.v (.agg (Ty.cells tNode x)), .v (.agg (Ty.cells tNode y))] [] Q = vc_alike x y Q := by kernel_rfl
theorem w_alike : ∀ args H Q, c_alike args H Q → Wp Try.prog 103 args H Q := by
  intro args H Q h
  unfold c_alike at h
  split at h
  · rename_i cx cy
    split at h
    · rename_i x hx
      split at h
      · rename_i y hy
        refine Wp.said (args' := [.v (.agg (Ty.cells tNode x)), .v (.agg (Ty.cells tNode y))]) (fun E g => RelVs.cons1 (of_row hx) (RelVs.cons1 (of_row hy) (fun _ h => h))) ?_
        clear hx hy
        refine Wp.enter (X := XK1425) XK1425_ok ⟨[], []⟩ (fn := Try.f103) (by kernel_rfl) ?_
        have hv := vc_alike_eq x y Q
        rw [show vFun _ _ _ _ _ _ = _ from hv]
        unfold vc_alike
        unfold alikeN at h
        intro _ _ _ _ _ _ _ _ _ _ _ _ _ _ _ _ _ _
        repeat' (first | refine br_of (fun hc => ?_) (fun hc => ?_) | intro _)
        all_goals refine Eq.mp (congrArg (fun z => Q (SV.bool z) []) ?_) h
        all_goals clear hv h
        all_goals simp only [*, Bool.true_and, Bool.false_and, Bool.and_false]
      · exact h.elim
    · exact h.elim
  · exact h.elim
end Go.Proofs

namespace Go.Proofs
open Go Go.Lm Go.RowKit
def linkGo : List NoD → List (Int × NoD) → Int
  | [], _ => 0
  | x :: r, m => match Kk.get .int m x.2.1 with
    | some o => if x.2.2.1 == 1 || !alikeN x o then 8 else linkGo r m
    | none => linkGo r (Kk.put .int m x.2.1 x)
def c_linked : Ct
  | [.v (.c cl)], [], Q => (match (Ty.sl tNode).of [cl] with
    | some (l, []) => Q (.int (linkGo l [])) []
    | _ => False)
  | _, _, _ => False
noncomputable def XK1526 : Vx := { P := Try.prog, ct := [(103, c_alike), (117, c_eqXs), (115, c_alikeX), (116, c_bequal), (46, c_opaque), (81, c_isDir), (105, c_find), (118, c_sameR), (104, c_validR), (24, c_few), (49, c_may18), (82, c_mayR), (92, c_xattrsR), (45, c_marks), (75, c_anyM), (99, c_idxM), (79, c_badM), (75, c_anyT), (99, c_idxT), (76, c_badT), (77, c_may), (102, c_xattrs), (100, c_plain), (97, c_indexByte), (106, c_nul), (101, c_within)], ty := tyTab, hold := [] }
theorem XK1526_ok : CtOk Try.prog XK1526.ct := CtOk.cons w_alike (CtOk.cons w_eqXs (CtOk.cons w_alikeX (CtOk.cons w_bequal (CtOk.cons w_opaque (CtOk.cons w_isDir (CtOk.cons w_find (CtOk.cons w_sameR (CtOk.cons w_validR (CtOk.cons w_few (CtOk.cons w_may18 (CtOk.cons w_mayR (CtOk.cons w_xattrsR (CtOk.cons w_marks (CtOk.cons w_anyM (CtOk.cons w_idxM (CtOk.cons w_badM (CtOk.cons w_anyT (CtOk.cons w_idxT (CtOk.cons w_badT (CtOk.cons w_may (CtOk.cons w_xattrs (CtOk.cons w_plain (CtOk.cons w_indexByte (CtOk.cons w_nul (CtOk.cons w_within (CtOk.nil _))))))))))))))))))))))))))
def vc_linked : (List (tNode).den) → (SV → List HO → Prop) → Prop :=
  fun l Q =>
    List.length l ≤ (9223372036854775807 : Nat) →
      List.length l ≤ (9223372036854775807 : Nat) →
        LoopP
          (fun i again =>
            br (decide (i.fst.fst < (↑(List.length l) : Int)))
              ((0 : Int) ≤ i.fst.fst ∧
                i.fst.fst < (↑(List.length l) : Int) ∧
                  (Ty.ok tNode (ixD tNode l i.fst.fst) →
                    Ty.ok tNode
                        (Option.getD (Kk.get Kk.int i.snd.fst (ixD tNode l i.fst.fst).snd.fst)
                          ([], (0 : Int), (0 : Int), ((0 : Int), (0 : Int), (0 : Int), ()), [], (ByteArray.mk ( #[] )), [],
                            false, ())) →
                      br (Option.isSome (Kk.get Kk.int i.snd.fst (ixD tNode l i.fst.fst).snd.fst))
                        (br ((ixD tNode l i.fst.fst).snd.snd.fst == (1 : Int))
                          (Q (SV.v (S1.c (Cl.k (Value.int IntKind.i64 (8 : Int))))) [])
                          (br
                            (!alikeN
                                ((ixD tNode l i.fst.fst).fst, (ixD tNode l i.fst.fst).snd.fst,
                                  (ixD tNode l i.fst.fst).snd.snd.fst,
                                  ((ixD tNode l i.fst.fst).snd.snd.snd.fst.fst,
                                    (ixD tNode l i.fst.fst).snd.snd.snd.fst.snd.fst,
                                    (ixD tNode l i.fst.fst).snd.snd.snd.fst.snd.snd.fst, ()),
                                  (ixD tNode l i.fst.fst).snd.snd.snd.snd.fst,
                                  (ixD tNode l i.fst.fst).snd.snd.snd.snd.snd.fst,
                                  (ixD tNode l i.fst.fst).snd.snd.snd.snd.snd.snd.fst,
                                  (ixD tNode l i.fst.fst).snd.snd.snd.snd.snd.snd.snd.fst, ())
                                ((Option.getD (Kk.get Kk.int i.snd.fst (ixD tNode l i.fst.fst).snd.fst)
                                      ([], (0 : Int), (0 : Int), ((0 : Int), (0 : Int), (0 : Int), ()), [],
                                        (ByteArray.mk ( #[] )), [], false, ())).fst,
                                  (Option.getD (Kk.get Kk.int i.snd.fst (ixD tNode l i.fst.fst).snd.fst)
                                        ([], (0 : Int), (0 : Int), ((0 : Int), (0 : Int), (0 : Int), ()), [],
                                          (ByteArray.mk ( #[] )), [], false, ())).snd.fst,
                                  (Option.getD (Kk.get Kk.int i.snd.fst (ixD tNode l i.fst.fst).snd.fst)
                                          ([], (0 : Int), (0 : Int), ((0 : Int), (0 : Int), (0 : Int), ()), [],
                                            (ByteArray.mk ( #[] )), [], false, ())).snd.snd.fst,
                                  ((Option.getD (Kk.get Kk.int i.snd.fst (ixD tNode l i.fst.fst).snd.fst)
                                                ([], (0 : Int), (0 : Int), ((0 : Int), (0 : Int), (0 : Int), ()), [],
                                                  (ByteArray.mk ( #[] )), [], false, ())).snd.snd.snd.fst.fst,
                                    (Option.getD (Kk.get Kk.int i.snd.fst (ixD tNode l i.fst.fst).snd.fst)
                                                  ([], (0 : Int), (0 : Int), ((0 : Int), (0 : Int), (0 : Int), ()), [],
                                                    (ByteArray.mk ( #[] )), [], false, ())).snd.snd.snd.fst.snd.fst,
                                    (Option.getD (Kk.get Kk.int i.snd.fst (ixD tNode l i.fst.fst).snd.fst)
                                                    ([], (0 : Int), (0 : Int), ((0 : Int), (0 : Int), (0 : Int), ()), [],
                                                      (ByteArray.mk ( #[] )), [], false, ())).snd.snd.snd.fst.snd.snd.fst,
                                    ()),
                                  (Option.getD (Kk.get Kk.int i.snd.fst (ixD tNode l i.fst.fst).snd.fst)
                                              ([], (0 : Int), (0 : Int), ((0 : Int), (0 : Int), (0 : Int), ()), [],
                                                (ByteArray.mk ( #[] )), [], false, ())).snd.snd.snd.snd.fst,
                                  (Option.getD (Kk.get Kk.int i.snd.fst (ixD tNode l i.fst.fst).snd.fst)
                                                ([], (0 : Int), (0 : Int), ((0 : Int), (0 : Int), (0 : Int), ()), [],
                                                  (ByteArray.mk ( #[] )), [], false, ())).snd.snd.snd.snd.snd.fst,
                                  (Option.getD (Kk.get Kk.int i.snd.fst (ixD tNode l i.fst.fst).snd.fst)
                                                  ([], (0 : Int), (0 : Int), ((0 : Int), (0 : Int), (0 : Int), ()), [],
                                                    (ByteArray.mk ( #[] )), [], false, ())).snd.snd.snd.snd.snd.snd.fst,
                                  (Option.getD (Kk.get Kk.int i.snd.fst (ixD tNode l i.fst.fst).snd.fst)
                                                    ([], (0 : Int), (0 : Int), ((0 : Int), (0 : Int), (0 : Int), ()), [],
                                                      (ByteArray.mk ( #[] )), [], false, ())).snd.snd.snd.snd.snd.snd.snd.fst,
                                  ()))
                            (Q (SV.v (S1.c (Cl.k (Value.int IntKind.i64 (8 : Int))))) [])
                            (br (!Option.isSome (Kk.get Kk.int i.snd.fst (ixD tNode l i.fst.fst).snd.fst))
                              (List.length i.snd.fst < (9223372036854775807 : Nat) ∧
                                inK IntKind.i64 (i.fst.fst + (1 : Int)) ∧
                                  again
                                    ((i.fst.fst + (1 : Int), ()),
                                      Kk.put Kk.int i.snd.fst (ixD tNode l i.fst.fst).snd.fst
                                        ((ixD tNode l i.fst.fst).fst, (ixD tNode l i.fst.fst).snd.fst,
                                          (ixD tNode l i.fst.fst).snd.snd.fst,
                                          ((ixD tNode l i.fst.fst).snd.snd.snd.fst.fst,
                                            (ixD tNode l i.fst.fst).snd.snd.snd.fst.snd.fst,
                                            (ixD tNode l i.fst.fst).snd.snd.snd.fst.snd.snd.fst, ()),
                                          (ixD tNode l i.fst.fst).snd.snd.snd.snd.fst,
                                          (ixD tNode l i.fst.fst).snd.snd.snd.snd.snd.fst,
                                          (ixD tNode l i.fst.fst).snd.snd.snd.snd.snd.snd.fst,
                                          (ixD tNode l i.fst.fst).snd.snd.snd.snd.snd.snd.snd.fst, ()),
                                      ()))
                              (inK IntKind.i64 (i.fst.fst + (1 : Int)) ∧
                                again ((i.fst.fst + (1 : Int), ()), i.snd.fst, ())))))
                        (br (!Option.isSome (Kk.get Kk.int i.snd.fst (ixD tNode l i.fst.fst).snd.fst))
                          (List.length i.snd.fst < (9223372036854775807 : Nat) ∧
                            inK IntKind.i64 (i.fst.fst + (1 : Int)) ∧
                              again
                                ((i.fst.fst + (1 : Int), ()),
                                  Kk.put Kk.int i.snd.fst (ixD tNode l i.fst.fst).snd.fst
                                    ((ixD tNode l i.fst.fst).fst, (ixD tNode l i.fst.fst).snd.fst,
                                      (ixD tNode l i.fst.fst).snd.snd.fst,
                                      ((ixD tNode l i.fst.fst).snd.snd.snd.fst.fst,
                                        (ixD tNode l i.fst.fst).snd.snd.snd.fst.snd.fst,
                                        (ixD tNode l i.fst.fst).snd.snd.snd.fst.snd.snd.fst, ()),
                                      (ixD tNode l i.fst.fst).snd.snd.snd.snd.fst,
                                      (ixD tNode l i.fst.fst).snd.snd.snd.snd.snd.fst,
                                      (ixD tNode l i.fst.fst).snd.snd.snd.snd.snd.snd.fst,
                                      (ixD tNode l i.fst.fst).snd.snd.snd.snd.snd.snd.snd.fst, ()),
                                  ()))
                          (inK IntKind.i64 (i.fst.fst + (1 : Int)) ∧
                            again ((i.fst.fst + (1 : Int), ()), i.snd.fst, ())))))
              (Q (SV.v (S1.c (Cl.k (Value.int IntKind.i64 (0 : Int))))) []))
          (((0 : Int), ()), [], ())
theorem vc_linked_eq (l : List (tNode).den) (Q : SV → List HO → Prop) : vFun XK1526 ⟨[(4, ⟨[(11, .int .i64)], [(0, .map 3 .int tNode)]⟩)], []⟩ Try.f78 [.c (.d tNode l)] [] Q = vc_linked l Q := by kernel_rfl
theorem w_linked : ∀ args H Q, c_linked args H Q → Wp Try.prog 78 args H Q := by
  intro args H Q h
  unfold c_linked at h
  split at h
  · rename_i cl
    split at h
    · rename_i l hl
      refine Wp.said (args' := [.c (.d tNode l)]) (fun E g => RelVs.cons1 (of_list hl) (fun _ h => h)) ?_
      clear hl
      refine Wp.enter (X := XK1526) XK1526_ok ⟨[(4, ⟨[(11, .int .i64)], [(0, .map 3 .int tNode)]⟩)], []⟩ (fn := Try.f78) (by kernel_rfl) ?_
      have hv := vc_linked_eq l Q
      rw [show vFun _ _ _ _ _ _ = _ from hv]
      unfold vc_linked
      intro hl _
      refine LoopP.intro (fun i => 0 ≤ i.1.1 ∧ i.1.1 ≤ l.length ∧ linkGo (l.drop i.1.1.toNat) i.2.1 = linkGo l [] ∧ (i.2.1.length : Int) ≤ i.1.1) (fun i => l.length - i.1.1.toNat) ⟨by simp, by simp, by simp, by simp⟩ ?_
      rintro ⟨⟨i, _⟩, m, _⟩ ⟨h0, h1, h2, h3⟩
      simp only at h0 h1 h2 h3 ⊢
      refine br_of (fun hc => ?_) (fun hc => ?_)
      · have hc : i < l.length := by simpa using hc
        rw [ixD_drop (e := tNode) h0 hc] at h2
        refine ⟨h0, hc, fun _ => ?_⟩
        have hp := put_len (k := .int) (l := m) (x := (ixD tNode l i).2.1) (v := ixD tNode l i)
        cases hg : Kk.get .int m (ixD tNode l i).2.1 with
        | none =>
          simp only [linkGo, hg] at h2
          intro _
          refine br_of (fun h4 => by cases h4) (fun _ => br_of (fun _ => ?_) (fun h5 => by cases h5))
          exact ⟨by omega, by unfold inK; omega, ⟨by omega, by omega, h2, Int.le_trans (Int.ofNat_le.2 hp) (by omega)⟩, by omega⟩
        | some o =>
          simp only [linkGo, hg] at h2
          intro _
          refine br_of (fun _ => br_of (fun h5 => ?_) (fun h5 => br_of (fun h6 => ?_) (fun h6 => br_of (fun h7 => by cases h7) (fun _ => ?_)))) (fun h4 => by cases h4)
          · rw [h5, Bool.true_or, if_pos rfl] at h2
            rw [← h2] at h; exact h
          · have h6 : (!alikeN (ixD tNode l i) o) = true := h6
            rw [h6, Bool.or_true, if_pos rfl] at h2
            rw [← h2] at h; exact h
          · have h6 : (!alikeN (ixD tNode l i) o) = false := h6
            rw [h5, h6] at h2
            exact ⟨by unfold inK; omega, ⟨by omega, by omega, h2, by omega⟩, by omega⟩
      · have hc : ¬ i < l.length := by simpa using hc
        rw [drop_all hc] at h2
        simp only [linkGo] at h2
        rw [← h2] at h; exact h
    · exact h.elim
  · exact h.elim
end Go.Proofs

namespace Go.Proofs
open Go Go.Lm Go.RowKit
def whGo : List NoD → List (Int × Bool) → Bool
  | [], _ => false
  | x :: r, m => match Kk.get .int m x.2.1 with
    | some o => if o || x.2.2.1 == 4 then true else whGo r (Kk.put .int m x.2.1 (x.2.2.1 == 4))
    | none => whGo r (Kk.put .int m x.2.1 (x.2.2.1 == 4))
def c_white : Ct
  | [.v (.c cl)], [], Q => (match (Ty.sl tNode).of [cl] with
    | some (l, []) => Q (.bool (whGo l [])) []
    | _ => False)
  | _, _, _ => False
noncomputable def XK1627 : Vx := { P := Try.prog, ct := [(78, c_linked), (103, c_alike), (117, c_eqXs), (115, c_alikeX), (116, c_bequal), (46, c_opaque), (81, c_isDir), (105, c_find), (118, c_sameR), (104, c_validR), (24, c_few), (49, c_may18), (82, c_mayR), (92, c_xattrsR), (45, c_marks), (75, c_anyM), (99, c_idxM), (79, c_badM), (75, c_anyT), (99, c_idxT), (76, c_badT), (77, c_may), (102, c_xattrs), (100, c_plain), (97, c_indexByte), (106, c_nul), (101, c_within)], ty := tyTab, hold := [] }
theorem XK1627_ok : CtOk Try.prog XK1627.ct := CtOk.cons w_linked (CtOk.cons w_alike (CtOk.cons w_eqXs (CtOk.cons w_alikeX (CtOk.cons w_bequal (CtOk.cons w_opaque (CtOk.cons w_isDir (CtOk.cons w_find (CtOk.cons w_sameR (CtOk.cons w_validR (CtOk.cons w_few (CtOk.cons w_may18 (CtOk.cons w_mayR (CtOk.cons w_xattrsR (CtOk.cons w_marks (CtOk.cons w_anyM (CtOk.cons w_idxM (CtOk.cons w_badM (CtOk.cons w_anyT (CtOk.cons w_idxT (CtOk.cons w_badT (CtOk.cons w_may (CtOk.cons w_xattrs (CtOk.cons w_plain (CtOk.cons w_indexByte (CtOk.cons w_nul (CtOk.cons w_within (CtOk.nil _)))))))))))))))))))))))))))
def vc_white : (List (tNode).den) → (SV → List HO → Prop) → Prop :=
  fun l Q =>
    List.length l ≤ (9223372036854775807 : Nat) →
      List.length l ≤ (9223372036854775807 : Nat) →
        LoopP
          (fun i again =>
            br (decide (i.fst.fst < (↑(List.length l) : Int)))
              ((0 : Int) ≤ i.fst.fst ∧
                i.fst.fst < (↑(List.length l) : Int) ∧
                  (Ty.ok tNode (ixD tNode l i.fst.fst) →
                    Ty.ok Ty.bool (Option.getD (Kk.get Kk.int i.snd.fst (ixD tNode l i.fst.fst).snd.fst) false) →
                      br (Option.isSome (Kk.get Kk.int i.snd.fst (ixD tNode l i.fst.fst).snd.fst))
                        (br (Option.getD (Kk.get Kk.int i.snd.fst (ixD tNode l i.fst.fst).snd.fst) false)
                          (Q (SV.v (S1.c (Cl.k (Value.bool true)))) [])
                          (br ((ixD tNode l i.fst.fst).snd.snd.fst == (4 : Int))
                            (Q (SV.v (S1.c (Cl.k (Value.bool true)))) [])
                            (List.length i.snd.fst < (9223372036854775807 : Nat) ∧
                              inK IntKind.i64 (i.fst.fst + (1 : Int)) ∧
                                again
                                  ((i.fst.fst + (1 : Int), ()),
                                    Kk.put Kk.int i.snd.fst (ixD tNode l i.fst.fst).snd.fst
                                      ((ixD tNode l i.fst.fst).snd.snd.fst == (4 : Int)),
                                    ()))))
                        (List.length i.snd.fst < (9223372036854775807 : Nat) ∧
                          inK IntKind.i64 (i.fst.fst + (1 : Int)) ∧
                            again
                              ((i.fst.fst + (1 : Int), ()),
                                Kk.put Kk.int i.snd.fst (ixD tNode l i.fst.fst).snd.fst
                                  ((ixD tNode l i.fst.fst).snd.snd.fst == (4 : Int)),
                                ()))))
              (Q (SV.v (S1.c (Cl.k (Value.bool false)))) []))
          (((0 : Int), ()), [], ())
theorem vc_white_eq (l : List (tNode).den) (Q : SV → List HO → Prop) : vFun XK1627 ⟨[(4, ⟨[(11, .int .i64)], [(0, .map 3 .int .bool)]⟩)], []⟩ Try.f47 [.c (.d tNode l)] [] Q = vc_white l Q := by kernel_rfl
theorem w_white : ∀ args H Q, c_white args H Q → Wp Try.prog 47 args H Q := by
  intro args H Q h
  unfold c_white at h
  split at h
  · rename_i cl
    split at h
    · rename_i l hl
      refine Wp.said (args' := [.c (.d tNode l)]) (fun E g => RelVs.cons1 (of_list hl) (fun _ h => h)) ?_
      clear hl
      refine Wp.enter (X := XK1627) XK1627_ok ⟨[(4, ⟨[(11, .int .i64)], [(0, .map 3 .int .bool)]⟩)], []⟩ (fn := Try.f47) (by kernel_rfl) ?_
      have hv := vc_white_eq l Q
      rw [show vFun _ _ _ _ _ _ = _ from hv]
      unfold vc_white
      intro hl _
      refine LoopP.intro (fun i => 0 ≤ i.1.1 ∧ i.1.1 ≤ l.length ∧ whGo (l.drop i.1.1.toNat) i.2.1 = whGo l [] ∧ (i.2.1.length : Int) ≤ i.1.1) (fun i => l.length - i.1.1.toNat) ⟨by simp, by simp, by simp, by simp⟩ ?_
      rintro ⟨⟨i, _⟩, m, _⟩ ⟨h0, h1, h2, h3⟩
      simp only at h0 h1 h2 h3 ⊢
      refine br_of (fun hc => ?_) (fun hc => ?_)
      · have hc : i < l.length := by simpa using hc
        rw [ixD_drop (e := tNode) h0 hc] at h2
        refine ⟨h0, hc, fun _ _ => ?_⟩
        have hp := put_len (k := .int) (l := m) (x := (ixD tNode l i).2.1) (v := ((ixD tNode l i).2.2.1 == 4))
        cases hg : Kk.get .int m (ixD tNode l i).2.1 with
        | none =>
          simp only [whGo, hg] at h2
          refine br_of (fun h4 => by cases h4) (fun _ => ?_)
          exact ⟨by omega, by unfold inK; omega, ⟨by omega, by omega, h2, Int.le_trans (Int.ofNat_le.2 hp) (by omega)⟩, by omega⟩
        | some o =>
          simp only [whGo, hg] at h2
          refine br_of (fun _ => br_of (fun h5 => ?_) (fun h5 => br_of (fun h6 => ?_) (fun h6 => ?_))) (fun h4 => by cases h4)
          · have h5 : o = true := h5
            rw [h5, Bool.true_or, if_pos rfl] at h2
            rw [← h2] at h; exact h
          · rw [h6, Bool.or_true, if_pos rfl] at h2
            rw [← h2] at h; exact h
          · have h5 : o = false := h5
            rw [h5, h6, Bool.or_false, if_neg (by simp)] at h2
            rw [h6] at hp
            rw [h6]
            exact ⟨by omega, by unfold inK; omega, ⟨by omega, by omega, h2, Int.le_trans (Int.ofNat_le.2 hp) (by omega)⟩, by omega⟩
      · have hc : ¬ i < l.length := by simpa using hc
        rw [drop_all hc] at h2
        simp only [whGo] at h2
        rw [← h2] at h; exact h
    · exact h.elim
  · exact h.elim
end Go.Proofs

namespace Go.Proofs
open Go Go.Lm Go.RowKit
def plainN (x : NoD) : NoD := (x.1, x.2.1, (if x.2.2.1 = 4 then 2 else x.2.2.1), x.2.2.2.1, x.2.2.2.2.1, x.2.2.2.2.2.1, x.2.2.2.2.2.2.1, (if x.2.2.1 = 1 then false else x.2.2.2.2.2.2.2.1), ())
def c_bplain : Ct
  | [.v (.agg cx)], [], Q => (match (tNode).of cx with
    | some (x, []) => Q (.v (.agg (tNode.cells (plainN x)))) []
    | _ => False)
  | _, _, _ => False
noncomputable def XK1728 : Vx := { P := Try.prog, ct := [(47, c_white), (78, c_linked), (103, c_alike), (117, c_eqXs), (115, c_alikeX), (116, c_bequal), (46, c_opaque), (81, c_isDir), (105, c_find), (118, c_sameR), (104, c_validR), (24, c_few), (49, c_may18), (82, c_mayR), (92, c_xattrsR), (45, c_marks), (75, c_anyM), (99, c_idxM), (79, c_badM), (75, c_anyT), (99, c_idxT), (76, c_badT), (77, c_may), (102, c_xattrs), (100, c_plain), (97, c_indexByte), (106, c_nul), (101, c_within)], ty := tyTab, hold := [] }
theorem XK1728_ok : CtOk Try.prog XK1728.ct := CtOk.cons w_white (CtOk.cons w_linked (CtOk.cons w_alike (CtOk.cons w_eqXs (CtOk.cons w_alikeX (CtOk.cons w_bequal (CtOk.cons w_opaque (CtOk.cons w_isDir (CtOk.cons w_find (CtOk.cons w_sameR (CtOk.cons w_validR (CtOk.cons w_few (CtOk.cons w_may18 (CtOk.cons w_mayR (CtOk.cons w_xattrsR (CtOk.cons w_marks (CtOk.cons w_anyM (CtOk.cons w_idxM (CtOk.cons w_badM (CtOk.cons w_anyT (CtOk.cons w_idxT (CtOk.cons w_badT (CtOk.cons w_may (CtOk.cons w_xattrs (CtOk.cons w_plain (CtOk.cons w_indexByte (CtOk.cons w_nul (CtOk.cons w_within (CtOk.nil _))))))))))))))))))))))))))))
def vc_bplain : ((tNode).den) → (SV → List HO → Prop) → Prop :=
  fun x Q =>
    List.length x.fst ≤ (9223372036854775807 : Nat) →
      inK IntKind.i64 x.snd.fst →
        inK IntKind.i64 x.snd.snd.fst →
          inK IntKind.i64 x.snd.snd.snd.fst.fst →
            inK IntKind.i64 x.snd.snd.snd.fst.snd.fst →
              inK IntKind.i64 x.snd.snd.snd.fst.snd.snd.fst →
                List.length x.snd.snd.snd.snd.fst ≤ (9223372036854775807 : Nat) →
                  ByteArray.size x.snd.snd.snd.snd.snd.fst ≤ (9223372036854775807 : Nat) →
                    List.length x.snd.snd.snd.snd.snd.snd.fst ≤ (9223372036854775807 : Nat) →
                      br (x.snd.snd.fst == (1 : Int))
                        (Q
                          (SV.v
                            (S1.agg
                              [Cl.d Ty.str x.fst, Cl.k (Value.int IntKind.i64 x.snd.fst),
                                Cl.k (Value.int IntKind.i64 x.snd.snd.fst),
                                Cl.k (Value.int IntKind.i64 x.snd.snd.snd.fst.fst),
                                Cl.k (Value.int IntKind.i64 x.snd.snd.snd.fst.snd.fst),
                                Cl.k (Value.int IntKind.i64 x.snd.snd.snd.fst.snd.snd.fst),
                                Cl.d Ty.u8 x.snd.snd.snd.snd.fst, Cl.k (Value.string x.snd.snd.snd.snd.snd.fst),
                                Cl.d tXattr x.snd.snd.snd.snd.snd.snd.fst, Cl.k (Value.bool false)]))
                          [])
                        (br (x.snd.snd.fst == (4 : Int))
                          (Q
                            (SV.v
                              (S1.agg
                                [Cl.d Ty.str x.fst, Cl.k (Value.int IntKind.i64 x.snd.fst),
                                  Cl.k (Value.int IntKind.i64 (2 : Int)),
                                  Cl.k (Value.int IntKind.i64 x.snd.snd.snd.fst.fst),
                                  Cl.k (Value.int IntKind.i64 x.snd.snd.snd.fst.snd.fst),
                                  Cl.k (Value.int IntKind.i64 x.snd.snd.snd.fst.snd.snd.fst),
                                  Cl.d Ty.u8 x.snd.snd.snd.snd.fst, Cl.k (Value.string x.snd.snd.snd.snd.snd.fst),
                                  Cl.d tXattr x.snd.snd.snd.snd.snd.snd.fst,
                                  Cl.k (Value.bool x.snd.snd.snd.snd.snd.snd.snd.fst)]))
                            [])
                          (Q
                            (SV.v
                              (S1.agg
                                [Cl.d Ty.str x.fst, Cl.k (Value.int IntKind.i64 x.snd.fst),
                                  Cl.k (Value.int IntKind.i64 x.snd.snd.fst),
                                  Cl.k (Value.int IntKind.i64 x.snd.snd.snd.fst.fst),
                                  Cl.k (Value.int IntKind.i64 x.snd.snd.snd.fst.snd.fst),
                                  Cl.k (Value.int IntKind.i64 x.snd.snd.snd.fst.snd.snd.fst),
                                  Cl.d Ty.u8 x.snd.snd.snd.snd.fst, Cl.k (Value.string x.snd.snd.snd.snd.snd.fst),
                                  Cl.d tXattr x.snd.snd.snd.snd.snd.snd.fst,
                                  Cl.k (Value.bool x.snd.snd.snd.snd.snd.snd.snd.fst)]))
                            []))
theorem vc_bplain_eq (x : (tNode).den) (Q : SV → List HO → Prop) : vFun XK1728 ⟨[], []⟩ Try.f43 [.v (.agg (Ty.cells tNode x))] [] Q = vc_bplain x Q := by kernel_rfl
theorem w_bplain : ∀ args H Q, c_bplain args H Q → Wp Try.prog 43 args H Q := by
  intro args H Q h
  unfold c_bplain at h
  split at h
  · rename_i cx
    split at h
    · rename_i x hx
      refine Wp.said (args' := [.v (.agg (Ty.cells tNode x))]) (fun E g => RelVs.cons1 (of_row hx) (fun _ h => h)) ?_
      clear hx
      refine Wp.enter (X := XK1728) XK1728_ok ⟨[], []⟩ (fn := Try.f43) (by kernel_rfl) ?_
      have hv := vc_bplain_eq x Q
      rw [show vFun _ _ _ _ _ _ = _ from hv]
      unfold vc_bplain
      unfold plainN at h
      intro _ _ _ _ _ _ _ _ _
      refine br_of (fun hc => ?_) (fun hc => br_of (fun hd => ?_) (fun hd => ?_))
      · have hc : x.2.2.1 = 1 := by simpa using hc
        rw [if_pos hc, if_neg (show ¬ x.2.2.1 = 4 by rw [hc]; decide)] at h
        exact h
      · have hd : x.2.2.1 = 4 := by simpa using hd
        rw [if_neg (show ¬ x.2.2.1 = 1 by rw [hd]; decide), if_pos hd] at h
        exact h
      · have hc : x.2.2.1 ≠ 1 := by simpa using hc
        have hd : x.2.2.1 ≠ 4 := by simpa using hd
        rw [if_neg hc, if_neg hd] at h
        exact h
    · exact h.elim
  · exact h.elim
def c_alikeR : Ct
  | [.v (.agg cx), .v (.agg cy)], [], Q => (match (tNode).of cx with
    | some (x, []) => (match (tNode).of cy with
    | some (y, []) => Q (.bool (alikeN x y)) []
    | _ => False)
    | _ => False)
  | _, _, _ => False
noncomputable def XK1729 : Vx := { P := Try.prog, ct := [(43, c_bplain), (47, c_white), (78, c_linked), (103, c_alike), (117, c_eqXs), (115, c_alikeX), (116, c_bequal), (46, c_opaque), (81, c_isDir), (105, c_find), (118, c_sameR), (104, c_validR), (24, c_few), (49, c_may18), (82, c_mayR), (92, c_xattrsR), (45, c_marks), (75, c_anyM), (99, c_idxM), (79, c_badM), (75, c_anyT), (99, c_idxT), (76, c_badT), (77, c_may), (102, c_xattrs), (100, c_plain), (97, c_indexByte), (106, c_nul), (101, c_within)], ty := tyTab, hold := [] }
theorem XK1729_ok : CtOk Try.prog XK1729.ct := CtOk.cons w_bplain (CtOk.cons w_white (CtOk.cons w_linked (CtOk.cons w_alike (CtOk.cons w_eqXs (CtOk.cons w_alikeX (CtOk.cons w_bequal (CtOk.cons w_opaque (CtOk.cons w_isDir (CtOk.cons w_find (CtOk.cons w_sameR (CtOk.cons w_validR (CtOk.cons w_few (CtOk.cons w_may18 (CtOk.cons w_mayR (CtOk.cons w_xattrsR (CtOk.cons w_marks (CtOk.cons w_anyM (CtOk.cons w_idxM (CtOk.cons w_badM (CtOk.cons w_anyT (CtOk.cons w_idxT (CtOk.cons w_badT (CtOk.cons w_may (CtOk.cons w_xattrs (CtOk.cons w_plain (CtOk.cons w_indexByte (CtOk.cons w_nul (CtOk.cons w_within (CtOk.nil _)))))))))))))))))))))))))))))
def vc_alikeR : ((tNode).den) → ((tNode).den) → (SV → List HO → Prop) → Prop :=
  fun x y Q =>
    List.length x.fst ≤ (9223372036854775807 : Nat) →
      inK IntKind.i64 x.snd.fst →
        inK IntKind.i64 x.snd.snd.fst →
          inK IntKind.i64 x.snd.snd.snd.fst.fst →
            inK IntKind.i64 x.snd.snd.snd.fst.snd.fst →
              inK IntKind.i64 x.snd.snd.snd.fst.snd.snd.fst →
                List.length x.snd.snd.snd.snd.fst ≤ (9223372036854775807 : Nat) →
                  ByteArray.size x.snd.snd.snd.snd.snd.fst ≤ (9223372036854775807 : Nat) →
                    List.length x.snd.snd.snd.snd.snd.snd.fst ≤ (9223372036854775807 : Nat) →
                      List.length y.fst ≤ (9223372036854775807 : Nat) →
                        inK IntKind.i64 y.snd.fst →
                          inK IntKind.i64 y.snd.snd.fst →
                            inK IntKind.i64 y.snd.snd.snd.fst.fst →
                              inK IntKind.i64 y.snd.snd.snd.fst.snd.fst →
                                inK IntKind.i64 y.snd.snd.snd.fst.snd.snd.fst →
                                  List.length y.snd.snd.snd.snd.fst ≤ (9223372036854775807 : Nat) →
                                    ByteArray.size y.snd.snd.snd.snd.snd.fst ≤ (9223372036854775807 : Nat) →
                                      List.length y.snd.snd.snd.snd.snd.snd.fst ≤ (9223372036854775807 : Nat) →
                                        br (x.snd.snd.fst != y.snd.snd.fst) (Q (SV.v (S1.c (Cl.k (Value.bool false)))) [])
                                          (br
                                            (!(x.snd.snd.snd.fst.fst == y.snd.snd.snd.fst.fst &&
                                                (x.snd.snd.snd.fst.snd.fst == y.snd.snd.snd.fst.snd.fst &&
                                                  (x.snd.snd.snd.fst.snd.snd.fst == y.snd.snd.snd.fst.snd.snd.fst &&
                                                    true))))
                                            (Q (SV.v (S1.c (Cl.k (Value.bool false)))) [])
                                            (br (!sEq (bstr x.snd.snd.snd.snd.fst) (bstr y.snd.snd.snd.snd.fst))
                                              (Q (SV.v (S1.c (Cl.k (Value.bool false)))) [])
                                              (br (!sEq x.snd.snd.snd.snd.snd.fst y.snd.snd.snd.snd.snd.fst)
                                                (Q (SV.v (S1.c (Cl.k (Value.bool false)))) [])
                                                (br
                                                  (!x.snd.snd.snd.snd.snd.snd.snd.fst ==
                                                      y.snd.snd.snd.snd.snd.snd.snd.fst)
                                                  (Q (SV.v (S1.c (Cl.k (Value.bool false)))) [])
                                                  (List.length x.snd.snd.snd.snd.snd.snd.fst ≤
                                                      (9223372036854775807 : Nat) →
                                                    List.length y.snd.snd.snd.snd.snd.snd.fst ≤
                                                        (9223372036854775807 : Nat) →
                                                      br
                                                        ((↑(List.length x.snd.snd.snd.snd.snd.snd.fst) : Int) !=
                                                          (↑(List.length y.snd.snd.snd.snd.snd.snd.fst) : Int))
                                                        (Q (SV.v (S1.c (Cl.k (Value.bool false)))) [])
                                                        (LoopP
                                                          (fun i again =>
                                                            List.length x.snd.snd.snd.snd.snd.snd.fst ≤
                                                                (9223372036854775807 : Nat) →
                                                              br
                                                                (decide
                                                                  (i.fst.fst <
                                                                    (↑(List.length x.snd.snd.snd.snd.snd.snd.fst) : Int)))
                                                                ((0 : Int) ≤ i.fst.fst ∧
                                                                  i.fst.fst <
                                                                      (↑(List.length x.snd.snd.snd.snd.snd.snd.fst) :
                                                                        Int) ∧
                                                                    (Ty.ok tXattr
                                                                        (ixD tXattr x.snd.snd.snd.snd.snd.snd.fst
                                                                          i.fst.fst) →
                                                                      (0 : Int) ≤ i.fst.fst ∧
                                                                        i.fst.fst <
                                                                            (↑(List.length
                                                                                  y.snd.snd.snd.snd.snd.snd.fst) :
                                                                              Int) ∧
                                                                          (Ty.ok tXattr
                                                                              (ixD tXattr y.snd.snd.snd.snd.snd.snd.fst
                                                                                i.fst.fst) →
                                                                            br
                                                                              (!sEq
                                                                                  (ixD tXattr
                                                                                      x.snd.snd.snd.snd.snd.snd.fst
                                                                                      i.fst.fst).fst
                                                                                  (ixD tXattr
                                                                                      y.snd.snd.snd.snd.snd.snd.fst
                                                                                      i.fst.fst).fst)
                                                                              (Q (SV.v (S1.c (Cl.k (Value.bool false))))
                                                                                [])
                                                                              ((0 : Int) ≤ i.fst.fst ∧
                                                                                i.fst.fst <
                                                                                    (↑(List.length
                                                                                          x.snd.snd.snd.snd.snd.snd.fst) :
                                                                                      Int) ∧
                                                                                  (Ty.ok tXattr
                                                                                      (ixD tXattr
                                                                                        x.snd.snd.snd.snd.snd.snd.fst
                                                                                        i.fst.fst) →
                                                                                    (0 : Int) ≤ i.fst.fst ∧
                                                                                      i.fst.fst <
                                                                                          (↑(List.length
                                                                                                y.snd.snd.snd.snd.snd.snd.fst) :
                                                                                            Int) ∧
                                                                                        (Ty.ok tXattr
                                                                                            (ixD tXattr
                                                                                              y.snd.snd.snd.snd.snd.snd.fst
                                                                                              i.fst.fst) →
                                                                                          br
                                                                                            (!sEq
                                                                                                (bstr
                                                                                                  (ixD tXattr
                                                                                                        x.snd.snd.snd.snd.snd.snd.fst
                                                                                                        i.fst.fst).snd.fst)
                                                                                                (bstr
                                                                                                  (ixD tXattr
                                                                                                        y.snd.snd.snd.snd.snd.snd.fst
                                                                                                        i.fst.fst).snd.fst))
                                                                                            (Q
                                                                                              (SV.v
                                                                                                (S1.c
                                                                                                  (Cl.k
                                                                                                    (Value.bool false))))
                                                                                              [])
                                                                                            (inK IntKind.i64
                                                                                                (i.fst.fst + (1 : Int)) ∧
                                                                                              again
                                                                                                ((i.fst.fst + (1 : Int),
                                                                                                    ()),
                                                                                                  ()))))))))
                                                                (Q (SV.v (S1.c (Cl.k (Value.bool true)))) []))
                                                          (((0 : Int), ()), ())))))))
theorem vc_alikeR_eq (x : (tNode).den) (y : (tNode).den) (Q : SV → List HO → Prop) : vFun XK1729 ⟨[(5, ⟨[(5, .int .i64)], []⟩)], []⟩ Try.f50 [.v (.agg (Ty.cells tNode x)), .v (.agg (Ty.cells tNode y))] [] Q = vc_alikeR x y Q := by kernel_rfl
theorem w_alikeR : ∀ args H Q, c_alikeR args H Q → Wp Try.prog 50 args H Q := by
  intro args H Q h
  unfold c_alikeR at h
  split at h
  · rename_i cx cy
    split at h
    · rename_i x hx
      split at h
      · rename_i y hy
        refine Wp.said (args' := [.v (.agg (Ty.cells tNode x)), .v (.agg (Ty.cells tNode y))]) (fun E g => RelVs.cons1 (of_row hx) (RelVs.cons1 (of_row hy) (fun _ h => h))) ?_
        clear hx hy
        refine Wp.enter (X := XK1729) XK1729_ok ⟨[(5, ⟨[(5, .int .i64)], []⟩)], []⟩ (fn := Try.f50) (by kernel_rfl) ?_
        have hv := vc_alikeR_eq x y Q
        rw [show vFun _ _ _ _ _ _ = _ from hv]
        unfold vc_alikeR
        intro _ _ _ _ _ _ _ _ _ _ _ _ _ _ _ _ _ _
        refine br_of (fun h1 => ?_) (fun h1 => br_of (fun h2 => ?_) (fun h2 => br_of (fun h3 => ?_) (fun h3 => br_of (fun h4 => ?_) (fun h4 => br_of (fun h5 => ?_) (fun h5 => ?_)))))
        iterate 5
          · refine Eq.mp (congrArg (fun z => Q (SV.bool z) []) ?_) h
            clear hv h
            unfold alikeN eqB
            simp only [bne, Bool.not_eq_true', Bool.not_eq_false'] at *
            simp only [*, Bool.true_and, Bool.false_and, Bool.and_false]
        have hk : alikeN x y = alikeXs x.2.2.2.2.2.2.1 y.2.2.2.2.2.2.1 := by
          clear hv h
          unfold alikeN eqB
          simp only [bne, Bool.not_eq_false'] at *
          simp only [*, Bool.true_and]
        rw [hk] at h
        clear h1 h2 h3 h4 h5 hk
        generalize x.2.2.2.2.2.2.1 = a at *
        generalize y.2.2.2.2.2.2.1 = b at *
        intro _ _
        refine br_of (fun h1 => ?_) (fun h1 => ?_)
        · rw [alikeXs_len (by intro e; rw [e] at h1; simp at h1)] at h
          exact h
        have hl : a.length = b.length := by
          have : (a.length : Int) = (b.length : Int) := by simpa only [bne_eq_false_iff_eq] using h1
          omega
        refine LoopP.intro (fun i => 0 ≤ i.1.1 ∧ i.1.1 ≤ a.length ∧ alikeXs (a.drop i.1.1.toNat) (b.drop i.1.1.toNat) = alikeXs a b) (fun i => a.length - i.1.1.toNat) ⟨by simp, by simp, by simp⟩ ?_
        rintro ⟨⟨i, _⟩, _⟩ ⟨h0, h2, h3⟩
        simp only at h0 h2 h3 ⊢
        intro _
        refine br_of (fun hc => ?_) (fun hc => ?_)
        · have hc : i < a.length := by simpa using hc
          have hc2 : i < b.length := by omega
          rw [ixD_drop (e := tXattr) h0 hc, ixD_drop (e := tXattr) h0 hc2] at h3
          simp only [alikeXs, alikeX, eqB] at h3
          refine ⟨h0, hc, fun _ => ⟨h0, hc2, fun _ => br_of (fun h4 => ?_) (fun h4 => ⟨h0, hc, fun _ => ⟨h0, hc2, fun _ => br_of (fun h5 => ?_) (fun h5 => ?_)⟩⟩)⟩⟩
          · simp only [Bool.not_eq_true'] at h4
            rw [h4, Bool.false_and, Bool.false_and] at h3
            rw [← h3] at h; exact h
          · simp only [Bool.not_eq_true', Bool.not_eq_false'] at h4 h5
            rw [h4, h5, Bool.true_and, Bool.false_and] at h3
            rw [← h3] at h; exact h
          · simp only [Bool.not_eq_false'] at h4 h5
            rw [h4, h5, Bool.true_and, Bool.true_and] at h3
            exact ⟨by unfold inK; omega, ⟨by omega, by omega, h3⟩, by omega⟩
        · have hc : ¬ i < a.length := by simpa using hc
          rw [drop_all hc, drop_all (by omega)] at h3
          simp only [alikeXs] at h3
          rw [← h3] at h; exact h
      · exact h.elim
    · exact h.elim
  · exact h.elim
end Go.Proofs

namespace Go.Proofs
open Go Go.Lm Go.RowKit
/-- What is wrong with names, the first of them. -/
def validsGo : List ByteArray → Int
  | [] => 0
  | s :: r => if validN s != 0 then validN s else validsGo r
def namesGo : List NoD → Int
  | [] => 0
  | x :: r => if validsGo x.1 != 0 then validsGo x.1 else namesGo r
def deepB (l : List NoD) : Bool := l.any fun x => decide ((x.1.length : Int) > 16)
def twiceGo (l : List NoD) : List NoD → Int → Bool
  | [], _ => false
  | x :: r, i => decide (idxF (isNm x.1) l 0 < i) || twiceGo l r (i + 1)
def namedR (l : List NoD) : Int := if namesGo l != 0 then namesGo l else if deepB l then 9 else if twiceGo l l 0 then 6 else 0
def c_namedR : Ct
  | [.v (.c cl)], [], Q => (match (Ty.sl tNode).of [cl] with
    | some (l, []) => Q (.int (namedR l)) []
    | _ => False)
  | _, _, _ => False
noncomputable def XK1830 : Vx := { P := Try.prog, ct := [(50, c_alikeR), (43, c_bplain), (47, c_white), (78, c_linked), (103, c_alike), (117, c_eqXs), (115, c_alikeX), (116, c_bequal), (46, c_opaque), (81, c_isDir), (105, c_find), (118, c_sameR), (104, c_validR), (24, c_few), (49, c_may18), (82, c_mayR), (92, c_xattrsR), (45, c_marks), (75, c_anyM), (99, c_idxM), (79, c_badM), (75, c_anyT), (99, c_idxT), (76, c_badT), (77, c_may), (102, c_xattrs), (100, c_plain), (97, c_indexByte), (106, c_nul), (101, c_within)], ty := tyTab, hold := [] }
theorem XK1830_ok : CtOk Try.prog XK1830.ct := CtOk.cons w_alikeR (CtOk.cons w_bplain (CtOk.cons w_white (CtOk.cons w_linked (CtOk.cons w_alike (CtOk.cons w_eqXs (CtOk.cons w_alikeX (CtOk.cons w_bequal (CtOk.cons w_opaque (CtOk.cons w_isDir (CtOk.cons w_find (CtOk.cons w_sameR (CtOk.cons w_validR (CtOk.cons w_few (CtOk.cons w_may18 (CtOk.cons w_mayR (CtOk.cons w_xattrsR (CtOk.cons w_marks (CtOk.cons w_anyM (CtOk.cons w_idxM (CtOk.cons w_badM (CtOk.cons w_anyT (CtOk.cons w_idxT (CtOk.cons w_badT (CtOk.cons w_may (CtOk.cons w_xattrs (CtOk.cons w_plain (CtOk.cons w_indexByte (CtOk.cons w_nul (CtOk.cons w_within (CtOk.nil _))))))))))))))))))))))))))))))
def vc_namedR : (List (tNode).den) → (SV → List HO → Prop) → Prop :=
  fun l Q =>
    List.length l ≤ (9223372036854775807 : Nat) →
      LoopP
        (fun i again =>
          List.length l ≤ (9223372036854775807 : Nat) →
            br (decide (i.fst.fst < (↑(List.length l) : Int)))
              (LoopP
                (fun i_1 again_1 =>
                  (0 : Int) ≤ i.fst.fst ∧
                    i.fst.fst < (↑(List.length l) : Int) ∧
                      (Ty.ok tNode (ixD tNode l i.fst.fst) →
                        List.length (ixD tNode l i.fst.fst).fst ≤ (9223372036854775807 : Nat) →
                          br (decide (i_1.fst.fst < (↑(List.length (ixD tNode l i.fst.fst).fst) : Int)))
                            ((0 : Int) ≤ i.fst.fst ∧
                              i.fst.fst < (↑(List.length l) : Int) ∧
                                (Ty.ok tNode (ixD tNode l i.fst.fst) →
                                  (0 : Int) ≤ i_1.fst.fst ∧
                                    i_1.fst.fst < (↑(List.length (ixD tNode l i.fst.fst).fst) : Int) ∧
                                      (Ty.ok Ty.str (ixD Ty.str (ixD tNode l i.fst.fst).fst i_1.fst.fst) →
                                        inK IntKind.i64 (validN (ixD Ty.str (ixD tNode l i.fst.fst).fst i_1.fst.fst)) →
                                          br (validN (ixD Ty.str (ixD tNode l i.fst.fst).fst i_1.fst.fst) != (0 : Int))
                                            (Q
                                              (SV.v
                                                (S1.c
                                                  (Cl.k
                                                    (Value.int IntKind.i64
                                                      (validN (ixD Ty.str (ixD tNode l i.fst.fst).fst i_1.fst.fst))))))
                                              [])
                                            (inK IntKind.i64 (i_1.fst.fst + (1 : Int)) ∧
                                              again_1 ((i_1.fst.fst + (1 : Int), ()), ())))))
                            (inK IntKind.i64 (i.fst.fst + (1 : Int)) ∧ again ((i.fst.fst + (1 : Int), ()), ()))))
                (((0 : Int), ()), ()))
              (LoopP
                (fun i again =>
                  List.length l ≤ (9223372036854775807 : Nat) →
                    br (decide (i.fst.fst < (↑(List.length l) : Int)))
                      ((0 : Int) ≤ i.fst.fst ∧
                        i.fst.fst < (↑(List.length l) : Int) ∧
                          (Ty.ok tNode (ixD tNode l i.fst.fst) →
                            List.length (ixD tNode l i.fst.fst).fst ≤ (9223372036854775807 : Nat) →
                              br (decide ((↑(List.length (ixD tNode l i.fst.fst).fst) : Int) > (16 : Int)))
                                (Q (SV.v (S1.c (Cl.k (Value.int IntKind.i64 (9 : Int))))) [])
                                (inK IntKind.i64 (i.fst.fst + (1 : Int)) ∧ again ((i.fst.fst + (1 : Int), ()), ()))))
                      (LoopP
                        (fun i again =>
                          List.length l ≤ (9223372036854775807 : Nat) →
                            br (decide (i.fst.fst < (↑(List.length l) : Int)))
                              ((0 : Int) ≤ i.fst.fst ∧
                                i.fst.fst < (↑(List.length l) : Int) ∧
                                  (Ty.ok tNode (ixD tNode l i.fst.fst) →
                                    inK IntKind.i64 (idxF (isNm (ixD tNode l i.fst.fst).fst) l (0 : Int)) →
                                      br (decide (idxF (isNm (ixD tNode l i.fst.fst).fst) l (0 : Int) < i.fst.fst))
                                        (Q (SV.v (S1.c (Cl.k (Value.int IntKind.i64 (6 : Int))))) [])
                                        (inK IntKind.i64 (i.fst.fst + (1 : Int)) ∧
                                          again ((i.fst.fst + (1 : Int), ()), ()))))
                              (Q (SV.v (S1.c (Cl.k (Value.int IntKind.i64 (0 : Int))))) []))
                        (((0 : Int), ()), ())))
                (((0 : Int), ()), ())))
        (((0 : Int), ()), ())
theorem vc_namedR_eq (l : List (tNode).den) (Q : SV → List HO → Prop) : vFun XK1830 ⟨[(3, ⟨[(3, .int .i64)], []⟩), (6, ⟨[(4, .int .i64)], []⟩), (12, ⟨[(6, .int .i64)], []⟩), (17, ⟨[(7, .int .i64)], []⟩)], []⟩ Try.f80 [.c (.d tNode l)] [] Q = vc_namedR l Q := by kernel_rfl
theorem w_namedR : ∀ args H Q, c_namedR args H Q → Wp Try.prog 80 args H Q := by
  intro args H Q h
  unfold c_namedR at h
  split at h
  · rename_i cl
    split at h
    · rename_i l hl
      refine Wp.said (args' := [.c (.d tNode l)]) (fun E g => RelVs.cons1 (of_list hl) (fun _ h => h)) ?_
      clear hl
      refine Wp.enter (X := XK1830) XK1830_ok ⟨[(3, ⟨[(3, .int .i64)], []⟩), (6, ⟨[(4, .int .i64)], []⟩), (12, ⟨[(6, .int .i64)], []⟩), (17, ⟨[(7, .int .i64)], []⟩)], []⟩ (fn := Try.f80) (by kernel_rfl) ?_
      have hv := vc_namedR_eq l Q
      rw [show vFun _ _ _ _ _ _ = _ from hv]
      unfold vc_namedR
      clear hv
      intro _
      refine LoopP.intro (fun i => 0 ≤ i.1.1 ∧ i.1.1 ≤ l.length ∧ namesGo (l.drop i.1.1.toNat) = namesGo l) (fun i => l.length - i.1.1.toNat) ⟨by simp, by simp, by simp⟩ ?_
      rintro ⟨⟨i, _⟩, _⟩ ⟨h0, h1, h2⟩
      simp only at h0 h1 h2 ⊢
      intro _
      refine br_of (fun hc => ?_) (fun hc => ?_)
      · have hc : i < l.length := by simpa using hc
        rw [ixD_drop (e := tNode) h0 hc] at h2
        simp only [namesGo] at h2
        generalize ixD tNode l i = x at *
        refine LoopP.intro (fun k => 0 ≤ k.1.1 ∧ k.1.1 ≤ x.1.length ∧ validsGo (x.1.drop k.1.1.toNat) = validsGo x.1) (fun k => x.1.length - k.1.1.toNat) ⟨by simp, by simp, by simp⟩ ?_
        rintro ⟨⟨k, _⟩, _⟩ ⟨k0, k1, k2⟩
        simp only at k0 k1 k2 ⊢
        refine ⟨h0, hc, fun _ _ => br_of (fun hk => ?_) (fun hk => ?_)⟩
        · have hk : k < x.1.length := by simpa using hk
          rw [ixD_drop (e := Ty.str) k0 hk] at k2
          simp only [validsGo] at k2
          refine ⟨h0, hc, fun _ => ⟨k0, hk, fun _ _ => br_of (fun hb => ?_) (fun hb => ?_)⟩⟩
          · rw [if_pos hb] at k2
            rw [k2] at hb
            rw [if_pos hb] at h2
            rw [h2] at hb
            unfold namedR at h
            rw [if_pos hb, ← h2, ← k2] at h
            exact h
          · rw [if_neg (by rw [hb]; simp)] at k2
            exact ⟨by unfold inK; omega, ⟨by omega, by omega, k2⟩, by omega⟩
        · have hk : ¬ k < x.1.length := by simpa using hk
          rw [drop_all hk] at k2
          simp only [validsGo] at k2
          rw [← k2, if_neg (by simp)] at h2
          exact ⟨by unfold inK; omega, ⟨by omega, by omega, h2⟩, by omega⟩
      · have hc : ¬ i < l.length := by simpa using hc
        rw [drop_all hc] at h2
        simp only [namesGo] at h2
        unfold namedR at h
        rw [← h2, if_neg (by simp)] at h
        clear h0 h1 h2 hc
        refine LoopP.intro (fun i => 0 ≤ i.1.1 ∧ i.1.1 ≤ l.length ∧ deepB (l.drop i.1.1.toNat) = deepB l) (fun i => l.length - i.1.1.toNat) ⟨by simp, by simp, by simp⟩ ?_
        rintro ⟨⟨i, _⟩, _⟩ ⟨h0, h1, h2⟩
        simp only at h0 h1 h2 ⊢
        intro _
        refine br_of (fun hc => ?_) (fun hc => ?_)
        · have hc : i < l.length := by simpa using hc
          rw [ixD_drop (e := tNode) h0 hc] at h2
          unfold deepB at h2
          rw [List.any_cons] at h2
          refine ⟨h0, hc, fun _ _ => br_of (fun hb => ?_) (fun hb => ?_)⟩
          · rw [hb, Bool.true_or] at h2
            unfold deepB at h
            rw [← h2, if_pos rfl] at h
            exact h
          · rw [hb, Bool.false_or] at h2
            exact ⟨by unfold inK; omega, ⟨by omega, by omega, h2⟩, by omega⟩
        · have hc : ¬ i < l.length := by simpa using hc
          rw [drop_all hc] at h2
          rw [← h2, if_neg (by decide)] at h
          clear h0 h1 h2 hc
          refine LoopP.intro (fun i => 0 ≤ i.1.1 ∧ i.1.1 ≤ l.length ∧ twiceGo l (l.drop i.1.1.toNat) i.1.1 = twiceGo l l 0) (fun i => l.length - i.1.1.toNat) ⟨by simp, by simp, by simp⟩ ?_
          rintro ⟨⟨i, _⟩, _⟩ ⟨h0, h1, h2⟩
          simp only at h0 h1 h2 ⊢
          intro _
          refine br_of (fun hc => ?_) (fun hc => ?_)
          · have hc : i < l.length := by simpa using hc
            rw [ixD_drop (e := tNode) h0 hc] at h2
            simp only [twiceGo] at h2
            refine ⟨h0, hc, fun _ _ => br_of (fun hb => ?_) (fun hb => ?_)⟩
            · rw [hb, Bool.true_or] at h2
              rw [← h2, if_pos rfl] at h
              exact h
            · rw [hb, Bool.false_or] at h2
              exact ⟨by unfold inK; omega, ⟨by omega, by omega, h2⟩, by omega⟩
          · have hc : ¬ i < l.length := by simpa using hc
            rw [drop_all hc] at h2
            simp only [twiceGo] at h2
            rw [← h2, if_neg (by decide)] at h
            exact h
    · exact h.elim
  · exact h.elim
def upB (l : List NoD) : Bool := l.any fun x => decide ((x.1.length : Int) > 0) && !isDirB l (x.1.take (x.1.length - 1))
def placedR (l : List NoD) : Int := if (l.length : Int) > 1024 then 3 else if namedR l != 0 then namedR l else if !isDirB l [] then 4 else if upB l then 5 else 0
theorem upB_step {l r : List NoD} {x : NoD} : ((x :: r).any fun x => decide ((x.1.length : Int) > 0) && !isDirB l (x.1.take (x.1.length - 1))) = ((decide ((x.1.length : Int) > 0) && !isDirB l (x.1.take (x.1.length - 1))) || r.any fun x => decide ((x.1.length : Int) > 0) && !isDirB l (x.1.take (x.1.length - 1))) := rfl
def c_placed : Ct
  | [.v (.c cl)], [], Q => (match (Ty.sl tNode).of [cl] with
    | some (l, []) => Q (.int (placedR l)) []
    | _ => False)
  | _, _, _ => False
noncomputable def XK1831 : Vx := { P := Try.prog, ct := [(80, c_namedR), (50, c_alikeR), (43, c_bplain), (47, c_white), (78, c_linked), (103, c_alike), (117, c_eqXs), (115, c_alikeX), (116, c_bequal), (46, c_opaque), (81, c_isDir), (105, c_find), (118, c_sameR), (104, c_validR), (24, c_few), (49, c_may18), (82, c_mayR), (92, c_xattrsR), (45, c_marks), (75, c_anyM), (99, c_idxM), (79, c_badM), (75, c_anyT), (99, c_idxT), (76, c_badT), (77, c_may), (102, c_xattrs), (100, c_plain), (97, c_indexByte), (106, c_nul), (101, c_within)], ty := tyTab, hold := [] }
theorem XK1831_ok : CtOk Try.prog XK1831.ct := CtOk.cons w_namedR (CtOk.cons w_alikeR (CtOk.cons w_bplain (CtOk.cons w_white (CtOk.cons w_linked (CtOk.cons w_alike (CtOk.cons w_eqXs (CtOk.cons w_alikeX (CtOk.cons w_bequal (CtOk.cons w_opaque (CtOk.cons w_isDir (CtOk.cons w_find (CtOk.cons w_sameR (CtOk.cons w_validR (CtOk.cons w_few (CtOk.cons w_may18 (CtOk.cons w_mayR (CtOk.cons w_xattrsR (CtOk.cons w_marks (CtOk.cons w_anyM (CtOk.cons w_idxM (CtOk.cons w_badM (CtOk.cons w_anyT (CtOk.cons w_idxT (CtOk.cons w_badT (CtOk.cons w_may (CtOk.cons w_xattrs (CtOk.cons w_plain (CtOk.cons w_indexByte (CtOk.cons w_nul (CtOk.cons w_within (CtOk.nil _)))))))))))))))))))))))))))))))
def vc_placed : (List (tNode).den) → (SV → List HO → Prop) → Prop :=
  fun l Q =>
    List.length l ≤ (9223372036854775807 : Nat) →
      List.length l ≤ (9223372036854775807 : Nat) →
        br (decide ((↑(List.length l) : Int) > (1024 : Int)))
          (Q (SV.v (S1.c (Cl.k (Value.int IntKind.i64 (3 : Int))))) [])
          (inK IntKind.i64 (namedR l) →
            br (namedR l != (0 : Int)) (Q (SV.v (S1.c (Cl.k (Value.int IntKind.i64 (namedR l))))) [])
              (br (!isDirB l []) (Q (SV.v (S1.c (Cl.k (Value.int IntKind.i64 (4 : Int))))) [])
                (LoopP
                  (fun i again =>
                    List.length l ≤ (9223372036854775807 : Nat) →
                      br (decide (i.fst.fst < (↑(List.length l) : Int)))
                        ((0 : Int) ≤ i.fst.fst ∧
                          i.fst.fst < (↑(List.length l) : Int) ∧
                            (Ty.ok tNode (ixD tNode l i.fst.fst) →
                              List.length (ixD tNode l i.fst.fst).fst ≤ (9223372036854775807 : Nat) →
                                br (decide ((↑(List.length (ixD tNode l i.fst.fst).fst) : Int) > (0 : Int)))
                                  (List.length (ixD tNode l i.fst.fst).fst ≤ (9223372036854775807 : Nat) →
                                    inK IntKind.i64 ((↑(List.length (ixD tNode l i.fst.fst).fst) : Int) - (1 : Int)) ∧
                                      (0 : Int) ≤ boundV none (0 : Int) ∧
                                        boundV none (0 : Int) ≤
                                            boundV (some ((↑(List.length (ixD tNode l i.fst.fst).fst) : Int) - (1 : Int)))
                                              (↑(List.length (ixD tNode l i.fst.fst).fst) : Int) ∧
                                          boundV (some ((↑(List.length (ixD tNode l i.fst.fst).fst) : Int) - (1 : Int)))
                                                (↑(List.length (ixD tNode l i.fst.fst).fst) : Int) ≤
                                              (↑(List.length (ixD tNode l i.fst.fst).fst) : Int) ∧
                                            br
                                              (!isDirB l
                                                  (List.take
                                                    (Int.toNat
                                                        (boundV
                                                          (some
                                                            ((↑(List.length (ixD tNode l i.fst.fst).fst) : Int) -
                                                              (1 : Int)))
                                                          (↑(List.length (ixD tNode l i.fst.fst).fst) : Int)) -
                                                      (0 : Nat))
                                                    (List.drop (0 : Nat) (ixD tNode l i.fst.fst).fst)))
                                              (Q (SV.v (S1.c (Cl.k (Value.int IntKind.i64 (5 : Int))))) [])
                                              (inK IntKind.i64 (i.fst.fst + (1 : Int)) ∧
                                                again ((i.fst.fst + (1 : Int), ()), ())))
                                  (inK IntKind.i64 (i.fst.fst + (1 : Int)) ∧ again ((i.fst.fst + (1 : Int), ()), ()))))
                        (Q (SV.v (S1.c (Cl.k (Value.int IntKind.i64 (0 : Int))))) []))
                  (((0 : Int), ()), ()))))
theorem vc_placed_eq (l : List (tNode).den) (Q : SV → List HO → Prop) : vFun XK1831 ⟨[(11, ⟨[(5, .int .i64)], []⟩)], []⟩ Try.f48 [.c (.d tNode l)] [] Q = vc_placed l Q := by kernel_rfl
theorem w_placed : ∀ args H Q, c_placed args H Q → Wp Try.prog 48 args H Q := by
  intro args H Q h
  unfold c_placed at h
  split at h
  · rename_i cl
    split at h
    · rename_i l hl
      refine Wp.said (args' := [.c (.d tNode l)]) (fun E g => RelVs.cons1 (of_list hl) (fun _ h => h)) ?_
      clear hl
      refine Wp.enter (X := XK1831) XK1831_ok ⟨[(11, ⟨[(5, .int .i64)], []⟩)], []⟩ (fn := Try.f48) (by kernel_rfl) ?_
      have hv := vc_placed_eq l Q
      rw [show vFun _ _ _ _ _ _ = _ from hv]
      unfold vc_placed
      clear hv
      intro _ _
      unfold placedR at h
      refine br_of (fun hc => ?_) (fun hc => ?_)
      · rw [if_pos (by simpa using hc)] at h; exact h
      rw [if_neg (by simpa using hc)] at h
      intro _
      refine br_of (fun hc => ?_) (fun hc => ?_)
      · rw [if_pos hc] at h; exact h
      rw [if_neg (by rw [hc]; simp)] at h
      refine br_of (fun hc => ?_) (fun hc => ?_)
      · rw [if_pos hc] at h; exact h
      rw [if_neg (by rw [hc]; simp)] at h
      refine LoopP.intro (fun i => 0 ≤ i.1.1 ∧ i.1.1 ≤ l.length ∧ ((l.drop i.1.1.toNat).any fun x => decide ((x.1.length : Int) > 0) && !isDirB l (x.1.take (x.1.length - 1))) = upB l) (fun i => l.length - i.1.1.toNat) ⟨by simp, by simp, by simp [upB]⟩ ?_
      rintro ⟨⟨i, _⟩, _⟩ ⟨h0, h1, h2⟩
      simp only at h0 h1 h2 ⊢
      intro _
      refine br_of (fun hc => ?_) (fun hc => ?_)
      · have hc : i < l.length := by simpa using hc
        rw [ixD_drop (e := tNode) h0 hc, upB_step] at h2
        generalize ixD tNode l i = x at *
        refine ⟨h0, hc, fun _ _ => br_of (fun hb => fun _ => ?_) (fun hb => ?_)⟩
        · rw [hb, Bool.true_and] at h2
          have hb : (x.1.length : Int) > 0 := by simpa using hb
          have e1 : boundV (some ((x.1.length : Int) - 1)) (x.1.length : Int) = (x.1.length : Int) - 1 := rfl
          have e2 : boundV none 0 = 0 := rfl
          rw [e1, e2]
          refine ⟨by unfold inK; omega, by omega, by omega, by omega, ?_⟩
          rw [show ((x.1.length : Int) - 1).toNat - 0 = x.1.length - 1 by omega, List.drop_zero]
          refine br_of (fun hd => ?_) (fun hd => ?_)
          · rw [hd, Bool.true_or] at h2
            rw [← h2, if_pos rfl] at h; exact h
          · rw [hd, Bool.false_or] at h2
            exact ⟨by unfold inK; omega, ⟨by omega, by omega, h2⟩, by omega⟩
        · rw [hb, Bool.false_and, Bool.false_or] at h2
          exact ⟨by unfold inK; omega, ⟨by omega, by omega, h2⟩, by omega⟩
      · have hc : ¬ i < l.length := by simpa using hc
        rw [drop_all hc, List.any_nil] at h2
        rw [← h2, if_neg (by decide)] at h
        exact h
    · exact h.elim
  · exact h.elim
end Go.Proofs

namespace Go.Proofs
open Go Go.Lm Go.RowKit
/-- Whether two nodes that are one may not be. -/
def badL (x y : NoD) : Bool := x.2.1 == y.2.1 && (x.2.2.1 == 1 || (x.2.2.1 == 4 || !alikeN x y))
def linksGo : List NoD → List NoD → Bool
  | _, [] => false
  | pre, x :: r => pre.any (badL x) || linksGo (pre ++ [x]) r
def checkR (l : List NoD) : Int := if placedR l != 0 then placedR l else if l.any (fun x => !mayU x) then 7 else if linksGo [] l then 8 else 0
theorem ixD_take {e : Ty} {l : List e.den} {k i : Int} (h0 : 0 ≤ k) (h1 : k < i) : ixD e (l.take i.toNat) k = ixD e l k := by
  unfold ixD
  rw [List.getD_eq_getElem?_getD, List.getD_eq_getElem?_getD, List.getElem?_take, if_pos (by omega)]
theorem badL_any {x y : NoD} {r : List NoD} : (y :: r).any (badL x) = (badL x y || r.any (badL x)) := rfl
def c_checkR : Ct
  | [.v (.c cl)], [], Q => (match (Ty.sl tNode).of [cl] with
    | some (l, []) => Q (.int (checkR l)) []
    | _ => False)
  | _, _, _ => False
noncomputable def XK1932 : Vx := { P := Try.prog, ct := [(48, c_placed), (80, c_namedR), (50, c_alikeR), (43, c_bplain), (47, c_white), (78, c_linked), (103, c_alike), (117, c_eqXs), (115, c_alikeX), (116, c_bequal), (46, c_opaque), (81, c_isDir), (105, c_find), (118, c_sameR), (104, c_validR), (24, c_few), (49, c_may18), (82, c_mayR), (92, c_xattrsR), (45, c_marks), (75, c_anyM), (99, c_idxM), (79, c_badM), (75, c_anyT), (99, c_idxT), (76, c_badT), (77, c_may), (102, c_xattrs), (100, c_plain), (97, c_indexByte), (106, c_nul), (101, c_within)], ty := tyTab, hold := [] }
theorem XK1932_ok : CtOk Try.prog XK1932.ct := CtOk.cons w_placed (CtOk.cons w_namedR (CtOk.cons w_alikeR (CtOk.cons w_bplain (CtOk.cons w_white (CtOk.cons w_linked (CtOk.cons w_alike (CtOk.cons w_eqXs (CtOk.cons w_alikeX (CtOk.cons w_bequal (CtOk.cons w_opaque (CtOk.cons w_isDir (CtOk.cons w_find (CtOk.cons w_sameR (CtOk.cons w_validR (CtOk.cons w_few (CtOk.cons w_may18 (CtOk.cons w_mayR (CtOk.cons w_xattrsR (CtOk.cons w_marks (CtOk.cons w_anyM (CtOk.cons w_idxM (CtOk.cons w_badM (CtOk.cons w_anyT (CtOk.cons w_idxT (CtOk.cons w_badT (CtOk.cons w_may (CtOk.cons w_xattrs (CtOk.cons w_plain (CtOk.cons w_indexByte (CtOk.cons w_nul (CtOk.cons w_within (CtOk.nil _))))))))))))))))))))))))))))))))
def vc_checkR : (List (tNode).den) → (SV → List HO → Prop) → Prop :=
  fun l Q =>
    List.length l ≤ (9223372036854775807 : Nat) →
      inK IntKind.i64 (placedR l) →
        br (placedR l != (0 : Int)) (Q (SV.v (S1.c (Cl.k (Value.int IntKind.i64 (placedR l))))) [])
          (LoopP
            (fun i again =>
              List.length l ≤ (9223372036854775807 : Nat) →
                br (decide (i.fst.fst < (↑(List.length l) : Int)))
                  ((0 : Int) ≤ i.fst.fst ∧
                    i.fst.fst < (↑(List.length l) : Int) ∧
                      (Ty.ok tNode (ixD tNode l i.fst.fst) →
                        br
                          (!mayU
                              ((ixD tNode l i.fst.fst).fst, (ixD tNode l i.fst.fst).snd.fst,
                                (ixD tNode l i.fst.fst).snd.snd.fst,
                                ((ixD tNode l i.fst.fst).snd.snd.snd.fst.fst,
                                  (ixD tNode l i.fst.fst).snd.snd.snd.fst.snd.fst,
                                  (ixD tNode l i.fst.fst).snd.snd.snd.fst.snd.snd.fst, ()),
                                (ixD tNode l i.fst.fst).snd.snd.snd.snd.fst,
                                (ixD tNode l i.fst.fst).snd.snd.snd.snd.snd.fst,
                                (ixD tNode l i.fst.fst).snd.snd.snd.snd.snd.snd.fst,
                                (ixD tNode l i.fst.fst).snd.snd.snd.snd.snd.snd.snd.fst, ()))
                          (Q (SV.v (S1.c (Cl.k (Value.int IntKind.i64 (7 : Int))))) [])
                          (inK IntKind.i64 (i.fst.fst + (1 : Int)) ∧ again ((i.fst.fst + (1 : Int), ()), ()))))
                  (LoopP
                    (fun i again =>
                      List.length l ≤ (9223372036854775807 : Nat) →
                        br (decide (i.fst.fst < (↑(List.length l) : Int)))
                          (LoopP
                            (fun i_1 again_1 =>
                              br (decide (i_1.fst.fst < i.fst.fst))
                                ((0 : Int) ≤ i.fst.fst ∧
                                  i.fst.fst < (↑(List.length l) : Int) ∧
                                    (Ty.ok tNode (ixD tNode l i.fst.fst) →
                                      (0 : Int) ≤ i_1.fst.fst ∧
                                        i_1.fst.fst < (↑(List.length l) : Int) ∧
                                          (Ty.ok tNode (ixD tNode l i_1.fst.fst) →
                                            br ((ixD tNode l i.fst.fst).snd.fst == (ixD tNode l i_1.fst.fst).snd.fst)
                                              ((0 : Int) ≤ i.fst.fst ∧
                                                i.fst.fst < (↑(List.length l) : Int) ∧
                                                  (Ty.ok tNode (ixD tNode l i.fst.fst) →
                                                    br ((ixD tNode l i.fst.fst).snd.snd.fst == (1 : Int))
                                                      (Q (SV.v (S1.c (Cl.k (Value.int IntKind.i64 (8 : Int))))) [])
                                                      ((0 : Int) ≤ i.fst.fst ∧
                                                        i.fst.fst < (↑(List.length l) : Int) ∧
                                                          (Ty.ok tNode (ixD tNode l i.fst.fst) →
                                                            br ((ixD tNode l i.fst.fst).snd.snd.fst == (4 : Int))
                                                              (Q (SV.v (S1.c (Cl.k (Value.int IntKind.i64 (8 : Int)))))
                                                                [])
                                                              ((0 : Int) ≤ i.fst.fst ∧
                                                                i.fst.fst < (↑(List.length l) : Int) ∧
                                                                  (Ty.ok tNode (ixD tNode l i.fst.fst) →
                                                                    (0 : Int) ≤ i_1.fst.fst ∧
                                                                      i_1.fst.fst < (↑(List.length l) : Int) ∧
                                                                        (Ty.ok tNode (ixD tNode l i_1.fst.fst) →
                                                                          br
                                                                            (!alikeN
                                                                                ((ixD tNode l i.fst.fst).fst,
                                                                                  (ixD tNode l i.fst.fst).snd.fst,
                                                                                  (ixD tNode l i.fst.fst).snd.snd.fst,
                                                                                  ((ixD tNode l
                                                                                                i.fst.fst).snd.snd.snd.fst.fst,
                                                                                    (ixD tNode l
                                                                                                  i.fst.fst).snd.snd.snd.fst.snd.fst,
                                                                                    (ixD tNode l
                                                                                                    i.fst.fst).snd.snd.snd.fst.snd.snd.fst,
                                                                                    ()),
                                                                                  (ixD tNode l
                                                                                              i.fst.fst).snd.snd.snd.snd.fst,
                                                                                  (ixD tNode l
                                                                                                i.fst.fst).snd.snd.snd.snd.snd.fst,
                                                                                  (ixD tNode l
                                                                                                  i.fst.fst).snd.snd.snd.snd.snd.snd.fst,
                                                                                  (ixD tNode l
                                                                                                    i.fst.fst).snd.snd.snd.snd.snd.snd.snd.fst,
                                                                                  ())
                                                                                ((ixD tNode l i_1.fst.fst).fst,
                                                                                  (ixD tNode l i_1.fst.fst).snd.fst,
                                                                                  (ixD tNode l i_1.fst.fst).snd.snd.fst,
                                                                                  ((ixD tNode l
                                                                                                i_1.fst.fst).snd.snd.snd.fst.fst,
                                                                                    (ixD tNode l
                                                                                                  i_1.fst.fst).snd.snd.snd.fst.snd.fst,
                                                                                    (ixD tNode l
                                                                                                    i_1.fst.fst).snd.snd.snd.fst.snd.snd.fst,
                                                                                    ()),
                                                                                  (ixD tNode l
                                                                                              i_1.fst.fst).snd.snd.snd.snd.fst,
                                                                                  (ixD tNode l
                                                                                                i_1.fst.fst).snd.snd.snd.snd.snd.fst,
                                                                                  (ixD tNode l
                                                                                                  i_1.fst.fst).snd.snd.snd.snd.snd.snd.fst,
                                                                                  (ixD tNode l
                                                                                                    i_1.fst.fst).snd.snd.snd.snd.snd.snd.snd.fst,
                                                                                  ()))
                                                                            (Q
                                                                              (SV.v
                                                                                (S1.c
                                                                                  (Cl.k
                                                                                    (Value.int IntKind.i64 (8 : Int)))))
                                                                              [])
                                                                            (inK IntKind.i64 (i_1.fst.fst + (1 : Int)) ∧
                                                                              again_1
                                                                                ((i_1.fst.fst + (1 : Int), ()),
                                                                                  ())))))))))
                                              (inK IntKind.i64 (i_1.fst.fst + (1 : Int)) ∧
                                                again_1 ((i_1.fst.fst + (1 : Int), ()), ())))))
                                (inK IntKind.i64 (i.fst.fst + (1 : Int)) ∧ again ((i.fst.fst + (1 : Int), ()), ())))
                            (((0 : Int), ()), ()))
                          (Q (SV.v (S1.c (Cl.k (Value.int IntKind.i64 (0 : Int))))) []))
                    (((0 : Int), ()), ())))
            (((0 : Int), ()), ()))
theorem vc_checkR_eq (l : List (tNode).den) (Q : SV → List HO → Prop) : vFun XK1932 ⟨[(6, ⟨[(4, .int .i64)], []⟩),(12, ⟨[(6, .int .i64)], []⟩),(15, ⟨[(7, .int .i64)], []⟩)], []⟩ Try.f26 [.c (.d tNode l)] [] Q = vc_checkR l Q := by kernel_rfl
theorem w_checkR : ∀ args H Q, c_checkR args H Q → Wp Try.prog 26 args H Q := by
  intro args H Q h
  unfold c_checkR at h
  split at h
  · rename_i cl
    split at h
    · rename_i l hl
      refine Wp.said (args' := [.c (.d tNode l)]) (fun E g => RelVs.cons1 (of_list hl) (fun _ h => h)) ?_
      clear hl
      refine Wp.enter (X := XK1932) XK1932_ok ⟨[(6, ⟨[(4, .int .i64)], []⟩),(12, ⟨[(6, .int .i64)], []⟩),(15, ⟨[(7, .int .i64)], []⟩)], []⟩ (fn := Try.f26) (by kernel_rfl) ?_
      have hv := vc_checkR_eq l Q
      rw [show vFun _ _ _ _ _ _ = _ from hv]
      unfold vc_checkR
      clear hv
      intro _ _
      unfold checkR at h
      refine br_of (fun hc => ?_) (fun hc => ?_)
      · rw [if_pos hc] at h; exact h
      rw [if_neg (by rw [hc]; simp)] at h
      refine LoopP.intro (fun i => 0 ≤ i.1.1 ∧ i.1.1 ≤ l.length ∧ ((l.drop i.1.1.toNat).any fun x => !mayU x) = l.any fun x => !mayU x) (fun i => l.length - i.1.1.toNat) ⟨by simp, by simp, by simp⟩ ?_
      rintro ⟨⟨i, _⟩, _⟩ ⟨h0, h1, h2⟩
      simp only at h0 h1 h2 ⊢
      intro _
      refine br_of (fun hc => ?_) (fun hc => ?_)
      · have hc : i < l.length := by simpa using hc
        rw [ixD_drop (e := tNode) h0 hc, List.any_cons] at h2
        refine ⟨h0, hc, fun _ => br_of (fun hb => ?_) (fun hb => ?_)⟩
        · have hb : (!mayU (ixD tNode l i)) = true := hb
          rw [hb, Bool.true_or] at h2
          rw [← h2, if_pos rfl] at h
          exact h
        · have hb : (!mayU (ixD tNode l i)) = false := hb
          rw [hb, Bool.false_or] at h2
          exact ⟨by unfold inK; omega, ⟨by omega, by omega, h2⟩, by omega⟩
      have hc : ¬ i < l.length := by simpa using hc
      rw [drop_all hc, List.any_nil] at h2
      rw [← h2, if_neg (by decide)] at h
      clear h0 h1 h2 hc
      refine LoopP.intro (fun i => 0 ≤ i.1.1 ∧ i.1.1 ≤ l.length ∧ linksGo (l.take i.1.1.toNat) (l.drop i.1.1.toNat) = linksGo [] l) (fun i => l.length - i.1.1.toNat) ⟨by simp, by simp, by simp⟩ ?_
      rintro ⟨⟨i, _⟩, _⟩ ⟨h0, h1, h2⟩
      simp only at h0 h1 h2 ⊢
      intro _
      refine br_of (fun hc => ?_) (fun hc => ?_)
      · have hc : i < l.length := by simpa using hc
        rw [ixD_drop (e := tNode) h0 hc] at h2
        simp only [linksGo] at h2
        have e1 : l.take (i + 1).toNat = l.take i.toNat ++ [ixD tNode l i] := take_ixD (e := tNode) h0 hc
        rw [← e1] at h2
        have hlen : ((l.take i.toNat).length : Int) = i := by rw [List.length_take]; omega
        refine LoopP.intro (fun k => 0 ≤ k.1.1 ∧ k.1.1 ≤ i ∧ ((l.take i.toNat).drop k.1.1.toNat).any (badL (ixD tNode l i)) = (l.take i.toNat).any (badL (ixD tNode l i))) (fun k => i.toNat - k.1.1.toNat) ⟨by simp, by omega, by simp⟩ ?_
        rintro ⟨⟨k, _⟩, _⟩ ⟨k0, k1, k2⟩
        simp only at k0 k1 k2 ⊢
        refine br_of (fun hk => ?_) (fun hk => ?_)
        · have hk : k < i := by simpa using hk
          rw [ixD_drop (e := tNode) k0 (by omega), ixD_take (e := tNode) k0 hk, badL_any] at k2
          have fin : ∀ v, badL (ixD tNode l i) (ixD tNode l k) = v → v = true → Q (.int 8) [] := fun v e hv => by
            rw [e, hv, Bool.true_or] at k2
            rw [← k2, Bool.true_or] at h2
            rw [← h2, if_pos rfl] at h
            exact h
          have go : badL (ixD tNode l i) (ixD tNode l k) = false → ((l.take i.toNat).drop (k + 1).toNat).any (badL (ixD tNode l i)) = (l.take i.toNat).any (badL (ixD tNode l i)) := fun e => by rw [e, Bool.false_or] at k2; exact k2
          refine ⟨h0, hc, fun _ => ⟨k0, by omega, fun _ => br_of (fun a1 => ?_) (fun a1 => ?_)⟩⟩
          · have e : badL (ixD tNode l i) (ixD tNode l k) = ((ixD tNode l i).2.2.1 == 1 || ((ixD tNode l i).2.2.1 == 4 || !alikeN (ixD tNode l i) (ixD tNode l k))) := by unfold badL; rw [a1, Bool.true_and]
            refine ⟨h0, hc, fun _ => br_of (fun a2 => ?_) (fun a2 => ⟨h0, hc, fun _ => br_of (fun a3 => ?_) (fun a3 => ⟨h0, hc, fun _ => ⟨k0, by omega, fun _ => br_of (fun a4 => ?_) (fun a4 => ?_)⟩⟩)⟩)⟩
            · exact fin _ e (by rw [a2, Bool.true_or])
            · exact fin _ e (by rw [a2, a3, Bool.true_or, Bool.false_or])
            · have a4 : (!alikeN (ixD tNode l i) (ixD tNode l k)) = true := a4
              exact fin _ e (by rw [a2, a3, a4]; rfl)
            · have a4 : (!alikeN (ixD tNode l i) (ixD tNode l k)) = false := a4
              exact ⟨by unfold inK; omega, ⟨by omega, by omega, go (by rw [e, a2, a3, a4]; rfl)⟩, by omega⟩
          · exact ⟨by unfold inK; omega, ⟨by omega, by omega, go (by unfold badL; rw [a1, Bool.false_and])⟩, by omega⟩
        · have hk : ¬ k < i := by simpa using hk
          rw [List.drop_eq_nil_of_le (by omega), List.any_nil] at k2
          rw [← k2, Bool.false_or] at h2
          exact ⟨by unfold inK; omega, ⟨by omega, by omega, h2⟩, by omega⟩
      · have hc : ¬ i < l.length := by simpa using hc
        rw [drop_all hc] at h2
        simp only [linksGo] at h2
        rw [← h2, if_neg (by decide)] at h
        exact h
    · exact h.elim
  · exact h.elim
end Go.Proofs

namespace Go.Proofs
open Go Go.Lm Go.RowKit
theorem validN_old (s : ByteArray) : Go.LmN.validN s = validN s := by
  unfold Go.LmN.validN validN
  rw [show Go.LmN.dots s = dotsB s from rfl, show Go.LmN.badB s 0 = slashB s 0 from rfl, Bool.or_comm]
theorem validN_in (s : ByteArray) : inK .i64 (validN s) := by
  have h : validN s = 23 ∨ validN s = 22 ∨ validN s = 0 := by
    unfold validN
    split
    · exact .inl rfl
    · split
      · exact .inr (.inl rfl)
      · exact .inr (.inr rfl)
  rcases h with h | h | h <;> rw [h] <;> exact ⟨by decide, by decide⟩
def c_valid : Ct
  | [.v (.c (.k (.string s)))], [], Q => Q (.int (validN s)) []
  | _, _, _ => False
def c_sjoin : Ct
  | [.v (.c ca), .v (.c (.k (.string z)))], [], Q => (match (Ty.sl Ty.str).of [ca] with
    | some (a, []) => z = ⟨#[47]⟩ ∧ (Go.LmN.joinN a).size ≤ 140737488355328 ∧ Q (.str ⟨(Lib.join (a.map (·.data.toList)) [47]).toArray⟩) []
    | _ => False)
  | _, _, _ => False
theorem sj_size (l : List ByteArray) (hb : (Go.LmN.joinN l).size ≤ 140737488355328) : 1 + (ByteArray.mk ((Lib.join (l.map (·.data.toList)) [47]).toArray)).size ≤ 9223372036854775807 := by
  have hj := Go.LmN.join_len1 l
  have e : (ByteArray.mk ((Lib.join (l.map (·.data.toList)) [47]).toArray)).size = (Lib.join (l.map (·.data.toList)) [47]).length := by rw [Go.LmN.size_list]
  rw [e]; omega
theorem w_valid : ∀ args H Q, c_valid args H Q → Wp Try.prog 68 args H Q := by
  intro args H Q h
  unfold c_valid at h
  split at h
  · rename_i s
    refine Wp.of_pure (fun E g w vs m hv => ?_) h
    obtain ⟨u, r, rfl, ⟨rfl, _⟩, hr⟩ := hv
    obtain rfl : r = [] := hr
    refine (valid_any s w).mono fun x w' ⟨h1, h2⟩ => ⟨?_, h2⟩
    rw [h1, validN_old]
    exact relV_mk (validN_in s)
  · exact h.elim
theorem join_lib (l : List ByteArray) (v : Value) (g w : World) (sees : Mono g w) (h : Is g v l) (hb : (Go.LmN.joinN l).size ≤ 140737488355328) : Ret Try.prog 98 #[v, .string ⟨#[47]⟩] w fun u w' => u = .string ⟨(Lib.join (l.map (·.data.toList)) [47]).toArray⟩ ∧ Le w w' := by
  have hj := Go.LmN.join_len l
  by_cases hl : l = []
  · subst hl
    rcases is_list.1 h with ⟨rfl, _⟩ | ⟨a, cap, rfl, _⟩
    · exact (Ret.of (Try.strings_Join_none none 0 ⟨#[47]⟩ w)).mono fun _ _ ⟨h1, h2⟩ => ⟨h1, by rw [h2]; exact Le.refl w⟩
    · exact (Ret.of (Try.strings_Join_none (some a) cap ⟨#[47]⟩ w)).mono fun _ _ ⟨h1, h2⟩ => ⟨h1, by rw [h2]; exact Le.refl w⟩
  · obtain ⟨bk, o, c, rfl, h1, h2, h3⟩ := Go.LmN.join_argsM h sees hl
    have hn : l.length ≤ (Go.LmN.joinN l).size := by
      have e := Go.LmN.joinN_data l
      rw [if_neg (by simpa using hl)] at e
      rw [Go.LmN.size_list, e]
      exact Go.LmN.tails_ge l
    exact (Ret.of (Try.strings_Join bk o c l ⟨#[47]⟩ w h1 h2 (by omega) h3 (by show (Lib.join (l.map (·.data.toList)) [47]).length ≤ _; omega))).mono fun _ _ ⟨h1, h2⟩ => ⟨h1, h2⟩
theorem w_sjoin : ∀ args H Q, c_sjoin args H Q → Wp Try.prog 98 args H Q := by
  intro args H Q h
  unfold c_sjoin at h
  split at h
  · split at h
    · rename_i a ha
      obtain ⟨rfl, hb, h⟩ := h
      refine Wp.of_pure (fun E g w vs m hv => ?_) h
      obtain ⟨u, v, rfl, hu, ⟨rfl, _⟩⟩ := relVs_two hv
      have hu : IsD .str g u a := of_list ha u hu
      refine (join_lib a u g w m hu hb).mono fun x w' ⟨h1, h2⟩ => ⟨?_, h2⟩
      rw [h1]
      refine ⟨rfl, ?_⟩
      exact Nat.le_trans (Nat.le_add_left _ 1) (sj_size a hb)
    · exact h.elim
  · exact h.elim
def c_join : Ct
  | [.v (.c ca)], [], Q => (match (Ty.sl Ty.str).of [ca] with
    | some (a, []) => ((Go.LmN.joinN a).size ≤ 140737488355328 ∧ Q (.str (Go.LmN.joinN a)) [])
    | _ => False)
  | _, _, _ => False
noncomputable def XK2033 : Vx := { P := Try.prog, ct := [(98, c_sjoin), (68, c_valid), (26, c_checkR), (48, c_placed), (80, c_namedR), (50, c_alikeR), (43, c_bplain), (47, c_white), (78, c_linked), (103, c_alike), (117, c_eqXs), (115, c_alikeX), (116, c_bequal), (46, c_opaque), (81, c_isDir), (105, c_find), (118, c_sameR), (104, c_validR), (24, c_few), (49, c_may18), (82, c_mayR), (92, c_xattrsR), (45, c_marks), (75, c_anyM), (99, c_idxM), (79, c_badM), (75, c_anyT), (99, c_idxT), (76, c_badT), (77, c_may), (102, c_xattrs), (100, c_plain), (97, c_indexByte), (106, c_nul), (101, c_within)], ty := tyTab, hold := [] }
theorem XK2033_ok : CtOk Try.prog XK2033.ct := CtOk.cons w_sjoin (CtOk.cons w_valid (CtOk.cons w_checkR (CtOk.cons w_placed (CtOk.cons w_namedR (CtOk.cons w_alikeR (CtOk.cons w_bplain (CtOk.cons w_white (CtOk.cons w_linked (CtOk.cons w_alike (CtOk.cons w_eqXs (CtOk.cons w_alikeX (CtOk.cons w_bequal (CtOk.cons w_opaque (CtOk.cons w_isDir (CtOk.cons w_find (CtOk.cons w_sameR (CtOk.cons w_validR (CtOk.cons w_few (CtOk.cons w_may18 (CtOk.cons w_mayR (CtOk.cons w_xattrsR (CtOk.cons w_marks (CtOk.cons w_anyM (CtOk.cons w_idxM (CtOk.cons w_badM (CtOk.cons w_anyT (CtOk.cons w_idxT (CtOk.cons w_badT (CtOk.cons w_may (CtOk.cons w_xattrs (CtOk.cons w_plain (CtOk.cons w_indexByte (CtOk.cons w_nul (CtOk.cons w_within (CtOk.nil _)))))))))))))))))))))))))))))))))))
def vc_join : (List (Ty.str).den) → (SV → List HO → Prop) → Prop :=
  fun a Q =>
    List.length a ≤ (9223372036854775807 : Nat) →
      (ByteArray.mk ( #[(47 : UInt8)] )) = (ByteArray.mk ( #[(47 : UInt8)] )) ∧
        ByteArray.size (LmN.joinN a) ≤ (140737488355328 : Nat) ∧
          (ByteArray.size (ByteArray.mk ( List.toArray (Lib.join (List.map (fun x => x.data.toList) a) [(47 : UInt8)]) )) ≤
              (9223372036854775807 : Nat) →
            (1 : Nat) +
                  ByteArray.size
                    (ByteArray.mk ( List.toArray (Lib.join (List.map (fun x => x.data.toList) a) [(47 : UInt8)]) )) ≤
                (9223372036854775807 : Nat) ∧
              Q
                (SV.v
                  (S1.c
                    (Cl.k
                      (Value.string
                        ((ByteArray.mk ( #[(47 : UInt8)] )) ++
                          (ByteArray.mk ( List.toArray (Lib.join (List.map (fun x => x.data.toList) a) [(47 : UInt8)]) )))))))
                [])
theorem vc_join_eq (a : List (Ty.str).den) (Q : SV → List HO → Prop) : vFun XK2033 ⟨[], []⟩ Try.f74 [.c (.d Ty.str a)] [] Q = vc_join a Q := by kernel_rfl
theorem w_join : ∀ args H Q, c_join args H Q → Wp Try.prog 74 args H Q := by
  intro args H Q h
  unfold c_join at h
  split at h
  · rename_i ca
    split at h
    · rename_i a ha
      refine Wp.said (args' := [.c (.d Ty.str a)]) (fun E g => RelVs.cons1 (of_list ha) (fun _ h => h)) ?_
      clear ha
      refine Wp.enter (X := XK2033) XK2033_ok ⟨[], []⟩ (fn := Try.f74) (by kernel_rfl) ?_
      have hv := vc_join_eq a Q
      rw [show vFun _ _ _ _ _ _ = _ from hv]
      unfold vc_join
      obtain ⟨hb, h⟩ := h
      intro _
      refine ⟨rfl, hb, fun _ => ⟨?_, ?_⟩⟩
      · exact sj_size a hb
      · rw [← Go.LmN.joinN_lib] at h
        exact h
    · exact h.elim
  · exact h.elim
end Go.Proofs

namespace Go.Proofs
open Go Go.Lm Go.RowKit
abbrev joinP (l : List ByteArray) : ByteArray := Go.LmN.joinN l
/-- Nodes by their paths, or none if two have one. -/
def mapGo : List NoD → List (ByteArray × NoD) → Option (List (ByteArray × NoD))
  | [], m => some m
  | x :: r, m => if (Kk.get .str m (joinP x.1)).isSome then none else mapGo r (Kk.put .str m (joinP x.1) x)
theorem valids_ok : ∀ {l : List ByteArray}, validsGo l = 0 → ∀ s ∈ l, validN s = 0
  | [], _, s, hs => by cases hs
  | x :: r, h, s, hs => by
    unfold validsGo at h
    by_cases hx : (validN x != 0) = true
    · rw [if_pos hx] at h
      rw [h] at hx; simp at hx
    · rw [if_neg hx] at h
      rcases List.mem_cons.1 hs with rfl | hs
      · simpa using hx
      · exact valids_ok h s hs
theorem names_valid : ∀ {l : List NoD}, namesGo l = 0 → ∀ x ∈ l, ∀ s ∈ x.1, validN s = 0
  | [], _, x, hx => by cases hx
  | y :: r, h, x, hx => by
    unfold namesGo at h
    by_cases hy : (validsGo y.1 != 0) = true
    · rw [if_pos hy] at h
      rw [h] at hy; simp at hy
    · rw [if_neg hy] at h
      rcases List.mem_cons.1 hx with rfl | hx
      · exact valids_ok (by simpa using hy)
      · exact names_valid h x hx
theorem deep_ok {l : List NoD} (h : deepB l = false) {x : NoD} (hx : x ∈ l) : x.1.length ≤ 16 := by
  unfold deepB at h
  rw [List.any_eq_false] at h
  have := h x hx
  simp at this; omega
theorem join_small {p : List ByteArray} (h : ∀ s ∈ p, validN s = 0) (hl : p.length ≤ 30) : (joinP p).size ≤ 140737488355328 := by
  have := Go.LmN.allV_size (l := p) (fun s hs => by rw [validN_old]; exact h s hs) hl
  show (Go.LmN.joinN p).size ≤ _
  omega
theorem ixD_mem {e : Ty} {l : List e.den} {k : Int} (h0 : 0 ≤ k) (h1 : k < l.length) : ixD e l k ∈ l := by
  have hlt : k.toNat < l.length := by omega
  unfold ixD
  rw [List.getD_eq_getElem?_getD, List.getElem?_eq_getElem hlt]
  exact List.getElem_mem hlt
/-- What is wrong with the nodes' names, if anything. -/
def namedE (l : List NoD) : Int := if namesGo l != 0 then namesGo l else if deepB l then 9 else if (mapGo l []).isNone then 6 else 0
def byPath (l : List NoD) : List (ByteArray × NoD) := (mapGo l []).getD []
def c_named : Ct
  | [.v (.c cl)], [], Q => (match (Ty.sl tNode).of [cl] with
    | some (l, []) => br (namedE l != 0) (Q (.tup [.c (.k (.map none)), .c (.k (.int .i64 (namedE l)))]) []) (Q (.tup [.c (.m 0), .c (.k (.int .i64 0))]) [.map 9 .str tNode (byPath l)])
    | _ => False)
  | _, _, _ => False
noncomputable def XK2134 : Vx := { P := Try.prog, ct := [(74, c_join), (98, c_sjoin), (68, c_valid), (26, c_checkR), (48, c_placed), (80, c_namedR), (50, c_alikeR), (43, c_bplain), (47, c_white), (78, c_linked), (103, c_alike), (117, c_eqXs), (115, c_alikeX), (116, c_bequal), (46, c_opaque), (81, c_isDir), (105, c_find), (118, c_sameR), (104, c_validR), (24, c_few), (49, c_may18), (82, c_mayR), (92, c_xattrsR), (45, c_marks), (75, c_anyM), (99, c_idxM), (79, c_badM), (75, c_anyT), (99, c_idxT), (76, c_badT), (77, c_may), (102, c_xattrs), (100, c_plain), (97, c_indexByte), (106, c_nul), (101, c_within)], ty := tyTab, hold := [] }
theorem XK2134_ok : CtOk Try.prog XK2134.ct := CtOk.cons w_join (CtOk.cons w_sjoin (CtOk.cons w_valid (CtOk.cons w_checkR (CtOk.cons w_placed (CtOk.cons w_namedR (CtOk.cons w_alikeR (CtOk.cons w_bplain (CtOk.cons w_white (CtOk.cons w_linked (CtOk.cons w_alike (CtOk.cons w_eqXs (CtOk.cons w_alikeX (CtOk.cons w_bequal (CtOk.cons w_opaque (CtOk.cons w_isDir (CtOk.cons w_find (CtOk.cons w_sameR (CtOk.cons w_validR (CtOk.cons w_few (CtOk.cons w_may18 (CtOk.cons w_mayR (CtOk.cons w_xattrsR (CtOk.cons w_marks (CtOk.cons w_anyM (CtOk.cons w_idxM (CtOk.cons w_badM (CtOk.cons w_anyT (CtOk.cons w_idxT (CtOk.cons w_badT (CtOk.cons w_may (CtOk.cons w_xattrs (CtOk.cons w_plain (CtOk.cons w_indexByte (CtOk.cons w_nul (CtOk.cons w_within (CtOk.nil _))))))))))))))))))))))))))))))))))))
def vc_named : (List (tNode).den) → (SV → List HO → Prop) → Prop :=
  fun l Q =>
    List.length l ≤ (9223372036854775807 : Nat) →
      List.length l ≤ (9223372036854775807 : Nat) →
        LoopP
          (fun i again =>
            br (decide (i.fst.fst < (↑(List.length l) : Int)))
              ((0 : Int) ≤ i.fst.fst ∧
                i.fst.fst < (↑(List.length l) : Int) ∧
                  (Ty.ok tNode (ixD tNode l i.fst.fst) →
                    List.length (ixD tNode l i.fst.fst).fst ≤ (9223372036854775807 : Nat) →
                      LoopP
                        (fun i_1 again_1 =>
                          br (decide (i_1.fst.fst < (↑(List.length (ixD tNode l i.fst.fst).fst) : Int)))
                            ((0 : Int) ≤ i_1.fst.fst ∧
                              i_1.fst.fst < (↑(List.length (ixD tNode l i.fst.fst).fst) : Int) ∧
                                (Ty.ok Ty.str (ixD Ty.str (ixD tNode l i.fst.fst).fst i_1.fst.fst) →
                                  inK IntKind.i64 (validN (ixD Ty.str (ixD tNode l i.fst.fst).fst i_1.fst.fst)) →
                                    br (validN (ixD Ty.str (ixD tNode l i.fst.fst).fst i_1.fst.fst) != (0 : Int))
                                      (Q
                                        (SV.tup
                                          [S1.c (Cl.k (Value.map none)),
                                            S1.c
                                              (Cl.k
                                                (Value.int IntKind.i64
                                                  (validN (ixD Ty.str (ixD tNode l i.fst.fst).fst i_1.fst.fst))))])
                                        [])
                                      (inK IntKind.i64 (i_1.fst.fst + (1 : Int)) ∧
                                        again_1 ((i_1.fst.fst + (1 : Int), ()), ()))))
                            (inK IntKind.i64 (i.fst.fst + (1 : Int)) ∧ again ((i.fst.fst + (1 : Int), ()), ())))
                        (((0 : Int), ()), ())))
              (List.length l ≤ (9223372036854775807 : Nat) →
                LoopP
                  (fun i again =>
                    br (decide (i.fst.fst < (↑(List.length l) : Int)))
                      ((0 : Int) ≤ i.fst.fst ∧
                        i.fst.fst < (↑(List.length l) : Int) ∧
                          (Ty.ok tNode (ixD tNode l i.fst.fst) →
                            List.length (ixD tNode l i.fst.fst).fst ≤ (9223372036854775807 : Nat) →
                              br (decide ((↑(List.length (ixD tNode l i.fst.fst).fst) : Int) > (16 : Int)))
                                (Q (SV.tup [S1.c (Cl.k (Value.map none)), S1.c (Cl.k (Value.int IntKind.i64 (9 : Int)))])
                                  [])
                                (inK IntKind.i64 (i.fst.fst + (1 : Int)) ∧ again ((i.fst.fst + (1 : Int), ()), ()))))
                      (List.length l ≤ (9223372036854775807 : Nat) →
                        LoopP
                          (fun i again =>
                            br (decide (i.fst.fst < (↑(List.length l) : Int)))
                              ((0 : Int) ≤ i.fst.fst ∧
                                i.fst.fst < (↑(List.length l) : Int) ∧
                                  (Ty.ok tNode (ixD tNode l i.fst.fst) →
                                    ByteArray.size (LmN.joinN (ixD tNode l i.fst.fst).fst) ≤ (140737488355328 : Nat) ∧
                                      (ByteArray.size (LmN.joinN (ixD tNode l i.fst.fst).fst) ≤
                                          (9223372036854775807 : Nat) →
                                        Ty.ok tNode
                                            (Option.getD (Kk.get Kk.str i.snd.fst (LmN.joinN (ixD tNode l i.fst.fst).fst))
                                              ([], (0 : Int), (0 : Int), ((0 : Int), (0 : Int), (0 : Int), ()), [],
                                                (ByteArray.mk ( #[] )), [], false, ())) →
                                          br
                                            (Option.isSome
                                              (Kk.get Kk.str i.snd.fst (LmN.joinN (ixD tNode l i.fst.fst).fst)))
                                            (Q
                                              (SV.tup
                                                [S1.c (Cl.k (Value.map none)),
                                                  S1.c (Cl.k (Value.int IntKind.i64 (6 : Int)))])
                                              [])
                                            (List.length i.snd.fst < (9223372036854775807 : Nat) ∧
                                              inK IntKind.i64 (i.fst.fst + (1 : Int)) ∧
                                                again
                                                  ((i.fst.fst + (1 : Int), ()),
                                                    Kk.put Kk.str i.snd.fst (LmN.joinN (ixD tNode l i.fst.fst).fst)
                                                      ((ixD tNode l i.fst.fst).fst, (ixD tNode l i.fst.fst).snd.fst,
                                                        (ixD tNode l i.fst.fst).snd.snd.fst,
                                                        ((ixD tNode l i.fst.fst).snd.snd.snd.fst.fst,
                                                          (ixD tNode l i.fst.fst).snd.snd.snd.fst.snd.fst,
                                                          (ixD tNode l i.fst.fst).snd.snd.snd.fst.snd.snd.fst, ()),
                                                        (ixD tNode l i.fst.fst).snd.snd.snd.snd.fst,
                                                        (ixD tNode l i.fst.fst).snd.snd.snd.snd.snd.fst,
                                                        (ixD tNode l i.fst.fst).snd.snd.snd.snd.snd.snd.fst,
                                                        (ixD tNode l i.fst.fst).snd.snd.snd.snd.snd.snd.snd.fst, ()),
                                                    ())))))
                              (Q (SV.tup [S1.c (Cl.m (0 : Nat)), S1.c (Cl.k (Value.int IntKind.i64 (0 : Int)))])
                                [HO.map (9 : TypeId) Kk.str tNode i.snd.fst]))
                          (((0 : Int), ()), [], ())))
                  (((0 : Int), ()), ())))
          (((0 : Int), ()), ())
theorem vc_named_eq (l : List (tNode).den) (Q : SV → List HO → Prop) : vFun XK2134 ⟨[(3, ⟨[(19, .int .i64)], []⟩), (6, ⟨[(26, .int .i64)], []⟩), (14, ⟨[(39, .int .i64)], []⟩), (21, ⟨[(51, .int .i64)], [(0, .map 9 .str tNode)]⟩)], []⟩ Try.f73 [.c (.d tNode l)] [] Q = vc_named l Q := by kernel_rfl
theorem w_named : ∀ args H Q, c_named args H Q → Wp Try.prog 73 args H Q := by
  intro args H Q h
  unfold c_named at h
  split at h
  · rename_i cl
    split at h
    · rename_i l hl
      refine Wp.said (args' := [.c (.d tNode l)]) (fun E g => RelVs.cons1 (of_list hl) (fun _ h => h)) ?_
      clear hl
      refine Wp.enter (X := XK2134) XK2134_ok ⟨[(3, ⟨[(19, .int .i64)], []⟩), (6, ⟨[(26, .int .i64)], []⟩), (14, ⟨[(39, .int .i64)], []⟩), (21, ⟨[(51, .int .i64)], [(0, .map 9 .str tNode)]⟩)], []⟩ (fn := Try.f73) (by kernel_rfl) ?_
      have hv := vc_named_eq l Q
      rw [show vFun _ _ _ _ _ _ = _ from hv]
      unfold vc_named
      clear hv
      intro _ _
      refine LoopP.intro (fun i => 0 ≤ i.1.1 ∧ i.1.1 ≤ l.length ∧ namesGo (l.drop i.1.1.toNat) = namesGo l) (fun i => l.length - i.1.1.toNat) ⟨by simp, by simp, by simp⟩ ?_
      rintro ⟨⟨i, _⟩, _⟩ ⟨h0, h1, h2⟩
      simp only at h0 h1 h2 ⊢
      refine br_of (fun hc => ?_) (fun hc => ?_)
      · have hc : i < l.length := by simpa using hc
        rw [ixD_drop (e := tNode) h0 hc] at h2
        simp only [namesGo] at h2
        generalize ixD tNode l i = x at *
        refine ⟨h0, hc, fun _ _ => ?_⟩
        refine LoopP.intro (fun k => 0 ≤ k.1.1 ∧ k.1.1 ≤ x.1.length ∧ validsGo (x.1.drop k.1.1.toNat) = validsGo x.1) (fun k => x.1.length - k.1.1.toNat) ⟨by simp, by simp, by simp⟩ ?_
        rintro ⟨⟨k, _⟩, _⟩ ⟨k0, k1, k2⟩
        simp only at k0 k1 k2 ⊢
        refine br_of (fun hk => ?_) (fun hk => ?_)
        · have hk : k < x.1.length := by simpa using hk
          rw [ixD_drop (e := Ty.str) k0 hk] at k2
          simp only [validsGo] at k2
          refine ⟨k0, hk, fun _ _ => br_of (fun hb => ?_) (fun hb => ?_)⟩
          · rw [if_pos hb] at k2
            rw [k2] at hb
            rw [if_pos hb] at h2
            rw [h2] at hb
            have e : namedE l = namesGo l := if_pos hb
            rw [e, hb, ← h2, ← k2] at h
            exact h
          · rw [if_neg (by rw [hb]; simp)] at k2
            exact ⟨by unfold inK; omega, ⟨by omega, by omega, k2⟩, by omega⟩
        · have hk : ¬ k < x.1.length := by simpa using hk
          rw [drop_all hk] at k2
          simp only [validsGo] at k2
          rw [← k2, if_neg (by simp)] at h2
          exact ⟨by unfold inK; omega, ⟨by omega, by omega, h2⟩, by omega⟩
      have hc : ¬ i < l.length := by simpa using hc
      rw [drop_all hc] at h2
      simp only [namesGo] at h2
      have hN : namesGo l = 0 := h2.symm
      have e1 : namedE l = if deepB l then 9 else if (mapGo l []).isNone then 6 else 0 := if_neg (by rw [hN]; simp)
      rw [e1] at h
      clear h0 h1 h2 hc
      intro _
      refine LoopP.intro (fun i => 0 ≤ i.1.1 ∧ i.1.1 ≤ l.length ∧ deepB (l.drop i.1.1.toNat) = deepB l) (fun i => l.length - i.1.1.toNat) ⟨by simp, by simp, by simp⟩ ?_
      rintro ⟨⟨i, _⟩, _⟩ ⟨h0, h1, h2⟩
      simp only at h0 h1 h2 ⊢
      refine br_of (fun hc => ?_) (fun hc => ?_)
      · have hc : i < l.length := by simpa using hc
        rw [ixD_drop (e := tNode) h0 hc] at h2
        unfold deepB at h2
        rw [List.any_cons] at h2
        refine ⟨h0, hc, fun _ _ => br_of (fun hb => ?_) (fun hb => ?_)⟩
        · rw [hb, Bool.true_or] at h2
          have hD : deepB l = true := h2.symm
          rw [if_pos hD] at h
          exact h
        · rw [hb, Bool.false_or] at h2
          exact ⟨by unfold inK; omega, ⟨by omega, by omega, h2⟩, by omega⟩
      have hc : ¬ i < l.length := by simpa using hc
      rw [drop_all hc] at h2
      have hD : deepB l = false := h2.symm
      rw [if_neg (by rw [hD]; decide)] at h
      clear h0 h1 h2 hc
      intro _
      refine LoopP.intro (fun i => 0 ≤ i.1.1 ∧ i.1.1 ≤ l.length ∧ mapGo (l.drop i.1.1.toNat) i.2.1 = mapGo l [] ∧ (i.2.1.length : Int) ≤ i.1.1) (fun i => l.length - i.1.1.toNat) ⟨by simp, by simp, by simp, by simp⟩ ?_
      rintro ⟨⟨i, _⟩, m, _⟩ ⟨h0, h1, h2, h3⟩
      simp only at h0 h1 h2 h3 ⊢
      refine br_of (fun hc => ?_) (fun hc => ?_)
      · have hc : i < l.length := by simpa using hc
        rw [ixD_drop (e := tNode) h0 hc] at h2
        have hx : ixD tNode l i ∈ l := ixD_mem (e := tNode) h0 hc
        have hb := join_small (names_valid hN _ hx) (by have := deep_ok hD hx; omega)
        have hp := put_len (k := .str) (l := m) (x := joinP (ixD tNode l i).1) (v := ixD tNode l i)
        generalize ixD tNode l i = x at *
        simp only [mapGo] at h2
        refine ⟨h0, hc, fun _ => ⟨hb, fun _ _ => br_of (fun h4 => ?_) (fun h4 => ?_)⟩⟩
        · rw [if_pos h4] at h2
          rw [← h2] at h
          exact h
        · rw [if_neg (by rw [h4]; simp)] at h2
          exact ⟨by omega, by unfold inK; omega, ⟨by omega, by omega, h2, Int.le_trans (Int.ofNat_le.2 hp) (by omega)⟩, by omega⟩
      have hc : ¬ i < l.length := by simpa using hc
      rw [drop_all hc] at h2
      simp only [mapGo] at h2
      have e2 : byPath l = m := by unfold byPath; rw [← h2]; rfl
      rw [← h2, e2] at h
      exact h
    · exact h.elim
  · exact h.elim
/-- The kind of the node of a path, or 0. -/
def kindAt (m : List (ByteArray × NoD)) (p : List ByteArray) : Int := ((Kk.get .str m (joinP p)).getD ([], 0, 0, (0, 0, 0, ()), [], ⟨#[]⟩, [], false, ())).2.2.1
def parB (m : List (ByteArray × NoD)) (l : List NoD) : Bool := l.any fun x => decide ((x.1.length : Int) - 1 ≥ 0) && (kindAt m (x.1.take (x.1.length - 1)) != 1)
def checkT (l : List NoD) : Int := if (l.length : Int) > 1024 then 3 else if namedE l != 0 then namedE l else if kindAt (byPath l) [] != 1 then 4 else if parB (byPath l) l then 5 else if l.any (fun x => !mayT x) then 7 else linkGo l []
theorem namedE_0 {l : List NoD} (h : (namedE l != 0) = false) : namesGo l = 0 ∧ deepB l = false ∧ (mapGo l []).isSome = true := by
  have h : namedE l = 0 := by simpa using h
  unfold namedE at h
  split at h
  · rename_i h1
    rw [h] at h1; simp at h1
  · rename_i h1
    split at h
    · simp at h
    · rename_i h2
      split at h
      · simp at h
      · rename_i h3
        refine ⟨by simpa using h1, by simpa using h2, ?_⟩
        cases hm : mapGo l [] with
        | none => rw [hm] at h3; simp at h3
        | some m => rfl
def c_check : Ct
  | [.v (.c cl)], [], Q => (match (Ty.sl tNode).of [cl] with
    | some (l, []) => Q (.int (checkT l)) []
    | _ => False)
  | _, _, _ => False
noncomputable def XK2135 : Vx := { P := Try.prog, ct := [(75, c_anyT), (73, c_named), (74, c_join), (98, c_sjoin), (68, c_valid), (26, c_checkR), (48, c_placed), (80, c_namedR), (50, c_alikeR), (43, c_bplain), (47, c_white), (78, c_linked), (103, c_alike), (117, c_eqXs), (115, c_alikeX), (116, c_bequal), (46, c_opaque), (81, c_isDir), (105, c_find), (118, c_sameR), (104, c_validR), (24, c_few), (49, c_may18), (82, c_mayR), (92, c_xattrsR), (45, c_marks), (75, c_anyM), (99, c_idxM), (79, c_badM), (99, c_idxT), (76, c_badT), (77, c_may), (102, c_xattrs), (100, c_plain), (97, c_indexByte), (106, c_nul), (101, c_within)], ty := tyTab, hold := [] }
theorem XK2135_ok : CtOk Try.prog XK2135.ct := CtOk.cons w_anyT (CtOk.cons w_named (CtOk.cons w_join (CtOk.cons w_sjoin (CtOk.cons w_valid (CtOk.cons w_checkR (CtOk.cons w_placed (CtOk.cons w_namedR (CtOk.cons w_alikeR (CtOk.cons w_bplain (CtOk.cons w_white (CtOk.cons w_linked (CtOk.cons w_alike (CtOk.cons w_eqXs (CtOk.cons w_alikeX (CtOk.cons w_bequal (CtOk.cons w_opaque (CtOk.cons w_isDir (CtOk.cons w_find (CtOk.cons w_sameR (CtOk.cons w_validR (CtOk.cons w_few (CtOk.cons w_may18 (CtOk.cons w_mayR (CtOk.cons w_xattrsR (CtOk.cons w_marks (CtOk.cons w_anyM (CtOk.cons w_idxM (CtOk.cons w_badM (CtOk.cons w_idxT (CtOk.cons w_badT (CtOk.cons w_may (CtOk.cons w_xattrs (CtOk.cons w_plain (CtOk.cons w_indexByte (CtOk.cons w_nul (CtOk.cons w_within (CtOk.nil _)))))))))))))))))))))))))))))))))))))
def vc_check : (List (tNode).den) → (SV → List HO → Prop) → Prop :=
  fun l Q =>
    List.length l ≤ (9223372036854775807 : Nat) →
      List.length l ≤ (9223372036854775807 : Nat) →
        br (decide ((↑(List.length l) : Int) > (1024 : Int)))
          (Q (SV.v (S1.c (Cl.k (Value.int IntKind.i64 (3 : Int))))) [])
          (br (namedE l != (0 : Int))
            (inK IntKind.i64 (namedE l) →
              br (namedE l != (0 : Int)) (Q (SV.v (S1.c (Cl.k (Value.int IntKind.i64 (namedE l))))) [])
                ((1 : Nat) ≤ (140737488355328 : Nat) ∧ ((1 : Nat) ≤ (9223372036854775807 : Nat) → False)))
            (inK IntKind.i64 (0 : Int) →
              (1 : Nat) ≤ (140737488355328 : Nat) ∧
                ((1 : Nat) ≤ (9223372036854775807 : Nat) →
                  Ty.ok tNode
                      (Option.getD (Kk.get Kk.str (byPath l) (LmN.joinN []))
                        ([], (0 : Int), (0 : Int), ((0 : Int), (0 : Int), (0 : Int), ()), [], (ByteArray.mk ( #[] )), [], false,
                          ())) →
                    br
                      ((Option.getD (Kk.get Kk.str (byPath l) (LmN.joinN []))
                                ([], (0 : Int), (0 : Int), ((0 : Int), (0 : Int), (0 : Int), ()), [], (ByteArray.mk ( #[] )), [],
                                  false, ())).snd.snd.fst !=
                        (1 : Int))
                      (Q (SV.v (S1.c (Cl.k (Value.int IntKind.i64 (4 : Int))))) [])
                      (List.length l ≤ (9223372036854775807 : Nat) →
                        LoopP
                          (fun i again =>
                            br (decide (i.fst.fst < (↑(List.length l) : Int)))
                              ((0 : Int) ≤ i.fst.fst ∧
                                i.fst.fst < (↑(List.length l) : Int) ∧
                                  (Ty.ok tNode (ixD tNode l i.fst.fst) →
                                    List.length (ixD tNode l i.fst.fst).fst ≤ (9223372036854775807 : Nat) →
                                      inK IntKind.i64 ((↑(List.length (ixD tNode l i.fst.fst).fst) : Int) - (1 : Int)) ∧
                                        br
                                          (decide
                                            ((↑(List.length (ixD tNode l i.fst.fst).fst) : Int) - (1 : Int) ≥ (0 : Int)))
                                          ((0 : Int) ≤ boundV none (0 : Int) ∧
                                            boundV none (0 : Int) ≤
                                                boundV
                                                  (some ((↑(List.length (ixD tNode l i.fst.fst).fst) : Int) - (1 : Int)))
                                                  (↑(List.length (ixD tNode l i.fst.fst).fst) : Int) ∧
                                              boundV
                                                    (some
                                                      ((↑(List.length (ixD tNode l i.fst.fst).fst) : Int) - (1 : Int)))
                                                    (↑(List.length (ixD tNode l i.fst.fst).fst) : Int) ≤
                                                  (↑(List.length (ixD tNode l i.fst.fst).fst) : Int) ∧
                                                ByteArray.size
                                                      (LmN.joinN
                                                        (List.take
                                                          (Int.toNat
                                                              (boundV
                                                                (some
                                                                  ((↑(List.length (ixD tNode l i.fst.fst).fst) : Int) -
                                                                    (1 : Int)))
                                                                (↑(List.length (ixD tNode l i.fst.fst).fst) : Int)) -
                                                            (0 : Nat))
                                                          (List.drop (0 : Nat) (ixD tNode l i.fst.fst).fst))) ≤
                                                    (140737488355328 : Nat) ∧
                                                  (ByteArray.size
                                                        (LmN.joinN
                                                          (List.take
                                                            (Int.toNat
                                                                (boundV
                                                                  (some
                                                                    ((↑(List.length (ixD tNode l i.fst.fst).fst) : Int) -
                                                                      (1 : Int)))
                                                                  (↑(List.length (ixD tNode l i.fst.fst).fst) : Int)) -
                                                              (0 : Nat))
                                                            (List.drop (0 : Nat) (ixD tNode l i.fst.fst).fst))) ≤
                                                      (9223372036854775807 : Nat) →
                                                    Ty.ok tNode
                                                        (Option.getD
                                                          (Kk.get Kk.str (byPath l)
                                                            (LmN.joinN
                                                              (List.take
                                                                (Int.toNat
                                                                    (boundV
                                                                      (some
                                                                        ((↑(List.length (ixD tNode l i.fst.fst).fst) :
                                                                            Int) -
                                                                          (1 : Int)))
                                                                      (↑(List.length (ixD tNode l i.fst.fst).fst) :
                                                                        Int)) -
                                                                  (0 : Nat))
                                                                (List.drop (0 : Nat) (ixD tNode l i.fst.fst).fst))))
                                                          ([], (0 : Int), (0 : Int),
                                                            ((0 : Int), (0 : Int), (0 : Int), ()), [], (ByteArray.mk ( #[] )),
                                                            [], false, ())) →
                                                      br
                                                        ((Option.getD
                                                                  (Kk.get Kk.str (byPath l)
                                                                    (LmN.joinN
                                                                      (List.take
                                                                        (Int.toNat
                                                                            (boundV
                                                                              (some
                                                                                ((↑(List.length
                                                                                        (ixD tNode l i.fst.fst).fst) :
                                                                                    Int) -
                                                                                  (1 : Int)))
                                                                              (↑(List.length
                                                                                    (ixD tNode l i.fst.fst).fst) :
                                                                                Int)) -
                                                                          (0 : Nat))
                                                                        (List.drop (0 : Nat)
                                                                          (ixD tNode l i.fst.fst).fst))))
                                                                  ([], (0 : Int), (0 : Int),
                                                                    ((0 : Int), (0 : Int), (0 : Int), ()), [],
                                                                    (ByteArray.mk ( #[] )), [], false, ())).snd.snd.fst !=
                                                          (1 : Int))
                                                        (Q (SV.v (S1.c (Cl.k (Value.int IntKind.i64 (5 : Int))))) [])
                                                        (inK IntKind.i64 (i.fst.fst + (1 : Int)) ∧
                                                          again ((i.fst.fst + (1 : Int), ()), ()))))
                                          (inK IntKind.i64 (i.fst.fst + (1 : Int)) ∧
                                            again ((i.fst.fst + (1 : Int), ()), ()))))
                              (br (!List.any l fun x => !mayT x)
                                (inK IntKind.i64 (linkGo l []) →
                                  Q (SV.v (S1.c (Cl.k (Value.int IntKind.i64 (linkGo l []))))) [])
                                (Q (SV.v (S1.c (Cl.k (Value.int IntKind.i64 (7 : Int))))) [])))
                          (((0 : Int), ()), ())))))
theorem vc_check_eq (l : List (tNode).den) (Q : SV → List HO → Prop) : vFun XK2135 ⟨[(10, ⟨[(28, .int .i64)], []⟩)], []⟩ Try.f44 [.c (.d tNode l)] [] Q = vc_check l Q := by kernel_rfl
theorem w_check : ∀ args H Q, c_check args H Q → Wp Try.prog 44 args H Q := by
  intro args H Q h
  unfold c_check at h
  split at h
  · rename_i cl
    split at h
    · rename_i l hl
      refine Wp.said (args' := [.c (.d tNode l)]) (fun E g => RelVs.cons1 (of_list hl) (fun _ h => h)) ?_
      clear hl
      refine Wp.enter (X := XK2135) XK2135_ok ⟨[(10, ⟨[(28, .int .i64)], []⟩)], []⟩ (fn := Try.f44) (by kernel_rfl) ?_
      have hv := vc_check_eq l Q
      rw [show vFun _ _ _ _ _ _ = _ from hv]
      unfold vc_check
      clear hv
      intro _ _
      unfold checkT at h
      refine br_of (fun hc => ?_) (fun hc => ?_)
      · rw [if_pos (by simpa using hc)] at h; exact h
      rw [if_neg (by simpa using hc)] at h
      refine br_of (fun hc => ?_) (fun hc => ?_)
      · rw [if_pos hc] at h
        intro _
        rw [hc]; exact h
      rw [if_neg (by rw [hc]; simp)] at h
      obtain ⟨hN, hD, _⟩ := namedE_0 hc
      intro _
      refine ⟨by decide, fun _ _ => br_of (fun hc => ?_) (fun hc => ?_)⟩
      · rw [if_pos (show (kindAt (byPath l) [] != 1) = true from hc)] at h; exact h
      rw [if_neg (by show ¬ (kindAt (byPath l) [] != 1) = true; rw [show (kindAt (byPath l) [] != 1) = false from hc]; simp)] at h
      intro _
      refine LoopP.intro (fun i => 0 ≤ i.1.1 ∧ i.1.1 ≤ l.length ∧ parB (byPath l) (l.drop i.1.1.toNat) = parB (byPath l) l) (fun i => l.length - i.1.1.toNat) ⟨by simp, by simp, by simp⟩ ?_
      rintro ⟨⟨i, _⟩, _⟩ ⟨h0, h1, h2⟩
      simp only at h0 h1 h2 ⊢
      refine br_of (fun hc => ?_) (fun hc => ?_)
      · have hc : i < l.length := by simpa using hc
        rw [ixD_drop (e := tNode) h0 hc] at h2
        have hx : ixD tNode l i ∈ l := ixD_mem (e := tNode) h0 hc
        have hv := names_valid hN _ hx
        have hl := deep_ok hD hx
        generalize ixD tNode l i = x at *
        have h2 : ((decide ((x.1.length : Int) - 1 ≥ 0) && (kindAt (byPath l) (x.1.take (x.1.length - 1)) != 1)) || parB (byPath l) (l.drop (i + 1).toNat)) = parB (byPath l) l := h2
        refine ⟨h0, hc, fun _ _ => ⟨by unfold inK; omega, br_of (fun hb => ?_) (fun hb => ?_)⟩⟩
        · rw [hb, Bool.true_and] at h2
          have hb : (x.1.length : Int) - 1 ≥ 0 := by simpa using hb
          have e1 : boundV (some ((x.1.length : Int) - 1)) (x.1.length : Int) = (x.1.length : Int) - 1 := rfl
          have e2 : boundV none 0 = 0 := rfl
          rw [e1, e2]
          refine ⟨by omega, by omega, by omega, ?_⟩
          rw [show ((x.1.length : Int) - 1).toNat - 0 = x.1.length - 1 by omega, List.drop_zero]
          refine ⟨join_small (fun s hs => hv s (List.take_subset _ _ hs)) (by rw [List.length_take]; omega), fun _ _ => br_of (fun hd => ?_) (fun hd => ?_)⟩
          · rw [show (kindAt (byPath l) (x.1.take (x.1.length - 1)) != 1) = true from hd, Bool.true_or] at h2
            rw [← h2, if_pos rfl] at h; exact h
          · rw [show (kindAt (byPath l) (x.1.take (x.1.length - 1)) != 1) = false from hd, Bool.false_or] at h2
            exact ⟨by unfold inK; omega, ⟨by omega, by omega, h2⟩, by omega⟩
        · rw [hb, Bool.false_and, Bool.false_or] at h2
          exact ⟨by unfold inK; omega, ⟨by omega, by omega, h2⟩, by omega⟩
      have hc : ¬ i < l.length := by simpa using hc
      rw [drop_all hc] at h2
      rw [← h2, if_neg (by simp [parB])] at h
      refine br_of (fun hb => fun _ => ?_) (fun hb => ?_)
      · have hb : (l.any fun x => !mayT x) = false := by simpa only [Bool.not_eq_true'] using hb
        rw [if_neg (by rw [hb]; simp)] at h
        exact h
      · have hb : (l.any fun x => !mayT x) = true := by simpa only [Bool.not_eq_false'] using hb
        rw [if_pos hb] at h
        exact h
    · exact h.elim
  · exact h.elim
end Go.Proofs

namespace Go.Proofs
open Go Go.Lm Go.RowKit
def checkU (l : List NoD) : Int :=
  if checkT (l.map plainN) != 0 && checkT (l.map plainN) != 8 then checkT (l.map plainN) else if l.any (fun x => badM x) then 7 else if checkT (l.map plainN) != 0 || opqGo l [] then 8 else if whGo l [] then 8 else 0
def c_checkU : Ct
  | [.v (.c cl)], [], Q => (match (Ty.sl tNode).of [cl] with
    | some (l, []) => ((l.length : Int) ≤ 1000 ∧ Q (.int (checkU l)) [])
    | _ => False)
  | _, _, _ => False
noncomputable def XK2236 : Vx := { P := Try.prog, ct := [(44, c_check), (75, c_anyT), (73, c_named), (74, c_join), (98, c_sjoin), (68, c_valid), (26, c_checkR), (48, c_placed), (80, c_namedR), (50, c_alikeR), (43, c_bplain), (47, c_white), (78, c_linked), (103, c_alike), (117, c_eqXs), (115, c_alikeX), (116, c_bequal), (46, c_opaque), (81, c_isDir), (105, c_find), (118, c_sameR), (104, c_validR), (24, c_few), (49, c_may18), (82, c_mayR), (92, c_xattrsR), (45, c_marks), (75, c_anyM), (99, c_idxM), (79, c_badM), (99, c_idxT), (76, c_badT), (77, c_may), (102, c_xattrs), (100, c_plain), (97, c_indexByte), (106, c_nul), (101, c_within)], ty := tyTab, hold := [44] }
theorem XK2236_ok : CtOk Try.prog XK2236.ct := CtOk.cons w_check (CtOk.cons w_anyT (CtOk.cons w_named (CtOk.cons w_join (CtOk.cons w_sjoin (CtOk.cons w_valid (CtOk.cons w_checkR (CtOk.cons w_placed (CtOk.cons w_namedR (CtOk.cons w_alikeR (CtOk.cons w_bplain (CtOk.cons w_white (CtOk.cons w_linked (CtOk.cons w_alike (CtOk.cons w_eqXs (CtOk.cons w_alikeX (CtOk.cons w_bequal (CtOk.cons w_opaque (CtOk.cons w_isDir (CtOk.cons w_find (CtOk.cons w_sameR (CtOk.cons w_validR (CtOk.cons w_few (CtOk.cons w_may18 (CtOk.cons w_mayR (CtOk.cons w_xattrsR (CtOk.cons w_marks (CtOk.cons w_anyM (CtOk.cons w_idxM (CtOk.cons w_badM (CtOk.cons w_idxT (CtOk.cons w_badT (CtOk.cons w_may (CtOk.cons w_xattrs (CtOk.cons w_plain (CtOk.cons w_indexByte (CtOk.cons w_nul (CtOk.cons w_within (CtOk.nil _))))))))))))))))))))))))))))))))))))))
def vc_checkU : (List (tNode).den) → (SV → List HO → Prop) → Prop :=
  fun l Q =>
    List.length l ≤ (9223372036854775807 : Nat) →
      List.length l ≤ (9223372036854775807 : Nat) →
        LoopP
          (fun i again =>
            br (decide (i.fst.fst < (↑(List.length l) : Int)))
              ((0 : Int) ≤ i.fst.fst ∧
                i.fst.fst < (↑(List.length l) : Int) ∧
                  (Ty.ok tNode (ixD tNode l i.fst.fst) →
                    List.length (plainN (ixD tNode l i.fst.fst)).fst ≤ (9223372036854775807 : Nat) →
                      inK IntKind.i64 (plainN (ixD tNode l i.fst.fst)).snd.fst →
                        inK IntKind.i64 (plainN (ixD tNode l i.fst.fst)).snd.snd.fst →
                          inK IntKind.i64 (plainN (ixD tNode l i.fst.fst)).snd.snd.snd.fst.fst →
                            inK IntKind.i64 (plainN (ixD tNode l i.fst.fst)).snd.snd.snd.fst.snd.fst →
                              inK IntKind.i64 (plainN (ixD tNode l i.fst.fst)).snd.snd.snd.fst.snd.snd.fst →
                                List.length (plainN (ixD tNode l i.fst.fst)).snd.snd.snd.snd.fst ≤
                                    (9223372036854775807 : Nat) →
                                  ByteArray.size (plainN (ixD tNode l i.fst.fst)).snd.snd.snd.snd.snd.fst ≤
                                      (9223372036854775807 : Nat) →
                                    List.length (plainN (ixD tNode l i.fst.fst)).snd.snd.snd.snd.snd.snd.fst ≤
                                        (9223372036854775807 : Nat) →
                                      (List.length i.fst.snd.fst + List.length [plainN (ixD tNode l i.fst.fst)]) *
                                            (136 : Nat) ≤
                                          (140737488355328 : Nat) ∧
                                        List.length i.fst.snd.fst + List.length [plainN (ixD tNode l i.fst.fst)] ≤
                                            (9223372036854775807 : Nat) ∧
                                          inK IntKind.i64 (i.fst.fst + (1 : Int)) ∧
                                            again
                                              ((i.fst.fst + (1 : Int), i.fst.snd.fst ++ [plainN (ixD tNode l i.fst.fst)],
                                                  ()),
                                                ())))
              (inK IntKind.i64 (checkT i.fst.snd.fst) →
                br (checkT i.fst.snd.fst != (0 : Int))
                  (br (checkT i.fst.snd.fst != (8 : Int))
                    (Q (SV.v (S1.c (Cl.k (Value.int IntKind.i64 (checkT i.fst.snd.fst))))) [])
                    (br (!!List.any l fun x => badM x) (Q (SV.v (S1.c (Cl.k (Value.int IntKind.i64 (7 : Int))))) [])
                      (br (checkT i.fst.snd.fst != (0 : Int))
                        (Q (SV.v (S1.c (Cl.k (Value.int IntKind.i64 (8 : Int))))) [])
                        (br (opqGo l []) (Q (SV.v (S1.c (Cl.k (Value.int IntKind.i64 (8 : Int))))) [])
                          (br (whGo l []) (Q (SV.v (S1.c (Cl.k (Value.int IntKind.i64 (8 : Int))))) [])
                            (Q (SV.v (S1.c (Cl.k (Value.int IntKind.i64 (0 : Int))))) []))))))
                  (br (!!List.any l fun x => badM x) (Q (SV.v (S1.c (Cl.k (Value.int IntKind.i64 (7 : Int))))) [])
                    (br (checkT i.fst.snd.fst != (0 : Int)) (Q (SV.v (S1.c (Cl.k (Value.int IntKind.i64 (8 : Int))))) [])
                      (br (opqGo l []) (Q (SV.v (S1.c (Cl.k (Value.int IntKind.i64 (8 : Int))))) [])
                        (br (whGo l []) (Q (SV.v (S1.c (Cl.k (Value.int IntKind.i64 (8 : Int))))) [])
                          (Q (SV.v (S1.c (Cl.k (Value.int IntKind.i64 (0 : Int))))) [])))))))
          (((0 : Int), [], ()), ())
theorem vc_checkU_eq (l : List (tNode).den) (Q : SV → List HO → Prop) : vFun XK2236 ⟨[(4, ⟨[(9, .int .i64), (3, .own 28 tNode)], []⟩)], []⟩ Try.f25 [.c (.d tNode l)] [] Q = vc_checkU l Q := by kernel_rfl
theorem w_checkU : ∀ args H Q, c_checkU args H Q → Wp Try.prog 25 args H Q := by
  intro args H Q h
  unfold c_checkU at h
  split at h
  · rename_i cl
    split at h
    · rename_i l hl
      refine Wp.said (args' := [.c (.d tNode l)]) (fun E g => RelVs.cons1 (of_list hl) (fun _ h => h)) ?_
      clear hl
      refine Wp.enter (X := XK2236) XK2236_ok ⟨[(4, ⟨[(9, .int .i64), (3, .own 28 tNode)], []⟩)], []⟩ (fn := Try.f25) (by kernel_rfl) ?_
      have hv := vc_checkU_eq l Q
      rw [show vFun _ _ _ _ _ _ = _ from hv]
      unfold vc_checkU
      clear hv
      obtain ⟨hb, h⟩ := h
      intro _ _
      refine LoopP.intro (fun i => 0 ≤ i.1.1 ∧ i.1.1 ≤ l.length ∧ i.1.2.1 = (l.take i.1.1.toNat).map plainN) (fun i => l.length - i.1.1.toNat) ⟨by simp, by simp, by simp⟩ ?_
      rintro ⟨⟨i, xs, _⟩, _⟩ ⟨h0, h1, h2⟩
      simp only at h0 h1 h2 ⊢
      refine br_of (fun hc => ?_) (fun hc => ?_)
      · have hc : i < l.length := by simpa using hc
        have hl : (xs.length : Int) = i := by rw [h2, List.length_map, List.length_take]; omega
        have e1 : l.take (i + 1).toNat = l.take i.toNat ++ [ixD tNode l i] := take_ixD (e := tNode) h0 hc
        refine ⟨h0, hc, fun _ _ _ _ _ _ _ _ _ _ => ⟨?_, ?_, by unfold inK; omega, ⟨by omega, by omega, ?_⟩, by omega⟩⟩
        · show (xs.length + 1) * 136 ≤ _
          omega
        · show xs.length + 1 ≤ _
          omega
        · show xs ++ [plainN (ixD tNode l i)] = (l.take (i + 1).toNat).map plainN
          rw [e1, List.map_append, h2]; rfl
      have hc : ¬ i < l.length := by simpa using hc
      rw [List.take_of_length_le (by omega)] at h2
      subst h2
      intro _
      unfold checkU at h
      cases e0 : (checkT (l.map plainN) != 0) <;> cases e8 : (checkT (l.map plainN) != 8) <;> cases eM : (l.any fun x => badM x) <;> cases eo : opqGo l [] <;> cases ew : whGo l [] <;> rw [e0, e8, eM, eo, ew] at h <;> first
        | exact h
    · exact h.elim
  · exact h.elim
end Go.Proofs

/- What is wrong with an upper branch's tree is what the document says: plain facts on nodes. -/
namespace Go.Proofs
open Go Go.Lm Go.RowKit
theorem sEq_iff {a b : ByteArray} : sEq a b = true ↔ a = b := by
  unfold sEq
  rw [beq_iff_eq, Lib.toList_data, Lib.toList_data]
  exact ⟨fun h => Go.LmN.ba_ext h, fun h => by rw [h]⟩
theorem eqB_iff {a b : List UInt8} : eqB a b = true ↔ a = b := by
  unfold eqB
  rw [sEq_iff]
  constructor
  · intro h
    have h1 : (bstr a).data.toList = (bstr b).data.toList := by rw [h]
    simpa [bstr] using h1
  · intro h; rw [h]
theorem alikeX_iff {x y : XaD} : alikeX x y = true ↔ x = y := by
  obtain ⟨a, b, u⟩ := x
  obtain ⟨c, d, v⟩ := y
  unfold alikeX
  rw [Bool.and_eq_true, sEq_iff, eqB_iff]
  simp
theorem alikeXs_iff : ∀ {a b : List XaD}, alikeXs a b = true ↔ a = b
  | [], [] => by simp [alikeXs]
  | [], _ :: _ => by simp [alikeXs]
  | _ :: _, [] => by simp [alikeXs]
  | x :: a, y :: b => by
    unfold alikeXs
    rw [Bool.and_eq_true, alikeX_iff, alikeXs_iff]
    simp
theorem alikeN_iff {x y : NoD} : alikeN x y = true ↔ x.2.2 = y.2.2 := by
  obtain ⟨p, i, k, ⟨m, u, g, u1⟩, d, t, xs, o, u2⟩ := x
  obtain ⟨p', i', k', ⟨m', u', g', u1'⟩, d', t', xs', o', u2'⟩ := y
  unfold alikeN
  simp only [Bool.and_eq_true, sEq_iff, eqB_iff, alikeXs_iff, beq_iff_eq, Bool.and_true, Prod.mk.injEq]
  constructor
  · rintro ⟨h1, ⟨h2, h3, h4⟩, h5, h6, h7, h8⟩
    exact ⟨h1, ⟨h2, h3, h4, trivial⟩, h7, h5, h8, h6, trivial⟩
  · rintro ⟨h1, ⟨h2, h3, h4, _⟩, h7, h5, h8, h6, _⟩
    exact ⟨h1, ⟨h2, h3, h4⟩, h5, h6, h7, h8⟩
theorem sameN_iff : ∀ {a b : List ByteArray}, sameN a b = true ↔ a = b
  | [], [] => by simp [sameN]
  | [], _ :: _ => by simp [sameN]
  | _ :: _, [] => by simp [sameN]
  | x :: a, y :: b => by
    unfold sameN
    rw [Bool.and_eq_true, sEq_iff, sameN_iff]
    simp
/-! ### Maps -/
theorem kget_same {k : Kk} {α : Type} {l : List (k.den × α)} {x : k.den} {v : α} : Kk.get k (Kk.put k l x v) x = some v := by
  unfold Kk.get Kk.put getK putK
  simp
theorem kget_ne {k : Kk} {α : Type} {l : List (k.den × α)} {x y : k.den} {v : α} (h : y ≠ x) : Kk.get k (Kk.put k l x v) y = Kk.get k l y := by
  unfold Kk.get Kk.put getK putK delK
  have h' : ¬ x = y := fun e => h e.symm
  rw [List.find?_cons]
  simp only [h', decide_false, List.find?_filter]
  congr 2
  funext p
  by_cases h2 : p.1 = y
  · simp [h2, h]
  · simp [h2]
theorem kget_nil {k : Kk} {α : Type} {x : k.den} : Kk.get k ([] : List (k.den × α)) x = none := rfl
/-! ### Each with each that is ahead of it -/
def pairG {α : Type} (R : α → α → Bool) : List α → List α → Bool
  | _, [] => false
  | pre, x :: r => pre.any (R x) || pairG R (pre ++ [x]) r
theorem pairG_iff {α : Type} {R : α → α → Bool} : ∀ {r pre : List α}, pairG R pre r = false ↔ (∀ y ∈ pre, ∀ x ∈ r, R x y = false) ∧ r.Pairwise fun a b => R b a = false
  | [], pre => by simp [pairG]
  | x :: r, pre => by
    unfold pairG
    rw [Bool.or_eq_false_iff, pairG_iff (r := r), List.any_eq_false, List.pairwise_cons]
    constructor
    · rintro ⟨h1, h2, h3⟩
      refine ⟨fun y hy z hz => ?_, fun z hz => h2 x (by simp) z hz, h3⟩
      rcases List.mem_cons.1 hz with rfl | hz
      · simpa using h1 y hy
      · exact h2 y (by simp [hy]) z hz
    · rintro ⟨h1, h2, h3⟩
      refine ⟨fun y hy => by simp [h1 y hy x (by simp)], fun y hy z hz => ?_, h3⟩
      rcases List.mem_append.1 hy with hy | hy
      · exact h1 y hy z (by simp [hz])
      · obtain rfl : y = x := by simpa using hy
        exact h2 z hz
theorem linksGo_pair : ∀ {r pre : List NoD}, linksGo pre r = pairG badL pre r
  | [], _ => rfl
  | x :: r, pre => by unfold linksGo pairG; rw [linksGo_pair (r := r)]
theorem linksGo_iff {l : List NoD} : linksGo [] l = false ↔ l.Pairwise fun a b => badL b a = false := by
  rw [linksGo_pair, pairG_iff]; simp
theorem idxF_pre {α : Type} {p : α → Bool} {x : α} {r : List α} (hx : p x = true) : ∀ {pre : List α} {k : Int}, decide (idxF p (pre ++ x :: r) k < k + pre.length) = pre.any p
  | [], k => by simp [idxF, hx]
  | y :: pre, k => by
    rw [List.cons_append, List.any_cons]
    unfold idxF
    by_cases hy : p y = true
    · rw [if_pos hy, hy]; simp; omega
    · rw [if_neg hy]
      have := idxF_pre (r := r) hx (pre := pre) (k := k + 1)
      rw [show p y = false by simpa using hy, Bool.false_or, ← this, List.length_cons, decide_eq_decide]
      omega
theorem isNm_self (x : NoD) : isNm x.1 x = true := by unfold isNm; exact sameN_iff.2 rfl
theorem twiceGo_pair : ∀ {r pre : List NoD}, twiceGo (pre ++ r) r pre.length = pairG (fun x y => isNm x.1 y) pre r
  | [], _ => rfl
  | x :: r, pre => by
    unfold twiceGo pairG
    have h1 := idxF_pre (p := isNm x.1) (x := x) (r := r) (isNm_self x) (pre := pre) (k := 0)
    rw [Int.zero_add] at h1
    have h2 := twiceGo_pair (r := r) (pre := pre ++ [x])
    rw [List.append_assoc, List.length_append] at h2
    rw [h1, ← h2]; rfl
theorem twiceGo_iff {l : List NoD} : twiceGo l l 0 = false ↔ l.Pairwise fun a b => a.1 ≠ b.1 := by
  have h := twiceGo_pair (r := l) (pre := [])
  have e : twiceGo l l 0 = pairG (fun x y => isNm x.1 y) [] l := h
  rw [e, pairG_iff]
  have : ∀ a b : NoD, isNm b.1 a = false ↔ a.1 ≠ b.1 := fun a b => by
    unfold isNm
    rw [← Bool.not_eq_true, sameN_iff]
  simp [this]
/-! ### Nodes by their paths -/
def okNames (l : List NoD) : Prop := ∀ x ∈ l, ∀ s ∈ x.1, validN s = 0
theorem joinP_inj {p q : List ByteArray} (hp : ∀ s ∈ p, validN s = 0) (hq : ∀ s ∈ q, validN s = 0) (h : joinP p = joinP q) : p = q := by
  have e := Go.LmN.join_inj (p := p) (q := q) (fun s hs => by rw [validN_old]; exact hp s hs) (fun s hs => by rw [validN_old]; exact hq s hs)
  rw [show Go.LmN.joinN p = Go.LmN.joinN q from h, beq_self_eq_true, Go.LmN.sameL_key] at e
  exact Go.LmN.key_eq.1 (of_decide_eq_true e.symm)
theorem mapGo_some : ∀ {l : List NoD} {m : List (ByteArray × NoD)}, okNames l → ((mapGo l m).isSome = true ↔ (l.Pairwise fun a b => a.1 ≠ b.1) ∧ ∀ x ∈ l, Kk.get .str m (joinP x.1) = none)
  | [], m, _ => by simp [mapGo]
  | x :: r, m, ok => by
    have okr : okNames r := fun y hy => ok y (List.mem_cons_of_mem _ hy)
    unfold mapGo
    cases hg : Kk.get .str m (joinP x.1) with
    | some o =>
      rw [if_pos (show (some o).isSome = true from rfl)]
      constructor
      · intro h; cases h
      · rintro ⟨_, h⟩
        have := h x List.mem_cons_self
        rw [hg] at this; cases this
    | none =>
      rw [if_neg (by simp), mapGo_some okr, List.pairwise_cons]
      constructor
      · rintro ⟨h1, h2⟩
        refine ⟨⟨fun y hy e => ?_, h1⟩, fun y hy => ?_⟩
        · have := h2 y hy
          rw [← e, kget_same] at this; cases this
        · rcases List.mem_cons.1 hy with rfl | hy
          · exact hg
          · have := h2 y hy
            by_cases e : joinP y.1 = joinP x.1
            · rw [e, kget_same] at this; cases this
            · rwa [kget_ne (k := .str) e] at this
      · rintro ⟨⟨h1, h2⟩, h3⟩
        refine ⟨h2, fun y hy => ?_⟩
        rw [kget_ne (k := .str) fun e => h1 y hy (joinP_inj (ok x List.mem_cons_self) (okr y hy) e.symm)]
        exact h3 y (List.mem_cons_of_mem _ hy)
theorem mapGo_get : ∀ {l : List NoD} {m m' : List (ByteArray × NoD)}, okNames l → mapGo l m = some m' → ∀ p : List ByteArray, (∀ s ∈ p, validN s = 0) → Kk.get .str m' (joinP p) = match l.find? (isNm p) with
      | some x => some x
      | none => Kk.get .str m (joinP p)
  | [], m, m', _, h, p, _ => by
    obtain rfl : m = m' := Option.some.inj h
    rfl
  | x :: r, m, m', ok, h, p, hp => by
    have okr : okNames r := fun y hy => ok y (List.mem_cons_of_mem _ hy)
    have hs := (mapGo_some ok).1 (by rw [h]; rfl)
    unfold mapGo at h
    split at h
    · cases h
    · rw [mapGo_get okr h p hp, List.find?_cons]
      by_cases e : x.1 = p
      · subst e
        rw [isNm_self]
        have : r.find? (isNm x.1) = none := by
          rw [List.find?_eq_none]
          intro y hy hn
          unfold isNm at hn
          exact (List.pairwise_cons.1 hs.1).1 y hy (sameN_iff.1 hn).symm
        rw [this]
        exact kget_same
      · have hn : isNm p x = false := by
          unfold isNm
          rw [← Bool.not_eq_true, sameN_iff]; exact e
        rw [hn]
        cases r.find? (isNm p) with
        | some y => rfl
        | none => exact kget_ne fun q => e (joinP_inj (ok x List.mem_cons_self) hp q.symm)
/-! ### Marks as files -/
theorem plain_kind1 (x : NoD) : ((plainN x).2.2.1 == 1) = (x.2.2.1 == 1) := by
  unfold plainN
  by_cases h : x.2.2.1 = 4
  · simp [h]
  · simp [h]
theorem plain_nm (x : NoD) : (plainN x).1 = x.1 := rfl
theorem plain_ino (x : NoD) : (plainN x).2.1 = x.2.1 := rfl
theorem plain_same {x : NoD} (h1 : x.2.2.1 ≠ 1) (h4 : x.2.2.1 ≠ 4) : plainN x = x := by
  unfold plainN
  rw [if_neg h1, if_neg h4]
theorem find_plain (p : List ByteArray) (l : List NoD) : (l.map plainN).find? (isNm p) = (l.find? (isNm p)).map plainN := by
  rw [List.find?_map]; rfl
theorem isDir_plain (p : List ByteArray) (l : List NoD) : isDirB (l.map plainN) p = isDirB l p := by
  unfold isDirB
  rw [find_plain]
  cases l.find? (isNm p) with
  | none => rfl
  | some x => exact plain_kind1 x
theorem names_plain : ∀ l : List NoD, namesGo (l.map plainN) = namesGo l
  | [] => rfl
  | x :: r => by rw [List.map_cons]; unfold namesGo; rw [names_plain r]; rfl
theorem deep_plain (l : List NoD) : deepB (l.map plainN) = deepB l := by
  unfold deepB
  rw [List.any_map]; rfl
theorem pair_plain (l : List NoD) : ((l.map plainN).Pairwise fun a b => a.1 ≠ b.1) ↔ l.Pairwise fun a b => a.1 ≠ b.1 := List.pairwise_map
theorem named_eq (l : List NoD) : namedE (l.map plainN) = namedR l := by
  unfold namedE namedR
  rw [names_plain, deep_plain]
  by_cases h1 : (namesGo l != 0) = true
  · rw [if_pos h1, if_pos h1]
  · rw [if_neg h1, if_neg h1]
    have ok : okNames l := names_valid (by simpa using h1)
    have okp : okNames (l.map plainN) := fun x hx => by
      obtain ⟨y, hy, rfl⟩ := List.mem_map.1 hx
      exact ok y hy
    have e1 := mapGo_some (m := []) okp
    have e2 := twiceGo_iff (l := l)
    rw [pair_plain] at e1
    have e : (mapGo (l.map plainN) []).isNone = twiceGo l l 0 := by
      cases h : twiceGo l l 0 with
      | false =>
        have := e1.2 ⟨e2.1 h, fun x _ => rfl⟩
        cases h2 : mapGo (l.map plainN) [] with
        | none => rw [h2] at this; cases this
        | some m => rfl
      | true =>
        cases h2 : mapGo (l.map plainN) [] with
        | none => rfl
        | some m =>
          have := e2.2 (e1.1 (by rw [h2]; rfl)).1
          rw [h] at this; cases this
    rw [e]
theorem kind_at {l : List NoD} (h : namedE (l.map plainN) = 0) {p : List ByteArray} (hp : ∀ s ∈ p, validN s = 0) : (kindAt (byPath (l.map plainN)) p != 1) = !isDirB l p := by
  obtain ⟨hN, hD, hs⟩ := namedE_0 (l := l.map plainN) (by rw [h]; rfl)
  have ok : okNames (l.map plainN) := names_valid hN
  cases hm : mapGo (l.map plainN) [] with
  | none => rw [hm] at hs; cases hs
  | some m =>
    have e : byPath (l.map plainN) = m := by unfold byPath; rw [hm]; rfl
    have hg := mapGo_get ok hm p hp
    rw [e, ← isDir_plain]
    unfold kindAt isDirB
    rw [hg]
    cases (l.map plainN).find? (isNm p) with
    | none => rfl
    | some x => rfl
theorem par_eq {l : List NoD} (h : namedE (l.map plainN) = 0) : parB (byPath (l.map plainN)) (l.map plainN) = upB l := by
  obtain ⟨hN, _, _⟩ := namedE_0 (l := l.map plainN) (by rw [h]; rfl)
  rw [names_plain] at hN
  have ok := names_valid hN
  unfold parB upB
  rw [List.any_map]
  have key : ∀ r : List NoD, (∀ x ∈ r, x ∈ l) → (r.any ((fun x : NoD => decide ((x.1.length : Int) - 1 ≥ 0) && (kindAt (byPath (l.map plainN)) (x.1.take (x.1.length - 1)) != 1)) ∘ plainN)) = r.any fun x => decide ((x.1.length : Int) > 0) && !isDirB l (x.1.take (x.1.length - 1)) := by
    intro r hr
    induction r with
    | nil => rfl
    | cons x r ih =>
      rw [List.any_cons, List.any_cons, ih fun y hy => hr y (List.mem_cons_of_mem _ hy)]
      congr 1
      show (decide ((x.1.length : Int) - 1 ≥ 0) && (kindAt (byPath (l.map plainN)) (x.1.take (x.1.length - 1)) != 1)) = _
      rw [kind_at h fun s hs => ok x (hr x List.mem_cons_self) s (List.take_subset _ _ hs)]
      congr 1
      simp only [decide_eq_decide]
      omega
  exact key l fun x hx => hx
theorem checkT_eq (l : List NoD) : checkT (l.map plainN) = if placedR l != 0 then placedR l else if (l.map plainN).any (fun x => !mayT x) then 7 else linkGo (l.map plainN) [] := by
  unfold checkT placedR
  rw [List.length_map, named_eq]
  by_cases h1 : (l.length : Int) > 1024
  · rw [if_pos h1, if_pos h1]; rfl
  · rw [if_neg h1, if_neg h1]
    by_cases h2 : (namedR l != 0) = true
    · rw [if_pos h2, if_pos h2, if_pos h2]
    · rw [if_neg h2, if_neg h2]
      have h0 : namedE (l.map plainN) = 0 := by rw [named_eq]; simpa using h2
      rw [kind_at h0 (fun s hs => by cases hs), par_eq h0]
      cases isDirB l [] <;> cases upB l <;> rfl
/-! ### Nodes that are one -/
theorem linkGo_iff : ∀ {l : List NoD} {m : List (Int × NoD)}, linkGo l m = 0 ↔ (l.Pairwise fun a b => a.2.1 = b.2.1 → b.2.2.1 ≠ 1 ∧ b.2.2 = a.2.2) ∧ ∀ x ∈ l, ∀ o, Kk.get .int m x.2.1 = some o → x.2.2.1 ≠ 1 ∧ x.2.2 = o.2.2
  | [], m => by simp [linkGo]
  | x :: r, m => by
    unfold linkGo
    rw [List.pairwise_cons]
    cases hg : Kk.get .int m x.2.1 with
    | none =>
      simp only
      rw [linkGo_iff (l := r)]
      constructor
      · rintro ⟨h1, h2⟩
        refine ⟨⟨fun y hy e => h2 y hy x (by rw [← e]; exact kget_same), h1⟩, fun y hy o ho => ?_⟩
        rcases List.mem_cons.1 hy with rfl | hy
        · rw [hg] at ho; cases ho
        · by_cases e : y.2.1 = x.2.1
          · rw [e, hg] at ho; cases ho
          · exact h2 y hy o (by rw [kget_ne (k := .int) e]; exact ho)
      · rintro ⟨⟨h1, h2⟩, h3⟩
        refine ⟨h2, fun y hy o ho => ?_⟩
        by_cases e : y.2.1 = x.2.1
        · rw [e, kget_same] at ho
          obtain rfl := Option.some.inj ho
          exact h1 y hy e.symm
        · rw [kget_ne (k := .int) e] at ho
          exact h3 y (List.mem_cons_of_mem _ hy) o ho
    | some o =>
      simp only
      by_cases hb : (x.2.2.1 == 1 || !alikeN x o) = true
      · rw [if_pos hb]
        constructor
        · intro h; cases h
        · rintro ⟨_, h⟩
          obtain ⟨h1, h2⟩ := h x List.mem_cons_self o hg
          rw [alikeN_iff.2 h2] at hb
          simp [h1] at hb
      · rw [if_neg hb, linkGo_iff (l := r)]
        simp only [Bool.or_eq_true, beq_iff_eq, Bool.not_eq_true', not_or, Bool.not_eq_false, alikeN_iff] at hb
        constructor
        · rintro ⟨h1, h2⟩
          refine ⟨⟨fun y hy e => ?_, h1⟩, fun y hy o' ho => ?_⟩
          · obtain ⟨h3, h4⟩ := h2 y hy o (by rw [← e]; exact hg)
            exact ⟨h3, h4.trans hb.2.symm⟩
          · rcases List.mem_cons.1 hy with rfl | hy
            · rw [hg] at ho
              obtain rfl := Option.some.inj ho
              exact hb
            · exact h2 y hy o' ho
        · rintro ⟨⟨_, h2⟩, h3⟩
          exact ⟨h2, fun y hy o' ho => h3 y (List.mem_cons_of_mem _ hy) o' ho⟩
theorem opqGo_iff : ∀ {l : List NoD} {m : List (Int × Bool)}, opqGo l m = false ↔ (l.Pairwise fun a b => a.2.1 = b.2.1 → a.2.2.1 ≠ 1) ∧ ∀ x ∈ l, Kk.get .int m x.2.1 ≠ some true
  | [], m => by simp [opqGo]
  | x :: r, m => by
    unfold opqGo
    rw [List.pairwise_cons]
    by_cases hb : (Kk.get .int m x.2.1).getD false = true
    · rw [if_pos hb]
      constructor
      · intro h; cases h
      · rintro ⟨_, h⟩
        refine absurd ?_ (h x List.mem_cons_self)
        cases hg : Kk.get .int m x.2.1 with
        | none => rw [hg] at hb; cases hb
        | some b => rw [hg] at hb; rw [show b = true from hb]
    · have hx : Kk.get .int m x.2.1 ≠ some true := fun e => hb (by rw [e]; rfl)
      rw [if_neg hb, opqGo_iff (l := r)]
      constructor
      · rintro ⟨h1, h2⟩
        refine ⟨⟨fun y hy e k => ?_, h1⟩, fun y hy => ?_⟩
        · have := h2 y hy
          rw [← e, kget_same, k] at this
          exact this rfl
        · rcases List.mem_cons.1 hy with rfl | hy
          · exact hx
          · by_cases e : y.2.1 = x.2.1
            · rw [e]; exact hx
            · have := h2 y hy
              rwa [kget_ne (k := .int) e] at this
      · rintro ⟨⟨h1, h2⟩, h3⟩
        refine ⟨h2, fun y hy => ?_⟩
        by_cases e : y.2.1 = x.2.1
        · rw [e, kget_same]
          have := h1 y hy e.symm
          simp [this]
        · rw [kget_ne (k := .int) e]
          exact h3 y (List.mem_cons_of_mem _ hy)
theorem whGo_iff : ∀ {l : List NoD} {m : List (Int × Bool)}, whGo l m = false ↔ (l.Pairwise fun a b => a.2.1 = b.2.1 → a.2.2.1 ≠ 4 ∧ b.2.2.1 ≠ 4) ∧ ∀ x ∈ l, ∀ o, Kk.get .int m x.2.1 = some o → o = false ∧ x.2.2.1 ≠ 4
  | [], m => by simp [whGo]
  | x :: r, m => by
    unfold whGo
    rw [List.pairwise_cons]
    have step : (whGo r (Kk.put .int m x.2.1 (x.2.2.1 == 4)) = false ∧ ∀ o, Kk.get .int m x.2.1 = some o → o = false ∧ x.2.2.1 ≠ 4) ↔ ((∀ y ∈ r, x.2.1 = y.2.1 → x.2.2.1 ≠ 4 ∧ y.2.2.1 ≠ 4) ∧ r.Pairwise fun a b => a.2.1 = b.2.1 → a.2.2.1 ≠ 4 ∧ b.2.2.1 ≠ 4) ∧ ∀ y ∈ x :: r, ∀ o, Kk.get .int m y.2.1 = some o → o = false ∧ y.2.2.1 ≠ 4 := by
      rw [whGo_iff (l := r)]
      constructor
      · rintro ⟨⟨h1, h2⟩, hx⟩
        have hy' : ∀ y ∈ r, x.2.1 = y.2.1 → x.2.2.1 ≠ 4 ∧ y.2.2.1 ≠ 4 := fun y hy e => by
          have := h2 y hy (x.2.2.1 == 4) (by rw [← e]; exact kget_same)
          exact ⟨by simpa using this.1, this.2⟩
        refine ⟨⟨hy', h1⟩, fun y hy o ho => ?_⟩
        rcases List.mem_cons.1 hy with rfl | hy
        · exact hx o ho
        · by_cases e : y.2.1 = x.2.1
          · exact ⟨(hx o (by rw [← e]; exact ho)).1, (hy' y hy e.symm).2⟩
          · exact h2 y hy o (by rw [kget_ne (k := .int) e]; exact ho)
      · rintro ⟨⟨h1, h2⟩, h3⟩
        refine ⟨⟨h2, fun y hy o ho => ?_⟩, h3 x List.mem_cons_self⟩
        by_cases e : y.2.1 = x.2.1
        · rw [e, kget_same] at ho
          obtain rfl := Option.some.inj ho
          obtain ⟨h4, h5⟩ := h1 y hy e.symm
          exact ⟨by simpa using h4, h5⟩
        · rw [kget_ne (k := .int) e] at ho
          exact h3 y (List.mem_cons_of_mem _ hy) o ho
    rw [← step]
    cases hg : Kk.get .int m x.2.1 with
    | none => simp
    | some o =>
      simp only
      by_cases hb : (o || x.2.2.1 == 4) = true
      · rw [if_pos hb]
        constructor
        · intro h; cases h
        · rintro ⟨_, h⟩
          obtain ⟨h1, h2⟩ := h o rfl
          rw [h1] at hb
          simp [h2] at hb
      · rw [if_neg hb]
        simp only [Bool.or_eq_true, beq_iff_eq, not_or, Bool.not_eq_true] at hb
        constructor
        · intro h
          refine ⟨h, fun o' e => ?_⟩
          obtain rfl := Option.some.inj e
          exact hb
        · exact fun h => h.1
theorem badL_iff {a b : NoD} : badL b a = false ↔ (a.2.1 = b.2.1 → b.2.2.1 ≠ 1 ∧ b.2.2.1 ≠ 4 ∧ b.2.2 = a.2.2) := by
  unfold badL
  by_cases e : a.2.1 = b.2.1
  · have e2 : (b.2.1 == a.2.1) = true := by rw [e]; simp
    rw [e2, Bool.true_and]
    simp only [Bool.or_eq_false_iff, beq_eq_false_iff_ne, Bool.not_eq_false', alikeN_iff]
    exact ⟨fun h _ => h, fun h => h e⟩
  · have e2 : (b.2.1 == a.2.1) = false := by
      rw [beq_eq_false_iff_ne]; exact fun h => e h.symm
    rw [e2, Bool.false_and]
    exact ⟨fun _ h => absurd h e, fun _ => rfl⟩
theorem pairs_iff {a b : NoD} : (a.2.1 = b.2.1 → b.2.2.1 ≠ 1 ∧ b.2.2.1 ≠ 4 ∧ b.2.2 = a.2.2) ↔ ((a.2.1 = b.2.1 → (plainN b).2.2.1 ≠ 1 ∧ (plainN b).2.2 = (plainN a).2.2) ∧ (a.2.1 = b.2.1 → a.2.2.1 ≠ 1)) ∧ (a.2.1 = b.2.1 → a.2.2.1 ≠ 4 ∧ b.2.2.1 ≠ 4) := by
  have k1 := plain_kind1 b
  constructor
  · intro h
    refine ⟨⟨fun e => ?_, fun e => ?_⟩, fun e => ?_⟩
    · obtain ⟨h1, h4, h5⟩ := h e
      rw [plain_same h1 h4, plain_same (by rw [← h5]; exact h1) (by rw [← h5]; exact h4)]
      exact ⟨h1, h5⟩
    · obtain ⟨h1, h4, h5⟩ := h e
      rw [← h5]; exact h1
    · obtain ⟨h1, h4, h5⟩ := h e
      exact ⟨by rw [← h5]; exact h4, h4⟩
  · rintro ⟨⟨h1, h2⟩, h3⟩ e
    obtain ⟨h4, h5⟩ := h1 e
    obtain ⟨h6, h7⟩ := h3 e
    have h8 : b.2.2.1 ≠ 1 := by
      intro q
      rw [q] at k1
      exact h4 (by simpa using k1)
    rw [plain_same h8 h7, plain_same (h2 e) h6] at h5
    exact ⟨h8, h7, h5⟩
theorem pw_and {α : Type} {R S : α → α → Prop} {l : List α} : l.Pairwise (fun a b => R a b ∧ S a b) ↔ l.Pairwise R ∧ l.Pairwise S := by
  induction l with
  | nil => simp
  | cons x l ih =>
    simp only [List.pairwise_cons, ih]
    constructor
    · rintro ⟨h1, h2, h3⟩
      exact ⟨⟨fun y hy => (h1 y hy).1, h2⟩, fun y hy => (h1 y hy).2, h3⟩
    · rintro ⟨⟨h1, h2⟩, h3, h4⟩
      exact ⟨fun y hy => ⟨h1 y hy, h3 y hy⟩, h2, h4⟩
theorem links_iff (l : List NoD) : linksGo [] l = false ↔ linkGo (l.map plainN) [] = 0 ∧ opqGo l [] = false ∧ whGo l [] = false := by
  rw [linksGo_iff, linkGo_iff, opqGo_iff, whGo_iff, List.pairwise_map]
  simp only [badL_iff, pairs_iff]
  rw [pw_and, pw_and]
  constructor
  · rintro ⟨⟨h1, h2⟩, h3⟩
    exact ⟨⟨h1, fun _ _ _ h => by cases h⟩, ⟨h2, fun _ _ h => by cases h⟩, h3, fun _ _ _ h => by cases h⟩
  · rintro ⟨⟨h1, _⟩, ⟨h2, _⟩, h3, _⟩
    exact ⟨⟨h1, h2⟩, h3⟩
theorem linkGo_two : ∀ {l : List NoD} {m : List (Int × NoD)}, linkGo l m = 0 ∨ linkGo l m = 8
  | [], _ => .inl rfl
  | x :: r, m => by
    unfold linkGo
    cases Kk.get .int m x.2.1 with
    | none => exact linkGo_two
    | some o =>
      simp only
      split
      · exact .inr rfl
      · exact linkGo_two
/-! ### What is wrong -/
theorem validN_8 (s : ByteArray) : validN s ≠ 8 := by
  unfold validN
  split
  · decide
  · split <;> decide
theorem validsGo_8 : ∀ l : List ByteArray, validsGo l ≠ 8
  | [] => by decide
  | s :: r => by
    unfold validsGo
    split
    · exact validN_8 s
    · exact validsGo_8 r
theorem namesGo_8 : ∀ l : List NoD, namesGo l ≠ 8
  | [] => by decide
  | x :: r => by
    unfold namesGo
    split
    · exact validsGo_8 x.1
    · exact namesGo_8 r
theorem placedR_8 (l : List NoD) : placedR l ≠ 8 := by
  unfold placedR
  split
  · decide
  · split
    · unfold namedR
      split
      · exact namesGo_8 l
      · split
        · decide
        · split <;> decide
    · split
      · decide
      · split <;> decide
theorem may_eq (x : NoD) : (!mayU x) = (!mayT (plainN x) || badM x) := by
  by_cases h4 : x.2.2.1 = 4
  · have hm : mayU x = !badM x := by unfold mayU; rw [if_pos h4]
    rw [hm]
    cases hb : badM x with
    | true => simp
    | false =>
      have : mayT (plainN x) = true := by
        unfold badM at hb
        rw [h4] at hb
        simp only [beq_self_eq_true, Bool.true_and, Bool.or_eq_false_iff, Bool.not_eq_false', Bool.and_eq_true, beq_iff_eq, decide_eq_false_iff_not] at hb
        obtain ⟨⟨⟨⟨⟨m, u, g⟩, d⟩, t⟩, xs⟩, o⟩ := hb
        have d0 : x.2.2.2.2.1 = [] := List.eq_nil_of_length_eq_zero (by omega)
        have x0 : x.2.2.2.2.2.2.1 = [] := List.eq_nil_of_length_eq_zero (by omega)
        unfold mayT plainN
        simp only [h4, if_true]
        rw [if_neg (by decide), d0, x0, m, u, g]
        unfold noB
        rw [t]
        simp only [if_neg (show ¬ (4 : Int) = 1 by decide), o]
        rfl
      rw [this]; rfl
  · have hb : badM x = false := by
      unfold badM
      rw [show (x.2.2.1 == 4) = false by simpa using h4, Bool.false_and]
    have hm : mayU x = mayT (plainN x) := by
      unfold mayU plainN
      rw [if_neg h4, if_neg h4]
    rw [hb, hm, Bool.or_false]
theorem any_or {α : Type} (p q : α → Bool) (l : List α) : (l.any fun x => p x || q x) = (l.any p || l.any q) := by
  induction l with
  | nil => rfl
  | cons x l ih =>
    simp only [List.any_cons, ih]
    cases p x <;> cases q x <;> cases l.any p <;> rfl
theorem check_eq (l : List NoD) : checkU l = checkR l := by
  have hA : (l.any fun x => !mayU x) = (((l.map plainN).any fun x => !mayT x) || l.any fun x => badM x) := by
    rw [List.any_map, ← any_or]
    congr 1
    funext x
    exact may_eq x
  unfold checkU checkR
  rw [checkT_eq]
  have h8 := placedR_8 l
  by_cases h1 : (placedR l != 0) = true
  · rw [if_pos h1, if_pos h1, h1, show (placedR l != 8) = true by simpa using h8]; rfl
  · rw [if_neg h1, if_neg h1]
    cases h2 : (l.map plainN).any fun x => !mayT x with
    | true => rw [hA, h2]; rfl
    | false =>
      rw [h2, Bool.false_or] at hA
      rw [if_neg (show ¬ false = true by decide), hA]
      have hl := links_iff l
      have e8 : (linkGo (l.map plainN) [] != 0 && linkGo (l.map plainN) [] != 8) = false := by
        rcases linkGo_two (l := l.map plainN) (m := []) with h | h <;> rw [h] <;> rfl
      rw [e8, if_neg (show ¬ false = true by decide)]
      cases l.any fun x => badM x with
      | true => rfl
      | false =>
        simp only [Bool.false_eq_true, if_false]
        cases h3 : linksGo [] l with
        | false =>
          obtain ⟨h4, h5, h6⟩ := hl.1 h3
          rw [h4, h5, h6]; rfl
        | true =>
          rw [if_pos rfl]
          cases h5 : opqGo l [] with
          | true => rw [Bool.or_true]; rfl
          | false =>
            cases h6 : whGo l [] with
            | true => cases (linkGo (l.map plainN) [] != 0) <;> rfl
            | false =>
              rcases linkGo_two (l := l.map plainN) (m := []) with h | h
              · have := hl.2 ⟨h, h5, h6⟩
                rw [h3] at this; cases this
              · rw [h]; rfl
end Go.Proofs

namespace Go.Proofs
open Go Go.Lm Go.RowKit
def c_kind0 : Ct
  | [.v (.c (.k .nilIface))], [], Q => Q (.int 0) []
  | _, _, _ => False
noncomputable def XK2337 : Vx := { P := Try.prog, ct := [(25, c_checkU), (44, c_check), (75, c_anyT), (73, c_named), (74, c_join), (98, c_sjoin), (68, c_valid), (26, c_checkR), (48, c_placed), (80, c_namedR), (50, c_alikeR), (43, c_bplain), (47, c_white), (78, c_linked), (103, c_alike), (117, c_eqXs), (115, c_alikeX), (116, c_bequal), (46, c_opaque), (81, c_isDir), (105, c_find), (118, c_sameR), (104, c_validR), (24, c_few), (49, c_may18), (82, c_mayR), (92, c_xattrsR), (45, c_marks), (75, c_anyM), (99, c_idxM), (79, c_badM), (99, c_idxT), (76, c_badT), (77, c_may), (102, c_xattrs), (100, c_plain), (97, c_indexByte), (106, c_nul), (101, c_within)], ty := tyTab, hold := [44] }
theorem XK2337_ok : CtOk Try.prog XK2337.ct := CtOk.cons w_checkU (CtOk.cons w_check (CtOk.cons w_anyT (CtOk.cons w_named (CtOk.cons w_join (CtOk.cons w_sjoin (CtOk.cons w_valid (CtOk.cons w_checkR (CtOk.cons w_placed (CtOk.cons w_namedR (CtOk.cons w_alikeR (CtOk.cons w_bplain (CtOk.cons w_white (CtOk.cons w_linked (CtOk.cons w_alike (CtOk.cons w_eqXs (CtOk.cons w_alikeX (CtOk.cons w_bequal (CtOk.cons w_opaque (CtOk.cons w_isDir (CtOk.cons w_find (CtOk.cons w_sameR (CtOk.cons w_validR (CtOk.cons w_few (CtOk.cons w_may18 (CtOk.cons w_mayR (CtOk.cons w_xattrsR (CtOk.cons w_marks (CtOk.cons w_anyM (CtOk.cons w_idxM (CtOk.cons w_badM (CtOk.cons w_idxT (CtOk.cons w_badT (CtOk.cons w_may (CtOk.cons w_xattrs (CtOk.cons w_plain (CtOk.cons w_indexByte (CtOk.cons w_nul (CtOk.cons w_within (CtOk.nil _)))))))))))))))))))))))))))))))))))))))
def vc_kind0 : (SV → List HO → Prop) → Prop :=
  fun Q => Q (SV.v (S1.c (Cl.k (Value.int IntKind.i64 (0 : Int))))) []
theorem vc_kind0_eq  (Q : SV → List HO → Prop) : vFun XK2337 ⟨[], []⟩ Try.f42 [.k .nilIface] [] Q = vc_kind0  Q := by kernel_rfl
theorem w_kind0 : ∀ args H Q, c_kind0 args H Q → Wp Try.prog 42 args H Q := by
  intro args H Q h
  unfold c_kind0 at h
  split at h
  · skip
    refine Wp.enter (X := XK2337) XK2337_ok ⟨[], []⟩ (fn := Try.f42) (by kernel_rfl) ?_
    have hv := vc_kind0_eq  Q
    rw [show vFun _ _ _ _ _ _ = _ from hv]
    unfold vc_kind0
    exact h
  · exact h.elim
def c_kind2 : Ct
  | [.v (.c (.ifc 30 (.p 0 0)))], [.gone], Q => Q (.int 2) [.gone]
  | _, _, _ => False
noncomputable def XK2338 : Vx := { P := Try.prog, ct := [(42, c_kind0), (25, c_checkU), (44, c_check), (75, c_anyT), (73, c_named), (74, c_join), (98, c_sjoin), (68, c_valid), (26, c_checkR), (48, c_placed), (80, c_namedR), (50, c_alikeR), (43, c_bplain), (47, c_white), (78, c_linked), (103, c_alike), (117, c_eqXs), (115, c_alikeX), (116, c_bequal), (46, c_opaque), (81, c_isDir), (105, c_find), (118, c_sameR), (104, c_validR), (24, c_few), (49, c_may18), (82, c_mayR), (92, c_xattrsR), (45, c_marks), (75, c_anyM), (99, c_idxM), (79, c_badM), (99, c_idxT), (76, c_badT), (77, c_may), (102, c_xattrs), (100, c_plain), (97, c_indexByte), (106, c_nul), (101, c_within)], ty := tyTab, hold := [44] }
theorem XK2338_ok : CtOk Try.prog XK2338.ct := CtOk.cons w_kind0 (CtOk.cons w_checkU (CtOk.cons w_check (CtOk.cons w_anyT (CtOk.cons w_named (CtOk.cons w_join (CtOk.cons w_sjoin (CtOk.cons w_valid (CtOk.cons w_checkR (CtOk.cons w_placed (CtOk.cons w_namedR (CtOk.cons w_alikeR (CtOk.cons w_bplain (CtOk.cons w_white (CtOk.cons w_linked (CtOk.cons w_alike (CtOk.cons w_eqXs (CtOk.cons w_alikeX (CtOk.cons w_bequal (CtOk.cons w_opaque (CtOk.cons w_isDir (CtOk.cons w_find (CtOk.cons w_sameR (CtOk.cons w_validR (CtOk.cons w_few (CtOk.cons w_may18 (CtOk.cons w_mayR (CtOk.cons w_xattrsR (CtOk.cons w_marks (CtOk.cons w_anyM (CtOk.cons w_idxM (CtOk.cons w_badM (CtOk.cons w_idxT (CtOk.cons w_badT (CtOk.cons w_may (CtOk.cons w_xattrs (CtOk.cons w_plain (CtOk.cons w_indexByte (CtOk.cons w_nul (CtOk.cons w_within (CtOk.nil _))))))))))))))))))))))))))))))))))))))))
def vc_kind2 : (SV → List HO → Prop) → Prop :=
  fun Q => Q (SV.v (S1.c (Cl.k (Value.int IntKind.i64 (2 : Int))))) [HO.gone]
theorem vc_kind2_eq  (Q : SV → List HO → Prop) : vFun XK2338 ⟨[], []⟩ Try.f42 [.c (.ifc 30 (.p 0 0))] [.gone] Q = vc_kind2  Q := by kernel_rfl
theorem w_kind2 : ∀ args H Q, c_kind2 args H Q → Wp Try.prog 42 args H Q := by
  intro args H Q h
  unfold c_kind2 at h
  split at h
  · skip
    refine Wp.enter (X := XK2338) XK2338_ok ⟨[], []⟩ (fn := Try.f42) (by kernel_rfl) ?_
    have hv := vc_kind2_eq  Q
    rw [show vFun _ _ _ _ _ _ = _ from hv]
    unfold vc_kind2
    exact h
  · exact h.elim
def c_kind : Ct
  | [.v (.c (.k .nilIface))], [], Q => Q (.int 0) []
  | [.v (.c (.ifc 30 (.p 0 0)))], [.gone], Q => Q (.int 2) [.gone]
  | _, _, _ => False
def c_new : Ct
  | [.v (.agg [.k (.int .i64 _), .k (.int .i64 _)])], [], Q => Q (.v (.c (.p 0 0))) [.gone]
  | _, _, _ => False
theorem w_kind : ∀ args H Q, c_kind args H Q → Wp Try.prog 42 args H Q := by
  intro args H Q h
  unfold c_kind at h
  split at h
  · exact w_kind0 _ _ _ h
  · exact w_kind2 _ _ _ h
  · exact h.elim
theorem w_new : ∀ args H Q, c_new args H Q → Wp Try.prog 9 args H Q := by
  intro args H Q h
  unfold c_new at h
  split at h
  · rename_i q1 q2
    intro W g w E F vs hs hv
    obtain ⟨u, r, rfl, ⟨us, h1, rfl⟩, hr⟩ := hv
    obtain rfl : r = [] := hr
    obtain ⟨_, _, rfl, ⟨rfl, _⟩, _, _, rfl, ⟨rfl, _⟩, rfl⟩ := h1
    have hE : E = [] := List.eq_nil_of_length_eq_zero hs.len
    subst hE
    refine (new_any q1 q2 W g w F hs.sl).mono fun v w' ⟨u, hu, H⟩ => ?_
    exact ⟨[ptr u 0], g, .v (.c (.p 0 0)), [.gone], fun k x hk => by simp at hk, Mono.refl g, ⟨H.weak fun h s => ⟨fun _ => none, h, fun _ => .inl rfl, by funext b; rfl, trivial, s⟩, rfl⟩, ⟨u, rfl, hu⟩, h⟩
  · exact h.elim
end Go.Proofs
