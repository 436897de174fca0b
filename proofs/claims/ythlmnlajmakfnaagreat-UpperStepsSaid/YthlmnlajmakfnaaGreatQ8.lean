/- Texts of mine, laid together: R9 R10 LmYk W0 W0b W1 W2 LmWb W3. -/
import Derived.Test.YthlmnlajmakfnaaGreatQ7
import Derived.Test.YthlmnlajmakfnaaGreatProg
import Derived.Test.YthlmnlajmakfnaaGreatChecked
import Derived.Test.YthlmnlajmakfnaaGreatQ3
import Derived.Test.YthlmnlajmakfnaaGreatQ1
set_option linter.unusedVariables false
namespace Go.Proofs
open Go Go.Lm Go.RowKit
set_option maxRecDepth 1000000
def c_flink : Ct
  | [.v (.c (.p 0 0)), .v (.c (.k (.int .i64 d))), .v (.c (.k (.string s))), .v (.c (.k (.int .i64 r)))], [.ab (.rf 87 36 119 Y)], Q => (Y.OkN 1000000) ∧ Q (.c (.k (.int .i64 (Y.linkE d s r)))) [.ab (.rf 87 36 119 (Y.linkY d s r))]
  | _, _, _ => False
theorem w_flink : ∀ args H Q, c_flink args H Q → Wp Inv Tryz.prog 36 args H Q := by
  intro args H Q h
  unfold c_flink at h
  split at h
  · rename_i d s r Y
    obtain ⟨hp, hq⟩ := h
    refine Wp.rfM (w_rlink _ _ _ ?_)
    unfold rfo0 c_rlink
    obtain ⟨e1, e2⟩ := qs_link (Y := Y) d s r
    refine ⟨hp, Y.linkY d s r, ?_, hq⟩
    rw [e1, e2]
  · exact h.elim
def c_fmake : Ct
  | [.v (.c (.p 0 0)), .v (.c (.k (.int .i64 d))), .v (.c (.k (.string s))), .v (.agg cx)], [.ab (.rf 87 36 119 Y)], Q => (match (noTy).of cx with
    | some (x, []) => (Y.OkN 1000000) ∧ Q (.tup [.c (.k (.int .i64 (Y.makeR d s x))), .c (.k (.int .i64 (Y.makeE d s x)))]) [.ab (.rf 87 36 119 (Y.makeY d s x))]
    | _ => False)
  | _, _, _ => False
theorem w_fmake : ∀ args H Q, c_fmake args H Q → Wp Inv Tryz.prog 35 args H Q := by
  intro args H Q h
  unfold c_fmake at h
  split at h
  · rename_i d s cx Y
    split at h
    · rename_i x hx
      obtain ⟨hp, hq⟩ := h
      refine Wp.rfM (w_rmake _ _ _ ?_)
      unfold rfo0 c_rmake
      simp only [hx]
      obtain ⟨e1, e2⟩ := qs_make (Y := Y) d s x
      refine ⟨hp, Y.makeY d s x, ?_, hq⟩
      rw [e1, e2]
    · exact h.elim
  · exact h.elim
def c_fremove : Ct
  | [.v (.c (.p 0 0)), .v (.c (.k (.int .i64 d))), .v (.c (.k (.string s)))], [.ab (.rf 87 36 119 Y)], Q => (Y.OkN 1000000) ∧ Q (.c (.k (.int .i64 (Y.removeE d s)))) [.ab (.rf 87 36 119 (Y.removeY d s))]
  | _, _, _ => False
theorem w_fremove : ∀ args H Q, c_fremove args H Q → Wp Inv Tryz.prog 37 args H Q := by
  intro args H Q h
  unfold c_fremove at h
  split at h
  · rename_i d s Y
    obtain ⟨hp, hq⟩ := h
    refine Wp.rfM (w_rremove _ _ _ ?_)
    unfold rfo0 c_rremove
    obtain ⟨e1, e2⟩ := qs_remove (Y := Y) d s
    refine ⟨hp, Y.removeY d s, ?_, hq⟩
    rw [e1, e2]
  · exact h.elim
def c_fmove : Ct
  | [.v (.c (.p 0 0)), .v (.c (.k (.int .i64 d))), .v (.c (.k (.string s))), .v (.c (.k (.int .i64 to))), .v (.c (.k (.string now)))], [.ab (.rf 87 36 119 Y)], Q => (Y.OkN 1000000) ∧ Q (.c (.k (.int .i64 (Y.moveE d s to now)))) [.ab (.rf 87 36 119 (Y.moveY d s to now))]
  | _, _, _ => False
theorem w_fmove : ∀ args H Q, c_fmove args H Q → Wp Inv Tryz.prog 39 args H Q := by
  intro args H Q h
  unfold c_fmove at h
  split at h
  · rename_i d s to now Y
    obtain ⟨hp, hq⟩ := h
    refine Wp.rfM (w_rmove _ _ _ ?_)
    unfold rfo0 c_rmove
    obtain ⟨e1, e2⟩ := qs_move (Y := Y) d s to now
    refine ⟨hp, Y.moveY d s to now, ?_, hq⟩
    rw [e1, e2]
  · exact h.elim
def c_fwrite : Ct
  | [.v (.c (.p 0 0)), .v (.c (.k (.int .i64 ref))), .v (.c (.k (.int .i64 off))), .v (.c cb)], [.ab (.rf 87 36 119 Y)], Q => (match (Ty.sl Ty.u8).of [cb] with
    | some (b, []) => (Y.OkN 1000000) ∧ Q (.c (.k (.int .i64 (Y.writeE ref off b)))) [.ab (.rf 87 36 119 (Y.writeY ref off b))]
    | _ => False)
  | _, _, _ => False
theorem w_fwrite : ∀ args H Q, c_fwrite args H Q → Wp Inv Tryz.prog 40 args H Q := by
  intro args H Q h
  unfold c_fwrite at h
  split at h
  · rename_i ref off cb Y
    split at h
    · rename_i b hb
      obtain ⟨hp, hq⟩ := h
      refine Wp.rfM (w_rwrite _ _ _ ?_)
      unfold rfo0 c_rwrite
      simp only [hb]
      obtain ⟨e1, e2⟩ := qs_write (Y := Y) ref off b
      refine ⟨hp, Y.writeY ref off b, ?_, hq⟩
      rw [e1, e2]
    · exact h.elim
  · exact h.elim
def c_fresize : Ct
  | [.v (.c (.p 0 0)), .v (.c (.k (.int .i64 ref))), .v (.c (.k (.int .i64 k)))], [.ab (.rf 87 36 119 Y)], Q => (Y.OkN 1000000) ∧ Q (.c (.k (.int .i64 (Y.resizeE ref k)))) [.ab (.rf 87 36 119 (Y.resizeY ref k))]
  | _, _, _ => False
theorem w_fresize : ∀ args H Q, c_fresize args H Q → Wp Inv Tryz.prog 42 args H Q := by
  intro args H Q h
  unfold c_fresize at h
  split at h
  · rename_i ref k Y
    obtain ⟨hp, hq⟩ := h
    refine Wp.rfM (w_rresize _ _ _ ?_)
    unfold rfo0 c_rresize
    obtain ⟨e1, e2⟩ := qs_resize (Y := Y) ref k
    refine ⟨hp, Y.resizeY ref k, ?_, hq⟩
    rw [e1, e2]
  · exact h.elim
def c_fsetattr : Ct
  | [.v (.c (.p 0 0)), .v (.c (.k (.int .i64 ref))), .v (.agg ca)], [.ab (.rf 87 36 119 Y)], Q => (match (atTy).of ca with
    | some (a, []) => (Y.OkN 1000000) ∧ Q (.c (.k (.int .i64 (Y.setAttrE ref a)))) [.ab (.rf 87 36 119 (Y.setAttrY ref a))]
    | _ => False)
  | _, _, _ => False
theorem w_fsetattr : ∀ args H Q, c_fsetattr args H Q → Wp Inv Tryz.prog 44 args H Q := by
  intro args H Q h
  unfold c_fsetattr at h
  split at h
  · rename_i ref ca Y
    split at h
    · rename_i a ha
      obtain ⟨hp, hq⟩ := h
      refine Wp.rfM (w_rsetattr _ _ _ ?_)
      unfold rfo0 c_rsetattr
      simp only [ha]
      obtain ⟨e1, e2⟩ := qs_setattr (Y := Y) ref a
      refine ⟨hp, Y.setAttrY ref a, ?_, hq⟩
      rw [e1, e2]
    · exact h.elim
  · exact h.elim
def c_fsetx : Ct
  | [.v (.c (.p 0 0)), .v (.c (.k (.int .i64 ref))), .v (.c cx)], [.ab (.rf 87 36 119 Y)], Q => (match (Ty.sl xaTy).of [cx] with
    | some (x, []) => (Y.OkN 1000000) ∧ Q (.c (.k (.int .i64 (Y.setXattrsE ref x)))) [.ab (.rf 87 36 119 (Y.setXattrsY ref x))]
    | _ => False)
  | _, _, _ => False
theorem w_fsetx : ∀ args H Q, c_fsetx args H Q → Wp Inv Tryz.prog 46 args H Q := by
  intro args H Q h
  unfold c_fsetx at h
  split at h
  · rename_i ref cx Y
    split at h
    · rename_i x hx
      obtain ⟨hp, hq⟩ := h
      refine Wp.rfM (w_rsetx _ _ _ ?_)
      unfold rfo0 c_rsetx
      simp only [hx]
      obtain ⟨e1, e2⟩ := qs_setx (Y := Y) ref x
      refine ⟨hp, Y.setXattrsY ref x, ?_, hq⟩
      rw [e1, e2]
    · exact h.elim
  · exact h.elim
def c_fsetopq : Ct
  | [.v (.c (.p 0 0)), .v (.c (.k (.int .i64 ref))), .v (.c (.k (.bool on)))], [.ab (.rf 87 36 119 Y)], Q => (Y.OkN 1000000) ∧ Q (.c (.k (.int .i64 (Y.dirE ref)))) [.ab (.rf 87 36 119 (Y.setOpaqueY ref on))]
  | _, _, _ => False
theorem w_fsetopq : ∀ args H Q, c_fsetopq args H Q → Wp Inv Tryz.prog 48 args H Q := by
  intro args H Q h
  unfold c_fsetopq at h
  split at h
  · rename_i ref on Y
    obtain ⟨hp, hq⟩ := h
    refine Wp.rfM (w_rsetopq _ _ _ ?_)
    unfold rfo0 c_rsetopq
    obtain ⟨e1, e2⟩ := qs_setopq (Y := Y) ref on
    refine ⟨hp, Y.setOpaqueY ref on, ?_, hq⟩
    rw [e1, e2]
  · exact h.elim
def c_ftarget : Ct
  | [.v (.c (.p 0 0)), .v (.c (.k (.int .i64 ref)))], [.ab (.rf 87 36 119 Y)], Q => (True) ∧ Q (.tup [.c (.k (.string (Y.targetD ref))), .c (.k (.int .i64 (Y.targetE ref)))]) [.ab (.rf 87 36 119 (Y))]
  | _, _, _ => False
theorem w_ftarget : ∀ args H Q, c_ftarget args H Q → Wp Inv Tryz.prog 98 args H Q := by
  intro args H Q h
  unfold c_ftarget at h
  split at h
  · rename_i ref Y
    obtain ⟨hp, hq⟩ := h
    refine Wp.rfR (w_rtarget _ _ _ ?_)
    unfold rfo0 c_rtarget
    exact ⟨rfl, hq⟩
  · exact h.elim
def c_fopaque : Ct
  | [.v (.c (.p 0 0)), .v (.c (.k (.int .i64 ref)))], [.ab (.rf 87 36 119 Y)], Q => (True) ∧ Q (.bool (Y.opqD ref)) [.ab (.rf 87 36 119 (Y))]
  | _, _, _ => False
theorem w_fopaque : ∀ args H Q, c_fopaque args H Q → Wp Inv Tryz.prog 102 args H Q := by
  intro args H Q h
  unfold c_fopaque at h
  split at h
  · rename_i ref Y
    obtain ⟨hp, hq⟩ := h
    refine Wp.rfR (w_ropaque _ _ _ ?_)
    unfold rfo0 c_ropaque
    exact ⟨rfl, hq⟩
  · exact h.elim
def c_flook : Ct
  | [.v (.c (.p 0 0)), .v (.c (.k (.int .i64 ref))), .v (.c (.k (.string s)))], [.ab (.rf 87 36 119 Y)], Q => (Y.OkN 1000000) ∧ Q (.tup [.agg (xeTy.cells (Y.lookD ref s)), .c (.k (.int .i64 (Y.lookE ref s)))]) [.ab (.rf 87 36 119 (Y))]
  | _, _, _ => False
theorem w_flook : ∀ args H Q, c_flook args H Q → Wp Inv Tryz.prog 205 args H Q := by
  intro args H Q h
  unfold c_flook at h
  split at h
  · rename_i ref s Y
    obtain ⟨hp, hq⟩ := h
    refine Wp.rfR (w_rlook _ _ _ ?_)
    unfold rfo0 c_rlook
    exact ⟨hp.wf, rfl, hq⟩
  · exact h.elim
def c_fstat : Ct
  | [.v (.c (.p 0 0)), .v (.c (.k (.int .i64 ref)))], [.ab (.rf 87 36 119 Y)], Q => (Y.OkN 1000000) ∧ Q (.tup [.agg (stTy.cells (Y.statD ref)), .c (.k (.int .i64 (Y.atE ref)))]) [.ab (.rf 87 36 119 (Y))]
  | _, _, _ => False
theorem w_fstat : ∀ args H Q, c_fstat args H Q → Wp Inv Tryz.prog 95 args H Q := by
  intro args H Q h
  unfold c_fstat at h
  split at h
  · rename_i ref Y
    obtain ⟨hp, hq⟩ := h
    refine Wp.rfR (w_rstat _ _ _ ?_)
    unfold rfo0 c_rstat
    exact ⟨(hp.ok (Nat.le_refl _)), rfl, hq⟩
  · exact h.elim
def c_fread : Ct
  | [.v (.c (.p 0 0)), .v (.c (.k (.int .i64 ref))), .v (.c (.k (.int .i64 off))), .v (.c (.k (.int .i64 k)))], [.ab (.rf 87 36 119 Y)], Q => (Y.OkN 1000000) ∧ Q (.tup [.c (.o 1), .c (.k (.int .i64 (Y.readE ref off k)))]) [.ab (.rf 87 36 119 (Y)), .sl 5 .u8 (Y.readD ref off k)]
  | _, _, _ => False
theorem w_fread : ∀ args H Q, c_fread args H Q → Wp Inv Tryz.prog 49 args H Q := by
  intro args H Q h
  unfold c_fread at h
  split at h
  · rename_i ref off k Y
    obtain ⟨hp, hq⟩ := h
    refine Wp.rfR1 (w_rread _ _ _ ?_)
    unfold rfo0 c_rread
    exact ⟨(hp.ok (Nat.le_refl _)), _, rfl, hq⟩
  · exact h.elim
def c_flist : Ct
  | [.v (.c (.p 0 0)), .v (.c (.k (.int .i64 ref)))], [.ab (.rf 87 36 119 Y)], Q => (Y.OkN 1000000) ∧ Q (.tup [.c (.o 1), .c (.k (.int .i64 (Y.dirE ref)))]) [.ab (.rf 87 36 119 (Y)), .sl 54 xeTy (Y.listD ref)]
  | _, _, _ => False
theorem w_flist : ∀ args H Q, c_flist args H Q → Wp Inv Tryz.prog 86 args H Q := by
  intro args H Q h
  unfold c_flist at h
  split at h
  · rename_i ref Y
    obtain ⟨hp, hq⟩ := h
    refine Wp.rfR1 (w_rlist _ _ _ ?_)
    unfold rfo0 c_rlist
    exact ⟨(hp.ok (Nat.le_refl _)), _, rfl, hq⟩
  · exact h.elim
def c_fused : Ct
  | [.v (.c (.p 0 0))], [.ab (.rf 87 36 119 Y)], Q => (Y.OkN 1000000) ∧ Q (.v (.agg [.k (.int .i64 (Y.L.length : Int)), .k (.int .i64 Y.usedB)])) [.ab (.rf 87 36 119 (Y))]
  | _, _, _ => False
theorem w_fused : ∀ args H Q, c_fused args H Q → Wp Inv Tryz.prog 52 args H Q := by
  intro args H Q h
  unfold c_fused at h
  split at h
  · rename_i Y
    obtain ⟨hp, hq⟩ := h
    refine Wp.rfR (w_rused _ _ _ ?_)
    unfold rfo0 c_rused
    exact ⟨(hp.ok (Nat.le_refl _)), rfl, hq⟩
  · exact h.elim
def c_fover : Ct
  | [.v (.c (.p 0 0))], [.ab (.rf 87 36 119 Y)], Q => (Y.OkN 1000000) ∧ Q (.bool Y.over) [.ab (.rf 87 36 119 (Y))]
  | _, _, _ => False
theorem w_fover : ∀ args H Q, c_fover args H Q → Wp Inv Tryz.prog 53 args H Q := by
  intro args H Q h
  unfold c_fover at h
  split at h
  · rename_i Y
    obtain ⟨hp, hq⟩ := h
    refine Wp.rfR (w_rover _ _ _ ?_)
    unfold rfo0 c_rover
    exact ⟨(hp.ok (Nat.le_refl _)), rfl, hq⟩
  · exact h.elim
def c_fxattrs : Ct
  | [.v (.c (.p 0 0)), .v (.c (.k (.int .i64 ref)))], [.ab (.rf 87 36 119 Y)], Q => Q (.tup [.c (.d xaTy (Y.xattrsD ref)), .c (.k (.int .i64 (Y.atE ref)))]) [.ab (.rf 87 36 119 Y)]
  | _, _, _ => False
theorem w_fxattrs : ∀ args H Q, c_fxattrs args H Q → Wp Inv Tryz.prog 99 args H Q := by
  intro args H Q h
  unfold c_fxattrs at h
  split at h
  · rename_i ref Y
    refine Wp.nilD2 (e := xaTy) (Wp.rfR (w_rxattrs _ _ _ ?_))
    unfold rfo0 c_rxattrs
    unfold UpY.xattrsD UpY.atE at h
    refine ⟨fun hn => ⟨rfl, .inr ⟨1, rfl, ?_⟩⟩, fun y hy => ⟨rfl, .inl ?_⟩⟩
    · rw [show Y.at ref = none from hn] at h; exact h
    · rw [show Y.at ref = some y from hy] at h; exact h
  · exact h.elim
end Go.Proofs

namespace Go.Proofs
open Go Go.Lm Go.RowKit
set_option maxRecDepth 1000000
def c_rnew : Ct
  | [.v (.agg cq)], [], Q => (match (quTy).of cq with
    | some (q, []) => Q (.c (.p 0 0)) [.ab (.rf 87 36 119 (UpY.new q.1 q.2.1))]
    | _ => False)
  | _, _, _ => False
noncomputable def XR1069 : Vx := { P := Tryz.prog, ct := [(99, c_fxattrs), (53, c_fover), (52, c_fused), (86, c_flist), (49, c_fread), (95, c_fstat), (205, c_flook), (102, c_fopaque), (98, c_ftarget), (48, c_fsetopq), (46, c_fsetx), (44, c_fsetattr), (42, c_fresize), (40, c_fwrite), (39, c_fmove), (37, c_fremove), (35, c_fmake), (36, c_flink), (82, c_rmay), (122, c_validR), (92, c_mayR), (94, c_xattrsR), (124, c_nul), (96, c_list), (126, c_sorted), (127, c_keys), (9, c_newu), (31, c_over), (21, c_used), (17, c_remove), (59, c_let), (59, c_letz), (38, c_move), (32, c_link), (23, c_make), (25, c_xattrs), (24, c_read), (16, c_write), (41, c_resize), (45, c_setx), (47, c_setopq), (43, c_setattr), (88, c_within), (68, c_fresh), (69, c_good), (93, c_mayx), (113, c_bindex), (125, c_sindex), (70, c_attrs), (114, c_sclone), (112, c_valid), (55, c_bclone), (57, c_sized), (91, c_may), (101, c_opq), (97, c_target), (22, c_look), (33, c_stat), (67, c_entry), (56, c_file), (58, c_dir), (71, c_at)], ty := tyTab, hold := [] }
theorem XR1069_ok : CtOk Inv Tryz.prog XR1069.ct := CtOk.cons w_fxattrs (CtOk.cons w_fover (CtOk.cons w_fused (CtOk.cons w_flist (CtOk.cons w_fread (CtOk.cons w_fstat (CtOk.cons w_flook (CtOk.cons w_fopaque (CtOk.cons w_ftarget (CtOk.cons w_fsetopq (CtOk.cons w_fsetx (CtOk.cons w_fsetattr (CtOk.cons w_fresize (CtOk.cons w_fwrite (CtOk.cons w_fmove (CtOk.cons w_fremove (CtOk.cons w_fmake (CtOk.cons w_flink (CtOk.cons w_rmay (CtOk.cons w_validR (CtOk.cons w_mayR (CtOk.cons w_xattrsR (CtOk.cons w_nul (CtOk.cons w_list (CtOk.cons w_sorted (CtOk.cons w_keys (CtOk.cons w_newu (CtOk.cons w_over (CtOk.cons w_used (CtOk.cons w_remove (CtOk.cons w_let (CtOk.cons w_letz (CtOk.cons w_move (CtOk.cons w_link (CtOk.cons w_make (CtOk.cons w_xattrs (CtOk.cons w_read (CtOk.cons w_write (CtOk.cons w_resize (CtOk.cons w_setx (CtOk.cons w_setopq (CtOk.cons w_setattr (CtOk.cons w_within (CtOk.cons w_fresh (CtOk.cons w_good (CtOk.cons w_mayx (CtOk.cons w_bindex (CtOk.cons w_sindex (CtOk.cons w_attrs (CtOk.cons w_sclone (CtOk.cons w_valid (CtOk.cons w_bclone (CtOk.cons w_sized (CtOk.cons w_may (CtOk.cons w_opq (CtOk.cons w_target (CtOk.cons w_look (CtOk.cons w_stat (CtOk.cons w_entry (CtOk.cons w_file (CtOk.cons w_dir (CtOk.cons w_at (CtOk.nil _ _))))))))))))))))))))))))))))))))))))))))))))))))))))))))))))))
def vc_rnew : ((quTy).den) → (SV → List HO → Prop) → Prop :=
 fun q Q => inK .i64 q.1 → inK .i64 q.2.1 → Q (SV.v (S1.c (.p 0 0))) [.cells 87 [.k (.int .i64 q.1), .k (.int .i64 q.2.1), .o 1, .k (.slice none 0 0), .k (.int .i64 2)], .sl 36 noTy [(([] : List ByteArray), (1 : Int), (1 : Int), ((493 : 
 Int), (0 : Int), (0 : Int), ()), [], ByteArray.mk #[], [], false, ())]]
theorem vc_rnew_eq (q : (quTy).den) (Q : SV → List HO → Prop) : vFun XR1069 ⟨[], []⟩ Tryz.f10 [.v (.agg (Ty.cells quTy q))] [] Q = vc_rnew q Q := by kernel_rfl
theorem w_rnew : ∀ args H Q, c_rnew args H Q → Wp Inv Tryz.prog 10 args H Q := by
  intro args H Q h
  unfold c_rnew at h
  split at h
  rotate_left
  · exact h.elim
  rename_i cq
  split at h
  rotate_left
  · exact h.elim
  rename_i q hq
  refine Wp.said (args' := [.v (.agg (Ty.cells quTy q))]) (fun E g => RelVs.cons1 (of_row hq) (fun _ h => h)) ?_
  clear hq
  refine (fun hh => Wp.sel (Wp.rfI (tU := 87) (tN := 36) (tE := 119) (p := 0) (a := 1) (c := 2) (Wp.cellNil (p := 0) (t := 87) (tt := 119) (e := enTy) hh))) ?_
  refine Wp.enter (X := XR1069) XR1069_ok ⟨[], []⟩ (fn := Tryz.f10) (by kernel_rfl) ?_
  refine Eq.mpr (vc_rnew_eq q _) ?_
  unfold vc_rnew
  intro _ _
  exact ⟨[.k (.int .i64 q.1), .k (.int .i64 q.2.1), .o 1], [.k (.int .i64 2)], rfl, UpY.new q.1 q.2.1, by decide, by decide, by decide, rfl, rfl, rfl, [0], rfl, by simp, by simp, h⟩
def c_rsame10 : Ct
  | [.v (.c ca), .v (.c cb)], [], Q => (match (Ty.sl xeTy).of [ca] with
    | some (a, []) => (match (Ty.sl xeTy).of [cb] with
    | some (b, []) => a = b ∧ Q (.bool true) []
    | _ => False)
    | _ => False)
  | _, _, _ => False
noncomputable def XR1070 : Vx := { P := Tryz.prog, ct := (10, c_rnew) :: XR1069.ct, ty := tyTab, hold := [] }
theorem XR1070_ok : CtOk Inv Tryz.prog XR1070.ct := CtOk.cons w_rnew (XR1069_ok)
def vc_rsame10 : (List (xeTy).den) → (List (xeTy).den) → (SV → List HO → Prop) → Prop :=
 fun a b Q => List.length a ≤ 9223372036854775807 → List.length b ≤ 9223372036854775807 → List.length a ≤ 9223372036854775807 → List.length b ≤ 9223372036854775807 → br ((a.length : Int) != (b.length : Int)) (Q (.v (.c (.k (.bool false)))) 
 []) (LoopP (fun i again => List.length a ≤ 9223372036854775807 → br (decide (i.1.1 < (a.length : Int))) (0 ≤ i.1.1 ∧ i.1.1 < (a.length : Int) ∧ (Ty.ok xeTy (ixD xeTy a i.1.1) → 0 ≤ i.1.1 ∧ i.1.1 < (b.length : Int) ∧ (Ty.ok xeTy (ixD xeTy b 
 i.1.1) → br (!(sEq (ixD xeTy a i.1.1).1 (ixD xeTy b i.1.1).1 && ((ixD xeTy a i.1.1).2.1 == (ixD xeTy b i.1.1).2.1 && ((ixD xeTy a i.1.1).2.2.1 == (ixD xeTy b i.1.1).2.2.1 && true)))) (Q (.v (.c (.k (.bool false)))) []) (inK .i64 (i.1.1 + 1) 
 ∧ again ((i.1.1 + 1, ()), ()))))) (Q (.v (.c (.k (.bool true)))) [])) (((0 : Int), ()), ()))
theorem vc_rsame10_eq (a : List (xeTy).den) (b : List (xeTy).den) (Q : SV → List HO → Prop) : vFun XR1070 ⟨[(5, ⟨[(5, .int .i64)], []⟩)], []⟩ Tryz.f100 [.c (.d xeTy a), .c (.d xeTy b)] [] Q = vc_rsame10 a b Q := by kernel_rfl
theorem w_rsame10 : ∀ args H Q, c_rsame10 args H Q → Wp Inv Tryz.prog 100 args H Q := by
  intro args H Q h
  unfold c_rsame10 at h
  split at h
  rotate_left
  · exact h.elim
  rename_i ca cb
  split at h
  rotate_left
  · exact h.elim
  rename_i a ha
  split at h
  rotate_left
  · exact h.elim
  rename_i b hb
  refine Wp.said (args' := [.c (.d xeTy a), .c (.d xeTy b)]) (fun E g => RelVs.cons1 (of_list ha) (RelVs.cons1 (of_list hb) (fun _ h => h))) ?_
  clear ha hb
  refine Wp.enter (X := XR1070) XR1070_ok ⟨[(5, ⟨[(5, .int .i64)], []⟩)], []⟩ (fn := Tryz.f100) (by kernel_rfl) ?_
  have hv := vc_rsame10_eq a b Q
  rw [show vFun _ _ _ _ _ _ = _ from hv]
  unfold vc_rsame10
  obtain ⟨rfl, h⟩ := h
  intro _ _ _ _
  refine br_of (fun h1 => by simp at h1) (fun _ => ?_)
  refine LoopP.intro (fun i => 0 ≤ i.1.1) (fun i => a.length - i.1.1.toNat) (Int.le_refl _) ?_
  rintro ⟨⟨k, _⟩, _⟩ k0
  simp only at k0 ⊢
  intro _
  refine br_of (fun hc => ?_) (fun _ => h)
  have hc : k < (a.length : Int) := of_decide_eq_true hc
  refine ⟨k0, hc, fun _ => ⟨k0, hc, fun _ => br_of (fun h1 => ?_) (fun _ => ⟨by unfold inK; omega, by omega, by omega⟩)⟩⟩
  rw [sEq_iff.2 rfl, beq_self_eq_true, beq_self_eq_true] at h1
  cases h1
def c_rsame11 : Ct
  | [.v (.c ca), .v (.c cb)], [], Q => (match (Ty.sl xaTy).of [ca] with
    | some (a, []) => (match (Ty.sl xaTy).of [cb] with
    | some (b, []) => a = b ∧ Q (.bool true) []
    | _ => False)
    | _ => False)
  | _, _, _ => False
noncomputable def XR1071 : Vx := { P := Tryz.prog, ct := (100, c_rsame10) :: XR1070.ct, ty := tyTab, hold := [] }
theorem XR1071_ok : CtOk Inv Tryz.prog XR1071.ct := CtOk.cons w_rsame10 (XR1070_ok)
def vc_rsame11 : (List (xaTy).den) → (List (xaTy).den) → (SV → List HO → Prop) → Prop :=
 fun a b Q => List.length a ≤ 9223372036854775807 → List.length b ≤ 9223372036854775807 → List.length a ≤ 9223372036854775807 → List.length b ≤ 9223372036854775807 → br ((a.length : Int) != (b.length : Int)) (Q (.v (.c (.k (.bool false)))) 
 []) (LoopP (fun i again => List.length a ≤ 9223372036854775807 → br (decide (i.1.1 < (a.length : Int))) (0 ≤ i.1.1 ∧ i.1.1 < (a.length : Int) ∧ (Ty.ok xaTy (ixD xaTy a i.1.1) → 0 ≤ i.1.1 ∧ i.1.1 < (b.length : Int) ∧ (Ty.ok xaTy (ixD xaTy b 
 i.1.1) → br (!sEq (ixD xaTy a i.1.1).1 (ixD xaTy b i.1.1).1) (Q (.v (.c (.k (.bool false)))) []) (0 ≤ i.1.1 ∧ i.1.1 < (a.length : Int) ∧ (Ty.ok xaTy (ixD xaTy a i.1.1) → 0 ≤ i.1.1 ∧ i.1.1 < (b.length : Int) ∧ (Ty.ok xaTy (ixD xaTy b i.1.1) 
 → br (!sEq (bstr (ixD xaTy a i.1.1).2.1) (bstr (ixD xaTy b i.1.1).2.1)) (Q (.v (.c (.k (.bool false)))) []) (inK .i64 (i.1.1 + 1) ∧ again ((i.1.1 + 1, ()), ())))))))) (Q (.v (.c (.k (.bool true)))) [])) (((0 : Int), ()), ()))
theorem vc_rsame11_eq (a : List (xaTy).den) (b : List (xaTy).den) (Q : SV → List HO → Prop) : vFun XR1071 ⟨[(5, ⟨[(5, .int .i64)], []⟩)], []⟩ Tryz.f72 [.c (.d xaTy a), .c (.d xaTy b)] [] Q = vc_rsame11 a b Q := by kernel_rfl
theorem w_rsame11 : ∀ args H Q, c_rsame11 args H Q → Wp Inv Tryz.prog 72 args H Q := by
  intro args H Q h
  unfold c_rsame11 at h
  split at h
  rotate_left
  · exact h.elim
  rename_i ca cb
  split at h
  rotate_left
  · exact h.elim
  rename_i a ha
  split at h
  rotate_left
  · exact h.elim
  rename_i b hb
  refine Wp.said (args' := [.c (.d xaTy a), .c (.d xaTy b)]) (fun E g => RelVs.cons1 (of_list ha) (RelVs.cons1 (of_list hb) (fun _ h => h))) ?_
  clear ha hb
  refine Wp.enter (X := XR1071) XR1071_ok ⟨[(5, ⟨[(5, .int .i64)], []⟩)], []⟩ (fn := Tryz.f72) (by kernel_rfl) ?_
  have hv := vc_rsame11_eq a b Q
  rw [show vFun _ _ _ _ _ _ = _ from hv]
  unfold vc_rsame11
  obtain ⟨rfl, h⟩ := h
  intro _ _ _ _
  refine br_of (fun h1 => by simp at h1) (fun _ => ?_)
  refine LoopP.intro (fun i => 0 ≤ i.1.1) (fun i => a.length - i.1.1.toNat) (Int.le_refl _) ?_
  rintro ⟨⟨k, _⟩, _⟩ k0
  simp only at k0 ⊢
  intro _
  refine br_of (fun hc => ?_) (fun _ => h)
  have hc : k < (a.length : Int) := of_decide_eq_true hc
  refine ⟨k0, hc, fun _ => ⟨k0, hc, fun _ => br_of (fun h1 => ?_) (fun _ => ⟨k0, hc, fun _ => ⟨k0, hc, fun _ => br_of (fun h1 => ?_) (fun _ => ⟨by unfold inK; omega, by omega, by omega⟩)⟩⟩)⟩⟩
  all_goals (rw [sEq_iff.2 rfl] at h1; cases h1)
def c_rsame17 : Ct
  | [.v (.c ca), .v (.c cb)], [], Q => (match (Ty.sl xaTy).of [ca] with
    | some (a, []) => (match (Ty.sl xaTy).of [cb] with
    | some (b, []) => a = b ∧ Q (.bool true) []
    | _ => False)
    | _ => False)
  | _, _, _ => False
noncomputable def XR1072 : Vx := { P := Tryz.prog, ct := (72, c_rsame11) :: XR1071.ct, ty := tyTab, hold := [] }
theorem XR1072_ok : CtOk Inv Tryz.prog XR1072.ct := CtOk.cons w_rsame11 (XR1071_ok)
def vc_rsame17 : (List (xaTy).den) → (List (xaTy).den) → (SV → List HO → Prop) → Prop :=
 fun a b Q => List.length a ≤ 9223372036854775807 → List.length b ≤ 9223372036854775807 → a = b ∧ Q (.v (.c (.k (.bool true)))) []
theorem vc_rsame17_eq (a : List (xaTy).den) (b : List (xaTy).den) (Q : SV → List HO → Prop) : vFun XR1072 ⟨[], []⟩ Tryz.f26 [.c (.d xaTy a), .c (.d xaTy b)] [] Q = vc_rsame17 a b Q := by kernel_rfl
theorem w_rsame17 : ∀ args H Q, c_rsame17 args H Q → Wp Inv Tryz.prog 26 args H Q := by
  intro args H Q h
  unfold c_rsame17 at h
  split at h
  rotate_left
  · exact h.elim
  rename_i ca cb
  split at h
  rotate_left
  · exact h.elim
  rename_i a ha
  split at h
  rotate_left
  · exact h.elim
  rename_i b hb
  refine Wp.said (args' := [.c (.d xaTy a), .c (.d xaTy b)]) (fun E g => RelVs.cons1 (of_list ha) (RelVs.cons1 (of_list hb) (fun _ h => h))) ?_
  clear ha hb
  refine Wp.enter (X := XR1072) XR1072_ok ⟨[], []⟩ (fn := Tryz.f26) (by kernel_rfl) ?_
  have hv := vc_rsame17_eq a b Q
  rw [show vFun _ _ _ _ _ _ = _ from hv]
  unfold vc_rsame17
  intro _ _
  exact h
end Go.Proofs

namespace Go.Lm
open Go Go.RowKit
def kindI (c n : Int) : Int := (if c < 0 then 0 - (c + 1) else c).tmod n
abbrev opTy : Ty := .pair (.int .i64) (.pair (.int .i64) (.pair (.int .i64) (.pair (.int .i64) (.pair (.int .i64) (.pair .str (.pair .str (.pair noTy (.pair (.sl .u8) .unit))))))))
abbrev OpD := Int × Int × Int × Int × Int × ByteArray × ByteArray × NoD × List UInt8 × Unit
def clipN5 (n : NoD) : NoD := (n.1, n.2.1, n.2.2.1, n.2.2.2.1, n.2.2.2.2.1.take 5000, n.2.2.2.2.2.1, n.2.2.2.2.2.2.1.take 10, n.2.2.2.2.2.2.2)
def clipO (o : OpD) : OpD := (o.1, o.2.1, o.2.2.1, o.2.2.2.1, o.2.2.2.2.1, o.2.2.2.2.2.1, o.2.2.2.2.2.2.1, clipN5 o.2.2.2.2.2.2.2.1, o.2.2.2.2.2.2.2.2.1.take 300, ())
namespace UpY
variable (Y : UpY)
noncomputable def doD (p : OpD) : UpY :=
  if kindI p.1 13 = 0 ∨ kindI p.1 13 = 1 ∨ kindI p.1 13 = 2 then Y.makeY p.2.1 p.2.2.2.2.2.1 p.2.2.2.2.2.2.2.1
  else if kindI p.1 13 = 3 then Y.linkY p.2.1 p.2.2.2.2.2.1 p.2.2.1
  else if kindI p.1 13 = 4 then Y.removeY p.2.1 p.2.2.2.2.2.1
  else if kindI p.1 13 = 5 ∨ kindI p.1 13 = 6 then Y.moveY p.2.1 p.2.2.2.2.2.1 p.2.2.1 p.2.2.2.2.2.2.1
  else if kindI p.1 13 = 7 then Y.writeY p.2.1 p.2.2.2.1 p.2.2.2.2.2.2.2.2.1
  else if kindI p.1 13 = 8 then Y.resizeY p.2.1 p.2.2.2.1
  else if kindI p.1 13 = 9 then Y.setAttrY p.2.1 p.2.2.2.2.2.2.2.1.2.2.2.1
  else if kindI p.1 13 = 10 then Y.setXattrsY p.2.1 p.2.2.2.2.2.2.2.1.2.2.2.2.2.2.1
  else if kindI p.1 13 = 11 then Y.setOpaqueY p.2.1 (p.2.2.2.1.tmod 2 == 0)
  else Y
end UpY
theorem okN_do {Y : UpY} {n : Nat} (h : Y.OkN n) (p : OpD) : (Y.doD p).OkN (n + 1) := by
  unfold UpY.doD
  split
  · exact okN_make h _ _ _
  split
  · exact okN_link h _ _ _
  split
  · exact (okN_remove h _ _).le (Nat.le_succ n)
  split
  · exact (okN_move h _ _ _ _).le (Nat.le_succ n)
  split
  · exact (okN_write h _ _ _).le (Nat.le_succ n)
  split
  · exact (okN_resize h _ _).le (Nat.le_succ n)
  split
  · exact (okN_setAttr h _ _).le (Nat.le_succ n)
  split
  · exact (okN_setXattrs h _ _).le (Nat.le_succ n)
  split
  · exact (okN_setOpaque h _ _).le (Nat.le_succ n)
  · exact h.le (Nat.le_succ n)
theorem ent_self {Y : UpY} (w : Y.Wf) {e : EnD} (he : e ∈ Y.E) : Y.ent e.1 e.2.1 = some e := by
  cases h : Y.ent e.1 e.2.1 with
  | none => exact absurd ⟨rfl, rfl⟩ (ent_none.1 h e he)
  | some e' =>
    obtain ⟨h1, h2, h3⟩ := ent_mem h
    have key : ∀ l : List EnD, (l.map fun e => (e.1, e.2.1)).Nodup → e ∈ l → e' ∈ l → e' = e := fun l => by
      induction l with
      | nil => intro _ h; cases h
      | cons x l ih =>
        intro hn ha hb
        obtain ⟨n1, n2⟩ := List.nodup_cons.1 hn
        rcases List.mem_cons.1 ha with ha | ha
        · rcases List.mem_cons.1 hb with hb | hb
          · rw [ha, hb]
          · exact absurd (List.mem_map.2 ⟨e', hb, by rw [h2, h3, ha]⟩) n1
        · rcases List.mem_cons.1 hb with hb | hb
          · exact absurd (List.mem_map.2 ⟨e, ha, by rw [← h2, ← h3, hb]⟩) n1
          · exact ih n2 ha hb
    rw [key _ w.ne he h1]
theorem list_look {Y : UpY} (w : Y.Wf) {r : Int} {x : XeD} (hx : x ∈ Y.listD r) : Y.lookD r x.1 = x ∧ Y.lookE r x.1 = 0 := by
  unfold UpY.listD at hx
  split at hx
  · rename_i hd
    have h1 := (fold_insX Y.xe (Y.E.filter (ofD r)) [] List.Pairwise.nil).1
    rw [List.append_nil] at h1
    obtain ⟨e, he, rfl⟩ := List.mem_map.1 (h1.mem_iff.1 hx)
    obtain ⟨h2, h3⟩ := List.mem_filter.1 he
    have h4 : e.1 = r := by simpa [ofD] using h3
    have h5 := ent_self w h2
    rw [h4] at h5
    have h5 : Y.ent r (Y.xe e).1 = some e := h5
    constructor
    · unfold UpY.lookD
      rw [if_pos hd, h5]; rfl
    · unfold UpY.lookE
      rw [if_pos hd, h5]
  · cases hx
end Go.Lm

namespace Go.Proofs
open Go Go.Lm Go.RowKit
set_option maxRecDepth 1000000
def c_writeo0 : Ct
  | [.v (.c (.p 0 0)), .v (.c (.k (.int .i64 ref))), .v (.c (.k (.int .i64 off))), .v (.c (.o 1))], [.up ⟨84, 81, 3, 9⟩ q1 q2 mb nx L, .sl 5 .u8 b], Q => ∃ Y : UpY, (q1 = Y.q1 ∧ q2 = Y.q2 ∧ nx = Y.nx ∧ RepY L Y) ∧ Y.Ok ∧ ∀ o, UpIs ⟨84, 81, 3, 9⟩ (Y.writeY ref off b) o → Q (.c (.k (.int .i64 (Y.writeE ref off b)))) [o, .sl 5 .u8 b]
  | _, _, _ => False
noncomputable def XW073 : Vx := { P := Tryz.prog, ct := (26, c_rsame17) :: XR1072.ct, ty := tyTab, hold := [], pend := true }
theorem XW073_ok : CtOk Inv Tryz.prog XW073.ct := CtOk.cons w_rsame17 (XR1072_ok)
def vc_writeo0 : (Int) → (Int) → (Int) → (Int) → (Nat) → (Int) → (List (Int × LNode)) → (List UInt8) → (SV → List HO → Prop) → Prop :=
 fun ref off q1 q2 mb nx L b Q => inK .i64 ref → inK .i64 off → (getK L ref = none → inK .i64 1 → Q (.v (.c (.k (.int .i64 1)))) [.up ⟨84, 81, 3, 9⟩ q1 q2 mb nx L, .sl 5 Ty.u8 b]) ∧ ∀ (m : LNode), getK L ref = some m → NodeOk m → br (m.kind 
 == 1) (inK .i64 25 → Q (.v (.c (.k (.int .i64 25)))) [.up ⟨84, 81, 3, 9⟩ q1 q2 mb nx L, .sl 5 Ty.u8 b]) (br (m.kind == 2) (inK .i64 0 → br (decide (off < 0)) (Q (.v (.c (.k (.int .i64 1)))) [.up ⟨84, 81, 3, 9⟩ q1 q2 mb nx L, .sl 5 Ty.u8 b]) 
 (br (decide (off > 4096)) (Q (.v (.c (.k (.int .i64 3)))) [.up ⟨84, 81, 3, 9⟩ q1 q2 mb nx L, .sl 5 Ty.u8 b]) (List.length b ≤ 9223372036854775807 → inK .i64 (4096 - off) ∧ br (decide ((b.length : Int) > 4096 - off)) (Q (.v (.c (.k (.int 
 .i64 3)))) [.up ⟨84, 81, 3, 9⟩ q1 q2 mb nx L, .sl 5 Ty.u8 b]) (List.length b ≤ 9223372036854775807 → br ((b.length : Int) == 0) (Q (.v (.c (.k (.int .i64 0)))) [.up ⟨84, 81, 3, 9⟩ q1 q2 mb nx L, .sl 5 Ty.u8 b]) (∃ r m_1, getK L r = some m_1 
 ∧ m_1.blk = m.blk ∧ (NodeOk m_1 → ∃ r m_2, getK L r = some m_2 ∧ m_2.blk = m.blk ∧ (NodeOk m_2 → List.length m_2.data ≤ 9223372036854775807 → List.length b ≤ 9223372036854775807 → inK .i64 (off + (b.length : Int)) ∧ (0 ≤ if false = true 
 then min (↑(List.length m_2.data) : Int) (off + (b.length : Int)) else max (↑(List.length m_2.data) : Int) (off + (b.length : Int))) ∧ (if false = true then min (↑(List.length m_2.data) : Int) (off + (b.length : Int)) else max 
 (↑(List.length m_2.data) : Int) (off + (b.length : Int))) ≤ 140737488355328 ∧ ∃ r m_3, getK L r = some m_3 ∧ m_3.blk = m.blk ∧ ∀ (vd : Value), (LNode.mk m_3.blk m_3.kind m_3.mode m_3.uid m_3.gid vd (sizeL m_1.data (if false = true then min 
 (↑(List.length m_2.data) : Int) (off + (b.length : Int)) else max (↑(List.length m_2.data) : Int) (off + (b.length : Int)))) m_3.target m_3.vx m_3.xattrs m_3.opq m_3.vi m_3.ents m_3.up m_3.links).blk = m.blk ∧ (LNode.mk m_3.blk m_3.kind 
 m_3.mode m_3.uid m_3.gid vd (sizeL m_1.data (if false = true then min (↑(List.length m_2.data) : Int) (off + (b.length : Int)) else max (↑(List.length m_2.data) : Int) (off + (b.length : Int)))) m_3.target m_3.vx m_3.xattrs m_3.opq m_3.vi 
 m_3.ents m_3.up m_3.links).vd = (LNode.mk m_3.blk m_3.kind m_3.mode m_3.uid m_3.gid vd (sizeL m_1.data (if false = true then min (↑(List.length m_2.data) : Int) (off + (b.length : Int)) else max (↑(List.length m_2.data) : Int) (off + 
 (b.length : Int)))) m_3.target m_3.vx m_3.xattrs m_3.opq m_3.vi m_3.ents m_3.up m_3.links).vd ∧ 0 ≤ boundV (some off) 0 ∧ boundV (some off) 0 ≤ boundV none (↑(List.length (sizeL m_1.data (if false = true then min (↑(List.length m_2.data) : 
 Int) (off + (b.length : Int)) else max (↑(List.length m_2.data) : Int) (off + (b.length : Int))))) : Int) ∧ boundV none (↑(List.length (sizeL m_1.data (if false = true then min (↑(List.length m_2.data) : Int) (off + (b.length : Int)) else 
 max (↑(List.length m_2.data) : Int) (off + (b.length : Int))))) : Int) ≤ (↑(List.length (sizeL m_1.data (if false = true then min (↑(List.length m_2.data) : Int) (off + (b.length : Int)) else max (↑(List.length m_2.data) : Int) (off + 
 (b.length : Int))))) : Int) ∧ ∃ lo, sliceV (1 : Nat) (LNode.mk m_3.blk m_3.kind m_3.mode m_3.uid m_3.gid vd (sizeL m_1.data (if false = true then min (↑(List.length m_2.data) : Int) (off + (b.length : Int)) else max (↑(List.length m_2.data) 
 : Int) (off + (b.length : Int)))) m_3.target m_3.vx m_3.xattrs m_3.opq m_3.vi m_3.ents m_3.up m_3.links).vd (boundV (some off) 0) (boundV none (↑(List.length (sizeL m_1.data (if false = true then min (↑(List.length m_2.data) : Int) (off + 
 (b.length : Int)) else max (↑(List.length m_2.data) : Int) (off + (b.length : Int))))) : Int)) = sliceV (1 : Nat) (LNode.mk m_3.blk m_3.kind m_3.mode m_3.uid m_3.gid vd (sizeL m_1.data (if false = true then min (↑(List.length m_2.data) : 
 Int) (off + (b.length : Int)) else max (↑(List.length m_2.data) : Int) (off + (b.length : Int)))) m_3.target m_3.vx m_3.xattrs m_3.opq m_3.vi m_3.ents m_3.up m_3.links).vd lo (↑(List.length (sizeL m_1.data (if false = true then min 
 (↑(List.length m_2.data) : Int) (off + (b.length : Int)) else max (↑(List.length m_2.data) : Int) (off + (b.length : Int))))) : Int) ∧ 0 ≤ lo ∧ lo ≤ (↑(List.length (sizeL m_1.data (if false = true then min (↑(List.length m_2.data) : Int) 
 (off + (b.length : Int)) else max (↑(List.length m_2.data) : Int) (off + (b.length : Int))))) : Int) ∧ Q (.v (.c (.k (.int .i64 0)))) [.ab (.pw ⟨84, 81, 3, 9⟩ q1 q2 mb nx L r (LNode.mk m_3.blk m_3.kind m_3.mode m_3.uid m_3.gid vd (sizeL 
 m_1.data (if false = true then min (↑(List.length m_2.data) : Int) (off + (b.length : Int)) else max (↑(List.length m_2.data) : Int) (off + (b.length : Int)))) m_3.target m_3.vx m_3.xattrs m_3.opq m_3.vi m_3.ents m_3.up m_3.links) (5 : Nat) 
 (copyL (sizeL m_1.data (if false = true then min (↑(List.length m_2.data) : Int) (off + (b.length : Int)) else max (↑(List.length m_2.data) : Int) (off + (b.length : Int)))) (Int.toNat lo) b)), .sl 5 Ty.u8 b]))))))) (inK .i64 1 → Q (.v (.c 
 (.k (.int .i64 1)))) [.up ⟨84, 81, 3, 9⟩ q1 q2 mb nx L, .sl 5 Ty.u8 b]))
theorem vc_writeo0_eq (ref : Int) (off : Int) (q1 : Int) (q2 : Int) (mb : Nat) (nx : Int) (L : List (Int × LNode)) (b : List UInt8) (Q : SV → List HO → Prop) : vFun XW073 ⟨[], []⟩ Tryz.f16 [.v (.c (.p 0 0)), .int ref, .int off, .v (.c (.o 1))] [.up ⟨84, 81, 3, 9⟩ q1 q2 mb nx L, .sl 5 .u8 b] Q = vc_writeo0 ref off q1 q2 mb nx L b Q := by kernel_rfl
theorem w_writeo0 : ∀ args H Q, c_writeo0 args H Q → Wp Inv Tryz.prog 16 args H Q := by
  intro args H Q h
  unfold c_writeo0 at h
  split at h
  rotate_left
  · exact h.elim
  rename_i ref off q1 q2 mb nx L b
  refine Wp.enter (X := XW073) XW073_ok ⟨[], []⟩ (fn := Tryz.f16) (by kernel_rfl) ?_
  have hv := vc_writeo0_eq ref off q1 q2 mb nx L b Q
  rw [show vFun _ _ _ _ _ _ = _ from hv]
  unfold vc_writeo0
  obtain ⟨Y, ⟨rfl, rfl, rfl, hr⟩, hp, hq⟩ := h
  have stay : ∀ z : Int, Y.writeE ref off b = z → z ≠ 0 ∨ b = [] → Q (.int z) [.up ⟨84, 81, 3, 9⟩ Y.q1 Y.q2 mb Y.nx L, .sl 5 .u8 b] := fun z e hx => by
    have hY : Y.writeY ref off b = Y := if_neg (by
      rw [e]
      rintro ⟨h1, h2⟩
      rcases hx with hx | hx
      · exact hx h1
      · exact h2 hx)
    rw [hY, e] at hq
    exact hq _ ⟨rfl, rfl, rfl, rfl, hr⟩
  have go : Y.writeE ref off b = 0 → b ≠ [] → ∀ o, UpIs ⟨84, 81, 3, 9⟩ { Y with L := setN Y.L ref fun n => n.setD (writeL n.2.2.2.2.1 off b) } o → Q (.int 0) [o, .sl 5 .u8 b] := fun e hb o ho => by
    have hY : Y.writeY ref off b = { Y with L := setN Y.L ref fun n => n.setD (writeL n.2.2.2.2.1 off b) } := if_pos ⟨e, hb⟩
    rw [hY, e] at hq
    exact hq o ho
  intro _ _
  rcases hr.both ref with ⟨hn, hy⟩ | ⟨m, y, hg, hy, hN⟩
  · refine ⟨fun _ _ => stay 1 ?_ (.inl (by decide)), fun m hg => ?_⟩
    · simp only [UpY.writeE, fileE_none hy]; rfl
    · rw [hn] at hg; cases hg
  · have hl := (mayN_lens (hp.wf.nm y (at_mem hy).1).2.2).1
    rw [← hN.data] at hl
    refine ⟨no_some hg, only hg fun _ => br_of (fun h1 => fun _ => stay 25 ?_ (.inl (by decide))) (fun h1 => br_of (fun h2 => fun _ => br_of (fun h3 => stay 1 ?_ (.inl (by decide))) (fun h3 => br_of (fun h4 => stay 3 ?_ (.inl (by decide))) (fun h4 => fun _ => ⟨?_, br_of (fun h5 => stay 3 ?_ (.inl (by decide))) (fun h5 => fun _ => br_of (fun h6 => stay 0 ?_ (.inr ?_)) (fun h6 => ?_))⟩))) (fun h2 => fun _ => stay 1 ?_ (.inl (by decide))))⟩
    all_goals try replace h3 := of_decide_eq_true h3
    all_goals try replace h3 := of_decide_eq_false h3
    all_goals try replace h4 := of_decide_eq_true h4
    all_goals try replace h4 := of_decide_eq_false h4
    all_goals try replace h5 := of_decide_eq_true h5
    all_goals try replace h5 := of_decide_eq_false h5
    all_goals rw [hN.kind] at h1
    all_goals try rw [hN.kind] at h2
    · simp only [UpY.writeE, fileE_some hy, eq_of_beq h1]; rfl
    all_goals have h1 : ¬ y.2.2.1 = 1 := by simpa using h1
    · simp only [UpY.writeE, fileE_some hy, eq_of_beq h2]; simp [h3]
    · have h3' : ¬ off < 0 := h3
      have h4' : off > 4096 := h4
      simp only [UpY.writeE, fileE_some hy, eq_of_beq h2]; simp [h3', h4']
    · unfold inK; omega
    · have h3' : ¬ off < 0 := h3
      have h5' : (b.length : Int) > 4096 - off := h5
      simp only [UpY.writeE, fileE_some hy, eq_of_beq h2]; simp [h3', h5']
    · have h3' : ¬ off < 0 := h3
      have h4' : ¬ off > 4096 := h4
      have h5' : ¬ (b.length : Int) > 4096 - off := h5
      simp only [UpY.writeE, fileE_some hy, eq_of_beq h2]; simp [h3', h4', h5']
    · have h6 : (b.length : Int) = 0 := by simpa using h6
      exact List.eq_nil_of_length_eq_zero (by omega)
    · have hb : b ≠ [] := fun e => by subst e; simp at h6
      have e0 : Y.writeE ref off b = 0 := by
        have h3' : ¬ off < 0 := h3
        have h4' : ¬ off > 4096 := h4
        have h5' : ¬ (b.length : Int) > 4096 - off := h5
        simp only [UpY.writeE, fileE_some hy, eq_of_beq h2]; simp [h3', h4', h5']
      simp only [Bool.false_eq_true, if_false]
      have hs : ((sizeL m.data (max (m.data.length : Int) (off + b.length))).length : Int) = max (m.data.length : Int) (off + b.length) := by rw [sizeL_len]; omega
      refine ⟨_, m, hg, rfl, fun _ => ⟨_, m, hg, rfl, fun _ _ _ => ⟨by unfold inK; omega, by omega, by omega, _, m, hg, rfl, fun vd => ⟨rfl, trivial, ?_, ?_, ?_, off, rfl, ?_, ?_, go e0 hb _ ⟨rfl, rfl, rfl, rfl, fun vd' => hr.setN (f := fun n => n.setD (writeL n.2.2.2.2.1 off b)) (fun _ => rfl) hg hy ⟨hN.kind, hN.mode, hN.uid, hN.gid, ?_, hN.target, hN.xattrs, hN.opq, hN.ents, hN.links, hN.up⟩⟩⟩⟩⟩⟩
      · show (0 : Int) ≤ off; omega
      · show off ≤ ((sizeL m.data _).length : Int); rw [hs]; omega
      · show ((sizeL m.data _).length : Int) ≤ ((sizeL m.data _).length : Int); omega
      · omega
      · rw [hs]; omega
      · simp only [NoD.setD, writeL]; rw [hN.data]
    · have h2 : ¬ y.2.2.1 = 2 := by simpa using h2
      simp only [UpY.writeE, fileE_some hy]; simp [h1, h2]
def c_writeo : Ct
  | [.v (.c (.p 0 0)), .v (.c (.k (.int .i64 ref))), .v (.c (.k (.int .i64 off))), .v (.c (.o 1))], [.ab (.upr ⟨84, 81, 3, 9⟩ Y), .sl 5 .u8 b], Q => Y.Ok ∧ Q (.c (.k (.int .i64 (Y.writeE ref off b)))) [.ab (.upr ⟨84, 81, 3, 9⟩ (Y.writeY ref off b)), .sl 5 .u8 b]
  | _, _, _ => False
theorem w_writeo : ∀ args H Q, c_writeo args H Q → Wp Inv Tryz.prog 16 args H Q := by
  intro args H Q h
  unfold c_writeo at h
  split at h
  · rename_i ref off Y b
    refine Wp.uprO fun mb L hr => w_writeo0 _ _ _ ?_
    unfold c_writeo0
    exact ⟨Y, ⟨rfl, rfl, rfl, hr⟩, h.1, fun o ho => ⟨o, _, _, rfl, ho, h.2⟩⟩
  · exact h.elim
def c_writeb : Ct := fun args H Q => match args, H with
  | [_, _, _, .v (.c (.o _))], _ => c_writeo args H Q
  | _, _ => c_write args H Q
theorem w_writeb : ∀ args H Q, c_writeb args H Q → Wp Inv Tryz.prog 16 args H Q := by
  intro args H Q h
  unfold c_writeb at h
  split at h
  · exact w_writeo _ _ _ h
  · exact w_write _ _ _ h
end Go.Proofs

namespace Go.Proofs
open Go Go.Lm Go.RowKit
set_option maxRecDepth 1000000
def c_root0 : Ct
  | [.v (.c (.p 0 0))], [.up ⟨84, 81, 3, 9⟩ q1 q2 mb nx L], Q => ∃ Y : UpY, (q1 = Y.q1 ∧ q2 = Y.q2 ∧ nx = Y.nx ∧ RepY L Y) ∧ (True) ∧ ∀ o, UpIs ⟨84, 81, 3, 9⟩ (Y) o → Q (.c (.k (.int .i64 1))) [o]
  | _, _, _ => False
noncomputable def XW0b74 : Vx := { P := Tryz.prog, ct := [(16, c_writeb), (26, c_rsame17), (72, c_rsame11), (100, c_rsame10), (10, c_rnew), (99, c_fxattrs), (53, c_fover), (52, c_fused), (86, c_flist), (49, c_fread), (95, c_fstat), (205, c_flook), (102, c_fopaque), (98, c_ftarget), (48, c_fsetopq), (46, c_fsetx), (44, c_fsetattr), (42, c_fresize), (40, c_fwrite), (39, c_fmove), (37, c_fremove), (35, c_fmake), (36, c_flink), (82, c_rmay), (122, c_validR), (92, c_mayR), (94, c_xattrsR), (124, c_nul), (96, c_list), (126, c_sorted), (127, c_keys), (9, c_newu), (31, c_over), (21, c_used), (17, c_remove), (59, c_let), (59, c_letz), (38, c_move), (32, c_link), (23, c_make), (25, c_xattrs), (24, c_read), (41, c_resize), (45, c_setx), (47, c_setopq), (43, c_setattr), (88, c_within), (68, c_fresh), (69, c_good), (93, c_mayx), (113, c_bindex), (125, c_sindex), (70, c_attrs), (114, c_sclone), (112, c_valid), (55, c_bclone), (57, c_sized), (91, c_may), (101, c_opq), (97, c_target), (22, c_look), (33, c_stat), (67, c_entry), (56, c_file), (58, c_dir), (71, c_at)], ty := tyTab, hold := [] }
theorem XW0b74_ok : CtOk Inv Tryz.prog XW0b74.ct := CtOk.cons w_writeb (CtOk.cons w_rsame17 (CtOk.cons w_rsame11 (CtOk.cons w_rsame10 (CtOk.cons w_rnew (CtOk.cons w_fxattrs (CtOk.cons w_fover (CtOk.cons w_fused (CtOk.cons w_flist (CtOk.cons w_fread (CtOk.cons w_fstat (CtOk.cons w_flook (CtOk.cons w_fopaque (CtOk.cons w_ftarget (CtOk.cons w_fsetopq (CtOk.cons w_fsetx (CtOk.cons w_fsetattr (CtOk.cons w_fresize (CtOk.cons w_fwrite (CtOk.cons w_fmove (CtOk.cons w_fremove (CtOk.cons w_fmake (CtOk.cons w_flink (CtOk.cons w_rmay (CtOk.cons w_validR (CtOk.cons w_mayR (CtOk.cons w_xattrsR (CtOk.cons w_nul (CtOk.cons w_list (CtOk.cons w_sorted (CtOk.cons w_keys (CtOk.cons w_newu (CtOk.cons w_over (CtOk.cons w_used (CtOk.cons w_remove (CtOk.cons w_let (CtOk.cons w_letz (CtOk.cons w_move (CtOk.cons w_link (CtOk.cons w_make (CtOk.cons w_xattrs (CtOk.cons w_read (CtOk.cons w_resize (CtOk.cons w_setx (CtOk.cons w_setopq (CtOk.cons w_setattr (CtOk.cons w_within (CtOk.cons w_fresh (CtOk.cons w_good (CtOk.cons w_mayx (CtOk.cons w_bindex (CtOk.cons w_sindex (CtOk.cons w_attrs (CtOk.cons w_sclone (CtOk.cons w_valid (CtOk.cons w_bclone (CtOk.cons w_sized (CtOk.cons w_may (CtOk.cons w_opq (CtOk.cons w_target (CtOk.cons w_look (CtOk.cons w_stat (CtOk.cons w_entry (CtOk.cons w_file (CtOk.cons w_dir (CtOk.cons w_at (CtOk.nil _ _))))))))))))))))))))))))))))))))))))))))))))))))))))))))))))))))))
def vc_root0 : (Int) → (Int) → (Nat) → (Int) → (List (Int × LNode)) → (SV → List HO → Prop) → Prop :=
 fun q1 q2 mb nx L Q => Q (.v (.c (.k (.int .i64 1)))) [.up ⟨84, 81, 3, 9⟩ q1 q2 mb nx L]
theorem vc_root0_eq (q1 : Int) (q2 : Int) (mb : Nat) (nx : Int) (L : List (Int × LNode)) (Q : SV → List HO → Prop) : vFun XW0b74 ⟨[], []⟩ Tryz.f51 [.v (.c (.p 0 0))] [.up ⟨84, 81, 3, 9⟩ q1 q2 mb nx L] Q = vc_root0 q1 q2 mb nx L Q := by kernel_rfl
theorem w_root0 : ∀ args H Q, c_root0 args H Q → Wp Inv Tryz.prog 51 args H Q := by
  intro args H Q h
  unfold c_root0 at h
  split at h
  rotate_left
  · exact h.elim
  rename_i q1 q2 mb nx L
  refine Wp.enter (X := XW0b74) XW0b74_ok ⟨[], []⟩ (fn := Tryz.f51) (by kernel_rfl) ?_
  have hv := vc_root0_eq q1 q2 mb nx L Q
  rw [show vFun _ _ _ _ _ _ = _ from hv]
  unfold vc_root0
  obtain ⟨Y, ⟨rfl, rfl, rfl, hr⟩, hp, hq⟩ := h
  exact hq _ ⟨rfl, rfl, rfl, rfl, hr⟩
def c_root : Ct
  | [.v (.c (.p 0 0))], [.ab (.upr ⟨84, 81, 3, 9⟩ Y)], Q => (True) ∧ Q (.c (.k (.int .i64 1))) [.ab (.upr ⟨84, 81, 3, 9⟩ (Y))]
  | _, _, _ => False
theorem w_root : ∀ args H Q, c_root args H Q → Wp Inv Tryz.prog 51 args H Q := by
  intro args H Q h
  unfold c_root at h
  split at h
  · rename_i Y
    refine Wp.uprO fun mb L hr => w_root0 _ _ _ ?_
    unfold c_root0
    exact ⟨Y, ⟨rfl, rfl, rfl, hr⟩, h.1, fun o ho => ⟨o, _, _, rfl, ho, h.2⟩⟩
  · exact h.elim
end Go.Proofs

namespace Go.Proofs
open Go Go.Lm Go.RowKit
set_option maxRecDepth 1000000
def c_kind : Ct
  | [.v (.c (.k (.int .i64 c))), .v (.c (.k (.int .i64 n)))], [], Q => n ≠ 0 ∧ Q (.int (kindI c n)) []
  | _, _, _ => False
noncomputable def XW175 : Vx := { P := Tryz.prog, ct := (51, c_root) :: XW0b74.ct, ty := tyTab, hold := [] }
theorem XW175_ok : CtOk Inv Tryz.prog XW175.ct := CtOk.cons w_root (XW0b74_ok)
def vc_kind : (Int) → (Int) → (SV → List HO → Prop) → Prop :=
 fun c n Q => inK .i64 c → inK .i64 n → br (decide (c < 0)) (inK .i64 (c + 1) ∧ inK .i64 ((0 : Int) - (c + 1)) ∧ n ≠ 0 ∧ (inK .i64 (Int.tmod ((0 : Int) - (c + 1)) n) → Q (.v (.c (.k (.int .i64 (Int.tmod ((0 : Int) - (c + 1)) n))))) [])) (n ≠ 
 0 ∧ (inK .i64 (Int.tmod c n) → Q (.v (.c (.k (.int .i64 (Int.tmod c n))))) []))
theorem vc_kind_eq (c : Int) (n : Int) (Q : SV → List HO → Prop) : vFun XW175 ⟨[], []⟩ Tryz.f11 [.int c, .int n] [] Q = vc_kind c n Q := by kernel_rfl
theorem w_kind : ∀ args H Q, c_kind args H Q → Wp Inv Tryz.prog 11 args H Q := by
  intro args H Q h
  unfold c_kind at h
  split at h
  rotate_left
  · exact h.elim
  rename_i c n
  refine Wp.enter (X := XW175) XW175_ok ⟨[], []⟩ (fn := Tryz.f11) (by kernel_rfl) ?_
  have hv := vc_kind_eq c n Q
  rw [show vFun _ _ _ _ _ _ = _ from hv]
  unfold vc_kind
  obtain ⟨hn, h⟩ := h
  intro h1 h2
  unfold kindI at h
  refine br_of (fun hc => ?_) (fun hc => ?_)
  · have hc := of_decide_eq_true hc
    rw [if_pos hc] at h
    exact ⟨by unfold inK at *; omega, by unfold inK at *; omega, hn, fun _ => h⟩
  · rw [if_neg (of_decide_eq_false hc)] at h
    exact ⟨hn, fun _ => h⟩
def c_few : Ct
  | [.v (.agg cx)], [], Q => (match (opTy).of cx with
    | some (x, []) => Q (.v (.agg (opTy.cells (clipO x)))) []
    | _ => False)
  | _, _, _ => False
noncomputable def XW176 : Vx := { P := Tryz.prog, ct := (11, c_kind) :: XW175.ct, ty := tyTab, hold := [] }
theorem XW176_ok : CtOk Inv Tryz.prog XW176.ct := CtOk.cons w_kind (XW175_ok)
def vc_few : ((opTy).den) → (SV → List HO → Prop) → Prop :=
 fun x Q => inK .i64 x.1 → inK .i64 x.2.1 → inK .i64 x.2.2.1 → inK .i64 x.2.2.2.1 → inK .i64 x.2.2.2.2.1 → ByteArray.size x.2.2.2.2.2.1 ≤ 9223372036854775807 → ByteArray.size x.2.2.2.2.2.2.1 ≤ 9223372036854775807 → List.length 
 x.2.2.2.2.2.2.2.1.1 ≤ 9223372036854775807 → inK .i64 x.2.2.2.2.2.2.2.1.2.1 → inK .i64 x.2.2.2.2.2.2.2.1.2.2.1 → inK .i64 x.2.2.2.2.2.2.2.1.2.2.2.1.1 → inK .i64 x.2.2.2.2.2.2.2.1.2.2.2.1.2.1 → inK .i64 x.2.2.2.2.2.2.2.1.2.2.2.1.2.2.1 → 
 List.length x.2.2.2.2.2.2.2.1.2.2.2.2.1 ≤ 9223372036854775807 → ByteArray.size x.2.2.2.2.2.2.2.1.2.2.2.2.2.1 ≤ 9223372036854775807 → List.length x.2.2.2.2.2.2.2.1.2.2.2.2.2.2.1 ≤ 9223372036854775807 → List.length x.2.2.2.2.2.2.2.2.1 ≤ 
 9223372036854775807 → List.length x.2.2.2.2.2.2.2.2.1 ≤ 9223372036854775807 → br (decide ((↑(List.length x.2.2.2.2.2.2.2.2.1) : Int) > (300 : Int))) (0 ≤ boundV none 0 ∧ boundV none 0 ≤ boundV (some (300 : Int)) (↑(List.length 
 x.2.2.2.2.2.2.2.2.1) : Int) ∧ boundV (some (300 : Int)) (↑(List.length x.2.2.2.2.2.2.2.2.1) : Int) ≤ (↑(List.length x.2.2.2.2.2.2.2.2.1) : Int) ∧ (List.length x.2.2.2.2.2.2.2.1.2.2.2.2.1 ≤ 9223372036854775807 → br (decide ((↑(List.length 
 x.2.2.2.2.2.2.2.1.2.2.2.2.1) : Int) > (5000 : Int))) (0 ≤ boundV none 0 ∧ boundV none 0 ≤ boundV (some (5000 : Int)) (↑(List.length x.2.2.2.2.2.2.2.1.2.2.2.2.1) : Int) ∧ boundV (some (5000 : Int)) (↑(List.length x.2.2.2.2.2.2.2.1.2.2.2.2.1) 
 : Int) ≤ (↑(List.length x.2.2.2.2.2.2.2.1.2.2.2.2.1) : Int) ∧ (List.length x.2.2.2.2.2.2.2.1.2.2.2.2.2.2.1 ≤ 9223372036854775807 → br (decide ((↑(List.length x.2.2.2.2.2.2.2.1.2.2.2.2.2.2.1) : Int) > (10 : Int))) (0 ≤ boundV none 0 ∧ boundV 
 none 0 ≤ boundV (some (10 : Int)) (↑(List.length x.2.2.2.2.2.2.2.1.2.2.2.2.2.2.1) : Int) ∧ boundV (some (10 : Int)) (↑(List.length x.2.2.2.2.2.2.2.1.2.2.2.2.2.2.1) : Int) ≤ (↑(List.length x.2.2.2.2.2.2.2.1.2.2.2.2.2.2.1) : Int) ∧ Q (SV.v 
 (S1.agg [.k (.int .i64 x.1), .k (.int .i64 x.2.1), .k (.int .i64 x.2.2.1), .k (.int .i64 x.2.2.2.1), .k (.int .i64 x.2.2.2.2.1), .k (.string x.2.2.2.2.2.1), .k (.string x.2.2.2.2.2.2.1), Cl.d Ty.str x.2.2.2.2.2.2.2.1.1, .k (.int .i64 
 x.2.2.2.2.2.2.2.1.2.1), .k (.int .i64 x.2.2.2.2.2.2.2.1.2.2.1), .k (.int .i64 x.2.2.2.2.2.2.2.1.2.2.2.1.1), .k (.int .i64 x.2.2.2.2.2.2.2.1.2.2.2.1.2.1), .k (.int .i64 x.2.2.2.2.2.2.2.1.2.2.2.1.2.2.1), Cl.d Ty.u8 (List.take (Int.toNat 
 (boundV (some (5000 : Int)) (↑(List.length x.2.2.2.2.2.2.2.1.2.2.2.2.1) : Int)) - 0) (List.drop 0 x.2.2.2.2.2.2.2.1.2.2.2.2.1)), .k (.string x.2.2.2.2.2.2.2.1.2.2.2.2.2.1), Cl.d xaTy (List.take (Int.toNat (boundV (some (10 : Int)) 
 (↑(List.length x.2.2.2.2.2.2.2.1.2.2.2.2.2.2.1) : Int)) - 0) (List.drop 0 x.2.2.2.2.2.2.2.1.2.2.2.2.2.2.1)), .k (.bool x.2.2.2.2.2.2.2.1.2.2.2.2.2.2.2.1), Cl.d Ty.u8 (List.take (Int.toNat (boundV (some (300 : Int)) (↑(List.length 
 x.2.2.2.2.2.2.2.2.1) : Int)) - 0) (List.drop 0 x.2.2.2.2.2.2.2.2.1))])) []) (Q (SV.v (S1.agg [.k (.int .i64 x.1), .k (.int .i64 x.2.1), .k (.int .i64 x.2.2.1), .k (.int .i64 x.2.2.2.1), .k (.int .i64 x.2.2.2.2.1), .k (.string 
 x.2.2.2.2.2.1), .k (.string x.2.2.2.2.2.2.1), Cl.d Ty.str x.2.2.2.2.2.2.2.1.1, .k (.int .i64 x.2.2.2.2.2.2.2.1.2.1), .k (.int .i64 x.2.2.2.2.2.2.2.1.2.2.1), .k (.int .i64 x.2.2.2.2.2.2.2.1.2.2.2.1.1), .k (.int .i64 
 x.2.2.2.2.2.2.2.1.2.2.2.1.2.1), .k (.int .i64 x.2.2.2.2.2.2.2.1.2.2.2.1.2.2.1), Cl.d Ty.u8 (List.take (Int.toNat (boundV (some (5000 : Int)) (↑(List.length x.2.2.2.2.2.2.2.1.2.2.2.2.1) : Int)) - 0) (List.drop 0 
 x.2.2.2.2.2.2.2.1.2.2.2.2.1)), .k (.string x.2.2.2.2.2.2.2.1.2.2.2.2.2.1), Cl.d xaTy x.2.2.2.2.2.2.2.1.2.2.2.2.2.2.1, .k (.bool x.2.2.2.2.2.2.2.1.2.2.2.2.2.2.2.1), Cl.d Ty.u8 (List.take (Int.toNat (boundV (some (300 : Int)) (↑(List.length 
 x.2.2.2.2.2.2.2.2.1) : Int)) - 0) (List.drop 0 x.2.2.2.2.2.2.2.2.1))])) []))) (List.length x.2.2.2.2.2.2.2.1.2.2.2.2.2.2.1 ≤ 9223372036854775807 → br (decide ((↑(List.length x.2.2.2.2.2.2.2.1.2.2.2.2.2.2.1) : Int) > (10 : Int))) (0 ≤ boundV 
 none 0 ∧ boundV none 0 ≤ boundV (some (10 : Int)) (↑(List.length x.2.2.2.2.2.2.2.1.2.2.2.2.2.2.1) : Int) ∧ boundV (some (10 : Int)) (↑(List.length x.2.2.2.2.2.2.2.1.2.2.2.2.2.2.1) : Int) ≤ (↑(List.length x.2.2.2.2.2.2.2.1.2.2.2.2.2.2.1) : 
 Int) ∧ Q (SV.v (S1.agg [.k (.int .i64 x.1), .k (.int .i64 x.2.1), .k (.int .i64 x.2.2.1), .k (.int .i64 x.2.2.2.1), .k (.int .i64 x.2.2.2.2.1), .k (.string x.2.2.2.2.2.1), .k (.string x.2.2.2.2.2.2.1), Cl.d Ty.str x.2.2.2.2.2.2.2.1.1, .k 
 (.int .i64 x.2.2.2.2.2.2.2.1.2.1), .k (.int .i64 x.2.2.2.2.2.2.2.1.2.2.1), .k (.int .i64 x.2.2.2.2.2.2.2.1.2.2.2.1.1), .k (.int .i64 x.2.2.2.2.2.2.2.1.2.2.2.1.2.1), .k (.int .i64 x.2.2.2.2.2.2.2.1.2.2.2.1.2.2.1), Cl.d Ty.u8 
 x.2.2.2.2.2.2.2.1.2.2.2.2.1, .k (.string x.2.2.2.2.2.2.2.1.2.2.2.2.2.1), Cl.d xaTy (List.take (Int.toNat (boundV (some (10 : Int)) (↑(List.length x.2.2.2.2.2.2.2.1.2.2.2.2.2.2.1) : Int)) - 0) (List.drop 0 x.2.2.2.2.2.2.2.1.2.2.2.2.2.2.1)), 
 .k (.bool x.2.2.2.2.2.2.2.1.2.2.2.2.2.2.2.1), Cl.d Ty.u8 (List.take (Int.toNat (boundV (some (300 : Int)) (↑(List.length x.2.2.2.2.2.2.2.2.1) : Int)) - 0) (List.drop 0 x.2.2.2.2.2.2.2.2.1))])) []) (Q (SV.v (S1.agg [.k (.int .i64 x.1), .k 
 (.int .i64 x.2.1), .k (.int .i64 x.2.2.1), .k (.int .i64 x.2.2.2.1), .k (.int .i64 x.2.2.2.2.1), .k (.string x.2.2.2.2.2.1), .k (.string x.2.2.2.2.2.2.1), Cl.d Ty.str x.2.2.2.2.2.2.2.1.1, .k (.int .i64 x.2.2.2.2.2.2.2.1.2.1), .k (.int .i64 
 x.2.2.2.2.2.2.2.1.2.2.1), .k (.int .i64 x.2.2.2.2.2.2.2.1.2.2.2.1.1), .k (.int .i64 x.2.2.2.2.2.2.2.1.2.2.2.1.2.1), .k (.int .i64 x.2.2.2.2.2.2.2.1.2.2.2.1.2.2.1), Cl.d Ty.u8 x.2.2.2.2.2.2.2.1.2.2.2.2.1, .k (.string 
 x.2.2.2.2.2.2.2.1.2.2.2.2.2.1), Cl.d xaTy x.2.2.2.2.2.2.2.1.2.2.2.2.2.2.1, .k (.bool x.2.2.2.2.2.2.2.1.2.2.2.2.2.2.2.1), Cl.d Ty.u8 (List.take (Int.toNat (boundV (some (300 : Int)) (↑(List.length x.2.2.2.2.2.2.2.2.1) : Int)) - 0) (List.drop 
 0 x.2.2.2.2.2.2.2.2.1))])) [])))) (List.length x.2.2.2.2.2.2.2.1.2.2.2.2.1 ≤ 9223372036854775807 → br (decide ((↑(List.length x.2.2.2.2.2.2.2.1.2.2.2.2.1) : Int) > (5000 : Int))) (0 ≤ boundV none 0 ∧ boundV none 0 ≤ boundV (some (5000 : 
 Int)) (↑(List.length x.2.2.2.2.2.2.2.1.2.2.2.2.1) : Int) ∧ boundV (some (5000 : Int)) (↑(List.length x.2.2.2.2.2.2.2.1.2.2.2.2.1) : Int) ≤ (↑(List.length x.2.2.2.2.2.2.2.1.2.2.2.2.1) : Int) ∧ (List.length x.2.2.2.2.2.2.2.1.2.2.2.2.2.2.1 ≤ 
 9223372036854775807 → br (decide ((↑(List.length x.2.2.2.2.2.2.2.1.2.2.2.2.2.2.1) : Int) > (10 : Int))) (0 ≤ boundV none 0 ∧ boundV none 0 ≤ boundV (some (10 : Int)) (↑(List.length x.2.2.2.2.2.2.2.1.2.2.2.2.2.2.1) : Int) ∧ boundV (some (10 
 : Int)) (↑(List.length x.2.2.2.2.2.2.2.1.2.2.2.2.2.2.1) : Int) ≤ (↑(List.length x.2.2.2.2.2.2.2.1.2.2.2.2.2.2.1) : Int) ∧ Q (SV.v (S1.agg [.k (.int .i64 x.1), .k (.int .i64 x.2.1), .k (.int .i64 x.2.2.1), .k (.int .i64 x.2.2.2.1), .k (.int 
 .i64 x.2.2.2.2.1), .k (.string x.2.2.2.2.2.1), .k (.string x.2.2.2.2.2.2.1), Cl.d Ty.str x.2.2.2.2.2.2.2.1.1, .k (.int .i64 x.2.2.2.2.2.2.2.1.2.1), .k (.int .i64 x.2.2.2.2.2.2.2.1.2.2.1), .k (.int .i64 x.2.2.2.2.2.2.2.1.2.2.2.1.1), .k (.int 
 .i64 x.2.2.2.2.2.2.2.1.2.2.2.1.2.1), .k (.int .i64 x.2.2.2.2.2.2.2.1.2.2.2.1.2.2.1), Cl.d Ty.u8 (List.take (Int.toNat (boundV (some (5000 : Int)) (↑(List.length x.2.2.2.2.2.2.2.1.2.2.2.2.1) : Int)) - 0) (List.drop 0 
 x.2.2.2.2.2.2.2.1.2.2.2.2.1)), .k (.string x.2.2.2.2.2.2.2.1.2.2.2.2.2.1), Cl.d xaTy (List.take (Int.toNat (boundV (some (10 : Int)) (↑(List.length x.2.2.2.2.2.2.2.1.2.2.2.2.2.2.1) : Int)) - 0) (List.drop 0 
 x.2.2.2.2.2.2.2.1.2.2.2.2.2.2.1)), .k (.bool x.2.2.2.2.2.2.2.1.2.2.2.2.2.2.2.1), Cl.d Ty.u8 x.2.2.2.2.2.2.2.2.1])) []) (Q (SV.v (S1.agg [.k (.int .i64 x.1), .k (.int .i64 x.2.1), .k (.int .i64 x.2.2.1), .k (.int .i64 x.2.2.2.1), .k (.int 
 .i64 x.2.2.2.2.1), .k (.string x.2.2.2.2.2.1), .k (.string x.2.2.2.2.2.2.1), Cl.d Ty.str x.2.2.2.2.2.2.2.1.1, .k (.int .i64 x.2.2.2.2.2.2.2.1.2.1), .k (.int .i64 x.2.2.2.2.2.2.2.1.2.2.1), .k (.int .i64 x.2.2.2.2.2.2.2.1.2.2.2.1.1), .k (.int 
 .i64 x.2.2.2.2.2.2.2.1.2.2.2.1.2.1), .k (.int .i64 x.2.2.2.2.2.2.2.1.2.2.2.1.2.2.1), Cl.d Ty.u8 (List.take (Int.toNat (boundV (some (5000 : Int)) (↑(List.length x.2.2.2.2.2.2.2.1.2.2.2.2.1) : Int)) - 0) (List.drop 0 
 x.2.2.2.2.2.2.2.1.2.2.2.2.1)), .k (.string x.2.2.2.2.2.2.2.1.2.2.2.2.2.1), Cl.d xaTy x.2.2.2.2.2.2.2.1.2.2.2.2.2.2.1, .k (.bool x.2.2.2.2.2.2.2.1.2.2.2.2.2.2.2.1), Cl.d Ty.u8 x.2.2.2.2.2.2.2.2.1])) []))) (List.length 
 x.2.2.2.2.2.2.2.1.2.2.2.2.2.2.1 ≤ 9223372036854775807 → br (decide ((↑(List.length x.2.2.2.2.2.2.2.1.2.2.2.2.2.2.1) : Int) > (10 : Int))) (0 ≤ boundV none 0 ∧ boundV none 0 ≤ boundV (some (10 : Int)) (↑(List.length 
 x.2.2.2.2.2.2.2.1.2.2.2.2.2.2.1) : Int) ∧ boundV (some (10 : Int)) (↑(List.length x.2.2.2.2.2.2.2.1.2.2.2.2.2.2.1) : Int) ≤ (↑(List.length x.2.2.2.2.2.2.2.1.2.2.2.2.2.2.1) : Int) ∧ Q (SV.v (S1.agg [.k (.int .i64 x.1), .k (.int .i64 x.2.1), 
 .k (.int .i64 x.2.2.1), .k (.int .i64 x.2.2.2.1), .k (.int .i64 x.2.2.2.2.1), .k (.string x.2.2.2.2.2.1), .k (.string x.2.2.2.2.2.2.1), Cl.d Ty.str x.2.2.2.2.2.2.2.1.1, .k (.int .i64 x.2.2.2.2.2.2.2.1.2.1), .k (.int .i64 
 x.2.2.2.2.2.2.2.1.2.2.1), .k (.int .i64 x.2.2.2.2.2.2.2.1.2.2.2.1.1), .k (.int .i64 x.2.2.2.2.2.2.2.1.2.2.2.1.2.1), .k (.int .i64 x.2.2.2.2.2.2.2.1.2.2.2.1.2.2.1), Cl.d Ty.u8 x.2.2.2.2.2.2.2.1.2.2.2.2.1, .k (.string 
 x.2.2.2.2.2.2.2.1.2.2.2.2.2.1), Cl.d xaTy (List.take (Int.toNat (boundV (some (10 : Int)) (↑(List.length x.2.2.2.2.2.2.2.1.2.2.2.2.2.2.1) : Int)) - 0) (List.drop 0 x.2.2.2.2.2.2.2.1.2.2.2.2.2.2.1)), .k (.bool 
 x.2.2.2.2.2.2.2.1.2.2.2.2.2.2.2.1), Cl.d Ty.u8 x.2.2.2.2.2.2.2.2.1])) []) (Q (SV.v (S1.agg [.k (.int .i64 x.1), .k (.int .i64 x.2.1), .k (.int .i64 x.2.2.1), .k (.int .i64 x.2.2.2.1), .k (.int .i64 x.2.2.2.2.1), .k (.string x.2.2.2.2.2.1), 
 .k (.string x.2.2.2.2.2.2.1), Cl.d Ty.str x.2.2.2.2.2.2.2.1.1, .k (.int .i64 x.2.2.2.2.2.2.2.1.2.1), .k (.int .i64 x.2.2.2.2.2.2.2.1.2.2.1), .k (.int .i64 x.2.2.2.2.2.2.2.1.2.2.2.1.1), .k (.int .i64 x.2.2.2.2.2.2.2.1.2.2.2.1.2.1), .k (.int 
 .i64 x.2.2.2.2.2.2.2.1.2.2.2.1.2.2.1), Cl.d Ty.u8 x.2.2.2.2.2.2.2.1.2.2.2.2.1, .k (.string x.2.2.2.2.2.2.2.1.2.2.2.2.2.1), Cl.d xaTy x.2.2.2.2.2.2.2.1.2.2.2.2.2.2.1, .k (.bool x.2.2.2.2.2.2.2.1.2.2.2.2.2.2.2.1), Cl.d Ty.u8 
 x.2.2.2.2.2.2.2.2.1])) [])))
theorem vc_few_eq (x : (opTy).den) (Q : SV → List HO → Prop) : vFun XW176 ⟨[], []⟩ Tryz.f34 [.v (.agg (Ty.cells opTy x))] [] Q = vc_few x Q := by kernel_rfl
theorem w_few : ∀ args H Q, c_few args H Q → Wp Inv Tryz.prog 34 args H Q := by
  intro args H Q h
  unfold c_few at h
  split at h
  rotate_left
  · exact h.elim
  rename_i cx
  split at h
  rotate_left
  · exact h.elim
  rename_i x hx
  refine Wp.said (args' := [.v (.agg (Ty.cells opTy x))]) (fun E g => RelVs.cons1 (of_row hx) (fun _ h => h)) ?_
  clear hx
  refine Wp.enter (X := XW176) XW176_ok ⟨[], []⟩ (fn := Tryz.f34) (by kernel_rfl) ?_
  have hv := vc_few_eq x Q
  rw [show vFun _ _ _ _ _ _ = _ from hv]
  unfold vc_few
  clear hv
  have fin : ∀ (d1 : List UInt8) (d2 : List UInt8) (d3 : List XaD), d1 = x.2.2.2.2.2.2.2.2.1.take 300 → d2 = x.2.2.2.2.2.2.2.1.2.2.2.2.1.take 5000 → d3 = x.2.2.2.2.2.2.2.1.2.2.2.2.2.2.1.take 10 → Q (.v (.agg (opTy.cells (x.1, x.2.1, x.2.2.1, x.2.2.2.1, x.2.2.2.2.1, x.2.2.2.2.2.1, x.2.2.2.2.2.2.1, (x.2.2.2.2.2.2.2.1.1, x.2.2.2.2.2.2.2.1.2.1, x.2.2.2.2.2.2.2.1.2.2.1, x.2.2.2.2.2.2.2.1.2.2.2.1, d2, x.2.2.2.2.2.2.2.1.2.2.2.2.2.1, d3, x.2.2.2.2.2.2.2.1.2.2.2.2.2.2.2), d1, ())))) [] := fun d1 d2 d3 e1 e2 e3 => by subst e1 e2 e3; exact h
  clear h
  intros
  generalize x.2.2.2.2.2.2.2.2.1 = d1 at fin ⊢
  generalize x.2.2.2.2.2.2.2.1.2.2.2.2.1 = d2 at fin ⊢
  generalize x.2.2.2.2.2.2.2.1.2.2.2.2.2.2.1 = d3 at fin ⊢
  refine br_of (fun h0 => ?_) (fun h0 => ?_)
  · replace h0 := of_decide_eq_true h0
    refine ⟨by (first | exact True.intro | rfl | omega | (unfold inK; omega) | (simp only [boundV]; omega) | (simp only [boundV, List.length_append, List.length_take, List.length_drop, List.length_nil]; omega) | (simp only [boundV, List.length_append, List.length_take, List.length_drop, List.length_cons, List.length_nil]; omega)), by (first | exact True.intro | rfl | omega | (unfold inK; omega) | (simp only [boundV]; omega) | (simp only [boundV, List.length_append, List.length_take, List.length_drop, List.length_nil]; omega) | (simp only [boundV, List.length_append, List.length_take, List.length_drop, List.length_cons, List.length_nil]; omega)), by (first | exact True.intro | rfl | omega | (unfold inK; omega) | (simp only [boundV]; omega) | (simp only [boundV, List.length_append, List.length_take, List.length_drop, List.length_nil]; omega) | (simp only [boundV, List.length_append, List.length_take, List.length_drop, List.length_cons, List.length_nil]; omega)), ?_⟩
    intro _
    refine br_of (fun h1 => ?_) (fun h1 => ?_)
    · replace h1 := of_decide_eq_true h1
      refine ⟨by (first | exact True.intro | rfl | omega | (unfold inK; omega) | (simp only [boundV]; omega) | (simp only [boundV, List.length_append, List.length_take, List.length_drop, List.length_nil]; omega) | (simp only [boundV, List.length_append, List.length_take, List.length_drop, List.length_cons, List.length_nil]; omega)), by (first | exact True.intro | rfl | omega | (unfold inK; omega) | (simp only [boundV]; omega) | (simp only [boundV, List.length_append, List.length_take, List.length_drop, List.length_nil]; omega) | (simp only [boundV, List.length_append, List.length_take, List.length_drop, List.length_cons, List.length_nil]; omega)), by (first | exact True.intro | rfl | omega | (unfold inK; omega) | (simp only [boundV]; omega) | (simp only [boundV, List.length_append, List.length_take, List.length_drop, List.length_nil]; omega) | (simp only [boundV, List.length_append, List.length_take, List.length_drop, List.length_cons, List.length_nil]; omega)), ?_⟩
      intro _
      refine br_of (fun h2 => ?_) (fun h2 => ?_)
      · replace h2 := of_decide_eq_true h2
        refine ⟨by (first | exact True.intro | rfl | omega | (unfold inK; omega) | (simp only [boundV]; omega) | (simp only [boundV, List.length_append, List.length_take, List.length_drop, List.length_nil]; omega) | (simp only [boundV, List.length_append, List.length_take, List.length_drop, List.length_cons, List.length_nil]; omega)), by (first | exact True.intro | rfl | omega | (unfold inK; omega) | (simp only [boundV]; omega) | (simp only [boundV, List.length_append, List.length_take, List.length_drop, List.length_nil]; omega) | (simp only [boundV, List.length_append, List.length_take, List.length_drop, List.length_cons, List.length_nil]; omega)), by (first | exact True.intro | rfl | omega | (unfold inK; omega) | (simp only [boundV]; omega) | (simp only [boundV, List.length_append, List.length_take, List.length_drop, List.length_nil]; omega) | (simp only [boundV, List.length_append, List.length_take, List.length_drop, List.length_cons, List.length_nil]; omega)), ?_⟩
        exact fin (List.take ((boundV (some 300) (List.length d1 : Int)).toNat - 0) (List.drop 0 d1)) (List.take ((boundV (some 5000) (List.length d2 : Int)).toNat - 0) (List.drop 0 d2)) (List.take ((boundV (some 10) (List.length d3 : Int)).toNat - 0) (List.drop 0 d3)) rfl rfl rfl
      · replace h2 := of_decide_eq_false h2
        exact fin (List.take ((boundV (some 300) (List.length d1 : Int)).toNat - 0) (List.drop 0 d1)) (List.take ((boundV (some 5000) (List.length d2 : Int)).toNat - 0) (List.drop 0 d2)) d3 rfl rfl (List.take_of_length_le (by omega)).symm
    · replace h1 := of_decide_eq_false h1
      intro _
      refine br_of (fun h2 => ?_) (fun h2 => ?_)
      · replace h2 := of_decide_eq_true h2
        refine ⟨by (first | exact True.intro | rfl | omega | (unfold inK; omega) | (simp only [boundV]; omega) | (simp only [boundV, List.length_append, List.length_take, List.length_drop, List.length_nil]; omega) | (simp only [boundV, List.length_append, List.length_take, List.length_drop, List.length_cons, List.length_nil]; omega)), by (first | exact True.intro | rfl | omega | (unfold inK; omega) | (simp only [boundV]; omega) | (simp only [boundV, List.length_append, List.length_take, List.length_drop, List.length_nil]; omega) | (simp only [boundV, List.length_append, List.length_take, List.length_drop, List.length_cons, List.length_nil]; omega)), by (first | exact True.intro | rfl | omega | (unfold inK; omega) | (simp only [boundV]; omega) | (simp only [boundV, List.length_append, List.length_take, List.length_drop, List.length_nil]; omega) | (simp only [boundV, List.length_append, List.length_take, List.length_drop, List.length_cons, List.length_nil]; omega)), ?_⟩
        exact fin (List.take ((boundV (some 300) (List.length d1 : Int)).toNat - 0) (List.drop 0 d1)) d2 (List.take ((boundV (some 10) (List.length d3 : Int)).toNat - 0) (List.drop 0 d3)) rfl (List.take_of_length_le (by omega)).symm rfl
      · replace h2 := of_decide_eq_false h2
        exact fin (List.take ((boundV (some 300) (List.length d1 : Int)).toNat - 0) (List.drop 0 d1)) d2 d3 rfl (List.take_of_length_le (by omega)).symm (List.take_of_length_le (by omega)).symm
  · replace h0 := of_decide_eq_false h0
    intro _
    refine br_of (fun h1 => ?_) (fun h1 => ?_)
    · replace h1 := of_decide_eq_true h1
      refine ⟨by (first | exact True.intro | rfl | omega | (unfold inK; omega) | (simp only [boundV]; omega) | (simp only [boundV, List.length_append, List.length_take, List.length_drop, List.length_nil]; omega) | (simp only [boundV, List.length_append, List.length_take, List.length_drop, List.length_cons, List.length_nil]; omega)), by (first | exact True.intro | rfl | omega | (unfold inK; omega) | (simp only [boundV]; omega) | (simp only [boundV, List.length_append, List.length_take, List.length_drop, List.length_nil]; omega) | (simp only [boundV, List.length_append, List.length_take, List.length_drop, List.length_cons, List.length_nil]; omega)), by (first | exact True.intro | rfl | omega | (unfold inK; omega) | (simp only [boundV]; omega) | (simp only [boundV, List.length_append, List.length_take, List.length_drop, List.length_nil]; omega) | (simp only [boundV, List.length_append, List.length_take, List.length_drop, List.length_cons, List.length_nil]; omega)), ?_⟩
      intro _
      refine br_of (fun h2 => ?_) (fun h2 => ?_)
      · replace h2 := of_decide_eq_true h2
        refine ⟨by (first | exact True.intro | rfl | omega | (unfold inK; omega) | (simp only [boundV]; omega) | (simp only [boundV, List.length_append, List.length_take, List.length_drop, List.length_nil]; omega) | (simp only [boundV, List.length_append, List.length_take, List.length_drop, List.length_cons, List.length_nil]; omega)), by (first | exact True.intro | rfl | omega | (unfold inK; omega) | (simp only [boundV]; omega) | (simp only [boundV, List.length_append, List.length_take, List.length_drop, List.length_nil]; omega) | (simp only [boundV, List.length_append, List.length_take, List.length_drop, List.length_cons, List.length_nil]; omega)), by (first | exact True.intro | rfl | omega | (unfold inK; omega) | (simp only [boundV]; omega) | (simp only [boundV, List.length_append, List.length_take, List.length_drop, List.length_nil]; omega) | (simp only [boundV, List.length_append, List.length_take, List.length_drop, List.length_cons, List.length_nil]; omega)), ?_⟩
        exact fin d1 (List.take ((boundV (some 5000) (List.length d2 : Int)).toNat - 0) (List.drop 0 d2)) (List.take ((boundV (some 10) (List.length d3 : Int)).toNat - 0) (List.drop 0 d3)) (List.take_of_length_le (by omega)).symm rfl rfl
      · replace h2 := of_decide_eq_false h2
        exact fin d1 (List.take ((boundV (some 5000) (List.length d2 : Int)).toNat - 0) (List.drop 0 d2)) d3 (List.take_of_length_le (by omega)).symm rfl (List.take_of_length_le (by omega)).symm
    · replace h1 := of_decide_eq_false h1
      intro _
      refine br_of (fun h2 => ?_) (fun h2 => ?_)
      · replace h2 := of_decide_eq_true h2
        refine ⟨by (first | exact True.intro | rfl | omega | (unfold inK; omega) | (simp only [boundV]; omega) | (simp only [boundV, List.length_append, List.length_take, List.length_drop, List.length_nil]; omega) | (simp only [boundV, List.length_append, List.length_take, List.length_drop, List.length_cons, List.length_nil]; omega)), by (first | exact True.intro | rfl | omega | (unfold inK; omega) | (simp only [boundV]; omega) | (simp only [boundV, List.length_append, List.length_take, List.length_drop, List.length_nil]; omega) | (simp only [boundV, List.length_append, List.length_take, List.length_drop, List.length_cons, List.length_nil]; omega)), by (first | exact True.intro | rfl | omega | (unfold inK; omega) | (simp only [boundV]; omega) | (simp only [boundV, List.length_append, List.length_take, List.length_drop, List.length_nil]; omega) | (simp only [boundV, List.length_append, List.length_take, List.length_drop, List.length_cons, List.length_nil]; omega)), ?_⟩
        exact fin d1 d2 (List.take ((boundV (some 10) (List.length d3 : Int)).toNat - 0) (List.drop 0 d3)) (List.take_of_length_le (by omega)).symm (List.take_of_length_le (by omega)).symm rfl
      · replace h2 := of_decide_eq_false h2
        exact fin d1 d2 d3 (List.take_of_length_le (by omega)).symm (List.take_of_length_le (by omega)).symm (List.take_of_length_le (by omega)).symm
def c_does : Ct
  | [.v (.c (.p 0 0)), .v (.c (.p 1 0)), .v (.agg co)], [.ab (.upr ⟨84, 81, 3, 9⟩ Y), .ab (.rf 87 36 119 Z)], Q => (match (opTy).of co with
    | some (o, []) => Z = Y ∧ Y.OkN 1000000 ∧ Q (.bool true) [.ab (.upr ⟨84, 81, 3, 9⟩ (Y.doD (clipO o))), .ab (.rf 87 36 119 (Y.doD (clipO o)))]
    | _ => False)
  | _, _, _ => False
noncomputable def XW177 : Vx := { P := Tryz.prog, ct := (34, c_few) :: XW176.ct, ty := tyTab, hold := [] }
theorem XW177_ok : CtOk Inv Tryz.prog XW177.ct := CtOk.cons w_few (XW176_ok)
def vc_does : ((opTy).den) → (UpY) → (UpY) → (SV → List HO → Prop) → Prop :=
 fun o Y Z Q => inK .i64 o.1 → inK .i64 o.2.1 → inK .i64 o.2.2.1 → inK .i64 o.2.2.2.1 → inK .i64 o.2.2.2.2.1 → ByteArray.size o.2.2.2.2.2.1 ≤ 9223372036854775807 → ByteArray.size o.2.2.2.2.2.2.1 ≤ 9223372036854775807 → List.length 
 o.2.2.2.2.2.2.2.1.1 ≤ 9223372036854775807 → inK .i64 o.2.2.2.2.2.2.2.1.2.1 → inK .i64 o.2.2.2.2.2.2.2.1.2.2.1 → inK .i64 o.2.2.2.2.2.2.2.1.2.2.2.1.1 → inK .i64 o.2.2.2.2.2.2.2.1.2.2.2.1.2.1 → inK .i64 o.2.2.2.2.2.2.2.1.2.2.2.1.2.2.1 → 
 List.length o.2.2.2.2.2.2.2.1.2.2.2.2.1 ≤ 9223372036854775807 → ByteArray.size o.2.2.2.2.2.2.2.1.2.2.2.2.2.1 ≤ 9223372036854775807 → List.length o.2.2.2.2.2.2.2.1.2.2.2.2.2.2.1 ≤ 9223372036854775807 → List.length o.2.2.2.2.2.2.2.2.1 ≤ 
 9223372036854775807 → inK .i64 (clipO o).1 → inK .i64 (clipO o).2.1 → inK .i64 (clipO o).2.2.1 → inK .i64 (clipO o).2.2.2.1 → inK .i64 (clipO o).2.2.2.2.1 → ByteArray.size (clipO o).2.2.2.2.2.1 ≤ 9223372036854775807 → ByteArray.size (clipO 
 o).2.2.2.2.2.2.1 ≤ 9223372036854775807 → List.length (clipO o).2.2.2.2.2.2.2.1.1 ≤ 9223372036854775807 → inK .i64 (clipO o).2.2.2.2.2.2.2.1.2.1 → inK .i64 (clipO o).2.2.2.2.2.2.2.1.2.2.1 → inK .i64 (clipO o).2.2.2.2.2.2.2.1.2.2.2.1.1 → inK 
 .i64 (clipO o).2.2.2.2.2.2.2.1.2.2.2.1.2.1 → inK .i64 (clipO o).2.2.2.2.2.2.2.1.2.2.2.1.2.2.1 → List.length (clipO o).2.2.2.2.2.2.2.1.2.2.2.2.1 ≤ 9223372036854775807 → ByteArray.size (clipO o).2.2.2.2.2.2.2.1.2.2.2.2.2.1 ≤ 
 9223372036854775807 → List.length (clipO o).2.2.2.2.2.2.2.1.2.2.2.2.2.2.1 ≤ 9223372036854775807 → List.length (clipO o).2.2.2.2.2.2.2.2.1 ≤ 9223372036854775807 → (13 : Int) ≠ (0 : Int) ∧ (inK .i64 (kindI (clipO o).1 (13 : Int)) → br (kindI 
 (clipO o).1 (13 : Int) == 0) (UpY.Ok Y ∧ (inK .i64 (UpY.makeR Y (clipO o).2.1 (clipO o).2.2.2.2.2.1 (clipO o).2.2.2.2.2.2.2.1) → inK .i64 (UpY.makeE Y (clipO o).2.1 (clipO o).2.2.2.2.2.1 (clipO o).2.2.2.2.2.2.2.1) → UpY.OkN Z (1000000 : 
 Nat) ∧ (inK .i64 (UpY.makeR Z (clipO o).2.1 (clipO o).2.2.2.2.2.1 (clipO o).2.2.2.2.2.2.2.1) → inK .i64 (UpY.makeE Z (clipO o).2.1 (clipO o).2.2.2.2.2.1 (clipO o).2.2.2.2.2.2.2.1) → br (UpY.makeR Y (clipO o).2.1 (clipO o).2.2.2.2.2.1 (clipO 
 o).2.2.2.2.2.2.2.1 == UpY.makeR Z (clipO o).2.1 (clipO o).2.2.2.2.2.1 (clipO o).2.2.2.2.2.2.2.1) (Q (.v (.c (.k (.bool (UpY.makeE Y (clipO o).2.1 (clipO o).2.2.2.2.2.1 (clipO o).2.2.2.2.2.2.2.1 == UpY.makeE Z (clipO o).2.1 (clipO 
 o).2.2.2.2.2.1 (clipO o).2.2.2.2.2.2.2.1))))) [.ab (.upr ⟨84, 81, 3, 9⟩ (UpY.makeY Y (clipO o).2.1 (clipO o).2.2.2.2.2.1 (clipO o).2.2.2.2.2.2.2.1)), .ab (.rf 87 36 119 (UpY.makeY Z (clipO o).2.1 (clipO o).2.2.2.2.2.1 (clipO 
 o).2.2.2.2.2.2.2.1))]) (Q (.v (.c (.k (.bool false)))) [.ab (.upr ⟨84, 81, 3, 9⟩ (UpY.makeY Y (clipO o).2.1 (clipO o).2.2.2.2.2.1 (clipO o).2.2.2.2.2.2.2.1)), .ab (.rf 87 36 119 (UpY.makeY Z (clipO o).2.1 (clipO o).2.2.2.2.2.1 (clipO 
 o).2.2.2.2.2.2.2.1))])))) (br (kindI (clipO o).1 (13 : Int) == 1) (UpY.Ok Y ∧ (inK .i64 (UpY.makeR Y (clipO o).2.1 (clipO o).2.2.2.2.2.1 (clipO o).2.2.2.2.2.2.2.1) → inK .i64 (UpY.makeE Y (clipO o).2.1 (clipO o).2.2.2.2.2.1 (clipO 
 o).2.2.2.2.2.2.2.1) → UpY.OkN Z (1000000 : Nat) ∧ (inK .i64 (UpY.makeR Z (clipO o).2.1 (clipO o).2.2.2.2.2.1 (clipO o).2.2.2.2.2.2.2.1) → inK .i64 (UpY.makeE Z (clipO o).2.1 (clipO o).2.2.2.2.2.1 (clipO o).2.2.2.2.2.2.2.1) → br (UpY.makeR Y 
 (clipO o).2.1 (clipO o).2.2.2.2.2.1 (clipO o).2.2.2.2.2.2.2.1 == UpY.makeR Z (clipO o).2.1 (clipO o).2.2.2.2.2.1 (clipO o).2.2.2.2.2.2.2.1) (Q (.v (.c (.k (.bool (UpY.makeE Y (clipO o).2.1 (clipO o).2.2.2.2.2.1 (clipO o).2.2.2.2.2.2.2.1 == 
 UpY.makeE Z (clipO o).2.1 (clipO o).2.2.2.2.2.1 (clipO o).2.2.2.2.2.2.2.1))))) [.ab (.upr ⟨84, 81, 3, 9⟩ (UpY.makeY Y (clipO o).2.1 (clipO o).2.2.2.2.2.1 (clipO o).2.2.2.2.2.2.2.1)), .ab (.rf 87 36 119 (UpY.makeY Z (clipO o).2.1 (clipO 
 o).2.2.2.2.2.1 (clipO o).2.2.2.2.2.2.2.1))]) (Q (.v (.c (.k (.bool false)))) [.ab (.upr ⟨84, 81, 3, 9⟩ (UpY.makeY Y (clipO o).2.1 (clipO o).2.2.2.2.2.1 (clipO o).2.2.2.2.2.2.2.1)), .ab (.rf 87 36 119 (UpY.makeY Z (clipO o).2.1 (clipO 
 o).2.2.2.2.2.1 (clipO o).2.2.2.2.2.2.2.1))])))) (br (kindI (clipO o).1 (13 : Int) == 2) (UpY.Ok Y ∧ (inK .i64 (UpY.makeR Y (clipO o).2.1 (clipO o).2.2.2.2.2.1 (clipO o).2.2.2.2.2.2.2.1) → inK .i64 (UpY.makeE Y (clipO o).2.1 (clipO 
 o).2.2.2.2.2.1 (clipO o).2.2.2.2.2.2.2.1) → UpY.OkN Z (1000000 : Nat) ∧ (inK .i64 (UpY.makeR Z (clipO o).2.1 (clipO o).2.2.2.2.2.1 (clipO o).2.2.2.2.2.2.2.1) → inK .i64 (UpY.makeE Z (clipO o).2.1 (clipO o).2.2.2.2.2.1 (clipO 
 o).2.2.2.2.2.2.2.1) → br (UpY.makeR Y (clipO o).2.1 (clipO o).2.2.2.2.2.1 (clipO o).2.2.2.2.2.2.2.1 == UpY.makeR Z (clipO o).2.1 (clipO o).2.2.2.2.2.1 (clipO o).2.2.2.2.2.2.2.1) (Q (.v (.c (.k (.bool (UpY.makeE Y (clipO o).2.1 (clipO 
 o).2.2.2.2.2.1 (clipO o).2.2.2.2.2.2.2.1 == UpY.makeE Z (clipO o).2.1 (clipO o).2.2.2.2.2.1 (clipO o).2.2.2.2.2.2.2.1))))) [.ab (.upr ⟨84, 81, 3, 9⟩ (UpY.makeY Y (clipO o).2.1 (clipO o).2.2.2.2.2.1 (clipO o).2.2.2.2.2.2.2.1)), .ab (.rf 87 
 36 119 (UpY.makeY Z (clipO o).2.1 (clipO o).2.2.2.2.2.1 (clipO o).2.2.2.2.2.2.2.1))]) (Q (.v (.c (.k (.bool false)))) [.ab (.upr ⟨84, 81, 3, 9⟩ (UpY.makeY Y (clipO o).2.1 (clipO o).2.2.2.2.2.1 (clipO o).2.2.2.2.2.2.2.1)), .ab (.rf 87 36 119 
 (UpY.makeY Z (clipO o).2.1 (clipO o).2.2.2.2.2.1 (clipO o).2.2.2.2.2.2.2.1))])))) (br (kindI (clipO o).1 (13 : Int) == 3) (UpY.Ok Y ∧ (inK .i64 (UpY.linkE Y (clipO o).2.1 (clipO o).2.2.2.2.2.1 (clipO o).2.2.1) → UpY.OkN Z (1000000 : Nat) ∧ 
 (inK .i64 (UpY.linkE Z (clipO o).2.1 (clipO o).2.2.2.2.2.1 (clipO o).2.2.1) → Q (.v (.c (.k (.bool (UpY.linkE Y (clipO o).2.1 (clipO o).2.2.2.2.2.1 (clipO o).2.2.1 == UpY.linkE Z (clipO o).2.1 (clipO o).2.2.2.2.2.1 (clipO o).2.2.1))))) [.ab 
 (.upr ⟨84, 81, 3, 9⟩ (UpY.linkY Y (clipO o).2.1 (clipO o).2.2.2.2.2.1 (clipO o).2.2.1)), .ab (.rf 87 36 119 (UpY.linkY Z (clipO o).2.1 (clipO o).2.2.2.2.2.1 (clipO o).2.2.1))]))) (br (kindI (clipO o).1 (13 : Int) == 4) (UpY.Ok Y ∧ (inK .i64 
 (UpY.removeE Y (clipO o).2.1 (clipO o).2.2.2.2.2.1) → UpY.OkN Z (1000000 : Nat) ∧ (inK .i64 (UpY.removeE Z (clipO o).2.1 (clipO o).2.2.2.2.2.1) → Q (.v (.c (.k (.bool (UpY.removeE Y (clipO o).2.1 (clipO o).2.2.2.2.2.1 == UpY.removeE Z 
 (clipO o).2.1 (clipO o).2.2.2.2.2.1))))) [.ab (.upr ⟨84, 81, 3, 9⟩ (UpY.removeY Y (clipO o).2.1 (clipO o).2.2.2.2.2.1)), .ab (.rf 87 36 119 (UpY.removeY Z (clipO o).2.1 (clipO o).2.2.2.2.2.1))]))) (br (kindI (clipO o).1 (13 : Int) == 5) 
 (UpY.Ok Y ∧ (inK .i64 (UpY.moveE Y (clipO o).2.1 (clipO o).2.2.2.2.2.1 (clipO o).2.2.1 (clipO o).2.2.2.2.2.2.1) → UpY.OkN Z (1000000 : Nat) ∧ (inK .i64 (UpY.moveE Z (clipO o).2.1 (clipO o).2.2.2.2.2.1 (clipO o).2.2.1 (clipO 
 o).2.2.2.2.2.2.1) → Q (.v (.c (.k (.bool (UpY.moveE Y (clipO o).2.1 (clipO o).2.2.2.2.2.1 (clipO o).2.2.1 (clipO o).2.2.2.2.2.2.1 == UpY.moveE Z (clipO o).2.1 (clipO o).2.2.2.2.2.1 (clipO o).2.2.1 (clipO o).2.2.2.2.2.2.1))))) [.ab (.upr 
 ⟨84, 81, 3, 9⟩ (UpY.moveY Y (clipO o).2.1 (clipO o).2.2.2.2.2.1 (clipO o).2.2.1 (clipO o).2.2.2.2.2.2.1)), .ab (.rf 87 36 119 (UpY.moveY Z (clipO o).2.1 (clipO o).2.2.2.2.2.1 (clipO o).2.2.1 (clipO o).2.2.2.2.2.2.1))]))) (br (kindI (clipO 
 o).1 (13 : Int) == 6) (UpY.Ok Y ∧ (inK .i64 (UpY.moveE Y (clipO o).2.1 (clipO o).2.2.2.2.2.1 (clipO o).2.2.1 (clipO o).2.2.2.2.2.2.1) → UpY.OkN Z (1000000 : Nat) ∧ (inK .i64 (UpY.moveE Z (clipO o).2.1 (clipO o).2.2.2.2.2.1 (clipO o).2.2.1 
 (clipO o).2.2.2.2.2.2.1) → Q (.v (.c (.k (.bool (UpY.moveE Y (clipO o).2.1 (clipO o).2.2.2.2.2.1 (clipO o).2.2.1 (clipO o).2.2.2.2.2.2.1 == UpY.moveE Z (clipO o).2.1 (clipO o).2.2.2.2.2.1 (clipO o).2.2.1 (clipO o).2.2.2.2.2.2.1))))) [.ab 
 (.upr ⟨84, 81, 3, 9⟩ (UpY.moveY Y (clipO o).2.1 (clipO o).2.2.2.2.2.1 (clipO o).2.2.1 (clipO o).2.2.2.2.2.2.1)), .ab (.rf 87 36 119 (UpY.moveY Z (clipO o).2.1 (clipO o).2.2.2.2.2.1 (clipO o).2.2.1 (clipO o).2.2.2.2.2.2.1))]))) (br (kindI 
 (clipO o).1 (13 : Int) == 7) ((0 + List.length (clipO o).2.2.2.2.2.2.2.2.1) * 1 ≤ (140737488355328 : Nat) ∧ 0 + List.length (clipO o).2.2.2.2.2.2.2.2.1 ≤ 9223372036854775807 ∧ UpY.Ok Y ∧ (inK .i64 (UpY.writeE Y (clipO o).2.1 (clipO 
 o).2.2.2.1 ([] ++ (clipO o).2.2.2.2.2.2.2.2.1)) → LoopP (fun i again => List.length i.1.2.1 ≤ 9223372036854775807 → br (decide (i.1.1 < (↑(List.length i.1.2.1) : Int))) (0 ≤ i.1.1 ∧ i.1.1 < (↑(List.length i.1.2.1) : Int) ∧ 0 ≤ i.1.1 ∧ i.1.1 
 < (↑(List.length i.1.2.1) : Int) ∧ inK .i64 (i.1.1 + 1) ∧ again ((i.1.1 + 1, List.set i.1.2.1 (Int.toNat i.1.1) (UInt8.ofNat 99), ()), ())) (UpY.OkN Z (1000000 : Nat) ∧ (inK .i64 (UpY.writeE Z (clipO o).2.1 (clipO o).2.2.2.1 (clipO 
 o).2.2.2.2.2.2.2.2.1) → Q (.v (.c (.k (.bool (UpY.writeE Y (clipO o).2.1 (clipO o).2.2.2.1 ([] ++ (clipO o).2.2.2.2.2.2.2.2.1) == UpY.writeE Z (clipO o).2.1 (clipO o).2.2.2.1 (clipO o).2.2.2.2.2.2.2.2.1))))) [.ab (.upr ⟨84, 81, 3, 9⟩ 
 (UpY.writeY Y (clipO o).2.1 (clipO o).2.2.2.1 ([] ++ (clipO o).2.2.2.2.2.2.2.2.1))), .ab (.rf 87 36 119 (UpY.writeY Z (clipO o).2.1 (clipO o).2.2.2.1 (clipO o).2.2.2.2.2.2.2.2.1))]))) (((0 : Int), [] ++ (clipO o).2.2.2.2.2.2.2.2.1, ()), 
 ()))) (br (kindI (clipO o).1 (13 : Int) == 8) (UpY.Ok Y ∧ (inK .i64 (UpY.resizeE Y (clipO o).2.1 (clipO o).2.2.2.1) → UpY.OkN Z (1000000 : Nat) ∧ (inK .i64 (UpY.resizeE Z (clipO o).2.1 (clipO o).2.2.2.1) → Q (.v (.c (.k (.bool (UpY.resizeE 
 Y (clipO o).2.1 (clipO o).2.2.2.1 == UpY.resizeE Z (clipO o).2.1 (clipO o).2.2.2.1))))) [.ab (.upr ⟨84, 81, 3, 9⟩ (UpY.resizeY Y (clipO o).2.1 (clipO o).2.2.2.1)), .ab (.rf 87 36 119 (UpY.resizeY Z (clipO o).2.1 (clipO o).2.2.2.1))]))) (br 
 (kindI (clipO o).1 (13 : Int) == 9) (UpY.Ok Y ∧ (inK .i64 (UpY.setAttrE Y (clipO o).2.1 (clipO o).2.2.2.2.2.2.2.1.2.2.2.1) → UpY.OkN Z (1000000 : Nat) ∧ (inK .i64 (UpY.setAttrE Z (clipO o).2.1 (clipO o).2.2.2.2.2.2.2.1.2.2.2.1) → Q (.v (.c 
 (.k (.bool (UpY.setAttrE Y (clipO o).2.1 (clipO o).2.2.2.2.2.2.2.1.2.2.2.1 == UpY.setAttrE Z (clipO o).2.1 (clipO o).2.2.2.2.2.2.2.1.2.2.2.1))))) [.ab (.upr ⟨84, 81, 3, 9⟩ (UpY.setAttrY Y (clipO o).2.1 (clipO o).2.2.2.2.2.2.2.1.2.2.2.1)), 
 .ab (.rf 87 36 119 (UpY.setAttrY Z (clipO o).2.1 (clipO o).2.2.2.2.2.2.2.1.2.2.2.1))]))) (br (kindI (clipO o).1 (13 : Int) == 10) (UpY.Ok Y ∧ (inK .i64 (UpY.setXattrsE Y (clipO o).2.1 (clipO o).2.2.2.2.2.2.2.1.2.2.2.2.2.2.1) → UpY.OkN Z 
 (1000000 : Nat) ∧ (inK .i64 (UpY.setXattrsE Z (clipO o).2.1 (clipO o).2.2.2.2.2.2.2.1.2.2.2.2.2.2.1) → Q (.v (.c (.k (.bool (UpY.setXattrsE Y (clipO o).2.1 (clipO o).2.2.2.2.2.2.2.1.2.2.2.2.2.2.1 == UpY.setXattrsE Z (clipO o).2.1 (clipO 
 o).2.2.2.2.2.2.2.1.2.2.2.2.2.2.1))))) [.ab (.upr ⟨84, 81, 3, 9⟩ (UpY.setXattrsY Y (clipO o).2.1 (clipO o).2.2.2.2.2.2.2.1.2.2.2.2.2.2.1)), .ab (.rf 87 36 119 (UpY.setXattrsY Z (clipO o).2.1 (clipO o).2.2.2.2.2.2.2.1.2.2.2.2.2.2.1))]))) (br 
 (kindI (clipO o).1 (13 : Int) == 11) ((2 : Int) ≠ (0 : Int) ∧ (inK .i64 (Int.tmod (clipO o).2.2.2.1 (2 : Int)) → (2 : Int) ≠ (0 : Int) ∧ (inK .i64 (Int.tmod (clipO o).2.2.2.1 (2 : Int)) → UpY.Ok Y ∧ (inK .i64 (UpY.dirE Y (clipO o).2.1) → 
 UpY.OkN Z (1000000 : Nat) ∧ (inK .i64 (UpY.dirE Z (clipO o).2.1) → Q (.v (.c (.k (.bool (UpY.dirE Y (clipO o).2.1 == UpY.dirE Z (clipO o).2.1))))) [.ab (.upr ⟨84, 81, 3, 9⟩ (UpY.setOpaqueY Y (clipO o).2.1 (Int.tmod (clipO o).2.2.2.1 (2 : 
 Int) == 0))), .ab (.rf 87 36 119 (UpY.setOpaqueY Z (clipO o).2.1 (Int.tmod (clipO o).2.2.2.1 (2 : Int) == 0)))]))))) (UpY.Ok Y ∧ (inK .i64 (UpY.readE Y (clipO o).2.1 (clipO o).2.2.2.1 (clipO o).2.2.2.2.1) → UpY.OkN Z (1000000 : Nat) ∧ (inK 
 .i64 (UpY.readE Z (clipO o).2.1 (clipO o).2.2.2.1 (clipO o).2.2.2.2.1) → br (sEq (bstr (UpY.readD Y (clipO o).2.1 (clipO o).2.2.2.1 (clipO o).2.2.2.2.1)) (bstr (UpY.readD Z (clipO o).2.1 (clipO o).2.2.2.1 (clipO o).2.2.2.2.1))) (Q (.v (.c 
 (.k (.bool (UpY.readE Y (clipO o).2.1 (clipO o).2.2.2.1 (clipO o).2.2.2.2.1 == UpY.readE Z (clipO o).2.1 (clipO o).2.2.2.1 (clipO o).2.2.2.2.1))))) [.ab (.upr ⟨84, 81, 3, 9⟩ Y), .ab (.rf 87 36 119 Z)]) (Q (.v (.c (.k (.bool false)))) [.ab 
 (.upr ⟨84, 81, 3, 9⟩ Y), .ab (.rf 87 36 119 Z)]))))))))))))))))
theorem vc_does_eq (o : (opTy).den) (Y : UpY) (Z : UpY) (Q : SV → List HO → Prop) : vFun XW177 ⟨[(21, ⟨[(13, .int .i64), (11, .own 5 .u8)], []⟩)], []⟩ Tryz.f12 [.v (.c (.p 0 0)), .v (.c (.p 1 0)), .v (.agg (Ty.cells opTy o))] [.ab (.upr ⟨84, 81, 3, 9⟩ Y), .ab (.rf 87 36 119 Z)] Q = vc_does o Y Z Q := by kernel_rfl
theorem w_does : ∀ args H Q, c_does args H Q → Wp Inv Tryz.prog 12 args H Q := by
  intro args H Q h
  unfold c_does at h
  split at h
  rotate_left
  · exact h.elim
  rename_i co Y Z
  split at h
  rotate_left
  · exact h.elim
  rename_i o ho
  refine Wp.said (args' := [.v (.c (.p 0 0)), .v (.c (.p 1 0)), .v (.agg (Ty.cells opTy o))]) (fun E g => RelVs.cons1 (fun _ h => h) (RelVs.cons1 (fun _ h => h) (RelVs.cons1 (of_row ho) (fun _ h => h)))) ?_
  clear ho
  refine Wp.enter (X := XW177) XW177_ok ⟨[(21, ⟨[(13, .int .i64), (11, .own 5 .u8)], []⟩)], []⟩ (fn := Tryz.f12) (by kernel_rfl) ?_
  have hv := vc_does_eq o Y Z Q
  rw [show vFun _ _ _ _ _ _ = _ from hv]
  unfold vc_does
  obtain ⟨rfl, hn, h⟩ := h
  have hk := hn.ok (Nat.le_refl _)
  have hdl : (clipO o).2.2.2.2.2.2.2.2.1.length ≤ 300 := List.length_take_le ..
  intros
  generalize clipO o = p at h hdl ⊢
  refine ⟨by decide, fun _ => ?_⟩
  have fin : ∀ Y', Z.doD p = Y' → ∀ c : Bool, c = true → Q (.bool c) [.ab (.upr ⟨84, 81, 3, 9⟩ Y'), .ab (.rf 87 36 119 Y')] := fun Y' e c hc => by subst e hc; exact h
  refine br_of (fun h0 => ?_) (fun h0 => ?_)
  · have hK := eq_of_beq h0
    exact ⟨hk, fun _ _ => ⟨hn, fun _ _ => br_of (fun _ => fin _ (by unfold UpY.doD; rw [hK]; rfl) _ (beq_self_eq_true _)) (fun hx => by rw [beq_self_eq_true] at hx; cases hx)⟩⟩
  refine br_of (fun h1 => ?_) (fun h1 => ?_)
  · have hK := eq_of_beq h1
    exact ⟨hk, fun _ _ => ⟨hn, fun _ _ => br_of (fun _ => fin _ (by unfold UpY.doD; rw [hK]; rfl) _ (beq_self_eq_true _)) (fun hx => by rw [beq_self_eq_true] at hx; cases hx)⟩⟩
  refine br_of (fun h2 => ?_) (fun h2 => ?_)
  · have hK := eq_of_beq h2
    exact ⟨hk, fun _ _ => ⟨hn, fun _ _ => br_of (fun _ => fin _ (by unfold UpY.doD; rw [hK]; rfl) _ (beq_self_eq_true _)) (fun hx => by rw [beq_self_eq_true] at hx; cases hx)⟩⟩
  refine br_of (fun h3 => ?_) (fun h3 => ?_)
  · have hK := eq_of_beq h3
    exact ⟨hk, fun _ => ⟨hn, fun _ => fin _ (by unfold UpY.doD; rw [hK]; rfl) _ (beq_self_eq_true _)⟩⟩
  refine br_of (fun h4 => ?_) (fun h4 => ?_)
  · have hK := eq_of_beq h4
    exact ⟨hk, fun _ => ⟨hn, fun _ => fin _ (by unfold UpY.doD; rw [hK]; rfl) _ (beq_self_eq_true _)⟩⟩
  refine br_of (fun h5 => ?_) (fun h5 => ?_)
  · have hK := eq_of_beq h5
    exact ⟨hk, fun _ => ⟨hn, fun _ => fin _ (by unfold UpY.doD; rw [hK]; rfl) _ (beq_self_eq_true _)⟩⟩
  refine br_of (fun h6 => ?_) (fun h6 => ?_)
  · have hK := eq_of_beq h6
    exact ⟨hk, fun _ => ⟨hn, fun _ => fin _ (by unfold UpY.doD; rw [hK]; rfl) _ (beq_self_eq_true _)⟩⟩
  refine br_of (fun h7 => ?_) (fun h7 => ?_)
  · have hK := eq_of_beq h7
    refine ⟨by omega, by omega, hk, fun _ => LoopP.intro (fun i => 0 ≤ i.1.1) (fun i => i.1.2.1.length - i.1.1.toNat) (Int.le_refl _) ?_⟩
    rintro ⟨⟨k, own, _⟩, _⟩ k0
    simp only at k0 ⊢
    intro _
    refine br_of (fun hc => ?_) (fun _ => ⟨hn, fun _ => fin _ (by unfold UpY.doD; rw [hK]; rfl) _ (beq_self_eq_true _)⟩)
    have hc := of_decide_eq_true hc
    exact ⟨k0, hc, k0, hc, by unfold inK; omega, by omega, by rw [List.length_set]; omega⟩
  refine br_of (fun h8 => ?_) (fun h8 => ?_)
  · have hK := eq_of_beq h8
    exact ⟨hk, fun _ => ⟨hn, fun _ => fin _ (by unfold UpY.doD; rw [hK]; rfl) _ (beq_self_eq_true _)⟩⟩
  refine br_of (fun h9 => ?_) (fun h9 => ?_)
  · have hK := eq_of_beq h9
    exact ⟨hk, fun _ => ⟨hn, fun _ => fin _ (by unfold UpY.doD; rw [hK]; rfl) _ (beq_self_eq_true _)⟩⟩
  refine br_of (fun h10 => ?_) (fun h10 => ?_)
  · have hK := eq_of_beq h10
    exact ⟨hk, fun _ => ⟨hn, fun _ => fin _ (by unfold UpY.doD; rw [hK]; rfl) _ (beq_self_eq_true _)⟩⟩
  refine br_of (fun h11 => ?_) (fun h11 => ?_)
  · have hK := eq_of_beq h11
    exact ⟨by decide, fun _ => ⟨by decide, fun _ => ⟨hk, fun _ => ⟨hn, fun _ => fin _ (by unfold UpY.doD; rw [hK]; rfl) _ (beq_self_eq_true _)⟩⟩⟩⟩
  have n0 : kindI p.1 13 ≠ 0 := by simpa using h0
  have n1 : kindI p.1 13 ≠ 1 := by simpa using h1
  have n2 : kindI p.1 13 ≠ 2 := by simpa using h2
  have n3 : kindI p.1 13 ≠ 3 := by simpa using h3
  have n4 : kindI p.1 13 ≠ 4 := by simpa using h4
  have n5 : kindI p.1 13 ≠ 5 := by simpa using h5
  have n6 : kindI p.1 13 ≠ 6 := by simpa using h6
  have n7 : kindI p.1 13 ≠ 7 := by simpa using h7
  have n8 : kindI p.1 13 ≠ 8 := by simpa using h8
  have n9 : kindI p.1 13 ≠ 9 := by simpa using h9
  have n10 : kindI p.1 13 ≠ 10 := by simpa using h10
  have n11 : kindI p.1 13 ≠ 11 := by simpa using h11
  exact ⟨hk, fun _ => ⟨hn, fun _ => br_of (fun _ => fin _ (by unfold UpY.doD; rw [if_neg (by omega), if_neg (by omega), if_neg (by omega), if_neg (by omega), if_neg (by omega), if_neg (by omega), if_neg (by omega), if_neg (by omega), if_neg (by omega)]) _ (beq_self_eq_true _)) (fun hx => by rw [sEq_iff.2 rfl] at hx; cases hx)⟩⟩
end Go.Proofs

namespace Go.Proofs
open Go Go.Lm Go.RowKit
set_option maxRecDepth 1000000
def c_like : Ct
  | [.v (.c (.p 0 0)), .v (.c (.p 1 0)), .v (.c (.k (.int .i64 ref)))], [.ab (.upr ⟨84, 81, 3, 9⟩ Y), .ab (.rf 87 36 119 Z)], Q => Z = Y ∧ Y.OkN 1000000 ∧ Q (.bool true) [.ab (.upr ⟨84, 81, 3, 9⟩ Y), .ab (.rf 87 36 119 Y)]
  | _, _, _ => False
noncomputable def XW278 : Vx := { P := Tryz.prog, ct := (12, c_does) :: XW177.ct, ty := tyTab, hold := [100, 26] }
theorem XW278_ok : CtOk Inv Tryz.prog XW278.ct := CtOk.cons w_does (XW177_ok)
def vc_like : (Int) → (UpY) → (UpY) → (SV → List HO → Prop) → Prop :=
 fun ref Y Z Q => inK .i64 ref → UpY.Ok Y ∧ (inK .i64 (UpY.statD Y ref).1 → inK .i64 (UpY.statD Y ref).2.1.1 → inK .i64 (UpY.statD Y ref).2.1.2.1 → inK .i64 (UpY.statD Y ref).2.1.2.2.1 → inK .i64 (UpY.statD Y ref).2.2.1 → inK .i64 (UpY.statD 
 Y ref).2.2.2.1 → inK .i64 (UpY.atE Y ref) → UpY.OkN Z (1000000 : Nat) ∧ (inK .i64 (UpY.statD Z ref).1 → inK .i64 (UpY.statD Z ref).2.1.1 → inK .i64 (UpY.statD Z ref).2.1.2.1 → inK .i64 (UpY.statD Z ref).2.1.2.2.1 → inK .i64 (UpY.statD Z 
 ref).2.2.1 → inK .i64 (UpY.statD Z ref).2.2.2.1 → inK .i64 (UpY.atE Z ref) → UpY.Ok Y ∧ (inK .i64 (UpY.dirE Y ref) → UpY.OkN Z (1000000 : Nat) ∧ (inK .i64 (UpY.dirE Z ref) → UpY.Ok Y ∧ (ByteArray.size (UpY.targetD Y ref) ≤ 
 9223372036854775807 → inK .i64 (UpY.targetE Y ref) → True ∧ (ByteArray.size (UpY.targetD Z ref) ≤ 9223372036854775807 → inK .i64 (UpY.targetE Z ref) → UpY.Ok Y ∧ (inK .i64 (UpY.atE Y ref) → List.length (UpY.xattrsD Z ref) ≤ 
 9223372036854775807 → inK .i64 (UpY.atE Z ref) → UpY.Ok Y ∧ (inK .i64 (UpY.readE Y ref (0 : Int) (4096 : Int)) → UpY.OkN Z (1000000 : Nat) ∧ (inK .i64 (UpY.readE Z ref (0 : Int) (4096 : Int)) → UpY.listD Y ref = UpY.listD Z ref ∧ 
 UpY.xattrsD Y ref = UpY.xattrsD Z ref ∧ br (!((UpY.statD Y ref).1 == (UpY.statD Z ref).1 && ((UpY.statD Y ref).2.1.1 == (UpY.statD Z ref).2.1.1 && ((UpY.statD Y ref).2.1.2.1 == (UpY.statD Z ref).2.1.2.1 && ((UpY.statD Y ref).2.1.2.2.1 == 
 (UpY.statD Z ref).2.1.2.2.1 && true)) && ((UpY.statD Y ref).2.2.1 == (UpY.statD Z ref).2.2.1 && ((UpY.statD Y ref).2.2.2.1 == (UpY.statD Z ref).2.2.2.1 && true))))) (Q (.v (.c (.k (.bool false)))) [.ab (.upr ⟨84, 81, 3, 9⟩ Y), .ab (.rf 87 
 36 119 Z)]) (br (UpY.atE Y ref != UpY.atE Z ref) (Q (.v (.c (.k (.bool false)))) [.ab (.upr ⟨84, 81, 3, 9⟩ Y), .ab (.rf 87 36 119 Z)]) (br (UpY.dirE Y ref != UpY.dirE Z ref) (Q (.v (.c (.k (.bool false)))) [.ab (.upr ⟨84, 81, 3, 9⟩ Y), .ab 
 (.rf 87 36 119 Z)]) (br (!sEq (UpY.targetD Y ref) (UpY.targetD Z ref)) (Q (.v (.c (.k (.bool false)))) [.ab (.upr ⟨84, 81, 3, 9⟩ Y), .ab (.rf 87 36 119 Z)]) (br (UpY.targetE Y ref != UpY.targetE Z ref) (Q (.v (.c (.k (.bool false)))) [.ab 
 (.upr ⟨84, 81, 3, 9⟩ Y), .ab (.rf 87 36 119 Z)]) (br (UpY.atE Y ref != UpY.atE Z ref) (Q (.v (.c (.k (.bool false)))) [.ab (.upr ⟨84, 81, 3, 9⟩ Y), .ab (.rf 87 36 119 Z)]) (br (!sEq (bstr (UpY.readD Y ref (0 : Int) (4096 : Int))) (bstr 
 (UpY.readD Z ref (0 : Int) (4096 : Int)))) (Q (.v (.c (.k (.bool false)))) [.ab (.upr ⟨84, 81, 3, 9⟩ Y), .ab (.rf 87 36 119 Z)]) (br (UpY.readE Y ref (0 : Int) (4096 : Int) != UpY.readE Z ref (0 : Int) (4096 : Int)) (Q (.v (.c (.k (.bool 
 false)))) [.ab (.upr ⟨84, 81, 3, 9⟩ Y), .ab (.rf 87 36 119 Z)]) (True ∧ True ∧ br (!UpY.opqD Y ref == UpY.opqD Z ref) (Q (.v (.c (.k (.bool false)))) [.ab (.upr ⟨84, 81, 3, 9⟩ Y), .ab (.rf 87 36 119 Z)]) (LoopP (fun i again => List.length 
 (UpY.listD Y ref) ≤ 9223372036854775807 → br (decide (i.1.1 < (↑(List.length (UpY.listD Y ref)) : Int))) (0 ≤ i.1.1 ∧ i.1.1 < (↑(List.length (UpY.listD Y ref)) : Int) ∧ (Ty.ok xeTy (ixD xeTy (UpY.listD Y ref) i.1.1) → UpY.Ok i.2.1 ∧ 
 (ByteArray.size (UpY.lookD i.2.1 ref (ixD xeTy (UpY.listD Y ref) i.1.1).1).1 ≤ 9223372036854775807 → inK .i64 (UpY.lookD i.2.1 ref (ixD xeTy (UpY.listD Y ref) i.1.1).1).2.1 → inK .i64 (UpY.lookD i.2.1 ref (ixD xeTy (UpY.listD Y ref) 
 i.1.1).1).2.2.1 → inK .i64 (UpY.lookE i.2.1 ref (ixD xeTy (UpY.listD Y ref) i.1.1).1) → 0 ≤ i.1.1 ∧ i.1.1 < (↑(List.length (UpY.listD Y ref)) : Int) ∧ (Ty.ok xeTy (ixD xeTy (UpY.listD Y ref) i.1.1) → br (!(sEq (UpY.lookD i.2.1 ref (ixD xeTy 
 (UpY.listD Y ref) i.1.1).1).1 (ixD xeTy (UpY.listD Y ref) i.1.1).1 && ((UpY.lookD i.2.1 ref (ixD xeTy (UpY.listD Y ref) i.1.1).1).2.1 == (ixD xeTy (UpY.listD Y ref) i.1.1).2.1 && ((UpY.lookD i.2.1 ref (ixD xeTy (UpY.listD Y ref) 
 i.1.1).1).2.2.1 == (ixD xeTy (UpY.listD Y ref) i.1.1).2.2.1 && true)))) (Q (.v (.c (.k (.bool false)))) [.ab (.upr ⟨84, 81, 3, 9⟩ i.2.1), .ab (.rf 87 36 119 Z)]) (br (UpY.lookE i.2.1 ref (ixD xeTy (UpY.listD Y ref) i.1.1).1 != 0) (Q (.v (.c 
 (.k (.bool false)))) [.ab (.upr ⟨84, 81, 3, 9⟩ i.2.1), .ab (.rf 87 36 119 Z)]) (inK .i64 (i.1.1 + 1) ∧ again ((i.1.1 + 1, ()), i.2))))))) (Q (.v (.c (.k (.bool true)))) [.ab (.upr ⟨84, 81, 3, 9⟩ i.2.1), .ab (.rf 87 36 119 Z)])) (((0 : Int), 
 ()), Y, ())))))))))))))))))))
theorem vc_like_eq (ref : Int) (Y : UpY) (Z : UpY) (Q : SV → List HO → Prop) : vFun XW278 ⟨[(17, ⟨[(29, .int .i64)], [(0, .ab (.upr ⟨84, 81, 3, 9⟩))]⟩)], []⟩ Tryz.f50 [.v (.c (.p 0 0)), .v (.c (.p 1 0)), .int ref] [.ab (.upr ⟨84, 81, 3, 9⟩ Y), .ab (.rf 87 36 119 Z)] Q = vc_like ref Y Z Q := by kernel_rfl
theorem w_like : ∀ args H Q, c_like args H Q → Wp Inv Tryz.prog 50 args H Q := by
  intro args H Q h
  unfold c_like at h
  split at h
  rotate_left
  · exact h.elim
  rename_i ref Y Z
  refine Wp.enter (X := XW278) XW278_ok ⟨[(17, ⟨[(29, .int .i64)], [(0, .ab (.upr ⟨84, 81, 3, 9⟩))]⟩)], []⟩ (fn := Tryz.f50) (by kernel_rfl) ?_
  have hv := vc_like_eq ref Y Z Q
  rw [show vFun _ _ _ _ _ _ = _ from hv]
  unfold vc_like
  obtain ⟨rfl, hn, h⟩ := h
  have hk := hn.ok (Nat.le_refl _)
  have hs : ∀ a : ByteArray, sEq a a = true := fun a => sEq_iff.2 rfl
  intro _
  refine ⟨hk, fun _ _ _ _ _ _ _ => ⟨hn, fun _ _ _ _ _ _ _ => ⟨hk, fun _ => ⟨hn, fun _ => ⟨hk, fun _ _ => ⟨trivial, fun _ _ => ⟨hk, fun _ _ _ => ⟨hk, fun _ => ⟨hn, fun _ => ⟨rfl, rfl, ?_⟩⟩⟩⟩⟩⟩⟩⟩⟩⟩
  iterate 8 (refine br_of (fun hx => by simp [hs] at hx) (fun _ => ?_))
  refine ⟨trivial, trivial, br_of (fun hx => by simp at hx) (fun _ => ?_)⟩
  refine LoopP.intro (fun i => 0 ≤ i.1.1 ∧ i.2.1 = Z) (fun i => (Z.listD ref).length - i.1.1.toNat) ⟨Int.le_refl _, rfl⟩ ?_
  rintro ⟨⟨k, _⟩, y, _⟩ ⟨k0, hy⟩
  simp only at k0 hy ⊢
  subst hy
  intro _
  refine br_of (fun hc => ?_) (fun _ => h)
  have hc : k < ((y.listD ref).length : Int) := of_decide_eq_true hc
  obtain ⟨e1, e2⟩ := list_look hk.wf (ixD_mem (e := xeTy) k0 hc)
  refine ⟨k0, hc, fun _ => ⟨hk, fun _ _ _ _ => ⟨k0, hc, fun _ => ?_⟩⟩⟩
  rw [e1, e2]
  exact br_of (fun hx => by simp [hs] at hx) (fun _ => br_of (fun hx => by simp at hx) (fun _ => ⟨by unfold inK; omega, ⟨by omega, rfl⟩, by omega⟩))
def c_alike : Ct
  | [.v (.c (.p 0 0)), .v (.c (.p 1 0))], [.ab (.upr ⟨84, 81, 3, 9⟩ Y), .ab (.rf 87 36 119 Z)], Q => Z = Y ∧ Y.OkN 1000000 ∧ Q (.bool true) [.ab (.upr ⟨84, 81, 3, 9⟩ Y), .ab (.rf 87 36 119 Y)]
  | _, _, _ => False
noncomputable def XW279 : Vx := { P := Tryz.prog, ct := (50, c_like) :: XW278.ct, ty := tyTab, hold := [100, 26] }
theorem XW279_ok : CtOk Inv Tryz.prog XW279.ct := CtOk.cons w_like (XW278_ok)
def vc_alike : (UpY) → (UpY) → (SV → List HO → Prop) → Prop :=
 fun Y Z Q => LoopP (fun i again => inK .i64 i.2.2.1.q1 → inK .i64 i.2.2.1.q2 → inK .i64 i.2.2.1.nx → br (decide (i.1.1 ≤ i.2.2.1.nx)) (i.2.2.1 = i.2.1 ∧ UpY.OkN i.2.1 (1000000 : Nat) ∧ inK .i64 (i.1.1 + 1) ∧ again ((i.1.1 + 1, ()), i.2.1, 
 i.2.1, ())) (True ∧ (inK .i64 1 → UpY.Ok i.2.1 ∧ (inK .i64 (↑(List.length i.2.1.L) : Int) → inK .i64 (UpY.usedB i.2.1) → UpY.OkN i.2.2.1 (1000000 : Nat) ∧ (inK .i64 (↑(List.length i.2.2.1.L) : Int) → inK .i64 (UpY.usedB i.2.2.1) → br 
 ((↑(List.length i.2.1.L) : Int) == (↑(List.length i.2.2.1.L) : Int) && (UpY.usedB i.2.1 == UpY.usedB i.2.2.1 && true)) (UpY.Ok i.2.1 ∧ UpY.OkN i.2.2.1 (1000000 : Nat) ∧ Q (.v (.c (.k (.bool (UpY.over i.2.1 == UpY.over i.2.2.1))))) [.ab 
 (.upr ⟨84, 81, 3, 9⟩ i.2.1), .ab (.rf 87 36 119 i.2.2.1)]) (Q (.v (.c (.k (.bool false)))) [.ab (.upr ⟨84, 81, 3, 9⟩ i.2.1), .ab (.rf 87 36 119 i.2.2.1)])))))) (((-1 : Int), ()), Y, Z, ())
theorem vc_alike_eq (Y : UpY) (Z : UpY) (Q : SV → List HO → Prop) : vFun XW279 ⟨[(3, ⟨[(5, .int .i64)], [(0, .ab (.upr ⟨84, 81, 3, 9⟩)), (1, .ab (.rf 87 36 119))]⟩)], []⟩ Tryz.f13 [.v (.c (.p 0 0)), .v (.c (.p 1 0))] [.ab (.upr ⟨84, 81, 3, 9⟩ Y), .ab (.rf 87 36 119 Z)] Q = vc_alike Y Z Q := by kernel_rfl
theorem w_alike : ∀ args H Q, c_alike args H Q → Wp Inv Tryz.prog 13 args H Q := by
  intro args H Q h
  unfold c_alike at h
  split at h
  rotate_left
  · exact h.elim
  rename_i Y Z
  refine Wp.enter (X := XW279) XW279_ok ⟨[(3, ⟨[(5, .int .i64)], [(0, .ab (.upr ⟨84, 81, 3, 9⟩)), (1, .ab (.rf 87 36 119))]⟩)], []⟩ (fn := Tryz.f13) (by kernel_rfl) ?_
  have hv := vc_alike_eq Y Z Q
  rw [show vFun _ _ _ _ _ _ = _ from hv]
  unfold vc_alike
  obtain ⟨rfl, hn, h⟩ := h
  have hk := hn.ok (Nat.le_refl _)
  have hnb := hn.nb
  refine LoopP.intro (fun i => -1 ≤ i.1.1 ∧ i.2.1 = Z ∧ i.2.2.1 = Z) (fun i => (Z.nx + 1 - i.1.1).toNat) ⟨Int.le_refl _, rfl, rfl⟩ ?_
  rintro ⟨⟨k, _⟩, y, z, _⟩ ⟨k0, hy, hz⟩
  simp only at k0 hy hz ⊢
  rw [hy, hz]
  intro _ _ _
  refine br_of (fun hc => ?_) (fun _ => ?_)
  · have hc : k ≤ Z.nx := of_decide_eq_true hc
    exact ⟨rfl, hn, by unfold inK; omega, ⟨by omega, rfl, rfl⟩, by omega⟩
  refine ⟨trivial, fun _ => ⟨hk, fun _ _ => ⟨hn, fun _ _ => br_of (fun _ => ⟨hk, hn, ?_⟩) (fun hx => by simp at hx)⟩⟩⟩
  rw [beq_self_eq_true Z.over]
  exact h
def c_lshown : Ct
  | [], [], Q => Q (.bool true) []
  | _, _, _ => False
noncomputable def XW280 : Vx := { P := Tryz.prog, ct := (13, c_alike) :: XW279.ct, ty := tyTab, hold := [100, 26] }
theorem XW280_ok : CtOk Inv Tryz.prog XW280.ct := CtOk.cons w_alike (XW279_ok)
def vc_lshown : (SV → List HO → Prop) → Prop :=
 fun Q => [UInt8.ofNat 104, UInt8.ofNat 105] ≠ [] ∧ UpY.Ok (UpY.new (9 : Int) (999 : Int)) ∧ (inK .i64 (UpY.makeR (UpY.new (9 : Int) (999 : Int)) (1 : Int) (ByteArray.mk #[(97 : UInt8)]) ([], (0 : Int), (2 : Int), ((0 : Int), (0 : Int), (0 : 
 Int), ()), [UInt8.ofNat 104, UInt8.ofNat 105], ByteArray.mk #[], [], false, ())) → inK .i64 (UpY.makeE (UpY.new (9 : Int) (999 : Int)) (1 : Int) (ByteArray.mk #[(97 : UInt8)]) ([], (0 : Int), (2 : Int), ((0 : Int), (0 : Int), (0 : Int), 
 ()), [UInt8.ofNat 104, UInt8.ofNat 105], ByteArray.mk #[], [], false, ())) → UpY.Ok (UpY.makeY (UpY.new (9 : Int) (999 : Int)) (1 : Int) (ByteArray.mk #[(97 : UInt8)]) ([], (0 : Int), (2 : Int), ((0 : Int), (0 : Int), (0 : Int), ()), 
 [UInt8.ofNat 104, UInt8.ofNat 105], ByteArray.mk #[], [], false, ())) ∧ (inK .i64 (UpY.linkE (UpY.makeY (UpY.new (9 : Int) (999 : Int)) (1 : Int) (ByteArray.mk #[(97 : UInt8)]) ([], (0 : Int), (2 : Int), ((0 : Int), (0 : Int), (0 : Int), 
 ()), [UInt8.ofNat 104, UInt8.ofNat 105], ByteArray.mk #[], [], false, ())) (1 : Int) (ByteArray.mk #[(98 : UInt8)]) (2 : Int)) → UpY.Ok (UpY.linkY (UpY.makeY (UpY.new (9 : Int) (999 : Int)) (1 : Int) (ByteArray.mk #[(97 : UInt8)]) ([], (0 : 
 Int), (2 : Int), ((0 : Int), (0 : Int), (0 : Int), ()), [UInt8.ofNat 104, UInt8.ofNat 105], ByteArray.mk #[], [], false, ())) (1 : Int) (ByteArray.mk #[(98 : UInt8)]) (2 : Int)) ∧ (inK .i64 (UpY.removeE (UpY.linkY (UpY.makeY (UpY.new (9 : 
 Int) (999 : Int)) (1 : Int) (ByteArray.mk #[(97 : UInt8)]) ([], (0 : Int), (2 : Int), ((0 : Int), (0 : Int), (0 : Int), ()), [UInt8.ofNat 104, UInt8.ofNat 105], ByteArray.mk #[], [], false, ())) (1 : Int) (ByteArray.mk #[(98 : UInt8)]) (2 : 
 Int)) (1 : Int) (ByteArray.mk #[(97 : UInt8)])) → UpY.Ok (UpY.removeY (UpY.linkY (UpY.makeY (UpY.new (9 : Int) (999 : Int)) (1 : Int) (ByteArray.mk #[(97 : UInt8)]) ([], (0 : Int), (2 : Int), ((0 : Int), (0 : Int), (0 : Int), ()), 
 [UInt8.ofNat 104, UInt8.ofNat 105], ByteArray.mk #[], [], false, ())) (1 : Int) (ByteArray.mk #[(98 : UInt8)]) (2 : Int)) (1 : Int) (ByteArray.mk #[(97 : UInt8)])) ∧ (inK .i64 (UpY.statD (UpY.removeY (UpY.linkY (UpY.makeY (UpY.new (9 : Int) 
 (999 : Int)) (1 : Int) (ByteArray.mk #[(97 : UInt8)]) ([], (0 : Int), (2 : Int), ((0 : Int), (0 : Int), (0 : Int), ()), [UInt8.ofNat 104, UInt8.ofNat 105], ByteArray.mk #[], [], false, ())) (1 : Int) (ByteArray.mk #[(98 : UInt8)]) (2 : 
 Int)) (1 : Int) (ByteArray.mk #[(97 : UInt8)])) (2 : Int)).1 → inK .i64 (UpY.statD (UpY.removeY (UpY.linkY (UpY.makeY (UpY.new (9 : Int) (999 : Int)) (1 : Int) (ByteArray.mk #[(97 : UInt8)]) ([], (0 : Int), (2 : Int), ((0 : Int), (0 : Int), 
 (0 : Int), ()), [UInt8.ofNat 104, UInt8.ofNat 105], ByteArray.mk #[], [], false, ())) (1 : Int) (ByteArray.mk #[(98 : UInt8)]) (2 : Int)) (1 : Int) (ByteArray.mk #[(97 : UInt8)])) (2 : Int)).2.1.1 → inK .i64 (UpY.statD (UpY.removeY 
 (UpY.linkY (UpY.makeY (UpY.new (9 : Int) (999 : Int)) (1 : Int) (ByteArray.mk #[(97 : UInt8)]) ([], (0 : Int), (2 : Int), ((0 : Int), (0 : Int), (0 : Int), ()), [UInt8.ofNat 104, UInt8.ofNat 105], ByteArray.mk #[], [], false, ())) (1 : Int) 
 (ByteArray.mk #[(98 : UInt8)]) (2 : Int)) (1 : Int) (ByteArray.mk #[(97 : UInt8)])) (2 : Int)).2.1.2.1 → inK .i64 (UpY.statD (UpY.removeY (UpY.linkY (UpY.makeY (UpY.new (9 : Int) (999 : Int)) (1 : Int) (ByteArray.mk #[(97 : UInt8)]) ([], (0 
 : Int), (2 : Int), ((0 : Int), (0 : Int), (0 : Int), ()), [UInt8.ofNat 104, UInt8.ofNat 105], ByteArray.mk #[], [], false, ())) (1 : Int) (ByteArray.mk #[(98 : UInt8)]) (2 : Int)) (1 : Int) (ByteArray.mk #[(97 : UInt8)])) (2 : 
 Int)).2.1.2.2.1 → inK .i64 (UpY.statD (UpY.removeY (UpY.linkY (UpY.makeY (UpY.new (9 : Int) (999 : Int)) (1 : Int) (ByteArray.mk #[(97 : UInt8)]) ([], (0 : Int), (2 : Int), ((0 : Int), (0 : Int), (0 : Int), ()), [UInt8.ofNat 104, 
 UInt8.ofNat 105], ByteArray.mk #[], [], false, ())) (1 : Int) (ByteArray.mk #[(98 : UInt8)]) (2 : Int)) (1 : Int) (ByteArray.mk #[(97 : UInt8)])) (2 : Int)).2.2.1 → inK .i64 (UpY.statD (UpY.removeY (UpY.linkY (UpY.makeY (UpY.new (9 : Int) 
 (999 : Int)) (1 : Int) (ByteArray.mk #[(97 : UInt8)]) ([], (0 : Int), (2 : Int), ((0 : Int), (0 : Int), (0 : Int), ()), [UInt8.ofNat 104, UInt8.ofNat 105], ByteArray.mk #[], [], false, ())) (1 : Int) (ByteArray.mk #[(98 : UInt8)]) (2 : 
 Int)) (1 : Int) (ByteArray.mk #[(97 : UInt8)])) (2 : Int)).2.2.2.1 → inK .i64 (UpY.atE (UpY.removeY (UpY.linkY (UpY.makeY (UpY.new (9 : Int) (999 : Int)) (1 : Int) (ByteArray.mk #[(97 : UInt8)]) ([], (0 : Int), (2 : Int), ((0 : Int), (0 : 
 Int), (0 : Int), ()), [UInt8.ofNat 104, UInt8.ofNat 105], ByteArray.mk #[], [], false, ())) (1 : Int) (ByteArray.mk #[(98 : UInt8)]) (2 : Int)) (1 : Int) (ByteArray.mk #[(97 : UInt8)])) (2 : Int)) → Q (.v (.c (.k (.bool ((UpY.statD 
 (UpY.removeY (UpY.linkY (UpY.makeY (UpY.new (9 : Int) (999 : Int)) (1 : Int) (ByteArray.mk #[(97 : UInt8)]) ([], (0 : Int), (2 : Int), ((0 : Int), (0 : Int), (0 : Int), ()), [UInt8.ofNat 104, UInt8.ofNat 105], ByteArray.mk #[], [], false, 
 ())) (1 : Int) (ByteArray.mk #[(98 : UInt8)]) (2 : Int)) (1 : Int) (ByteArray.mk #[(97 : UInt8)])) (2 : Int)).1 == 2 && ((UpY.statD (UpY.removeY (UpY.linkY (UpY.makeY (UpY.new (9 : Int) (999 : Int)) (1 : Int) (ByteArray.mk #[(97 : UInt8)]) 
 ([], (0 : Int), (2 : Int), ((0 : Int), (0 : Int), (0 : Int), ()), [UInt8.ofNat 104, UInt8.ofNat 105], ByteArray.mk #[], [], false, ())) (1 : Int) (ByteArray.mk #[(98 : UInt8)]) (2 : Int)) (1 : Int) (ByteArray.mk #[(97 : UInt8)])) (2 : 
 Int)).2.1.1 == 0 && ((UpY.statD (UpY.removeY (UpY.linkY (UpY.makeY (UpY.new (9 : Int) (999 : Int)) (1 : Int) (ByteArray.mk #[(97 : UInt8)]) ([], (0 : Int), (2 : Int), ((0 : Int), (0 : Int), (0 : Int), ()), [UInt8.ofNat 104, UInt8.ofNat 
 105], ByteArray.mk #[], [], false, ())) (1 : Int) (ByteArray.mk #[(98 : UInt8)]) (2 : Int)) (1 : Int) (ByteArray.mk #[(97 : UInt8)])) (2 : Int)).2.1.2.1 == 0 && ((UpY.statD (UpY.removeY (UpY.linkY (UpY.makeY (UpY.new (9 : Int) (999 : Int)) 
 (1 : Int) (ByteArray.mk #[(97 : UInt8)]) ([], (0 : Int), (2 : Int), ((0 : Int), (0 : Int), (0 : Int), ()), [UInt8.ofNat 104, UInt8.ofNat 105], ByteArray.mk #[], [], false, ())) (1 : Int) (ByteArray.mk #[(98 : UInt8)]) (2 : Int)) (1 : Int) 
 (ByteArray.mk #[(97 : UInt8)])) (2 : Int)).2.1.2.2.1 == 0 && true)) && ((UpY.statD (UpY.removeY (UpY.linkY (UpY.makeY (UpY.new (9 : Int) (999 : Int)) (1 : Int) (ByteArray.mk #[(97 : UInt8)]) ([], (0 : Int), (2 : Int), ((0 : Int), (0 : Int), 
 (0 : Int), ()), [UInt8.ofNat 104, UInt8.ofNat 105], ByteArray.mk #[], [], false, ())) (1 : Int) (ByteArray.mk #[(98 : UInt8)]) (2 : Int)) (1 : Int) (ByteArray.mk #[(97 : UInt8)])) (2 : Int)).2.2.1 == 1 && ((UpY.statD (UpY.removeY (UpY.linkY 
 (UpY.makeY (UpY.new (9 : Int) (999 : Int)) (1 : Int) (ByteArray.mk #[(97 : UInt8)]) ([], (0 : Int), (2 : Int), ((0 : Int), (0 : Int), (0 : Int), ()), [UInt8.ofNat 104, UInt8.ofNat 105], ByteArray.mk #[], [], false, ())) (1 : Int) 
 (ByteArray.mk #[(98 : UInt8)]) (2 : Int)) (1 : Int) (ByteArray.mk #[(97 : UInt8)])) (2 : Int)).2.2.2.1 == 2 && true)))))))) []))))
theorem vc_lshown_eq  (Q : SV → List HO → Prop) : vFun XW280 ⟨[], []⟩ Tryz.f8 [] [] Q = vc_lshown  Q := by kernel_rfl
theorem w_lshown : ∀ args H Q, c_lshown args H Q → Wp Inv Tryz.prog 8 args H Q := by
  intro args H Q h
  unfold c_lshown at h
  split at h
  rotate_left
  · exact h.elim
  refine Wp.enter (X := XW280) XW280_ok ⟨[], []⟩ (fn := Tryz.f8) (by kernel_rfl) ?_
  have hv := vc_lshown_eq  Q
  rw [show vFun _ _ _ _ _ _ = _ from hv]
  unfold vc_lshown
  clear hv
  have o0 := new_okN 9 999
  have o1 := okN_make o0 1 ⟨#[97]⟩ (([], 0, 2, (0, 0, 0, ()), [UInt8.ofNat 104, UInt8.ofNat 105], ⟨#[]⟩, [], false, ()) : NoD)
  have o2 := okN_link o1 1 ⟨#[98]⟩ 2
  have o3 := okN_remove o2 1 ⟨#[97]⟩
  refine ⟨by simp, o0.ok (by decide), fun _ _ => ⟨o1.ok (by decide), fun _ => ⟨o2.ok (by decide), fun _ => ⟨o3.ok (by decide), fun _ _ _ _ _ _ _ => ?_⟩⟩⟩⟩
  refine Eq.mp (congrArg (fun z => Q (SV.bool z) []) (Eq.symm ?_)) h
  decide +kernel
end Go.Proofs

namespace Go.Lm
open Go Go.RowKit
section
variable {P : Program}
def OpensD (P : Program) (t : TypeId) (e : Ty) : Prop := @Opens P t e.den e.rep
def OpensF (P : Program) (fs : List Field) (off : Nat) (e : Ty) : Prop :=
  ∀ {H : Type} (enc : TypeId × Value → H) (w : World) (base : Nat) (spare : Nat → Bool) (held : Bool) (fuel : Nat) (cs : List Value), cs.length = off + e.size →
    (∀ f ∈ fs, ∃ y, DataW.trod enc P w base spare held fuel f.type ((cs.drop f.offset).take (P.cellsOf f.type)) = some y) → ∃ x : e.den, e.rep.rel w (cs.drop off) x
theorem opensF_nil {off : Nat} : OpensF P [] off .unit := fun _ _ _ _ _ _ cs hl _ => ⟨(), by
  show cs.drop off = []
  exact List.drop_eq_nil_of_le (by rw [hl]; exact Nat.le_refl _)⟩
theorem opensF_cons {a b : Ty} {f : Field} {fs : List Field} {off : Nat} (ho : f.offset = off) (hs : P.cellsOf f.type = a.size) (h1 : OpensD P f.type a) (h2 : OpensF P fs (off + a.size) b) : OpensF P (f :: fs) off (.pair a b) := fun enc w base spare held fuel cs hl h => by
  obtain ⟨y, hy⟩ := h f (by simp)
  obtain ⟨x, hx⟩ := h1 enc w base spare held fuel _ y hy
  have hl' : cs.length = off + (a.size + b.size) := hl
  obtain ⟨r, hr⟩ := h2 enc w base spare held fuel cs (by omega) fun g hg => h g (List.mem_cons_of_mem _ hg)
  rw [ho, hs] at hx
  refine ⟨(x, r), _, _, ?_, hx, hr⟩
  rw [← List.drop_drop, List.take_append_drop]
theorem opensD_struct {t : TypeId} {e : Ty} {fs : Array Field} (ht : P.underlying t = some (.struct fs)) (hs : P.cellsOf t = e.size) (h : OpensF P fs.toList 0 e) : OpensD P t e := fun enc w base spare held fuel cs y hy => by
  obtain ⟨xs, n, _, _, hlen, hxl, hf⟩ := DataW.trod_struct ht hy
  obtain ⟨x, hx⟩ := h enc w base spare held n cs (by rw [hlen, hs]; omega) fun f hm => by
    obtain ⟨i, hi⟩ := List.getElem?_of_mem hm
    have hi' : fs[i]? = some f := by simpa using hi
    have hlt : i < xs.length := by rw [hxl]; exact (Array.getElem?_eq_some_iff.1 hi').1
    exact ⟨xs[i], by rw [hf i f hi', List.getElem?_eq_getElem hlt]⟩
  rw [List.drop_zero] at hx
  exact ⟨x, hx⟩
theorem opensD_int {k : IntKind} {t : TypeId} (ht : P.underlying t = some (.int k)) : OpensD P t (.int k) := fun _ _ _ _ _ _ _ _ h => by
  obtain ⟨n, hc, _, hw⟩ := DataW.trod_int ht h
  exact ⟨n, hc, hw⟩
def fit (P : Program) : Ty → TypeId ⊕ (List Field × Nat) → Bool
  | .int k, .inl t => match P.underlying t with
    | some (.int k') => IntKind.beq k k'
    | _ => false
  | .u8, .inl t => match P.underlying t with
    | some (.int .u8) => true
    | _ => false
  | .str, .inl t => match P.underlying t with
    | some .string => true
    | _ => false
  | .bool, .inl t => match P.underlying t with
    | some .bool => true
    | _ => false
  | .sl e, .inl t => match P.underlying t with
    | some (.slice et) => Nat.beq (P.cellsOf et) e.size && fit P e (.inl et)
    | _ => false
  | .unit, .inr ([], _) => true
  | .pair a b, .inr (f :: fs, off) => Nat.beq f.offset off && (Nat.beq (P.cellsOf f.type) a.size && (fit P a (.inl f.type) && fit P b (.inr (fs, off + a.size))))
  | .pair a b, .inl t => match P.underlying t with
    | some (.struct fs) => match fs.toList with
      | f :: r => Nat.beq (P.cellsOf t) (a.size + b.size) && (Nat.beq f.offset 0 && (Nat.beq (P.cellsOf f.type) a.size && (fit P a (.inl f.type) && fit P b (.inr (r, a.size)))))
      | [] => false
    | _ => false
  | _, _ => false
theorem fit_ok : ∀ (e : Ty), (∀ t, fit P e (.inl t) = true → OpensD P t e) ∧ ∀ fs off, fit P e (.inr (fs, off)) = true → OpensF P fs off e
  | .int k => by
    refine ⟨fun t h => ?_, fun fs off h => by simp [fit] at h⟩
    unfold fit at h
    split at h
    · rename_i k' hk
      rw [IntKind.eq_of_beq h]
      exact opensD_int hk
    · cases h
  | .u8 => by
    refine ⟨fun t h => ?_, fun fs off h => by simp [fit] at h⟩
    unfold fit at h
    split at h
    · rename_i hk; exact opens_byte hk
    · cases h
  | .str => by
    refine ⟨fun t h => ?_, fun fs off h => by simp [fit] at h⟩
    unfold fit at h
    split at h
    · rename_i hk; exact opens_str hk
    · cases h
  | .bool => by
    refine ⟨fun t h => ?_, fun fs off h => by simp [fit] at h⟩
    unfold fit at h
    split at h
    · rename_i hk; exact opens_bool hk
    · cases h
  | .unit => by
    refine ⟨fun t h => by simp [fit] at h, fun fs off h => ?_⟩
    cases fs with
    | nil => exact opensF_nil
    | cons f r => simp [fit] at h
  | .sl e => by
    refine ⟨fun t h => ?_, fun fs off h => by simp [fit] at h⟩
    unfold fit at h
    split at h
    · rename_i et hk
      rw [Bool.and_eq_true] at h
      exact @opens_list P t et e.den e.rep hk ((Nat.eq_of_beq_eq_true h.1).trans e.rep_size.symm) ((fit_ok e).1 et h.2)
    · cases h
  | .pair a b => by
    refine ⟨fun t h => ?_, fun fs off h => ?_⟩
    · unfold fit at h
      split at h
      · rename_i fs hk
        split at h
        · rename_i f r hf
          simp only [Bool.and_eq_true] at h
          obtain ⟨h1, h2, h3, h4, h5⟩ := h
          refine opensD_struct (e := .pair a b) hk (Nat.eq_of_beq_eq_true h1) ?_
          rw [hf]
          refine opensF_cons (Nat.eq_of_beq_eq_true h2) (Nat.eq_of_beq_eq_true h3) ((fit_ok a).1 _ h4) ?_
          rw [Nat.zero_add]
          exact (fit_ok b).2 _ _ h5
        · cases h
      · cases h
    · cases fs with
      | nil => simp [fit] at h
      | cons f r =>
        unfold fit at h
        simp only [Bool.and_eq_true] at h
        obtain ⟨h2, h3, h4, h5⟩ := h
        exact opensF_cons (Nat.eq_of_beq_eq_true h2) (Nat.eq_of_beq_eq_true h3) ((fit_ok a).1 _ h4) ((fit_ok b).2 _ _ h5)
theorem open_sl {t : TypeId} {e : Ty} (hf : fit P (.sl e) (.inl t) = true) {H : Type} {enc : TypeId × Value → H} {w : World} {base : Nat} {spare : Nat → Bool} {held : Bool} {v : Value} {d : DataW H} {ps : List MemPlace}
    (hv : v.cells = #[v]) (h : DataW.Trod enc P w base spare held t v d ps) : ∃ x : List e.den, IsD e w v x :=
  @open_one P t (List e.den) (listRep e.den e.rep) ((fit_ok (.sl e)).1 t hf) rfl H enc w base spare held v d ps hv h
theorem open_st {t : TypeId} {e : Ty} (hf : fit P e (.inl t) = true) {H : Type} {enc : TypeId × Value → H} {w : World} {base : Nat} {spare : Nat → Bool} {held : Bool} {cs : Array Value} {d : DataW H} {ps : List MemPlace}
    (h : DataW.Trod enc P w base spare held t (.agg cs) d ps) : ∃ x : e.den, e.rep.rel w cs.toList x := by
  obtain ⟨fuel, hf2⟩ := h
  exact (fit_ok e).1 t hf enc w base spare held fuel _ _ hf2
theorem Wp.run {I : Base → Prop} {f : FuncId} {args : List SV} {vs : List Value} {w : World} {b : Bool} (hI : I ⟨w, w⟩) (h : Wp I P f args [] fun v _ => v = SV.bool b) (hv : RelVs [] w args vs) : Ret P f vs.toArray w fun v w' => v = .bool b ∧ Le w w' := by
  have S : SL ⟨w, w⟩ w w [] := SL.start (Sees.refl w)
  refine (h ⟨w, w⟩ hI w w [] [] vs ⟨S, rfl⟩ hv).mono fun v w' ⟨E', g', sv, H', _, _, S', r, q⟩ => ?_
  subst q
  exact ⟨r.1, S'.sl.toLe⟩
end
end Go.Lm

namespace Go.Proofs
open Go Go.Lm Go.RowKit
set_option maxRecDepth 1000000
def c_lsteps : Ct
  | [.v (.agg cq), .v (.c cl)], [], Q => (match (quTy).of cq with
    | some (q, []) => (match (Ty.sl opTy).of [cl] with
    | some (l, []) => Q (.bool true) []
    | _ => False)
    | _ => False)
  | _, _, _ => False
noncomputable def XW381 : Vx := { P := Tryz.prog, ct := (8, c_lshown) :: XW280.ct, ty := tyTab, hold := [100, 26] }
theorem XW381_ok : CtOk Inv Tryz.prog XW381.ct := CtOk.cons w_lshown (XW280_ok)
def vc_lsteps : ((quTy).den) → (List (opTy).den) → (SV → List HO → Prop) → Prop :=
 fun q l Q => inK .i64 q.1 → inK .i64 q.2.1 → List.length l ≤ 9223372036854775807 → LoopP (fun i again => List.length l ≤ 9223372036854775807 → br (decide (i.1.1 < (l.length : Int))) (br (decide (i.1.1 < 15)) (0 ≤ i.1.1 ∧ i.1.1 < (l.length : 
 Int) ∧ (Ty.ok opTy (ixD opTy l i.1.1) → (13 : Int) ≠ (0 : Int) ∧ (inK .i64 (kindI (ixD opTy l i.1.1).1 (13 : Int)) → i.2.2.1 = i.2.1 ∧ UpY.OkN i.2.1 (1000000 : Nat) ∧ UpY.doD i.2.1 (clipO (kindI (ixD opTy l i.1.1).1 (13 : Int), (ixD opTy l 
 i.1.1).2)) = UpY.doD i.2.1 (clipO (kindI (ixD opTy l i.1.1).1 (13 : Int), (ixD opTy l i.1.1).2)) ∧ UpY.OkN (UpY.doD i.2.1 (clipO (kindI (ixD opTy l i.1.1).1 (13 : Int), (ixD opTy l i.1.1).2))) (1000000 : Nat) ∧ inK .i64 (i.1.1 + 1) ∧ again 
 ((i.1.1 + 1, ()), UpY.doD i.2.1 (clipO (kindI (ixD opTy l i.1.1).1 (13 : Int), (ixD opTy l i.1.1).2)), UpY.doD i.2.1 (clipO (kindI (ixD opTy l i.1.1).1 (13 : Int), (ixD opTy l i.1.1).2)), ())))) (Q (.v (.c (.k (.bool true)))) [])) (Q (.v 
 (.c (.k (.bool true)))) [])) (((0 : Int), ()), UpY.new q.1 q.2.1, UpY.new q.1 q.2.1, ())
theorem vc_lsteps_eq (q : (quTy).den) (l : List (opTy).den) (Q : SV → List HO → Prop) : vFun XW381 ⟨[(8, ⟨[(8, .int .i64)], [(1, .ab (.upr ⟨84, 81, 3, 9⟩)), (2, .ab (.rf 87 36 119))]⟩)], []⟩ Tryz.f3 [.v (.agg (Ty.cells quTy q)), .c (.d opTy l)] [] Q = vc_lsteps q l Q := by kernel_rfl
theorem w_lsteps : ∀ args H Q, c_lsteps args H Q → Wp Inv Tryz.prog 3 args H Q := by
  intro args H Q h
  unfold c_lsteps at h
  split at h
  rotate_left
  · exact h.elim
  rename_i cq cl
  split at h
  rotate_left
  · exact h.elim
  rename_i q hq
  split at h
  rotate_left
  · exact h.elim
  rename_i l hl
  refine Wp.said (args' := [.v (.agg (Ty.cells quTy q)), .c (.d opTy l)]) (fun E g => RelVs.cons1 (of_row hq) (RelVs.cons1 (of_list hl) (fun _ h => h))) ?_
  clear hq hl
  refine Wp.enter (X := XW381) XW381_ok ⟨[(8, ⟨[(8, .int .i64)], [(1, .ab (.upr ⟨84, 81, 3, 9⟩)), (2, .ab (.rf 87 36 119))]⟩)], []⟩ (fn := Tryz.f3) (by kernel_rfl) ?_
  have hv := vc_lsteps_eq q l Q
  rw [show vFun _ _ _ _ _ _ = _ from hv]
  unfold vc_lsteps
  clear hv
  intro _ _ _
  refine LoopP.intro (fun i => 0 ≤ i.1.1 ∧ i.1.1 ≤ 15 ∧ i.2.2.1 = i.2.1 ∧ i.2.1.OkN i.1.1.toNat) (fun i => l.length - i.1.1.toNat) ⟨Int.le_refl _, by show (0 : Int) ≤ 15; omega, rfl, new_okN _ _⟩ ?_
  rintro ⟨⟨k, _⟩, y, z, _⟩ ⟨k0, k1, hz, hn⟩
  simp only at k0 k1 hz hn ⊢
  rw [hz]
  intro _
  refine br_of (fun hc => br_of (fun hd => ?_) (fun _ => h)) (fun _ => h)
  have hc := of_decide_eq_true hc
  have hd := of_decide_eq_true hd
  have hn2 := okN_do hn (clipO (kindI (ixD opTy l k).1 13, (ixD opTy l k).2))
  refine ⟨k0, hc, fun _ => ⟨by decide, fun _ => ⟨by first | rfl | exact True.intro, hn.le (by omega), by first | rfl | exact True.intro, hn2.le (by omega), by unfold inK; omega, ⟨by omega, by omega, by first | rfl | exact True.intro, ?_⟩, by omega⟩⟩⟩
  rw [show (k + 1).toNat = k.toNat + 1 by omega]
  exact hn2
theorem steps_any (q : quTy.den) (l : List OpD) (cs : Array Value) (v : Value) (W : World) (h0 : quTy.rep.rel W cs.toList q) (h1 : IsD opTy W v l) : Ret Tryz.prog 3 #[.agg cs, v] W fun v w' => v = .bool true ∧ Le W w' :=
  Wp.run trivial (w_lsteps [.v (.agg (quTy.cells q)), .v (.c (.d opTy l))] [] _ (by
    have e : (Ty.sl opTy).of [.d opTy l] = some (l, []) := by kernel_rfl
    have e2 : quTy.of (quTy.cells q) = some (q, []) := by kernel_rfl
    unfold c_lsteps
    simp only [e2, e])) ⟨.agg cs, [v], rfl, ⟨cs.toList, (rel_cells [] W quTy h0).1, rfl⟩, v, [], rfl, h1, rfl⟩
end Go.Proofs

