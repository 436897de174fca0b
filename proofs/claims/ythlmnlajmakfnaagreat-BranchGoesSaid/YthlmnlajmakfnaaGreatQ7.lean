/- Texts of mine, laid together: LmVzb LmYg U11. -/
import Derived.Test.YthlmnlajmakfnaaGreatQ6
import Derived.Test.YthlmnlajmakfnaaGreatQ3
import Derived.Sort.KeysCollected
import Derived.Sort.Walk0
import Derived.Test.YthlmnlajmakfnaaGreatProg
import Derived.Test.YthlmnlajmakfnaaGreatChecked
set_option linter.unusedVariables false
namespace Go.Lm
open Go Go.RowKit Go.Maps Go.WideShapes
section
variable {W : Base} {g w w' : World} {l : List Atom} {et : TypeId} {size n : Nat} {v : Value} {xs : List Value}
end
section
variable {P : Program} {I : Base → Prop} {f fk : FuncId} {Q : SV → List HO → Prop} {T : UTy} {q1 q2 nx : Int} {mb : Nat} {L : List (Int × LNode)}
end
end Go.Lm

namespace Go.Lm
open Go Go.RowKit
def UpY.new (a b : Int) : UpY := ⟨a, b, [([], 1, 1, (493, 0, 0, ()), [], ⟨#[]⟩, [], false, ())], [], 2⟩
theorem RepY.new (a b : Int) {bk ib : Nat} {vd vx : Value} : RepY [((1 : Int), (LNode.mk bk 1 493 0 0 vd [] ⟨#[]⟩ vx (List.map xaO []) false (Value.map (some ib)) [] 0 1))] (UpY.new a b) := by
  refine ⟨List.Perm.refl _, fun r n h => ?_⟩
  rw [getK_cons'] at h
  by_cases q : (1 : Int) = r
  · rw [if_pos q] at h
    obtain rfl := Option.some.inj h
    subst q
    exact ⟨_, rfl, rfl, rfl, rfl, rfl, rfl, rfl, rfl, rfl, List.Perm.refl _, rfl, fun _ e he => by cases he⟩
  · rw [if_neg q] at h; cases h
theorem new_wf (a b : Int) : (UpY.new a b).Wf where
  nd := by simp [UpY.new]
  lo := fun n hn => by
    have : n = _ := List.mem_singleton.1 hn
    subst this
    exact ⟨by decide, by show (1 : Int) < 2; decide⟩
  root := rfl
  nm := fun n hn => by
    have : n = _ := List.mem_singleton.1 hn
    subst this
    exact ⟨rfl, .inl rfl, by kernel_rfl⟩
  ne := by simp [UpY.new]
  dir := fun e he => by cases he
  ref := fun e he => by cases he
  has := fun n hn h => by
    have : n = _ := List.mem_singleton.1 hn
    subst this
    exact absurd rfl h
  one := fun e he => by cases he
  dep := ⟨fun _ => 0, fun e he => by cases he⟩
def insX (x : XeD) : List XeD → List XeD
  | [] => [x]
  | y :: l => if sLt x.1 y.1 then x :: y :: l else y :: insX x l
def UpY.xe (Y : UpY) (e : EnD) : XeD := (e.2.1, Y.kindOf e.2.2.1, e.2.2.1, ())
def UpY.listD (Y : UpY) (r : Int) : List XeD := if Y.dirE r = 0 then (Y.E.filter (ofD r)).foldl (fun out e => insX (Y.xe e) out) [] else []
theorem sLt_iff (a b : ByteArray) : sLt a b = decide (a.data.toList < b.data.toList) := by
  unfold sLt
  rw [Lib.toList_data, Lib.toList_data, Go.Proofs.bytesLess_eq]
abbrev leX (a b : XeD) : Prop := a.1.data.toList ≤ b.1.data.toList
theorem insX_perm (x : XeD) : ∀ l, (insX x l).Perm (x :: l)
  | [] => List.Perm.refl _
  | y :: l => by
    unfold insX
    split
    · exact List.Perm.refl _
    · exact ((insX_perm x l).cons y).trans (List.Perm.swap _ _ _)
theorem insX_sorted (x : XeD) : ∀ {l}, l.Pairwise leX → (insX x l).Pairwise leX
  | [], _ => by simp [insX]
  | y :: l, h => by
    obtain ⟨h1, h2⟩ := List.pairwise_cons.1 h
    unfold insX
    split
    · rename_i hlt
      rw [sLt_iff, decide_eq_true_eq] at hlt
      have hxy : leX x y := List.le_of_lt hlt
      refine List.pairwise_cons.2 ⟨fun z hz => ?_, h⟩
      rcases List.mem_cons.1 hz with rfl | hz
      · exact hxy
      · exact List.le_trans hxy (h1 z hz)
    · rename_i hlt
      rw [sLt_iff, decide_eq_true_eq] at hlt
      have hyx : leX y x := List.not_lt.1 hlt
      refine List.pairwise_cons.2 ⟨fun z hz => ?_, insX_sorted x h2⟩
      rcases List.mem_cons.1 ((insX_perm x l).mem_iff.1 hz) with rfl | hz
      · exact hyx
      · exact h1 z hz
theorem fold_insX (f : EnD → XeD) : ∀ (l : List EnD) (out : List XeD), out.Pairwise leX → (l.foldl (fun out e => insX (f e) out) out).Perm (l.map f ++ out) ∧ (l.foldl (fun out e => insX (f e) out) out).Pairwise leX
  | [], out, h => ⟨List.Perm.refl _, h⟩
  | e :: l, out, h => by
    obtain ⟨h1, h2⟩ := fold_insX f l (insX (f e) out) (insX_sorted _ h)
    refine ⟨h1.trans ?_, h2⟩
    rw [List.map_cons]
    exact ((insX_perm (f e) out).append_left (l.map f)).trans List.perm_middle
theorem ixD_get {e : Ty} {l : List e.den} {i : Int} (h0 : 0 ≤ i) (h : i < l.length) : ixD e l i = l[i.toNat]'(by omega) := by
  unfold ixD
  rw [List.getD_eq_getElem?_getD, List.getElem?_eq_getElem (by omega)]; rfl
theorem ixD_mem {e : Ty} {l : List e.den} {i : Int} (h0 : 0 ≤ i) (h : i < l.length) : ixD e l i ∈ l := by
  rw [ixD_get h0 h]; exact List.getElem_mem _
end Go.Lm

namespace Go.Proofs
open Go Go.Lm Go.RowKit
set_option maxRecDepth 1000000
def c_newu : Ct
  | [.v (.agg cq)], [], Q => (match (quTy).of cq with
    | some (q, []) => Q (.c (.p 0 0)) [.ab (.upr ⟨84, 81, 3, 9⟩ (UpY.new q.1 q.2.1))]
    | _ => False)
  | _, _, _ => False
noncomputable def XU1134 : Vx := { P := Tryz.prog, ct := [(31, c_over), (21, c_used), (17, c_remove), (59, c_let), (59, c_letz), (38, c_move), (32, c_link), (23, c_make), (25, c_xattrs), (24, c_read), (16, c_write), (41, c_resize), (45, c_setx), (47, c_setopq), (43, c_setattr), (88, c_within), (68, c_fresh), (69, c_good), (93, c_mayx), (113, c_bindex), (125, c_sindex), (70, c_attrs), (114, c_sclone), (112, c_valid), (55, c_bclone), (57, c_sized), (91, c_may), (101, c_opq), (97, c_target), (22, c_look), (33, c_stat), (67, c_entry), (56, c_file), (58, c_dir), (71, c_at)], ty := tyTab, hold := [], um := some ⟨84, 81, 3, 9⟩ }
theorem XU1134_ok : CtOk Inv Tryz.prog XU1134.ct := CtOk.cons w_over (CtOk.cons w_used (CtOk.cons w_remove (CtOk.cons w_let (CtOk.cons w_letz (CtOk.cons w_move (CtOk.cons w_link (CtOk.cons w_make (CtOk.cons w_xattrs (CtOk.cons w_read (CtOk.cons w_write (CtOk.cons w_resize (CtOk.cons w_setx (CtOk.cons w_setopq (CtOk.cons w_setattr (CtOk.cons w_within (CtOk.cons w_fresh (CtOk.cons w_good (CtOk.cons w_mayx (CtOk.cons w_bindex (CtOk.cons w_sindex (CtOk.cons w_attrs (CtOk.cons w_sclone (CtOk.cons w_valid (CtOk.cons w_bclone (CtOk.cons w_sized (CtOk.cons w_may (CtOk.cons w_opq (CtOk.cons w_target (CtOk.cons w_look (CtOk.cons w_stat (CtOk.cons w_entry (CtOk.cons w_file (CtOk.cons w_dir (CtOk.cons w_at (CtOk.nil _ _)))))))))))))))))))))))))))))))))))
def vc_newu : ((quTy).den) → (SV → List HO → Prop) → Prop :=
 fun q Q => inK .i64 q.1 → inK .i64 q.2.1 → ∀ (mb bk : Nat) (vd vx : Value) (ib : Nat), Value.map (some mb) = Value.map (some mb) ∧ getK ([] : List (Int × LNode)) (1 : Int) = none ∧ (0 : Nat) < (9223372036854775807 : Nat) ∧ Q (SV.v (S1.c (.p 
 0 0))) [.cells 84 [.k (.int .i64 q.1), .k (.int .i64 q.2.1), Cl.kl (1 : Nat) (Value.map (some mb)), .k (.int .i64 2)], HO.ab (AbK.um (UTy.mk (84 : TypeId) (81 : TypeId) (3 : TypeId) (9 : TypeId)) mb [((1 : Int), LNode.mk bk (1 : Int) (493 : 
 Int) (0 : Int) (0 : Int) vd [] (ByteArray.mk #[]) vx (List.map xaO []) false (Value.map (some ib)) [] (0 : Int) (1 : Int))])]
theorem vc_newu_eq (q : (quTy).den) (Q : SV → List HO → Prop) : vFun XU1134 ⟨[], []⟩ Tryz.f9 [.v (.agg (Ty.cells quTy q))] [] Q = vc_newu q Q := by kernel_rfl
theorem w_newu : ∀ args H Q, c_newu args H Q → Wp Inv Tryz.prog 9 args H Q := by
  intro args H Q h
  unfold c_newu at h
  split at h
  rotate_left
  · exact h.elim
  rename_i cq
  split at h
  rotate_left
  · exact h.elim
  rename_i q hq
  refine Wp.said (args' := [.v (.agg (Ty.cells quTy q))]) (fun E g => RelVs.cons1 (of_row hq) (fun _ h => h)) ?_
  clear hq
  refine (fun hh => Wp.sel (Wp.upNew (T := ⟨84, 81, 3, 9⟩) (p := 0) (l := 1) hh)) ?_
  refine Wp.enter (X := XU1134) XU1134_ok ⟨[], []⟩ (fn := Tryz.f9) (by kernel_rfl) ?_
  refine Eq.mpr (vc_newu_eq q _) ?_
  unfold vc_newu
  intro _ _ mb bk vd vx ib
  refine ⟨rfl, rfl, by decide, q.1, q.2.1, mb, 2, _, UpY.new q.1 q.2.1, by decide, rfl, rfl, ⟨rfl, rfl, rfl, rfl, RepY.new q.1 q.2.1⟩, [0], rfl, by simp, by simp, ?_⟩
  exact h
end Go.Proofs

