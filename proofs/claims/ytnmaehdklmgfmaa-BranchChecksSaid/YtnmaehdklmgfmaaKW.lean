/- upper.New tells a place. (Printed by a program of mine.) -/
import Derived.Test.YtnmaehdklmgfmaaProg
import Derived.Test.YtnmaehdklmgfmaaChecked
import Derived.Test.YtnmaehdklmgfmaaLmKA
import Derived.Test.YtnmaehdklmgfmaaLmKB
namespace Go.Proofs
open Go Go.RowKit Go.Lm
section
variable {P : Program} {W : Base} {g w : World} {l : List Atom}
theorem S_makeMap (κ : Type) [MKey κ] {ops : Array Oper} {rest : List Oper} {o : Oper} {n : Nat} {s : AL} {Q : Exit → Act → World → Prop} {d : Nat} {t k : TypeId} (H : SL W g w l) (ho : o.op = .makeMap t none) (hw : wants ops s o = some true) (hd : o.dst = some d) (hn : Nat.blt d n = true)
    (kk : ∀ b w', SL W g w' (mapA P k b ([] : List (κ × Value)) :: l) → wpR P ops rest n ((d, .map (some b)) :: s) Q w') : wpR P ops (o :: rest) n s Q w :=
  R_val (v := .map (some w.heap.size)) (w' := w.alloc (.map #[] 0)) hw (by simp [knows, noSel, ho, Op.operands]) hd hn (X_makeMap ho) (kk _ _ (H.mapNew (New.mk' w _)))
theorem X_insert {ρ : Operand → Value} {o : Oper} {x y z : Operand} {t : TypeId} {mv kv vv : Value} {w' : World} (ho : o.op = .insert t x y z) (hx : ρ x = mv) (hy : ρ y = kv) (hz : ρ z = vv) (h : (Instr.mapUpdate t mv kv vv).run P w = .ok () w') :
    (execOp ρ o).run P w = .ok .skip w' := by
  simp [execOp, ho, hx, hy, hz, h]
end
theorem wf_ok {x : Int} (h : (Lit.int .i64 x).wf = true) : MKey.ok (κ := Int) x := h
theorem kI : KeyT Try.prog 3 Int := keyT_int Try.underlying3
set_option linter.unusedVariables false in
set_option linter.unusedSimpArgs false in
set_option maxHeartbeats 4000000 in
set_option maxRecDepth 100000 in
theorem new_any (q1 q2 : Int) (W : Base) (g w : World) (F : List Atom) (H : SL W g w (F))  : Ret Try.prog 9 #[(.agg #[(.int .i64 q1), (.int .i64 q2)])] w fun v w' => ∃ u, v = ptr u 0 ∧ SL W g w' F := by
  refine enter (args := [(.agg #[(.int .i64 q1), (.int .i64 q2)])]) Try.func9 rfl rfl rfl ?_
  refine C_seq ?_
  refine C_region ?_
  refine S_box rfl rfl rfl rfl rfl _ rfl fun b1 w1 n1 => ?_
  replace H := H.new n1
  refine Rv (Go.Value.pointer none) w1 ?_
  refine wpR_nil ?_
  refine E_then_normal ?_
  refine C_seq ?_
  refine C_region ?_
  refine Rv (.agg #[(.int .i64 493), (.int .i64 0), (.int .i64 0)]) w1 ?_
  refine Rv (.agg #[(.slice none 0 0), (.int .i64 0), (.int .i64 1), (.int .i64 493), (.int .i64 0), (.int .i64 0), (.slice none 0 0), (.string (⟨#[]⟩)), (.slice none 0 0), (.bool false)]) w1 ?_
  refine S_makeMap ByteArray (k := 9) H rfl rfl rfl rfl fun b2 w2 Hn => ?_
  replace H := Hn
  clear Hn
  refine Rv (.agg #[(.slice none 0 0), (.int .i64 0), (.int .i64 1), (.int .i64 493), (.int .i64 0), (.int .i64 0), (.slice none 0 0), (.string (⟨#[]⟩)), (.slice none 0 0), (.bool false), (.map (some b2)), (.int .i64 0), (.int .i64 1)]) w2 ?_
  refine S_box rfl rfl rfl rfl rfl _ rfl fun b3 w3 n2 => ?_
  replace H := H.new n2
  refine Rv (ptr b3 0) w3 ?_
  refine wpR_nil ?_
  refine E_then_normal ?_
  refine C_seq ?_
  refine Cs [(3, (ptr b3 0)), (2, (Go.Value.pointer none)), (1, (ptr b1 0)), (0, (.agg #[(.int .i64 q1), (.int .i64 q2)]))] ?_
  refine C_region ?_
  refine S_load (run_load_row (H.blk 2) Try.underlying33 rfl (vs := [(.int .i64 q1), (.int .i64 q2)]) (by kernel_rfl) rfl) rfl rfl rfl rfl rfl ?_
  refine S_makeMap Int (k := 3) H rfl rfl rfl rfl fun b4 w4 Hn => ?_
  replace H := Hn
  clear Hn
  refine Rv (ptr b3 0) w4 ?_
  obtain ⟨w5, hu1, Hn⟩ := SL.mapPut (P := Try.prog) H kI Try.underlying83 (by decide) 1 (wf_ok (by decide)) (ptr b3 0)
  refine R_none (v := undef) rfl (by kernel_rfl) rfl (.inr (X_insert rfl rfl rfl rfl hu1)) ?_
  replace H := Hn
  clear Hn
  refine Rv (.map (some b4)) w5 ?_
  refine Rv (.agg #[(.int .i64 q1), (.int .i64 q2), (.map (some b4)), (.int .i64 2)]) w5 ?_
  refine S_box rfl rfl rfl rfl rfl _ rfl fun b5 w6 n3 => ?_
  replace H := H.new n3
  refine Rv (ptr b5 0) w6 ?_
  refine wpR_nil ?_
  refine E_then_normal ?_
  refine C_ret ?_
  refine E_ret (res_one rfl rfl) ⟨_, rfl, ?_⟩
  exact ⟨_, rfl, H.dropN 5⟩
end Go.Proofs
