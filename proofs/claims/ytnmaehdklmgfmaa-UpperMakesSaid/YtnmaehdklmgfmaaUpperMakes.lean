/- UpperMakes: for every input the call answers true, and each argument reads as it read. (Printed by a program of mine.) -/
import Derived.Test.YtnmaehdklmgfmaaRows
import Derived.Test.YtnmaehdklmgfmaaUpL
import Derived.Test.YtnmaehdklmgfmaaLmGC
import Derived.Test.YtnmaehdklmgfmaaLmGA
import Derived.WalkKit
import Derived.ProofKit
import Derived.OpenShut
import Derived.ShutString
import Derived.ChangeOld
import Derived.Below
namespace Go.Proofs.Ytnmaehdklmgfmaa.upperMakes
open Go Go.ChangeShapes Go.WideShapes Go.ChangeAt Go.RowKit Go.Lm
set_option linter.unusedVariables false
set_option maxRecDepth 100000
set_option maxHeartbeats 4000000
theorem own : ownKnob Try.prog.godebug = none := by kernel_rfl
theorem laidOut : laidOutB Try.prog = true := by kernel_rfl
theorem opens_t24 : Opens Try.prog 24 (St ((Int) × (Int) × (Int) × PUnit)) := by
  refine @opens_struct _ _ _ _ _ Try.underlying24 (by kernel_rfl) ?_
  refine @opensRow_cons _ _ _ _ _ _ _ _ rfl (by kernel_rfl) (opens_int Try.underlying3) ?_
  refine @opensRow_cons _ _ _ _ _ _ _ _ rfl (by kernel_rfl) (opens_int Try.underlying3) ?_
  refine @opensRow_cons _ _ _ _ _ _ _ _ rfl (by kernel_rfl) (opens_int Try.underlying3) ?_
  exact @opensRow_nil _ _
theorem opens_t47 : Opens Try.prog 47 (St ((ByteArray) × (List (UInt8)) × PUnit)) := by
  refine @opens_struct _ _ _ _ _ Try.underlying47 (by kernel_rfl) ?_
  refine @opensRow_cons _ _ _ _ _ _ _ _ rfl (by kernel_rfl) (opens_str Try.underlying9) ?_
  refine @opensRow_cons _ _ _ _ _ _ _ _ rfl (by kernel_rfl) (opens_list Try.underlying25 (by kernel_rfl) (opens_byte Try.underlying5)) ?_
  exact @opensRow_nil _ _
theorem opens_t28 : Opens Try.prog 28 (St ((List (ByteArray)) × (Int) × (Int) × (St ((Int) × (Int) × (Int) × PUnit)) × (List (UInt8)) × (ByteArray) × (List (St ((ByteArray) × (List (UInt8)) × PUnit))) × (Bool) × PUnit)) := by
  refine @opens_struct _ _ _ _ _ Try.underlying28 (by kernel_rfl) ?_
  refine @opensRow_cons _ _ _ _ _ _ _ _ rfl (by kernel_rfl) (opens_list Try.underlying22 (by kernel_rfl) (opens_str Try.underlying9)) ?_
  refine @opensRow_cons _ _ _ _ _ _ _ _ rfl (by kernel_rfl) (opens_int Try.underlying3) ?_
  refine @opensRow_cons _ _ _ _ _ _ _ _ rfl (by kernel_rfl) (opens_int Try.underlying3) ?_
  refine @opensRow_cons _ _ _ _ _ _ _ _ rfl (by kernel_rfl) (opens_t24) ?_
  refine @opensRow_cons _ _ _ _ _ _ _ _ rfl (by kernel_rfl) (opens_list Try.underlying25 (by kernel_rfl) (opens_byte Try.underlying5)) ?_
  refine @opensRow_cons _ _ _ _ _ _ _ _ rfl (by kernel_rfl) (opens_str Try.underlying9) ?_
  refine @opensRow_cons _ _ _ _ _ _ _ _ rfl (by kernel_rfl) (opens_list Try.underlying26 (by kernel_rfl) (opens_t47)) ?_
  refine @opensRow_cons _ _ _ _ _ _ _ _ rfl (by kernel_rfl) (opens_bool Try.underlying4) ?_
  exact @opensRow_nil _ _
theorem lifted (os : Os) (started : os.Started) (H : Type) (enc : TypeId × Value → H) :
    ReturnsInHanded {} Try.checked os 3 .any (Rows.upperMakesSpec.pre6 enc Try.prog Try.f3 Rows.upperMakesRow.domain false) (Rows.upperMakesSpec.post enc Try.prog Try.f3 false true false false) := by
  refine returnsInHanded_of_change (C := Try.checked) own started (by kernel_rfl) Try.func3
    (ChangeSpec.witness6 (enc := enc) (C := Try.checked) false ⟨#[], #[(.agg #[(.slice none 0 0), (.int .i64 0), (.int .i64 0), (.int .i64 0), (.int .i64 0), (.int .i64 0), (.slice none 0 0), (.string ⟨#[]⟩), (.slice none 0 0), (.bool false)]), (.string ⟨#[]⟩), (.int .i64 0)], []⟩ 8 (by kernel_rfl) (by kernel_rfl) (by kernel_rfl) (by kernel_rfl)) ?_
  intro W base args ds gs before hval0 hW hcnd _
  have hval : ∀ (j : Nat) t v, Try.f3.params[j]? = some t → args[j]? = some v → Value.okWide Try.prog W .any base t v := hval0
  have hW' := hW
  obtain ⟨p, q, hA0, hV, rfl, hfz, hnd⟩ := hW
  have hA : DataW.TrodAll enc Try.prog W 0 (fun _ => true) true Try.f3.params.toList args.toList ds p := hA0
  rw [Try.params3] at hA hval
  obtain ⟨v0, vs0, d0, ds0, p0, q0, hargs, rfl, rfl, h0, r0⟩ := trodAll_cons hA
  obtain ⟨v1, vs1, d1, ds1, p1, q1, rfl, rfl, rfl, h1, r1⟩ := trodAll_cons r0
  obtain ⟨v2, vs2, d2, ds2, p2, q2, rfl, rfl, rfl, h2, r2⟩ := trodAll_cons r1
  obtain ⟨rfl, rfl, rfl⟩ := trodAll_nil r2
  obtain rfl : args = #[v0, v1, v2] := by cases args; simp_all
  obtain ⟨rfl, rfl⟩ := trodVars_none hV
  have lt0 : ∀ x ∈ p0, x.block < W.heap.size := by obtain ⟨m, hm⟩ := h0; exact DataW.trod_lt m _ _ _ hm
  have lt1 : ∀ x ∈ p1, x.block < W.heap.size := by obtain ⟨m, hm⟩ := h1; exact DataW.trod_lt m _ _ _ hm
  have lt2 : ∀ x ∈ p2, x.block < W.heap.size := by obtain ⟨m, hm⟩ := h2; exact DataW.trod_lt m _ _ _ hm
  clear hA0 hval0
  obtain ⟨cs0, rfl, _⟩ := okWide_struct Try.underlying28 (hval 0 28 v0 rfl rfl)
  obtain ⟨n, i0⟩ := open_many (opens_t28) rfl h0
  obtain ⟨vn, vd, vx, e0, _, hnd, hnx, hnt, _⟩ := node_row.1 (i0 : Is W (.agg cs0) (n : NodeD))
  injection e0 with e0
  subst e0
  obtain ⟨s, i1⟩ := open_one (opens_str Try.underlying9) rfl (cells_str1 Try.underlying9 (hval 1 9 v1 rfl rfl)) h1
  obtain ⟨e1, hsz⟩ := is_str.1 i1
  subst e1
  obtain ⟨more, rfl, w2⟩ := okWide_int_wf Try.underlying3 (hval 2 3 v2 rfl rfl) h2
  have hm := wf_bounds w2
  refine Calls.mono (upperMakes_any vn (NodeD.ino n) (NodeD.kind n) (NodeD.mode n) (NodeD.uid n) (NodeD.gid n) vd (NodeD.data n) (NodeD.target n) vx (NodeD.xattrs n) (NodeD.opq n) s more W W (Sees.refl W) hnd hnx hnt hsz hm.1 hm.2) ?_
  rintro e W' ⟨v, rfl, rfl, bel⟩
  exact ⟨_, rfl, _, _, _, [], _, [], hW', trodAll_mk1 (shut_bool Try.underlying4 _), (trodAll_cons_mk (Below.trod laidOut (by kernel_rfl) (of_decide_eq_true (by kernel_rfl)) h0 bel lt0) (trodAll_cons_mk (Below.trod laidOut (by kernel_rfl) (of_decide_eq_true (by kernel_rfl)) h1 bel lt1) (trodAll_cons_mk (Below.trod laidOut (by kernel_rfl) (of_decide_eq_true (by kernel_rfl)) h2 bel lt2) trodAll_mk0))), rfl, bel.frame _, fun h => by cases h⟩
theorem over : Rows.upperMakesRow.holds Try.pinned (OpenSpec.ofChange Rows.upperMakesSpec) :=
  OpenClaim.holds_of_wide 3 Try.f3 rfl rfl rfl rfl rfl rfl rfl ⟨rfl, rfl, rfl, rfl, rfl⟩ rfl rfl rfl rfl rfl (by kernel_rfl) Try.func3 (by kernel_rfl)
    (of_decide_eq_true (by kernel_rfl)) (by unfold Func.isWrapper; first | (rw [if_pos (by decide +kernel)]; kernel_rfl) | (rw [if_neg (by decide +kernel)]; exact ⟨rfl, rfl⟩))
    (fun os started H enc _ => lifted os started H enc)
theorem proved : Rows.UpperMakesSaid := over
end Go.Proofs.Ytnmaehdklmgfmaa.upperMakes
