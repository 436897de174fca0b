/- ImageFinds: for every input the call answers true, and each argument reads as it read: the row, and the tied card. (Printed by a program of mine.) -/
import Derived.Test.YthjbdgokcljocaaGreatDoorQ8
import Derived.Test.YthjbdgokcljocaaGreatDoorCards
import Derived.Test.YthjbdgokcljocaaGreatDoorQ1
namespace Go.Proofs.YthjbdgokcljocaaGreatDoor.imageFinds
open Go Go.ChangeShapes Go.WideShapes Go.ChangeAt Go.RowKit Go.Lm
set_option linter.unusedVariables false
set_option maxRecDepth 100000
set_option maxHeartbeats 4000000
theorem lifted (os : Os) (started : os.Started) (H : Type) (enc : TypeId × Value → H) :
    ReturnsInHanded {} Tryz.checked os 6 .any (fun w args => (Rows.imageFindsSpec.pre enc Tryz.prog Tryz.f6 [] false w args ∧ laidMetH Tryz.prog Rows.imageFindsRow.laid w) ∧ sizedMet enc Tryz.prog Tryz.f6 (OpenSpec.ofChange Rows.imageFindsSpec) false w args)
      (Rows.imageFindsSpec.post enc Tryz.prog Tryz.f6 false true false false) := by
  refine returns_shaped_and (C := Tryz.checked) (X := fun w _ => laidMetH Tryz.prog Rows.imageFindsRow.laid w) (fun _ _ _ hh h => h.of_heap hh) own started (by kernel_rfl) Tryz.func6
    (ChangeSpec.witness_shaped (enc := enc) (C := Tryz.checked) (os := os) (X := fun w _ => laidMetH Tryz.prog Rows.imageFindsRow.laid w) false (laidWorld os) #[.slice none 0 0, .slice none 0 0] 8 rfl (door_shaped os _) (by kernel_rfl) (by kernel_rfl) (by kernel_rfl) (door_met os _)) ?_
  intro W base args ds gs before hval0 hW hL hsh hreach
  have hval : ∀ (j : Nat) t v, Tryz.f6.params[j]? = some t → args[j]? = some v → Value.okWide Tryz.prog W .any base t v := hval0
  have hW' := hW
  obtain ⟨p, q, hA0, hV, rfl, hfz, hnd⟩ := hW
  have hA : DataW.TrodAll enc Tryz.prog W 0 (fun _ => true) true Tryz.f6.params.toList args.toList ds p := hA0
  rw [Tryz.params6] at hA hval
  obtain ⟨v0, vs0, d0, ds0, p0, q0, hargs, rfl, rfl, h0, r0⟩ := trodAll_cons hA
  obtain ⟨v1, vs1, d1, ds1, p1, q1, rfl, rfl, rfl, h1, r1⟩ := trodAll_cons r0
  obtain ⟨rfl, rfl, rfl⟩ := trodAll_nil r1
  obtain rfl : args = #[v0, v1] := by cases args; simp_all
  obtain ⟨rfl, rfl⟩ := trodVars_none hV
  have lt0 : ∀ x ∈ p0, x.block < W.heap.size := by obtain ⟨m, hm⟩ := h0; exact DataW.trod_lt m _ _ _ hm
  have lt1 : ∀ x ∈ p1, x.block < W.heap.size := by obtain ⟨m, hm⟩ := h1; exact DataW.trod_lt m _ _ _ hm
  obtain ⟨l0, i0⟩ := open_sl (e := noTy) (P := Tryz.prog) (t := 22) (by kernel_rfl) (cells_slice1 Tryz.underlying22 (hval 0 22 v0 rfl rfl)) h0
  obtain ⟨l1, i1⟩ := open_sl (e := (Ty.sl .str)) (P := Tryz.prog) (t := 57) (by kernel_rfl) (cells_slice1 Tryz.underlying57 (hval 1 57 v1 rfl rfl)) h1
  skip
  refine Calls.mono (Wp.run (b := true) (args := [.v (.c (.d noTy l0)), .v (.c (.d (Ty.sl .str) l1))]) trivial (w_lfinds _ _ _ (by have e : (Ty.sl noTy).of [.d noTy l0] = some (l0, []) := (by kernel_rfl); have e1 : (Ty.sl (Ty.sl .str)).of [.d (Ty.sl .str) l1] = some (l1, []) := (by kernel_rfl); unfold c_lfinds; simp only [e, e1])) ⟨_, _, rfl, i0, _, _, rfl, i1, rfl⟩) ?_
  rintro e W' ⟨v, rfl, rfl, bel⟩
  exact ⟨_, rfl, _, _, _, [], _, [], hW', trodAll_mk1 (shut_bool Tryz.underlying4 _), (trodAll_cons_mk (Below.trod laidOut (by kernel_rfl) (of_decide_eq_true (by kernel_rfl)) h0 bel lt0) (trodAll_cons_mk (Below.trod laidOut (by kernel_rfl) (of_decide_eq_true (by kernel_rfl)) h1 bel lt1) trodAll_mk0)), rfl, bel.frame _, fun h => by cases h⟩
theorem over : Rows.imageFindsRow.holds Tryz.pinned (OpenSpec.ofChange Rows.imageFindsSpec) :=
  OpenClaim.holds_of_wide 6 Tryz.f6 rfl rfl rfl rfl rfl rfl rfl ⟨rfl, rfl, rfl, rfl, rfl⟩ rfl rfl rfl rfl rfl (by kernel_rfl) Tryz.func6 (by kernel_rfl)
    (of_decide_eq_true (by kernel_rfl)) (by unfold Func.isWrapper; first | (rw [if_pos (by decide +kernel)]; kernel_rfl) | (rw [if_neg (by decide +kernel)]; exact ⟨rfl, rfl⟩))
    (fun os started H enc _ => lifted os started H enc)
theorem proved : Rows.ImageFindsCardSaid :=
  Claim7.holds_tied_plain_at .later [] [.data, .pinned] true (true, "9ba49a905727359d3489cd62081d5d100dd19c9b8bfd7420821c21280f3a2705") true
    over (fun _ h => by cases h) (by kernel_rfl) (fun _ h => by cases h) imageFinds_row_tie rfl ⟨rfl, rfl⟩ (by kernel_rfl) rfl
    (fun f fn hf hfn => by
      obtain rfl : f = 6 := Option.some.inj ((show Tryz.prog.funcNamed Rows.imageFindsRow.func = some 6 by kernel_rfl).symm.trans hf) |>.symm
      obtain rfl : fn = Tryz.f6 := (Option.some.inj (Tryz.func6.symm.trans hfn)).symm
      exact ⟨by kernel_rfl, params_ok (by kernel_rfl)⟩)
    (by kernel_rfl)
end Go.Proofs.YthjbdgokcljocaaGreatDoor.imageFinds
