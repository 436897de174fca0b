/- DeskLines, where what it reads is of bulk at most 1048576: for every such input the call answers true, and each argument reads as it read: the row, and the tied card. (Printed by a program of mine.) -/
import Derived.Test.YtklplgmjccldlaaDoorBK1
import Derived.Test.YtklplgmjccldlaaDoorCards
import Derived.Test.YtklplgmjccldlaaDoorBK2
import Derived.Test.YtklplgmjccldlaaDoorBW1
namespace Go.Proofs.YtklplgmjccldlaaDoor.deskLinesUpto
open Go Go.ChangeShapes Go.WideShapes Go.ChangeAt Go.RowKit Go.Lm
set_option linter.unusedVariables false
set_option maxRecDepth 100000
set_option maxHeartbeats 4000000
theorem lifted (os : Os) (started : os.Started) (H : Type) (enc : TypeId × Value → H) (F : Stop.Interp) :
    ReturnsInHanded {} Tryd.checked os 8 .any ((Rows.OpenSpec.upto Rows.deskLinesSpec).preRow enc Tryd.prog Tryd.f8 [] false Rows.deskLinesRow.laid)
      (((Rows.OpenSpec.upto Rows.deskLinesSpec).at F).post enc Tryd.prog Tryd.f8 false true false false) := by
  refine returnsInHanded_of_row (C := Tryd.checked) (s := Rows.OpenSpec.upto Rows.deskLinesSpec) (F := F) own started (by kernel_rfl) Tryd.func8
    (witness_row (enc := enc) (C := Tryd.checked) (os := os) (laidWorld os) #[.slice none 0 0, .slice none 0 0] rfl (door_shaped os _) (by kernel_rfl)
      (row_met (k := Rows.uptoSmall) rfl (x := ([.nil, .nil], [], [])) (fuel := 8) (by kernel_rfl) (by kernel_rfl) (door_met os _) (by kernel_rfl))) ?_
  intro W base args ds gs before hval0 hW _ hcond _ hL hsh _
  have hval : ∀ (j : Nat) t v, Tryd.f8.params[j]? = some t → args[j]? = some v → Value.okWide Tryd.prog W .any base t v := hval0
  have hW' := hW
  obtain ⟨p, q, hA0, hV, rfl, hfz, hnd⟩ := hW
  have hk := hcond _ rfl
  have hA : DataW.TrodAll enc Tryd.prog W 0 (fun _ => true) true Tryd.f8.params.toList args.toList ds p := hA0
  rw [Tryd.params8] at hA hval
  obtain ⟨v0, vs0, d0, ds0, p0, q0, hargs, rfl, rfl, h0, r0⟩ := trodAll_cons hA
  obtain ⟨v1, vs1, d1, ds1, p1, q1, rfl, rfl, rfl, h1, r1⟩ := trodAll_cons r0
  obtain ⟨rfl, rfl, rfl⟩ := trodAll_nil r1
  obtain rfl : args = #[v0, v1] := by cases args; simp_all
  obtain ⟨rfl, rfl⟩ := trodVars_none hV
  have hk2 : Rows.uptoBulkAll [d0, d1] ≤ 1048576 := of_decide_eq_true hk
  simp only [Rows.uptoBulkAll] at hk2
  have lt0 : ∀ x ∈ p0, x.block < W.heap.size := by obtain ⟨m, hm⟩ := h0; exact DataW.trod_lt m _ _ _ hm
  have lt1 : ∀ x ∈ p1, x.block < W.heap.size := by obtain ⟨m, hm⟩ := h1; exact DataW.trod_lt m _ _ _ hm
  obtain ⟨l0, i0, w0⟩ := open_slW (e := tEvent) (P := Tryd.prog) (t := 29) (by kernel_rfl) (cells_slice1 Tryd.underlying29 (hval 0 29 v0 rfl rfl)) h0
  obtain ⟨l1, i1, w1⟩ := open_slW (e := tAnswer) (P := Tryd.prog) (t := 36) (by kernel_rfl) (cells_slice1 Tryd.underlying36 (hval 1 36 v1 rfl rfl)) h1
  have ha : AnsSz 1048576 l1 := ansSz_of (Nat.le_trans w1 (by omega))
  have hI : Inv ⟨W, W⟩ := inv_of hL hsh
  refine Calls.mono (Wp.run (b := true) (args := [.v (.c (.d tEvent l0)), .v (.c (.d tAnswer l1))]) hI (w_lawLines _ _ _ (by have e : (Ty.sl tEvent).of [.d tEvent l0] = some (l0, []) := (by kernel_rfl); have e2 : (Ty.sl tAnswer).of [.d tAnswer l1] = some (l1, []) := (by kernel_rfl); unfold c_lawLines; simp only [e, e2]; exact ⟨ha, trivial⟩)) ⟨_, _, rfl, i0, _, _, rfl, i1, rfl⟩) ?_
  rintro e W' ⟨v, rfl, rfl, bel⟩
  exact ⟨_, rfl, _, _, _, [], _, [], hW', trodAll_mk1 (shut_bool Tryd.underlying4 _), (trodAll_cons_mk (Below.trod laidOut (by kernel_rfl) (of_decide_eq_true (by kernel_rfl)) h0 bel lt0) (trodAll_cons_mk (Below.trod laidOut (by kernel_rfl) (of_decide_eq_true (by kernel_rfl)) h1 bel lt1) trodAll_mk0)), rfl, bel.frame _, fun h => by cases h⟩
theorem over : Rows.deskLinesUptoRow.holds Tryd.pinned (Rows.OpenSpec.upto Rows.deskLinesSpec) :=
  OpenClaim.holds_of_cond 8 Tryd.f8 rfl rfl rfl rfl rfl rfl rfl ⟨rfl, rfl, rfl, rfl, rfl⟩ rfl rfl rfl rfl rfl (by kernel_rfl) Tryd.func8 (by kernel_rfl)
    (of_decide_eq_true (by kernel_rfl)) (by unfold Func.isWrapper; first | (rw [if_pos (by decide +kernel)]; kernel_rfl) | (rw [if_neg (by decide +kernel)]; exact ⟨rfl, rfl⟩))
    (fun os started H enc _ F => by rw [OpenClaim.pre_eq_preRow]; exact lifted os started H enc F)
theorem proved : Rows.DeskLinesUptoCardSaid :=
  Claim7.holds_tied_plain_at .later [] [.data, .data, .data, .data, .sentinel, .sentinel, .pinned] true (true, "896ccf275f5c7065ec33bf954e3f6f591261efac42bfdfa829931646aada7438") true
    over (fun _ h => by cases h) (by kernel_rfl) (fun _ h => by cases h) deskLinesUpto_row_tie rfl ⟨rfl, rfl⟩ (by kernel_rfl) rfl
    (fun f fn hf hfn => by
      obtain rfl : f = 8 := Option.some.inj ((show Tryd.prog.funcNamed Rows.deskLinesRow.func = some 8 by kernel_rfl).symm.trans hf) |>.symm
      obtain rfl : fn = Tryd.f8 := (Option.some.inj (Tryd.func8.symm.trans hfn)).symm
      exact ⟨by kernel_rfl, params_ok (by kernel_rfl)⟩)
    (by kernel_rfl)
end Go.Proofs.YtklplgmjccldlaaDoor.deskLinesUpto
