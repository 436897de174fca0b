/- NameSplits, where what it reads is of bulk at most 1048576: for every such input the call answers true, and each argument reads as it read: the row, and the tied card. (Printed by a program of mine.) -/
import Derived.Test.YtepekaepgeekcaaDoorFrame
import Derived.Test.YtepekaepgeekcaaDoorCards
import Derived.Test.YtepekaepgeekcaaDoorLmUpto
namespace Go.Proofs.YtepekaepgeekcaaDoor.nameSplitsUpto
open Go Go.ChangeShapes Go.WideShapes Go.ChangeAt Go.RowKit Go.Lm
set_option linter.unusedVariables false
set_option maxRecDepth 100000
set_option maxHeartbeats 4000000
theorem bulk_strs {H : Type} : ∀ (l : List ByteArray) (x : ByteArray), x ∈ l → x.size ≤ Rows.uptoBulkAll (strs l : List (DataW H))
  | y :: l, x, h => by
    have hs := size_list y
    have e : Rows.uptoBulkAll (strs (y :: l) : List (DataW H)) = (y.data.toList.length + 1) + Rows.uptoBulkAll (strs l : List (DataW H)) := rfl
    rw [e]
    rcases List.mem_cons.1 h with h | h
    · subst h; omega
    · have := bulk_strs (H := H) l x h; omega
theorem lifted (os : Os) (started : os.Started) (H : Type) (enc : TypeId × Value → H) (F : Stop.Interp) :
    ReturnsInHanded {} Tryd.checked os 6 .any ((Rows.OpenSpec.upto Rows.nameSplitsSpec).preRow enc Tryd.prog Tryd.f6 [] false Rows.nameSplitsRow.laid)
      (((Rows.OpenSpec.upto Rows.nameSplitsSpec).at F).post enc Tryd.prog Tryd.f6 false true false false) := by
  refine returnsInHanded_of_row (C := Tryd.checked) (s := Rows.OpenSpec.upto Rows.nameSplitsSpec) (F := F) own started (by kernel_rfl) Tryd.func6
    (witness_row (enc := enc) (C := Tryd.checked) (os := os) (laidWorld os) #[.string ⟨#[]⟩, .slice none 0 0] rfl (door_shaped os _) (by kernel_rfl)
      (row_met (k := Rows.uptoSmall) rfl (x := ([.lit (.string []), .nil], [], [])) (fuel := 8) (by kernel_rfl) (by kernel_rfl) (door_met os _) (by kernel_rfl))) ?_
  intro W base args ds gs before hval0 hW _ hcond _ hL hsh _
  have hval : ∀ (j : Nat) t v, Tryd.f6.params[j]? = some t → args[j]? = some v → Value.okWide Tryd.prog W .any base t v := hval0
  have hW' := hW
  obtain ⟨p, q, hA0, hV, rfl, hfz, hnd⟩ := hW
  have hk := hcond _ rfl
  have hA : DataW.TrodAll enc Tryd.prog W 0 (fun _ => true) true Tryd.f6.params.toList args.toList ds p := hA0
  rw [Tryd.params6] at hA hval
  obtain ⟨v0, vs0, d0, ds0, p0, q0, hargs, rfl, rfl, h0, r0⟩ := trodAll_cons hA
  obtain ⟨v1, vs1, d1, ds1, p1, q1, rfl, rfl, rfl, h1, r1⟩ := trodAll_cons r0
  obtain ⟨rfl, rfl, rfl⟩ := trodAll_nil r1
  obtain rfl : args = #[v0, v1] := by cases args; simp_all
  obtain ⟨rfl, rfl⟩ := trodVars_none hV
  have hk2 : Rows.uptoBulkAll [d0, d1] ≤ 1048576 := of_decide_eq_true hk
  simp only [Rows.uptoBulkAll] at hk2
  have lt0 : ∀ x ∈ p0, x.block < W.heap.size := by obtain ⟨m, hm⟩ := h0; exact DataW.trod_lt m _ _ _ hm
  have lt1 : ∀ x ∈ p1, x.block < W.heap.size := by obtain ⟨m, hm⟩ := h1; exact DataW.trod_lt m _ _ _ hm
  obtain ⟨s, i0⟩ := open_one (opens_str Tryd.underlying9) rfl (cells_str Tryd.underlying9 (hval 0 9 v0 rfl rfl)) h0
  obtain ⟨rfl, s0⟩ := is_str.1 i0
  obtain ⟨a, i1, hd1⟩ := open_strs Tryd.underlying26 Tryd.underlying9 (by kernel_rfl) (fun _ => rfl) (cells_slice Tryd.underlying26 (hval 1 26 v1 rfl rfl)) h1
  have hx : ∀ x ∈ a, x.size ≤ 1048576 := fun x hx => by
    rcases hd1 with ⟨rfl, rfl⟩ | ⟨rest, rfl⟩
    · simp at hx
    · have := bulk_strs (H := H) a x hx; simp only [Rows.uptoBulk] at hk2; omega
  have hb : (joinN (a.take 30)).size ≤ 140737488355328 := by
    have h1 := joinN_le (m := 1048576) (l := a.take 30) fun x h => hx x (List.mem_of_mem_take h)
    have h2 : (a.take 30).length * (1048576 + 1) ≤ 30 * (1048576 + 1) := Nat.mul_le_mul (List.length_take_le _ _) (Nat.le_refl _)
    omega
  have hm : MaxL 0 W := cell_of_shapedOpen_int hsh (of_decide_eq_true (by kernel_rfl)) (by kernel_rfl : ((begin Tryd.prog (fun _ _ => 0) default).world.heap[0]?).bind Obj.row? = some (#[.int .i64 0], 3)) rfl (by kernel_rfl) (by kernel_rfl) (by kernel_rfl)
  refine Calls.mono (nameSplits_any s a v1 W W (Sees.refl W) i1 hm hb) ?_
  rintro e W' ⟨v, rfl, rfl, bel⟩
  exact ⟨_, rfl, _, _, _, [], _, [], hW', trodAll_mk1 (shut_bool Tryd.underlying4 _), (trodAll_cons_mk (Below.trod laidOut (by kernel_rfl) (of_decide_eq_true (by kernel_rfl)) h0 bel lt0) (trodAll_cons_mk (Below.trod laidOut (by kernel_rfl) (of_decide_eq_true (by kernel_rfl)) h1 bel lt1) trodAll_mk0)), rfl, bel.frame _, fun h => by cases h⟩
theorem over : Rows.nameSplitsUptoRow.holds Tryd.pinned (Rows.OpenSpec.upto Rows.nameSplitsSpec) :=
  OpenClaim.holds_of_cond 6 Tryd.f6 rfl rfl rfl rfl rfl rfl rfl ⟨rfl, rfl, rfl, rfl, rfl⟩ rfl rfl rfl rfl rfl (by kernel_rfl) Tryd.func6 (by kernel_rfl)
    (of_decide_eq_true (by kernel_rfl)) (by unfold Func.isWrapper; first | (rw [if_pos (by decide +kernel)]; kernel_rfl) | (rw [if_neg (by decide +kernel)]; exact ⟨rfl, rfl⟩))
    (fun os started H enc _ F => by rw [OpenClaim.pre_eq_preRow]; exact lifted os started H enc F)
theorem proved : Rows.NameSplitsUptoCardSaid :=
  Claim7.holds_tied_plain_at .later [] [.data, .pinned] true (true, "a61fb091bada8d6cc638f8aa15d7b670886928dec94d34cf77d951aef32aae30") false
    over (fun _ h => by cases h) (by kernel_rfl) (fun _ h => by cases h) nameSplitsUpto_row_tie rfl ⟨rfl, rfl⟩ (by kernel_rfl) rfl
    (fun f fn hf hfn => by
      obtain rfl : f = 6 := Option.some.inj ((show Tryd.prog.funcNamed Rows.nameSplitsRow.func = some 6 by kernel_rfl).symm.trans hf) |>.symm
      obtain rfl : fn = Tryd.f6 := (Option.some.inj (Tryd.func6.symm.trans hfn)).symm
      exact ⟨by kernel_rfl, params_ok (by kernel_rfl)⟩)
    (by kernel_rfl)
end Go.Proofs.YtepekaepgeekcaaDoor.nameSplitsUpto
