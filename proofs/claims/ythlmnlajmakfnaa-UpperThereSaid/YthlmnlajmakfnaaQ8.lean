/- Texts of mine, laid together: W1 W2 LmWb LmYl W4. -/
import Derived.Test.YthlmnlajmakfnaaQ7
import Derived.Test.YthlmnlajmakfnaaProg
import Derived.Test.YthlmnlajmakfnaaChecked
import Derived.Test.YthlmnlajmakfnaaQ3
import Derived.Test.YthlmnlajmakfnaaQ1
namespace Go.Proofs
open Go Go.Lm Go.RowKit
set_option maxRecDepth 1000000
def c_kind : Ct
  | [.v (.c (.k (.int .i64 c))), .v (.c (.k (.int .i64 n)))], [], Q => n ≠ 0 ∧ Q (.int (kindI c n)) []
  | _, _, _ => False
noncomputable def XW160 : Vx := { P := Try.prog, ct := [(22, c_writeb), (6, c_rnew), (50, c_flist), (33, c_fread), (31, c_fsetopq), (29, c_fsetx), (27, c_fsetattr), (25, c_fresize), (23, c_fwrite), (21, c_fmove), (20, c_fremove), (18, c_fmake), (19, c_flink), (46, c_rmay), (66, c_validR), (57, c_mayR), (59, c_xattrsR), (68, c_nul), (9, c_list), (35, c_sorted), (36, c_keys), (5, c_newu), (11, c_used), (14, c_remove), (44, c_let), (44, c_letz), (12, c_move), (15, c_link), (10, c_make), (32, c_read), (24, c_resize), (28, c_setx), (30, c_setopq), (26, c_setattr), (43, c_within), (38, c_fresh), (39, c_good), (58, c_mayx), (64, c_bindex), (69, c_sindex), (41, c_attrs), (65, c_sclone), (63, c_valid), (40, c_bclone), (54, c_sized), (56, c_may), (13, c_look), (16, c_stat), (37, c_entry), (53, c_file), (34, c_dir), (42, c_at)], ty := tyTab, hold := [] }
theorem XW160_ok : CtOk Inv Try.prog XW160.ct := CtOk.cons w_writeb (CtOk.cons w_rnew (CtOk.cons w_flist (CtOk.cons w_fread (CtOk.cons w_fsetopq (CtOk.cons w_fsetx (CtOk.cons w_fsetattr (CtOk.cons w_fresize (CtOk.cons w_fwrite (CtOk.cons w_fmove (CtOk.cons w_fremove (CtOk.cons w_fmake (CtOk.cons w_flink (CtOk.cons w_rmay (CtOk.cons w_validR (CtOk.cons w_mayR (CtOk.cons w_xattrsR (CtOk.cons w_nul (CtOk.cons w_list (CtOk.cons w_sorted (CtOk.cons w_keys (CtOk.cons w_newu (CtOk.cons w_used (CtOk.cons w_remove (CtOk.cons w_let (CtOk.cons w_letz (CtOk.cons w_move (CtOk.cons w_link (CtOk.cons w_make (CtOk.cons w_read (CtOk.cons w_resize (CtOk.cons w_setx (CtOk.cons w_setopq (CtOk.cons w_setattr (CtOk.cons w_within (CtOk.cons w_fresh (CtOk.cons w_good (CtOk.cons w_mayx (CtOk.cons w_bindex (CtOk.cons w_sindex (CtOk.cons w_attrs (CtOk.cons w_sclone (CtOk.cons w_valid (CtOk.cons w_bclone (CtOk.cons w_sized (CtOk.cons w_may (CtOk.cons w_look (CtOk.cons w_stat (CtOk.cons w_entry (CtOk.cons w_file (CtOk.cons w_dir (CtOk.cons w_at (CtOk.nil _ _))))))))))))))))))))))))))))))))))))))))))))))))))))
def vc_kind : (Int) → (Int) → (SV → List HO → Prop) → Prop :=
 fun c n Q => inK .i64 c → inK .i64 n → br (decide (c < 0)) (inK .i64 (c + (1 : Int)) ∧ inK .i64 ((0 : Int) - (c + (1 : Int))) ∧ n ≠ 0 ∧ (inK .i64 (Int.tmod ((0 : Int) - (c + (1 : Int))) n) → Q (.v (.c (.k (.int .i64 (Int.tmod ((0 : Int) - 
 (c + (1 : Int))) n))))) [])) (n ≠ 0 ∧ (inK .i64 (Int.tmod c n) → Q (.v (.c (.k (.int .i64 (Int.tmod c n))))) []))
theorem vc_kind_eq (c : Int) (n : Int) (Q : SV → List HO → Prop) : vFun XW160 ⟨[], []⟩ Try.f7 [.int c, .int n] [] Q = vc_kind c n Q := by kernel_rfl
theorem w_kind : ∀ args H Q, c_kind args H Q → Wp Inv Try.prog 7 args H Q := by
  intro args H Q h
  unfold c_kind at h
  split at h
  rotate_left
  · exact h.elim
  rename_i c n
  refine Wp.enter (X := XW160) XW160_ok ⟨[], []⟩ (fn := Try.f7) (by kernel_rfl) ?_
  have hv := vc_kind_eq c n Q
  rw [show vFun _ _ _ _ _ _ = _ from hv]
  unfold vc_kind
  obtain ⟨hn, h⟩ := h
  intro h1 h2
  unfold kindI at h
  refine br_of (fun hc => ?_) (fun hc => ?_)
  · have hc := of_decide_eq_true hc
    rw [if_pos hc] at h
    exact ⟨by unfold inK at *; omega, by unfold inK at *; omega, hn, fun _ => h⟩
  · rw [if_neg (of_decide_eq_false hc)] at h
    exact ⟨hn, fun _ => h⟩
def c_few : Ct
  | [.v (.agg cx)], [], Q => (match (opTy).of cx with
    | some (x, []) => Q (.v (.agg (opTy.cells (clipO x)))) []
    | _ => False)
  | _, _, _ => False
noncomputable def XW161 : Vx := { P := Try.prog, ct := (7, c_kind) :: XW160.ct, ty := tyTab, hold := [] }
theorem XW161_ok : CtOk Inv Try.prog XW161.ct := CtOk.cons w_kind (XW160_ok)
def vc_few : ((opTy).den) → (SV → List HO → Prop) → Prop :=
 fun x Q => inK .i64 x.1 → inK .i64 x.2.1 → inK .i64 x.2.2.1 → inK .i64 x.2.2.2.1 → inK .i64 x.2.2.2.2.1 → ByteArray.size x.2.2.2.2.2.1 ≤ 9223372036854775807 → ByteArray.size x.2.2.2.2.2.2.1 ≤ 9223372036854775807 → List.length 
 x.2.2.2.2.2.2.2.1.1 ≤ 9223372036854775807 → inK .i64 x.2.2.2.2.2.2.2.1.2.1 → inK .i64 x.2.2.2.2.2.2.2.1.2.2.1 → inK .i64 x.2.2.2.2.2.2.2.1.2.2.2.1.1 → inK .i64 x.2.2.2.2.2.2.2.1.2.2.2.1.2.1 → inK .i64 x.2.2.2.2.2.2.2.1.2.2.2.1.2.2.1 → 
 List.length x.2.2.2.2.2.2.2.1.2.2.2.2.1 ≤ 9223372036854775807 → ByteArray.size x.2.2.2.2.2.2.2.1.2.2.2.2.2.1 ≤ 9223372036854775807 → List.length x.2.2.2.2.2.2.2.1.2.2.2.2.2.2.1 ≤ 9223372036854775807 → List.length x.2.2.2.2.2.2.2.2.1 ≤ 
 9223372036854775807 → List.length x.2.2.2.2.2.2.2.2.1 ≤ 9223372036854775807 → br (decide ((↑(List.length x.2.2.2.2.2.2.2.2.1) : Int) > (300 : Int))) (0 ≤ boundV none (0 : Int) ∧ boundV none 0 ≤ boundV (some (300 : Int)) (↑(List.length 
 x.2.2.2.2.2.2.2.2.1) : Int) ∧ boundV (some (300 : Int)) (↑(List.length x.2.2.2.2.2.2.2.2.1) : Int) ≤ (↑(List.length x.2.2.2.2.2.2.2.2.1) : Int) ∧ (List.length x.2.2.2.2.2.2.2.1.2.2.2.2.1 ≤ 9223372036854775807 → br (decide ((↑(List.length 
 x.2.2.2.2.2.2.2.1.2.2.2.2.1) : Int) > (5000 : Int))) (0 ≤ boundV none (0 : Int) ∧ boundV none 0 ≤ boundV (some (5000 : Int)) (↑(List.length x.2.2.2.2.2.2.2.1.2.2.2.2.1) : Int) ∧ boundV (some (5000 : Int)) (↑(List.length 
 x.2.2.2.2.2.2.2.1.2.2.2.2.1) : Int) ≤ (↑(List.length x.2.2.2.2.2.2.2.1.2.2.2.2.1) : Int) ∧ (List.length x.2.2.2.2.2.2.2.1.2.2.2.2.2.2.1 ≤ 9223372036854775807 → br (decide ((↑(List.length x.2.2.2.2.2.2.2.1.2.2.2.2.2.2.1) : Int) > (10 : 
 Int))) (0 ≤ boundV none (0 : Int) ∧ boundV none 0 ≤ boundV (some (10 : Int)) (↑(List.length x.2.2.2.2.2.2.2.1.2.2.2.2.2.2.1) : Int) ∧ boundV (some (10 : Int)) (↑(List.length x.2.2.2.2.2.2.2.1.2.2.2.2.2.2.1) : Int) ≤ (↑(List.length 
 x.2.2.2.2.2.2.2.1.2.2.2.2.2.2.1) : Int) ∧ Q (SV.v (S1.agg [.k (.int .i64 x.1), .k (.int .i64 x.2.1), .k (.int .i64 x.2.2.1), .k (.int .i64 x.2.2.2.1), .k (.int .i64 x.2.2.2.2.1), .k (.string x.2.2.2.2.2.1), .k (.string x.2.2.2.2.2.2.1), 
 Cl.d Ty.str x.2.2.2.2.2.2.2.1.1, .k (.int .i64 x.2.2.2.2.2.2.2.1.2.1), .k (.int .i64 x.2.2.2.2.2.2.2.1.2.2.1), .k (.int .i64 x.2.2.2.2.2.2.2.1.2.2.2.1.1), .k (.int .i64 x.2.2.2.2.2.2.2.1.2.2.2.1.2.1), .k (.int .i64 
 x.2.2.2.2.2.2.2.1.2.2.2.1.2.2.1), Cl.d Ty.u8 (List.take (Int.toNat (boundV (some (5000 : Int)) (↑(List.length x.2.2.2.2.2.2.2.1.2.2.2.2.1) : Int)) - (0 : Nat)) (List.drop (0 : Nat) x.2.2.2.2.2.2.2.1.2.2.2.2.1)), .k (.string 
 x.2.2.2.2.2.2.2.1.2.2.2.2.2.1), Cl.d xaTy (List.take (Int.toNat (boundV (some (10 : Int)) (↑(List.length x.2.2.2.2.2.2.2.1.2.2.2.2.2.2.1) : Int)) - (0 : Nat)) (List.drop (0 : Nat) x.2.2.2.2.2.2.2.1.2.2.2.2.2.2.1)), .k (.bool 
 x.2.2.2.2.2.2.2.1.2.2.2.2.2.2.2.1), Cl.d Ty.u8 (List.take (Int.toNat (boundV (some (300 : Int)) (↑(List.length x.2.2.2.2.2.2.2.2.1) : Int)) - (0 : Nat)) (List.drop (0 : Nat) x.2.2.2.2.2.2.2.2.1))])) []) (Q (SV.v (S1.agg [.k (.int .i64 x.1), 
 .k (.int .i64 x.2.1), .k (.int .i64 x.2.2.1), .k (.int .i64 x.2.2.2.1), .k (.int .i64 x.2.2.2.2.1), .k (.string x.2.2.2.2.2.1), .k (.string x.2.2.2.2.2.2.1), Cl.d Ty.str x.2.2.2.2.2.2.2.1.1, .k (.int .i64 x.2.2.2.2.2.2.2.1.2.1), .k (.int 
 .i64 x.2.2.2.2.2.2.2.1.2.2.1), .k (.int .i64 x.2.2.2.2.2.2.2.1.2.2.2.1.1), .k (.int .i64 x.2.2.2.2.2.2.2.1.2.2.2.1.2.1), .k (.int .i64 x.2.2.2.2.2.2.2.1.2.2.2.1.2.2.1), Cl.d Ty.u8 (List.take (Int.toNat (boundV (some (5000 : Int)) 
 (↑(List.length x.2.2.2.2.2.2.2.1.2.2.2.2.1) : Int)) - (0 : Nat)) (List.drop (0 : Nat) x.2.2.2.2.2.2.2.1.2.2.2.2.1)), .k (.string x.2.2.2.2.2.2.2.1.2.2.2.2.2.1), Cl.d xaTy x.2.2.2.2.2.2.2.1.2.2.2.2.2.2.1, .k (.bool 
 x.2.2.2.2.2.2.2.1.2.2.2.2.2.2.2.1), Cl.d Ty.u8 (List.take (Int.toNat (boundV (some (300 : Int)) (↑(List.length x.2.2.2.2.2.2.2.2.1) : Int)) - (0 : Nat)) (List.drop (0 : Nat) x.2.2.2.2.2.2.2.2.1))])) []))) (List.length 
 x.2.2.2.2.2.2.2.1.2.2.2.2.2.2.1 ≤ 9223372036854775807 → br (decide ((↑(List.length x.2.2.2.2.2.2.2.1.2.2.2.2.2.2.1) : Int) > (10 : Int))) (0 ≤ boundV none (0 : Int) ∧ boundV none 0 ≤ boundV (some (10 : Int)) (↑(List.length 
 x.2.2.2.2.2.2.2.1.2.2.2.2.2.2.1) : Int) ∧ boundV (some (10 : Int)) (↑(List.length x.2.2.2.2.2.2.2.1.2.2.2.2.2.2.1) : Int) ≤ (↑(List.length x.2.2.2.2.2.2.2.1.2.2.2.2.2.2.1) : Int) ∧ Q (SV.v (S1.agg [.k (.int .i64 x.1), .k (.int .i64 x.2.1), 
 .k (.int .i64 x.2.2.1), .k (.int .i64 x.2.2.2.1), .k (.int .i64 x.2.2.2.2.1), .k (.string x.2.2.2.2.2.1), .k (.string x.2.2.2.2.2.2.1), Cl.d Ty.str x.2.2.2.2.2.2.2.1.1, .k (.int .i64 x.2.2.2.2.2.2.2.1.2.1), .k (.int .i64 
 x.2.2.2.2.2.2.2.1.2.2.1), .k (.int .i64 x.2.2.2.2.2.2.2.1.2.2.2.1.1), .k (.int .i64 x.2.2.2.2.2.2.2.1.2.2.2.1.2.1), .k (.int .i64 x.2.2.2.2.2.2.2.1.2.2.2.1.2.2.1), Cl.d Ty.u8 x.2.2.2.2.2.2.2.1.2.2.2.2.1, .k (.string 
 x.2.2.2.2.2.2.2.1.2.2.2.2.2.1), Cl.d xaTy (List.take (Int.toNat (boundV (some (10 : Int)) (↑(List.length x.2.2.2.2.2.2.2.1.2.2.2.2.2.2.1) : Int)) - (0 : Nat)) (List.drop (0 : Nat) x.2.2.2.2.2.2.2.1.2.2.2.2.2.2.1)), .k (.bool 
 x.2.2.2.2.2.2.2.1.2.2.2.2.2.2.2.1), Cl.d Ty.u8 (List.take (Int.toNat (boundV (some (300 : Int)) (↑(List.length x.2.2.2.2.2.2.2.2.1) : Int)) - (0 : Nat)) (List.drop (0 : Nat) x.2.2.2.2.2.2.2.2.1))])) []) (Q (SV.v (S1.agg [.k (.int .i64 x.1), 
 .k (.int .i64 x.2.1), .k (.int .i64 x.2.2.1), .k (.int .i64 x.2.2.2.1), .k (.int .i64 x.2.2.2.2.1), .k (.string x.2.2.2.2.2.1), .k (.string x.2.2.2.2.2.2.1), Cl.d Ty.str x.2.2.2.2.2.2.2.1.1, .k (.int .i64 x.2.2.2.2.2.2.2.1.2.1), .k (.int 
 .i64 x.2.2.2.2.2.2.2.1.2.2.1), .k (.int .i64 x.2.2.2.2.2.2.2.1.2.2.2.1.1), .k (.int .i64 x.2.2.2.2.2.2.2.1.2.2.2.1.2.1), .k (.int .i64 x.2.2.2.2.2.2.2.1.2.2.2.1.2.2.1), Cl.d Ty.u8 x.2.2.2.2.2.2.2.1.2.2.2.2.1, .k (.string 
 x.2.2.2.2.2.2.2.1.2.2.2.2.2.1), Cl.d xaTy x.2.2.2.2.2.2.2.1.2.2.2.2.2.2.1, .k (.bool x.2.2.2.2.2.2.2.1.2.2.2.2.2.2.2.1), Cl.d Ty.u8 (List.take (Int.toNat (boundV (some (300 : Int)) (↑(List.length x.2.2.2.2.2.2.2.2.1) : Int)) - (0 : Nat)) 
 (List.drop (0 : Nat) x.2.2.2.2.2.2.2.2.1))])) [])))) (List.length x.2.2.2.2.2.2.2.1.2.2.2.2.1 ≤ 9223372036854775807 → br (decide ((↑(List.length x.2.2.2.2.2.2.2.1.2.2.2.2.1) : Int) > (5000 : Int))) (0 ≤ boundV none (0 : Int) ∧ boundV none 0 
 ≤ boundV (some (5000 : Int)) (↑(List.length x.2.2.2.2.2.2.2.1.2.2.2.2.1) : Int) ∧ boundV (some (5000 : Int)) (↑(List.length x.2.2.2.2.2.2.2.1.2.2.2.2.1) : Int) ≤ (↑(List.length x.2.2.2.2.2.2.2.1.2.2.2.2.1) : Int) ∧ (List.length 
 x.2.2.2.2.2.2.2.1.2.2.2.2.2.2.1 ≤ 9223372036854775807 → br (decide ((↑(List.length x.2.2.2.2.2.2.2.1.2.2.2.2.2.2.1) : Int) > (10 : Int))) (0 ≤ boundV none (0 : Int) ∧ boundV none 0 ≤ boundV (some (10 : Int)) (↑(List.length 
 x.2.2.2.2.2.2.2.1.2.2.2.2.2.2.1) : Int) ∧ boundV (some (10 : Int)) (↑(List.length x.2.2.2.2.2.2.2.1.2.2.2.2.2.2.1) : Int) ≤ (↑(List.length x.2.2.2.2.2.2.2.1.2.2.2.2.2.2.1) : Int) ∧ Q (SV.v (S1.agg [.k (.int .i64 x.1), .k (.int .i64 x.2.1), 
 .k (.int .i64 x.2.2.1), .k (.int .i64 x.2.2.2.1), .k (.int .i64 x.2.2.2.2.1), .k (.string x.2.2.2.2.2.1), .k (.string x.2.2.2.2.2.2.1), Cl.d Ty.str x.2.2.2.2.2.2.2.1.1, .k (.int .i64 x.2.2.2.2.2.2.2.1.2.1), .k (.int .i64 
 x.2.2.2.2.2.2.2.1.2.2.1), .k (.int .i64 x.2.2.2.2.2.2.2.1.2.2.2.1.1), .k (.int .i64 x.2.2.2.2.2.2.2.1.2.2.2.1.2.1), .k (.int .i64 x.2.2.2.2.2.2.2.1.2.2.2.1.2.2.1), Cl.d Ty.u8 (List.take (Int.toNat (boundV (some (5000 : Int)) (↑(List.length 
 x.2.2.2.2.2.2.2.1.2.2.2.2.1) : Int)) - (0 : Nat)) (List.drop (0 : Nat) x.2.2.2.2.2.2.2.1.2.2.2.2.1)), .k (.string x.2.2.2.2.2.2.2.1.2.2.2.2.2.1), Cl.d xaTy (List.take (Int.toNat (boundV (some (10 : Int)) (↑(List.length 
 x.2.2.2.2.2.2.2.1.2.2.2.2.2.2.1) : Int)) - (0 : Nat)) (List.drop (0 : Nat) x.2.2.2.2.2.2.2.1.2.2.2.2.2.2.1)), .k (.bool x.2.2.2.2.2.2.2.1.2.2.2.2.2.2.2.1), Cl.d Ty.u8 x.2.2.2.2.2.2.2.2.1])) []) (Q (SV.v (S1.agg [.k (.int .i64 x.1), .k (.int 
 .i64 x.2.1), .k (.int .i64 x.2.2.1), .k (.int .i64 x.2.2.2.1), .k (.int .i64 x.2.2.2.2.1), .k (.string x.2.2.2.2.2.1), .k (.string x.2.2.2.2.2.2.1), Cl.d Ty.str x.2.2.2.2.2.2.2.1.1, .k (.int .i64 x.2.2.2.2.2.2.2.1.2.1), .k (.int .i64 
 x.2.2.2.2.2.2.2.1.2.2.1), .k (.int .i64 x.2.2.2.2.2.2.2.1.2.2.2.1.1), .k (.int .i64 x.2.2.2.2.2.2.2.1.2.2.2.1.2.1), .k (.int .i64 x.2.2.2.2.2.2.2.1.2.2.2.1.2.2.1), Cl.d Ty.u8 (List.take (Int.toNat (boundV (some (5000 : Int)) (↑(List.length 
 x.2.2.2.2.2.2.2.1.2.2.2.2.1) : Int)) - (0 : Nat)) (List.drop (0 : Nat) x.2.2.2.2.2.2.2.1.2.2.2.2.1)), .k (.string x.2.2.2.2.2.2.2.1.2.2.2.2.2.1), Cl.d xaTy x.2.2.2.2.2.2.2.1.2.2.2.2.2.2.1, .k (.bool x.2.2.2.2.2.2.2.1.2.2.2.2.2.2.2.1), Cl.d 
 Ty.u8 x.2.2.2.2.2.2.2.2.1])) []))) (List.length x.2.2.2.2.2.2.2.1.2.2.2.2.2.2.1 ≤ 9223372036854775807 → br (decide ((↑(List.length x.2.2.2.2.2.2.2.1.2.2.2.2.2.2.1) : Int) > (10 : Int))) (0 ≤ boundV none (0 : Int) ∧ boundV none 0 ≤ boundV 
 (some (10 : Int)) (↑(List.length x.2.2.2.2.2.2.2.1.2.2.2.2.2.2.1) : Int) ∧ boundV (some (10 : Int)) (↑(List.length x.2.2.2.2.2.2.2.1.2.2.2.2.2.2.1) : Int) ≤ (↑(List.length x.2.2.2.2.2.2.2.1.2.2.2.2.2.2.1) : Int) ∧ Q (SV.v (S1.agg [.k (.int 
 .i64 x.1), .k (.int .i64 x.2.1), .k (.int .i64 x.2.2.1), .k (.int .i64 x.2.2.2.1), .k (.int .i64 x.2.2.2.2.1), .k (.string x.2.2.2.2.2.1), .k (.string x.2.2.2.2.2.2.1), Cl.d Ty.str x.2.2.2.2.2.2.2.1.1, .k (.int .i64 x.2.2.2.2.2.2.2.1.2.1), 
 .k (.int .i64 x.2.2.2.2.2.2.2.1.2.2.1), .k (.int .i64 x.2.2.2.2.2.2.2.1.2.2.2.1.1), .k (.int .i64 x.2.2.2.2.2.2.2.1.2.2.2.1.2.1), .k (.int .i64 x.2.2.2.2.2.2.2.1.2.2.2.1.2.2.1), Cl.d Ty.u8 x.2.2.2.2.2.2.2.1.2.2.2.2.1, .k (.string 
 x.2.2.2.2.2.2.2.1.2.2.2.2.2.1), Cl.d xaTy (List.take (Int.toNat (boundV (some (10 : Int)) (↑(List.length x.2.2.2.2.2.2.2.1.2.2.2.2.2.2.1) : Int)) - (0 : Nat)) (List.drop (0 : Nat) x.2.2.2.2.2.2.2.1.2.2.2.2.2.2.1)), .k (.bool 
 x.2.2.2.2.2.2.2.1.2.2.2.2.2.2.2.1), Cl.d Ty.u8 x.2.2.2.2.2.2.2.2.1])) []) (Q (SV.v (S1.agg [.k (.int .i64 x.1), .k (.int .i64 x.2.1), .k (.int .i64 x.2.2.1), .k (.int .i64 x.2.2.2.1), .k (.int .i64 x.2.2.2.2.1), .k (.string x.2.2.2.2.2.1), 
 .k (.string x.2.2.2.2.2.2.1), Cl.d Ty.str x.2.2.2.2.2.2.2.1.1, .k (.int .i64 x.2.2.2.2.2.2.2.1.2.1), .k (.int .i64 x.2.2.2.2.2.2.2.1.2.2.1), .k (.int .i64 x.2.2.2.2.2.2.2.1.2.2.2.1.1), .k (.int .i64 x.2.2.2.2.2.2.2.1.2.2.2.1.2.1), .k (.int 
 .i64 x.2.2.2.2.2.2.2.1.2.2.2.1.2.2.1), Cl.d Ty.u8 x.2.2.2.2.2.2.2.1.2.2.2.2.1, .k (.string x.2.2.2.2.2.2.2.1.2.2.2.2.2.1), Cl.d xaTy x.2.2.2.2.2.2.2.1.2.2.2.2.2.2.1, .k (.bool x.2.2.2.2.2.2.2.1.2.2.2.2.2.2.2.1), Cl.d Ty.u8 
 x.2.2.2.2.2.2.2.2.1])) [])))
theorem vc_few_eq (x : (opTy).den) (Q : SV → List HO → Prop) : vFun XW161 ⟨[], []⟩ Try.f17 [.v (.agg (Ty.cells opTy x))] [] Q = vc_few x Q := by kernel_rfl
theorem w_few : ∀ args H Q, c_few args H Q → Wp Inv Try.prog 17 args H Q := by
  intro args H Q h
  unfold c_few at h
  split at h
  rotate_left
  · exact h.elim
  rename_i cx
  split at h
  rotate_left
  · exact h.elim
  rename_i x hx
  refine Wp.said (args' := [.v (.agg (Ty.cells opTy x))]) (fun E g => RelVs.cons1 (of_row hx) (fun _ h => h)) ?_
  clear hx
  refine Wp.enter (X := XW161) XW161_ok ⟨[], []⟩ (fn := Try.f17) (by kernel_rfl) ?_
  have hv := vc_few_eq x Q
  rw [show vFun _ _ _ _ _ _ = _ from hv]
  unfold vc_few
  clear hv
  have fin : ∀ (d1 : List UInt8) (d2 : List UInt8) (d3 : List XaD), d1 = x.2.2.2.2.2.2.2.2.1.take 300 → d2 = x.2.2.2.2.2.2.2.1.2.2.2.2.1.take 5000 → d3 = x.2.2.2.2.2.2.2.1.2.2.2.2.2.2.1.take 10 → Q (.v (.agg (opTy.cells (x.1, x.2.1, x.2.2.1, x.2.2.2.1, x.2.2.2.2.1, x.2.2.2.2.2.1, x.2.2.2.2.2.2.1, (x.2.2.2.2.2.2.2.1.1, x.2.2.2.2.2.2.2.1.2.1, x.2.2.2.2.2.2.2.1.2.2.1, x.2.2.2.2.2.2.2.1.2.2.2.1, d2, x.2.2.2.2.2.2.2.1.2.2.2.2.2.1, d3, x.2.2.2.2.2.2.2.1.2.2.2.2.2.2.2), d1, ())))) [] := fun d1 d2 d3 e1 e2 e3 => by subst e1 e2 e3; exact h
  intros
  refine br_of (fun h0 => ?_) (fun h0 => ?_)
  · replace h0 := of_decide_eq_true h0
    refine ⟨by (first | exact True.intro | rfl | omega | (unfold inK; omega) | (simp only [boundV]; omega) | (simp only [boundV, List.length_append, List.length_take, List.length_drop, List.length_nil]; omega) | (simp only [boundV, List.length_append, List.length_take, List.length_drop, List.length_cons, List.length_nil]; omega)), by (first | exact True.intro | rfl | omega | (unfold inK; omega) | (simp only [boundV]; omega) | (simp only [boundV, List.length_append, List.length_take, List.length_drop, List.length_nil]; omega) | (simp only [boundV, List.length_append, List.length_take, List.length_drop, List.length_cons, List.length_nil]; omega)), by (first | exact True.intro | rfl | omega | (unfold inK; omega) | (simp only [boundV]; omega) | (simp only [boundV, List.length_append, List.length_take, List.length_drop, List.length_nil]; omega) | (simp only [boundV, List.length_append, List.length_take, List.length_drop, List.length_cons, List.length_nil]; omega)), ?_⟩
    intro _
    refine br_of (fun h1 => ?_) (fun h1 => ?_)
    · replace h1 := of_decide_eq_true h1
      refine ⟨by (first | exact True.intro | rfl | omega | (unfold inK; omega) | (simp only [boundV]; omega) | (simp only [boundV, List.length_append, List.length_take, List.length_drop, List.length_nil]; omega) | (simp only [boundV, List.length_append, List.length_take, List.length_drop, List.length_cons, List.length_nil]; omega)), by (first | exact True.intro | rfl | omega | (unfold inK; omega) | (simp only [boundV]; omega) | (simp only [boundV, List.length_append, List.length_take, List.length_drop, List.length_nil]; omega) | (simp only [boundV, List.length_append, List.length_take, List.length_drop, List.length_cons, List.length_nil]; omega)), by (first | exact True.intro | rfl | omega | (unfold inK; omega) | (simp only [boundV]; omega) | (simp only [boundV, List.length_append, List.length_take, List.length_drop, List.length_nil]; omega) | (simp only [boundV, List.length_append, List.length_take, List.length_drop, List.length_cons, List.length_nil]; omega)), ?_⟩
      intro _
      refine br_of (fun h2 => ?_) (fun h2 => ?_)
      · replace h2 := of_decide_eq_true h2
        refine ⟨by (first | exact True.intro | rfl | omega | (unfold inK; omega) | (simp only [boundV]; omega) | (simp only [boundV, List.length_append, List.length_take, List.length_drop, List.length_nil]; omega) | (simp only [boundV, List.length_append, List.length_take, List.length_drop, List.length_cons, List.length_nil]; omega)), by (first | exact True.intro | rfl | omega | (unfold inK; omega) | (simp only [boundV]; omega) | (simp only [boundV, List.length_append, List.length_take, List.length_drop, List.length_nil]; omega) | (simp only [boundV, List.length_append, List.length_take, List.length_drop, List.length_cons, List.length_nil]; omega)), by (first | exact True.intro | rfl | omega | (unfold inK; omega) | (simp only [boundV]; omega) | (simp only [boundV, List.length_append, List.length_take, List.length_drop, List.length_nil]; omega) | (simp only [boundV, List.length_append, List.length_take, List.length_drop, List.length_cons, List.length_nil]; omega)), ?_⟩
        exact fin (List.take ((boundV (some 300) (List.length x.2.2.2.2.2.2.2.2.1 : Int)).toNat - 0) (List.drop 0 x.2.2.2.2.2.2.2.2.1)) (List.take ((boundV (some 5000) (List.length x.2.2.2.2.2.2.2.1.2.2.2.2.1 : Int)).toNat - 0) (List.drop 0 x.2.2.2.2.2.2.2.1.2.2.2.2.1)) (List.take ((boundV (some 10) (List.length x.2.2.2.2.2.2.2.1.2.2.2.2.2.2.1 : Int)).toNat - 0) (List.drop 0 x.2.2.2.2.2.2.2.1.2.2.2.2.2.2.1)) rfl rfl rfl
      · replace h2 := of_decide_eq_false h2
        exact fin (List.take ((boundV (some 300) (List.length x.2.2.2.2.2.2.2.2.1 : Int)).toNat - 0) (List.drop 0 x.2.2.2.2.2.2.2.2.1)) (List.take ((boundV (some 5000) (List.length x.2.2.2.2.2.2.2.1.2.2.2.2.1 : Int)).toNat - 0) (List.drop 0 x.2.2.2.2.2.2.2.1.2.2.2.2.1)) x.2.2.2.2.2.2.2.1.2.2.2.2.2.2.1 rfl rfl (List.take_of_length_le (by omega)).symm
    · replace h1 := of_decide_eq_false h1
      intro _
      refine br_of (fun h2 => ?_) (fun h2 => ?_)
      · replace h2 := of_decide_eq_true h2
        refine ⟨by (first | exact True.intro | rfl | omega | (unfold inK; omega) | (simp only [boundV]; omega) | (simp only [boundV, List.length_append, List.length_take, List.length_drop, List.length_nil]; omega) | (simp only [boundV, List.length_append, List.length_take, List.length_drop, List.length_cons, List.length_nil]; omega)), by (first | exact True.intro | rfl | omega | (unfold inK; omega) | (simp only [boundV]; omega) | (simp only [boundV, List.length_append, List.length_take, List.length_drop, List.length_nil]; omega) | (simp only [boundV, List.length_append, List.length_take, List.length_drop, List.length_cons, List.length_nil]; omega)), by (first | exact True.intro | rfl | omega | (unfold inK; omega) | (simp only [boundV]; omega) | (simp only [boundV, List.length_append, List.length_take, List.length_drop, List.length_nil]; omega) | (simp only [boundV, List.length_append, List.length_take, List.length_drop, List.length_cons, List.length_nil]; omega)), ?_⟩
        exact fin (List.take ((boundV (some 300) (List.length x.2.2.2.2.2.2.2.2.1 : Int)).toNat - 0) (List.drop 0 x.2.2.2.2.2.2.2.2.1)) x.2.2.2.2.2.2.2.1.2.2.2.2.1 (List.take ((boundV (some 10) (List.length x.2.2.2.2.2.2.2.1.2.2.2.2.2.2.1 : Int)).toNat - 0) (List.drop 0 x.2.2.2.2.2.2.2.1.2.2.2.2.2.2.1)) rfl (List.take_of_length_le (by omega)).symm rfl
      · replace h2 := of_decide_eq_false h2
        exact fin (List.take ((boundV (some 300) (List.length x.2.2.2.2.2.2.2.2.1 : Int)).toNat - 0) (List.drop 0 x.2.2.2.2.2.2.2.2.1)) x.2.2.2.2.2.2.2.1.2.2.2.2.1 x.2.2.2.2.2.2.2.1.2.2.2.2.2.2.1 rfl (List.take_of_length_le (by omega)).symm (List.take_of_length_le (by omega)).symm
  · replace h0 := of_decide_eq_false h0
    intro _
    refine br_of (fun h1 => ?_) (fun h1 => ?_)
    · replace h1 := of_decide_eq_true h1
      refine ⟨by (first | exact True.intro | rfl | omega | (unfold inK; omega) | (simp only [boundV]; omega) | (simp only [boundV, List.length_append, List.length_take, List.length_drop, List.length_nil]; omega) | (simp only [boundV, List.length_append, List.length_take, List.length_drop, List.length_cons, List.length_nil]; omega)), by (first | exact True.intro | rfl | omega | (unfold inK; omega) | (simp only [boundV]; omega) | (simp only [boundV, List.length_append, List.length_take, List.length_drop, List.length_nil]; omega) | (simp only [boundV, List.length_append, List.length_take, List.length_drop, List.length_cons, List.length_nil]; omega)), by (first | exact True.intro | rfl | omega | (unfold inK; omega) | (simp only [boundV]; omega) | (simp only [boundV, List.length_append, List.length_take, List.length_drop, List.length_nil]; omega) | (simp only [boundV, List.length_append, List.length_take, List.length_drop, List.length_cons, List.length_nil]; omega)), ?_⟩
      intro _
      refine br_of (fun h2 => ?_) (fun h2 => ?_)
      · replace h2 := of_decide_eq_true h2
        refine ⟨by (first | exact True.intro | rfl | omega | (unfold inK; omega) | (simp only [boundV]; omega) | (simp only [boundV, List.length_append, List.length_take, List.length_drop, List.length_nil]; omega) | (simp only [boundV, List.length_append, List.length_take, List.length_drop, List.length_cons, List.length_nil]; omega)), by (first | exact True.intro | rfl | omega | (unfold inK; omega) | (simp only [boundV]; omega) | (simp only [boundV, List.length_append, List.length_take, List.length_drop, List.length_nil]; omega) | (simp only [boundV, List.length_append, List.length_take, List.length_drop, List.length_cons, List.length_nil]; omega)), by (first | exact True.intro | rfl | omega | (unfold inK; omega) | (simp only [boundV]; omega) | (simp only [boundV, List.length_append, List.length_take, List.length_drop, List.length_nil]; omega) | (simp only [boundV, List.length_append, List.length_take, List.length_drop, List.length_cons, List.length_nil]; omega)), ?_⟩
        exact fin x.2.2.2.2.2.2.2.2.1 (List.take ((boundV (some 5000) (List.length x.2.2.2.2.2.2.2.1.2.2.2.2.1 : Int)).toNat - 0) (List.drop 0 x.2.2.2.2.2.2.2.1.2.2.2.2.1)) (List.take ((boundV (some 10) (List.length x.2.2.2.2.2.2.2.1.2.2.2.2.2.2.1 : Int)).toNat - 0) (List.drop 0 x.2.2.2.2.2.2.2.1.2.2.2.2.2.2.1)) (List.take_of_length_le (by omega)).symm rfl rfl
      · replace h2 := of_decide_eq_false h2
        exact fin x.2.2.2.2.2.2.2.2.1 (List.take ((boundV (some 5000) (List.length x.2.2.2.2.2.2.2.1.2.2.2.2.1 : Int)).toNat - 0) (List.drop 0 x.2.2.2.2.2.2.2.1.2.2.2.2.1)) x.2.2.2.2.2.2.2.1.2.2.2.2.2.2.1 (List.take_of_length_le (by omega)).symm rfl (List.take_of_length_le (by omega)).symm
    · replace h1 := of_decide_eq_false h1
      intro _
      refine br_of (fun h2 => ?_) (fun h2 => ?_)
      · replace h2 := of_decide_eq_true h2
        refine ⟨by (first | exact True.intro | rfl | omega | (unfold inK; omega) | (simp only [boundV]; omega) | (simp only [boundV, List.length_append, List.length_take, List.length_drop, List.length_nil]; omega) | (simp only [boundV, List.length_append, List.length_take, List.length_drop, List.length_cons, List.length_nil]; omega)), by (first | exact True.intro | rfl | omega | (unfold inK; omega) | (simp only [boundV]; omega) | (simp only [boundV, List.length_append, List.length_take, List.length_drop, List.length_nil]; omega) | (simp only [boundV, List.length_append, List.length_take, List.length_drop, List.length_cons, List.length_nil]; omega)), by (first | exact True.intro | rfl | omega | (unfold inK; omega) | (simp only [boundV]; omega) | (simp only [boundV, List.length_append, List.length_take, List.length_drop, List.length_nil]; omega) | (simp only [boundV, List.length_append, List.length_take, List.length_drop, List.length_cons, List.length_nil]; omega)), ?_⟩
        exact fin x.2.2.2.2.2.2.2.2.1 x.2.2.2.2.2.2.2.1.2.2.2.2.1 (List.take ((boundV (some 10) (List.length x.2.2.2.2.2.2.2.1.2.2.2.2.2.2.1 : Int)).toNat - 0) (List.drop 0 x.2.2.2.2.2.2.2.1.2.2.2.2.2.2.1)) (List.take_of_length_le (by omega)).symm (List.take_of_length_le (by omega)).symm rfl
      · replace h2 := of_decide_eq_false h2
        exact fin x.2.2.2.2.2.2.2.2.1 x.2.2.2.2.2.2.2.1.2.2.2.2.1 x.2.2.2.2.2.2.2.1.2.2.2.2.2.2.1 (List.take_of_length_le (by omega)).symm (List.take_of_length_le (by omega)).symm (List.take_of_length_le (by omega)).symm
def c_does : Ct
  | [.v (.c (.p 0 0)), .v (.c (.p 1 0)), .v (.agg co)], [.ab (.upr ⟨66, 63, 3, 9⟩ Y), .ab (.rf 70 36 96 Z)], Q => (match (opTy).of co with
    | some (o, []) => Z = Y ∧ Y.OkN 1000000 ∧ Q (.bool true) [.ab (.upr ⟨66, 63, 3, 9⟩ (Y.doD (clipO o))), .ab (.rf 70 36 96 (Y.doD (clipO o)))]
    | _ => False)
  | _, _, _ => False
noncomputable def XW162 : Vx := { P := Try.prog, ct := (17, c_few) :: XW161.ct, ty := tyTab, hold := [] }
theorem XW162_ok : CtOk Inv Try.prog XW162.ct := CtOk.cons w_few (XW161_ok)
def vc_does : ((opTy).den) → (UpY) → (UpY) → (SV → List HO → Prop) → Prop :=
 fun o Y Z Q => inK .i64 o.1 → inK .i64 o.2.1 → inK .i64 o.2.2.1 → inK .i64 o.2.2.2.1 → inK .i64 o.2.2.2.2.1 → ByteArray.size o.2.2.2.2.2.1 ≤ 9223372036854775807 → ByteArray.size o.2.2.2.2.2.2.1 ≤ 9223372036854775807 → List.length 
 o.2.2.2.2.2.2.2.1.1 ≤ 9223372036854775807 → inK .i64 o.2.2.2.2.2.2.2.1.2.1 → inK .i64 o.2.2.2.2.2.2.2.1.2.2.1 → inK .i64 o.2.2.2.2.2.2.2.1.2.2.2.1.1 → inK .i64 o.2.2.2.2.2.2.2.1.2.2.2.1.2.1 → inK .i64 o.2.2.2.2.2.2.2.1.2.2.2.1.2.2.1 → 
 List.length o.2.2.2.2.2.2.2.1.2.2.2.2.1 ≤ 9223372036854775807 → ByteArray.size o.2.2.2.2.2.2.2.1.2.2.2.2.2.1 ≤ 9223372036854775807 → List.length o.2.2.2.2.2.2.2.1.2.2.2.2.2.2.1 ≤ 9223372036854775807 → List.length o.2.2.2.2.2.2.2.2.1 ≤ 
 9223372036854775807 → inK .i64 (clipO o).1 → inK .i64 (clipO o).2.1 → inK .i64 (clipO o).2.2.1 → inK .i64 (clipO o).2.2.2.1 → inK .i64 (clipO o).2.2.2.2.1 → ByteArray.size (clipO o).2.2.2.2.2.1 ≤ 9223372036854775807 → ByteArray.size (clipO 
 o).2.2.2.2.2.2.1 ≤ 9223372036854775807 → List.length (clipO o).2.2.2.2.2.2.2.1.1 ≤ 9223372036854775807 → inK .i64 (clipO o).2.2.2.2.2.2.2.1.2.1 → inK .i64 (clipO o).2.2.2.2.2.2.2.1.2.2.1 → inK .i64 (clipO o).2.2.2.2.2.2.2.1.2.2.2.1.1 → inK 
 .i64 (clipO o).2.2.2.2.2.2.2.1.2.2.2.1.2.1 → inK .i64 (clipO o).2.2.2.2.2.2.2.1.2.2.2.1.2.2.1 → List.length (clipO o).2.2.2.2.2.2.2.1.2.2.2.2.1 ≤ 9223372036854775807 → ByteArray.size (clipO o).2.2.2.2.2.2.2.1.2.2.2.2.2.1 ≤ 
 9223372036854775807 → List.length (clipO o).2.2.2.2.2.2.2.1.2.2.2.2.2.2.1 ≤ 9223372036854775807 → List.length (clipO o).2.2.2.2.2.2.2.2.1 ≤ 9223372036854775807 → (13 : Int) ≠ (0 : Int) ∧ (inK .i64 (kindI (clipO o).1 (13 : Int)) → br (kindI 
 (clipO o).1 (13 : Int) == (0 : Int)) (UpY.Ok Y ∧ (inK .i64 (UpY.makeR Y (clipO o).2.1 (clipO o).2.2.2.2.2.1 (clipO o).2.2.2.2.2.2.2.1) → inK .i64 (UpY.makeE Y (clipO o).2.1 (clipO o).2.2.2.2.2.1 (clipO o).2.2.2.2.2.2.2.1) → UpY.OkN Z 
 (1000000 : Nat) ∧ (inK .i64 (UpY.makeR Z (clipO o).2.1 (clipO o).2.2.2.2.2.1 (clipO o).2.2.2.2.2.2.2.1) → inK .i64 (UpY.makeE Z (clipO o).2.1 (clipO o).2.2.2.2.2.1 (clipO o).2.2.2.2.2.2.2.1) → br (UpY.makeR Y (clipO o).2.1 (clipO 
 o).2.2.2.2.2.1 (clipO o).2.2.2.2.2.2.2.1 == UpY.makeR Z (clipO o).2.1 (clipO o).2.2.2.2.2.1 (clipO o).2.2.2.2.2.2.2.1) (Q (.v (.c (.k (.bool (UpY.makeE Y (clipO o).2.1 (clipO o).2.2.2.2.2.1 (clipO o).2.2.2.2.2.2.2.1 == UpY.makeE Z (clipO 
 o).2.1 (clipO o).2.2.2.2.2.1 (clipO o).2.2.2.2.2.2.2.1))))) [.ab (.upr ⟨66, 63, 3, 9⟩ (UpY.makeY Y (clipO o).2.1 (clipO o).2.2.2.2.2.1 (clipO o).2.2.2.2.2.2.2.1)), .ab (.rf 70 36 96 (UpY.makeY Z (clipO o).2.1 (clipO o).2.2.2.2.2.1 (clipO 
 o).2.2.2.2.2.2.2.1))]) (Q (.v (.c (.k (.bool false)))) [.ab (.upr ⟨66, 63, 3, 9⟩ (UpY.makeY Y (clipO o).2.1 (clipO o).2.2.2.2.2.1 (clipO o).2.2.2.2.2.2.2.1)), .ab (.rf 70 36 96 (UpY.makeY Z (clipO o).2.1 (clipO o).2.2.2.2.2.1 (clipO 
 o).2.2.2.2.2.2.2.1))])))) (br (kindI (clipO o).1 (13 : Int) == (1 : Int)) (UpY.Ok Y ∧ (inK .i64 (UpY.makeR Y (clipO o).2.1 (clipO o).2.2.2.2.2.1 (clipO o).2.2.2.2.2.2.2.1) → inK .i64 (UpY.makeE Y (clipO o).2.1 (clipO o).2.2.2.2.2.1 (clipO 
 o).2.2.2.2.2.2.2.1) → UpY.OkN Z (1000000 : Nat) ∧ (inK .i64 (UpY.makeR Z (clipO o).2.1 (clipO o).2.2.2.2.2.1 (clipO o).2.2.2.2.2.2.2.1) → inK .i64 (UpY.makeE Z (clipO o).2.1 (clipO o).2.2.2.2.2.1 (clipO o).2.2.2.2.2.2.2.1) → br (UpY.makeR Y 
 (clipO o).2.1 (clipO o).2.2.2.2.2.1 (clipO o).2.2.2.2.2.2.2.1 == UpY.makeR Z (clipO o).2.1 (clipO o).2.2.2.2.2.1 (clipO o).2.2.2.2.2.2.2.1) (Q (.v (.c (.k (.bool (UpY.makeE Y (clipO o).2.1 (clipO o).2.2.2.2.2.1 (clipO o).2.2.2.2.2.2.2.1 == 
 UpY.makeE Z (clipO o).2.1 (clipO o).2.2.2.2.2.1 (clipO o).2.2.2.2.2.2.2.1))))) [.ab (.upr ⟨66, 63, 3, 9⟩ (UpY.makeY Y (clipO o).2.1 (clipO o).2.2.2.2.2.1 (clipO o).2.2.2.2.2.2.2.1)), .ab (.rf 70 36 96 (UpY.makeY Z (clipO o).2.1 (clipO 
 o).2.2.2.2.2.1 (clipO o).2.2.2.2.2.2.2.1))]) (Q (.v (.c (.k (.bool false)))) [.ab (.upr ⟨66, 63, 3, 9⟩ (UpY.makeY Y (clipO o).2.1 (clipO o).2.2.2.2.2.1 (clipO o).2.2.2.2.2.2.2.1)), .ab (.rf 70 36 96 (UpY.makeY Z (clipO o).2.1 (clipO 
 o).2.2.2.2.2.1 (clipO o).2.2.2.2.2.2.2.1))])))) (br (kindI (clipO o).1 (13 : Int) == (2 : Int)) (UpY.Ok Y ∧ (inK .i64 (UpY.makeR Y (clipO o).2.1 (clipO o).2.2.2.2.2.1 (clipO o).2.2.2.2.2.2.2.1) → inK .i64 (UpY.makeE Y (clipO o).2.1 (clipO 
 o).2.2.2.2.2.1 (clipO o).2.2.2.2.2.2.2.1) → UpY.OkN Z (1000000 : Nat) ∧ (inK .i64 (UpY.makeR Z (clipO o).2.1 (clipO o).2.2.2.2.2.1 (clipO o).2.2.2.2.2.2.2.1) → inK .i64 (UpY.makeE Z (clipO o).2.1 (clipO o).2.2.2.2.2.1 (clipO 
 o).2.2.2.2.2.2.2.1) → br (UpY.makeR Y (clipO o).2.1 (clipO o).2.2.2.2.2.1 (clipO o).2.2.2.2.2.2.2.1 == UpY.makeR Z (clipO o).2.1 (clipO o).2.2.2.2.2.1 (clipO o).2.2.2.2.2.2.2.1) (Q (.v (.c (.k (.bool (UpY.makeE Y (clipO o).2.1 (clipO 
 o).2.2.2.2.2.1 (clipO o).2.2.2.2.2.2.2.1 == UpY.makeE Z (clipO o).2.1 (clipO o).2.2.2.2.2.1 (clipO o).2.2.2.2.2.2.2.1))))) [.ab (.upr ⟨66, 63, 3, 9⟩ (UpY.makeY Y (clipO o).2.1 (clipO o).2.2.2.2.2.1 (clipO o).2.2.2.2.2.2.2.1)), .ab (.rf 70 
 36 96 (UpY.makeY Z (clipO o).2.1 (clipO o).2.2.2.2.2.1 (clipO o).2.2.2.2.2.2.2.1))]) (Q (.v (.c (.k (.bool false)))) [.ab (.upr ⟨66, 63, 3, 9⟩ (UpY.makeY Y (clipO o).2.1 (clipO o).2.2.2.2.2.1 (clipO o).2.2.2.2.2.2.2.1)), .ab (.rf 70 36 96 
 (UpY.makeY Z (clipO o).2.1 (clipO o).2.2.2.2.2.1 (clipO o).2.2.2.2.2.2.2.1))])))) (br (kindI (clipO o).1 (13 : Int) == (3 : Int)) (UpY.Ok Y ∧ (inK .i64 (UpY.linkE Y (clipO o).2.1 (clipO o).2.2.2.2.2.1 (clipO o).2.2.1) → UpY.OkN Z (1000000 : 
 Nat) ∧ (inK .i64 (UpY.linkE Z (clipO o).2.1 (clipO o).2.2.2.2.2.1 (clipO o).2.2.1) → Q (.v (.c (.k (.bool (UpY.linkE Y (clipO o).2.1 (clipO o).2.2.2.2.2.1 (clipO o).2.2.1 == UpY.linkE Z (clipO o).2.1 (clipO o).2.2.2.2.2.1 (clipO 
 o).2.2.1))))) [.ab (.upr ⟨66, 63, 3, 9⟩ (UpY.linkY Y (clipO o).2.1 (clipO o).2.2.2.2.2.1 (clipO o).2.2.1)), .ab (.rf 70 36 96 (UpY.linkY Z (clipO o).2.1 (clipO o).2.2.2.2.2.1 (clipO o).2.2.1))]))) (br (kindI (clipO o).1 (13 : Int) == (4 : 
 Int)) (UpY.Ok Y ∧ (inK .i64 (UpY.removeE Y (clipO o).2.1 (clipO o).2.2.2.2.2.1) → UpY.OkN Z (1000000 : Nat) ∧ (inK .i64 (UpY.removeE Z (clipO o).2.1 (clipO o).2.2.2.2.2.1) → Q (.v (.c (.k (.bool (UpY.removeE Y (clipO o).2.1 (clipO 
 o).2.2.2.2.2.1 == UpY.removeE Z (clipO o).2.1 (clipO o).2.2.2.2.2.1))))) [.ab (.upr ⟨66, 63, 3, 9⟩ (UpY.removeY Y (clipO o).2.1 (clipO o).2.2.2.2.2.1)), .ab (.rf 70 36 96 (UpY.removeY Z (clipO o).2.1 (clipO o).2.2.2.2.2.1))]))) (br (kindI 
 (clipO o).1 (13 : Int) == (5 : Int)) (UpY.Ok Y ∧ (inK .i64 (UpY.moveE Y (clipO o).2.1 (clipO o).2.2.2.2.2.1 (clipO o).2.2.1 (clipO o).2.2.2.2.2.2.1) → UpY.OkN Z (1000000 : Nat) ∧ (inK .i64 (UpY.moveE Z (clipO o).2.1 (clipO o).2.2.2.2.2.1 
 (clipO o).2.2.1 (clipO o).2.2.2.2.2.2.1) → Q (.v (.c (.k (.bool (UpY.moveE Y (clipO o).2.1 (clipO o).2.2.2.2.2.1 (clipO o).2.2.1 (clipO o).2.2.2.2.2.2.1 == UpY.moveE Z (clipO o).2.1 (clipO o).2.2.2.2.2.1 (clipO o).2.2.1 (clipO 
 o).2.2.2.2.2.2.1))))) [.ab (.upr ⟨66, 63, 3, 9⟩ (UpY.moveY Y (clipO o).2.1 (clipO o).2.2.2.2.2.1 (clipO o).2.2.1 (clipO o).2.2.2.2.2.2.1)), .ab (.rf 70 36 96 (UpY.moveY Z (clipO o).2.1 (clipO o).2.2.2.2.2.1 (clipO o).2.2.1 (clipO 
 o).2.2.2.2.2.2.1))]))) (br (kindI (clipO o).1 (13 : Int) == (6 : Int)) (UpY.Ok Y ∧ (inK .i64 (UpY.moveE Y (clipO o).2.1 (clipO o).2.2.2.2.2.1 (clipO o).2.2.1 (clipO o).2.2.2.2.2.2.1) → UpY.OkN Z (1000000 : Nat) ∧ (inK .i64 (UpY.moveE Z 
 (clipO o).2.1 (clipO o).2.2.2.2.2.1 (clipO o).2.2.1 (clipO o).2.2.2.2.2.2.1) → Q (.v (.c (.k (.bool (UpY.moveE Y (clipO o).2.1 (clipO o).2.2.2.2.2.1 (clipO o).2.2.1 (clipO o).2.2.2.2.2.2.1 == UpY.moveE Z (clipO o).2.1 (clipO o).2.2.2.2.2.1 
 (clipO o).2.2.1 (clipO o).2.2.2.2.2.2.1))))) [.ab (.upr ⟨66, 63, 3, 9⟩ (UpY.moveY Y (clipO o).2.1 (clipO o).2.2.2.2.2.1 (clipO o).2.2.1 (clipO o).2.2.2.2.2.2.1)), .ab (.rf 70 36 96 (UpY.moveY Z (clipO o).2.1 (clipO o).2.2.2.2.2.1 (clipO 
 o).2.2.1 (clipO o).2.2.2.2.2.2.1))]))) (br (kindI (clipO o).1 (13 : Int) == (7 : Int)) (((0 : Nat) + List.length (clipO o).2.2.2.2.2.2.2.2.1) * (1 : Nat) ≤ (140737488355328 : Nat) ∧ (0 : Nat) + List.length (clipO o).2.2.2.2.2.2.2.2.1 ≤ 
 9223372036854775807 ∧ UpY.Ok Y ∧ (inK .i64 (UpY.writeE Y (clipO o).2.1 (clipO o).2.2.2.1 ([] ++ (clipO o).2.2.2.2.2.2.2.2.1)) → LoopP (fun i again => List.length i.1.2.1 ≤ 9223372036854775807 → br (decide (i.1.1 < (↑(List.length i.1.2.1) : 
 Int))) (0 ≤ i.1.1 ∧ i.1.1 < (↑(List.length i.1.2.1) : Int) ∧ 0 ≤ i.1.1 ∧ i.1.1 < (↑(List.length i.1.2.1) : Int) ∧ inK .i64 (i.1.1 + (1 : Int)) ∧ again ((i.1.1 + (1 : Int), List.set i.1.2.1 (Int.toNat i.1.1) (UInt8.ofNat (99 : Nat)), ()), 
 ())) (UpY.OkN Z (1000000 : Nat) ∧ (inK .i64 (UpY.writeE Z (clipO o).2.1 (clipO o).2.2.2.1 (clipO o).2.2.2.2.2.2.2.2.1) → Q (.v (.c (.k (.bool (UpY.writeE Y (clipO o).2.1 (clipO o).2.2.2.1 ([] ++ (clipO o).2.2.2.2.2.2.2.2.1) == UpY.writeE Z 
 (clipO o).2.1 (clipO o).2.2.2.1 (clipO o).2.2.2.2.2.2.2.2.1))))) [.ab (.upr ⟨66, 63, 3, 9⟩ (UpY.writeY Y (clipO o).2.1 (clipO o).2.2.2.1 ([] ++ (clipO o).2.2.2.2.2.2.2.2.1))), .ab (.rf 70 36 96 (UpY.writeY Z (clipO o).2.1 (clipO o).2.2.2.1 
 (clipO o).2.2.2.2.2.2.2.2.1))]))) (((0 : Int), [] ++ (clipO o).2.2.2.2.2.2.2.2.1, ()), ()))) (br (kindI (clipO o).1 (13 : Int) == (8 : Int)) (UpY.Ok Y ∧ (inK .i64 (UpY.resizeE Y (clipO o).2.1 (clipO o).2.2.2.1) → UpY.OkN Z (1000000 : Nat) ∧ 
 (inK .i64 (UpY.resizeE Z (clipO o).2.1 (clipO o).2.2.2.1) → Q (.v (.c (.k (.bool (UpY.resizeE Y (clipO o).2.1 (clipO o).2.2.2.1 == UpY.resizeE Z (clipO o).2.1 (clipO o).2.2.2.1))))) [.ab (.upr ⟨66, 63, 3, 9⟩ (UpY.resizeY Y (clipO o).2.1 
 (clipO o).2.2.2.1)), .ab (.rf 70 36 96 (UpY.resizeY Z (clipO o).2.1 (clipO o).2.2.2.1))]))) (br (kindI (clipO o).1 (13 : Int) == (9 : Int)) (UpY.Ok Y ∧ (inK .i64 (UpY.setAttrE Y (clipO o).2.1 (clipO o).2.2.2.2.2.2.2.1.2.2.2.1) → UpY.OkN Z 
 (1000000 : Nat) ∧ (inK .i64 (UpY.setAttrE Z (clipO o).2.1 (clipO o).2.2.2.2.2.2.2.1.2.2.2.1) → Q (.v (.c (.k (.bool (UpY.setAttrE Y (clipO o).2.1 (clipO o).2.2.2.2.2.2.2.1.2.2.2.1 == UpY.setAttrE Z (clipO o).2.1 (clipO 
 o).2.2.2.2.2.2.2.1.2.2.2.1))))) [.ab (.upr ⟨66, 63, 3, 9⟩ (UpY.setAttrY Y (clipO o).2.1 (clipO o).2.2.2.2.2.2.2.1.2.2.2.1)), .ab (.rf 70 36 96 (UpY.setAttrY Z (clipO o).2.1 (clipO o).2.2.2.2.2.2.2.1.2.2.2.1))]))) (br (kindI (clipO o).1 (13 
 : Int) == (10 : Int)) (UpY.Ok Y ∧ (inK .i64 (UpY.setXattrsE Y (clipO o).2.1 (clipO o).2.2.2.2.2.2.2.1.2.2.2.2.2.2.1) → UpY.OkN Z (1000000 : Nat) ∧ (inK .i64 (UpY.setXattrsE Z (clipO o).2.1 (clipO o).2.2.2.2.2.2.2.1.2.2.2.2.2.2.1) → Q (.v 
 (.c (.k (.bool (UpY.setXattrsE Y (clipO o).2.1 (clipO o).2.2.2.2.2.2.2.1.2.2.2.2.2.2.1 == UpY.setXattrsE Z (clipO o).2.1 (clipO o).2.2.2.2.2.2.2.1.2.2.2.2.2.2.1))))) [.ab (.upr ⟨66, 63, 3, 9⟩ (UpY.setXattrsY Y (clipO o).2.1 (clipO 
 o).2.2.2.2.2.2.2.1.2.2.2.2.2.2.1)), .ab (.rf 70 36 96 (UpY.setXattrsY Z (clipO o).2.1 (clipO o).2.2.2.2.2.2.2.1.2.2.2.2.2.2.1))]))) (br (kindI (clipO o).1 (13 : Int) == (11 : Int)) ((2 : Int) ≠ (0 : Int) ∧ (inK .i64 (Int.tmod (clipO 
 o).2.2.2.1 (2 : Int)) → (2 : Int) ≠ (0 : Int) ∧ (inK .i64 (Int.tmod (clipO o).2.2.2.1 (2 : Int)) → UpY.Ok Y ∧ (inK .i64 (UpY.dirE Y (clipO o).2.1) → UpY.OkN Z (1000000 : Nat) ∧ (inK .i64 (UpY.dirE Z (clipO o).2.1) → Q (.v (.c (.k (.bool 
 (UpY.dirE Y (clipO o).2.1 == UpY.dirE Z (clipO o).2.1))))) [.ab (.upr ⟨66, 63, 3, 9⟩ (UpY.setOpaqueY Y (clipO o).2.1 (Int.tmod (clipO o).2.2.2.1 (2 : Int) == (0 : Int)))), .ab (.rf 70 36 96 (UpY.setOpaqueY Z (clipO o).2.1 (Int.tmod (clipO 
 o).2.2.2.1 (2 : Int) == (0 : Int))))]))))) (UpY.Ok Y ∧ (inK .i64 (UpY.readE Y (clipO o).2.1 (clipO o).2.2.2.1 (clipO o).2.2.2.2.1) → UpY.OkN Z (1000000 : Nat) ∧ (inK .i64 (UpY.readE Z (clipO o).2.1 (clipO o).2.2.2.1 (clipO o).2.2.2.2.1) → 
 br (sEq (bstr (UpY.readD Y (clipO o).2.1 (clipO o).2.2.2.1 (clipO o).2.2.2.2.1)) (bstr (UpY.readD Z (clipO o).2.1 (clipO o).2.2.2.1 (clipO o).2.2.2.2.1))) (Q (.v (.c (.k (.bool (UpY.readE Y (clipO o).2.1 (clipO o).2.2.2.1 (clipO 
 o).2.2.2.2.1 == UpY.readE Z (clipO o).2.1 (clipO o).2.2.2.1 (clipO o).2.2.2.2.1))))) [.ab (.upr ⟨66, 63, 3, 9⟩ Y), .ab (.rf 70 36 96 Z)]) (Q (.v (.c (.k (.bool false)))) [.ab (.upr ⟨66, 63, 3, 9⟩ Y), .ab (.rf 70 36 96 Z)]))))))))))))))))
theorem vc_does_eq (o : (opTy).den) (Y : UpY) (Z : UpY) (Q : SV → List HO → Prop) : vFun XW162 ⟨[(21, ⟨[(13, .int .i64), (11, .own 5 .u8)], []⟩)], []⟩ Try.f8 [.v (.c (.p 0 0)), .v (.c (.p 1 0)), .v (.agg (Ty.cells opTy o))] [.ab (.upr ⟨66, 63, 3, 9⟩ Y), .ab (.rf 70 36 96 Z)] Q = vc_does o Y Z Q := by kernel_rfl
theorem w_does : ∀ args H Q, c_does args H Q → Wp Inv Try.prog 8 args H Q := by
  intro args H Q h
  unfold c_does at h
  split at h
  rotate_left
  · exact h.elim
  rename_i co Y Z
  split at h
  rotate_left
  · exact h.elim
  rename_i o ho
  refine Wp.said (args' := [.v (.c (.p 0 0)), .v (.c (.p 1 0)), .v (.agg (Ty.cells opTy o))]) (fun E g => RelVs.cons1 (fun _ h => h) (RelVs.cons1 (fun _ h => h) (RelVs.cons1 (of_row ho) (fun _ h => h)))) ?_
  clear ho
  refine Wp.enter (X := XW162) XW162_ok ⟨[(21, ⟨[(13, .int .i64), (11, .own 5 .u8)], []⟩)], []⟩ (fn := Try.f8) (by kernel_rfl) ?_
  have hv := vc_does_eq o Y Z Q
  rw [show vFun _ _ _ _ _ _ = _ from hv]
  unfold vc_does
  obtain ⟨rfl, hn, h⟩ := h
  have hk := hn.ok (Nat.le_refl _)
  have hdl : (clipO o).2.2.2.2.2.2.2.2.1.length ≤ 300 := List.length_take_le ..
  intros
  generalize clipO o = p at h hdl ⊢
  refine ⟨by decide, fun _ => ?_⟩
  have fin : ∀ Y', Z.doD p = Y' → ∀ c : Bool, c = true → Q (.bool c) [.ab (.upr ⟨66, 63, 3, 9⟩ Y'), .ab (.rf 70 36 96 Y')] := fun Y' e c hc => by subst e hc; exact h
  refine br_of (fun h0 => ?_) (fun h0 => ?_)
  · have hK := eq_of_beq h0
    exact ⟨hk, fun _ _ => ⟨hn, fun _ _ => br_of (fun _ => fin _ (by unfold UpY.doD; rw [hK]; rfl) _ (beq_self_eq_true _)) (fun hx => by rw [beq_self_eq_true] at hx; cases hx)⟩⟩
  refine br_of (fun h1 => ?_) (fun h1 => ?_)
  · have hK := eq_of_beq h1
    exact ⟨hk, fun _ _ => ⟨hn, fun _ _ => br_of (fun _ => fin _ (by unfold UpY.doD; rw [hK]; rfl) _ (beq_self_eq_true _)) (fun hx => by rw [beq_self_eq_true] at hx; cases hx)⟩⟩
  refine br_of (fun h2 => ?_) (fun h2 => ?_)
  · have hK := eq_of_beq h2
    exact ⟨hk, fun _ _ => ⟨hn, fun _ _ => br_of (fun _ => fin _ (by unfold UpY.doD; rw [hK]; rfl) _ (beq_self_eq_true _)) (fun hx => by rw [beq_self_eq_true] at hx; cases hx)⟩⟩
  refine br_of (fun h3 => ?_) (fun h3 => ?_)
  · have hK := eq_of_beq h3
    exact ⟨hk, fun _ => ⟨hn, fun _ => fin _ (by unfold UpY.doD; rw [hK]; rfl) _ (beq_self_eq_true _)⟩⟩
  refine br_of (fun h4 => ?_) (fun h4 => ?_)
  · have hK := eq_of_beq h4
    exact ⟨hk, fun _ => ⟨hn, fun _ => fin _ (by unfold UpY.doD; rw [hK]; rfl) _ (beq_self_eq_true _)⟩⟩
  refine br_of (fun h5 => ?_) (fun h5 => ?_)
  · have hK := eq_of_beq h5
    exact ⟨hk, fun _ => ⟨hn, fun _ => fin _ (by unfold UpY.doD; rw [hK]; rfl) _ (beq_self_eq_true _)⟩⟩
  refine br_of (fun h6 => ?_) (fun h6 => ?_)
  · have hK := eq_of_beq h6
    exact ⟨hk, fun _ => ⟨hn, fun _ => fin _ (by unfold UpY.doD; rw [hK]; rfl) _ (beq_self_eq_true _)⟩⟩
  refine br_of (fun h7 => ?_) (fun h7 => ?_)
  · have hK := eq_of_beq h7
    refine ⟨by omega, by omega, hk, fun _ => LoopP.intro (fun i => 0 ≤ i.1.1) (fun i => i.1.2.1.length - i.1.1.toNat) (Int.le_refl _) ?_⟩
    rintro ⟨⟨k, own, _⟩, _⟩ k0
    simp only at k0 ⊢
    intro _
    refine br_of (fun hc => ?_) (fun _ => ⟨hn, fun _ => fin _ (by unfold UpY.doD; rw [hK]; rfl) _ (beq_self_eq_true _)⟩)
    have hc := of_decide_eq_true hc
    exact ⟨k0, hc, k0, hc, by unfold inK; omega, by omega, by rw [List.length_set]; omega⟩
  refine br_of (fun h8 => ?_) (fun h8 => ?_)
  · have hK := eq_of_beq h8
    exact ⟨hk, fun _ => ⟨hn, fun _ => fin _ (by unfold UpY.doD; rw [hK]; rfl) _ (beq_self_eq_true _)⟩⟩
  refine br_of (fun h9 => ?_) (fun h9 => ?_)
  · have hK := eq_of_beq h9
    exact ⟨hk, fun _ => ⟨hn, fun _ => fin _ (by unfold UpY.doD; rw [hK]; rfl) _ (beq_self_eq_true _)⟩⟩
  refine br_of (fun h10 => ?_) (fun h10 => ?_)
  · have hK := eq_of_beq h10
    exact ⟨hk, fun _ => ⟨hn, fun _ => fin _ (by unfold UpY.doD; rw [hK]; rfl) _ (beq_self_eq_true _)⟩⟩
  refine br_of (fun h11 => ?_) (fun h11 => ?_)
  · have hK := eq_of_beq h11
    exact ⟨by decide, fun _ => ⟨by decide, fun _ => ⟨hk, fun _ => ⟨hn, fun _ => fin _ (by unfold UpY.doD; rw [hK]; rfl) _ (beq_self_eq_true _)⟩⟩⟩⟩
  have n0 : kindI p.1 13 ≠ 0 := by simpa using h0
  have n1 : kindI p.1 13 ≠ 1 := by simpa using h1
  have n2 : kindI p.1 13 ≠ 2 := by simpa using h2
  have n3 : kindI p.1 13 ≠ 3 := by simpa using h3
  have n4 : kindI p.1 13 ≠ 4 := by simpa using h4
  have n5 : kindI p.1 13 ≠ 5 := by simpa using h5
  have n6 : kindI p.1 13 ≠ 6 := by simpa using h6
  have n7 : kindI p.1 13 ≠ 7 := by simpa using h7
  have n8 : kindI p.1 13 ≠ 8 := by simpa using h8
  have n9 : kindI p.1 13 ≠ 9 := by simpa using h9
  have n10 : kindI p.1 13 ≠ 10 := by simpa using h10
  have n11 : kindI p.1 13 ≠ 11 := by simpa using h11
  exact ⟨hk, fun _ => ⟨hn, fun _ => br_of (fun _ => fin _ (by unfold UpY.doD; rw [if_neg (by omega), if_neg (by omega), if_neg (by omega), if_neg (by omega), if_neg (by omega), if_neg (by omega), if_neg (by omega), if_neg (by omega), if_neg (by omega)]) _ (beq_self_eq_true _)) (fun hx => by rw [sEq_iff.2 rfl] at hx; cases hx)⟩⟩
end Go.Proofs

namespace Go.Proofs
open Go Go.Lm Go.RowKit
set_option maxRecDepth 1000000
def c_lshown : Ct
  | [], [], Q => Q (.bool true) []
  | _, _, _ => False
noncomputable def XW263 : Vx := { P := Try.prog, ct := (8, c_does) :: XW162.ct, ty := tyTab, hold := [] }
theorem XW263_ok : CtOk Inv Try.prog XW263.ct := CtOk.cons w_does (XW162_ok)
def vc_lshown : (SV → List HO → Prop) → Prop :=
 fun Q => [UInt8.ofNat (104 : Nat), UInt8.ofNat (105 : Nat)] ≠ [] ∧ UpY.Ok (UpY.new (9 : Int) (999 : Int)) ∧ (inK .i64 (UpY.makeR (UpY.new (9 : Int) (999 : Int)) (1 : Int) (ByteArray.mk #[(97 : UInt8)]) ([], (0 : Int), (2 : Int), ((0 : Int), 
 (0 : Int), (0 : Int), ()), [UInt8.ofNat (104 : Nat), UInt8.ofNat (105 : Nat)], ByteArray.mk #[], [], false, ())) → inK .i64 (UpY.makeE (UpY.new (9 : Int) (999 : Int)) (1 : Int) (ByteArray.mk #[(97 : UInt8)]) ([], (0 : Int), (2 : Int), ((0 : 
 Int), (0 : Int), (0 : Int), ()), [UInt8.ofNat (104 : Nat), UInt8.ofNat (105 : Nat)], ByteArray.mk #[], [], false, ())) → UpY.Ok (UpY.makeY (UpY.new (9 : Int) (999 : Int)) (1 : Int) (ByteArray.mk #[(97 : UInt8)]) ([], (0 : Int), (2 : Int), 
 ((0 : Int), (0 : Int), (0 : Int), ()), [UInt8.ofNat (104 : Nat), UInt8.ofNat (105 : Nat)], ByteArray.mk #[], [], false, ())) ∧ (inK .i64 (UpY.linkE (UpY.makeY (UpY.new (9 : Int) (999 : Int)) (1 : Int) (ByteArray.mk #[(97 : UInt8)]) ([], (0 
 : Int), (2 : Int), ((0 : Int), (0 : Int), (0 : Int), ()), [UInt8.ofNat (104 : Nat), UInt8.ofNat (105 : Nat)], ByteArray.mk #[], [], false, ())) (1 : Int) (ByteArray.mk #[(98 : UInt8)]) (2 : Int)) → UpY.Ok (UpY.linkY (UpY.makeY (UpY.new (9 : 
 Int) (999 : Int)) (1 : Int) (ByteArray.mk #[(97 : UInt8)]) ([], (0 : Int), (2 : Int), ((0 : Int), (0 : Int), (0 : Int), ()), [UInt8.ofNat (104 : Nat), UInt8.ofNat (105 : Nat)], ByteArray.mk #[], [], false, ())) (1 : Int) (ByteArray.mk #[(98 
 : UInt8)]) (2 : Int)) ∧ (inK .i64 (UpY.removeE (UpY.linkY (UpY.makeY (UpY.new (9 : Int) (999 : Int)) (1 : Int) (ByteArray.mk #[(97 : UInt8)]) ([], (0 : Int), (2 : Int), ((0 : Int), (0 : Int), (0 : Int), ()), [UInt8.ofNat (104 : Nat), 
 UInt8.ofNat (105 : Nat)], ByteArray.mk #[], [], false, ())) (1 : Int) (ByteArray.mk #[(98 : UInt8)]) (2 : Int)) (1 : Int) (ByteArray.mk #[(97 : UInt8)])) → UpY.Ok (UpY.removeY (UpY.linkY (UpY.makeY (UpY.new (9 : Int) (999 : Int)) (1 : Int) 
 (ByteArray.mk #[(97 : UInt8)]) ([], (0 : Int), (2 : Int), ((0 : Int), (0 : Int), (0 : Int), ()), [UInt8.ofNat (104 : Nat), UInt8.ofNat (105 : Nat)], ByteArray.mk #[], [], false, ())) (1 : Int) (ByteArray.mk #[(98 : UInt8)]) (2 : Int)) (1 : 
 Int) (ByteArray.mk #[(97 : UInt8)])) ∧ (inK .i64 (UpY.statD (UpY.removeY (UpY.linkY (UpY.makeY (UpY.new (9 : Int) (999 : Int)) (1 : Int) (ByteArray.mk #[(97 : UInt8)]) ([], (0 : Int), (2 : Int), ((0 : Int), (0 : Int), (0 : Int), ()), 
 [UInt8.ofNat (104 : Nat), UInt8.ofNat (105 : Nat)], ByteArray.mk #[], [], false, ())) (1 : Int) (ByteArray.mk #[(98 : UInt8)]) (2 : Int)) (1 : Int) (ByteArray.mk #[(97 : UInt8)])) (2 : Int)).1 → inK .i64 (UpY.statD (UpY.removeY (UpY.linkY 
 (UpY.makeY (UpY.new (9 : Int) (999 : Int)) (1 : Int) (ByteArray.mk #[(97 : UInt8)]) ([], (0 : Int), (2 : Int), ((0 : Int), (0 : Int), (0 : Int), ()), [UInt8.ofNat (104 : Nat), UInt8.ofNat (105 : Nat)], ByteArray.mk #[], [], false, ())) (1 : 
 Int) (ByteArray.mk #[(98 : UInt8)]) (2 : Int)) (1 : Int) (ByteArray.mk #[(97 : UInt8)])) (2 : Int)).2.1.1 → inK .i64 (UpY.statD (UpY.removeY (UpY.linkY (UpY.makeY (UpY.new (9 : Int) (999 : Int)) (1 : Int) (ByteArray.mk #[(97 : UInt8)]) ([], 
 (0 : Int), (2 : Int), ((0 : Int), (0 : Int), (0 : Int), ()), [UInt8.ofNat (104 : Nat), UInt8.ofNat (105 : Nat)], ByteArray.mk #[], [], false, ())) (1 : Int) (ByteArray.mk #[(98 : UInt8)]) (2 : Int)) (1 : Int) (ByteArray.mk #[(97 : UInt8)])) 
 (2 : Int)).2.1.2.1 → inK .i64 (UpY.statD (UpY.removeY (UpY.linkY (UpY.makeY (UpY.new (9 : Int) (999 : Int)) (1 : Int) (ByteArray.mk #[(97 : UInt8)]) ([], (0 : Int), (2 : Int), ((0 : Int), (0 : Int), (0 : Int), ()), [UInt8.ofNat (104 : Nat), 
 UInt8.ofNat (105 : Nat)], ByteArray.mk #[], [], false, ())) (1 : Int) (ByteArray.mk #[(98 : UInt8)]) (2 : Int)) (1 : Int) (ByteArray.mk #[(97 : UInt8)])) (2 : Int)).2.1.2.2.1 → inK .i64 (UpY.statD (UpY.removeY (UpY.linkY (UpY.makeY (UpY.new 
 (9 : Int) (999 : Int)) (1 : Int) (ByteArray.mk #[(97 : UInt8)]) ([], (0 : Int), (2 : Int), ((0 : Int), (0 : Int), (0 : Int), ()), [UInt8.ofNat (104 : Nat), UInt8.ofNat (105 : Nat)], ByteArray.mk #[], [], false, ())) (1 : Int) (ByteArray.mk 
 #[(98 : UInt8)]) (2 : Int)) (1 : Int) (ByteArray.mk #[(97 : UInt8)])) (2 : Int)).2.2.1 → inK .i64 (UpY.statD (UpY.removeY (UpY.linkY (UpY.makeY (UpY.new (9 : Int) (999 : Int)) (1 : Int) (ByteArray.mk #[(97 : UInt8)]) ([], (0 : Int), (2 : 
 Int), ((0 : Int), (0 : Int), (0 : Int), ()), [UInt8.ofNat (104 : Nat), UInt8.ofNat (105 : Nat)], ByteArray.mk #[], [], false, ())) (1 : Int) (ByteArray.mk #[(98 : UInt8)]) (2 : Int)) (1 : Int) (ByteArray.mk #[(97 : UInt8)])) (2 : 
 Int)).2.2.2.1 → inK .i64 (UpY.atE (UpY.removeY (UpY.linkY (UpY.makeY (UpY.new (9 : Int) (999 : Int)) (1 : Int) (ByteArray.mk #[(97 : UInt8)]) ([], (0 : Int), (2 : Int), ((0 : Int), (0 : Int), (0 : Int), ()), [UInt8.ofNat (104 : Nat), 
 UInt8.ofNat (105 : Nat)], ByteArray.mk #[], [], false, ())) (1 : Int) (ByteArray.mk #[(98 : UInt8)]) (2 : Int)) (1 : Int) (ByteArray.mk #[(97 : UInt8)])) (2 : Int)) → Q (.v (.c (.k (.bool ((UpY.statD (UpY.removeY (UpY.linkY (UpY.makeY 
 (UpY.new (9 : Int) (999 : Int)) (1 : Int) (ByteArray.mk #[(97 : UInt8)]) ([], (0 : Int), (2 : Int), ((0 : Int), (0 : Int), (0 : Int), ()), [UInt8.ofNat (104 : Nat), UInt8.ofNat (105 : Nat)], ByteArray.mk #[], [], false, ())) (1 : Int) 
 (ByteArray.mk #[(98 : UInt8)]) (2 : Int)) (1 : Int) (ByteArray.mk #[(97 : UInt8)])) (2 : Int)).1 == 2 && ((UpY.statD (UpY.removeY (UpY.linkY (UpY.makeY (UpY.new (9 : Int) (999 : Int)) (1 : Int) (ByteArray.mk #[(97 : UInt8)]) ([], (0 : Int), 
 (2 : Int), ((0 : Int), (0 : Int), (0 : Int), ()), [UInt8.ofNat (104 : Nat), UInt8.ofNat (105 : Nat)], ByteArray.mk #[], [], false, ())) (1 : Int) (ByteArray.mk #[(98 : UInt8)]) (2 : Int)) (1 : Int) (ByteArray.mk #[(97 : UInt8)])) (2 : 
 Int)).2.1.1 == 0 && ((UpY.statD (UpY.removeY (UpY.linkY (UpY.makeY (UpY.new (9 : Int) (999 : Int)) (1 : Int) (ByteArray.mk #[(97 : UInt8)]) ([], (0 : Int), (2 : Int), ((0 : Int), (0 : Int), (0 : Int), ()), [UInt8.ofNat (104 : Nat), 
 UInt8.ofNat (105 : Nat)], ByteArray.mk #[], [], false, ())) (1 : Int) (ByteArray.mk #[(98 : UInt8)]) (2 : Int)) (1 : Int) (ByteArray.mk #[(97 : UInt8)])) (2 : Int)).2.1.2.1 == 0 && ((UpY.statD (UpY.removeY (UpY.linkY (UpY.makeY (UpY.new (9 
 : Int) (999 : Int)) (1 : Int) (ByteArray.mk #[(97 : UInt8)]) ([], (0 : Int), (2 : Int), ((0 : Int), (0 : Int), (0 : Int), ()), [UInt8.ofNat (104 : Nat), UInt8.ofNat (105 : Nat)], ByteArray.mk #[], [], false, ())) (1 : Int) (ByteArray.mk 
 #[(98 : UInt8)]) (2 : Int)) (1 : Int) (ByteArray.mk #[(97 : UInt8)])) (2 : Int)).2.1.2.2.1 == 0 && true)) && ((UpY.statD (UpY.removeY (UpY.linkY (UpY.makeY (UpY.new (9 : Int) (999 : Int)) (1 : Int) (ByteArray.mk #[(97 : UInt8)]) ([], (0 : 
 Int), (2 : Int), ((0 : Int), (0 : Int), (0 : Int), ()), [UInt8.ofNat (104 : Nat), UInt8.ofNat (105 : Nat)], ByteArray.mk #[], [], false, ())) (1 : Int) (ByteArray.mk #[(98 : UInt8)]) (2 : Int)) (1 : Int) (ByteArray.mk #[(97 : UInt8)])) (2 : 
 Int)).2.2.1 == 1 && ((UpY.statD (UpY.removeY (UpY.linkY (UpY.makeY (UpY.new (9 : Int) (999 : Int)) (1 : Int) (ByteArray.mk #[(97 : UInt8)]) ([], (0 : Int), (2 : Int), ((0 : Int), (0 : Int), (0 : Int), ()), [UInt8.ofNat (104 : Nat), 
 UInt8.ofNat (105 : Nat)], ByteArray.mk #[], [], false, ())) (1 : Int) (ByteArray.mk #[(98 : UInt8)]) (2 : Int)) (1 : Int) (ByteArray.mk #[(97 : UInt8)])) (2 : Int)).2.2.2.1 == 2 && true)))))))) []))))
theorem vc_lshown_eq  (Q : SV → List HO → Prop) : vFun XW263 ⟨[], []⟩ Try.f4 [] [] Q = vc_lshown  Q := by kernel_rfl
theorem w_lshown : ∀ args H Q, c_lshown args H Q → Wp Inv Try.prog 4 args H Q := by
  intro args H Q h
  unfold c_lshown at h
  split at h
  rotate_left
  · exact h.elim
  refine Wp.enter (X := XW263) XW263_ok ⟨[], []⟩ (fn := Try.f4) (by kernel_rfl) ?_
  have hv := vc_lshown_eq  Q
  rw [show vFun _ _ _ _ _ _ = _ from hv]
  unfold vc_lshown
  clear hv
  have o0 := new_okN 9 999
  have o1 := okN_make o0 1 ⟨#[97]⟩ (([], 0, 2, (0, 0, 0, ()), [UInt8.ofNat 104, UInt8.ofNat 105], ⟨#[]⟩, [], false, ()) : NoD)
  have o2 := okN_link o1 1 ⟨#[98]⟩ 2
  have o3 := okN_remove o2 1 ⟨#[97]⟩
  refine ⟨by simp, o0.ok (by decide), fun _ _ => ⟨o1.ok (by decide), fun _ => ⟨o2.ok (by decide), fun _ => ⟨o3.ok (by decide), fun _ _ _ _ _ _ _ => ?_⟩⟩⟩⟩
  refine Eq.mp (congrArg (fun z => Q (SV.bool z) []) (Eq.symm ?_)) h
  decide +kernel
end Go.Proofs

namespace Go.Lm
open Go Go.RowKit
section
variable {P : Program}
def OpensD (P : Program) (t : TypeId) (e : Ty) : Prop := @Opens P t e.den e.rep
def OpensF (P : Program) (fs : List Field) (off : Nat) (e : Ty) : Prop :=
  ∀ {H : Type} (enc : TypeId × Value → H) (w : World) (base : Nat) (spare : Nat → Bool) (held : Bool) (fuel : Nat) (cs : List Value), cs.length = off + e.size →
    (∀ f ∈ fs, ∃ y, DataW.trod enc P w base spare held fuel f.type ((cs.drop f.offset).take (P.cellsOf f.type)) = some y) → ∃ x : e.den, e.rep.rel w (cs.drop off) x
theorem opensF_nil {off : Nat} : OpensF P [] off .unit := fun _ _ _ _ _ _ cs hl _ => ⟨(), by
  show cs.drop off = []
  exact List.drop_eq_nil_of_le (by rw [hl]; exact Nat.le_refl _)⟩
theorem opensF_cons {a b : Ty} {f : Field} {fs : List Field} {off : Nat} (ho : f.offset = off) (hs : P.cellsOf f.type = a.size) (h1 : OpensD P f.type a) (h2 : OpensF P fs (off + a.size) b) : OpensF P (f :: fs) off (.pair a b) := fun enc w base spare held fuel cs hl h => by
  obtain ⟨y, hy⟩ := h f (by simp)
  obtain ⟨x, hx⟩ := h1 enc w base spare held fuel _ y hy
  have hl' : cs.length = off + (a.size + b.size) := hl
  obtain ⟨r, hr⟩ := h2 enc w base spare held fuel cs (by omega) fun g hg => h g (List.mem_cons_of_mem _ hg)
  rw [ho, hs] at hx
  refine ⟨(x, r), _, _, ?_, hx, hr⟩
  rw [← List.drop_drop, List.take_append_drop]
theorem opensD_struct {t : TypeId} {e : Ty} {fs : Array Field} (ht : P.underlying t = some (.struct fs)) (hs : P.cellsOf t = e.size) (h : OpensF P fs.toList 0 e) : OpensD P t e := fun enc w base spare held fuel cs y hy => by
  obtain ⟨xs, n, _, _, hlen, hxl, hf⟩ := DataW.trod_struct ht hy
  obtain ⟨x, hx⟩ := h enc w base spare held n cs (by rw [hlen, hs]; omega) fun f hm => by
    obtain ⟨i, hi⟩ := List.getElem?_of_mem hm
    have hi' : fs[i]? = some f := by simpa using hi
    have hlt : i < xs.length := by rw [hxl]; exact (Array.getElem?_eq_some_iff.1 hi').1
    exact ⟨xs[i], by rw [hf i f hi', List.getElem?_eq_getElem hlt]⟩
  rw [List.drop_zero] at hx
  exact ⟨x, hx⟩
theorem opensD_int {k : IntKind} {t : TypeId} (ht : P.underlying t = some (.int k)) : OpensD P t (.int k) := fun _ _ _ _ _ _ _ _ h => by
  obtain ⟨n, hc, _, hw⟩ := DataW.trod_int ht h
  exact ⟨n, hc, hw⟩
def fit (P : Program) : Ty → TypeId ⊕ (List Field × Nat) → Bool
  | .int k, .inl t => match P.underlying t with
    | some (.int k') => IntKind.beq k k'
    | _ => false
  | .u8, .inl t => match P.underlying t with
    | some (.int .u8) => true
    | _ => false
  | .str, .inl t => match P.underlying t with
    | some .string => true
    | _ => false
  | .bool, .inl t => match P.underlying t with
    | some .bool => true
    | _ => false
  | .sl e, .inl t => match P.underlying t with
    | some (.slice et) => Nat.beq (P.cellsOf et) e.size && fit P e (.inl et)
    | _ => false
  | .unit, .inr ([], _) => true
  | .pair a b, .inr (f :: fs, off) => Nat.beq f.offset off && (Nat.beq (P.cellsOf f.type) a.size && (fit P a (.inl f.type) && fit P b (.inr (fs, off + a.size))))
  | .pair a b, .inl t => match P.underlying t with
    | some (.struct fs) => match fs.toList with
      | f :: r => Nat.beq (P.cellsOf t) (a.size + b.size) && (Nat.beq f.offset 0 && (Nat.beq (P.cellsOf f.type) a.size && (fit P a (.inl f.type) && fit P b (.inr (r, a.size)))))
      | [] => false
    | _ => false
  | _, _ => false
theorem fit_ok : ∀ (e : Ty), (∀ t, fit P e (.inl t) = true → OpensD P t e) ∧ ∀ fs off, fit P e (.inr (fs, off)) = true → OpensF P fs off e
  | .int k => by
    refine ⟨fun t h => ?_, fun fs off h => by simp [fit] at h⟩
    unfold fit at h
    split at h
    · rename_i k' hk
      rw [IntKind.eq_of_beq h]
      exact opensD_int hk
    · cases h
  | .u8 => by
    refine ⟨fun t h => ?_, fun fs off h => by simp [fit] at h⟩
    unfold fit at h
    split at h
    · rename_i hk; exact opens_byte hk
    · cases h
  | .str => by
    refine ⟨fun t h => ?_, fun fs off h => by simp [fit] at h⟩
    unfold fit at h
    split at h
    · rename_i hk; exact opens_str hk
    · cases h
  | .bool => by
    refine ⟨fun t h => ?_, fun fs off h => by simp [fit] at h⟩
    unfold fit at h
    split at h
    · rename_i hk; exact opens_bool hk
    · cases h
  | .unit => by
    refine ⟨fun t h => by simp [fit] at h, fun fs off h => ?_⟩
    cases fs with
    | nil => exact opensF_nil
    | cons f r => simp [fit] at h
  | .sl e => by
    refine ⟨fun t h => ?_, fun fs off h => by simp [fit] at h⟩
    unfold fit at h
    split at h
    · rename_i et hk
      rw [Bool.and_eq_true] at h
      exact @opens_list P t et e.den e.rep hk ((Nat.eq_of_beq_eq_true h.1).trans e.rep_size.symm) ((fit_ok e).1 et h.2)
    · cases h
  | .pair a b => by
    refine ⟨fun t h => ?_, fun fs off h => ?_⟩
    · unfold fit at h
      split at h
      · rename_i fs hk
        split at h
        · rename_i f r hf
          simp only [Bool.and_eq_true] at h
          obtain ⟨h1, h2, h3, h4, h5⟩ := h
          refine opensD_struct (e := .pair a b) hk (Nat.eq_of_beq_eq_true h1) ?_
          rw [hf]
          refine opensF_cons (Nat.eq_of_beq_eq_true h2) (Nat.eq_of_beq_eq_true h3) ((fit_ok a).1 _ h4) ?_
          rw [Nat.zero_add]
          exact (fit_ok b).2 _ _ h5
        · cases h
      · cases h
    · cases fs with
      | nil => simp [fit] at h
      | cons f r =>
        unfold fit at h
        simp only [Bool.and_eq_true] at h
        obtain ⟨h2, h3, h4, h5⟩ := h
        exact opensF_cons (Nat.eq_of_beq_eq_true h2) (Nat.eq_of_beq_eq_true h3) ((fit_ok a).1 _ h4) ((fit_ok b).2 _ _ h5)
theorem open_sl {t : TypeId} {e : Ty} (hf : fit P (.sl e) (.inl t) = true) {H : Type} {enc : TypeId × Value → H} {w : World} {base : Nat} {spare : Nat → Bool} {held : Bool} {v : Value} {d : DataW H} {ps : List MemPlace}
    (hv : v.cells = #[v]) (h : DataW.Trod enc P w base spare held t v d ps) : ∃ x : List e.den, IsD e w v x :=
  @open_one P t (List e.den) (listRep e.den e.rep) ((fit_ok (.sl e)).1 t hf) rfl H enc w base spare held v d ps hv h
theorem Wp.run {I : Base → Prop} {f : FuncId} {args : List SV} {vs : List Value} {w : World} {b : Bool} (hI : I ⟨w, w⟩) (h : Wp I P f args [] fun v _ => v = SV.bool b) (hv : RelVs [] w args vs) : Ret P f vs.toArray w fun v w' => v = .bool b ∧ Le w w' := by
  have S : SL ⟨w, w⟩ w w [] := SL.start (Sees.refl w)
  refine (h ⟨w, w⟩ hI w w [] [] vs ⟨S, rfl⟩ hv).mono fun v w' ⟨E', g', sv, H', _, _, S', r, q⟩ => ?_
  subst q
  exact ⟨r.1, S'.sl.toLe⟩
end
end Go.Lm

namespace Go.Lm
open Go Go.RowKit
abbrev thereS : ByteArray := ⟨#[116, 104, 101, 114, 101]⟩
abbrev itS : ByteArray := ⟨#[105, 116]⟩
abbrev selfS : ByteArray := ⟨#[115, 101, 108, 102]⟩
abbrev dirN : NoD := ([], 0, 1, (0, 0, 0, ()), [], ⟨#[]⟩, [], false, ())
section
variable {Y : UpY}
theorem moveE_ok {d to : Int} {s now : ByteArray} {e : EnD} (hd : Y.dirE d = 0) (ht : Y.dirE to = 0) (he : Y.ent d s = some e) (hf : Y.freshE to now = 0) (hb : Y.below e.2.2.1 to = false) : Y.moveE d s to now = 0 ∧ Y.moveY d s to now = { Y with E := (Y.E.filter fun e => !isE d s e) ++ [(to, now, e.2.2.1, ())] } := by
  obtain ⟨y, hy, _⟩ := dirE_zero.1 ht
  have hat : Y.atE to = 0 := atE_zero.2 ⟨y, hy⟩
  have h0 : Y.moveE d s to now = 0 := by
    unfold UpY.moveE
    rw [if_neg (by rw [hat]; decide), if_neg (by rw [hd]; decide), if_neg (by rw [ht]; decide), he]
    simp only
    rw [if_neg (by rw [hf]; decide), if_neg (by rw [hb]; decide)]
  refine ⟨h0, ?_⟩
  unfold UpY.moveY
  rw [if_pos h0, he]
theorem moveE_self {d to : Int} {s now : ByteArray} {e : EnD} (hd : Y.dirE d = 0) (ht : Y.dirE to = 0) (he : Y.ent d s = some e) (hf : Y.freshE to now = 0) (hb : Y.below e.2.2.1 to = true) : Y.moveE d s to now = 30 ∧ Y.moveY d s to now = Y := by
  obtain ⟨y, hy, _⟩ := dirE_zero.1 ht
  have hat : Y.atE to = 0 := atE_zero.2 ⟨y, hy⟩
  have h0 : Y.moveE d s to now = 30 := by
    unfold UpY.moveE
    rw [if_neg (by rw [hat]; decide), if_neg (by rw [hd]; decide), if_neg (by rw [ht]; decide), he]
    simp only
    rw [if_neg (by rw [hf]; decide), if_pos hb]
  refine ⟨h0, ?_⟩
  unfold UpY.moveY
  rw [if_neg (by rw [h0]; decide)]
theorem freshE_ok {d : Int} {s : ByteArray} (hd : Y.dirE d = 0) (hs : validN s = 0) (hn : Y.ent d s = none) : Y.freshE d s = 0 := by
  unfold UpY.freshE
  rw [if_pos hd, if_pos hs, hn]
theorem lookE_ok {d : Int} {s : ByteArray} {e : EnD} (hd : Y.dirE d = 0) (he : Y.ent d s = some e) : Y.lookE d s = 0 ∧ Y.lookD d s = (s, Y.kindOf e.2.2.1, e.2.2.1, ()) := by
  constructor
  · unfold UpY.lookE; rw [if_pos hd, he]
  · unfold UpY.lookD; rw [if_pos hd, he]
theorem lookE_no {d : Int} {s : ByteArray} (hd : Y.dirE d = 0) (he : Y.ent d s = none) : Y.lookE d s = 20 := by
  unfold UpY.lookE; rw [if_pos hd, he]
theorem list_ent {r : Int} {x : XeD} (hx : x ∈ Y.listD r) : ∃ e ∈ Y.E, e.1 = r ∧ x = Y.xe e := by
  unfold UpY.listD at hx
  split at hx
  · have h1 := (fold_insX Y.xe (Y.E.filter (ofD r)) [] List.Pairwise.nil).1
    rw [List.append_nil] at h1
    obtain ⟨e, he, rfl⟩ := List.mem_map.1 (h1.mem_iff.1 hx)
    obtain ⟨h2, h3⟩ := List.mem_filter.1 he
    exact ⟨e, h2, by simpa [ofD] using h3, rfl⟩
  · cases hx
structure ThereOk (Y : UpY) (x : XeD) : Prop where
  m0 : Y.makeE 1 thereS dirN = 0
  mv : (Y.makeY 1 thereS dirN).moveE 1 x.1 (Y.makeR 1 thereS dirN) itS = 0
  inE : ((Y.makeY 1 thereS dirN).moveY 1 x.1 (Y.makeR 1 thereS dirN) itS).lookE (Y.makeR 1 thereS dirN) itS = 0
  inD : ((Y.makeY 1 thereS dirN).moveY 1 x.1 (Y.makeR 1 thereS dirN) itS).lookD (Y.makeR 1 thereS dirN) itS = (itS, x.2)
  gone : ((Y.makeY 1 thereS dirN).moveY 1 x.1 (Y.makeR 1 thereS dirN) itS).lookE 1 x.1 = 20
  selfE : ((Y.makeY 1 thereS dirN).moveY 1 x.1 (Y.makeR 1 thereS dirN) itS).moveE 1 thereS (Y.makeR 1 thereS dirN) selfS = 30
  selfY : ((Y.makeY 1 thereS dirN).moveY 1 x.1 (Y.makeR 1 thereS dirN) itS).moveY 1 thereS (Y.makeR 1 thereS dirN) selfS = (Y.makeY 1 thereS dirN).moveY 1 x.1 (Y.makeR 1 thereS dirN) itS
  back : ((Y.makeY 1 thereS dirN).moveY 1 x.1 (Y.makeR 1 thereS dirN) itS).moveE (Y.makeR 1 thereS dirN) itS 1 x.1 = 0
  agE : (((Y.makeY 1 thereS dirN).moveY 1 x.1 (Y.makeR 1 thereS dirN) itS).moveY (Y.makeR 1 thereS dirN) itS 1 x.1).lookE 1 x.1 = 0
  agD : (((Y.makeY 1 thereS dirN).moveY 1 x.1 (Y.makeR 1 thereS dirN) itS).moveY (Y.makeR 1 thereS dirN) itS 1 x.1).lookD 1 x.1 = x
  len : (((Y.makeY 1 thereS dirN).moveY 1 x.1 (Y.makeR 1 thereS dirN) itS).moveY (Y.makeR 1 thereS dirN) itS 1 x.1).L.length = (Y.makeY 1 thereS dirN).L.length
  used : (((Y.makeY 1 thereS dirN).moveY 1 x.1 (Y.makeR 1 thereS dirN) itS).moveY (Y.makeR 1 thereS dirN) itS 1 x.1).usedB = (Y.makeY 1 thereS dirN).usedB
  rm : (((Y.makeY 1 thereS dirN).moveY 1 x.1 (Y.makeR 1 thereS dirN) itS).moveY (Y.makeR 1 thereS dirN) itS 1 x.1).removeE 1 thereS = 0
theorem there_ok (w : Y.Wf) {x : XeD} (hx : x ∈ Y.listD 1) : Y.makeE 1 thereS dirN = 21 ∨ ThereOk Y x := by
  obtain ⟨e, he, he1, rfl⟩ := list_ent hx
  have vT : validN thereS = 0 := by decide +kernel
  have vI : validN itS = 0 := by decide +kernel
  have vS : validN selfS = 0 := by decide +kernel
  have mD : mayN dirN = true := by decide +kernel
  have hroot := w.root
  cases hent : Y.ent 1 thereS with
  | some et =>
    left
    have hf : Y.freshE 1 thereS = 21 := by unfold UpY.freshE; rw [if_pos hroot, if_pos vT, hent]
    unfold UpY.makeE
    rw [hf]; rfl
  | none =>
    right
    have hf := freshE_ok hroot vT hent
    have m0 : Y.makeE 1 thereS dirN = 0 := by unfold UpY.makeE; rw [if_pos hf, if_pos mD]
    have hY1 : Y.makeY 1 thereS dirN = { Y with L := Y.L ++ [Y.newN dirN], E := Y.E ++ [(1, thereS, Y.nx, ())], nx := Y.nx + 1 } := if_pos m0
    have hR : Y.makeR 1 thereS dirN = Y.nx := if_pos m0
    have w1 := w.make hroot vT hent mD
    have hnx := nx_none w
    have hp := nx_pos w
    have hY1' := hY1
    rw [← hY1] at w1
    generalize hG1 : Y.makeY 1 thereS dirN = Y1 at hY1 w1
    have hE1 : Y1.E = Y.E ++ [(1, thereS, Y.nx, ())] := by rw [hY1]
    have hL1 : Y1.L = Y.L ++ [Y.newN dirN] := by rw [hY1]
    have at1 : Y1.at Y.nx = some (Y.newN dirN) := by rw [hY1]; exact at_app_new hnx rfl _ _
    have d1n : Y1.dirE Y.nx = 0 := dirE_zero.2 ⟨_, at1, rfl⟩
    have d11 := w1.root
    have he' : e ∈ Y1.E := by rw [hE1]; exact List.mem_append_left _ he
    have het : ((1, thereS, Y.nx, ()) : EnD) ∈ Y1.E := by rw [hE1]; simp
    have nodir : ∀ e' ∈ Y1.E, e'.1 ≠ Y.nx := fun e' h' q => by
      rw [hE1] at h'
      rcases List.mem_append.1 h' with h' | h'
      · obtain ⟨y1, h1, _⟩ := at_dir w h'
        rw [q, hnx] at h1; cases h1
      · have : e' = (1, thereS, Y.nx, ()) := by simpa using h'
        rw [this] at q
        have q : (1 : Int) = Y.nx := q
        omega
    have rne : e.2.2.1 ≠ Y.nx := fun q => by
      obtain ⟨y1, h1⟩ := at_ref w he
      rw [q, hnx] at h1; cases h1
    have r1 := (w.ref e he).1
    have ent1 : Y1.ent 1 e.2.1 = some e := by
      have := ent_self w1 he'
      rw [he1] at this; exact this
    have nTe : e.2.1 ≠ thereS := fun q => ent_none.1 hent e he ⟨he1, q⟩
    have f1 : Y1.freshE Y.nx itS = 0 := freshE_ok d1n vI (ent_none.2 fun e' h' q => nodir e' h' q.1)
    have up1 : Y1.upOf Y.nx = 1 := upOf_eq w1 het (by exact d1n)
    have b1 : Y1.below e.2.2.1 Y.nx = false := by
      rw [below_up (Ne.symm rne) (by omega), up1]
      exact below_root r1
    obtain ⟨mv, hY2⟩ := moveE_ok d11 d1n ent1 f1 b1
    have w2 := w1.move ent1 d1n vI (freshE_zero f1).2.2 b1
    rw [← hY2] at w2
    generalize hG2 : Y1.moveY 1 e.2.1 Y.nx itS = Y2 at hY2 w2
    have hE2 : Y2.E = (Y1.E.filter fun e' => !isE 1 e.2.1 e') ++ [(Y.nx, itS, e.2.2.1, ())] := by rw [hY2]
    have hL2 : Y2.L = Y1.L := by rw [hY2]
    have d2n : Y2.dirE Y.nx = 0 := by rw [hY2]; exact d1n
    have d21 := w2.root
    have n2 : ((Y.nx, itS, e.2.2.1, ()) : EnD) ∈ Y2.E := by rw [hE2]; simp
    have ent2n : Y2.ent Y.nx itS = some (Y.nx, itS, e.2.2.1, ()) := ent_self w2 n2
    have kd2 : Y2.kindOf e.2.2.1 = Y.kindOf e.2.2.1 := by
      obtain ⟨y, hy⟩ := at_ref w he
      have : Y2.at e.2.2.1 = some y := by rw [hY2, hY1]; exact at_app_old hy _ _
      unfold UpY.kindOf
      rw [this, hy]
    obtain ⟨inE, inD⟩ := lookE_ok d2n ent2n
    have ent21 : Y2.ent 1 e.2.1 = none := ent_none.2 fun e' h' q => by
      rw [hE2] at h'
      rcases List.mem_append.1 h' with h' | h'
      · have := (List.mem_filter.1 h').2
        unfold isE at this
        simp [q.1, q.2] at this
      · have : e' = (Y.nx, itS, e.2.2.1, ()) := by simpa using h'
        rw [this] at q
        have q : Y.nx = 1 := q.1
        omega
    have het2 : ((1, thereS, Y.nx, ()) : EnD) ∈ Y2.E := by
      rw [hE2]
      refine List.mem_append_left _ (List.mem_filter.2 ⟨het, ?_⟩)
      have : isE 1 e.2.1 ((1, thereS, Y.nx, ()) : EnD) = false := by
        unfold isE
        simp [Ne.symm nTe]
      rw [this]; rfl
    have ent2t : Y2.ent 1 thereS = some (1, thereS, Y.nx, ()) := ent_self w2 het2
    have dir2 : ∀ e' ∈ Y2.E, e'.1 = Y.nx → e' = (Y.nx, itS, e.2.2.1, ()) := fun e' h' q => by
      rw [hE2] at h'
      rcases List.mem_append.1 h' with h' | h'
      · exact absurd q (nodir e' (List.mem_filter.1 h').1)
      · simpa using h'
    have f2 : Y2.freshE Y.nx selfS = 0 := freshE_ok d2n vS (ent_none.2 fun e' h' q => by
      have := dir2 e' h' q.1
      rw [this] at q
      have q : itS = selfS := q.2
      exact absurd (congrArg ByteArray.size q) (by decide))
    obtain ⟨selfE, selfY⟩ := moveE_self d21 d2n ent2t f2 (below_here _)
    have f3 : Y2.freshE 1 e.2.1 = 0 := freshE_ok d21 (w.dir e he).2 ent21
    have b2 : Y2.below e.2.2.1 1 = false := below_root r1
    obtain ⟨back, hY3⟩ := moveE_ok d2n d21 ent2n f3 b2
    have w3 := w2.move ent2n d21 (w.dir e he).2 ent21 b2
    rw [← hY3] at w3
    generalize hG3 : Y2.moveY Y.nx itS 1 e.2.1 = Y3 at hY3 w3
    have hE3 : Y3.E = (Y2.E.filter fun e' => !isE Y.nx itS e') ++ [(1, e.2.1, e.2.2.1, ())] := by rw [hY3]
    have hL3 : Y3.L = Y2.L := by rw [hY3]
    have n3 : ((1, e.2.1, e.2.2.1, ()) : EnD) ∈ Y3.E := by rw [hE3]; simp
    have ent31 : Y3.ent 1 e.2.1 = some (1, e.2.1, e.2.2.1, ()) := ent_self w3 n3
    obtain ⟨agE, agD⟩ := lookE_ok w3.root ent31
    have kd3 : Y3.kindOf e.2.2.1 = Y.kindOf e.2.2.1 := by
      rw [← kd2]
      unfold UpY.kindOf UpY.at
      rw [hL3]
    have hF2 : (Y2.E.filter fun e' => !isE Y.nx itS e') = Y1.E.filter fun e' => !isE 1 e.2.1 e' := by
      rw [hE2, List.filter_append, List.filter_cons]
      have h1 : isE Y.nx itS ((Y.nx, itS, e.2.2.1, ()) : EnD) = true := by unfold isE; simp
      rw [h1]
      simp only [Bool.not_true, Bool.false_eq_true, if_false, List.filter_nil, List.append_nil]
      refine List.filter_eq_self.2 fun e' h' => ?_
      have := nodir e' (List.mem_filter.1 h').1
      unfold isE
      simp [this]
    have het3 : ((1, thereS, Y.nx, ()) : EnD) ∈ Y3.E := by
      rw [hE3, hF2]
      refine List.mem_append_left _ (List.mem_filter.2 ⟨het, ?_⟩)
      have : isE 1 e.2.1 ((1, thereS, Y.nx, ()) : EnD) = false := by
        unfold isE
        simp [Ne.symm nTe]
      rw [this]; rfl
    have ent3t : Y3.ent 1 thereS = some (1, thereS, Y.nx, ()) := ent_self w3 het3
    have hw : Y3.whites Y.nx = true := by
      unfold UpY.whites
      rw [List.all_eq_true]
      intro e' h'
      have : ofD Y.nx e' = false := by
        rw [hE3, hF2] at h'
        rcases List.mem_append.1 h' with h' | h'
        · have := nodir e' (List.mem_filter.1 h').1
          simpa [ofD] using this
        · have : e' = (1, e.2.1, e.2.2.1, ()) := by simpa using h'
          rw [this]
          have : (1 : Int) ≠ Y.nx := by omega
          simpa [ofD] using this
      rw [this]; rfl
    have hused : Y3.usedB = Y1.usedB := by
      unfold UpY.usedB
      rw [hL3, hL2, hE3, hF2]
      obtain ⟨A, B, g1, g2⟩ := del_split w1 ent1
      rw [g2]
      conv => rhs; rw [g1]
      simp only [List.map_append, List.map_cons, List.map_nil, List.sum_append, List.sum_cons, List.sum_nil]
      omega
    rw [← hR] at hG2
    rw [← hR] at hG3
    refine ⟨m0, ?_, ?_, ?_, ?_, ?_, ?_, ?_, ?_, ?_, ?_, ?_, ?_⟩ <;> simp only [hG1, hR, show (Y.xe e).1 = e.2.1 from rfl]
    all_goals rw [hR] at hG2 hG3
    all_goals try rw [hG2]
    all_goals try rw [hG3]
    · exact mv
    · exact inE
    · rw [inD, kd2]; rfl
    · exact lookE_no d21 ent21
    · exact selfE
    · exact selfY
    · exact back
    · exact agE
    · rw [agD, kd3]; rfl
    · rw [hL3, hL2]
    · exact hused
    · unfold UpY.removeE
      rw [if_pos (lookE_ok w3.root ent3t).1, ent3t]
      simp only
      rw [if_pos hw]
end
end Go.Lm

namespace Go.Proofs
open Go Go.Lm Go.RowKit
set_option maxRecDepth 1000000
def c_lthere : Ct
  | [.v (.c cl), .v (.c (.k (.string s)))], [], Q => (match (Ty.sl opTy).of [cl] with
    | some (l, []) => Q (.bool true) []
    | _ => False)
  | _, _, _ => False
noncomputable def XW464 : Vx := { P := Try.prog, ct := (4, c_lshown) :: XW263.ct, ty := tyTab, hold := [] }
theorem XW464_ok : CtOk Inv Try.prog XW464.ct := CtOk.cons w_lshown (XW263_ok)
def vc_lthere : (List (opTy).den) → (ByteArray) → (SV → List HO → Prop) → Prop :=
 fun l s Q => List.length l ≤ 9223372036854775807 → ByteArray.size s ≤ 9223372036854775807 → LoopP (fun i again => List.length l ≤ 9223372036854775807 → br (decide (i.1.1 < (↑(List.length l) : Int))) (br (decide (i.1.1 < 25)) (0 ≤ i.1.1 ∧ 
 i.1.1 < (↑(List.length l) : Int) ∧ (Ty.ok opTy (ixD opTy l i.1.1) → (13 : Int) ≠ (0 : Int) ∧ (inK .i64 (kindI (ixD opTy l i.1.1).1 (13 : Int)) → i.2.2.1 = i.2.1 ∧ UpY.OkN i.2.1 (1000000 : Nat) ∧ inK .i64 (i.1.1 + (1 : Int)) ∧ again ((i.1.1 
 + (1 : Int), ()), UpY.doD i.2.1 (clipO (kindI (ixD opTy l i.1.1).1 (13 : Int), (ixD opTy l i.1.1).2)), UpY.doD i.2.1 (clipO (kindI (ixD opTy l i.1.1).1 (13 : Int), (ixD opTy l i.1.1).2)), ())))) (UpY.Ok i.2.1 ∧ (inK .i64 (UpY.dirE i.2.1 (1 
 : Int)) → br (UpY.dirE i.2.1 (1 : Int) != (0 : Int)) (Q (.v (.c (.k (.bool (UpY.dirE i.2.1 (1 : Int) == (0 : Int)))))) []) (List.length (UpY.listD i.2.1 (1 : Int)) ≤ 9223372036854775807 → br ((↑(List.length (UpY.listD i.2.1 (1 : Int))) : 
 Int) == (0 : Int)) (Q (.v (.c (.k (.bool (UpY.dirE i.2.1 (1 : Int) == (0 : Int)))))) []) (List.length (UpY.listD i.2.1 (1 : Int)) ≤ 9223372036854775807 → (↑(List.length (UpY.listD i.2.1 (1 : Int))) : Int) ≠ (0 : Int) ∧ (inK .i64 (kindI 
 (↑(ByteArray.size s) : Int) (↑(List.length (UpY.listD i.2.1 (1 : Int))) : Int)) → 0 ≤ kindI (↑(ByteArray.size s) : Int) (↑(List.length (UpY.listD i.2.1 (1 : Int))) : Int) ∧ kindI (↑(ByteArray.size s) : Int) (↑(List.length (UpY.listD i.2.1 
 (1 : Int))) : Int) < (↑(List.length (UpY.listD i.2.1 (1 : Int))) : Int) ∧ 0 ≤ kindI (↑(ByteArray.size s) : Int) (↑(List.length (UpY.listD i.2.1 (1 : Int))) : Int) ∧ kindI (↑(ByteArray.size s) : Int) (↑(List.length (UpY.listD i.2.1 (1 : 
 Int))) : Int) < (↑(List.length (UpY.listD i.2.1 (1 : Int))) : Int) ∧ (Ty.ok xeTy (ixD xeTy (UpY.listD i.2.1 (1 : Int)) (kindI (↑(ByteArray.size s) : Int) (↑(List.length (UpY.listD i.2.1 (1 : Int))) : Int))) → UpY.Ok i.2.1 ∧ (inK .i64 
 (UpY.makeR i.2.1 1 thereS dirN) → inK .i64 (UpY.makeE i.2.1 1 thereS dirN) → br (UpY.makeE i.2.1 1 thereS dirN != 0) (Q (.v (.c (.k (.bool (UpY.makeE i.2.1 1 thereS dirN == 21))))) []) (UpY.Ok (UpY.makeY i.2.1 1 thereS dirN) ∧ (inK .i64 
 (↑(List.length (UpY.makeY i.2.1 1 thereS dirN).L) : Int) → inK .i64 (UpY.usedB (UpY.makeY i.2.1 1 thereS dirN)) → UpY.Ok (UpY.makeY i.2.1 1 thereS dirN) ∧ (inK .i64 (UpY.moveE (UpY.makeY i.2.1 1 thereS dirN) 1 (ixD xeTy (UpY.listD i.2.1 (1 
 : Int)) (kindI (↑(ByteArray.size s) : Int) (↑(List.length (UpY.listD i.2.1 (1 : Int))) : Int))).1 (UpY.makeR i.2.1 1 thereS dirN) itS) → UpY.Ok (UpY.moveY (UpY.makeY i.2.1 1 thereS dirN) 1 (ixD xeTy (UpY.listD i.2.1 (1 : Int)) (kindI 
 (↑(ByteArray.size s) : Int) (↑(List.length (UpY.listD i.2.1 (1 : Int))) : Int))).1 (UpY.makeR i.2.1 1 thereS dirN) itS) ∧ (ByteArray.size (UpY.lookD (UpY.moveY (UpY.makeY i.2.1 1 thereS dirN) 1 (ixD xeTy (UpY.listD i.2.1 (1 : Int)) (kindI 
 (↑(ByteArray.size s) : Int) (↑(List.length (UpY.listD i.2.1 (1 : Int))) : Int))).1 (UpY.makeR i.2.1 1 thereS dirN) itS) (UpY.makeR i.2.1 1 thereS dirN) itS).1 ≤ 9223372036854775807 → inK .i64 (UpY.lookD (UpY.moveY (UpY.makeY i.2.1 1 thereS 
 dirN) 1 (ixD xeTy (UpY.listD i.2.1 (1 : Int)) (kindI (↑(ByteArray.size s) : Int) (↑(List.length (UpY.listD i.2.1 (1 : Int))) : Int))).1 (UpY.makeR i.2.1 1 thereS dirN) itS) (UpY.makeR i.2.1 1 thereS dirN) itS).2.1 → inK .i64 (UpY.lookD 
 (UpY.moveY (UpY.makeY i.2.1 1 thereS dirN) 1 (ixD xeTy (UpY.listD i.2.1 (1 : Int)) (kindI (↑(ByteArray.size s) : Int) (↑(List.length (UpY.listD i.2.1 (1 : Int))) : Int))).1 (UpY.makeR i.2.1 1 thereS dirN) itS) (UpY.makeR i.2.1 1 thereS 
 dirN) itS).2.2.1 → inK .i64 (UpY.lookE (UpY.moveY (UpY.makeY i.2.1 1 thereS dirN) 1 (ixD xeTy (UpY.listD i.2.1 (1 : Int)) (kindI (↑(ByteArray.size s) : Int) (↑(List.length (UpY.listD i.2.1 (1 : Int))) : Int))).1 (UpY.makeR i.2.1 1 thereS 
 dirN) itS) (UpY.makeR i.2.1 1 thereS dirN) itS) → UpY.Ok (UpY.moveY (UpY.makeY i.2.1 1 thereS dirN) 1 (ixD xeTy (UpY.listD i.2.1 (1 : Int)) (kindI (↑(ByteArray.size s) : Int) (↑(List.length (UpY.listD i.2.1 (1 : Int))) : Int))).1 (UpY.makeR 
 i.2.1 1 thereS dirN) itS) ∧ (ByteArray.size (UpY.lookD (UpY.moveY (UpY.makeY i.2.1 1 thereS dirN) 1 (ixD xeTy (UpY.listD i.2.1 (1 : Int)) (kindI (↑(ByteArray.size s) : Int) (↑(List.length (UpY.listD i.2.1 (1 : Int))) : Int))).1 (UpY.makeR 
 i.2.1 1 thereS dirN) itS) 1 (ixD xeTy (UpY.listD i.2.1 (1 : Int)) (kindI (↑(ByteArray.size s) : Int) (↑(List.length (UpY.listD i.2.1 (1 : Int))) : Int))).1).1 ≤ 9223372036854775807 → inK .i64 (UpY.lookD (UpY.moveY (UpY.makeY i.2.1 1 thereS 
 dirN) 1 (ixD xeTy (UpY.listD i.2.1 (1 : Int)) (kindI (↑(ByteArray.size s) : Int) (↑(List.length (UpY.listD i.2.1 (1 : Int))) : Int))).1 (UpY.makeR i.2.1 1 thereS dirN) itS) 1 (ixD xeTy (UpY.listD i.2.1 (1 : Int)) (kindI (↑(ByteArray.size s) 
 : Int) (↑(List.length (UpY.listD i.2.1 (1 : Int))) : Int))).1).2.1 → inK .i64 (UpY.lookD (UpY.moveY (UpY.makeY i.2.1 1 thereS dirN) 1 (ixD xeTy (UpY.listD i.2.1 (1 : Int)) (kindI (↑(ByteArray.size s) : Int) (↑(List.length (UpY.listD i.2.1 
 (1 : Int))) : Int))).1 (UpY.makeR i.2.1 1 thereS dirN) itS) 1 (ixD xeTy (UpY.listD i.2.1 (1 : Int)) (kindI (↑(ByteArray.size s) : Int) (↑(List.length (UpY.listD i.2.1 (1 : Int))) : Int))).1).2.2.1 → inK .i64 (UpY.lookE (UpY.moveY (UpY.makeY 
 i.2.1 1 thereS dirN) 1 (ixD xeTy (UpY.listD i.2.1 (1 : Int)) (kindI (↑(ByteArray.size s) : Int) (↑(List.length (UpY.listD i.2.1 (1 : Int))) : Int))).1 (UpY.makeR i.2.1 1 thereS dirN) itS) 1 (ixD xeTy (UpY.listD i.2.1 (1 : Int)) (kindI 
 (↑(ByteArray.size s) : Int) (↑(List.length (UpY.listD i.2.1 (1 : Int))) : Int))).1) → UpY.Ok (UpY.moveY (UpY.makeY i.2.1 1 thereS dirN) 1 (ixD xeTy (UpY.listD i.2.1 (1 : Int)) (kindI (↑(ByteArray.size s) : Int) (↑(List.length (UpY.listD 
 i.2.1 (1 : Int))) : Int))).1 (UpY.makeR i.2.1 1 thereS dirN) itS) ∧ (inK .i64 (UpY.moveE (UpY.moveY (UpY.makeY i.2.1 1 thereS dirN) 1 (ixD xeTy (UpY.listD i.2.1 (1 : Int)) (kindI (↑(ByteArray.size s) : Int) (↑(List.length (UpY.listD i.2.1 
 (1 : Int))) : Int))).1 (UpY.makeR i.2.1 1 thereS dirN) itS) 1 thereS (UpY.makeR i.2.1 1 thereS dirN) selfS) → UpY.Ok (UpY.moveY (UpY.moveY (UpY.makeY i.2.1 1 thereS dirN) 1 (ixD xeTy (UpY.listD i.2.1 (1 : Int)) (kindI (↑(ByteArray.size s) : 
 Int) (↑(List.length (UpY.listD i.2.1 (1 : Int))) : Int))).1 (UpY.makeR i.2.1 1 thereS dirN) itS) 1 thereS (UpY.makeR i.2.1 1 thereS dirN) selfS) ∧ (inK .i64 (UpY.moveE (UpY.moveY (UpY.moveY (UpY.makeY i.2.1 1 thereS dirN) 1 (ixD xeTy 
 (UpY.listD i.2.1 (1 : Int)) (kindI (↑(ByteArray.size s) : Int) (↑(List.length (UpY.listD i.2.1 (1 : Int))) : Int))).1 (UpY.makeR i.2.1 1 thereS dirN) itS) 1 thereS (UpY.makeR i.2.1 1 thereS dirN) selfS) (UpY.makeR i.2.1 1 thereS dirN) itS 1 
 (ixD xeTy (UpY.listD i.2.1 (1 : Int)) (kindI (↑(ByteArray.size s) : Int) (↑(List.length (UpY.listD i.2.1 (1 : Int))) : Int))).1) → UpY.Ok (UpY.moveY (UpY.moveY (UpY.moveY (UpY.makeY i.2.1 1 thereS dirN) 1 (ixD xeTy (UpY.listD i.2.1 (1 : 
 Int)) (kindI (↑(ByteArray.size s) : Int) (↑(List.length (UpY.listD i.2.1 (1 : Int))) : Int))).1 (UpY.makeR i.2.1 1 thereS dirN) itS) 1 thereS (UpY.makeR i.2.1 1 thereS dirN) selfS) (UpY.makeR i.2.1 1 thereS dirN) itS 1 (ixD xeTy (UpY.listD 
 i.2.1 (1 : Int)) (kindI (↑(ByteArray.size s) : Int) (↑(List.length (UpY.listD i.2.1 (1 : Int))) : Int))).1) ∧ (ByteArray.size (UpY.lookD (UpY.moveY (UpY.moveY (UpY.moveY (UpY.makeY i.2.1 1 thereS dirN) 1 (ixD xeTy (UpY.listD i.2.1 (1 : 
 Int)) (kindI (↑(ByteArray.size s) : Int) (↑(List.length (UpY.listD i.2.1 (1 : Int))) : Int))).1 (UpY.makeR i.2.1 1 thereS dirN) itS) 1 thereS (UpY.makeR i.2.1 1 thereS dirN) selfS) (UpY.makeR i.2.1 1 thereS dirN) itS 1 (ixD xeTy (UpY.listD 
 i.2.1 (1 : Int)) (kindI (↑(ByteArray.size s) : Int) (↑(List.length (UpY.listD i.2.1 (1 : Int))) : Int))).1) 1 (ixD xeTy (UpY.listD i.2.1 (1 : Int)) (kindI (↑(ByteArray.size s) : Int) (↑(List.length (UpY.listD i.2.1 (1 : Int))) : Int))).1).1 
 ≤ 9223372036854775807 → inK .i64 (UpY.lookD (UpY.moveY (UpY.moveY (UpY.moveY (UpY.makeY i.2.1 1 thereS dirN) 1 (ixD xeTy (UpY.listD i.2.1 (1 : Int)) (kindI (↑(ByteArray.size s) : Int) (↑(List.length (UpY.listD i.2.1 (1 : Int))) : Int))).1 
 (UpY.makeR i.2.1 1 thereS dirN) itS) 1 thereS (UpY.makeR i.2.1 1 thereS dirN) selfS) (UpY.makeR i.2.1 1 thereS dirN) itS 1 (ixD xeTy (UpY.listD i.2.1 (1 : Int)) (kindI (↑(ByteArray.size s) : Int) (↑(List.length (UpY.listD i.2.1 (1 : Int))) 
 : Int))).1) 1 (ixD xeTy (UpY.listD i.2.1 (1 : Int)) (kindI (↑(ByteArray.size s) : Int) (↑(List.length (UpY.listD i.2.1 (1 : Int))) : Int))).1).2.1 → inK .i64 (UpY.lookD (UpY.moveY (UpY.moveY (UpY.moveY (UpY.makeY i.2.1 1 thereS dirN) 1 (ixD 
 xeTy (UpY.listD i.2.1 (1 : Int)) (kindI (↑(ByteArray.size s) : Int) (↑(List.length (UpY.listD i.2.1 (1 : Int))) : Int))).1 (UpY.makeR i.2.1 1 thereS dirN) itS) 1 thereS (UpY.makeR i.2.1 1 thereS dirN) selfS) (UpY.makeR i.2.1 1 thereS dirN) 
 itS 1 (ixD xeTy (UpY.listD i.2.1 (1 : Int)) (kindI (↑(ByteArray.size s) : Int) (↑(List.length (UpY.listD i.2.1 (1 : Int))) : Int))).1) 1 (ixD xeTy (UpY.listD i.2.1 (1 : Int)) (kindI (↑(ByteArray.size s) : Int) (↑(List.length (UpY.listD 
 i.2.1 (1 : Int))) : Int))).1).2.2.1 → inK .i64 (UpY.lookE (UpY.moveY (UpY.moveY (UpY.moveY (UpY.makeY i.2.1 1 thereS dirN) 1 (ixD xeTy (UpY.listD i.2.1 (1 : Int)) (kindI (↑(ByteArray.size s) : Int) (↑(List.length (UpY.listD i.2.1 (1 : 
 Int))) : Int))).1 (UpY.makeR i.2.1 1 thereS dirN) itS) 1 thereS (UpY.makeR i.2.1 1 thereS dirN) selfS) (UpY.makeR i.2.1 1 thereS dirN) itS 1 (ixD xeTy (UpY.listD i.2.1 (1 : Int)) (kindI (↑(ByteArray.size s) : Int) (↑(List.length (UpY.listD 
 i.2.1 (1 : Int))) : Int))).1) 1 (ixD xeTy (UpY.listD i.2.1 (1 : Int)) (kindI (↑(ByteArray.size s) : Int) (↑(List.length (UpY.listD i.2.1 (1 : Int))) : Int))).1) → br (UpY.moveE (UpY.makeY i.2.1 1 thereS dirN) 1 (ixD xeTy (UpY.listD i.2.1 (1 
 : Int)) (kindI (↑(ByteArray.size s) : Int) (↑(List.length (UpY.listD i.2.1 (1 : Int))) : Int))).1 (UpY.makeR i.2.1 1 thereS dirN) itS == 0) (br (UpY.lookE (UpY.moveY (UpY.makeY i.2.1 1 thereS dirN) 1 (ixD xeTy (UpY.listD i.2.1 (1 : Int)) 
 (kindI (↑(ByteArray.size s) : Int) (↑(List.length (UpY.listD i.2.1 (1 : Int))) : Int))).1 (UpY.makeR i.2.1 1 thereS dirN) itS) (UpY.makeR i.2.1 1 thereS dirN) itS == 0) (br ((UpY.lookD (UpY.moveY (UpY.makeY i.2.1 1 thereS dirN) 1 (ixD xeTy 
 (UpY.listD i.2.1 (1 : Int)) (kindI (↑(ByteArray.size s) : Int) (↑(List.length (UpY.listD i.2.1 (1 : Int))) : Int))).1 (UpY.makeR i.2.1 1 thereS dirN) itS) (UpY.makeR i.2.1 1 thereS dirN) itS).2.2.1 == (ixD xeTy (UpY.listD i.2.1 (1 : Int)) 
 (kindI (↑(ByteArray.size s) : Int) (↑(List.length (UpY.listD i.2.1 (1 : Int))) : Int))).2.2.1) (br ((UpY.lookD (UpY.moveY (UpY.makeY i.2.1 1 thereS dirN) 1 (ixD xeTy (UpY.listD i.2.1 (1 : Int)) (kindI (↑(ByteArray.size s) : Int) 
 (↑(List.length (UpY.listD i.2.1 (1 : Int))) : Int))).1 (UpY.makeR i.2.1 1 thereS dirN) itS) (UpY.makeR i.2.1 1 thereS dirN) itS).2.1 == (ixD xeTy (UpY.listD i.2.1 (1 : Int)) (kindI (↑(ByteArray.size s) : Int) (↑(List.length (UpY.listD i.2.1 
 (1 : Int))) : Int))).2.1) (br (UpY.lookE (UpY.moveY (UpY.makeY i.2.1 1 thereS dirN) 1 (ixD xeTy (UpY.listD i.2.1 (1 : Int)) (kindI (↑(ByteArray.size s) : Int) (↑(List.length (UpY.listD i.2.1 (1 : Int))) : Int))).1 (UpY.makeR i.2.1 1 thereS 
 dirN) itS) 1 (ixD xeTy (UpY.listD i.2.1 (1 : Int)) (kindI (↑(ByteArray.size s) : Int) (↑(List.length (UpY.listD i.2.1 (1 : Int))) : Int))).1 == 20) (br (UpY.moveE (UpY.moveY (UpY.makeY i.2.1 1 thereS dirN) 1 (ixD xeTy (UpY.listD i.2.1 (1 : 
 Int)) (kindI (↑(ByteArray.size s) : Int) (↑(List.length (UpY.listD i.2.1 (1 : Int))) : Int))).1 (UpY.makeR i.2.1 1 thereS dirN) itS) 1 thereS (UpY.makeR i.2.1 1 thereS dirN) selfS == 30) (br (UpY.moveE (UpY.moveY (UpY.moveY (UpY.makeY i.2.1 
 1 thereS dirN) 1 (ixD xeTy (UpY.listD i.2.1 (1 : Int)) (kindI (↑(ByteArray.size s) : Int) (↑(List.length (UpY.listD i.2.1 (1 : Int))) : Int))).1 (UpY.makeR i.2.1 1 thereS dirN) itS) 1 thereS (UpY.makeR i.2.1 1 thereS dirN) selfS) (UpY.makeR 
 i.2.1 1 thereS dirN) itS 1 (ixD xeTy (UpY.listD i.2.1 (1 : Int)) (kindI (↑(ByteArray.size s) : Int) (↑(List.length (UpY.listD i.2.1 (1 : Int))) : Int))).1 == 0) (br (UpY.lookE (UpY.moveY (UpY.moveY (UpY.moveY (UpY.makeY i.2.1 1 thereS dirN) 
 1 (ixD xeTy (UpY.listD i.2.1 (1 : Int)) (kindI (↑(ByteArray.size s) : Int) (↑(List.length (UpY.listD i.2.1 (1 : Int))) : Int))).1 (UpY.makeR i.2.1 1 thereS dirN) itS) 1 thereS (UpY.makeR i.2.1 1 thereS dirN) selfS) (UpY.makeR i.2.1 1 thereS 
 dirN) itS 1 (ixD xeTy (UpY.listD i.2.1 (1 : Int)) (kindI (↑(ByteArray.size s) : Int) (↑(List.length (UpY.listD i.2.1 (1 : Int))) : Int))).1) 1 (ixD xeTy (UpY.listD i.2.1 (1 : Int)) (kindI (↑(ByteArray.size s) : Int) (↑(List.length 
 (UpY.listD i.2.1 (1 : Int))) : Int))).1 == 0) (br (sEq (UpY.lookD (UpY.moveY (UpY.moveY (UpY.moveY (UpY.makeY i.2.1 1 thereS dirN) 1 (ixD xeTy (UpY.listD i.2.1 (1 : Int)) (kindI (↑(ByteArray.size s) : Int) (↑(List.length (UpY.listD i.2.1 (1 
 : Int))) : Int))).1 (UpY.makeR i.2.1 1 thereS dirN) itS) 1 thereS (UpY.makeR i.2.1 1 thereS dirN) selfS) (UpY.makeR i.2.1 1 thereS dirN) itS 1 (ixD xeTy (UpY.listD i.2.1 (1 : Int)) (kindI (↑(ByteArray.size s) : Int) (↑(List.length 
 (UpY.listD i.2.1 (1 : Int))) : Int))).1) 1 (ixD xeTy (UpY.listD i.2.1 (1 : Int)) (kindI (↑(ByteArray.size s) : Int) (↑(List.length (UpY.listD i.2.1 (1 : Int))) : Int))).1).1 (ixD xeTy (UpY.listD i.2.1 (1 : Int)) (kindI (↑(ByteArray.size s) 
 : Int) (↑(List.length (UpY.listD i.2.1 (1 : Int))) : Int))).1 && ((UpY.lookD (UpY.moveY (UpY.moveY (UpY.moveY (UpY.makeY i.2.1 1 thereS dirN) 1 (ixD xeTy (UpY.listD i.2.1 (1 : Int)) (kindI (↑(ByteArray.size s) : Int) (↑(List.length 
 (UpY.listD i.2.1 (1 : Int))) : Int))).1 (UpY.makeR i.2.1 1 thereS dirN) itS) 1 thereS (UpY.makeR i.2.1 1 thereS dirN) selfS) (UpY.makeR i.2.1 1 thereS dirN) itS 1 (ixD xeTy (UpY.listD i.2.1 (1 : Int)) (kindI (↑(ByteArray.size s) : Int) 
 (↑(List.length (UpY.listD i.2.1 (1 : Int))) : Int))).1) 1 (ixD xeTy (UpY.listD i.2.1 (1 : Int)) (kindI (↑(ByteArray.size s) : Int) (↑(List.length (UpY.listD i.2.1 (1 : Int))) : Int))).1).2.1 == (ixD xeTy (UpY.listD i.2.1 (1 : Int)) (kindI 
 (↑(ByteArray.size s) : Int) (↑(List.length (UpY.listD i.2.1 (1 : Int))) : Int))).2.1 && ((UpY.lookD (UpY.moveY (UpY.moveY (UpY.moveY (UpY.makeY i.2.1 1 thereS dirN) 1 (ixD xeTy (UpY.listD i.2.1 (1 : Int)) (kindI (↑(ByteArray.size s) : Int) 
 (↑(List.length (UpY.listD i.2.1 (1 : Int))) : Int))).1 (UpY.makeR i.2.1 1 thereS dirN) itS) 1 thereS (UpY.makeR i.2.1 1 thereS dirN) selfS) (UpY.makeR i.2.1 1 thereS dirN) itS 1 (ixD xeTy (UpY.listD i.2.1 (1 : Int)) (kindI (↑(ByteArray.size 
 s) : Int) (↑(List.length (UpY.listD i.2.1 (1 : Int))) : Int))).1) 1 (ixD xeTy (UpY.listD i.2.1 (1 : Int)) (kindI (↑(ByteArray.size s) : Int) (↑(List.length (UpY.listD i.2.1 (1 : Int))) : Int))).1).2.2.1 == (ixD xeTy (UpY.listD i.2.1 (1 : 
 Int)) (kindI (↑(ByteArray.size s) : Int) (↑(List.length (UpY.listD i.2.1 (1 : Int))) : Int))).2.2.1 && true))) (UpY.Ok (UpY.moveY (UpY.moveY (UpY.moveY (UpY.makeY i.2.1 1 thereS dirN) 1 (ixD xeTy (UpY.listD i.2.1 (1 : Int)) (kindI 
 (↑(ByteArray.size s) : Int) (↑(List.length (UpY.listD i.2.1 (1 : Int))) : Int))).1 (UpY.makeR i.2.1 1 thereS dirN) itS) 1 thereS (UpY.makeR i.2.1 1 thereS dirN) selfS) (UpY.makeR i.2.1 1 thereS dirN) itS 1 (ixD xeTy (UpY.listD i.2.1 (1 : 
 Int)) (kindI (↑(ByteArray.size s) : Int) (↑(List.length (UpY.listD i.2.1 (1 : Int))) : Int))).1) ∧ (inK .i64 (↑(List.length (UpY.moveY (UpY.moveY (UpY.moveY (UpY.makeY i.2.1 1 thereS dirN) 1 (ixD xeTy (UpY.listD i.2.1 (1 : Int)) (kindI 
 (↑(ByteArray.size s) : Int) (↑(List.length (UpY.listD i.2.1 (1 : Int))) : Int))).1 (UpY.makeR i.2.1 1 thereS dirN) itS) 1 thereS (UpY.makeR i.2.1 1 thereS dirN) selfS) (UpY.makeR i.2.1 1 thereS dirN) itS 1 (ixD xeTy (UpY.listD i.2.1 (1 : 
 Int)) (kindI (↑(ByteArray.size s) : Int) (↑(List.length (UpY.listD i.2.1 (1 : Int))) : Int))).1).L) : Int) → inK .i64 (UpY.usedB (UpY.moveY (UpY.moveY (UpY.moveY (UpY.makeY i.2.1 1 thereS dirN) 1 (ixD xeTy (UpY.listD i.2.1 (1 : Int)) (kindI 
 (↑(ByteArray.size s) : Int) (↑(List.length (UpY.listD i.2.1 (1 : Int))) : Int))).1 (UpY.makeR i.2.1 1 thereS dirN) itS) 1 thereS (UpY.makeR i.2.1 1 thereS dirN) selfS) (UpY.makeR i.2.1 1 thereS dirN) itS 1 (ixD xeTy (UpY.listD i.2.1 (1 : 
 Int)) (kindI (↑(ByteArray.size s) : Int) (↑(List.length (UpY.listD i.2.1 (1 : Int))) : Int))).1)) → br ((↑(List.length (UpY.moveY (UpY.moveY (UpY.moveY (UpY.makeY i.2.1 1 thereS dirN) 1 (ixD xeTy (UpY.listD i.2.1 (1 : Int)) (kindI 
 (↑(ByteArray.size s) : Int) (↑(List.length (UpY.listD i.2.1 (1 : Int))) : Int))).1 (UpY.makeR i.2.1 1 thereS dirN) itS) 1 thereS (UpY.makeR i.2.1 1 thereS dirN) selfS) (UpY.makeR i.2.1 1 thereS dirN) itS 1 (ixD xeTy (UpY.listD i.2.1 (1 : 
 Int)) (kindI (↑(ByteArray.size s) : Int) (↑(List.length (UpY.listD i.2.1 (1 : Int))) : Int))).1).L) : Int) == (↑(List.length (UpY.makeY i.2.1 1 thereS dirN).L) : Int) && (UpY.usedB (UpY.moveY (UpY.moveY (UpY.moveY (UpY.makeY i.2.1 1 thereS 
 dirN) 1 (ixD xeTy (UpY.listD i.2.1 (1 : Int)) (kindI (↑(ByteArray.size s) : Int) (↑(List.length (UpY.listD i.2.1 (1 : Int))) : Int))).1 (UpY.makeR i.2.1 1 thereS dirN) itS) 1 thereS (UpY.makeR i.2.1 1 thereS dirN) selfS) (UpY.makeR i.2.1 1 
 thereS dirN) itS 1 (ixD xeTy (UpY.listD i.2.1 (1 : Int)) (kindI (↑(ByteArray.size s) : Int) (↑(List.length (UpY.listD i.2.1 (1 : Int))) : Int))).1) == UpY.usedB (UpY.makeY i.2.1 1 thereS dirN) && true)) (UpY.Ok (UpY.moveY (UpY.moveY 
 (UpY.moveY (UpY.makeY i.2.1 1 thereS dirN) 1 (ixD xeTy (UpY.listD i.2.1 (1 : Int)) (kindI (↑(ByteArray.size s) : Int) (↑(List.length (UpY.listD i.2.1 (1 : Int))) : Int))).1 (UpY.makeR i.2.1 1 thereS dirN) itS) 1 thereS (UpY.makeR i.2.1 1 
 thereS dirN) selfS) (UpY.makeR i.2.1 1 thereS dirN) itS 1 (ixD xeTy (UpY.listD i.2.1 (1 : Int)) (kindI (↑(ByteArray.size s) : Int) (↑(List.length (UpY.listD i.2.1 (1 : Int))) : Int))).1) ∧ (inK .i64 (UpY.removeE (UpY.moveY (UpY.moveY 
 (UpY.moveY (UpY.makeY i.2.1 1 thereS dirN) 1 (ixD xeTy (UpY.listD i.2.1 (1 : Int)) (kindI (↑(ByteArray.size s) : Int) (↑(List.length (UpY.listD i.2.1 (1 : Int))) : Int))).1 (UpY.makeR i.2.1 1 thereS dirN) itS) 1 thereS (UpY.makeR i.2.1 1 
 thereS dirN) selfS) (UpY.makeR i.2.1 1 thereS dirN) itS 1 (ixD xeTy (UpY.listD i.2.1 (1 : Int)) (kindI (↑(ByteArray.size s) : Int) (↑(List.length (UpY.listD i.2.1 (1 : Int))) : Int))).1) 1 thereS) → Q (.v (.c (.k (.bool (UpY.removeE 
 (UpY.moveY (UpY.moveY (UpY.moveY (UpY.makeY i.2.1 1 thereS dirN) 1 (ixD xeTy (UpY.listD i.2.1 (1 : Int)) (kindI (↑(ByteArray.size s) : Int) (↑(List.length (UpY.listD i.2.1 (1 : Int))) : Int))).1 (UpY.makeR i.2.1 1 thereS dirN) itS) 1 thereS 
 (UpY.makeR i.2.1 1 thereS dirN) selfS) (UpY.makeR i.2.1 1 thereS dirN) itS 1 (ixD xeTy (UpY.listD i.2.1 (1 : Int)) (kindI (↑(ByteArray.size s) : Int) (↑(List.length (UpY.listD i.2.1 (1 : Int))) : Int))).1) 1 thereS == 0))))) [])) (Q (.v (.c 
 (.k (.bool false)))) []))) (Q (.v (.c (.k (.bool false)))) [])) (Q (.v (.c (.k (.bool false)))) [])) (Q (.v (.c (.k (.bool false)))) [])) (Q (.v (.c (.k (.bool false)))) [])) (Q (.v (.c (.k (.bool false)))) [])) (Q (.v (.c (.k (.bool 
 false)))) [])) (Q (.v (.c (.k (.bool false)))) [])) (Q (.v (.c (.k (.bool false)))) [])) (Q (.v (.c (.k (.bool false)))) []))))))))))))))))) (UpY.Ok i.2.1 ∧ (inK .i64 (UpY.dirE i.2.1 (1 : Int)) → br (UpY.dirE i.2.1 (1 : Int) != (0 : Int)) 
 (Q (.v (.c (.k (.bool (UpY.dirE i.2.1 (1 : Int) == (0 : Int)))))) []) (List.length (UpY.listD i.2.1 (1 : Int)) ≤ 9223372036854775807 → br ((↑(List.length (UpY.listD i.2.1 (1 : Int))) : Int) == (0 : Int)) (Q (.v (.c (.k (.bool (UpY.dirE 
 i.2.1 (1 : Int) == (0 : Int)))))) []) (List.length (UpY.listD i.2.1 (1 : Int)) ≤ 9223372036854775807 → (↑(List.length (UpY.listD i.2.1 (1 : Int))) : Int) ≠ (0 : Int) ∧ (inK .i64 (kindI (↑(ByteArray.size s) : Int) (↑(List.length (UpY.listD 
 i.2.1 (1 : Int))) : Int)) → 0 ≤ kindI (↑(ByteArray.size s) : Int) (↑(List.length (UpY.listD i.2.1 (1 : Int))) : Int) ∧ kindI (↑(ByteArray.size s) : Int) (↑(List.length (UpY.listD i.2.1 (1 : Int))) : Int) < (↑(List.length (UpY.listD i.2.1 (1 
 : Int))) : Int) ∧ 0 ≤ kindI (↑(ByteArray.size s) : Int) (↑(List.length (UpY.listD i.2.1 (1 : Int))) : Int) ∧ kindI (↑(ByteArray.size s) : Int) (↑(List.length (UpY.listD i.2.1 (1 : Int))) : Int) < (↑(List.length (UpY.listD i.2.1 (1 : Int))) 
 : Int) ∧ (Ty.ok xeTy (ixD xeTy (UpY.listD i.2.1 (1 : Int)) (kindI (↑(ByteArray.size s) : Int) (↑(List.length (UpY.listD i.2.1 (1 : Int))) : Int))) → UpY.Ok i.2.1 ∧ (inK .i64 (UpY.makeR i.2.1 1 thereS dirN) → inK .i64 (UpY.makeE i.2.1 1 
 thereS dirN) → br (UpY.makeE i.2.1 1 thereS dirN != 0) (Q (.v (.c (.k (.bool (UpY.makeE i.2.1 1 thereS dirN == 21))))) []) (UpY.Ok (UpY.makeY i.2.1 1 thereS dirN) ∧ (inK .i64 (↑(List.length (UpY.makeY i.2.1 1 thereS dirN).L) : Int) → inK 
 .i64 (UpY.usedB (UpY.makeY i.2.1 1 thereS dirN)) → UpY.Ok (UpY.makeY i.2.1 1 thereS dirN) ∧ (inK .i64 (UpY.moveE (UpY.makeY i.2.1 1 thereS dirN) 1 (ixD xeTy (UpY.listD i.2.1 (1 : Int)) (kindI (↑(ByteArray.size s) : Int) (↑(List.length 
 (UpY.listD i.2.1 (1 : Int))) : Int))).1 (UpY.makeR i.2.1 1 thereS dirN) itS) → UpY.Ok (UpY.moveY (UpY.makeY i.2.1 1 thereS dirN) 1 (ixD xeTy (UpY.listD i.2.1 (1 : Int)) (kindI (↑(ByteArray.size s) : Int) (↑(List.length (UpY.listD i.2.1 (1 : 
 Int))) : Int))).1 (UpY.makeR i.2.1 1 thereS dirN) itS) ∧ (ByteArray.size (UpY.lookD (UpY.moveY (UpY.makeY i.2.1 1 thereS dirN) 1 (ixD xeTy (UpY.listD i.2.1 (1 : Int)) (kindI (↑(ByteArray.size s) : Int) (↑(List.length (UpY.listD i.2.1 (1 : 
 Int))) : Int))).1 (UpY.makeR i.2.1 1 thereS dirN) itS) (UpY.makeR i.2.1 1 thereS dirN) itS).1 ≤ 9223372036854775807 → inK .i64 (UpY.lookD (UpY.moveY (UpY.makeY i.2.1 1 thereS dirN) 1 (ixD xeTy (UpY.listD i.2.1 (1 : Int)) (kindI 
 (↑(ByteArray.size s) : Int) (↑(List.length (UpY.listD i.2.1 (1 : Int))) : Int))).1 (UpY.makeR i.2.1 1 thereS dirN) itS) (UpY.makeR i.2.1 1 thereS dirN) itS).2.1 → inK .i64 (UpY.lookD (UpY.moveY (UpY.makeY i.2.1 1 thereS dirN) 1 (ixD xeTy 
 (UpY.listD i.2.1 (1 : Int)) (kindI (↑(ByteArray.size s) : Int) (↑(List.length (UpY.listD i.2.1 (1 : Int))) : Int))).1 (UpY.makeR i.2.1 1 thereS dirN) itS) (UpY.makeR i.2.1 1 thereS dirN) itS).2.2.1 → inK .i64 (UpY.lookE (UpY.moveY 
 (UpY.makeY i.2.1 1 thereS dirN) 1 (ixD xeTy (UpY.listD i.2.1 (1 : Int)) (kindI (↑(ByteArray.size s) : Int) (↑(List.length (UpY.listD i.2.1 (1 : Int))) : Int))).1 (UpY.makeR i.2.1 1 thereS dirN) itS) (UpY.makeR i.2.1 1 thereS dirN) itS) → 
 UpY.Ok (UpY.moveY (UpY.makeY i.2.1 1 thereS dirN) 1 (ixD xeTy (UpY.listD i.2.1 (1 : Int)) (kindI (↑(ByteArray.size s) : Int) (↑(List.length (UpY.listD i.2.1 (1 : Int))) : Int))).1 (UpY.makeR i.2.1 1 thereS dirN) itS) ∧ (ByteArray.size 
 (UpY.lookD (UpY.moveY (UpY.makeY i.2.1 1 thereS dirN) 1 (ixD xeTy (UpY.listD i.2.1 (1 : Int)) (kindI (↑(ByteArray.size s) : Int) (↑(List.length (UpY.listD i.2.1 (1 : Int))) : Int))).1 (UpY.makeR i.2.1 1 thereS dirN) itS) 1 (ixD xeTy 
 (UpY.listD i.2.1 (1 : Int)) (kindI (↑(ByteArray.size s) : Int) (↑(List.length (UpY.listD i.2.1 (1 : Int))) : Int))).1).1 ≤ 9223372036854775807 → inK .i64 (UpY.lookD (UpY.moveY (UpY.makeY i.2.1 1 thereS dirN) 1 (ixD xeTy (UpY.listD i.2.1 (1 
 : Int)) (kindI (↑(ByteArray.size s) : Int) (↑(List.length (UpY.listD i.2.1 (1 : Int))) : Int))).1 (UpY.makeR i.2.1 1 thereS dirN) itS) 1 (ixD xeTy (UpY.listD i.2.1 (1 : Int)) (kindI (↑(ByteArray.size s) : Int) (↑(List.length (UpY.listD 
 i.2.1 (1 : Int))) : Int))).1).2.1 → inK .i64 (UpY.lookD (UpY.moveY (UpY.makeY i.2.1 1 thereS dirN) 1 (ixD xeTy (UpY.listD i.2.1 (1 : Int)) (kindI (↑(ByteArray.size s) : Int) (↑(List.length (UpY.listD i.2.1 (1 : Int))) : Int))).1 (UpY.makeR 
 i.2.1 1 thereS dirN) itS) 1 (ixD xeTy (UpY.listD i.2.1 (1 : Int)) (kindI (↑(ByteArray.size s) : Int) (↑(List.length (UpY.listD i.2.1 (1 : Int))) : Int))).1).2.2.1 → inK .i64 (UpY.lookE (UpY.moveY (UpY.makeY i.2.1 1 thereS dirN) 1 (ixD xeTy 
 (UpY.listD i.2.1 (1 : Int)) (kindI (↑(ByteArray.size s) : Int) (↑(List.length (UpY.listD i.2.1 (1 : Int))) : Int))).1 (UpY.makeR i.2.1 1 thereS dirN) itS) 1 (ixD xeTy (UpY.listD i.2.1 (1 : Int)) (kindI (↑(ByteArray.size s) : Int) 
 (↑(List.length (UpY.listD i.2.1 (1 : Int))) : Int))).1) → UpY.Ok (UpY.moveY (UpY.makeY i.2.1 1 thereS dirN) 1 (ixD xeTy (UpY.listD i.2.1 (1 : Int)) (kindI (↑(ByteArray.size s) : Int) (↑(List.length (UpY.listD i.2.1 (1 : Int))) : Int))).1 
 (UpY.makeR i.2.1 1 thereS dirN) itS) ∧ (inK .i64 (UpY.moveE (UpY.moveY (UpY.makeY i.2.1 1 thereS dirN) 1 (ixD xeTy (UpY.listD i.2.1 (1 : Int)) (kindI (↑(ByteArray.size s) : Int) (↑(List.length (UpY.listD i.2.1 (1 : Int))) : Int))).1 
 (UpY.makeR i.2.1 1 thereS dirN) itS) 1 thereS (UpY.makeR i.2.1 1 thereS dirN) selfS) → UpY.Ok (UpY.moveY (UpY.moveY (UpY.makeY i.2.1 1 thereS dirN) 1 (ixD xeTy (UpY.listD i.2.1 (1 : Int)) (kindI (↑(ByteArray.size s) : Int) (↑(List.length 
 (UpY.listD i.2.1 (1 : Int))) : Int))).1 (UpY.makeR i.2.1 1 thereS dirN) itS) 1 thereS (UpY.makeR i.2.1 1 thereS dirN) selfS) ∧ (inK .i64 (UpY.moveE (UpY.moveY (UpY.moveY (UpY.makeY i.2.1 1 thereS dirN) 1 (ixD xeTy (UpY.listD i.2.1 (1 : 
 Int)) (kindI (↑(ByteArray.size s) : Int) (↑(List.length (UpY.listD i.2.1 (1 : Int))) : Int))).1 (UpY.makeR i.2.1 1 thereS dirN) itS) 1 thereS (UpY.makeR i.2.1 1 thereS dirN) selfS) (UpY.makeR i.2.1 1 thereS dirN) itS 1 (ixD xeTy (UpY.listD 
 i.2.1 (1 : Int)) (kindI (↑(ByteArray.size s) : Int) (↑(List.length (UpY.listD i.2.1 (1 : Int))) : Int))).1) → UpY.Ok (UpY.moveY (UpY.moveY (UpY.moveY (UpY.makeY i.2.1 1 thereS dirN) 1 (ixD xeTy (UpY.listD i.2.1 (1 : Int)) (kindI 
 (↑(ByteArray.size s) : Int) (↑(List.length (UpY.listD i.2.1 (1 : Int))) : Int))).1 (UpY.makeR i.2.1 1 thereS dirN) itS) 1 thereS (UpY.makeR i.2.1 1 thereS dirN) selfS) (UpY.makeR i.2.1 1 thereS dirN) itS 1 (ixD xeTy (UpY.listD i.2.1 (1 : 
 Int)) (kindI (↑(ByteArray.size s) : Int) (↑(List.length (UpY.listD i.2.1 (1 : Int))) : Int))).1) ∧ (ByteArray.size (UpY.lookD (UpY.moveY (UpY.moveY (UpY.moveY (UpY.makeY i.2.1 1 thereS dirN) 1 (ixD xeTy (UpY.listD i.2.1 (1 : Int)) (kindI 
 (↑(ByteArray.size s) : Int) (↑(List.length (UpY.listD i.2.1 (1 : Int))) : Int))).1 (UpY.makeR i.2.1 1 thereS dirN) itS) 1 thereS (UpY.makeR i.2.1 1 thereS dirN) selfS) (UpY.makeR i.2.1 1 thereS dirN) itS 1 (ixD xeTy (UpY.listD i.2.1 (1 : 
 Int)) (kindI (↑(ByteArray.size s) : Int) (↑(List.length (UpY.listD i.2.1 (1 : Int))) : Int))).1) 1 (ixD xeTy (UpY.listD i.2.1 (1 : Int)) (kindI (↑(ByteArray.size s) : Int) (↑(List.length (UpY.listD i.2.1 (1 : Int))) : Int))).1).1 ≤ 
 9223372036854775807 → inK .i64 (UpY.lookD (UpY.moveY (UpY.moveY (UpY.moveY (UpY.makeY i.2.1 1 thereS dirN) 1 (ixD xeTy (UpY.listD i.2.1 (1 : Int)) (kindI (↑(ByteArray.size s) : Int) (↑(List.length (UpY.listD i.2.1 (1 : Int))) : Int))).1 
 (UpY.makeR i.2.1 1 thereS dirN) itS) 1 thereS (UpY.makeR i.2.1 1 thereS dirN) selfS) (UpY.makeR i.2.1 1 thereS dirN) itS 1 (ixD xeTy (UpY.listD i.2.1 (1 : Int)) (kindI (↑(ByteArray.size s) : Int) (↑(List.length (UpY.listD i.2.1 (1 : Int))) 
 : Int))).1) 1 (ixD xeTy (UpY.listD i.2.1 (1 : Int)) (kindI (↑(ByteArray.size s) : Int) (↑(List.length (UpY.listD i.2.1 (1 : Int))) : Int))).1).2.1 → inK .i64 (UpY.lookD (UpY.moveY (UpY.moveY (UpY.moveY (UpY.makeY i.2.1 1 thereS dirN) 1 (ixD 
 xeTy (UpY.listD i.2.1 (1 : Int)) (kindI (↑(ByteArray.size s) : Int) (↑(List.length (UpY.listD i.2.1 (1 : Int))) : Int))).1 (UpY.makeR i.2.1 1 thereS dirN) itS) 1 thereS (UpY.makeR i.2.1 1 thereS dirN) selfS) (UpY.makeR i.2.1 1 thereS dirN) 
 itS 1 (ixD xeTy (UpY.listD i.2.1 (1 : Int)) (kindI (↑(ByteArray.size s) : Int) (↑(List.length (UpY.listD i.2.1 (1 : Int))) : Int))).1) 1 (ixD xeTy (UpY.listD i.2.1 (1 : Int)) (kindI (↑(ByteArray.size s) : Int) (↑(List.length (UpY.listD 
 i.2.1 (1 : Int))) : Int))).1).2.2.1 → inK .i64 (UpY.lookE (UpY.moveY (UpY.moveY (UpY.moveY (UpY.makeY i.2.1 1 thereS dirN) 1 (ixD xeTy (UpY.listD i.2.1 (1 : Int)) (kindI (↑(ByteArray.size s) : Int) (↑(List.length (UpY.listD i.2.1 (1 : 
 Int))) : Int))).1 (UpY.makeR i.2.1 1 thereS dirN) itS) 1 thereS (UpY.makeR i.2.1 1 thereS dirN) selfS) (UpY.makeR i.2.1 1 thereS dirN) itS 1 (ixD xeTy (UpY.listD i.2.1 (1 : Int)) (kindI (↑(ByteArray.size s) : Int) (↑(List.length (UpY.listD 
 i.2.1 (1 : Int))) : Int))).1) 1 (ixD xeTy (UpY.listD i.2.1 (1 : Int)) (kindI (↑(ByteArray.size s) : Int) (↑(List.length (UpY.listD i.2.1 (1 : Int))) : Int))).1) → br (UpY.moveE (UpY.makeY i.2.1 1 thereS dirN) 1 (ixD xeTy (UpY.listD i.2.1 (1 
 : Int)) (kindI (↑(ByteArray.size s) : Int) (↑(List.length (UpY.listD i.2.1 (1 : Int))) : Int))).1 (UpY.makeR i.2.1 1 thereS dirN) itS == 0) (br (UpY.lookE (UpY.moveY (UpY.makeY i.2.1 1 thereS dirN) 1 (ixD xeTy (UpY.listD i.2.1 (1 : Int)) 
 (kindI (↑(ByteArray.size s) : Int) (↑(List.length (UpY.listD i.2.1 (1 : Int))) : Int))).1 (UpY.makeR i.2.1 1 thereS dirN) itS) (UpY.makeR i.2.1 1 thereS dirN) itS == 0) (br ((UpY.lookD (UpY.moveY (UpY.makeY i.2.1 1 thereS dirN) 1 (ixD xeTy 
 (UpY.listD i.2.1 (1 : Int)) (kindI (↑(ByteArray.size s) : Int) (↑(List.length (UpY.listD i.2.1 (1 : Int))) : Int))).1 (UpY.makeR i.2.1 1 thereS dirN) itS) (UpY.makeR i.2.1 1 thereS dirN) itS).2.2.1 == (ixD xeTy (UpY.listD i.2.1 (1 : Int)) 
 (kindI (↑(ByteArray.size s) : Int) (↑(List.length (UpY.listD i.2.1 (1 : Int))) : Int))).2.2.1) (br ((UpY.lookD (UpY.moveY (UpY.makeY i.2.1 1 thereS dirN) 1 (ixD xeTy (UpY.listD i.2.1 (1 : Int)) (kindI (↑(ByteArray.size s) : Int) 
 (↑(List.length (UpY.listD i.2.1 (1 : Int))) : Int))).1 (UpY.makeR i.2.1 1 thereS dirN) itS) (UpY.makeR i.2.1 1 thereS dirN) itS).2.1 == (ixD xeTy (UpY.listD i.2.1 (1 : Int)) (kindI (↑(ByteArray.size s) : Int) (↑(List.length (UpY.listD i.2.1 
 (1 : Int))) : Int))).2.1) (br (UpY.lookE (UpY.moveY (UpY.makeY i.2.1 1 thereS dirN) 1 (ixD xeTy (UpY.listD i.2.1 (1 : Int)) (kindI (↑(ByteArray.size s) : Int) (↑(List.length (UpY.listD i.2.1 (1 : Int))) : Int))).1 (UpY.makeR i.2.1 1 thereS 
 dirN) itS) 1 (ixD xeTy (UpY.listD i.2.1 (1 : Int)) (kindI (↑(ByteArray.size s) : Int) (↑(List.length (UpY.listD i.2.1 (1 : Int))) : Int))).1 == 20) (br (UpY.moveE (UpY.moveY (UpY.makeY i.2.1 1 thereS dirN) 1 (ixD xeTy (UpY.listD i.2.1 (1 : 
 Int)) (kindI (↑(ByteArray.size s) : Int) (↑(List.length (UpY.listD i.2.1 (1 : Int))) : Int))).1 (UpY.makeR i.2.1 1 thereS dirN) itS) 1 thereS (UpY.makeR i.2.1 1 thereS dirN) selfS == 30) (br (UpY.moveE (UpY.moveY (UpY.moveY (UpY.makeY i.2.1 
 1 thereS dirN) 1 (ixD xeTy (UpY.listD i.2.1 (1 : Int)) (kindI (↑(ByteArray.size s) : Int) (↑(List.length (UpY.listD i.2.1 (1 : Int))) : Int))).1 (UpY.makeR i.2.1 1 thereS dirN) itS) 1 thereS (UpY.makeR i.2.1 1 thereS dirN) selfS) (UpY.makeR 
 i.2.1 1 thereS dirN) itS 1 (ixD xeTy (UpY.listD i.2.1 (1 : Int)) (kindI (↑(ByteArray.size s) : Int) (↑(List.length (UpY.listD i.2.1 (1 : Int))) : Int))).1 == 0) (br (UpY.lookE (UpY.moveY (UpY.moveY (UpY.moveY (UpY.makeY i.2.1 1 thereS dirN) 
 1 (ixD xeTy (UpY.listD i.2.1 (1 : Int)) (kindI (↑(ByteArray.size s) : Int) (↑(List.length (UpY.listD i.2.1 (1 : Int))) : Int))).1 (UpY.makeR i.2.1 1 thereS dirN) itS) 1 thereS (UpY.makeR i.2.1 1 thereS dirN) selfS) (UpY.makeR i.2.1 1 thereS 
 dirN) itS 1 (ixD xeTy (UpY.listD i.2.1 (1 : Int)) (kindI (↑(ByteArray.size s) : Int) (↑(List.length (UpY.listD i.2.1 (1 : Int))) : Int))).1) 1 (ixD xeTy (UpY.listD i.2.1 (1 : Int)) (kindI (↑(ByteArray.size s) : Int) (↑(List.length 
 (UpY.listD i.2.1 (1 : Int))) : Int))).1 == 0) (br (sEq (UpY.lookD (UpY.moveY (UpY.moveY (UpY.moveY (UpY.makeY i.2.1 1 thereS dirN) 1 (ixD xeTy (UpY.listD i.2.1 (1 : Int)) (kindI (↑(ByteArray.size s) : Int) (↑(List.length (UpY.listD i.2.1 (1 
 : Int))) : Int))).1 (UpY.makeR i.2.1 1 thereS dirN) itS) 1 thereS (UpY.makeR i.2.1 1 thereS dirN) selfS) (UpY.makeR i.2.1 1 thereS dirN) itS 1 (ixD xeTy (UpY.listD i.2.1 (1 : Int)) (kindI (↑(ByteArray.size s) : Int) (↑(List.length 
 (UpY.listD i.2.1 (1 : Int))) : Int))).1) 1 (ixD xeTy (UpY.listD i.2.1 (1 : Int)) (kindI (↑(ByteArray.size s) : Int) (↑(List.length (UpY.listD i.2.1 (1 : Int))) : Int))).1).1 (ixD xeTy (UpY.listD i.2.1 (1 : Int)) (kindI (↑(ByteArray.size s) 
 : Int) (↑(List.length (UpY.listD i.2.1 (1 : Int))) : Int))).1 && ((UpY.lookD (UpY.moveY (UpY.moveY (UpY.moveY (UpY.makeY i.2.1 1 thereS dirN) 1 (ixD xeTy (UpY.listD i.2.1 (1 : Int)) (kindI (↑(ByteArray.size s) : Int) (↑(List.length 
 (UpY.listD i.2.1 (1 : Int))) : Int))).1 (UpY.makeR i.2.1 1 thereS dirN) itS) 1 thereS (UpY.makeR i.2.1 1 thereS dirN) selfS) (UpY.makeR i.2.1 1 thereS dirN) itS 1 (ixD xeTy (UpY.listD i.2.1 (1 : Int)) (kindI (↑(ByteArray.size s) : Int) 
 (↑(List.length (UpY.listD i.2.1 (1 : Int))) : Int))).1) 1 (ixD xeTy (UpY.listD i.2.1 (1 : Int)) (kindI (↑(ByteArray.size s) : Int) (↑(List.length (UpY.listD i.2.1 (1 : Int))) : Int))).1).2.1 == (ixD xeTy (UpY.listD i.2.1 (1 : Int)) (kindI 
 (↑(ByteArray.size s) : Int) (↑(List.length (UpY.listD i.2.1 (1 : Int))) : Int))).2.1 && ((UpY.lookD (UpY.moveY (UpY.moveY (UpY.moveY (UpY.makeY i.2.1 1 thereS dirN) 1 (ixD xeTy (UpY.listD i.2.1 (1 : Int)) (kindI (↑(ByteArray.size s) : Int) 
 (↑(List.length (UpY.listD i.2.1 (1 : Int))) : Int))).1 (UpY.makeR i.2.1 1 thereS dirN) itS) 1 thereS (UpY.makeR i.2.1 1 thereS dirN) selfS) (UpY.makeR i.2.1 1 thereS dirN) itS 1 (ixD xeTy (UpY.listD i.2.1 (1 : Int)) (kindI (↑(ByteArray.size 
 s) : Int) (↑(List.length (UpY.listD i.2.1 (1 : Int))) : Int))).1) 1 (ixD xeTy (UpY.listD i.2.1 (1 : Int)) (kindI (↑(ByteArray.size s) : Int) (↑(List.length (UpY.listD i.2.1 (1 : Int))) : Int))).1).2.2.1 == (ixD xeTy (UpY.listD i.2.1 (1 : 
 Int)) (kindI (↑(ByteArray.size s) : Int) (↑(List.length (UpY.listD i.2.1 (1 : Int))) : Int))).2.2.1 && true))) (UpY.Ok (UpY.moveY (UpY.moveY (UpY.moveY (UpY.makeY i.2.1 1 thereS dirN) 1 (ixD xeTy (UpY.listD i.2.1 (1 : Int)) (kindI 
 (↑(ByteArray.size s) : Int) (↑(List.length (UpY.listD i.2.1 (1 : Int))) : Int))).1 (UpY.makeR i.2.1 1 thereS dirN) itS) 1 thereS (UpY.makeR i.2.1 1 thereS dirN) selfS) (UpY.makeR i.2.1 1 thereS dirN) itS 1 (ixD xeTy (UpY.listD i.2.1 (1 : 
 Int)) (kindI (↑(ByteArray.size s) : Int) (↑(List.length (UpY.listD i.2.1 (1 : Int))) : Int))).1) ∧ (inK .i64 (↑(List.length (UpY.moveY (UpY.moveY (UpY.moveY (UpY.makeY i.2.1 1 thereS dirN) 1 (ixD xeTy (UpY.listD i.2.1 (1 : Int)) (kindI 
 (↑(ByteArray.size s) : Int) (↑(List.length (UpY.listD i.2.1 (1 : Int))) : Int))).1 (UpY.makeR i.2.1 1 thereS dirN) itS) 1 thereS (UpY.makeR i.2.1 1 thereS dirN) selfS) (UpY.makeR i.2.1 1 thereS dirN) itS 1 (ixD xeTy (UpY.listD i.2.1 (1 : 
 Int)) (kindI (↑(ByteArray.size s) : Int) (↑(List.length (UpY.listD i.2.1 (1 : Int))) : Int))).1).L) : Int) → inK .i64 (UpY.usedB (UpY.moveY (UpY.moveY (UpY.moveY (UpY.makeY i.2.1 1 thereS dirN) 1 (ixD xeTy (UpY.listD i.2.1 (1 : Int)) (kindI 
 (↑(ByteArray.size s) : Int) (↑(List.length (UpY.listD i.2.1 (1 : Int))) : Int))).1 (UpY.makeR i.2.1 1 thereS dirN) itS) 1 thereS (UpY.makeR i.2.1 1 thereS dirN) selfS) (UpY.makeR i.2.1 1 thereS dirN) itS 1 (ixD xeTy (UpY.listD i.2.1 (1 : 
 Int)) (kindI (↑(ByteArray.size s) : Int) (↑(List.length (UpY.listD i.2.1 (1 : Int))) : Int))).1)) → br ((↑(List.length (UpY.moveY (UpY.moveY (UpY.moveY (UpY.makeY i.2.1 1 thereS dirN) 1 (ixD xeTy (UpY.listD i.2.1 (1 : Int)) (kindI 
 (↑(ByteArray.size s) : Int) (↑(List.length (UpY.listD i.2.1 (1 : Int))) : Int))).1 (UpY.makeR i.2.1 1 thereS dirN) itS) 1 thereS (UpY.makeR i.2.1 1 thereS dirN) selfS) (UpY.makeR i.2.1 1 thereS dirN) itS 1 (ixD xeTy (UpY.listD i.2.1 (1 : 
 Int)) (kindI (↑(ByteArray.size s) : Int) (↑(List.length (UpY.listD i.2.1 (1 : Int))) : Int))).1).L) : Int) == (↑(List.length (UpY.makeY i.2.1 1 thereS dirN).L) : Int) && (UpY.usedB (UpY.moveY (UpY.moveY (UpY.moveY (UpY.makeY i.2.1 1 thereS 
 dirN) 1 (ixD xeTy (UpY.listD i.2.1 (1 : Int)) (kindI (↑(ByteArray.size s) : Int) (↑(List.length (UpY.listD i.2.1 (1 : Int))) : Int))).1 (UpY.makeR i.2.1 1 thereS dirN) itS) 1 thereS (UpY.makeR i.2.1 1 thereS dirN) selfS) (UpY.makeR i.2.1 1 
 thereS dirN) itS 1 (ixD xeTy (UpY.listD i.2.1 (1 : Int)) (kindI (↑(ByteArray.size s) : Int) (↑(List.length (UpY.listD i.2.1 (1 : Int))) : Int))).1) == UpY.usedB (UpY.makeY i.2.1 1 thereS dirN) && true)) (UpY.Ok (UpY.moveY (UpY.moveY 
 (UpY.moveY (UpY.makeY i.2.1 1 thereS dirN) 1 (ixD xeTy (UpY.listD i.2.1 (1 : Int)) (kindI (↑(ByteArray.size s) : Int) (↑(List.length (UpY.listD i.2.1 (1 : Int))) : Int))).1 (UpY.makeR i.2.1 1 thereS dirN) itS) 1 thereS (UpY.makeR i.2.1 1 
 thereS dirN) selfS) (UpY.makeR i.2.1 1 thereS dirN) itS 1 (ixD xeTy (UpY.listD i.2.1 (1 : Int)) (kindI (↑(ByteArray.size s) : Int) (↑(List.length (UpY.listD i.2.1 (1 : Int))) : Int))).1) ∧ (inK .i64 (UpY.removeE (UpY.moveY (UpY.moveY 
 (UpY.moveY (UpY.makeY i.2.1 1 thereS dirN) 1 (ixD xeTy (UpY.listD i.2.1 (1 : Int)) (kindI (↑(ByteArray.size s) : Int) (↑(List.length (UpY.listD i.2.1 (1 : Int))) : Int))).1 (UpY.makeR i.2.1 1 thereS dirN) itS) 1 thereS (UpY.makeR i.2.1 1 
 thereS dirN) selfS) (UpY.makeR i.2.1 1 thereS dirN) itS 1 (ixD xeTy (UpY.listD i.2.1 (1 : Int)) (kindI (↑(ByteArray.size s) : Int) (↑(List.length (UpY.listD i.2.1 (1 : Int))) : Int))).1) 1 thereS) → Q (.v (.c (.k (.bool (UpY.removeE 
 (UpY.moveY (UpY.moveY (UpY.moveY (UpY.makeY i.2.1 1 thereS dirN) 1 (ixD xeTy (UpY.listD i.2.1 (1 : Int)) (kindI (↑(ByteArray.size s) : Int) (↑(List.length (UpY.listD i.2.1 (1 : Int))) : Int))).1 (UpY.makeR i.2.1 1 thereS dirN) itS) 1 thereS 
 (UpY.makeR i.2.1 1 thereS dirN) selfS) (UpY.makeR i.2.1 1 thereS dirN) itS 1 (ixD xeTy (UpY.listD i.2.1 (1 : Int)) (kindI (↑(ByteArray.size s) : Int) (↑(List.length (UpY.listD i.2.1 (1 : Int))) : Int))).1) 1 thereS == 0))))) [])) (Q (.v (.c 
 (.k (.bool false)))) []))) (Q (.v (.c (.k (.bool false)))) [])) (Q (.v (.c (.k (.bool false)))) [])) (Q (.v (.c (.k (.bool false)))) [])) (Q (.v (.c (.k (.bool false)))) [])) (Q (.v (.c (.k (.bool false)))) [])) (Q (.v (.c (.k (.bool 
 false)))) [])) (Q (.v (.c (.k (.bool false)))) [])) (Q (.v (.c (.k (.bool false)))) [])) (Q (.v (.c (.k (.bool false)))) []))))))))))))))))) (((0 : Int), ()), UpY.new (0 : Int) (0 : Int), UpY.new (0 : Int) (0 : Int), ())
theorem vc_lthere_eq (l : List (opTy).den) (s : ByteArray) (Q : SV → List HO → Prop) : vFun XW464 ⟨[(8, ⟨[(8, .int .i64)], [(0, .ab (.upr ⟨66, 63, 3, 9⟩)), (1, .ab (.rf 70 36 96))]⟩)], []⟩ Try.f3 [.c (.d opTy l), .str s] [] Q = vc_lthere l s Q := by kernel_rfl
theorem w_lthere : ∀ args H Q, c_lthere args H Q → Wp Inv Try.prog 3 args H Q := by
  intro args H Q h
  unfold c_lthere at h
  split at h
  rotate_left
  · exact h.elim
  rename_i cl s
  split at h
  rotate_left
  · exact h.elim
  rename_i l hl
  refine Wp.said (args' := [.c (.d opTy l), .str s]) (fun E g => RelVs.cons1 (of_list hl) (RelVs.cons1 (fun _ h => h) (fun _ h => h))) ?_
  clear hl
  refine Wp.enter (X := XW464) XW464_ok ⟨[(8, ⟨[(8, .int .i64)], [(0, .ab (.upr ⟨66, 63, 3, 9⟩)), (1, .ab (.rf 70 36 96))]⟩)], []⟩ (fn := Try.f3) (by kernel_rfl) ?_
  have hv := vc_lthere_eq l s Q
  rw [show vFun _ _ _ _ _ _ = _ from hv]
  unfold vc_lthere
  clear hv
  have hs : ∀ a : ByteArray, sEq a a = true := fun a => sEq_iff.2 rfl
  intro _ _
  refine LoopP.intro (fun i => 0 ≤ i.1.1 ∧ i.1.1 ≤ 25 ∧ i.2.2.1 = i.2.1 ∧ i.2.1.OkN i.1.1.toNat) (fun i => l.length - i.1.1.toNat) ⟨Int.le_refl _, by show (0 : Int) ≤ 25; omega, rfl, new_okN _ _⟩ ?_
  rintro ⟨⟨k, _⟩, y, z, _⟩ ⟨k0, k1, hz, hn⟩
  simp only at k0 k1 hz hn ⊢
  rw [hz]
  intro _
  have hn1 : y.OkN 25 := hn.le (by omega)
  have hk := hn1.ok (by decide)
  have hroot := hn1.wf.root
  refine br_of (fun hc => br_of (fun hd => ?_) (fun _ => ?_)) (fun _ => ?_)
  · have hc := of_decide_eq_true hc
    have hd := of_decide_eq_true hd
    have hn2 := okN_do hn (clipO (kindI (ixD opTy l k).1 13, (ixD opTy l k).2))
    refine ⟨k0, hc, fun _ => ⟨by decide, fun _ => ⟨by first | rfl | exact True.intro, hn.le (by omega), by unfold inK; omega, ⟨by omega, by omega, by first | rfl | exact True.intro, ?_⟩, by omega⟩⟩⟩
    rw [show (k + 1).toNat = k.toNat + 1 by omega]
    exact hn2
  all_goals
    refine ⟨hk, fun _ => br_of (fun hx => ?_) (fun _ => fun _ => br_of (fun _ => ?_) (fun hlen => fun _ => ?_))⟩
    · rw [hroot] at hx; cases hx
    · rw [hroot]; exact h
    have hlen : ¬ ((y.listD 1).length : Int) = 0 := by simpa using hlen
    have hkin := kindI_in (c := (s.size : Int)) (n := ((y.listD 1).length : Int)) (by omega)
    refine ⟨hlen, fun _ => ⟨hkin.1, hkin.2, hkin.1, hkin.2, fun _ => ?_⟩⟩
    have hX : ixD xeTy (y.listD 1) (kindI (s.size : Int) ((y.listD 1).length : Int)) ∈ y.listD 1 := ixD_mem (e := xeTy) hkin.1 hkin.2
    generalize ixD xeTy (y.listD 1) (kindI (s.size : Int) ((y.listD 1).length : Int)) = X at hX ⊢
    refine ⟨hk, fun _ _ => ?_⟩
    rcases there_ok hn1.wf hX with hm | ht
    · refine br_of (fun _ => ?_) (fun hx => ?_)
      · rw [hm]; exact h
      · rw [hm] at hx; cases hx
    have o1 := okN_make hn1 1 thereS dirN
    have o2 := okN_move o1 1 X.1 (y.makeR 1 thereS dirN) itS
    have o3 := okN_move o2 (y.makeR 1 thereS dirN) itS 1 X.1
    have q1 := o1.ok (by decide)
    have q2 := o2.ok (by decide)
    have q3 := o3.ok (by decide)
    refine br_of (fun hx => ?_) (fun _ => ?_)
    · rw [ht.m0] at hx; cases hx
    rw [ht.selfY]
    refine ⟨q1, fun _ _ => ⟨q1, fun _ => ⟨q2, fun _ _ _ _ => ⟨q2, fun _ _ _ _ => ⟨q2, fun _ => ⟨q2, fun _ => ⟨q3, fun _ _ _ _ => ?_⟩⟩⟩⟩⟩⟩⟩
    rw [ht.mv, ht.inE, ht.inD, ht.gone, ht.selfE, ht.back, ht.agE, ht.agD]
    iterate 9 (refine br_of (fun _ => ?_) (fun hx => by simp [hs] at hx))
    refine ⟨q3, fun _ _ => br_of (fun _ => ⟨q3, fun _ => ?_⟩) (fun hx => by rw [ht.len, ht.used] at hx; simp at hx)⟩
    rw [ht.rm]; exact h
theorem there_any (l : List OpD) (s : ByteArray) (v : Value) (W : World) (h0 : IsD opTy W v l) (h1 : s.size ≤ maxLen) : Ret Try.prog 3 #[v, .string s] W fun v w' => v = .bool true ∧ Le W w' :=
  Wp.run trivial (w_lthere [.v (.c (.d opTy l)), .v (.c (.k (.string s)))] [] _ (by
    have e : (Ty.sl opTy).of [.d opTy l] = some (l, []) := by kernel_rfl
    unfold c_lthere
    simp only [e])) ⟨v, [.string s], rfl, h0, .string s, [], rfl, ⟨rfl, h1⟩, rfl⟩
end Go.Proofs

