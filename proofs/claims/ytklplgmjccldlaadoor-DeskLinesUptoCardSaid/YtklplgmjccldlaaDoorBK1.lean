/- Texts of mine, laid together: D1 Frame D2 D3 D4 D5 D6 D7 D8 D9 D10 D11 D12 D13 D14 D15 D16 D17 D18 D19 D20. -/
import Derived.Test.YtklplgmjccldlaaDoorProg
import Derived.Test.YtklplgmjccldlaaDoorChecked
import Derived.Test.YtklplgmjccldlaaDoorBV2
import Derived.Test.YtklplgmjccldlaaDoorShelf
import Derived.Test.YtklplgmjccldlaaDoorBW1
import Derived.Test.YtklplgmjccldlaaDoorTie
import Derived.Lib.LaidU8
import Derived.MakeChecks
namespace Go.Proofs
open Go Go.Lm Go.RowKit
/-- What the start has: the library's tables. -/
structure Inv (W : Base) : Prop where
  pow : Lib.TabIs Tryd.prog W.w "internal/strconv.uint64pow10" .u64 Lib.pow10Tab
  utf : Lib.Utf8Tabs 0 1 W.w
  maxL : ∃ m, W.w.cell? ⟨2, 0, none⟩ = some (.int .i64 m)
  errS : ∃ ev, W.w.cell? ⟨3, 0, none⟩ = some ev ∧ (ev = .nilIface ∨ ∃ te pe, ev = .iface te pe)
  errR : ∃ ev, W.w.cell? ⟨4, 0, none⟩ = some ev ∧ (ev = .nilIface ∨ ∃ te pe, ev = .iface te pe)
def tyTab : List (Nat × Ty) := [(41, tEvent), (9, .str), (5, .u8), (3, .int .i64), (71, tAnswer)]
theorem below_cell {W : Base} {w : World} (h : Below W.n W.w w) {a : Addr} {v : Value} (hc : W.w.cell? a = some v) : w.cell? a = some v := Le.mono' h _ _ hc
def c_runeLen : Ct
  | [.v (.c (.k (.int .i32 r)))], [], Q => Q (.int (Lib.runeLen r)) []
  | _, _, _ => False
theorem w_runeLen : ∀ args H Q, c_runeLen args H Q → Wp Inv Tryd.prog 25 args H Q := by
  intro args H Q h
  unfold c_runeLen at h
  split at h
  · rename_i r
    refine Wp.of_pure (fun E g w vs m hv => ?_) h
    obtain ⟨u, q, rfl, ⟨rfl, _⟩, hr⟩ := hv
    obtain rfl : q = [] := hr
    refine (Ret.of (Tryd.utf8_RuneLen r w)).mono fun x w' ⟨h1, h2⟩ => ⟨?_, by rw [h2]; exact Le.refl w⟩
    rw [h1]
    refine relV_mk ?_
    have : Lib.runeLen r = -1 ∨ (1 ≤ Lib.runeLen r ∧ Lib.runeLen r ≤ 4) := by
      unfold Lib.runeLen
      repeat' split
      all_goals omega
    unfold inK
    omega
  · exact h.elim
def c_indexByte : Ct
  | [.v (.c (.k (.string s))), .v (.c (.k (.int .u8 c)))], [], Q => Q (.int (Lib.indexByte s.data.toList c.toNat.toUInt8)) []
  | _, _, _ => False
theorem w_indexByte : ∀ args H Q, c_indexByte args H Q → Wp Inv Tryd.prog 22 args H Q := by
  intro args H Q h
  unfold c_indexByte at h
  split at h
  · rename_i s c
    refine Wp.of_pure (fun E g w vs m hv => ?_) h
    obtain ⟨u, v, rfl, ⟨rfl, hs⟩, ⟨rfl, _⟩⟩ := relVs_two hv
    refine (Ret.of (Tryd.strings_IndexByte s c w)).mono fun x w' ⟨h1, h2⟩ => ⟨?_, by rw [h2]; exact Le.refl w⟩
    rw [h1]
    refine relV_mk ?_
    have := indexByte_in s.data.toList c.toNat.toUInt8
    have hs' : s.data.toList.length ≤ 9223372036854775807 := by rw [← sz_list]; exact hs
    unfold inK
    omega
  · exact h.elim
def c_hasPre0 : Ct
  | [.v (.c (.k (.string s))), .v (.c (.k (.string p)))], [], Q => Q (.bool (hasPre s p)) []
  | _, _, _ => False
noncomputable def XD11 : Vx := { P := Tryd.prog, ct := [(22, c_indexByte), (25, c_runeLen)], ty := tyTab, hold := [] }
theorem XD11_ok : CtOk Inv Tryd.prog XD11.ct := CtOk.cons w_indexByte (CtOk.cons w_runeLen (CtOk.nil _ _))
def vc_hasPre0 : (ByteArray) → (ByteArray) → (SV → List HO → Prop) → Prop :=
 fun s p Q => ByteArray.size s ≤ (9223372036854775807 : Nat) → ByteArray.size p ≤ (9223372036854775807 : Nat) → br (decide ((↑(ByteArray.size s) : Int) ≥ (↑(ByteArray.size p) : Int))) ((0 : Int) ≤ 
 boundV none (0 : Int) ∧ boundV none (0 : Int) ≤ boundV (some (↑(ByteArray.size p) : Int)) (↑(ByteArray.size s) : Int) ∧ boundV (some (↑(ByteArray.size p) : Int)) (↑(ByteArray.size s) : Int) ≤ 
 (↑(ByteArray.size s) : Int) ∧ Q (SV.v (S1.c (Cl.k (Value.bool (sEq (ByteArray.extract s (0 : Nat) (Int.toNat (boundV (some (↑(ByteArray.size p) : Int)) (↑(ByteArray.size s) : Int)))) p))))) []) (Q 
 (SV.v (S1.c (Cl.k (Value.bool false)))) [])
set_option maxRecDepth 1000000 in
theorem vc_hasPre0_eq (s : ByteArray) (p : ByteArray) (Q : SV → List HO → Prop) : vFun XD11 ⟨[], []⟩ Tryd.f39 [.str s, .str p] [] Q = vc_hasPre0 s p Q := by kernel_rfl
set_option maxRecDepth 100000 in
theorem w_hasPre0 : ∀ args H Q, c_hasPre0 args H Q → Wp Inv Tryd.prog 39 args H Q := by
  intro args H Q h
  unfold c_hasPre0 at h
  split at h
  · rename_i s p
    refine Wp.enter (X := XD11) XD11_ok ⟨[], []⟩ (fn := Tryd.f39) (by kernel_rfl) ?_
    have hv := vc_hasPre0_eq s p Q
    rw [show vFun _ _ _ _ _ _ = _ from hv]
    unfold vc_hasPre0
    intro _ _
    unfold hasPre at h
    refine br_of (fun hc => ?_) (fun hc => ?_)
    · have hc : (p.size : Int) ≤ s.size := by simpa using hc
      rw [decide_eq_true hc, Bool.true_and] at h
      exact ⟨Int.le_refl _, Int.natCast_nonneg _, hc, h⟩
    · have hc : ¬ (p.size : Int) ≤ s.size := by simpa using hc
      rw [decide_eq_false hc, Bool.false_and] at h
      exact h
  · exact h.elim
def c_hasPre : Ct
  | [.v (.c (.k (.string s))), .v (.c (.k (.string p)))], [], Q => Q (.bool (hasPre s p)) []
  | _, _, _ => False
noncomputable def XD12 : Vx := { P := Tryd.prog, ct := [(39, c_hasPre0), (22, c_indexByte), (25, c_runeLen)], ty := tyTab, hold := [] }
theorem XD12_ok : CtOk Inv Tryd.prog XD12.ct := CtOk.cons w_hasPre0 (CtOk.cons w_indexByte (CtOk.cons w_runeLen (CtOk.nil _ _)))
def vc_hasPre : (ByteArray) → (ByteArray) → (SV → List HO → Prop) → Prop :=
 fun s p Q => ByteArray.size s ≤ (9223372036854775807 : Nat) → ByteArray.size p ≤ (9223372036854775807 : Nat) → Q (SV.v (S1.c (Cl.k (Value.bool (hasPre s p))))) []
set_option maxRecDepth 1000000 in
theorem vc_hasPre_eq (s : ByteArray) (p : ByteArray) (Q : SV → List HO → Prop) : vFun XD12 ⟨[], []⟩ Tryd.f24 [.str s, .str p] [] Q = vc_hasPre s p Q := by kernel_rfl
set_option maxRecDepth 100000 in
theorem w_hasPre : ∀ args H Q, c_hasPre args H Q → Wp Inv Tryd.prog 24 args H Q := by
  intro args H Q h
  unfold c_hasPre at h
  split at h
  · rename_i s p
    refine Wp.enter (X := XD12) XD12_ok ⟨[], []⟩ (fn := Tryd.f24) (by kernel_rfl) ?_
    have hv := vc_hasPre_eq s p Q
    rw [show vFun _ _ _ _ _ _ = _ from hv]
    unfold vc_hasPre
    intros
    exact h
  · exact h.elim
def c_itself : Ct
  | [.v (.c (.k (.int .i32 c)))], [], Q => Q (.bool (selfC c)) []
  | _, _, _ => False
noncomputable def XD13 : Vx := { P := Tryd.prog, ct := [(24, c_hasPre), (39, c_hasPre0), (22, c_indexByte), (25, c_runeLen)], ty := tyTab, hold := [] }
theorem XD13_ok : CtOk Inv Tryd.prog XD13.ct := CtOk.cons w_hasPre (CtOk.cons w_hasPre0 (CtOk.cons w_indexByte (CtOk.cons w_runeLen (CtOk.nil _ _))))
def vc_itself : (Int) → (SV → List HO → Prop) → Prop :=
 fun c Q => inK IntKind.i32 c → br (c == (39 : Int)) (Q (SV.v (S1.c (Cl.k (Value.bool false)))) []) (br (c == (37 : Int)) (Q (SV.v (S1.c (Cl.k (Value.bool false)))) []) (br (decide ((33 : Int) ≤ c)) 
 (br (decide (c ≤ (126 : Int))) (Q (SV.v (S1.c (Cl.k (Value.bool true)))) []) (br (decide ((161 : Int) ≤ c)) (Q (SV.v (S1.c (Cl.k (Value.bool (decide (c ≤ (65535 : Int))))))) []) (Q (SV.v (S1.c (Cl.k 
 (Value.bool false)))) []))) (br (decide ((161 : Int) ≤ c)) (Q (SV.v (S1.c (Cl.k (Value.bool (decide (c ≤ (65535 : Int))))))) []) (Q (SV.v (S1.c (Cl.k (Value.bool false)))) []))))
set_option maxRecDepth 1000000 in
theorem vc_itself_eq (c : Int) (Q : SV → List HO → Prop) : vFun XD13 ⟨[], []⟩ Tryd.f26 [.k (.int .i32 c)] [] Q = vc_itself c Q := by kernel_rfl
set_option maxRecDepth 100000 in
theorem w_itself : ∀ args H Q, c_itself args H Q → Wp Inv Tryd.prog 26 args H Q := by
  intro args H Q h
  unfold c_itself at h
  split at h
  · rename_i c
    refine Wp.enter (X := XD13) XD13_ok ⟨[], []⟩ (fn := Tryd.f26) (by kernel_rfl) ?_
    have hv := vc_itself_eq c Q
    rw [show vFun _ _ _ _ _ _ = _ from hv]
    unfold vc_itself
    intros
    repeat' (first | refine br_of (fun _ => ?_) (fun _ => ?_))
    all_goals refine Eq.mp (congrArg (fun z => Q (SV.bool z) []) ?_) h
    all_goals clear hv h
    all_goals simp only [selfC, *]
    all_goals rfl
  · exact h.elim
def c_itselfR : Ct
  | [.v (.c (.k (.int .i32 c))), .v (.c (.k (.int .i64 m)))], [], Q => Q (.bool (selfR c m)) []
  | _, _, _ => False
noncomputable def XD14 : Vx := { P := Tryd.prog, ct := [(26, c_itself), (24, c_hasPre), (39, c_hasPre0), (22, c_indexByte), (25, c_runeLen)], ty := tyTab, hold := [] }
theorem XD14_ok : CtOk Inv Tryd.prog XD14.ct := CtOk.cons w_itself (CtOk.cons w_hasPre (CtOk.cons w_hasPre0 (CtOk.cons w_indexByte (CtOk.cons w_runeLen (CtOk.nil _ _)))))
def vc_itselfR : (Int) → (Int) → (SV → List HO → Prop) → Prop :=
 fun c m Q => inK IntKind.i32 c → inK IntKind.i64 m → br (c == (39 : Int)) (Q (SV.v (S1.c (Cl.k (Value.bool false)))) []) (br (c == (37 : Int)) (Q (SV.v (S1.c (Cl.k (Value.bool false)))) []) (br 
 (decide (c ≥ (33 : Int))) (br (decide (c ≤ (126 : Int))) (Q (SV.v (S1.c (Cl.k (Value.bool true)))) []) (br (decide (c ≥ (161 : Int))) (br (decide (c ≤ (65535 : Int))) (br (c != (65533 : Int)) (Q (SV.v 
 (S1.c (Cl.k (Value.bool true)))) []) (Q (SV.v (S1.c (Cl.k (Value.bool (m == (3 : Int)))))) [])) (Q (SV.v (S1.c (Cl.k (Value.bool false)))) [])) (Q (SV.v (S1.c (Cl.k (Value.bool false)))) []))) (br 
 (decide (c ≥ (161 : Int))) (br (decide (c ≤ (65535 : Int))) (br (c != (65533 : Int)) (Q (SV.v (S1.c (Cl.k (Value.bool true)))) []) (Q (SV.v (S1.c (Cl.k (Value.bool (m == (3 : Int)))))) [])) (Q (SV.v 
 (S1.c (Cl.k (Value.bool false)))) [])) (Q (SV.v (S1.c (Cl.k (Value.bool false)))) []))))
set_option maxRecDepth 1000000 in
theorem vc_itselfR_eq (c : Int) (m : Int) (Q : SV → List HO → Prop) : vFun XD14 ⟨[], []⟩ Tryd.f28 [.k (.int .i32 c), .int m] [] Q = vc_itselfR c m Q := by kernel_rfl
set_option maxRecDepth 100000 in
theorem w_itselfR : ∀ args H Q, c_itselfR args H Q → Wp Inv Tryd.prog 28 args H Q := by
  intro args H Q h
  unfold c_itselfR at h
  split at h
  · rename_i c m
    refine Wp.enter (X := XD14) XD14_ok ⟨[], []⟩ (fn := Tryd.f28) (by kernel_rfl) ?_
    have hv := vc_itselfR_eq c m Q
    rw [show vFun _ _ _ _ _ _ = _ from hv]
    unfold vc_itselfR
    intros
    repeat' (first | refine br_of (fun _ => ?_) (fun _ => ?_))
    all_goals refine Eq.mp (congrArg (fun z => Q (SV.bool z) []) ?_) h
    all_goals clear hv h
    all_goals simp only [selfR, *]
    all_goals rfl
  · exact h.elim
end Go.Proofs

namespace Go.Proofs.YtklplgmjccldlaaDoor
open Go Go.ChangeShapes Go.WideShapes Go.ChangeAt Go.RowKit Go.Lm
set_option maxRecDepth 100000
/-- A world that meets the condition: what the door lays, and the library's table of first bytes beside it. -/
noncomputable def laidWorld (os : Os) : World :=
  let w0 := World.doorLaid Tryd.prog 72 os
  { w0 with heap := w0.heap.modify 0 fun
      | .cells _ t frozen => .cells (Pinned.utf8FirstZ.map fun (n : Nat) => Value.int .u8 n).toArray t frozen
      | o => o }
theorem own : ownKnob Tryd.prog.godebug = none := by kernel_rfl
theorem laidOut : laidOutB Tryd.prog = true := by kernel_rfl
abbrev theLaid : List (String × DataW Unit) := Rows.deskQuotesRow.laid
theorem plain_laid : (theLaid.all fun x => x.2.handleName?.isNone) = true := by kernel_rfl
theorem door_met (os : Os) (args : Array Value) : laidMetH Tryd.prog theLaid ((laidWorld os).forCall (fun _ _ => 0) ⟨#[], args, []⟩).memory := by
  rw [MakeChecks.laidMetH_plain _ _ _ plain_laid]
  exact laidMet_of_run' 8 (by kernel_rfl) (by kernel_rfl)
theorem door_shaped (os : Os) (args : Array Value) : ((laidWorld os).forCall (fun _ _ => 0) ⟨#[], args, []⟩).Shaped Tryd.prog := World.shaped_of_RefB (by kernel_rfl) (by kernel_rfl)
theorem cell_iface {P : Program} {W : World} {n nm : String} {d : DataW Unit} {g : Nat} {ti : TypeId} {ms : Array (String × TypeId)}
    (hg : P.globalNamed n = some g) (hty : (P.globals[g]?).map (·.type) = some ti) (hi : P.underlying ti = some (.interface ms)) (h : Lib.VarReads P W n (.iface nm d)) :
    ∃ ev, W.cell? ⟨g, 0, none⟩ = some ev ∧ (ev = .nilIface ∨ ∃ te pe, ev = .iface te pe) := by
  obtain ⟨g', t', cs, fuel, p, hg', hty', hvar, hd⟩ := h
  obtain rfl := Option.some.inj (hg.symm.trans hg')
  obtain rfl := Option.some.inj (hty.symm.trans hty')
  obtain ⟨f1, u, v, e, _⟩ := iface_of_trod hi hd
  refine ⟨_, ?_, .inr ⟨u, v, rfl⟩⟩
  rw [World.var?_cell hg hvar 0, ← Array.getElem?_toList, e]; rfl
theorem u8x : U8Extra Tryd.prog Tryd.lays260_ren := ⟨by kernel_rfl, by kernel_rfl, by kernel_rfl, by kernel_rfl, by kernel_rfl, by kernel_rfl, by kernel_rfl⟩
theorem tab_of {P : Program} {W : World} {name : String} {k : IntKind} {zs : List Int} {g : Nat} {t e : TypeId} {n : Nat}
    (hg : P.globalNamed name = some g) (hty : (P.globals[g]?).map (·.type) = some t) (ht : P.underlying t = some (.array n e)) (he : P.underlying e = some (.int k)) (hce : P.cellsOf e = 1) (hct : P.cellsOf t = n)
    (h : Lib.VarReads P W name (Lib.tabData k zs)) : Lib.TabIs P W name k zs := by
  obtain ⟨g', t', cs, fuel, p, hg', hty', hvar, hd⟩ := h
  obtain rfl := Option.some.inj (hg.symm.trans hg')
  obtain rfl := Option.some.inj (hty.symm.trans hty')
  unfold Lib.TabIs
  rw [hvar, ← Lib.cells_of_tab ht he hce hct hd]
/-- What the start has. -/
theorem inv_of {W : World} (h : laidMetH Tryd.prog theLaid W) (hsh : W.ShapedOpen Tryd.prog) : Inv ⟨W, W⟩ := by
  rw [MakeChecks.laidMetH_plain _ _ _ plain_laid] at h
  have r := fun (n : String) (d : DataW Unit) (hm : (n, d) ∈ theLaid) => Lib.laidMet.reads h hm
  refine ⟨?_, ?_, ?_, ?_, ?_⟩
  · refine tab_of (g := 5) (by kernel_rfl) (by kernel_rfl : (Tryd.prog.globals[5]?).map (·.type) = some 118) Tryd.underlying118 (by kernel_rfl) (by kernel_rfl) (by kernel_rfl) ?_
    have e : Lib.tabData .u64 Lib.pow10Tab = (Rows.laid_internal_strconv_uint64pow10 : DataW Unit) := by kernel_rfl
    rw [e]
    exact r _ _ (by unfold theLaid Rows.deskQuotesRow; simp)
  · refine utf8Tabs_of_reads Tryd.lays260 u8x ?_ ?_
    · have e : Lib.firstData = Rows.laid_unicode_utf8_first := by kernel_rfl
      rw [e]
      exact r _ _ (by unfold theLaid Rows.deskQuotesRow; simp)
    · have e : Lib.acceptData = (Rows.laid_unicode_utf8_acceptRanges : DataW Unit) := by kernel_rfl
      rw [e]
      exact r _ _ (by unfold theLaid Rows.deskQuotesRow; simp)
  · exact cell_of_shapedOpen_int hsh (of_decide_eq_true (by kernel_rfl)) (by kernel_rfl : ((begin Tryd.prog (fun _ _ => 0) default).world.heap[2]?).bind Obj.row? = some (#[.int .i64 0], 3)) rfl (by kernel_rfl) (by kernel_rfl) (by kernel_rfl)
  · exact cell_iface (g := 3) (by kernel_rfl) (by kernel_rfl : (Tryd.prog.globals[3]?).map (·.type) = some 61) Tryd.underlying61 (r "strconv.ErrSyntax" (Rows.laid_strconv_ErrSyntax : DataW Unit) (by unfold theLaid Rows.deskQuotesRow; simp))
  · exact cell_iface (g := 4) (by kernel_rfl) (by kernel_rfl : (Tryd.prog.globals[4]?).map (·.type) = some 61) Tryd.underlying61 (r "strconv.ErrRange" (Rows.laid_strconv_ErrRange : DataW Unit) (by unfold theLaid Rows.deskQuotesRow; simp))
end Go.Proofs.YtklplgmjccldlaaDoor

namespace Go.Proofs
open Go Go.Lm Go.RowKit
def c_quote : Ct
  | [.v (.c (.k (.string s)))], [], Q => ((s.size : Int) ≤ 1000000000 ∧ Q (.str (quoteN s)) [])
  | _, _, _ => False
noncomputable def XD25 : Vx := { P := Tryd.prog, ct := [(28, c_itselfR), (26, c_itself), (24, c_hasPre), (39, c_hasPre0), (22, c_indexByte), (25, c_runeLen)], ty := tyTab, hold := [] }
theorem XD25_ok : CtOk Inv Tryd.prog XD25.ct := CtOk.cons w_itselfR (CtOk.cons w_itself (CtOk.cons w_hasPre (CtOk.cons w_hasPre0 (CtOk.cons w_indexByte (CtOk.cons w_runeLen (CtOk.nil _ _))))))
def vc_quote : (ByteArray) → (SV → List HO → Prop) → Prop :=
 fun s Q => ByteArray.size s ≤ (9223372036854775807 : Nat) → LoopP (fun i again => br (decide (i.snd.fst.snd < ByteArray.size i.snd.fst.fst)) ((0 : Int) ≤ boundV (some (↑i.snd.fst.snd : Int)) (0 : Int) 
 ∧ boundV (some (↑i.snd.fst.snd : Int)) (0 : Int) ≤ boundV none (↑(ByteArray.size s) : Int) ∧ boundV none (↑(ByteArray.size s) : Int) ≤ (↑(ByteArray.size s) : Int) ∧ ByteArray.size (Utf8.encode 
 (↑(Utf8.decode i.snd.fst.fst i.snd.fst.snd).fst : Int)) ≤ (9223372036854775807 : Nat) ∧ br (hasPre (ByteArray.extract s (Int.toNat (boundV (some (↑i.snd.fst.snd : Int)) (0 : Int))) (Int.toNat (boundV 
 none (↑(ByteArray.size s) : Int)))) (Utf8.encode (↑(Utf8.decode i.snd.fst.fst i.snd.fst.snd).fst : Int))) (inK IntKind.i64 (Lib.runeLen (↑(Utf8.decode i.snd.fst.fst i.snd.fst.snd).fst : Int)) → br 
 (selfC (↑(Utf8.decode i.snd.fst.fst i.snd.fst.snd).fst : Int)) (inK IntKind.i64 ((↑i.snd.fst.snd : Int) + Lib.runeLen (↑(Utf8.decode i.snd.fst.fst i.snd.fst.snd).fst : Int)) ∧ (0 : Int) ≤ boundV (some 
 (↑i.snd.fst.snd : Int)) (0 : Int) ∧ boundV (some (↑i.snd.fst.snd : Int)) (0 : Int) ≤ boundV (some ((↑i.snd.fst.snd : Int) + Lib.runeLen (↑(Utf8.decode i.snd.fst.fst i.snd.fst.snd).fst : Int))) 
 (↑(ByteArray.size s) : Int) ∧ boundV (some ((↑i.snd.fst.snd : Int) + Lib.runeLen (↑(Utf8.decode i.snd.fst.fst i.snd.fst.snd).fst : Int))) (↑(ByteArray.size s) : Int) ≤ (↑(ByteArray.size s) : Int) ∧ 
 List.length i.fst.fst + ByteArray.size (ByteArray.extract s (Int.toNat (boundV (some (↑i.snd.fst.snd : Int)) (0 : Int))) (Int.toNat (boundV (some ((↑i.snd.fst.snd : Int) + Lib.runeLen (↑(Utf8.decode 
 i.snd.fst.fst i.snd.fst.snd).fst : Int))) (↑(ByteArray.size s) : Int)))) ≤ (140737488355328 : Nat) ∧ again ((i.fst.fst ++ (ByteArray.extract s (Int.toNat (boundV (some (↑i.snd.fst.snd : Int)) (0 : 
 Int))) (Int.toNat (boundV (some ((↑i.snd.fst.snd : Int) + Lib.runeLen (↑(Utf8.decode i.snd.fst.fst i.snd.fst.snd).fst : Int))) (↑(ByteArray.size s) : Int)))).data.toList, ()), (i.snd.fst.fst, 
 i.snd.fst.snd + (Utf8.decode i.snd.fst.fst i.snd.fst.snd).snd), ())) (inK IntKind.i64 ((↑i.snd.fst.snd : Int) + Lib.runeLen (↑(Utf8.decode i.snd.fst.fst i.snd.fst.snd).fst : Int)) ∧ (0 : Int) ≤ boundV 
 (some (↑i.snd.fst.snd : Int)) (0 : Int) ∧ boundV (some (↑i.snd.fst.snd : Int)) (0 : Int) ≤ boundV (some ((↑i.snd.fst.snd : Int) + Lib.runeLen (↑(Utf8.decode i.snd.fst.fst i.snd.fst.snd).fst : Int))) 
 (↑(ByteArray.size s) : Int) ∧ boundV (some ((↑i.snd.fst.snd : Int) + Lib.runeLen (↑(Utf8.decode i.snd.fst.fst i.snd.fst.snd).fst : Int))) (↑(ByteArray.size s) : Int) ≤ (↑(ByteArray.size s) : Int) ∧ 
 (List.length (ByteArray.extract s (Int.toNat (boundV (some (↑i.snd.fst.snd : Int)) (0 : Int))) (Int.toNat (boundV (some ((↑i.snd.fst.snd : Int) + Lib.runeLen (↑(Utf8.decode i.snd.fst.fst 
 i.snd.fst.snd).fst : Int))) (↑(ByteArray.size s) : Int)))).data.toList ≤ (9223372036854775807 : Nat) → LoopP (fun i_1 again_1 => br (decide (i_1.fst.fst < (↑(List.length (ByteArray.extract s 
 (Int.toNat (boundV (some (↑i.snd.fst.snd : Int)) (0 : Int))) (Int.toNat (boundV (some ((↑i.snd.fst.snd : Int) + Lib.runeLen (↑(Utf8.decode i.snd.fst.fst i.snd.fst.snd).fst : Int))) (↑(ByteArray.size 
 s) : Int)))).data.toList) : Int))) ((0 : Int) ≤ i_1.fst.fst ∧ i_1.fst.fst < (↑(List.length (ByteArray.extract s (Int.toNat (boundV (some (↑i.snd.fst.snd : Int)) (0 : Int))) (Int.toNat (boundV (some 
 ((↑i.snd.fst.snd : Int) + Lib.runeLen (↑(Utf8.decode i.snd.fst.fst i.snd.fst.snd).fst : Int))) (↑(ByteArray.size s) : Int)))).data.toList) : Int) ∧ (Ty.ok Ty.u8 (ixD Ty.u8 (ByteArray.extract s 
 (Int.toNat (boundV (some (↑i.snd.fst.snd : Int)) (0 : Int))) (Int.toNat (boundV (some ((↑i.snd.fst.snd : Int) + Lib.runeLen (↑(Utf8.decode i.snd.fst.fst i.snd.fst.snd).fst : Int))) (↑(ByteArray.size 
 s) : Int)))).data.toList i_1.fst.fst) → (0 : Int) ≤ (4 : Int) ∧ (inK IntKind.u8 (shrI IntKind.u8 (↑(UInt8.toNat (ixD Ty.u8 (ByteArray.extract s (Int.toNat (boundV (some (↑i.snd.fst.snd : Int)) (0 : 
 Int))) (Int.toNat (boundV (some ((↑i.snd.fst.snd : Int) + Lib.runeLen (↑(Utf8.decode i.snd.fst.fst i.snd.fst.snd).fst : Int))) (↑(ByteArray.size s) : Int)))).data.toList i_1.fst.fst)) : Int) (4 : 
 Int)) → (0 : Int) ≤ shrI IntKind.u8 (↑(UInt8.toNat (ixD Ty.u8 (ByteArray.extract s (Int.toNat (boundV (some (↑i.snd.fst.snd : Int)) (0 : Int))) (Int.toNat (boundV (some ((↑i.snd.fst.snd : Int) + 
 Lib.runeLen (↑(Utf8.decode i.snd.fst.fst i.snd.fst.snd).fst : Int))) (↑(ByteArray.size s) : Int)))).data.toList i_1.fst.fst)) : Int) (4 : Int) ∧ shrI IntKind.u8 (↑(UInt8.toNat (ixD Ty.u8 
 (ByteArray.extract s (Int.toNat (boundV (some (↑i.snd.fst.snd : Int)) (0 : Int))) (Int.toNat (boundV (some ((↑i.snd.fst.snd : Int) + Lib.runeLen (↑(Utf8.decode i.snd.fst.fst i.snd.fst.snd).fst : 
 Int))) (↑(ByteArray.size s) : Int)))).data.toList i_1.fst.fst)) : Int) (4 : Int) < (↑(16 : Nat) : Int) ∧ (inK IntKind.u8 (bitsI BinOp.and IntKind.u8 (↑(UInt8.toNat (ixD Ty.u8 (ByteArray.extract s 
 (Int.toNat (boundV (some (↑i.snd.fst.snd : Int)) (0 : Int))) (Int.toNat (boundV (some ((↑i.snd.fst.snd : Int) + Lib.runeLen (↑(Utf8.decode i.snd.fst.fst i.snd.fst.snd).fst : Int))) (↑(ByteArray.size 
 s) : Int)))).data.toList i_1.fst.fst)) : Int) (15 : Int)) → (0 : Int) ≤ bitsI BinOp.and IntKind.u8 (↑(UInt8.toNat (ixD Ty.u8 (ByteArray.extract s (Int.toNat (boundV (some (↑i.snd.fst.snd : Int)) (0 : 
 Int))) (Int.toNat (boundV (some ((↑i.snd.fst.snd : Int) + Lib.runeLen (↑(Utf8.decode i.snd.fst.fst i.snd.fst.snd).fst : Int))) (↑(ByteArray.size s) : Int)))).data.toList i_1.fst.fst)) : Int) (15 : 
 Int) ∧ bitsI BinOp.and IntKind.u8 (↑(UInt8.toNat (ixD Ty.u8 (ByteArray.extract s (Int.toNat (boundV (some (↑i.snd.fst.snd : Int)) (0 : Int))) (Int.toNat (boundV (some ((↑i.snd.fst.snd : Int) + 
 Lib.runeLen (↑(Utf8.decode i.snd.fst.fst i.snd.fst.snd).fst : Int))) (↑(ByteArray.size s) : Int)))).data.toList i_1.fst.fst)) : Int) (15 : Int) < (↑(16 : Nat) : Int) ∧ (List.length i_1.fst.snd.fst + 
 List.length [UInt8.ofNat (37 : Nat), UInt8.ofNat (Int.toNat (↑(UInt8.toNat (byteAt (ByteArray.mk ( #[(48 : UInt8), (49 : UInt8), (50 : UInt8), (51 : UInt8), (52 : UInt8), (53 : UInt8), (54 : UInt8), 
 (55 : UInt8), (56 : UInt8), (57 : UInt8), (97 : UInt8), (98 : UInt8), (99 : UInt8), (100 : UInt8), (101 : UInt8), (102 : UInt8)] )) (shrI IntKind.u8 (↑(UInt8.toNat (ixD Ty.u8 (ByteArray.extract s 
 (Int.toNat (boundV (some (↑i.snd.fst.snd : Int)) (0 : Int))) (Int.toNat (boundV (some ((↑i.snd.fst.snd : Int) + Lib.runeLen (↑(Utf8.decode i.snd.fst.fst i.snd.fst.snd).fst : Int))) (↑(ByteArray.size 
 s) : Int)))).data.toList i_1.fst.fst)) : Int) (4 : Int)))) : Int)), UInt8.ofNat (Int.toNat (↑(UInt8.toNat (byteAt (ByteArray.mk ( #[(48 : UInt8), (49 : UInt8), (50 : UInt8), (51 : UInt8), (52 : 
 UInt8), (53 : UInt8), (54 : UInt8), (55 : UInt8), (56 : UInt8), (57 : UInt8), (97 : UInt8), (98 : UInt8), (99 : UInt8), (100 : UInt8), (101 : UInt8), (102 : UInt8)] )) (bitsI BinOp.and IntKind.u8 
 (↑(UInt8.toNat (ixD Ty.u8 (ByteArray.extract s (Int.toNat (boundV (some (↑i.snd.fst.snd : Int)) (0 : Int))) (Int.toNat (boundV (some ((↑i.snd.fst.snd : Int) + Lib.runeLen (↑(Utf8.decode i.snd.fst.fst 
 i.snd.fst.snd).fst : Int))) (↑(ByteArray.size s) : Int)))).data.toList i_1.fst.fst)) : Int) (15 : Int)))) : Int))]) * (1 : Nat) ≤ (140737488355328 : Nat) ∧ List.length i_1.fst.snd.fst + List.length 
 [UInt8.ofNat (37 : Nat), UInt8.ofNat (Int.toNat (↑(UInt8.toNat (byteAt (ByteArray.mk ( #[(48 : UInt8), (49 : UInt8), (50 : UInt8), (51 : UInt8), (52 : UInt8), (53 : UInt8), (54 : UInt8), (55 : UInt8), 
 (56 : UInt8), (57 : UInt8), (97 : UInt8), (98 : UInt8), (99 : UInt8), (100 : UInt8), (101 : UInt8), (102 : UInt8)] )) (shrI IntKind.u8 (↑(UInt8.toNat (ixD Ty.u8 (ByteArray.extract s (Int.toNat (boundV 
 (some (↑i.snd.fst.snd : Int)) (0 : Int))) (Int.toNat (boundV (some ((↑i.snd.fst.snd : Int) + Lib.runeLen (↑(Utf8.decode i.snd.fst.fst i.snd.fst.snd).fst : Int))) (↑(ByteArray.size s) : 
 Int)))).data.toList i_1.fst.fst)) : Int) (4 : Int)))) : Int)), UInt8.ofNat (Int.toNat (↑(UInt8.toNat (byteAt (ByteArray.mk ( #[(48 : UInt8), (49 : UInt8), (50 : UInt8), (51 : UInt8), (52 : UInt8), (53 
 : UInt8), (54 : UInt8), (55 : UInt8), (56 : UInt8), (57 : UInt8), (97 : UInt8), (98 : UInt8), (99 : UInt8), (100 : UInt8), (101 : UInt8), (102 : UInt8)] )) (bitsI BinOp.and IntKind.u8 (↑(UInt8.toNat 
 (ixD Ty.u8 (ByteArray.extract s (Int.toNat (boundV (some (↑i.snd.fst.snd : Int)) (0 : Int))) (Int.toNat (boundV (some ((↑i.snd.fst.snd : Int) + Lib.runeLen (↑(Utf8.decode i.snd.fst.fst 
 i.snd.fst.snd).fst : Int))) (↑(ByteArray.size s) : Int)))).data.toList i_1.fst.fst)) : Int) (15 : Int)))) : Int))] ≤ (9223372036854775807 : Nat) ∧ inK IntKind.i64 (i_1.fst.fst + (1 : Int)) ∧ again_1 
 ((i_1.fst.fst + (1 : Int), i_1.fst.snd.fst ++ [UInt8.ofNat (37 : Nat), UInt8.ofNat (Int.toNat (↑(UInt8.toNat (byteAt (ByteArray.mk ( #[(48 : UInt8), (49 : UInt8), (50 : UInt8), (51 : UInt8), (52 : 
 UInt8), (53 : UInt8), (54 : UInt8), (55 : UInt8), (56 : UInt8), (57 : UInt8), (97 : UInt8), (98 : UInt8), (99 : UInt8), (100 : UInt8), (101 : UInt8), (102 : UInt8)] )) (shrI IntKind.u8 (↑(UInt8.toNat 
 (ixD Ty.u8 (ByteArray.extract s (Int.toNat (boundV (some (↑i.snd.fst.snd : Int)) (0 : Int))) (Int.toNat (boundV (some ((↑i.snd.fst.snd : Int) + Lib.runeLen (↑(Utf8.decode i.snd.fst.fst 
 i.snd.fst.snd).fst : Int))) (↑(ByteArray.size s) : Int)))).data.toList i_1.fst.fst)) : Int) (4 : Int)))) : Int)), UInt8.ofNat (Int.toNat (↑(UInt8.toNat (byteAt (ByteArray.mk ( #[(48 : UInt8), (49 : 
 UInt8), (50 : UInt8), (51 : UInt8), (52 : UInt8), (53 : UInt8), (54 : UInt8), (55 : UInt8), (56 : UInt8), (57 : UInt8), (97 : UInt8), (98 : UInt8), (99 : UInt8), (100 : UInt8), (101 : UInt8), (102 : 
 UInt8)] )) (bitsI BinOp.and IntKind.u8 (↑(UInt8.toNat (ixD Ty.u8 (ByteArray.extract s (Int.toNat (boundV (some (↑i.snd.fst.snd : Int)) (0 : Int))) (Int.toNat (boundV (some ((↑i.snd.fst.snd : Int) + 
 Lib.runeLen (↑(Utf8.decode i.snd.fst.fst i.snd.fst.snd).fst : Int))) (↑(ByteArray.size s) : Int)))).data.toList i_1.fst.fst)) : Int) (15 : Int)))) : Int))], ()), ()))))) (again (i_1.fst.snd, 
 (i.snd.fst.fst, i.snd.fst.snd + (Utf8.decode i.snd.fst.fst i.snd.fst.snd).snd), ()))) (((0 : Int), i.fst), ())))) (inK IntKind.i64 ((↑i.snd.fst.snd : Int) + (1 : Int)) ∧ (0 : Int) ≤ boundV (some 
 (↑i.snd.fst.snd : Int)) (0 : Int) ∧ boundV (some (↑i.snd.fst.snd : Int)) (0 : Int) ≤ boundV (some ((↑i.snd.fst.snd : Int) + (1 : Int))) (↑(ByteArray.size s) : Int) ∧ boundV (some ((↑i.snd.fst.snd : 
 Int) + (1 : Int))) (↑(ByteArray.size s) : Int) ≤ (↑(ByteArray.size s) : Int) ∧ (List.length (ByteArray.extract s (Int.toNat (boundV (some (↑i.snd.fst.snd : Int)) (0 : Int))) (Int.toNat (boundV (some 
 ((↑i.snd.fst.snd : Int) + (1 : Int))) (↑(ByteArray.size s) : Int)))).data.toList ≤ (9223372036854775807 : Nat) → LoopP (fun i_1 again_1 => br (decide (i_1.fst.fst < (↑(List.length (ByteArray.extract s 
 (Int.toNat (boundV (some (↑i.snd.fst.snd : Int)) (0 : Int))) (Int.toNat (boundV (some ((↑i.snd.fst.snd : Int) + (1 : Int))) (↑(ByteArray.size s) : Int)))).data.toList) : Int))) ((0 : Int) ≤ 
 i_1.fst.fst ∧ i_1.fst.fst < (↑(List.length (ByteArray.extract s (Int.toNat (boundV (some (↑i.snd.fst.snd : Int)) (0 : Int))) (Int.toNat (boundV (some ((↑i.snd.fst.snd : Int) + (1 : Int))) 
 (↑(ByteArray.size s) : Int)))).data.toList) : Int) ∧ (Ty.ok Ty.u8 (ixD Ty.u8 (ByteArray.extract s (Int.toNat (boundV (some (↑i.snd.fst.snd : Int)) (0 : Int))) (Int.toNat (boundV (some ((↑i.snd.fst.snd 
 : Int) + (1 : Int))) (↑(ByteArray.size s) : Int)))).data.toList i_1.fst.fst) → (0 : Int) ≤ (4 : Int) ∧ (inK IntKind.u8 (shrI IntKind.u8 (↑(UInt8.toNat (ixD Ty.u8 (ByteArray.extract s (Int.toNat 
 (boundV (some (↑i.snd.fst.snd : Int)) (0 : Int))) (Int.toNat (boundV (some ((↑i.snd.fst.snd : Int) + (1 : Int))) (↑(ByteArray.size s) : Int)))).data.toList i_1.fst.fst)) : Int) (4 : Int)) → (0 : Int) 
 ≤ shrI IntKind.u8 (↑(UInt8.toNat (ixD Ty.u8 (ByteArray.extract s (Int.toNat (boundV (some (↑i.snd.fst.snd : Int)) (0 : Int))) (Int.toNat (boundV (some ((↑i.snd.fst.snd : Int) + (1 : Int))) 
 (↑(ByteArray.size s) : Int)))).data.toList i_1.fst.fst)) : Int) (4 : Int) ∧ shrI IntKind.u8 (↑(UInt8.toNat (ixD Ty.u8 (ByteArray.extract s (Int.toNat (boundV (some (↑i.snd.fst.snd : Int)) (0 : Int))) 
 (Int.toNat (boundV (some ((↑i.snd.fst.snd : Int) + (1 : Int))) (↑(ByteArray.size s) : Int)))).data.toList i_1.fst.fst)) : Int) (4 : Int) < (↑(16 : Nat) : Int) ∧ (inK IntKind.u8 (bitsI BinOp.and 
 IntKind.u8 (↑(UInt8.toNat (ixD Ty.u8 (ByteArray.extract s (Int.toNat (boundV (some (↑i.snd.fst.snd : Int)) (0 : Int))) (Int.toNat (boundV (some ((↑i.snd.fst.snd : Int) + (1 : Int))) (↑(ByteArray.size 
 s) : Int)))).data.toList i_1.fst.fst)) : Int) (15 : Int)) → (0 : Int) ≤ bitsI BinOp.and IntKind.u8 (↑(UInt8.toNat (ixD Ty.u8 (ByteArray.extract s (Int.toNat (boundV (some (↑i.snd.fst.snd : Int)) (0 : 
 Int))) (Int.toNat (boundV (some ((↑i.snd.fst.snd : Int) + (1 : Int))) (↑(ByteArray.size s) : Int)))).data.toList i_1.fst.fst)) : Int) (15 : Int) ∧ bitsI BinOp.and IntKind.u8 (↑(UInt8.toNat (ixD Ty.u8 
 (ByteArray.extract s (Int.toNat (boundV (some (↑i.snd.fst.snd : Int)) (0 : Int))) (Int.toNat (boundV (some ((↑i.snd.fst.snd : Int) + (1 : Int))) (↑(ByteArray.size s) : Int)))).data.toList 
 i_1.fst.fst)) : Int) (15 : Int) < (↑(16 : Nat) : Int) ∧ (List.length i_1.fst.snd.fst + List.length [UInt8.ofNat (37 : Nat), UInt8.ofNat (Int.toNat (↑(UInt8.toNat (byteAt (ByteArray.mk ( #[(48 : 
 UInt8), (49 : UInt8), (50 : UInt8), (51 : UInt8), (52 : UInt8), (53 : UInt8), (54 : UInt8), (55 : UInt8), (56 : UInt8), (57 : UInt8), (97 : UInt8), (98 : UInt8), (99 : UInt8), (100 : UInt8), (101 : 
 UInt8), (102 : UInt8)] )) (shrI IntKind.u8 (↑(UInt8.toNat (ixD Ty.u8 (ByteArray.extract s (Int.toNat (boundV (some (↑i.snd.fst.snd : Int)) (0 : Int))) (Int.toNat (boundV (some ((↑i.snd.fst.snd : Int) 
 + (1 : Int))) (↑(ByteArray.size s) : Int)))).data.toList i_1.fst.fst)) : Int) (4 : Int)))) : Int)), UInt8.ofNat (Int.toNat (↑(UInt8.toNat (byteAt (ByteArray.mk ( #[(48 : UInt8), (49 : UInt8), (50 : 
 UInt8), (51 : UInt8), (52 : UInt8), (53 : UInt8), (54 : UInt8), (55 : UInt8), (56 : UInt8), (57 : UInt8), (97 : UInt8), (98 : UInt8), (99 : UInt8), (100 : UInt8), (101 : UInt8), (102 : UInt8)] )) 
 (bitsI BinOp.and IntKind.u8 (↑(UInt8.toNat (ixD Ty.u8 (ByteArray.extract s (Int.toNat (boundV (some (↑i.snd.fst.snd : Int)) (0 : Int))) (Int.toNat (boundV (some ((↑i.snd.fst.snd : Int) + (1 : Int))) 
 (↑(ByteArray.size s) : Int)))).data.toList i_1.fst.fst)) : Int) (15 : Int)))) : Int))]) * (1 : Nat) ≤ (140737488355328 : Nat) ∧ List.length i_1.fst.snd.fst + List.length [UInt8.ofNat (37 : Nat), 
 UInt8.ofNat (Int.toNat (↑(UInt8.toNat (byteAt (ByteArray.mk ( #[(48 : UInt8), (49 : UInt8), (50 : UInt8), (51 : UInt8), (52 : UInt8), (53 : UInt8), (54 : UInt8), (55 : UInt8), (56 : UInt8), (57 : 
 UInt8), (97 : UInt8), (98 : UInt8), (99 : UInt8), (100 : UInt8), (101 : UInt8), (102 : UInt8)] )) (shrI IntKind.u8 (↑(UInt8.toNat (ixD Ty.u8 (ByteArray.extract s (Int.toNat (boundV (some 
 (↑i.snd.fst.snd : Int)) (0 : Int))) (Int.toNat (boundV (some ((↑i.snd.fst.snd : Int) + (1 : Int))) (↑(ByteArray.size s) : Int)))).data.toList i_1.fst.fst)) : Int) (4 : Int)))) : Int)), UInt8.ofNat 
 (Int.toNat (↑(UInt8.toNat (byteAt (ByteArray.mk ( #[(48 : UInt8), (49 : UInt8), (50 : UInt8), (51 : UInt8), (52 : UInt8), (53 : UInt8), (54 : UInt8), (55 : UInt8), (56 : UInt8), (57 : UInt8), (97 : 
 UInt8), (98 : UInt8), (99 : UInt8), (100 : UInt8), (101 : UInt8), (102 : UInt8)] )) (bitsI BinOp.and IntKind.u8 (↑(UInt8.toNat (ixD Ty.u8 (ByteArray.extract s (Int.toNat (boundV (some (↑i.snd.fst.snd 
 : Int)) (0 : Int))) (Int.toNat (boundV (some ((↑i.snd.fst.snd : Int) + (1 : Int))) (↑(ByteArray.size s) : Int)))).data.toList i_1.fst.fst)) : Int) (15 : Int)))) : Int))] ≤ (9223372036854775807 : Nat) 
 ∧ inK IntKind.i64 (i_1.fst.fst + (1 : Int)) ∧ again_1 ((i_1.fst.fst + (1 : Int), i_1.fst.snd.fst ++ [UInt8.ofNat (37 : Nat), UInt8.ofNat (Int.toNat (↑(UInt8.toNat (byteAt (ByteArray.mk ( #[(48 : 
 UInt8), (49 : UInt8), (50 : UInt8), (51 : UInt8), (52 : UInt8), (53 : UInt8), (54 : UInt8), (55 : UInt8), (56 : UInt8), (57 : UInt8), (97 : UInt8), (98 : UInt8), (99 : UInt8), (100 : UInt8), (101 : 
 UInt8), (102 : UInt8)] )) (shrI IntKind.u8 (↑(UInt8.toNat (ixD Ty.u8 (ByteArray.extract s (Int.toNat (boundV (some (↑i.snd.fst.snd : Int)) (0 : Int))) (Int.toNat (boundV (some ((↑i.snd.fst.snd : Int) 
 + (1 : Int))) (↑(ByteArray.size s) : Int)))).data.toList i_1.fst.fst)) : Int) (4 : Int)))) : Int)), UInt8.ofNat (Int.toNat (↑(UInt8.toNat (byteAt (ByteArray.mk ( #[(48 : UInt8), (49 : UInt8), (50 : 
 UInt8), (51 : UInt8), (52 : UInt8), (53 : UInt8), (54 : UInt8), (55 : UInt8), (56 : UInt8), (57 : UInt8), (97 : UInt8), (98 : UInt8), (99 : UInt8), (100 : UInt8), (101 : UInt8), (102 : UInt8)] )) 
 (bitsI BinOp.and IntKind.u8 (↑(UInt8.toNat (ixD Ty.u8 (ByteArray.extract s (Int.toNat (boundV (some (↑i.snd.fst.snd : Int)) (0 : Int))) (Int.toNat (boundV (some ((↑i.snd.fst.snd : Int) + (1 : Int))) 
 (↑(ByteArray.size s) : Int)))).data.toList i_1.fst.fst)) : Int) (15 : Int)))) : Int))], ()), ()))))) (again (i_1.fst.snd, (i.snd.fst.fst, i.snd.fst.snd + (Utf8.decode i.snd.fst.fst 
 i.snd.fst.snd).snd), ()))) (((0 : Int), i.fst), ())))) ((List.length i.fst.fst + (1 : Nat)) * (1 : Nat) ≤ (140737488355328 : Nat) ∧ List.length i.fst.fst + (1 : Nat) ≤ (9223372036854775807 : Nat) ∧ Q 
 (SV.v (S1.c (Cl.k (Value.string (bstr (i.fst.fst ++ [UInt8.ofNat (39 : Nat)])))))) [])) (([UInt8.ofNat (39 : Nat)], ()), (s, (0 : Nat)), ())
set_option maxRecDepth 1000000 in
theorem vc_quote_eq (s : ByteArray) (Q : SV → List HO → Prop) : vFun XD25 ⟨[(4, ⟨[(3, .own 5 .u8)], [(1, .ab .iter)]⟩), (12, ⟨[(42, .int .i64), (3, .own 5 .u8)], []⟩)], []⟩ Tryd.f12 [.str s] [] Q = vc_quote s Q := by kernel_rfl
set_option maxRecDepth 100000 in
theorem w_quote : ∀ args H Q, c_quote args H Q → Wp Inv Tryd.prog 12 args H Q := by
  intro args H Q h
  unfold c_quote at h
  split at h
  · rename_i s
    refine Wp.enter (X := XD25) XD25_ok ⟨[(4, ⟨[(3, .own 5 .u8)], [(1, .ab .iter)]⟩), (12, ⟨[(42, .int .i64), (3, .own 5 .u8)], []⟩)], []⟩ (fn := Tryd.f12) (by kernel_rfl) ?_
    have hv := vc_quote_eq s Q
    rw [show vFun _ _ _ _ _ _ = _ from hv]
    unfold vc_quote
    clear hv
    obtain ⟨hb, h⟩ := h
    intro _
    refine LoopP.intro (fun i => s = i.2.1.1 ∧ i.2.1.2 ≤ s.size ∧ (i.1.1.length : Int) ≤ 1 + 3 * i.2.1.2 ∧ i.1.1 ++ qGo s (s.size - i.2.1.2) i.2.1.2 = 39 :: qGo s s.size 0) (fun i => s.size - i.2.1.2) ⟨rfl, Nat.zero_le _, by show ((1 : Nat) : Int) ≤ 1 + 3 * ((0 : Nat) : Int); omega, by show UInt8.ofNat 39 :: qGo s (s.size - 0) 0 = _; rw [Nat.sub_zero]; rfl⟩ ?_
    rintro ⟨⟨out, _⟩, ⟨z, p⟩, _⟩ ⟨hz, h0, h1, h2⟩
    simp only at hz h0 h1 h2 ⊢
    subst hz
    refine @br_of _ _ _ ?_ ?_
    · intro hc
      have hc : p < s.size := by simpa using hc
      have hdp := dec_pos s p
      have hdl := dec_le hc
      rw [qGo_step hc] at h2
      have hpd : ∀ m : Nat, ((p : Int) + (m : Int)).toNat = p + m := fun m => by omega
      have hp1 : ((p : Int) + 1).toNat = p + 1 := by omega
      simp only [boundV, Int.toNat_natCast]
      have he4 : (Utf8.encode ((Utf8.decode s p).1 : Int)).size ≤ 9223372036854775807 := Nat.le_trans (encode_size_le _) (Nat.le_of_ble_eq_true rfl)
      refine ⟨by omega, by omega, by omega, he4, ?_⟩
      refine @br_of _ _ _ ?_ ?_
      · intro hp _
        have hv : ¬ ((Utf8.decode s p).1 = 65533 ∧ (Utf8.decode s p).2 = 1) := fun hv => by
          rw [hv.1] at hp
          have := dec_bad hc hv
          rw [show ((65533 : Nat) : Int) = 65533 from rfl, this] at hp
          cases hp
        obtain ⟨_, g2, g3⟩ := dec_good hc hv
        have hR := selfR_good (c := ((Utf8.decode s p).1 : Int)) (n := ((Utf8.decode s p).2 : Int)) fun e => by have := g3 (by omega); omega
        rw [g2]
        simp only [hpd]
        refine @br_of _ _ _ ?_ ?_
        · intro hs
          have hbl : (s.extract p (p + (Utf8.decode s p).2)).size = (Utf8.decode s p).2 := by rw [sz_list, bytes_at, List.length_take, List.length_drop, ← sz_list]; omega
          refine ⟨by unfold inK; omega, by omega, by omega, by omega, by rw [hbl]; omega, ⟨trivial, by omega, ?_, ?_⟩, by omega⟩
          · rw [List.length_append, ← sz_list, hbl]; omega
          · rw [bytes_at, ← h2]
            unfold qOne
            rw [if_pos (by rw [hR, hs]), List.append_assoc]
        · intro hs
          refine ⟨by unfold inK; omega, by omega, by omega, by omega, ?_⟩
          generalize hbs : (s.extract p (p + (Utf8.decode s p).2)).data.toList = bs
          have hbl : bs.length = (Utf8.decode s p).2 := by rw [← hbs, bytes_at, List.length_take, List.length_drop, ← sz_list]; omega
          intro _
          refine LoopP.intro (fun k => 0 ≤ k.1.1 ∧ k.1.1 ≤ bs.length ∧ k.1.2.1 = out ++ (bs.take k.1.1.toNat).flatMap hex3) (fun k => bs.length - k.1.1.toNat) ⟨by simp, by simp, by simp⟩ ?_
          rintro ⟨⟨k, o2, _⟩, _⟩ ⟨k0, k1, k2⟩
          simp only at k0 k1 k2 ⊢
          have ho : (o2.length : Int) = out.length + 3 * k := by rw [k2, List.length_append, hex_len, List.length_take]; omega
          refine @br_of _ _ _ ?_ ?_
          · intro hk
            have hk : k < bs.length := by simpa using hk
            obtain ⟨⟨b1, b2⟩, b3⟩ := hexB (ixD Ty.u8 bs k)
            have hlt := UInt8.toNat_lt (ixD Ty.u8 bs k)
            refine ⟨k0, hk, fun _ => ⟨by decide, fun _ => ⟨by rw [b1]; omega, by rw [b1]; omega, fun _ => ⟨by rw [b2]; omega, by rw [b2]; omega, ?_, ?_, by unfold inK; omega, ⟨by omega, by omega, ?_⟩, by omega⟩⟩⟩⟩
            · show (o2.length + 3) * 1 ≤ _
              omega
            · show o2.length + 3 ≤ _
              omega
            · rw [take_ixD (e := Ty.u8) k0 hk, List.flatMap_append, ← List.append_assoc, ← k2]
              refine congrArg (o2 ++ ·) (b3.trans ?_)
              rw [List.flatMap_cons, List.flatMap_nil, List.append_nil]
          · intro hk
            have hk : ¬ k < bs.length := by simpa using hk
            have e9 : bs.take k.toNat = bs := List.take_of_length_le (by omega)
            rw [e9, ← hbs, bytes_at] at k2
            refine ⟨⟨trivial, by omega, by omega, ?_⟩, by omega⟩
            rw [k2, ← h2]
            unfold qOne
            rw [if_neg (by rw [hR, hs]; simp), show (Utf8.decode s p).2 = (Utf8.decode s p).2 from rfl, List.append_assoc]
      · intro hp
        have hv : (Utf8.decode s p).1 = 65533 ∧ (Utf8.decode s p).2 = 1 := by
          refine Classical.byContradiction fun hv => ?_
          rw [(dec_good hc hv).1] at hp
          cases hp
        simp only [hp1]
        rw [hv.2] at hdl
        refine ⟨by unfold inK; omega, by omega, by omega, by omega, ?_⟩
        generalize hbs : (s.extract p (p + 1)).data.toList = bs
        have hbl : bs.length = 1 := by rw [← hbs, bytes_at, List.length_take, List.length_drop, ← sz_list]; omega
        intro _
        refine LoopP.intro (fun k => 0 ≤ k.1.1 ∧ k.1.1 ≤ bs.length ∧ k.1.2.1 = out ++ (bs.take k.1.1.toNat).flatMap hex3) (fun k => bs.length - k.1.1.toNat) ⟨by simp, by simp, by simp⟩ ?_
        rintro ⟨⟨k, o2, _⟩, _⟩ ⟨k0, k1, k2⟩
        simp only at k0 k1 k2 ⊢
        have ho : (o2.length : Int) = out.length + 3 * k := by rw [k2, List.length_append, hex_len, List.length_take]; omega
        refine @br_of _ _ _ ?_ ?_
        · intro hk
          have hk : k < bs.length := by simpa using hk
          obtain ⟨⟨b1, b2⟩, b3⟩ := hexB (ixD Ty.u8 bs k)
          have hlt := UInt8.toNat_lt (ixD Ty.u8 bs k)
          refine ⟨k0, hk, fun _ => ⟨by decide, fun _ => ⟨by rw [b1]; omega, by rw [b1]; omega, fun _ => ⟨by rw [b2]; omega, by rw [b2]; omega, ?_, ?_, by unfold inK; omega, ⟨by omega, by omega, ?_⟩, by omega⟩⟩⟩⟩
          · show (o2.length + 3) * 1 ≤ _
            omega
          · show o2.length + 3 ≤ _
            omega
          · rw [take_ixD (e := Ty.u8) k0 hk, List.flatMap_append, ← List.append_assoc, ← k2]
            refine congrArg (o2 ++ ·) (b3.trans ?_)
            rw [List.flatMap_cons, List.flatMap_nil, List.append_nil]
        · intro hk
          have hk : ¬ k < bs.length := by simpa using hk
          have e9 : bs.take k.toNat = bs := List.take_of_length_le (by omega)
          rw [e9, ← hbs, bytes_at] at k2
          refine ⟨⟨trivial, by omega, by omega, ?_⟩, by omega⟩
          rw [k2, ← h2]
          unfold qOne
          rw [if_neg (by rw [hv.1, hv.2, show selfR ((65533 : Nat) : Int) ((1 : Nat) : Int) = false from by decide]; simp), hv.2, List.append_assoc]
    · intro hc
      have hc : ¬ p < s.size := by simpa using hc
      rw [qGo_end hc, List.append_nil] at h2
      refine ⟨by show (out.length + 1) * 1 ≤ _; omega, by show out.length + 1 ≤ _; omega, ?_⟩
      unfold quoteN at h
      show Q (.str (bstr (out ++ [UInt8.ofNat 39]))) []
      rw [h2]
      exact h
  · exact h.elim
end Go.Proofs

namespace Go.Proofs
open Go Go.Lm Go.RowKit
def c_decode : Ct
  | [.v (.c (.k (.string z)))], [], Q => z.size ≠ 0 ∧ Q (.tup [.c (.k (.int .i32 (Utf8.decode z 0).1)), .c (.k (.int .i64 (Utf8.decode z 0).2))]) []
  | _, _, _ => False
theorem w_decode : ∀ args H Q, c_decode args H Q → Wp Inv Tryd.prog 27 args H Q := by
  intro args H Q h
  unfold c_decode at h
  split at h
  · rename_i z
    obtain ⟨h0, h⟩ := h
    refine Wp.of_pureI (fun W E g w vs hI hb m hv => ?_) h
    obtain ⟨u, q, rfl, ⟨rfl, hz⟩, hr⟩ := hv
    obtain rfl : q = [] := hr
    have hT := Utf8Tabs_below hI.utf hb
    refine (Ret.of (Tryd.utf8_DecodeRuneInString z w hT)).mono fun x w' ⟨h1, h2⟩ => ⟨?_, h2⟩
    have e : Lib.decodeGo z = Utf8.decode z 0 := by unfold Lib.decodeGo; rw [if_neg h0]
    rw [h1, e]
    have hd := decode_le z 0
    have hl := dec_le (s := z) (p := 0) (by omega)
    have hz' : z.size ≤ maxLen := hz
    unfold maxLen at hz'
    refine ⟨_, ⟨_, _, rfl, ⟨rfl, ?_⟩, _, _, rfl, ⟨rfl, ?_⟩, rfl⟩, rfl⟩
    · show (-2147483648 : Int) ≤ ((Utf8.decode z 0).1 : Int) ∧ ((Utf8.decode z 0).1 : Int) ≤ 2147483647
      omega
    · show (-9223372036854775808 : Int) ≤ ((Utf8.decode z 0).2 : Int) ∧ ((Utf8.decode z 0).2 : Int) ≤ 9223372036854775807
      omega
  · exact h.elim
def c_quoteR : Ct
  | [.v (.c (.k (.string s)))], [], Q => ((s.size : Int) ≤ 1000000000 ∧ Q (.str (quoteN s)) [])
  | _, _, _ => False
noncomputable def XD36 : Vx := { P := Tryd.prog, ct := [(27, c_decode), (12, c_quote), (28, c_itselfR), (26, c_itself), (24, c_hasPre), (39, c_hasPre0), (22, c_indexByte), (25, c_runeLen)], ty := tyTab, hold := [] }
theorem XD36_ok : CtOk Inv Tryd.prog XD36.ct := CtOk.cons w_decode (CtOk.cons w_quote (CtOk.cons w_itselfR (CtOk.cons w_itself (CtOk.cons w_hasPre (CtOk.cons w_hasPre0 (CtOk.cons w_indexByte (CtOk.cons w_runeLen (CtOk.nil _ _))))))))
def vc_quoteR : (ByteArray) → (SV → List HO → Prop) → Prop :=
 fun s Q => ByteArray.size s ≤ (9223372036854775807 : Nat) → LoopP (fun i again => br (decide (i.fst.fst < (↑(ByteArray.size s) : Int))) ((0 : Int) ≤ boundV (some i.fst.fst) (0 : Int) ∧ boundV (some 
 i.fst.fst) (0 : Int) ≤ boundV none (↑(ByteArray.size s) : Int) ∧ boundV none (↑(ByteArray.size s) : Int) ≤ (↑(ByteArray.size s) : Int) ∧ ByteArray.size (ByteArray.extract s (Int.toNat (boundV (some 
 i.fst.fst) (0 : Int))) (Int.toNat (boundV none (↑(ByteArray.size s) : Int)))) ≠ (0 : Nat) ∧ (inK IntKind.i32 (↑(Utf8.decode (ByteArray.extract s (Int.toNat (boundV (some i.fst.fst) (0 : Int))) 
 (Int.toNat (boundV none (↑(ByteArray.size s) : Int)))) (0 : Nat)).fst : Int) → inK IntKind.i64 (↑(Utf8.decode (ByteArray.extract s (Int.toNat (boundV (some i.fst.fst) (0 : Int))) (Int.toNat (boundV 
 none (↑(ByteArray.size s) : Int)))) (0 : Nat)).snd : Int) → LoopP (fun i_1 again_1 => br (decide (i_1.fst.fst < (↑(Utf8.decode (ByteArray.extract s (Int.toNat (boundV (some i.fst.fst) (0 : Int))) 
 (Int.toNat (boundV none (↑(ByteArray.size s) : Int)))) (0 : Nat)).snd : Int))) (inK IntKind.i64 (i.fst.fst + i_1.fst.fst) ∧ (0 : Int) ≤ i.fst.fst + i_1.fst.fst ∧ i.fst.fst + i_1.fst.fst < 
 (↑(ByteArray.size s) : Int) ∧ br (selfR (↑(Utf8.decode (ByteArray.extract s (Int.toNat (boundV (some i.fst.fst) (0 : Int))) (Int.toNat (boundV none (↑(ByteArray.size s) : Int)))) (0 : Nat)).fst : Int) 
 (↑(Utf8.decode (ByteArray.extract s (Int.toNat (boundV (some i.fst.fst) (0 : Int))) (Int.toNat (boundV none (↑(ByteArray.size s) : Int)))) (0 : Nat)).snd : Int)) ((List.length i_1.fst.snd.fst + 
 List.length [UInt8.ofNat (Int.toNat (↑(UInt8.toNat (byteAt s (i.fst.fst + i_1.fst.fst))) : Int))]) * (1 : Nat) ≤ (140737488355328 : Nat) ∧ List.length i_1.fst.snd.fst + List.length [UInt8.ofNat 
 (Int.toNat (↑(UInt8.toNat (byteAt s (i.fst.fst + i_1.fst.fst))) : Int))] ≤ (9223372036854775807 : Nat) ∧ inK IntKind.i64 (i_1.fst.fst + (1 : Int)) ∧ again_1 ((i_1.fst.fst + (1 : Int), i_1.fst.snd.fst 
 ++ [UInt8.ofNat (Int.toNat (↑(UInt8.toNat (byteAt s (i.fst.fst + i_1.fst.fst))) : Int))], ()), ())) ((16 : Int) ≠ (0 : Int) ∧ (inK IntKind.u8 (IntKind.wrap IntKind.u8 (Int.tdiv (↑(UInt8.toNat (byteAt 
 s (i.fst.fst + i_1.fst.fst))) : Int) (16 : Int))) → (0 : Int) ≤ IntKind.wrap IntKind.u8 (Int.tdiv (↑(UInt8.toNat (byteAt s (i.fst.fst + i_1.fst.fst))) : Int) (16 : Int)) ∧ IntKind.wrap IntKind.u8 
 (Int.tdiv (↑(UInt8.toNat (byteAt s (i.fst.fst + i_1.fst.fst))) : Int) (16 : Int)) < (↑(16 : Nat) : Int) ∧ (16 : Int) ≠ (0 : Int) ∧ (inK IntKind.u8 (Int.tmod (↑(UInt8.toNat (byteAt s (i.fst.fst + 
 i_1.fst.fst))) : Int) (16 : Int)) → (0 : Int) ≤ Int.tmod (↑(UInt8.toNat (byteAt s (i.fst.fst + i_1.fst.fst))) : Int) (16 : Int) ∧ Int.tmod (↑(UInt8.toNat (byteAt s (i.fst.fst + i_1.fst.fst))) : Int) 
 (16 : Int) < (↑(16 : Nat) : Int) ∧ (List.length i_1.fst.snd.fst + List.length [UInt8.ofNat (37 : Nat), UInt8.ofNat (Int.toNat (↑(UInt8.toNat (byteAt (ByteArray.mk ( #[(48 : UInt8), (49 : UInt8), (50 : 
 UInt8), (51 : UInt8), (52 : UInt8), (53 : UInt8), (54 : UInt8), (55 : UInt8), (56 : UInt8), (57 : UInt8), (97 : UInt8), (98 : UInt8), (99 : UInt8), (100 : UInt8), (101 : UInt8), (102 : UInt8)] )) 
 (IntKind.wrap IntKind.u8 (Int.tdiv (↑(UInt8.toNat (byteAt s (i.fst.fst + i_1.fst.fst))) : Int) (16 : Int))))) : Int)), UInt8.ofNat (Int.toNat (↑(UInt8.toNat (byteAt (ByteArray.mk ( #[(48 : UInt8), (49 
 : UInt8), (50 : UInt8), (51 : UInt8), (52 : UInt8), (53 : UInt8), (54 : UInt8), (55 : UInt8), (56 : UInt8), (57 : UInt8), (97 : UInt8), (98 : UInt8), (99 : UInt8), (100 : UInt8), (101 : UInt8), (102 : 
 UInt8)] )) (Int.tmod (↑(UInt8.toNat (byteAt s (i.fst.fst + i_1.fst.fst))) : Int) (16 : Int)))) : Int))]) * (1 : Nat) ≤ (140737488355328 : Nat) ∧ List.length i_1.fst.snd.fst + List.length [UInt8.ofNat 
 (37 : Nat), UInt8.ofNat (Int.toNat (↑(UInt8.toNat (byteAt (ByteArray.mk ( #[(48 : UInt8), (49 : UInt8), (50 : UInt8), (51 : UInt8), (52 : UInt8), (53 : UInt8), (54 : UInt8), (55 : UInt8), (56 : 
 UInt8), (57 : UInt8), (97 : UInt8), (98 : UInt8), (99 : UInt8), (100 : UInt8), (101 : UInt8), (102 : UInt8)] )) (IntKind.wrap IntKind.u8 (Int.tdiv (↑(UInt8.toNat (byteAt s (i.fst.fst + i_1.fst.fst))) 
 : Int) (16 : Int))))) : Int)), UInt8.ofNat (Int.toNat (↑(UInt8.toNat (byteAt (ByteArray.mk ( #[(48 : UInt8), (49 : UInt8), (50 : UInt8), (51 : UInt8), (52 : UInt8), (53 : UInt8), (54 : UInt8), (55 : 
 UInt8), (56 : UInt8), (57 : UInt8), (97 : UInt8), (98 : UInt8), (99 : UInt8), (100 : UInt8), (101 : UInt8), (102 : UInt8)] )) (Int.tmod (↑(UInt8.toNat (byteAt s (i.fst.fst + i_1.fst.fst))) : Int) (16 
 : Int)))) : Int))] ≤ (9223372036854775807 : Nat) ∧ inK IntKind.i64 (i_1.fst.fst + (1 : Int)) ∧ again_1 ((i_1.fst.fst + (1 : Int), i_1.fst.snd.fst ++ [UInt8.ofNat (37 : Nat), UInt8.ofNat (Int.toNat 
 (↑(UInt8.toNat (byteAt (ByteArray.mk ( #[(48 : UInt8), (49 : UInt8), (50 : UInt8), (51 : UInt8), (52 : UInt8), (53 : UInt8), (54 : UInt8), (55 : UInt8), (56 : UInt8), (57 : UInt8), (97 : UInt8), (98 : 
 UInt8), (99 : UInt8), (100 : UInt8), (101 : UInt8), (102 : UInt8)] )) (IntKind.wrap IntKind.u8 (Int.tdiv (↑(UInt8.toNat (byteAt s (i.fst.fst + i_1.fst.fst))) : Int) (16 : Int))))) : Int)), UInt8.ofNat 
 (Int.toNat (↑(UInt8.toNat (byteAt (ByteArray.mk ( #[(48 : UInt8), (49 : UInt8), (50 : UInt8), (51 : UInt8), (52 : UInt8), (53 : UInt8), (54 : UInt8), (55 : UInt8), (56 : UInt8), (57 : UInt8), (97 : 
 UInt8), (98 : UInt8), (99 : UInt8), (100 : UInt8), (101 : UInt8), (102 : UInt8)] )) (Int.tmod (↑(UInt8.toNat (byteAt s (i.fst.fst + i_1.fst.fst))) : Int) (16 : Int)))) : Int))], ()), ()))))) (inK 
 IntKind.i64 (i.fst.fst + (↑(Utf8.decode (ByteArray.extract s (Int.toNat (boundV (some i.fst.fst) (0 : Int))) (Int.toNat (boundV none (↑(ByteArray.size s) : Int)))) (0 : Nat)).snd : Int)) ∧ again 
 ((i.fst.fst + (↑(Utf8.decode (ByteArray.extract s (Int.toNat (boundV (some i.fst.fst) (0 : Int))) (Int.toNat (boundV none (↑(ByteArray.size s) : Int)))) (0 : Nat)).snd : Int), i_1.fst.snd), ()))) (((0 
 : Int), i.fst.snd), ()))) ((List.length i.fst.snd.fst + (1 : Nat)) * (1 : Nat) ≤ (140737488355328 : Nat) ∧ List.length i.fst.snd.fst + (1 : Nat) ≤ (9223372036854775807 : Nat) ∧ Q (SV.v (S1.c (Cl.k 
 (Value.string (bstr (i.fst.snd.fst ++ [UInt8.ofNat (39 : Nat)])))))) [])) (((0 : Int), [UInt8.ofNat (39 : Nat)], ()), ())
set_option maxRecDepth 1000000 in
theorem vc_quoteR_eq (s : ByteArray) (Q : SV → List HO → Prop) : vFun XD36 ⟨[(4, ⟨[(4, .int .i64), (3, .own 5 .u8)], []⟩), (8, ⟨[(8, .int .i64), (3, .own 5 .u8)], []⟩)], []⟩ Tryd.f13 [.str s] [] Q = vc_quoteR s Q := by kernel_rfl
set_option maxRecDepth 100000 in
theorem w_quoteR : ∀ args H Q, c_quoteR args H Q → Wp Inv Tryd.prog 13 args H Q := by
  intro args H Q h
  unfold c_quoteR at h
  split at h
  · rename_i s
    refine Wp.enter (X := XD36) XD36_ok ⟨[(4, ⟨[(4, .int .i64), (3, .own 5 .u8)], []⟩), (8, ⟨[(8, .int .i64), (3, .own 5 .u8)], []⟩)], []⟩ (fn := Tryd.f13) (by kernel_rfl) ?_
    have hv := vc_quoteR_eq s Q
    rw [show vFun _ _ _ _ _ _ = _ from hv]
    unfold vc_quoteR
    clear hv
    obtain ⟨hb, h⟩ := h
    intro _
    refine LoopP.intro (fun i => 0 ≤ i.1.1 ∧ i.1.1 ≤ s.size ∧ (i.1.2.1.length : Int) ≤ 1 + 3 * i.1.1 ∧ i.1.2.1 ++ qGo s (s.size - i.1.1.toNat) i.1.1.toNat = 39 :: qGo s s.size 0) (fun i => s.size - i.1.1.toNat) ⟨by simp, by simp, by show ((1 : Nat) : Int) ≤ 1 + 3 * 0; omega, by show UInt8.ofNat 39 :: qGo s (s.size - 0) 0 = _; rw [Nat.sub_zero]; rfl⟩ ?_
    rintro ⟨⟨i, out, _⟩, _⟩ ⟨h0, h1, h2, h3⟩
    simp only at h0 h1 h2 h3 ⊢
    obtain ⟨p, rfl⟩ : ∃ p : Nat, i = p := ⟨i.toNat, by omega⟩
    rw [Int.toNat_natCast] at h3
    refine @br_of _ _ _ ?_ ?_
    · intro hc
      have hc : p < s.size := by simpa using hc
      have hdp := dec_pos s p
      have hdl := dec_le hc
      rw [qGo_step hc] at h3
      simp only [boundV, Int.toNat_natCast, dec_ext]
      refine ⟨by omega, by omega, by omega, ?_, ?_⟩
      · rw [sz_list, ext_lst, List.length_drop, List.length_take, ← sz_list]; omega
      intro _ _
      have hG := qOne_G s p
      generalize selfR ((Utf8.decode s p).1 : Int) ((Utf8.decode s p).2 : Int) = gd at *
      refine LoopP.intro (fun k => 0 ≤ k.1.1 ∧ k.1.1 ≤ ((Utf8.decode s p).2 : Int) ∧ k.1.2.1 = out ++ outG gd ((s.data.toList.drop p).take k.1.1.toNat)) (fun k => (Utf8.decode s p).2 - k.1.1.toNat) ⟨by simp, by simp, by cases gd <;> simp [outG]⟩ ?_
      rintro ⟨⟨k, o2, _⟩, _⟩ ⟨k0, k1, k2⟩
      simp only at k0 k1 k2 ⊢
      have ho : (o2.length : Int) ≤ out.length + 3 * k := by
        have := outG_len gd ((s.data.toList.drop p).take k.toNat)
        rw [List.length_take] at this
        rw [k2, List.length_append]; omega
      refine @br_of _ _ _ ?_ ?_
      · intro hk
        have hk : k < ((Utf8.decode s p).2 : Int) := by simpa using hk
        have hn := take_next (s := s) (p := p) k0 (by omega)
        obtain ⟨⟨b1, b2⟩, b3⟩ := hexB2 (byteAt s ((p : Int) + k))
        have hu := u8_back (byteAt s ((p : Int) + k))
        have hlt := UInt8.toNat_lt (byteAt s ((p : Int) + k))
        refine ⟨by unfold inK; omega, by omega, by omega, ?_⟩
        refine @br_of _ _ _ ?_ ?_
        · intro hg
          subst hg
          refine ⟨?_, ?_, by unfold inK; omega, ⟨by omega, by omega, ?_⟩, by omega⟩
          · show (o2.length + 1) * 1 ≤ _
            omega
          · show o2.length + 1 ≤ _
            omega
          · rw [hn, outG_app, ← List.append_assoc, ← k2]
            exact congrArg (fun z => o2 ++ [z]) hu
        · intro hg
          subst hg
          refine ⟨by decide, fun _ => ⟨by rw [b1]; omega, by rw [b1]; omega, by decide, fun _ => ⟨by rw [b2]; omega, by rw [b2]; omega, ?_, ?_, by unfold inK; omega, ⟨by omega, by omega, ?_⟩, by omega⟩⟩⟩
          · show (o2.length + 3) * 1 ≤ _
            omega
          · show o2.length + 3 ≤ _
            omega
          · rw [hn, outG_app, ← List.append_assoc, ← k2]
            refine congrArg (o2 ++ ·) (b3.trans ?_)
            show hex3 _ = hex3 _ ++ []
            rw [List.append_nil]
      · intro hk
        have hk : ¬ k < ((Utf8.decode s p).2 : Int) := by simpa using hk
        have ek : k.toNat = (Utf8.decode s p).2 := by omega
        rw [ek, ← hG] at k2
        refine ⟨by unfold inK; omega, ⟨by omega, by omega, by omega, ?_⟩, by omega⟩
        rw [k2, show ((p : Int) + ((Utf8.decode s p).2 : Int)).toNat = p + (Utf8.decode s p).2 by omega, List.append_assoc]
        exact h3
    · intro hc
      have hc : ¬ p < s.size := by simpa using hc
      rw [qGo_end hc, List.append_nil] at h3
      refine ⟨by show (out.length + 1) * 1 ≤ _; omega, by show out.length + 1 ≤ _; omega, ?_⟩
      unfold quoteN at h
      show Q (.str (bstr (out ++ [UInt8.ofNat 39]))) []
      rw [h3]
      exact h
  · exact h.elim
end Go.Proofs

namespace Go.Proofs
open Go Go.Lm Go.RowKit
def c_unquote : Ct
  | [.v (.c (.k (.string s)))], [], Q => ((s.size : Int) ≤ 1000000000 ∧ Q (.tup [.c (.k (.string (unqD s).1)), .c (.k (.int .i64 (unqD s).2))]) [])
  | _, _, _ => False
noncomputable def XD47 : Vx := { P := Tryd.prog, ct := [(13, c_quoteR), (27, c_decode), (12, c_quote), (28, c_itselfR), (26, c_itself), (24, c_hasPre), (39, c_hasPre0), (22, c_indexByte), (25, c_runeLen)], ty := tyTab, hold := [] }
theorem XD47_ok : CtOk Inv Tryd.prog XD47.ct := CtOk.cons w_quoteR (CtOk.cons w_decode (CtOk.cons w_quote (CtOk.cons w_itselfR (CtOk.cons w_itself (CtOk.cons w_hasPre (CtOk.cons w_hasPre0 (CtOk.cons w_indexByte (CtOk.cons w_runeLen (CtOk.nil _ _)))))))))
def vc_unquote : (ByteArray) → (SV → List HO → Prop) → Prop :=
 fun s Q => ByteArray.size s ≤ (9223372036854775807 : Nat) → inK IntKind.i64 ((↑(ByteArray.size s) : Int) - (1 : Int)) ∧ br (decide ((↑(ByteArray.size s) : Int) - (1 : Int) < (1 : Int))) (Q (SV.tup 
 [S1.c (Cl.k (Value.string (ByteArray.mk ( #[] )))), S1.c (Cl.k (Value.int IntKind.i64 (240 : Int)))]) []) ((0 : Int) ≤ (0 : Int) ∧ (0 : Int) < (↑(ByteArray.size s) : Int) ∧ br ((↑(UInt8.toNat (byteAt 
 s (0 : Int))) : Int) != (39 : Int)) (Q (SV.tup [S1.c (Cl.k (Value.string (ByteArray.mk ( #[] )))), S1.c (Cl.k (Value.int IntKind.i64 (240 : Int)))]) []) ((0 : Int) ≤ (↑(ByteArray.size s) : Int) - (1 : 
 Int) ∧ (↑(ByteArray.size s) : Int) - (1 : Int) < (↑(ByteArray.size s) : Int) ∧ br ((↑(UInt8.toNat (byteAt s ((↑(ByteArray.size s) : Int) - (1 : Int)))) : Int) != (39 : Int)) (Q (SV.tup [S1.c (Cl.k 
 (Value.string (ByteArray.mk ( #[] )))), S1.c (Cl.k (Value.int IntKind.i64 (240 : Int)))]) []) ((0 : Int) ≤ boundV (some (1 : Int)) (0 : Int) ∧ boundV (some (1 : Int)) (0 : Int) ≤ boundV (some 
 ((↑(ByteArray.size s) : Int) - (1 : Int))) (↑(ByteArray.size s) : Int) ∧ boundV (some ((↑(ByteArray.size s) : Int) - (1 : Int))) (↑(ByteArray.size s) : Int) ≤ (↑(ByteArray.size s) : Int) ∧ LoopP (fun 
 i again => br (!sEq i.fst.fst (ByteArray.mk ( #[] ))) ((0 : Int) ≤ (0 : Int) ∧ (0 : Int) < (↑(ByteArray.size i.fst.fst) : Int) ∧ br ((↑(UInt8.toNat (byteAt i.fst.fst (0 : Int))) : Int) != (37 : Int)) 
 ((0 : Int) ≤ (0 : Int) ∧ (0 : Int) < (↑(ByteArray.size i.fst.fst) : Int) ∧ (0 : Int) ≤ boundV (some (1 : Int)) (0 : Int) ∧ boundV (some (1 : Int)) (0 : Int) ≤ boundV none (↑(ByteArray.size i.fst.fst) 
 : Int) ∧ boundV none (↑(ByteArray.size i.fst.fst) : Int) ≤ (↑(ByteArray.size i.fst.fst) : Int) ∧ (List.length i.fst.snd.fst + List.length [UInt8.ofNat (Int.toNat (↑(UInt8.toNat (byteAt i.fst.fst (0 : 
 Int))) : Int))]) * (1 : Nat) ≤ (140737488355328 : Nat) ∧ List.length i.fst.snd.fst + List.length [UInt8.ofNat (Int.toNat (↑(UInt8.toNat (byteAt i.fst.fst (0 : Int))) : Int))] ≤ (9223372036854775807 : 
 Nat) ∧ again ((ByteArray.extract i.fst.fst (1 : Nat) (Int.toNat (boundV none (↑(ByteArray.size i.fst.fst) : Int))), i.fst.snd.fst ++ [UInt8.ofNat (Int.toNat (↑(UInt8.toNat (byteAt i.fst.fst (0 : 
 Int))) : Int))], ()), ())) (br (decide ((↑(ByteArray.size i.fst.fst) : Int) < (3 : Int))) (Q (SV.tup [S1.c (Cl.k (Value.string (ByteArray.mk ( #[] )))), S1.c (Cl.k (Value.int IntKind.i64 (240 : 
 Int)))]) []) ((0 : Int) ≤ (1 : Int) ∧ (1 : Int) < (↑(ByteArray.size i.fst.fst) : Int) ∧ (0 : Int) ≤ (2 : Int) ∧ (2 : Int) < (↑(ByteArray.size i.fst.fst) : Int) ∧ (inK IntKind.i64 (Lib.indexByte 
 (ByteArray.mk ( #[(48 : UInt8), (49 : UInt8), (50 : UInt8), (51 : UInt8), (52 : UInt8), (53 : UInt8), (54 : UInt8), (55 : UInt8), (56 : UInt8), (57 : UInt8), (97 : UInt8), (98 : UInt8), (99 : UInt8), 
 (100 : UInt8), (101 : UInt8), (102 : UInt8)] )).data.toList (Nat.toUInt8 (Int.toNat (↑(UInt8.toNat (byteAt i.fst.fst (1 : Int))) : Int)))) → inK IntKind.i64 (Lib.indexByte (ByteArray.mk ( #[(48 : 
 UInt8), (49 : UInt8), (50 : UInt8), (51 : UInt8), (52 : UInt8), (53 : UInt8), (54 : UInt8), (55 : UInt8), (56 : UInt8), (57 : UInt8), (97 : UInt8), (98 : UInt8), (99 : UInt8), (100 : UInt8), (101 : 
 UInt8), (102 : UInt8)] )).data.toList (Nat.toUInt8 (Int.toNat (↑(UInt8.toNat (byteAt i.fst.fst (2 : Int))) : Int)))) → br (decide (Lib.indexByte (ByteArray.mk ( #[(48 : UInt8), (49 : UInt8), (50 : 
 UInt8), (51 : UInt8), (52 : UInt8), (53 : UInt8), (54 : UInt8), (55 : UInt8), (56 : UInt8), (57 : UInt8), (97 : UInt8), (98 : UInt8), (99 : UInt8), (100 : UInt8), (101 : UInt8), (102 : UInt8)] 
 )).data.toList (Nat.toUInt8 (Int.toNat (↑(UInt8.toNat (byteAt i.fst.fst (1 : Int))) : Int))) < (0 : Int))) (Q (SV.tup [S1.c (Cl.k (Value.string (ByteArray.mk ( #[] )))), S1.c (Cl.k (Value.int 
 IntKind.i64 (240 : Int)))]) []) (br (decide (Lib.indexByte (ByteArray.mk ( #[(48 : UInt8), (49 : UInt8), (50 : UInt8), (51 : UInt8), (52 : UInt8), (53 : UInt8), (54 : UInt8), (55 : UInt8), (56 : 
 UInt8), (57 : UInt8), (97 : UInt8), (98 : UInt8), (99 : UInt8), (100 : UInt8), (101 : UInt8), (102 : UInt8)] )).data.toList (Nat.toUInt8 (Int.toNat (↑(UInt8.toNat (byteAt i.fst.fst (2 : Int))) : 
 Int))) < (0 : Int))) (Q (SV.tup [S1.c (Cl.k (Value.string (ByteArray.mk ( #[] )))), S1.c (Cl.k (Value.int IntKind.i64 (240 : Int)))]) []) ((0 : Int) ≤ (4 : Int) ∧ (inK IntKind.i64 (shlI IntKind.i64 
 (Lib.indexByte (ByteArray.mk ( #[(48 : UInt8), (49 : UInt8), (50 : UInt8), (51 : UInt8), (52 : UInt8), (53 : UInt8), (54 : UInt8), (55 : UInt8), (56 : UInt8), (57 : UInt8), (97 : UInt8), (98 : UInt8), 
 (99 : UInt8), (100 : UInt8), (101 : UInt8), (102 : UInt8)] )).data.toList (Nat.toUInt8 (Int.toNat (↑(UInt8.toNat (byteAt i.fst.fst (1 : Int))) : Int)))) (4 : Int)) → inK IntKind.i64 (bitsI BinOp.or 
 IntKind.i64 (shlI IntKind.i64 (Lib.indexByte (ByteArray.mk ( #[(48 : UInt8), (49 : UInt8), (50 : UInt8), (51 : UInt8), (52 : UInt8), (53 : UInt8), (54 : UInt8), (55 : UInt8), (56 : UInt8), (57 : 
 UInt8), (97 : UInt8), (98 : UInt8), (99 : UInt8), (100 : UInt8), (101 : UInt8), (102 : UInt8)] )).data.toList (Nat.toUInt8 (Int.toNat (↑(UInt8.toNat (byteAt i.fst.fst (1 : Int))) : Int)))) (4 : Int)) 
 (Lib.indexByte (ByteArray.mk ( #[(48 : UInt8), (49 : UInt8), (50 : UInt8), (51 : UInt8), (52 : UInt8), (53 : UInt8), (54 : UInt8), (55 : UInt8), (56 : UInt8), (57 : UInt8), (97 : UInt8), (98 : UInt8), 
 (99 : UInt8), (100 : UInt8), (101 : UInt8), (102 : UInt8)] )).data.toList (Nat.toUInt8 (Int.toNat (↑(UInt8.toNat (byteAt i.fst.fst (2 : Int))) : Int))))) → inK IntKind.u8 (IntKind.wrap IntKind.u8 
 (bitsI BinOp.or IntKind.i64 (shlI IntKind.i64 (Lib.indexByte (ByteArray.mk ( #[(48 : UInt8), (49 : UInt8), (50 : UInt8), (51 : UInt8), (52 : UInt8), (53 : UInt8), (54 : UInt8), (55 : UInt8), (56 : 
 UInt8), (57 : UInt8), (97 : UInt8), (98 : UInt8), (99 : UInt8), (100 : UInt8), (101 : UInt8), (102 : UInt8)] )).data.toList (Nat.toUInt8 (Int.toNat (↑(UInt8.toNat (byteAt i.fst.fst (1 : Int))) : 
 Int)))) (4 : Int)) (Lib.indexByte (ByteArray.mk ( #[(48 : UInt8), (49 : UInt8), (50 : UInt8), (51 : UInt8), (52 : UInt8), (53 : UInt8), (54 : UInt8), (55 : UInt8), (56 : UInt8), (57 : UInt8), (97 : 
 UInt8), (98 : UInt8), (99 : UInt8), (100 : UInt8), (101 : UInt8), (102 : UInt8)] )).data.toList (Nat.toUInt8 (Int.toNat (↑(UInt8.toNat (byteAt i.fst.fst (2 : Int))) : Int)))))) → (0 : Int) ≤ boundV 
 (some (3 : Int)) (0 : Int) ∧ boundV (some (3 : Int)) (0 : Int) ≤ boundV none (↑(ByteArray.size i.fst.fst) : Int) ∧ boundV none (↑(ByteArray.size i.fst.fst) : Int) ≤ (↑(ByteArray.size i.fst.fst) : Int) 
 ∧ (List.length i.fst.snd.fst + List.length [UInt8.ofNat (Int.toNat (IntKind.wrap IntKind.u8 (bitsI BinOp.or IntKind.i64 (shlI IntKind.i64 (Lib.indexByte (ByteArray.mk ( #[(48 : UInt8), (49 : UInt8), 
 (50 : UInt8), (51 : UInt8), (52 : UInt8), (53 : UInt8), (54 : UInt8), (55 : UInt8), (56 : UInt8), (57 : UInt8), (97 : UInt8), (98 : UInt8), (99 : UInt8), (100 : UInt8), (101 : UInt8), (102 : UInt8)] 
 )).data.toList (Nat.toUInt8 (Int.toNat (↑(UInt8.toNat (byteAt i.fst.fst (1 : Int))) : Int)))) (4 : Int)) (Lib.indexByte (ByteArray.mk ( #[(48 : UInt8), (49 : UInt8), (50 : UInt8), (51 : UInt8), (52 : 
 UInt8), (53 : UInt8), (54 : UInt8), (55 : UInt8), (56 : UInt8), (57 : UInt8), (97 : UInt8), (98 : UInt8), (99 : UInt8), (100 : UInt8), (101 : UInt8), (102 : UInt8)] )).data.toList (Nat.toUInt8 
 (Int.toNat (↑(UInt8.toNat (byteAt i.fst.fst (2 : Int))) : Int)))))))]) * (1 : Nat) ≤ (140737488355328 : Nat) ∧ List.length i.fst.snd.fst + List.length [UInt8.ofNat (Int.toNat (IntKind.wrap IntKind.u8 
 (bitsI BinOp.or IntKind.i64 (shlI IntKind.i64 (Lib.indexByte (ByteArray.mk ( #[(48 : UInt8), (49 : UInt8), (50 : UInt8), (51 : UInt8), (52 : UInt8), (53 : UInt8), (54 : UInt8), (55 : UInt8), (56 : 
 UInt8), (57 : UInt8), (97 : UInt8), (98 : UInt8), (99 : UInt8), (100 : UInt8), (101 : UInt8), (102 : UInt8)] )).data.toList (Nat.toUInt8 (Int.toNat (↑(UInt8.toNat (byteAt i.fst.fst (1 : Int))) : 
 Int)))) (4 : Int)) (Lib.indexByte (ByteArray.mk ( #[(48 : UInt8), (49 : UInt8), (50 : UInt8), (51 : UInt8), (52 : UInt8), (53 : UInt8), (54 : UInt8), (55 : UInt8), (56 : UInt8), (57 : UInt8), (97 : 
 UInt8), (98 : UInt8), (99 : UInt8), (100 : UInt8), (101 : UInt8), (102 : UInt8)] )).data.toList (Nat.toUInt8 (Int.toNat (↑(UInt8.toNat (byteAt i.fst.fst (2 : Int))) : Int)))))))] ≤ 
 (9223372036854775807 : Nat) ∧ again ((ByteArray.extract i.fst.fst (3 : Nat) (Int.toNat (boundV none (↑(ByteArray.size i.fst.fst) : Int))), i.fst.snd.fst ++ [UInt8.ofNat (Int.toNat (IntKind.wrap 
 IntKind.u8 (bitsI BinOp.or IntKind.i64 (shlI IntKind.i64 (Lib.indexByte (ByteArray.mk ( #[(48 : UInt8), (49 : UInt8), (50 : UInt8), (51 : UInt8), (52 : UInt8), (53 : UInt8), (54 : UInt8), (55 : 
 UInt8), (56 : UInt8), (57 : UInt8), (97 : UInt8), (98 : UInt8), (99 : UInt8), (100 : UInt8), (101 : UInt8), (102 : UInt8)] )).data.toList (Nat.toUInt8 (Int.toNat (↑(UInt8.toNat (byteAt i.fst.fst (1 : 
 Int))) : Int)))) (4 : Int)) (Lib.indexByte (ByteArray.mk ( #[(48 : UInt8), (49 : UInt8), (50 : UInt8), (51 : UInt8), (52 : UInt8), (53 : UInt8), (54 : UInt8), (55 : UInt8), (56 : UInt8), (57 : UInt8), 
 (97 : UInt8), (98 : UInt8), (99 : UInt8), (100 : UInt8), (101 : UInt8), (102 : UInt8)] )).data.toList (Nat.toUInt8 (Int.toNat (↑(UInt8.toNat (byteAt i.fst.fst (2 : Int))) : Int)))))))], ()), 
 ())))))))) ((↑(ByteArray.size (bstr i.fst.snd.fst)) : Int) ≤ (1000000000 : Int) ∧ (ByteArray.size (quoteN (bstr i.fst.snd.fst)) ≤ (9223372036854775807 : Nat) → br (!sEq (quoteN (bstr i.fst.snd.fst)) 
 s) (Q (SV.tup [S1.c (Cl.k (Value.string (ByteArray.mk ( #[] )))), S1.c (Cl.k (Value.int IntKind.i64 (240 : Int)))]) []) (Q (SV.tup [S1.c (Cl.k (Value.string (bstr i.fst.snd.fst))), S1.c (Cl.k 
 (Value.int IntKind.i64 (0 : Int)))]) [])))) ((ByteArray.extract s (1 : Nat) (Int.toNat (boundV (some ((↑(ByteArray.size s) : Int) - (1 : Int))) (↑(ByteArray.size s) : Int))), [], ()), ()))))
set_option maxRecDepth 1000000 in
theorem vc_unquote_eq (s : ByteArray) (Q : SV → List HO → Prop) : vFun XD47 ⟨[(7, ⟨[(6, .str), (5, .own 5 .u8)], []⟩)], []⟩ Tryd.f10 [.str s] [] Q = vc_unquote s Q := by kernel_rfl
set_option maxRecDepth 100000 in
theorem w_unquote : ∀ args H Q, c_unquote args H Q → Wp Inv Tryd.prog 10 args H Q := by
  intro args H Q h
  unfold c_unquote at h
  split at h
  · rename_i s
    refine Wp.enter (X := XD47) XD47_ok ⟨[(7, ⟨[(6, .str), (5, .own 5 .u8)], []⟩)], []⟩ (fn := Tryd.f10) (by kernel_rfl) ?_
    have hv := vc_unquote_eq s Q
    rw [show vFun _ _ _ _ _ _ = _ from hv]
    unfold vc_unquote
    clear hv
    obtain ⟨hb, h⟩ := h
    intro _
    unfold unqD at h
    refine ⟨by unfold inK; omega, ?_⟩
    refine @br_of _ _ _ ?_ ?_
    · intro c1
      rw [c1, Bool.true_or, if_pos rfl] at h
      exact h
    · intro c1
      have d1 : ¬ (s.size : Int) - 1 < 1 := by simpa using c1
      refine ⟨by decide, by omega, ?_⟩
      refine @br_of _ _ _ ?_ ?_
      · intro c2
        rw [c1, c2, Bool.true_or, Bool.or_true, if_pos rfl] at h
        exact h
      · intro c2
        refine ⟨by omega, by omega, ?_⟩
        refine @br_of _ _ _ ?_ ?_
        · intro c3
          rw [c1, c2, c3, Bool.or_true, Bool.or_true, if_pos rfl] at h
          exact h
        · intro c3
          rw [c1, c2, c3, Bool.or_false, Bool.or_false, if_neg (by decide)] at h
          refine ⟨by decide, by show (1 : Int) ≤ (s.size : Int) - 1; omega, by show (s.size : Int) - 1 ≤ s.size; omega, ?_⟩
          have hz0 : (s.extract 1 (Int.toNat (boundV (some ((s.size : Int) - 1)) (s.size : Int)))).data.toList = (s.data.toList.drop 1).take (s.size - 2) := by
            rw [ext_lst]
            show ((s.data.toList.take ((s.size : Int) - 1).toNat).drop 1) = _
            rw [List.drop_take]
            congr 1
            omega
          generalize (s.data.toList.drop 1).take (s.size - 2) = L0 at h hz0
          have hL0 : L0.length ≤ s.size := by rw [← hz0, ext_lst, List.length_drop, List.length_take, ← sz_list]; omega
          refine LoopP.intro (fun i => (uD i.1.1.data.toList).map (i.1.2.1 ++ ·) = uD L0 ∧ i.1.1.size + i.1.2.1.length ≤ s.size) (fun i => i.1.1.size) ⟨?_, ?_⟩ ?_
          · refine Eq.trans (congrArg (fun y => (uD y).map (([] : List UInt8) ++ ·)) hz0) ?_
            cases uD L0 <;> rfl
          · have : (s.extract 1 (Int.toNat (boundV (some ((s.size : Int) - 1)) (s.size : Int)))).size + 0 ≤ s.size := by rw [sz_list, hz0]; exact hL0
            exact this
          rintro ⟨⟨z, out, _⟩, _⟩ ⟨h1, h2⟩
          simp only at h1 h2 ⊢
          have hzl := sz_list z
          refine @br_of _ _ _ ?_ ?_
          · intro e1
            rw [sEq_nil] at e1
            cases hl : z.data.toList with
            | nil => rw [hl] at e1; cases e1
            | cons c q =>
              rw [hl, List.length_cons] at hzl
              have b0 : byteAt z 0 = c := byteAt_get (m := 0) (by rw [hl]; rfl)
              have x1 : (z.extract 1 (Int.toNat (boundV none (z.size : Int)))).data.toList = q := by
                rw [ext_lst]
                show (z.data.toList.take z.size).drop 1 = q
                rw [List.take_of_length_le (by rw [← sz_list]; exact Nat.le_refl _), hl]; rfl
              rw [hl] at h1
              refine ⟨by decide, by omega, ?_⟩
              rw [b0]
              refine @br_of _ _ _ ?_ ?_
              · intro e2
                have e2 : (c != 37) = true := by
                  refine bne_iff_ne.2 fun e => ?_
                  subst e; exact absurd e2 (by decide)
                rw [uD_raw e2] at h1
                refine ⟨by decide, by omega, by decide, by show (1 : Int) ≤ z.size; omega, by show (z.size : Int) ≤ z.size; omega, by show (out.length + 1) * 1 ≤ _; omega, by show out.length + 1 ≤ _; omega, ⟨?_, ?_⟩, ?_⟩
                · rw [x1, u8_back, ← h1]
                  cases uD q <;> simp
                · rw [sz_list, x1, List.length_append]
                  show q.length + (out.length + 1) ≤ _
                  omega
                · rw [sz_list, x1]; omega
              · intro e2
                have e2 : (c != 37) = false := by
                  refine bne_eq_false_iff_eq.2 (UInt8.toNat_inj.1 ?_)
                  have : (c.toNat : Int) = 37 := by simpa using e2
                  show c.toNat = 37
                  omega
                refine @br_of _ _ _ ?_ ?_
                · intro e3
                  have e3 : (z.size : Int) < 3 := by simpa using e3
                  have hn : uD (c :: q) = none := by
                    unfold uD
                    rw [if_neg (by rw [e2]; decide)]
                    match q, hzl with
                    | [], _ => rfl
                    | [_], _ => rfl
                    | _ :: _ :: _, hzl => simp only [List.length_cons] at hzl; omega
                  rw [hn] at h1
                  rw [← h1] at h
                  exact h
                · intro e3
                  have e3 : ¬ (z.size : Int) < 3 := by simpa using e3
                  match q, hzl, hl, h1 with
                  | [], hzl, _, _ => simp only [List.length_nil] at hzl; omega
                  | [_], hzl, _, _ => simp only [List.length_cons, List.length_nil] at hzl; omega
                  | a :: b :: q, hzl, hl, h1 =>
                    have b1 : byteAt z 1 = a := byteAt_get (m := 1) (by rw [hl]; rfl)
                    have b2 : byteAt z 2 = b := byteAt_get (m := 2) (by rw [hl]; rfl)
                    have x3 : (z.extract 3 (Int.toNat (boundV none (z.size : Int)))).data.toList = q := by
                      rw [ext_lst]
                      show (z.data.toList.take z.size).drop 3 = q
                      rw [List.take_of_length_le (by rw [← sz_list]; exact Nat.le_refl _), hl]; rfl
                    simp only [List.length_cons] at hzl
                    refine ⟨by decide, by omega, by decide, by omega, ?_⟩
                    rw [b1, b2, u8_nat, u8_nat]
                    intro _ _
                    have hu : uD (c :: a :: b :: q) = if decide (hexI a < 0) || decide (hexI b < 0) then none else (uD q).map (u16 a b :: ·) := by
                      exact uD_hex e2
                    rw [hu] at h1
                    refine @br_of _ _ _ ?_ ?_
                    · intro e4
                      have e4 : decide (hexI a < 0) = true := e4
                      rw [e4, Bool.true_or, if_pos rfl] at h1
                      rw [← h1] at h
                      exact h
                    · intro e4
                      have e4 : decide (hexI a < 0) = false := e4
                      refine @br_of _ _ _ ?_ ?_
                      · intro e5
                        have e5 : decide (hexI b < 0) = true := e5
                        rw [e5, Bool.or_true, if_pos rfl] at h1
                        rw [← h1] at h
                        exact h
                      · intro e5
                        have e5 : decide (hexI b < 0) = false := e5
                        rw [e4, e5, Bool.or_false, if_neg (by decide)] at h1
                        have hor := or_u16 (a := a) (b := b) (by simpa using e4) (by simpa using e5)
                        refine ⟨by decide, ?_⟩
                        intro _ _ _
                        refine ⟨by show (0 : Int) ≤ 3; decide, by show (3 : Int) ≤ z.size; omega, by show (z.size : Int) ≤ z.size; omega, by show (out.length + 1) * 1 ≤ _; omega, by show out.length + 1 ≤ _; omega, ⟨?_, ?_⟩, ?_⟩
                        · rw [x3, ← h1]
                          refine Eq.trans ?_ (show (uD q).map (out ++ [u16 a b] ++ ·) = _ from by cases uD q <;> simp)
                          exact congrArg (fun y => (uD q).map (out ++ [y] ++ ·)) hor
                        · rw [sz_list, x3, List.length_append]
                          show q.length + (out.length + 1) ≤ _
                          omega
                        · rw [sz_list, x3]; omega
          · intro e1
            rw [sEq_nil] at e1
            have hl : z.data.toList = [] := by
              cases hl : z.data.toList with
              | nil => rfl
              | cons _ _ => rw [hl] at e1; cases e1
            rw [hl] at h1
            have hu : uD L0 = some out := by
              rw [← h1]
              show some (out ++ []) = _
              rw [List.append_nil]
            rw [hu] at h
            simp only at h
            have hbl : (bstr out).size = out.length := by rw [sz_list, bstr_lst]
            refine ⟨by rw [hbl]; omega, ?_⟩
            intro _
            refine @br_of _ _ _ ?_ ?_
            · intro e2
              have e2 : sEq (quoteN (bstr out)) s = false := by simpa using e2
              simp only [e2, Bool.false_eq_true, if_false] at h
              exact h
            · intro e2
              have e2 : sEq (quoteN (bstr out)) s = true := by simpa using e2
              simp only [e2, if_true] at h
              exact h
  · exact h.elim
end Go.Proofs

namespace Go.Proofs
open Go Go.Lm Go.RowKit
def c_digit : Ct
  | [.v (.c (.k (.int .u8 c)))], [], Q => Q (.k (.int .u8 (digR c))) []
  | _, _, _ => False
noncomputable def XD58 : Vx := { P := Tryd.prog, ct := [(10, c_unquote), (13, c_quoteR), (27, c_decode), (12, c_quote), (28, c_itselfR), (26, c_itself), (24, c_hasPre), (39, c_hasPre0), (22, c_indexByte), (25, c_runeLen)], ty := tyTab, hold := [] }
theorem XD58_ok : CtOk Inv Tryd.prog XD58.ct := CtOk.cons w_unquote (CtOk.cons w_quoteR (CtOk.cons w_decode (CtOk.cons w_quote (CtOk.cons w_itselfR (CtOk.cons w_itself (CtOk.cons w_hasPre (CtOk.cons w_hasPre0 (CtOk.cons w_indexByte (CtOk.cons w_runeLen (CtOk.nil _ _))))))))))
def vc_digit : (Int) → (SV → List HO → Prop) → Prop :=
 fun c Q => inK IntKind.u8 c → LoopP (fun i again => br (decide (i.fst.fst < (16 : Int))) ((0 : Int) ≤ i.fst.fst ∧ i.fst.fst < (↑(16 : Nat) : Int) ∧ br ((↑(UInt8.toNat (byteAt (ByteArray.mk ( #[(48 : 
 UInt8), (49 : UInt8), (50 : UInt8), (51 : UInt8), (52 : UInt8), (53 : UInt8), (54 : UInt8), (55 : UInt8), (56 : UInt8), (57 : UInt8), (97 : UInt8), (98 : UInt8), (99 : UInt8), (100 : UInt8), (101 : 
 UInt8), (102 : UInt8)] )) i.fst.fst)) : Int) == c) (inK IntKind.u8 (IntKind.wrap IntKind.u8 i.fst.fst) → Q (SV.v (S1.c (Cl.k (Value.int IntKind.u8 (IntKind.wrap IntKind.u8 i.fst.fst))))) []) (inK 
 IntKind.i64 (i.fst.fst + (1 : Int)) ∧ again ((i.fst.fst + (1 : Int), ()), ()))) (Q (SV.v (S1.c (Cl.k (Value.int IntKind.u8 (0 : Int))))) [])) (((0 : Int), ()), ())
set_option maxRecDepth 1000000 in
theorem vc_digit_eq (c : Int) (Q : SV → List HO → Prop) : vFun XD58 ⟨[(3, ⟨[(3, .int .i64)], []⟩)], []⟩ Tryd.f23 [.k (.int .u8 c)] [] Q = vc_digit c Q := by kernel_rfl
set_option maxRecDepth 100000 in
theorem w_digit : ∀ args H Q, c_digit args H Q → Wp Inv Tryd.prog 23 args H Q := by
  intro args H Q h
  unfold c_digit at h
  split at h
  · rename_i c
    refine Wp.enter (X := XD58) XD58_ok ⟨[(3, ⟨[(3, .int .i64)], []⟩)], []⟩ (fn := Tryd.f23) (by kernel_rfl) ?_
    have hv := vc_digit_eq c Q
    rw [show vFun _ _ _ _ _ _ = _ from hv]
    unfold vc_digit
    clear hv
    intro hc0
    have hc0 : 0 ≤ c ∧ c ≤ 255 := hc0
    refine LoopP.intro (fun i => 0 ≤ i.1.1 ∧ i.1.1 ≤ 16 ∧ ∀ j : Nat, (j : Int) < i.1.1 → ((byteAt digS (j : Int)).toNat : Int) ≠ c) (fun i => 16 - i.1.1.toNat) ⟨by simp, by simp, fun j hj => by simp only at hj; omega⟩ ?_
    rintro ⟨⟨i, _⟩, _⟩ ⟨h0, h1, h2⟩
    simp only at h0 h1 h2 ⊢
    refine @br_of _ _ _ ?_ ?_
    · intro e1
      have e1 : i < 16 := by simpa using e1
      refine ⟨h0, e1, ?_⟩
      obtain ⟨m, rfl⟩ : ∃ m : Nat, i = m := ⟨i.toNat, by omega⟩
      refine @br_of _ _ _ ?_ ?_
      · intro e2
        have e2 : ((byteAt digS (m : Int)).toNat : Int) = c := by simpa using e2
        have hd := dig_hit ⟨m, by omega⟩
        have hc : c.toNat.toUInt8 = byteAt digS (m : Int) := by rw [← e2, u8_nat]
        have hr : digR c = m := by
          unfold digR
          rw [hc, if_neg (by rw [hd]; simp), hd]
        have hw : IntKind.wrap .u8 (m : Int) = (m : Int) := wrap_self (k := .u8) (by show (0 : Int) ≤ m ∧ (m : Int) ≤ 255; omega)
        intro _
        rw [hw, ← hr]
        exact h
      · intro e2
        have e2 : ¬ ((byteAt digS (m : Int)).toNat : Int) = c := by simpa using e2
        refine ⟨by unfold inK; omega, ⟨by omega, by omega, fun j hj => ?_⟩, by omega⟩
        by_cases hjm : j = m
        · rw [hjm]; exact e2
        · exact h2 j (by omega)
    · intro e1
      have e1 : ¬ i < 16 := by simpa using e1
      have hm := dig_miss ⟨c.toNat, by omega⟩ fun j hj => h2 j.val (by have := j.isLt; omega) (by rw [hj]; show ((c.toNat : Nat) : Int) = c; omega)
      have hr : digR c = 0 := by
        unfold digR
        rw [if_pos (by rw [show c.toNat.toUInt8 = UInt8.ofNat c.toNat from rfl, hm]; decide)]
      rw [hr] at h
      exact h
  · exact h.elim
def c_unquoteR : Ct
  | [.v (.c (.k (.string s)))], [], Q => ((s.size : Int) ≤ 1000000000 ∧ Q (.tup [.c (.k (.string (unqR s).1)), .c (.k (.int .i64 (unqR s).2))]) [])
  | _, _, _ => False
noncomputable def XD59 : Vx := { P := Tryd.prog, ct := [(23, c_digit), (10, c_unquote), (13, c_quoteR), (27, c_decode), (12, c_quote), (28, c_itselfR), (26, c_itself), (24, c_hasPre), (39, c_hasPre0), (22, c_indexByte), (25, c_runeLen)], ty := tyTab, hold := [] }
theorem XD59_ok : CtOk Inv Tryd.prog XD59.ct := CtOk.cons w_digit (CtOk.cons w_unquote (CtOk.cons w_quoteR (CtOk.cons w_decode (CtOk.cons w_quote (CtOk.cons w_itselfR (CtOk.cons w_itself (CtOk.cons w_hasPre (CtOk.cons w_hasPre0 (CtOk.cons w_indexByte (CtOk.cons w_runeLen (CtOk.nil _ _)))))))))))
def vc_unquoteR : (ByteArray) → (SV → List HO → Prop) → Prop :=
 fun s Q => ByteArray.size s ≤ (9223372036854775807 : Nat) → br (decide ((↑(ByteArray.size s) : Int) < (2 : Int))) (Q (SV.tup [S1.c (Cl.k (Value.string (ByteArray.mk ( #[] )))), S1.c (Cl.k (Value.int 
 IntKind.i64 (240 : Int)))]) []) (inK IntKind.i64 ((↑(ByteArray.size s) : Int) - (1 : Int)) ∧ (0 : Int) ≤ boundV (some (1 : Int)) (0 : Int) ∧ boundV (some (1 : Int)) (0 : Int) ≤ boundV (some 
 ((↑(ByteArray.size s) : Int) - (1 : Int))) (↑(ByteArray.size s) : Int) ∧ boundV (some ((↑(ByteArray.size s) : Int) - (1 : Int))) (↑(ByteArray.size s) : Int) ≤ (↑(ByteArray.size s) : Int) ∧ LoopP (fun 
 i again => br (decide (i.fst.fst < (↑(ByteArray.size (ByteArray.extract s (1 : Nat) (Int.toNat (boundV (some ((↑(ByteArray.size s) : Int) - (1 : Int))) (↑(ByteArray.size s) : Int))))) : Int))) ((0 : 
 Int) ≤ i.fst.fst ∧ i.fst.fst < (↑(ByteArray.size (ByteArray.extract s (1 : Nat) (Int.toNat (boundV (some ((↑(ByteArray.size s) : Int) - (1 : Int))) (↑(ByteArray.size s) : Int))))) : Int) ∧ br 
 ((↑(UInt8.toNat (byteAt (ByteArray.extract s (1 : Nat) (Int.toNat (boundV (some ((↑(ByteArray.size s) : Int) - (1 : Int))) (↑(ByteArray.size s) : Int)))) i.fst.fst)) : Int) == (37 : Int)) (inK 
 IntKind.i64 ((↑(ByteArray.size (ByteArray.extract s (1 : Nat) (Int.toNat (boundV (some ((↑(ByteArray.size s) : Int) - (1 : Int))) (↑(ByteArray.size s) : Int))))) : Int) - i.fst.fst) ∧ br (decide 
 ((↑(ByteArray.size (ByteArray.extract s (1 : Nat) (Int.toNat (boundV (some ((↑(ByteArray.size s) : Int) - (1 : Int))) (↑(ByteArray.size s) : Int))))) : Int) - i.fst.fst > (2 : Int))) (inK IntKind.i64 
 (i.fst.fst + (1 : Int)) ∧ (0 : Int) ≤ i.fst.fst + (1 : Int) ∧ i.fst.fst + (1 : Int) < (↑(ByteArray.size (ByteArray.extract s (1 : Nat) (Int.toNat (boundV (some ((↑(ByteArray.size s) : Int) - (1 : 
 Int))) (↑(ByteArray.size s) : Int))))) : Int) ∧ inK IntKind.i64 (i.fst.fst + (2 : Int)) ∧ (0 : Int) ≤ i.fst.fst + (2 : Int) ∧ i.fst.fst + (2 : Int) < (↑(ByteArray.size (ByteArray.extract s (1 : Nat) 
 (Int.toNat (boundV (some ((↑(ByteArray.size s) : Int) - (1 : Int))) (↑(ByteArray.size s) : Int))))) : Int) ∧ (inK IntKind.u8 (digR (↑(UInt8.toNat (byteAt (ByteArray.extract s (1 : Nat) (Int.toNat 
 (boundV (some ((↑(ByteArray.size s) : Int) - (1 : Int))) (↑(ByteArray.size s) : Int)))) (i.fst.fst + (1 : Int)))) : Int)) → inK IntKind.u8 (IntKind.wrap IntKind.u8 ((16 : Int) * digR (↑(UInt8.toNat 
 (byteAt (ByteArray.extract s (1 : Nat) (Int.toNat (boundV (some ((↑(ByteArray.size s) : Int) - (1 : Int))) (↑(ByteArray.size s) : Int)))) (i.fst.fst + (1 : Int)))) : Int))) → inK IntKind.u8 (digR 
 (↑(UInt8.toNat (byteAt (ByteArray.extract s (1 : Nat) (Int.toNat (boundV (some ((↑(ByteArray.size s) : Int) - (1 : Int))) (↑(ByteArray.size s) : Int)))) (i.fst.fst + (2 : Int)))) : Int)) → inK 
 IntKind.u8 (IntKind.wrap IntKind.u8 (IntKind.wrap IntKind.u8 ((16 : Int) * digR (↑(UInt8.toNat (byteAt (ByteArray.extract s (1 : Nat) (Int.toNat (boundV (some ((↑(ByteArray.size s) : Int) - (1 : 
 Int))) (↑(ByteArray.size s) : Int)))) (i.fst.fst + (1 : Int)))) : Int)) + digR (↑(UInt8.toNat (byteAt (ByteArray.extract s (1 : Nat) (Int.toNat (boundV (some ((↑(ByteArray.size s) : Int) - (1 : Int))) 
 (↑(ByteArray.size s) : Int)))) (i.fst.fst + (2 : Int)))) : Int))) → (List.length i.fst.snd.fst + List.length [UInt8.ofNat (Int.toNat (IntKind.wrap IntKind.u8 (IntKind.wrap IntKind.u8 ((16 : Int) * 
 digR (↑(UInt8.toNat (byteAt (ByteArray.extract s (1 : Nat) (Int.toNat (boundV (some ((↑(ByteArray.size s) : Int) - (1 : Int))) (↑(ByteArray.size s) : Int)))) (i.fst.fst + (1 : Int)))) : Int)) + digR 
 (↑(UInt8.toNat (byteAt (ByteArray.extract s (1 : Nat) (Int.toNat (boundV (some ((↑(ByteArray.size s) : Int) - (1 : Int))) (↑(ByteArray.size s) : Int)))) (i.fst.fst + (2 : Int)))) : Int))))]) * (1 : 
 Nat) ≤ (140737488355328 : Nat) ∧ List.length i.fst.snd.fst + List.length [UInt8.ofNat (Int.toNat (IntKind.wrap IntKind.u8 (IntKind.wrap IntKind.u8 ((16 : Int) * digR (↑(UInt8.toNat (byteAt 
 (ByteArray.extract s (1 : Nat) (Int.toNat (boundV (some ((↑(ByteArray.size s) : Int) - (1 : Int))) (↑(ByteArray.size s) : Int)))) (i.fst.fst + (1 : Int)))) : Int)) + digR (↑(UInt8.toNat (byteAt 
 (ByteArray.extract s (1 : Nat) (Int.toNat (boundV (some ((↑(ByteArray.size s) : Int) - (1 : Int))) (↑(ByteArray.size s) : Int)))) (i.fst.fst + (2 : Int)))) : Int))))] ≤ (9223372036854775807 : Nat) ∧ 
 inK IntKind.i64 (i.fst.fst + (2 : Int)) ∧ inK IntKind.i64 (i.fst.fst + (2 : Int) + (1 : Int)) ∧ again ((i.fst.fst + (2 : Int) + (1 : Int), i.fst.snd.fst ++ [UInt8.ofNat (Int.toNat (IntKind.wrap 
 IntKind.u8 (IntKind.wrap IntKind.u8 ((16 : Int) * digR (↑(UInt8.toNat (byteAt (ByteArray.extract s (1 : Nat) (Int.toNat (boundV (some ((↑(ByteArray.size s) : Int) - (1 : Int))) (↑(ByteArray.size s) : 
 Int)))) (i.fst.fst + (1 : Int)))) : Int)) + digR (↑(UInt8.toNat (byteAt (ByteArray.extract s (1 : Nat) (Int.toNat (boundV (some ((↑(ByteArray.size s) : Int) - (1 : Int))) (↑(ByteArray.size s) : 
 Int)))) (i.fst.fst + (2 : Int)))) : Int))))], ()), ()))) ((0 : Int) ≤ i.fst.fst ∧ i.fst.fst < (↑(ByteArray.size (ByteArray.extract s (1 : Nat) (Int.toNat (boundV (some ((↑(ByteArray.size s) : Int) - 
 (1 : Int))) (↑(ByteArray.size s) : Int))))) : Int) ∧ (List.length i.fst.snd.fst + List.length [UInt8.ofNat (Int.toNat (↑(UInt8.toNat (byteAt (ByteArray.extract s (1 : Nat) (Int.toNat (boundV (some 
 ((↑(ByteArray.size s) : Int) - (1 : Int))) (↑(ByteArray.size s) : Int)))) i.fst.fst)) : Int))]) * (1 : Nat) ≤ (140737488355328 : Nat) ∧ List.length i.fst.snd.fst + List.length [UInt8.ofNat (Int.toNat 
 (↑(UInt8.toNat (byteAt (ByteArray.extract s (1 : Nat) (Int.toNat (boundV (some ((↑(ByteArray.size s) : Int) - (1 : Int))) (↑(ByteArray.size s) : Int)))) i.fst.fst)) : Int))] ≤ (9223372036854775807 : 
 Nat) ∧ inK IntKind.i64 (i.fst.fst + (1 : Int)) ∧ again ((i.fst.fst + (1 : Int), i.fst.snd.fst ++ [UInt8.ofNat (Int.toNat (↑(UInt8.toNat (byteAt (ByteArray.extract s (1 : Nat) (Int.toNat (boundV (some 
 ((↑(ByteArray.size s) : Int) - (1 : Int))) (↑(ByteArray.size s) : Int)))) i.fst.fst)) : Int))], ()), ()))) ((0 : Int) ≤ i.fst.fst ∧ i.fst.fst < (↑(ByteArray.size (ByteArray.extract s (1 : Nat) 
 (Int.toNat (boundV (some ((↑(ByteArray.size s) : Int) - (1 : Int))) (↑(ByteArray.size s) : Int))))) : Int) ∧ (List.length i.fst.snd.fst + List.length [UInt8.ofNat (Int.toNat (↑(UInt8.toNat (byteAt 
 (ByteArray.extract s (1 : Nat) (Int.toNat (boundV (some ((↑(ByteArray.size s) : Int) - (1 : Int))) (↑(ByteArray.size s) : Int)))) i.fst.fst)) : Int))]) * (1 : Nat) ≤ (140737488355328 : Nat) ∧ 
 List.length i.fst.snd.fst + List.length [UInt8.ofNat (Int.toNat (↑(UInt8.toNat (byteAt (ByteArray.extract s (1 : Nat) (Int.toNat (boundV (some ((↑(ByteArray.size s) : Int) - (1 : Int))) 
 (↑(ByteArray.size s) : Int)))) i.fst.fst)) : Int))] ≤ (9223372036854775807 : Nat) ∧ inK IntKind.i64 (i.fst.fst + (1 : Int)) ∧ again ((i.fst.fst + (1 : Int), i.fst.snd.fst ++ [UInt8.ofNat (Int.toNat 
 (↑(UInt8.toNat (byteAt (ByteArray.extract s (1 : Nat) (Int.toNat (boundV (some ((↑(ByteArray.size s) : Int) - (1 : Int))) (↑(ByteArray.size s) : Int)))) i.fst.fst)) : Int))], ()), ()))) 
 ((↑(ByteArray.size (bstr i.fst.snd.fst)) : Int) ≤ (1000000000 : Int) ∧ (ByteArray.size (quoteN (bstr i.fst.snd.fst)) ≤ (9223372036854775807 : Nat) → br (!sEq (quoteN (bstr i.fst.snd.fst)) s) (Q 
 (SV.tup [S1.c (Cl.k (Value.string (ByteArray.mk ( #[] )))), S1.c (Cl.k (Value.int IntKind.i64 (240 : Int)))]) []) (Q (SV.tup [S1.c (Cl.k (Value.string (bstr i.fst.snd.fst))), S1.c (Cl.k (Value.int 
 IntKind.i64 (0 : Int)))]) [])))) (((0 : Int), [], ()), ()))
set_option maxRecDepth 1000000 in
theorem vc_unquoteR_eq (s : ByteArray) (Q : SV → List HO → Prop) : vFun XD59 ⟨[(7, ⟨[(6, .int .i64), (5, .own 5 .u8)], []⟩)], []⟩ Tryd.f11 [.str s] [] Q = vc_unquoteR s Q := by kernel_rfl
set_option maxRecDepth 100000 in
theorem w_unquoteR : ∀ args H Q, c_unquoteR args H Q → Wp Inv Tryd.prog 11 args H Q := by
  intro args H Q h
  unfold c_unquoteR at h
  split at h
  · rename_i s
    refine Wp.enter (X := XD59) XD59_ok ⟨[(7, ⟨[(6, .int .i64), (5, .own 5 .u8)], []⟩)], []⟩ (fn := Tryd.f11) (by kernel_rfl) ?_
    have hv := vc_unquoteR_eq s Q
    rw [show vFun _ _ _ _ _ _ = _ from hv]
    unfold vc_unquoteR
    clear hv
    obtain ⟨hb, h⟩ := h
    intro _
    unfold unqR at h
    refine @br_of _ _ _ ?_ ?_
    · intro c1
      rw [c1, if_pos rfl] at h
      exact h
    · intro c1
      rw [c1, if_neg (by decide)] at h
      have d1 : ¬ (s.size : Int) < 2 := by simpa using c1
      refine ⟨by unfold inK; omega, by decide, by show (1 : Int) ≤ (s.size : Int) - 1; omega, by show (s.size : Int) - 1 ≤ s.size; omega, ?_⟩
      have hz0 : (s.extract 1 (Int.toNat (boundV (some ((s.size : Int) - 1)) (s.size : Int)))).data.toList = (s.data.toList.drop 1).take (s.size - 2) := by
        rw [ext_lst]
        show ((s.data.toList.take ((s.size : Int) - 1).toNat).drop 1) = _
        rw [List.drop_take]
        congr 1
        omega
      rw [← hz0] at h
      have hzs : (s.extract 1 (Int.toNat (boundV (some ((s.size : Int) - 1)) (s.size : Int)))).size ≤ s.size := by rw [sz_list, hz0, List.length_take, List.length_drop, ← sz_list]; omega
      generalize (s.extract 1 (Int.toNat (boundV (some ((s.size : Int) - 1)) (s.size : Int)))) = z at h hzs ⊢
      clear hz0
      have hzl := sz_list z
      refine LoopP.intro (fun i => 0 ≤ i.1.1 ∧ i.1.1 ≤ z.size ∧ i.1.2.1 ++ rU (z.data.toList.drop i.1.1.toNat) = rU z.data.toList ∧ (i.1.2.1.length : Int) ≤ i.1.1) (fun i => z.size - i.1.1.toNat) ⟨by decide, by simp, by simp, by simp⟩ ?_
      rintro ⟨⟨i, out, _⟩, _⟩ ⟨h0, h1, h2, h3⟩
      simp only at h0 h1 h2 h3 ⊢
      refine @br_of _ _ _ ?_ ?_
      · intro e1
        have e1 : i < z.size := by simpa using e1
        have hd := drop_byte (s := z) (k := i) h0 e1
        rw [show (i + 1).toNat = i.toNat + 1 by omega] at hd
        have hlen : (z.data.toList.drop (i.toNat + 1)).length = z.size - (i.toNat + 1) := by rw [List.length_drop, ← sz_list]
        rw [hd] at h2
        refine ⟨h0, e1, ?_⟩
        have raw : ∀ (he : rU (byteAt z i :: z.data.toList.drop (i.toNat + 1)) = byteAt z i :: rU (z.data.toList.drop (i.toNat + 1))), (out ++ [UInt8.ofNat (Int.toNat ((byteAt z i).toNat : Int))]) ++ rU (z.data.toList.drop (i + 1).toNat) = rU z.data.toList := by
          intro he
          rw [he] at h2
          rw [u8_back, List.append_assoc, show (i + 1).toNat = i.toNat + 1 by omega]
          exact h2
        refine @br_of _ _ _ ?_ ?_
        · intro e2
          have e2 : (byteAt z i == 37) = true := by
            refine beq_iff_eq.2 (UInt8.toNat_inj.1 ?_)
            have : ((byteAt z i).toNat : Int) = 37 := by simpa using e2
            show (byteAt z i).toNat = 37
            omega
          refine ⟨by unfold inK; omega, ?_⟩
          refine @br_of _ _ _ ?_ ?_
          · intro e3
            have e3 : (z.size : Int) - i > 2 := by simpa using e3
            have hd1 := drop_byte (s := z) (k := i + 1) (by omega) (by omega)
            have hd2 := drop_byte (s := z) (k := i + 2) (by omega) (by omega)
            rw [show (i + 1).toNat = i.toNat + 1 by omega, show (i + 1 + 1).toNat = i.toNat + 2 by omega] at hd1
            rw [show (i + 2).toNat = i.toNat + 2 by omega, show (i + 2 + 1).toNat = i.toNat + 2 + 1 by omega] at hd2
            rw [hd1, hd2, rU_hex e2] at h2
            have hw := d16_eq (byteAt z (i + 1)) (byteAt z (i + 2))
            refine ⟨by unfold inK; omega, by omega, by omega, by unfold inK; omega, by omega, by omega, fun _ _ _ _ => ⟨by show (out.length + 1) * 1 ≤ _; omega, by show out.length + 1 ≤ _; omega, by unfold inK; omega, by unfold inK; omega, ⟨by omega, by omega, ?_, ?_⟩, by omega⟩⟩
            · rw [show (i + 2 + 1).toNat = i.toNat + 2 + 1 by omega]
              refine Eq.trans ?_ h2
              refine Eq.trans (congrArg (fun x => (out ++ [x]) ++ rU (z.data.toList.drop (i.toNat + 2 + 1))) hw) ?_
              show (out ++ [_]) ++ _ = _
              rw [List.append_assoc]; rfl
            · rw [List.length_append]
              show ((out.length + 1 : Nat) : Int) ≤ _
              omega
          · intro e3
            have e3 : ¬ (z.size : Int) - i > 2 := by simpa using e3
            refine ⟨h0, e1, by show (out.length + 1) * 1 ≤ _; omega, by show out.length + 1 ≤ _; omega, by unfold inK; omega, ⟨by omega, by omega, raw (rU_few (by rw [hlen]; omega)), ?_⟩, by omega⟩
            rw [List.length_append]
            show ((out.length + 1 : Nat) : Int) ≤ _
            omega
        · intro e2
          have e2 : (byteAt z i == 37) = false := by
            refine beq_eq_false_iff_ne.2 fun e => ?_
            rw [e] at e2
            exact absurd e2 (by decide)
          refine ⟨h0, e1, by show (out.length + 1) * 1 ≤ _; omega, by show out.length + 1 ≤ _; omega, by unfold inK; omega, ⟨by omega, by omega, raw (rU_raw e2), ?_⟩, by omega⟩
          rw [List.length_append]
          show ((out.length + 1 : Nat) : Int) ≤ _
          omega
      · intro e1
        have e1 : ¬ i < z.size := by simpa using e1
        rw [List.drop_of_length_le (by rw [← sz_list]; omega)] at h2
        have h2 : out = rU z.data.toList := by rw [← h2]; show out = out ++ []; rw [List.append_nil]
        rw [← h2] at h
        have hbl : (bstr out).size = out.length := by rw [sz_list, bstr_lst]
        refine ⟨by rw [hbl]; omega, ?_⟩
        intro _
        refine @br_of _ _ _ ?_ ?_
        · intro e2
          have e2 : sEq (quoteN (bstr out)) s = false := by simpa using e2
          rw [e2, if_neg (by decide)] at h
          exact h
        · intro e2
          have e2 : sEq (quoteN (bstr out)) s = true := by simpa using e2
          rw [e2, if_pos rfl] at h
          exact h
  · exact h.elim
end Go.Proofs

namespace Go.Proofs
open Go Go.Lm Go.RowKit
theorem inv_pow {W : Base} {w : World} (hI : Inv W) (h : Below W.n W.w w) : Lib.TabIs Tryd.prog w "internal/strconv.uint64pow10" .u64 Lib.pow10Tab := by
  have h1 := hI.pow
  unfold Lib.TabIs World.var? at h1 ⊢
  rw [Option.bind_eq_some_iff] at h1 ⊢
  obtain ⟨g, hg, h2⟩ := h1
  refine ⟨g, hg, ?_⟩
  have hlt : g < W.w.heap.size := by
    rcases Nat.lt_or_ge g W.w.heap.size with h' | h'
    · exact h'
    · rw [Array.getElem?_eq_none h'] at h2; cases h2
  rw [h.block g hlt]
  exact h2
theorem inv_max {W : Base} {w : World} (hI : Inv W) (h : Below W.n W.w w) : ∃ m, w.cell? ⟨2, 0, none⟩ = some (.int .i64 m) := by
  obtain ⟨m, hm⟩ := hI.maxL
  exact ⟨m, below_cell h hm⟩
theorem bstr_mk (l : List UInt8) : (ByteArray.mk l.toArray) = bstr l := rfl
def c_itoa : Ct
  | [.v (.c (.k (.int .i64 n)))], [], Q => Q (.str (itoaN n)) []
  | _, _, _ => False
theorem w_itoa : ∀ args H Q, c_itoa args H Q → Wp Inv Tryd.prog 37 args H Q := by
  intro args H Q h
  unfold c_itoa at h
  split at h
  · rename_i n
    refine Wp.of_pureI (fun W E g w vs hI hb m hv => ?_) h
    obtain ⟨u, q, rfl, ⟨rfl, hn⟩, hr⟩ := hv
    obtain rfl : q = [] := hr
    refine (Ret.of (Tryd.strconv_Itoa n hn.1 hn.2 w (inv_pow hI hb))).mono fun x w' ⟨h1, k, os, h2⟩ => ⟨?_, ?_⟩
    · rw [h1]
      refine ⟨rfl, ?_⟩
      have := itoaN_size hn
      show (itoaN n).size ≤ maxLen
      unfold maxLen
      omega
    · rw [h2]
      exact le_grow_drew _ _ _
  · exact h.elim
def c_count : Ct
  | [.v (.c (.k (.string s))), .v (.c (.k (.string z)))], [], Q => z = nlS ∧ Q (.int (Lib.countByte s.data.toList 10)) []
  | _, _, _ => False
theorem w_count : ∀ args H Q, c_count args H Q → Wp Inv Tryd.prog 29 args H Q := by
  intro args H Q h
  unfold c_count at h
  split at h
  · rename_i s z
    obtain ⟨rfl, h⟩ := h
    refine Wp.of_pure (fun E g w vs m hv => ?_) h
    obtain ⟨u, v, rfl, ⟨rfl, hs⟩, ⟨rfl, _⟩⟩ := relVs_two hv
    refine (Ret.of (Tryd.strings_Count_one s 10 w)).mono fun x w' ⟨h1, h2⟩ => ⟨?_, by rw [h2]; exact Le.refl w⟩
    rw [h1]
    refine relV_mk ?_
    have h3 : Lib.countByte s.data.toList 10 ≤ s.data.toList.length := List.count_le_length
    have hs' : s.data.toList.length ≤ 9223372036854775807 := by rw [← sz_list]; exact hs
    unfold inK
    omega
  · exact h.elim
def c_cut : Ct
  | [.v (.c (.k (.string s))), .v (.c (.k (.string z)))], [], Q => z = nlS ∧ s.size < 4294967281 ∧ Q (.tup [.c (.k (.string (cutA s))), .c (.k (.string (cutB s))), .c (.k (.bool (cutC s)))]) []
  | _, _, _ => False
theorem w_cut : ∀ args H Q, c_cut args H Q → Wp Inv Tryd.prog 30 args H Q := by
  intro args H Q h
  unfold c_cut at h
  split at h
  · rename_i s z
    obtain ⟨rfl, hs, h⟩ := h
    refine Wp.of_pureI (fun W E g w vs hI hb m hv => ?_) h
    obtain ⟨u, v, rfl, ⟨rfl, _⟩, ⟨rfl, _⟩⟩ := relVs_two hv
    obtain ⟨mm, hm⟩ := inv_max hI hb
    refine (Ret.of (Tryd.strings_Cut s nlS mm w hs hm)).mono fun x w' ⟨h1, k, h2⟩ => ⟨?_, ?_⟩
    · rw [h1]
      refine ⟨_, ⟨_, _, rfl, ⟨rfl, ?_⟩, _, _, rfl, ⟨rfl, ?_⟩, _, _, rfl, ⟨rfl, rfl⟩, rfl⟩, rfl⟩
      · have := cutA_sz s
        show (cutA s).size ≤ maxLen
        unfold maxLen
        omega
      · have := cutB_sz s
        show (cutB s).size ≤ maxLen
        unfold maxLen
        omega
    · rw [h2]
      exact le_drewN _ _
  · exact h.elim
def c_split : Ct
  | [.v (.c (.k (.string s))), .v (.c (.k (.string z)))], [], Q => z = blankS ∧ s.size < 4294967281 ∧ Q (.c (.d .str (partsW s))) []
  | _, _, _ => False
theorem w_split : ∀ args H Q, c_split args H Q → Wp Inv Tryd.prog 46 args H Q := by
  intro args H Q h
  unfold c_split at h
  split at h
  · rename_i s z
    obtain ⟨rfl, hs, h⟩ := h
    refine Wp.of_fresh (fun W E g w vs hI hb hg hv => ?_) h
    obtain ⟨u, v, rfl, ⟨rfl, _⟩, ⟨rfl, _⟩⟩ := relVs_two hv
    obtain ⟨mm, hm⟩ := inv_max hI hb
    refine (Ret.of (Tryd.strings_Split s blankS mm w hs hm (by decide))).mono fun x w' ⟨h1, h2⟩ => ?_
    subst h2
    refine ⟨le_alloc _ _, ?_⟩
    rw [h1, ← partsW_len]
    have h3 := partsW_le s
    exact new_strs (fun x hx => by have := partsW_sz hx; unfold maxLen; omega) (by show (partsW s).length ≤ maxLen; unfold maxLen; omega)
  · exact h.elim
def c_sjoin : Ct
  | [.v (.c ca), .v (.c (.k (.string z)))], [], Q => (match (Ty.sl Ty.str).of [ca] with
    | some (a, []) => z = blankS ∧ (joinW a).size ≤ 1000000000000 ∧ Q (.str (joinW a)) []
    | _ => False)
  | _, _, _ => False
theorem w_sjoin : ∀ args H Q, c_sjoin args H Q → Wp Inv Tryd.prog 51 args H Q := by
  intro args H Q h
  unfold c_sjoin at h
  split at h
  · split at h
    · rename_i a ha
      obtain ⟨rfl, hb, h⟩ := h
      refine Wp.of_pure (fun E g w vs m hv => ?_) h
      obtain ⟨u, v, rfl, hu, ⟨rfl, _⟩⟩ := relVs_two hv
      have hu : IsD .str g u a := of_list ha u hu
      have hz : (joinW a).size = (Lib.join (a.map (·.data.toList)) [32]).length := bstr_size _
      have hr : RelV E g (.str (joinW a)) (.string (joinW a)) := ⟨rfl, by show (joinW a).size ≤ maxLen; unfold maxLen; omega⟩
      by_cases hl : a = []
      · subst hl
        rcases is_list.1 (show Is g u ([] : List ByteArray) from hu) with ⟨rfl, _⟩ | ⟨a, cap, rfl, _⟩
        · exact (Ret.of (Tryd.strings_Join_none none 0 blankS w)).mono fun _ _ ⟨h1, h2⟩ => ⟨by rw [h1]; exact hr, by rw [h2]; exact Le.refl w⟩
        · exact (Ret.of (Tryd.strings_Join_none (some a) cap blankS w)).mono fun _ _ ⟨h1, h2⟩ => ⟨by rw [h1]; exact hr, by rw [h2]; exact Le.refl w⟩
      · obtain ⟨bk, o, c, rfl, h1, h2, h3⟩ := strs_at hu m hl
        have hn := join_ge (a.map (·.data.toList))
        rw [List.length_map] at hn
        exact (Ret.of (Tryd.strings_Join bk o c a blankS w h1 h2 (by omega) h3 (by show (Lib.join (a.map (·.data.toList)) [32]).length ≤ _; omega))).mono fun _ _ ⟨h1, h2⟩ => ⟨by rw [h1]; exact hr, h2⟩
    · exact h.elim
  · exact h.elim
end Go.Proofs

namespace Go.Proofs
open Go Go.Lm Go.RowKit
def c_words : Ct
  | [.v (.agg ce)], [], Q => (match (tEvent).of ce with
    | some (e, []) => ((e.2.2.2.2.1.size : Int) ≤ 100000000 ∧ (e.2.2.2.2.2.1.size : Int) ≤ 100000000 ∧ (e.2.2.2.2.2.2.1.length : Int) ≤ 100000000 ∧ Q (.v (.agg [.k (.string (itoaN e.1)), .k (.string (itoaN e.2.1)), .k (.string (itoaN e.2.2.1)), .k (.string (itoaN e.2.2.2.1)), .k (.string (quoteN e.2.2.2.2.1)), .k (.string (quoteN e.2.2.2.2.2.1)), .k (.string (quoteN (bstr e.2.2.2.2.2.2.1)))])) [])
    | _ => False)
  | _, _, _ => False
noncomputable def XD710 : Vx := { P := Tryd.prog, ct := [(51, c_sjoin), (46, c_split), (30, c_cut), (29, c_count), (37, c_itoa), (11, c_unquoteR), (23, c_digit), (10, c_unquote), (13, c_quoteR), (27, c_decode), (12, c_quote), (28, c_itselfR), (26, c_itself), (24, c_hasPre), (39, c_hasPre0), (22, c_indexByte), (25, c_runeLen)], ty := tyTab, hold := [51], unr := [(4, 5)] }
theorem XD710_ok : CtOk Inv Tryd.prog XD710.ct := CtOk.cons w_sjoin (CtOk.cons w_split (CtOk.cons w_cut (CtOk.cons w_count (CtOk.cons w_itoa (CtOk.cons w_unquoteR (CtOk.cons w_digit (CtOk.cons w_unquote (CtOk.cons w_quoteR (CtOk.cons w_decode (CtOk.cons w_quote (CtOk.cons w_itselfR (CtOk.cons w_itself (CtOk.cons w_hasPre (CtOk.cons w_hasPre0 (CtOk.cons w_indexByte (CtOk.cons w_runeLen (CtOk.nil _ _)))))))))))))))))
def vc_words : ((tEvent).den) → (SV → List HO → Prop) → Prop :=
 fun e Q => inK IntKind.i64 e.fst → inK IntKind.i64 e.snd.fst → inK IntKind.i64 e.snd.snd.fst → inK IntKind.i64 e.snd.snd.snd.fst → ByteArray.size e.snd.snd.snd.snd.fst ≤ (9223372036854775807 : Nat) → 
 ByteArray.size e.snd.snd.snd.snd.snd.fst ≤ (9223372036854775807 : Nat) → List.length e.snd.snd.snd.snd.snd.snd.fst ≤ (9223372036854775807 : Nat) → List.length [e.fst, e.snd.fst, e.snd.snd.fst, 
 e.snd.snd.snd.fst] ≤ (9223372036854775807 : Nat) → (0 : Int) ≤ (0 : Int) ∧ (0 : Int) < (↑(List.length [e.fst, e.snd.fst, e.snd.snd.fst, e.snd.snd.snd.fst]) : Int) ∧ (0 : Int) ≤ (0 : Int) ∧ (0 : Int) < 
 (↑(List.length [e.fst, e.snd.fst, e.snd.snd.fst, e.snd.snd.snd.fst]) : Int) ∧ (Ty.ok (Ty.int IntKind.i64) (ixD (Ty.int IntKind.i64) [e.fst, e.snd.fst, e.snd.snd.fst, e.snd.snd.snd.fst] (0 : Int)) → 
 ByteArray.size (itoaN (ixD (Ty.int IntKind.i64) [e.fst, e.snd.fst, e.snd.snd.fst, e.snd.snd.snd.fst] (0 : Int))) ≤ (9223372036854775807 : Nat) → (0 : Int) ≤ (0 : Int) ∧ (0 : Int) < (↑(7 : Nat) : Int) 
 ∧ inK IntKind.i64 ((0 : Int) + (1 : Int)) ∧ (0 : Int) ≤ (0 : Int) + (1 : Int) ∧ (0 : Int) + (1 : Int) < (↑(List.length [e.fst, e.snd.fst, e.snd.snd.fst, e.snd.snd.snd.fst]) : Int) ∧ (0 : Int) ≤ (0 : 
 Int) + (1 : Int) ∧ (0 : Int) + (1 : Int) < (↑(List.length [e.fst, e.snd.fst, e.snd.snd.fst, e.snd.snd.snd.fst]) : Int) ∧ (Ty.ok (Ty.int IntKind.i64) (ixD (Ty.int IntKind.i64) [e.fst, e.snd.fst, 
 e.snd.snd.fst, e.snd.snd.snd.fst] ((0 : Int) + (1 : Int))) → ByteArray.size (itoaN (ixD (Ty.int IntKind.i64) [e.fst, e.snd.fst, e.snd.snd.fst, e.snd.snd.snd.fst] ((0 : Int) + (1 : Int)))) ≤ 
 (9223372036854775807 : Nat) → (0 : Int) ≤ (0 : Int) + (1 : Int) ∧ (0 : Int) + (1 : Int) < (↑(7 : Nat) : Int) ∧ inK IntKind.i64 ((0 : Int) + (1 : Int) + (1 : Int)) ∧ (0 : Int) ≤ (0 : Int) + (1 : Int) + 
 (1 : Int) ∧ (0 : Int) + (1 : Int) + (1 : Int) < (↑(List.length [e.fst, e.snd.fst, e.snd.snd.fst, e.snd.snd.snd.fst]) : Int) ∧ (0 : Int) ≤ (0 : Int) + (1 : Int) + (1 : Int) ∧ (0 : Int) + (1 : Int) + (1 
 : Int) < (↑(List.length [e.fst, e.snd.fst, e.snd.snd.fst, e.snd.snd.snd.fst]) : Int) ∧ (Ty.ok (Ty.int IntKind.i64) (ixD (Ty.int IntKind.i64) [e.fst, e.snd.fst, e.snd.snd.fst, e.snd.snd.snd.fst] ((0 : 
 Int) + (1 : Int) + (1 : Int))) → ByteArray.size (itoaN (ixD (Ty.int IntKind.i64) [e.fst, e.snd.fst, e.snd.snd.fst, e.snd.snd.snd.fst] ((0 : Int) + (1 : Int) + (1 : Int)))) ≤ (9223372036854775807 : 
 Nat) → (0 : Int) ≤ (0 : Int) + (1 : Int) + (1 : Int) ∧ (0 : Int) + (1 : Int) + (1 : Int) < (↑(7 : Nat) : Int) ∧ inK IntKind.i64 ((0 : Int) + (1 : Int) + (1 : Int) + (1 : Int)) ∧ (0 : Int) ≤ (0 : Int) 
 + (1 : Int) + (1 : Int) + (1 : Int) ∧ (0 : Int) + (1 : Int) + (1 : Int) + (1 : Int) < (↑(List.length [e.fst, e.snd.fst, e.snd.snd.fst, e.snd.snd.snd.fst]) : Int) ∧ (0 : Int) ≤ (0 : Int) + (1 : Int) + 
 (1 : Int) + (1 : Int) ∧ (0 : Int) + (1 : Int) + (1 : Int) + (1 : Int) < (↑(List.length [e.fst, e.snd.fst, e.snd.snd.fst, e.snd.snd.snd.fst]) : Int) ∧ (Ty.ok (Ty.int IntKind.i64) (ixD (Ty.int 
 IntKind.i64) [e.fst, e.snd.fst, e.snd.snd.fst, e.snd.snd.snd.fst] ((0 : Int) + (1 : Int) + (1 : Int) + (1 : Int))) → ByteArray.size (itoaN (ixD (Ty.int IntKind.i64) [e.fst, e.snd.fst, e.snd.snd.fst, 
 e.snd.snd.snd.fst] ((0 : Int) + (1 : Int) + (1 : Int) + (1 : Int)))) ≤ (9223372036854775807 : Nat) → (0 : Int) ≤ (0 : Int) + (1 : Int) + (1 : Int) + (1 : Int) ∧ (0 : Int) + (1 : Int) + (1 : Int) + (1 
 : Int) < (↑(7 : Nat) : Int) ∧ inK IntKind.i64 ((0 : Int) + (1 : Int) + (1 : Int) + (1 : Int) + (1 : Int)) ∧ (↑(ByteArray.size e.snd.snd.snd.snd.fst) : Int) ≤ (1000000000 : Int) ∧ (ByteArray.size 
 (quoteN e.snd.snd.snd.snd.fst) ≤ (9223372036854775807 : Nat) → (0 : Int) ≤ (4 : Int) ∧ (4 : Int) < (↑(7 : Nat) : Int) ∧ (↑(ByteArray.size e.snd.snd.snd.snd.snd.fst) : Int) ≤ (1000000000 : Int) ∧ 
 (ByteArray.size (quoteN e.snd.snd.snd.snd.snd.fst) ≤ (9223372036854775807 : Nat) → (↑(ByteArray.size (bstr e.snd.snd.snd.snd.snd.snd.fst)) : Int) ≤ (1000000000 : Int) ∧ (ByteArray.size (quoteN (bstr 
 e.snd.snd.snd.snd.snd.snd.fst)) ≤ (9223372036854775807 : Nat) → (0 : Int) ≤ (5 : Int) ∧ (5 : Int) < (↑(7 : Nat) : Int) ∧ (0 : Int) ≤ (6 : Int) ∧ (6 : Int) < (↑(7 : Nat) : Int) ∧ Q (SV.v (S1.agg [Cl.k 
 (Value.string (itoaN (ixD (Ty.int IntKind.i64) [e.fst, e.snd.fst, e.snd.snd.fst, e.snd.snd.snd.fst] (0 : Int)))), Cl.k (Value.string (itoaN (ixD (Ty.int IntKind.i64) [e.fst, e.snd.fst, e.snd.snd.fst, 
 e.snd.snd.snd.fst] ((0 : Int) + (1 : Int))))), Cl.k (Value.string (itoaN (ixD (Ty.int IntKind.i64) [e.fst, e.snd.fst, e.snd.snd.fst, e.snd.snd.snd.fst] ((0 : Int) + (1 : Int) + (1 : Int))))), Cl.k 
 (Value.string (itoaN (ixD (Ty.int IntKind.i64) [e.fst, e.snd.fst, e.snd.snd.fst, e.snd.snd.snd.fst] ((0 : Int) + (1 : Int) + (1 : Int) + (1 : Int))))), Cl.k (Value.string (quoteN 
 e.snd.snd.snd.snd.fst)), Cl.k (Value.string (quoteN e.snd.snd.snd.snd.snd.fst)), Cl.k (Value.string (quoteN (bstr e.snd.snd.snd.snd.snd.snd.fst)))])) [])))))))
set_option maxRecDepth 1000000 in
theorem vc_words_eq (e : (tEvent).den) (Q : SV → List HO → Prop) : vFun XD710 ⟨[], []⟩ Tryd.f45 [.v (.agg (Ty.cells tEvent e))] [] Q = vc_words e Q := by kernel_rfl
set_option maxRecDepth 100000 in
theorem w_words : ∀ args H Q, c_words args H Q → Wp Inv Tryd.prog 45 args H Q := by
  intro args H Q h
  unfold c_words at h
  split at h
  · rename_i ce
    split at h
    · rename_i e he
      refine Wp.said (args' := [.v (.agg (Ty.cells tEvent e))]) (fun E g => RelVs.cons1 (of_row he) (fun _ h => h)) ?_
      clear he
      refine Wp.enter (X := XD710) XD710_ok ⟨[], []⟩ (fn := Tryd.f45) (by kernel_rfl) ?_
      have hv := vc_words_eq e Q
      rw [show vFun _ _ _ _ _ _ = _ from hv]
      unfold vc_words
      clear hv
      obtain ⟨hb1, hb2, hb3, h⟩ := h
      have hz : (bstr e.2.2.2.2.2.2.1).size = e.2.2.2.2.2.2.1.length := bstr_size _
      repeat' (first | exact h | (intro _) | (refine And.intro ?_ ?_) | omega | (unfold inK; omega) | (simp only [List.length_cons, List.length_nil]; omega))
    · exact h.elim
  · exact h.elim
end Go.Proofs

namespace Go.Proofs
open Go Go.Lm Go.RowKit
def c_line : Ct
  | [.v (.agg ce)], [], Q => (match (tEvent).of ce with
    | some (e, []) => ((e.2.2.2.2.1.size : Int) ≤ 100000000 ∧ (e.2.2.2.2.2.1.size : Int) ≤ 100000000 ∧ (e.2.2.2.2.2.2.1.length : Int) ≤ 100000000 ∧ Q (.str (lineN e)) [])
    | _ => False)
  | _, _, _ => False
noncomputable def XD811 : Vx := { P := Tryd.prog, ct := [(45, c_words), (51, c_sjoin), (46, c_split), (30, c_cut), (29, c_count), (37, c_itoa), (11, c_unquoteR), (23, c_digit), (10, c_unquote), (13, c_quoteR), (27, c_decode), (12, c_quote), (28, c_itselfR), (26, c_itself), (24, c_hasPre), (39, c_hasPre0), (22, c_indexByte), (25, c_runeLen)], ty := tyTab, hold := [51], unr := [(4, 8)] }
theorem XD811_ok : CtOk Inv Tryd.prog XD811.ct := CtOk.cons w_words (CtOk.cons w_sjoin (CtOk.cons w_split (CtOk.cons w_cut (CtOk.cons w_count (CtOk.cons w_itoa (CtOk.cons w_unquoteR (CtOk.cons w_digit (CtOk.cons w_unquote (CtOk.cons w_quoteR (CtOk.cons w_decode (CtOk.cons w_quote (CtOk.cons w_itselfR (CtOk.cons w_itself (CtOk.cons w_hasPre (CtOk.cons w_hasPre0 (CtOk.cons w_indexByte (CtOk.cons w_runeLen (CtOk.nil _ _))))))))))))))))))
def vc_line : ((tEvent).den) → (SV → List HO → Prop) → Prop :=
 fun e Q => inK IntKind.i64 e.fst → inK IntKind.i64 e.snd.fst → inK IntKind.i64 e.snd.snd.fst → inK IntKind.i64 e.snd.snd.snd.fst → ByteArray.size e.snd.snd.snd.snd.fst ≤ (9223372036854775807 : Nat) → 
 ByteArray.size e.snd.snd.snd.snd.snd.fst ≤ (9223372036854775807 : Nat) → List.length e.snd.snd.snd.snd.snd.snd.fst ≤ (9223372036854775807 : Nat) → (↑(ByteArray.size e.snd.snd.snd.snd.fst) : Int) ≤ 
 (100000000 : Int) ∧ (↑(ByteArray.size e.snd.snd.snd.snd.snd.fst) : Int) ≤ (100000000 : Int) ∧ (↑(List.length e.snd.snd.snd.snd.snd.snd.fst) : Int) ≤ (100000000 : Int) ∧ (ByteArray.size (itoaN e.fst) ≤ 
 (9223372036854775807 : Nat) → ByteArray.size (itoaN e.snd.fst) ≤ (9223372036854775807 : Nat) → ByteArray.size (itoaN e.snd.snd.fst) ≤ (9223372036854775807 : Nat) → ByteArray.size (itoaN 
 e.snd.snd.snd.fst) ≤ (9223372036854775807 : Nat) → ByteArray.size (quoteN e.snd.snd.snd.snd.fst) ≤ (9223372036854775807 : Nat) → ByteArray.size (quoteN e.snd.snd.snd.snd.snd.fst) ≤ 
 (9223372036854775807 : Nat) → ByteArray.size (quoteN (bstr e.snd.snd.snd.snd.snd.snd.fst)) ≤ (9223372036854775807 : Nat) → (↑(0 : Nat) : Int) ≤ (100000000 : Int) ∧ (↑(0 : Nat) : Int) ≤ (100000000 : 
 Int) ∧ (↑(0 : Nat) : Int) ≤ (100000000 : Int) ∧ ((1 : Nat) ≤ (9223372036854775807 : Nat) → (1 : Nat) ≤ (9223372036854775807 : Nat) → (1 : Nat) ≤ (9223372036854775807 : Nat) → (1 : Nat) ≤ 
 (9223372036854775807 : Nat) → (2 : Nat) ≤ (9223372036854775807 : Nat) → (2 : Nat) ≤ (9223372036854775807 : Nat) → (2 : Nat) ≤ (9223372036854775807 : Nat) → inK IntKind.i64 ((7 : Int) - (1 : Int)) ∧ (0 
 : Int) ≤ (7 : Int) - (1 : Int) ∧ (7 : Int) - (1 : Int) < (↑(7 : Nat) : Int) ∧ inK IntKind.i64 ((7 : Int) - (1 : Int)) ∧ (0 : Int) ≤ (7 : Int) - (1 : Int) ∧ (7 : Int) - (1 : Int) < (↑(7 : Nat) : Int) ∧ 
 br (sEq (quoteN (bstr e.snd.snd.snd.snd.snd.snd.fst)) (quoteN (bstr []))) (inK IntKind.i64 ((7 : Int) - (1 : Int)) ∧ inK IntKind.i64 ((7 : Int) - (1 : Int) - (1 : Int)) ∧ (0 : Int) ≤ (7 : Int) - (1 : 
 Int) - (1 : Int) ∧ (7 : Int) - (1 : Int) - (1 : Int) < (↑(7 : Nat) : Int) ∧ inK IntKind.i64 ((7 : Int) - (1 : Int) - (1 : Int)) ∧ (0 : Int) ≤ (7 : Int) - (1 : Int) - (1 : Int) ∧ (7 : Int) - (1 : Int) 
 - (1 : Int) < (↑(7 : Nat) : Int) ∧ br (sEq (quoteN e.snd.snd.snd.snd.snd.fst) (quoteN (ByteArray.mk ( #[] )))) (inK IntKind.i64 ((7 : Int) - (1 : Int) - (1 : Int)) ∧ inK IntKind.i64 ((7 : Int) - (1 : 
 Int) - (1 : Int) - (1 : Int)) ∧ (0 : Int) ≤ (7 : Int) - (1 : Int) - (1 : Int) - (1 : Int) ∧ (7 : Int) - (1 : Int) - (1 : Int) - (1 : Int) < (↑(7 : Nat) : Int) ∧ inK IntKind.i64 ((7 : Int) - (1 : Int) 
 - (1 : Int) - (1 : Int)) ∧ (0 : Int) ≤ (7 : Int) - (1 : Int) - (1 : Int) - (1 : Int) ∧ (7 : Int) - (1 : Int) - (1 : Int) - (1 : Int) < (↑(7 : Nat) : Int) ∧ br (sEq (quoteN e.snd.snd.snd.snd.fst) 
 (quoteN (ByteArray.mk ( #[] )))) (inK IntKind.i64 ((7 : Int) - (1 : Int) - (1 : Int) - (1 : Int)) ∧ inK IntKind.i64 ((7 : Int) - (1 : Int) - (1 : Int) - (1 : Int) - (1 : Int)) ∧ (0 : Int) ≤ (7 : Int) 
 - (1 : Int) - (1 : Int) - (1 : Int) - (1 : Int) ∧ (7 : Int) - (1 : Int) - (1 : Int) - (1 : Int) - (1 : Int) < (↑(7 : Nat) : Int) ∧ inK IntKind.i64 ((7 : Int) - (1 : Int) - (1 : Int) - (1 : Int) - (1 : 
 Int)) ∧ (0 : Int) ≤ (7 : Int) - (1 : Int) - (1 : Int) - (1 : Int) - (1 : Int) ∧ (7 : Int) - (1 : Int) - (1 : Int) - (1 : Int) - (1 : Int) < (↑(7 : Nat) : Int) ∧ br (sEq (itoaN e.snd.snd.snd.fst) 
 (itoaN (0 : Int))) (inK IntKind.i64 ((7 : Int) - (1 : Int) - (1 : Int) - (1 : Int) - (1 : Int)) ∧ inK IntKind.i64 ((7 : Int) - (1 : Int) - (1 : Int) - (1 : Int) - (1 : Int) - (1 : Int)) ∧ (0 : Int) ≤ 
 (7 : Int) - (1 : Int) - (1 : Int) - (1 : Int) - (1 : Int) - (1 : Int) ∧ (7 : Int) - (1 : Int) - (1 : Int) - (1 : Int) - (1 : Int) - (1 : Int) < (↑(7 : Nat) : Int) ∧ inK IntKind.i64 ((7 : Int) - (1 : 
 Int) - (1 : Int) - (1 : Int) - (1 : Int) - (1 : Int)) ∧ (0 : Int) ≤ (7 : Int) - (1 : Int) - (1 : Int) - (1 : Int) - (1 : Int) - (1 : Int) ∧ (7 : Int) - (1 : Int) - (1 : Int) - (1 : Int) - (1 : Int) - 
 (1 : Int) < (↑(7 : Nat) : Int) ∧ br (sEq (itoaN e.snd.snd.fst) (itoaN (0 : Int))) (inK IntKind.i64 ((7 : Int) - (1 : Int) - (1 : Int) - (1 : Int) - (1 : Int) - (1 : Int)) ∧ inK IntKind.i64 ((7 : Int) 
 - (1 : Int) - (1 : Int) - (1 : Int) - (1 : Int) - (1 : Int) - (1 : Int)) ∧ (0 : Int) ≤ (7 : Int) - (1 : Int) - (1 : Int) - (1 : Int) - (1 : Int) - (1 : Int) - (1 : Int) ∧ (7 : Int) - (1 : Int) - (1 : 
 Int) - (1 : Int) - (1 : Int) - (1 : Int) - (1 : Int) < (↑(7 : Nat) : Int) ∧ inK IntKind.i64 ((7 : Int) - (1 : Int) - (1 : Int) - (1 : Int) - (1 : Int) - (1 : Int) - (1 : Int)) ∧ (0 : Int) ≤ (7 : Int) 
 - (1 : Int) - (1 : Int) - (1 : Int) - (1 : Int) - (1 : Int) - (1 : Int) ∧ (7 : Int) - (1 : Int) - (1 : Int) - (1 : Int) - (1 : Int) - (1 : Int) - (1 : Int) < (↑(7 : Nat) : Int) ∧ br (sEq (itoaN 
 e.snd.fst) (itoaN (0 : Int))) (inK IntKind.i64 ((7 : Int) - (1 : Int) - (1 : Int) - (1 : Int) - (1 : Int) - (1 : Int) - (1 : Int)) ∧ (7 : Nat) ≤ (9223372036854775807 : Nat) ∧ (0 : Int) ≤ boundV none 
 (0 : Int) ∧ boundV none (0 : Int) < (↑(7 : Nat) : Int) ∧ boundV none (0 : Int) ≤ boundV (some ((7 : Int) - (1 : Int) - (1 : Int) - (1 : Int) - (1 : Int) - (1 : Int) - (1 : Int))) (↑(7 : Nat) : Int) ∧ 
 boundV (some ((7 : Int) - (1 : Int) - (1 : Int) - (1 : Int) - (1 : Int) - (1 : Int) - (1 : Int))) (↑(7 : Nat) : Int) ≤ (↑(7 : Nat) : Int) ∧ (ByteArray.mk ( #[(32 : UInt8)] )) = blankS ∧ ByteArray.size 
 (joinW [itoaN e.fst]) ≤ (1000000000000 : Nat) ∧ (ByteArray.size (joinW [itoaN e.fst]) ≤ (9223372036854775807 : Nat) → Q (SV.v (S1.c (Cl.k (Value.string (joinW [itoaN e.fst]))))) [])) ((7 : Nat) ≤ 
 (9223372036854775807 : Nat) ∧ (0 : Int) ≤ boundV none (0 : Int) ∧ boundV none (0 : Int) < (↑(7 : Nat) : Int) ∧ boundV none (0 : Int) ≤ boundV (some ((7 : Int) - (1 : Int) - (1 : Int) - (1 : Int) - (1 
 : Int) - (1 : Int))) (↑(7 : Nat) : Int) ∧ boundV (some ((7 : Int) - (1 : Int) - (1 : Int) - (1 : Int) - (1 : Int) - (1 : Int))) (↑(7 : Nat) : Int) ≤ (↑(7 : Nat) : Int) ∧ (ByteArray.mk ( #[(32 : 
 UInt8)] )) = blankS ∧ ByteArray.size (joinW [itoaN e.fst, itoaN e.snd.fst]) ≤ (1000000000000 : Nat) ∧ (ByteArray.size (joinW [itoaN e.fst, itoaN e.snd.fst]) ≤ (9223372036854775807 : Nat) → Q (SV.v 
 (S1.c (Cl.k (Value.string (joinW [itoaN e.fst, itoaN e.snd.fst]))))) []))) ((7 : Nat) ≤ (9223372036854775807 : Nat) ∧ (0 : Int) ≤ boundV none (0 : Int) ∧ boundV none (0 : Int) < (↑(7 : Nat) : Int) ∧ 
 boundV none (0 : Int) ≤ boundV (some ((7 : Int) - (1 : Int) - (1 : Int) - (1 : Int) - (1 : Int))) (↑(7 : Nat) : Int) ∧ boundV (some ((7 : Int) - (1 : Int) - (1 : Int) - (1 : Int) - (1 : Int))) (↑(7 : 
 Nat) : Int) ≤ (↑(7 : Nat) : Int) ∧ (ByteArray.mk ( #[(32 : UInt8)] )) = blankS ∧ ByteArray.size (joinW [itoaN e.fst, itoaN e.snd.fst, itoaN e.snd.snd.fst]) ≤ (1000000000000 : Nat) ∧ (ByteArray.size 
 (joinW [itoaN e.fst, itoaN e.snd.fst, itoaN e.snd.snd.fst]) ≤ (9223372036854775807 : Nat) → Q (SV.v (S1.c (Cl.k (Value.string (joinW [itoaN e.fst, itoaN e.snd.fst, itoaN e.snd.snd.fst]))))) []))) ((7 
 : Nat) ≤ (9223372036854775807 : Nat) ∧ (0 : Int) ≤ boundV none (0 : Int) ∧ boundV none (0 : Int) < (↑(7 : Nat) : Int) ∧ boundV none (0 : Int) ≤ boundV (some ((7 : Int) - (1 : Int) - (1 : Int) - (1 : 
 Int))) (↑(7 : Nat) : Int) ∧ boundV (some ((7 : Int) - (1 : Int) - (1 : Int) - (1 : Int))) (↑(7 : Nat) : Int) ≤ (↑(7 : Nat) : Int) ∧ (ByteArray.mk ( #[(32 : UInt8)] )) = blankS ∧ ByteArray.size (joinW 
 [itoaN e.fst, itoaN e.snd.fst, itoaN e.snd.snd.fst, itoaN e.snd.snd.snd.fst]) ≤ (1000000000000 : Nat) ∧ (ByteArray.size (joinW [itoaN e.fst, itoaN e.snd.fst, itoaN e.snd.snd.fst, itoaN 
 e.snd.snd.snd.fst]) ≤ (9223372036854775807 : Nat) → Q (SV.v (S1.c (Cl.k (Value.string (joinW [itoaN e.fst, itoaN e.snd.fst, itoaN e.snd.snd.fst, itoaN e.snd.snd.snd.fst]))))) []))) ((7 : Nat) ≤ 
 (9223372036854775807 : Nat) ∧ (0 : Int) ≤ boundV none (0 : Int) ∧ boundV none (0 : Int) < (↑(7 : Nat) : Int) ∧ boundV none (0 : Int) ≤ boundV (some ((7 : Int) - (1 : Int) - (1 : Int))) (↑(7 : Nat) : 
 Int) ∧ boundV (some ((7 : Int) - (1 : Int) - (1 : Int))) (↑(7 : Nat) : Int) ≤ (↑(7 : Nat) : Int) ∧ (ByteArray.mk ( #[(32 : UInt8)] )) = blankS ∧ ByteArray.size (joinW [itoaN e.fst, itoaN e.snd.fst, 
 itoaN e.snd.snd.fst, itoaN e.snd.snd.snd.fst, quoteN e.snd.snd.snd.snd.fst]) ≤ (1000000000000 : Nat) ∧ (ByteArray.size (joinW [itoaN e.fst, itoaN e.snd.fst, itoaN e.snd.snd.fst, itoaN 
 e.snd.snd.snd.fst, quoteN e.snd.snd.snd.snd.fst]) ≤ (9223372036854775807 : Nat) → Q (SV.v (S1.c (Cl.k (Value.string (joinW [itoaN e.fst, itoaN e.snd.fst, itoaN e.snd.snd.fst, itoaN e.snd.snd.snd.fst, 
 quoteN e.snd.snd.snd.snd.fst]))))) []))) ((7 : Nat) ≤ (9223372036854775807 : Nat) ∧ (0 : Int) ≤ boundV none (0 : Int) ∧ boundV none (0 : Int) < (↑(7 : Nat) : Int) ∧ boundV none (0 : Int) ≤ boundV 
 (some ((7 : Int) - (1 : Int))) (↑(7 : Nat) : Int) ∧ boundV (some ((7 : Int) - (1 : Int))) (↑(7 : Nat) : Int) ≤ (↑(7 : Nat) : Int) ∧ (ByteArray.mk ( #[(32 : UInt8)] )) = blankS ∧ ByteArray.size (joinW 
 [itoaN e.fst, itoaN e.snd.fst, itoaN e.snd.snd.fst, itoaN e.snd.snd.snd.fst, quoteN e.snd.snd.snd.snd.fst, quoteN e.snd.snd.snd.snd.snd.fst]) ≤ (1000000000000 : Nat) ∧ (ByteArray.size (joinW [itoaN 
 e.fst, itoaN e.snd.fst, itoaN e.snd.snd.fst, itoaN e.snd.snd.snd.fst, quoteN e.snd.snd.snd.snd.fst, quoteN e.snd.snd.snd.snd.snd.fst]) ≤ (9223372036854775807 : Nat) → Q (SV.v (S1.c (Cl.k (Value.string 
 (joinW [itoaN e.fst, itoaN e.snd.fst, itoaN e.snd.snd.fst, itoaN e.snd.snd.snd.fst, quoteN e.snd.snd.snd.snd.fst, quoteN e.snd.snd.snd.snd.snd.fst]))))) []))) ((7 : Nat) ≤ (9223372036854775807 : Nat) 
 ∧ (0 : Int) ≤ boundV none (0 : Int) ∧ boundV none (0 : Int) < (↑(7 : Nat) : Int) ∧ boundV none (0 : Int) ≤ boundV (some (7 : Int)) (↑(7 : Nat) : Int) ∧ boundV (some (7 : Int)) (↑(7 : Nat) : Int) ≤ 
 (↑(7 : Nat) : Int) ∧ (ByteArray.mk ( #[(32 : UInt8)] )) = blankS ∧ ByteArray.size (joinW [itoaN e.fst, itoaN e.snd.fst, itoaN e.snd.snd.fst, itoaN e.snd.snd.snd.fst, quoteN e.snd.snd.snd.snd.fst, 
 quoteN e.snd.snd.snd.snd.snd.fst, quoteN (bstr e.snd.snd.snd.snd.snd.snd.fst)]) ≤ (1000000000000 : Nat) ∧ (ByteArray.size (joinW [itoaN e.fst, itoaN e.snd.fst, itoaN e.snd.snd.fst, itoaN 
 e.snd.snd.snd.fst, quoteN e.snd.snd.snd.snd.fst, quoteN e.snd.snd.snd.snd.snd.fst, quoteN (bstr e.snd.snd.snd.snd.snd.snd.fst)]) ≤ (9223372036854775807 : Nat) → Q (SV.v (S1.c (Cl.k (Value.string 
 (joinW [itoaN e.fst, itoaN e.snd.fst, itoaN e.snd.snd.fst, itoaN e.snd.snd.snd.fst, quoteN e.snd.snd.snd.snd.fst, quoteN e.snd.snd.snd.snd.snd.fst, quoteN (bstr e.snd.snd.snd.snd.snd.snd.fst)]))))) 
 []))))
set_option maxRecDepth 1000000 in
theorem vc_line_eq (e : (tEvent).den) (Q : SV → List HO → Prop) : vFun XD811 ⟨[], []⟩ Tryd.f35 [.v (.agg (Ty.cells tEvent e))] [] Q = vc_line e Q := by kernel_rfl
set_option maxRecDepth 100000 in
theorem w_line : ∀ args H Q, c_line args H Q → Wp Inv Tryd.prog 35 args H Q := by
  intro args H Q h
  unfold c_line at h
  split at h
  · rename_i ce
    split at h
    · rename_i e he
      refine Wp.said (args' := [.v (.agg (Ty.cells tEvent e))]) (fun E g => RelVs.cons1 (of_row he) (fun _ h => h)) ?_
      clear he
      refine Wp.enter (X := XD811) XD811_ok ⟨[], []⟩ (fn := Tryd.f35) (by kernel_rfl) ?_
      have hv := vc_line_eq e Q
      rw [show vFun _ _ _ _ _ _ = _ from hv]
      unfold vc_line
      clear hv
      obtain ⟨hb1, hb2, hb3, h⟩ := h
      intro k1 k2 k3 k4 k5 k6 k7
      have ok : EvOk 100000000 e := ⟨k1, k2, k3, k4, by omega, by omega, by omega⟩
      refine ⟨hb1, hb2, hb3, fun _ _ _ _ _ _ _ => ⟨by decide, by decide, by decide, fun _ _ _ _ _ _ _ => ?_⟩⟩
      refine ⟨⟨by decide, by decide⟩, by decide, by decide, ⟨by decide, by decide⟩, by decide, by decide, ?_⟩
      refine @br_of _ _ _ ?_ ?_
      · intro c7
        refine ⟨⟨by decide, by decide⟩, ⟨by decide, by decide⟩, by decide, by decide, ⟨by decide, by decide⟩, by decide, by decide, ?_⟩
        refine @br_of _ _ _ ?_ ?_
        · intro c6
          refine ⟨⟨by decide, by decide⟩, ⟨by decide, by decide⟩, by decide, by decide, ⟨by decide, by decide⟩, by decide, by decide, ?_⟩
          refine @br_of _ _ _ ?_ ?_
          · intro c5
            refine ⟨⟨by decide, by decide⟩, ⟨by decide, by decide⟩, by decide, by decide, ⟨by decide, by decide⟩, by decide, by decide, ?_⟩
            refine @br_of _ _ _ ?_ ?_
            · intro c4
              refine ⟨⟨by decide, by decide⟩, ⟨by decide, by decide⟩, by decide, by decide, ⟨by decide, by decide⟩, by decide, by decide, ?_⟩
              refine @br_of _ _ _ ?_ ?_
              · intro c3
                refine ⟨⟨by decide, by decide⟩, ⟨by decide, by decide⟩, by decide, by decide, ⟨by decide, by decide⟩, by decide, by decide, ?_⟩
                refine @br_of _ _ _ ?_ ?_
                · intro c2
                  refine ⟨⟨by decide, by decide⟩, ?_⟩
                  have hz := line_size ok 1
                  have hl := line_k (e := e) (k := 1) (Eq.trans (trim_yes (n := 6) (by decide) c7) (Eq.trans (trim_yes (n := 5) (by decide) c6) (Eq.trans (trim_yes (n := 4) (by decide) c5) (Eq.trans (trim_yes (n := 3) (by decide) c4) (Eq.trans (trim_yes (n := 2) (by decide) c3) (Eq.trans (trim_yes (n := 1) (by decide) c2) (trim_one _ _)))))))
                  rw [hl] at h
                  refine ⟨by decide, by decide, by decide, by decide, by decide, rfl, Nat.le_trans hz (by decide), fun _ => h⟩
                · intro c2
                  have hz := line_size ok 2
                  have hl := line_k (e := e) (k := 2) (Eq.trans (trim_yes (n := 6) (by decide) c7) (Eq.trans (trim_yes (n := 5) (by decide) c6) (Eq.trans (trim_yes (n := 4) (by decide) c5) (Eq.trans (trim_yes (n := 3) (by decide) c4) (Eq.trans (trim_yes (n := 2) (by decide) c3) (trim_no (n := 1) c2))))))
                  rw [hl] at h
                  refine ⟨by decide, by decide, by decide, by decide, by decide, rfl, Nat.le_trans hz (by decide), fun _ => h⟩
              · intro c3
                have hz := line_size ok 3
                have hl := line_k (e := e) (k := 3) (Eq.trans (trim_yes (n := 6) (by decide) c7) (Eq.trans (trim_yes (n := 5) (by decide) c6) (Eq.trans (trim_yes (n := 4) (by decide) c5) (Eq.trans (trim_yes (n := 3) (by decide) c4) (trim_no (n := 2) c3)))))
                rw [hl] at h
                refine ⟨by decide, by decide, by decide, by decide, by decide, rfl, Nat.le_trans hz (by decide), fun _ => h⟩
            · intro c4
              have hz := line_size ok 4
              have hl := line_k (e := e) (k := 4) (Eq.trans (trim_yes (n := 6) (by decide) c7) (Eq.trans (trim_yes (n := 5) (by decide) c6) (Eq.trans (trim_yes (n := 4) (by decide) c5) (trim_no (n := 3) c4))))
              rw [hl] at h
              refine ⟨by decide, by decide, by decide, by decide, by decide, rfl, Nat.le_trans hz (by decide), fun _ => h⟩
          · intro c5
            have hz := line_size ok 5
            have hl := line_k (e := e) (k := 5) (Eq.trans (trim_yes (n := 6) (by decide) c7) (Eq.trans (trim_yes (n := 5) (by decide) c6) (trim_no (n := 4) c5)))
            rw [hl] at h
            refine ⟨by decide, by decide, by decide, by decide, by decide, rfl, Nat.le_trans hz (by decide), fun _ => h⟩
        · intro c6
          have hz := line_size ok 6
          have hl := line_k (e := e) (k := 6) (Eq.trans (trim_yes (n := 6) (by decide) c7) (trim_no (n := 5) c6))
          rw [hl] at h
          refine ⟨by decide, by decide, by decide, by decide, by decide, rfl, Nat.le_trans hz (by decide), fun _ => h⟩
      · intro c7
        have hz := line_size ok 7
        have hl := line_k (e := e) (k := 7) (trim_no (n := 6) c7)
        rw [hl] at h
        refine ⟨by decide, by decide, by decide, by decide, by decide, rfl, Nat.le_trans hz (by decide), fun _ => h⟩
    · exact h.elim
  · exact h.elim
end Go.Proofs

namespace Go.Proofs
open Go Go.Lm Go.RowKit
def c_atoi : Ct
  | [.v (.c (.k (.string s)))], [], Q => (s.size : Int) ≤ 1000000000 ∧ br (atoiOk s) (Q (.tup [.c (.k (.int .i64 (atoiV s))), .c (.k .nilIface)]) []) (Q (.tup [.c .unk, .c (.ifc 99 .unk)]) [])
  | _, _, _ => False
theorem atoi_bad {v : Int} {a : Addr} {E : Env} {g : World} : RelV E g (.tup [.c .unk, .c (.ifc 99 .unk)]) (.tuple #[.int .i64 v, .iface 99 (.pointer (some a))]) :=
  ⟨_, ⟨_, _, rfl, (show RelC E g .unk (.int .i64 v) from rfl), _, _, rfl, (show RelC E g (.ifc 99 .unk) (.iface 99 (.pointer (some a))) from ⟨_, (show RelC E g .unk (.pointer (some a)) from rfl), rfl⟩), rfl⟩, rfl⟩
theorem w_atoi : ∀ args H Q, c_atoi args H Q → Wp Inv Tryd.prog 47 args H Q := by
  intro args H Q h
  unfold c_atoi at h
  split at h
  · rename_i s
    obtain ⟨hs, h⟩ := h
    unfold atoiOk atoiV at h
    cases ha : Lib.atoiAll s.data.toList with
    | ok v =>
      rw [ha] at h
      have h : Q (.tup [.c (.k (.int .i64 v)), .c (.k .nilIface)]) [] := h
      refine Wp.of_pure (fun E g w vs m hv => ?_) h
      obtain ⟨u, q, rfl, ⟨rfl, _⟩, hr⟩ := hv
      obtain rfl : q = [] := hr
      refine (Ret.of (Tryd.strconv_Atoi_ok s (by omega) v ha w)).mono fun x w' ⟨h1, h2⟩ => ⟨?_, ?_⟩
      · rw [h1]
        exact ⟨_, ⟨_, _, rfl, ⟨rfl, atoi_in ha⟩, _, _, rfl, ⟨rfl, rfl⟩, rfl⟩, rfl⟩
      · rcases h2 with h2 | ⟨t, h2⟩
        · rw [h2]; exact Le.refl w
        · rw [h2]; exact le_bytes _ _ _
    | range =>
      rw [ha] at h
      have h : Q (.tup [.c .unk, .c (.ifc 99 .unk)]) [] := h
      refine Wp.of_pureI (fun W E g w vs hI hb m hv => ?_) h
      obtain ⟨u, q, rfl, ⟨rfl, _⟩, hr⟩ := hv
      obtain rfl : q = [] := hr
      obtain ⟨ev, he, hev⟩ := hI.errR
      exact Calls.mono (Tryd.strconv_Atoi_range s (by omega) ha ev w (below_cell hb he) hev) fun x w' ⟨N, h1, _, _, h2⟩ => ⟨_, h1, atoi_bad, h2⟩
    | _ =>
      rw [ha] at h
      have h : Q (.tup [.c .unk, .c (.ifc 99 .unk)]) [] := h
      refine Wp.of_pureI (fun W E g w vs hI hb m hv => ?_) h
      obtain ⟨u, q, rfl, ⟨rfl, _⟩, hr⟩ := hv
      obtain rfl : q = [] := hr
      obtain ⟨ev, he, hev⟩ := hI.errS
      have hc : Calls Tryd.prog 47 #[.string s] w fun e w' => ∃ N, e = .returned (.tuple #[.int .i64 (0), .iface 99 (.pointer (some ⟨N, 0, none⟩))]) ∧ w.heap.size ≤ N ∧ w'.heap[N]? = some (.cells #[.string ⟨#[65, 116, 111, 105]⟩, .string s, ev] 114 (0, 0)) ∧ Below w.heap.size w w' := Any.strconv_Atoi_syntax Tryd.laysC172 s (by omega) ha ev w (below_cell hb he) hev
      exact Calls.mono hc fun x w' ⟨N, h1, _, _, h2⟩ => ⟨_, h1, atoi_bad, h2⟩
  · exact h.elim
end Go.Proofs

namespace Go.Proofs
open Go Go.Lm Go.RowKit
def c_event : Ct
  | [.v (.c (.k (.string s)))], [], Q => ((s.size : Int) ≤ 90000000 ∧ br (veil (evOk s)) (Q (.tup [.agg [.k (.int .i64 (evOf s).1), .k (.int .i64 (evOf s).2.1), .k (.int .i64 (evOf s).2.2.1), .k (.int .i64 (evOf s).2.2.2.1), .k (.string (evOf s).2.2.2.2.1), .k (.string (evOf s).2.2.2.2.2.1), .d .u8 (evOf s).2.2.2.2.2.2.1], .c (.k (.bool true))]) []) ((∀ (a0 a1 a2 a3 : Int) (a4 a5 : ByteArray), Q (.tup [.agg [.k (.int .i64 a0), .k (.int .i64 a1), .k (.int .i64 a2), .k (.int .i64 a3), .k (.string a4), .k (.string a5), .k (.slice none 0 0)], .c (.k (.bool false))]) []) ∧ (∀ (a0 a1 a2 a3 : Int) (a4 a5 : ByteArray) (a6 : List UInt8), Q (.tup [.agg [.k (.int .i64 a0), .k (.int .i64 a1), .k (.int .i64 a2), .k (.int .i64 a3), .k (.string a4), .k (.string a5), .d .u8 a6], .c (.k (.bool false))]) [])))
  | _, _, _ => False
noncomputable def XD1012 : Vx := { P := Tryd.prog, ct := [(47, c_atoi), (35, c_line), (45, c_words), (51, c_sjoin), (46, c_split), (30, c_cut), (29, c_count), (37, c_itoa), (11, c_unquoteR), (23, c_digit), (10, c_unquote), (13, c_quoteR), (27, c_decode), (12, c_quote), (28, c_itselfR), (26, c_itself), (24, c_hasPre), (39, c_hasPre0), (22, c_indexByte), (25, c_runeLen)], ty := tyTab, hold := [51], unr := [(9, 5)] }
theorem XD1012_ok : CtOk Inv Tryd.prog XD1012.ct := CtOk.cons w_atoi (CtOk.cons w_line (CtOk.cons w_words (CtOk.cons w_sjoin (CtOk.cons w_split (CtOk.cons w_cut (CtOk.cons w_count (CtOk.cons w_itoa (CtOk.cons w_unquoteR (CtOk.cons w_digit (CtOk.cons w_unquote (CtOk.cons w_quoteR (CtOk.cons w_decode (CtOk.cons w_quote (CtOk.cons w_itselfR (CtOk.cons w_itself (CtOk.cons w_hasPre (CtOk.cons w_hasPre0 (CtOk.cons w_indexByte (CtOk.cons w_runeLen (CtOk.nil _ _))))))))))))))))))))
def vc_event : (ByteArray) → (SV → List HO → Prop) → Prop :=
 fun s Q => ByteArray.size s ≤ (9223372036854775807 : Nat) → (↑(0 : Nat) : Int) ≤ (100000000 : Int) ∧ (↑(0 : Nat) : Int) ≤ (100000000 : Int) ∧ (↑(0 : Nat) : Int) ≤ (100000000 : Int) ∧ ((1 : Nat) ≤ 
 (9223372036854775807 : Nat) → (1 : Nat) ≤ (9223372036854775807 : Nat) → (1 : Nat) ≤ (9223372036854775807 : Nat) → (1 : Nat) ≤ (9223372036854775807 : Nat) → (2 : Nat) ≤ (9223372036854775807 : Nat) → (2 
 : Nat) ≤ (9223372036854775807 : Nat) → (2 : Nat) ≤ (9223372036854775807 : Nat) → (ByteArray.mk ( #[(32 : UInt8)] )) = blankS ∧ ByteArray.size s < (4294967281 : Nat) ∧ (List.length (partsW s) ≤ 
 (9223372036854775807 : Nat) → List.length (partsW s) ≤ (9223372036854775807 : Nat) → br (decide ((↑(List.length (partsW s)) : Int) > (7 : Int))) (Q (SV.tup [S1.agg [Cl.k (Value.int IntKind.i64 (0 : 
 Int)), Cl.k (Value.int IntKind.i64 (0 : Int)), Cl.k (Value.int IntKind.i64 (0 : Int)), Cl.k (Value.int IntKind.i64 (0 : Int)), Cl.k (Value.string (ByteArray.mk ( #[] ))), Cl.k (Value.string 
 (ByteArray.mk ( #[] ))), Cl.k (Value.slice none (0 : Nat) (0 : Nat))], S1.c (Cl.k (Value.bool false))]) []) ((7 : Nat) ≤ (9223372036854775807 : Nat) ∧ (0 : Int) ≤ boundV none (0 : Int) ∧ boundV none 
 (0 : Int) < (↑(7 : Nat) : Int) ∧ boundV none (0 : Int) ≤ boundV none (↑(7 : Nat) : Int) ∧ boundV none (↑(7 : Nat) : Int) ≤ (↑(7 : Nat) : Int) ∧ (7 : Nat) ≤ (9223372036854775807 : Nat) ∧ (4 : Nat) ≤ 
 (9223372036854775807 : Nat) ∧ (0 : Int) ≤ (0 : Int) ∧ (0 : Int) < (↑(4 : Nat) : Int) ∧ (0 : Int) ≤ (0 : Int) ∧ (0 : Int) < (↑(7 : Nat) : Int) ∧ (↑(ByteArray.size (Option.getD (partsW s)[(0 : Nat)]? 
 (itoaN (0 : Int)))) : Int) ≤ (1000000000 : Int) ∧ br (atoiOk (Option.getD (partsW s)[(0 : Nat)]? (itoaN (0 : Int)))) (inK IntKind.i64 (atoiV (Option.getD (partsW s)[(0 : Nat)]? (itoaN (0 : Int)))) → 
 inK IntKind.i64 ((0 : Int) + (1 : Int)) ∧ (0 : Int) ≤ (0 : Int) + (1 : Int) ∧ (0 : Int) + (1 : Int) < (↑(4 : Nat) : Int) ∧ (0 : Int) ≤ (0 : Int) + (1 : Int) ∧ (0 : Int) + (1 : Int) < (↑(7 : Nat) : 
 Int) ∧ (↑(ByteArray.size (Option.getD (partsW s)[(1 : Nat)]? (itoaN (0 : Int)))) : Int) ≤ (1000000000 : Int) ∧ br (atoiOk (Option.getD (partsW s)[(1 : Nat)]? (itoaN (0 : Int)))) (inK IntKind.i64 
 (atoiV (Option.getD (partsW s)[(1 : Nat)]? (itoaN (0 : Int)))) → inK IntKind.i64 ((0 : Int) + (1 : Int) + (1 : Int)) ∧ (0 : Int) ≤ (0 : Int) + (1 : Int) + (1 : Int) ∧ (0 : Int) + (1 : Int) + (1 : Int) 
 < (↑(4 : Nat) : Int) ∧ (0 : Int) ≤ (0 : Int) + (1 : Int) + (1 : Int) ∧ (0 : Int) + (1 : Int) + (1 : Int) < (↑(7 : Nat) : Int) ∧ (↑(ByteArray.size (Option.getD (partsW s)[(2 : Nat)]? (itoaN (0 : 
 Int)))) : Int) ≤ (1000000000 : Int) ∧ br (atoiOk (Option.getD (partsW s)[(2 : Nat)]? (itoaN (0 : Int)))) (inK IntKind.i64 (atoiV (Option.getD (partsW s)[(2 : Nat)]? (itoaN (0 : Int)))) → inK 
 IntKind.i64 ((0 : Int) + (1 : Int) + (1 : Int) + (1 : Int)) ∧ (0 : Int) ≤ (0 : Int) + (1 : Int) + (1 : Int) + (1 : Int) ∧ (0 : Int) + (1 : Int) + (1 : Int) + (1 : Int) < (↑(4 : Nat) : Int) ∧ (0 : Int) 
 ≤ (0 : Int) + (1 : Int) + (1 : Int) + (1 : Int) ∧ (0 : Int) + (1 : Int) + (1 : Int) + (1 : Int) < (↑(7 : Nat) : Int) ∧ (↑(ByteArray.size (Option.getD (partsW s)[(3 : Nat)]? (itoaN (0 : Int)))) : Int) 
 ≤ (1000000000 : Int) ∧ br (atoiOk (Option.getD (partsW s)[(3 : Nat)]? (itoaN (0 : Int)))) (inK IntKind.i64 (atoiV (Option.getD (partsW s)[(3 : Nat)]? (itoaN (0 : Int)))) → inK IntKind.i64 ((0 : Int) + 
 (1 : Int) + (1 : Int) + (1 : Int) + (1 : Int)) ∧ (0 : Int) ≤ (4 : Int) ∧ (4 : Int) < (↑(7 : Nat) : Int) ∧ (↑(ByteArray.size (Option.getD (partsW s)[(4 : Nat)]? (quoteN (ByteArray.mk ( #[] ))))) : Int) 
 ≤ (1000000000 : Int) ∧ (ByteArray.size (unqD (Option.getD (partsW s)[(4 : Nat)]? (quoteN (ByteArray.mk ( #[] ))))).fst ≤ (9223372036854775807 : Nat) → inK IntKind.i64 (unqD (Option.getD (partsW s)[(4 
 : Nat)]? (quoteN (ByteArray.mk ( #[] ))))).snd → (0 : Int) ≤ (0 : Int) ∧ (0 : Int) < (↑(3 : Nat) : Int) ∧ (0 : Int) ≤ (5 : Int) ∧ (5 : Int) < (↑(7 : Nat) : Int) ∧ (↑(ByteArray.size (Option.getD 
 (partsW s)[(5 : Nat)]? (quoteN (ByteArray.mk ( #[] ))))) : Int) ≤ (1000000000 : Int) ∧ (ByteArray.size (unqD (Option.getD (partsW s)[(5 : Nat)]? (quoteN (ByteArray.mk ( #[] ))))).fst ≤ 
 (9223372036854775807 : Nat) → inK IntKind.i64 (unqD (Option.getD (partsW s)[(5 : Nat)]? (quoteN (ByteArray.mk ( #[] ))))).snd → (0 : Int) ≤ (1 : Int) ∧ (1 : Int) < (↑(3 : Nat) : Int) ∧ (0 : Int) ≤ (6 
 : Int) ∧ (6 : Int) < (↑(7 : Nat) : Int) ∧ (↑(ByteArray.size (Option.getD (partsW s)[(6 : Nat)]? (quoteN (bstr [])))) : Int) ≤ (1000000000 : Int) ∧ (ByteArray.size (unqD (Option.getD (partsW s)[(6 : 
 Nat)]? (quoteN (bstr [])))).fst ≤ (9223372036854775807 : Nat) → inK IntKind.i64 (unqD (Option.getD (partsW s)[(6 : Nat)]? (quoteN (bstr [])))).snd → (0 : Int) ≤ (2 : Int) ∧ (2 : Int) < (↑(3 : Nat) : 
 Int) ∧ br ((unqD (Option.getD (partsW s)[(4 : Nat)]? (quoteN (ByteArray.mk ( #[] ))))).snd == (0 : Int) && ((unqD (Option.getD (partsW s)[(5 : Nat)]? (quoteN (ByteArray.mk ( #[] ))))).snd == (0 : Int) 
 && ((unqD (Option.getD (partsW s)[(6 : Nat)]? (quoteN (bstr [])))).snd == (0 : Int) && true))) ((↑(ByteArray.size (unqD (Option.getD (partsW s)[(4 : Nat)]? (quoteN (ByteArray.mk ( #[] ))))).fst) : 
 Int) ≤ (100000000 : Int) ∧ (↑(ByteArray.size (unqD (Option.getD (partsW s)[(5 : Nat)]? (quoteN (ByteArray.mk ( #[] ))))).fst) : Int) ≤ (100000000 : Int) ∧ (↑(List.length (unqD (Option.getD (partsW 
 s)[(6 : Nat)]? (quoteN (bstr [])))).fst.data.toList) : Int) ≤ (100000000 : Int) ∧ (ByteArray.size (lineN (atoiV (Option.getD (partsW s)[(0 : Nat)]? (itoaN (0 : Int))), atoiV (Option.getD (partsW s)[(1 
 : Nat)]? (itoaN (0 : Int))), atoiV (Option.getD (partsW s)[(2 : Nat)]? (itoaN (0 : Int))), atoiV (Option.getD (partsW s)[(3 : Nat)]? (itoaN (0 : Int))), (unqD (Option.getD (partsW s)[(4 : Nat)]? 
 (quoteN (ByteArray.mk ( #[] ))))).fst, (unqD (Option.getD (partsW s)[(5 : Nat)]? (quoteN (ByteArray.mk ( #[] ))))).fst, (unqD (Option.getD (partsW s)[(6 : Nat)]? (quoteN (bstr [])))).fst.data.toList, 
 ())) ≤ (9223372036854775807 : Nat) → Q (SV.tup [S1.agg [Cl.k (Value.int IntKind.i64 (atoiV (Option.getD (partsW s)[(0 : Nat)]? (itoaN (0 : Int))))), Cl.k (Value.int IntKind.i64 (atoiV (Option.getD 
 (partsW s)[(1 : Nat)]? (itoaN (0 : Int))))), Cl.k (Value.int IntKind.i64 (atoiV (Option.getD (partsW s)[(2 : Nat)]? (itoaN (0 : Int))))), Cl.k (Value.int IntKind.i64 (atoiV (Option.getD (partsW s)[(3 
 : Nat)]? (itoaN (0 : Int))))), Cl.k (Value.string (unqD (Option.getD (partsW s)[(4 : Nat)]? (quoteN (ByteArray.mk ( #[] ))))).fst), Cl.k (Value.string (unqD (Option.getD (partsW s)[(5 : Nat)]? (quoteN 
 (ByteArray.mk ( #[] ))))).fst), Cl.d Ty.u8 (unqD (Option.getD (partsW s)[(6 : Nat)]? (quoteN (bstr [])))).fst.data.toList], S1.c (Cl.k (Value.bool (sEq (lineN (atoiV (Option.getD (partsW s)[(0 : 
 Nat)]? (itoaN (0 : Int))), atoiV (Option.getD (partsW s)[(1 : Nat)]? (itoaN (0 : Int))), atoiV (Option.getD (partsW s)[(2 : Nat)]? (itoaN (0 : Int))), atoiV (Option.getD (partsW s)[(3 : Nat)]? (itoaN 
 (0 : Int))), (unqD (Option.getD (partsW s)[(4 : Nat)]? (quoteN (ByteArray.mk ( #[] ))))).fst, (unqD (Option.getD (partsW s)[(5 : Nat)]? (quoteN (ByteArray.mk ( #[] ))))).fst, (unqD (Option.getD 
 (partsW s)[(6 : Nat)]? (quoteN (bstr [])))).fst.data.toList, ())) s)))]) [])) (Q (SV.tup [S1.agg [Cl.k (Value.int IntKind.i64 (atoiV (Option.getD (partsW s)[(0 : Nat)]? (itoaN (0 : Int))))), Cl.k 
 (Value.int IntKind.i64 (atoiV (Option.getD (partsW s)[(1 : Nat)]? (itoaN (0 : Int))))), Cl.k (Value.int IntKind.i64 (atoiV (Option.getD (partsW s)[(2 : Nat)]? (itoaN (0 : Int))))), Cl.k (Value.int 
 IntKind.i64 (atoiV (Option.getD (partsW s)[(3 : Nat)]? (itoaN (0 : Int))))), Cl.k (Value.string (unqD (Option.getD (partsW s)[(4 : Nat)]? (quoteN (ByteArray.mk ( #[] ))))).fst), Cl.k (Value.string 
 (unqD (Option.getD (partsW s)[(5 : Nat)]? (quoteN (ByteArray.mk ( #[] ))))).fst), Cl.d Ty.u8 (unqD (Option.getD (partsW s)[(6 : Nat)]? (quoteN (bstr [])))).fst.data.toList], S1.c (Cl.k (Value.bool 
 false))]) []))))) (Q (SV.tup [S1.agg [Cl.k (Value.int IntKind.i64 (atoiV (Option.getD (partsW s)[(0 : Nat)]? (itoaN (0 : Int))))), Cl.k (Value.int IntKind.i64 (atoiV (Option.getD (partsW s)[(1 : 
 Nat)]? (itoaN (0 : Int))))), Cl.k (Value.int IntKind.i64 (atoiV (Option.getD (partsW s)[(2 : Nat)]? (itoaN (0 : Int))))), Cl.k (Value.int IntKind.i64 (0 : Int)), Cl.k (Value.string (ByteArray.mk ( #[] 
 ))), Cl.k (Value.string (ByteArray.mk ( #[] ))), Cl.k (Value.slice none (0 : Nat) (0 : Nat))], S1.c (Cl.k (Value.bool false))]) [])) (Q (SV.tup [S1.agg [Cl.k (Value.int IntKind.i64 (atoiV (Option.getD 
 (partsW s)[(0 : Nat)]? (itoaN (0 : Int))))), Cl.k (Value.int IntKind.i64 (atoiV (Option.getD (partsW s)[(1 : Nat)]? (itoaN (0 : Int))))), Cl.k (Value.int IntKind.i64 (0 : Int)), Cl.k (Value.int 
 IntKind.i64 (0 : Int)), Cl.k (Value.string (ByteArray.mk ( #[] ))), Cl.k (Value.string (ByteArray.mk ( #[] ))), Cl.k (Value.slice none (0 : Nat) (0 : Nat))], S1.c (Cl.k (Value.bool false))]) [])) (Q 
 (SV.tup [S1.agg [Cl.k (Value.int IntKind.i64 (atoiV (Option.getD (partsW s)[(0 : Nat)]? (itoaN (0 : Int))))), Cl.k (Value.int IntKind.i64 (0 : Int)), Cl.k (Value.int IntKind.i64 (0 : Int)), Cl.k 
 (Value.int IntKind.i64 (0 : Int)), Cl.k (Value.string (ByteArray.mk ( #[] ))), Cl.k (Value.string (ByteArray.mk ( #[] ))), Cl.k (Value.slice none (0 : Nat) (0 : Nat))], S1.c (Cl.k (Value.bool 
 false))]) [])) (Q (SV.tup [S1.agg [Cl.k (Value.int IntKind.i64 (0 : Int)), Cl.k (Value.int IntKind.i64 (0 : Int)), Cl.k (Value.int IntKind.i64 (0 : Int)), Cl.k (Value.int IntKind.i64 (0 : Int)), Cl.k 
 (Value.string (ByteArray.mk ( #[] ))), Cl.k (Value.string (ByteArray.mk ( #[] ))), Cl.k (Value.slice none (0 : Nat) (0 : Nat))], S1.c (Cl.k (Value.bool false))]) []))))
set_option maxRecDepth 1000000 in
theorem vc_event_eq (s : ByteArray) (Q : SV → List HO → Prop) : vFun XD1012 ⟨[], []⟩ Tryd.f31 [.str s] [] Q = vc_event s Q := by kernel_rfl
set_option maxRecDepth 100000 in
theorem w_event : ∀ args H Q, c_event args H Q → Wp Inv Tryd.prog 31 args H Q := by
  intro args H Q h
  unfold c_event at h
  split at h
  · rename_i s
    refine Wp.enter (X := XD1012) XD1012_ok ⟨[], []⟩ (fn := Tryd.f31) (by kernel_rfl) ?_
    have hv := vc_event_eq s Q
    rw [show vFun _ _ _ _ _ _ = _ from hv]
    unfold vc_event
    clear hv
    obtain ⟨hb, h⟩ := h
    rw [veil_eq] at h
    have hf : evOk s = false → (∀ (a0 a1 a2 a3 : Int) (a4 a5 : ByteArray), Q (.tup [.agg [.k (.int .i64 a0), .k (.int .i64 a1), .k (.int .i64 a2), .k (.int .i64 a3), .k (.string a4), .k (.string a5), .k (.slice none 0 0)], .c (.k (.bool false))]) []) ∧ (∀ (a0 a1 a2 a3 : Int) (a4 a5 : ByteArray) (a6 : List UInt8), Q (.tup [.agg [.k (.int .i64 a0), .k (.int .i64 a1), .k (.int .i64 a2), .k (.int .i64 a3), .k (.string a4), .k (.string a5), .d .u8 a6], .c (.k (.bool false))]) []) := fun e => by rw [e] at h; exact h
    have ht := fun (e : evOk s = true) => (show _ from (by rw [e] at h; exact h : Q (.tup [.agg [.k (.int .i64 (evOf s).1), .k (.int .i64 (evOf s).2.1), .k (.int .i64 (evOf s).2.2.1), .k (.int .i64 (evOf s).2.2.2.1), .k (.string (evOf s).2.2.2.2.1), .k (.string (evOf s).2.2.2.2.2.1), .d .u8 (evOf s).2.2.2.2.2.2.1], .c (.k (.bool true))]) []))
    clear h
    have z0 := wordW_sz s 0
    have z1 := wordW_sz s 1
    have z2 := wordW_sz s 2
    have z3 := wordW_sz s 3
    have z4 := wordW_sz s 4
    have z5 := wordW_sz s 5
    have z6 := wordW_sz s 6
    have u4 := unqD_sz (wordW s 4)
    have u5 := unqD_sz (wordW s 5)
    have u6 := unqD_sz (wordW s 6)
    intro _
    refine ⟨by decide, by decide, by decide, fun _ _ _ _ _ _ _ => ⟨rfl, by omega, fun _ _ => ?_⟩⟩
    refine @br_of _ _ _ ?_ ?_
    · intro c
      refine (hf ?_).1 _ _ _ _ _ _
      have c : ((partsW s).length : Int) > 7 := by simpa using c
      unfold evOk
      rw [decide_eq_false (by omega), Bool.false_and]
    · intro c
      have d : decide ((partsW s).length ≤ 7) = true := by
        have c : ¬ ((partsW s).length : Int) > 7 := by simpa using c
        exact decide_eq_true (by omega)
      refine ⟨by decide, by decide, by decide, by decide, by decide, by decide, by decide, by decide, by decide, by decide, by decide, by show ((wordW s 0).size : Int) ≤ _; omega, ?_⟩
      refine @br_of _ _ _ ?_ ?_
      · intro c0
        have c0 : atoiOk (wordW s 0) = true := c0
        intro i0
        refine ⟨⟨by decide, by decide⟩, by decide, by decide, by decide, by decide, by show ((wordW s 1).size : Int) ≤ _; omega, ?_⟩
        refine @br_of _ _ _ ?_ ?_
        · intro c1
          have c1 : atoiOk (wordW s 1) = true := c1
          intro i1
          refine ⟨⟨by decide, by decide⟩, by decide, by decide, by decide, by decide, by show ((wordW s 2).size : Int) ≤ _; omega, ?_⟩
          refine @br_of _ _ _ ?_ ?_
          · intro c2
            have c2 : atoiOk (wordW s 2) = true := c2
            intro i2
            refine ⟨⟨by decide, by decide⟩, by decide, by decide, by decide, by decide, by show ((wordW s 3).size : Int) ≤ _; omega, ?_⟩
            refine @br_of _ _ _ ?_ ?_
            · intro c3
              have c3 : atoiOk (wordW s 3) = true := c3
              intro i3
              refine ⟨⟨by decide, by decide⟩, by decide, by decide, by show ((wordW s 4).size : Int) ≤ _; omega, fun _ _ => ⟨by decide, by decide, by decide, by decide, by show ((wordW s 5).size : Int) ≤ _; omega, fun _ _ => ⟨by decide, by decide, by decide, by decide, by show ((wordW s 6).size : Int) ≤ _; omega, fun _ _ => ⟨by decide, by decide, ?_⟩⟩⟩⟩
              refine @br_of _ _ _ ?_ ?_
              · intro q
                have q : ((unqD (wordW s 4)).2 == 0 && ((unqD (wordW s 5)).2 == 0 && ((unqD (wordW s 6)).2 == 0 && true))) = true := q
                rw [Bool.and_true] at q
                have ev : evOk s = sEq (lineN (evOf s)) s := by
                  have q1 := (Bool.and_eq_true _ _).mp q
                  have q2 := (Bool.and_eq_true _ _).mp q1.2
                  unfold evOk
                  rw [d, c0, c1, c2, c3, q1.1, q2.1, q2.2]; rfl
                refine ⟨by show ((unqD (wordW s 4)).1.size : Int) ≤ _; omega, by show ((unqD (wordW s 5)).1.size : Int) ≤ _; omega, by show ((unqD (wordW s 6)).1.data.toList.length : Int) ≤ _; rw [← sz_list]; omega, fun _ => ?_⟩
                show Q (.tup [.agg [.k (.int .i64 (evOf s).1), .k (.int .i64 (evOf s).2.1), .k (.int .i64 (evOf s).2.2.1), .k (.int .i64 (evOf s).2.2.2.1), .k (.string (evOf s).2.2.2.2.1), .k (.string (evOf s).2.2.2.2.2.1), .d .u8 (evOf s).2.2.2.2.2.2.1], .c (.k (.bool (sEq (lineN (evOf s)) s)))]) []
                cases e : sEq (lineN (evOf s)) s
                · exact (hf (by rw [ev, e])).2 _ _ _ _ _ _ _
                · exact ht (by rw [ev, e])
              · intro q
                have q : ((unqD (wordW s 4)).2 == 0 && ((unqD (wordW s 5)).2 == 0 && ((unqD (wordW s 6)).2 == 0 && true))) = false := q
                rw [Bool.and_true] at q
                refine (hf ?_).2 _ _ _ _ _ _ _
                unfold evOk
                rw [d, c0, c1, c2, c3]
                simp only [Bool.true_and]
                rw [← Bool.and_assoc, ← Bool.and_assoc, Bool.and_assoc _ _ ((unqD (wordW s 6)).2 == 0), q, Bool.false_and]
            · intro c3
              have c3 : atoiOk (wordW s 3) = false := c3
              exact (hf (by unfold evOk; rw [c3]; simp)).1 _ _ _ _ _ _
          · intro c2
            have c2 : atoiOk (wordW s 2) = false := c2
            exact (hf (by unfold evOk; rw [c2]; simp)).1 _ _ _ _ _ _
        · intro c1
          have c1 : atoiOk (wordW s 1) = false := c1
          exact (hf (by unfold evOk; rw [c1]; simp)).1 _ _ _ _ _ _
      · intro c0
        have c0 : atoiOk (wordW s 0) = false := c0
        exact (hf (by unfold evOk; rw [c0]; simp)).1 _ _ _ _ _ _
  · exact h.elim
end Go.Proofs

namespace Go.Proofs
open Go Go.Lm Go.RowKit
def c_parse : Ct
  | [.v (.c (.k (.string s)))], [], Q => br ((parseN s).2.2 == 0) (Q (.tup [.c (.o 0), .c (.k (.int .i64 (parseN s).2.1)), .c (.k (.int .i64 (parseN s).2.2))]) [.sl 41 tEvent (parseN s).1]) (Q (.tup [.c (.k (.slice none 0 0)), .c (.k (.int .i64 (parseN s).2.1)), .c (.k (.int .i64 (parseN s).2.2))]) [])
  | _, _, _ => False
noncomputable def XD1113 : Vx := { P := Tryd.prog, ct := [(31, c_event), (47, c_atoi), (35, c_line), (45, c_words), (51, c_sjoin), (46, c_split), (30, c_cut), (29, c_count), (37, c_itoa), (11, c_unquoteR), (23, c_digit), (10, c_unquote), (13, c_quoteR), (27, c_decode), (12, c_quote), (28, c_itselfR), (26, c_itself), (24, c_hasPre), (39, c_hasPre0), (22, c_indexByte), (25, c_runeLen)], ty := tyTab, hold := [51] }
theorem XD1113_ok : CtOk Inv Tryd.prog XD1113.ct := CtOk.cons w_event (CtOk.cons w_atoi (CtOk.cons w_line (CtOk.cons w_words (CtOk.cons w_sjoin (CtOk.cons w_split (CtOk.cons w_cut (CtOk.cons w_count (CtOk.cons w_itoa (CtOk.cons w_unquoteR (CtOk.cons w_digit (CtOk.cons w_unquote (CtOk.cons w_quoteR (CtOk.cons w_decode (CtOk.cons w_quote (CtOk.cons w_itselfR (CtOk.cons w_itself (CtOk.cons w_hasPre (CtOk.cons w_hasPre0 (CtOk.cons w_indexByte (CtOk.cons w_runeLen (CtOk.nil _ _)))))))))))))))))))))
def vc_parse : (ByteArray) → (SV → List HO → Prop) → Prop :=
 fun s Q => ByteArray.size s ≤ (9223372036854775807 : Nat) → br (decide ((↑(ByteArray.size s) : Int) > (65536 : Int))) (Q (SV.tup [S1.c (Cl.k (Value.slice none (0 : Nat) (0 : Nat))), S1.c (Cl.k 
 (Value.int IntKind.i64 (0 : Int))), S1.c (Cl.k (Value.int IntKind.i64 (3 : Int)))]) []) ((ByteArray.mk ( #[(10 : UInt8)] )) = nlS ∧ (inK IntKind.i64 (↑(Lib.countByte s.data.toList (10 : UInt8)) : Int) 
 → br (decide ((↑(Lib.countByte s.data.toList (10 : UInt8)) : Int) > (2048 : Int))) (Q (SV.tup [S1.c (Cl.k (Value.slice none (0 : Nat) (0 : Nat))), S1.c (Cl.k (Value.int IntKind.i64 (0 : Int))), S1.c 
 (Cl.k (Value.int IntKind.i64 (3 : Int)))]) []) (LoopP (fun i again => br (!sEq i.fst.fst (ByteArray.mk ( #[] ))) ((ByteArray.mk ( #[(10 : UInt8)] )) = nlS ∧ ByteArray.size i.fst.fst < (4294967281 : 
 Nat) ∧ (ByteArray.size (cutA i.fst.fst) ≤ (9223372036854775807 : Nat) → ByteArray.size (cutB i.fst.fst) ≤ (9223372036854775807 : Nat) → (↑(ByteArray.size (cutA i.fst.fst)) : Int) ≤ (90000000 : Int) ∧ 
 br (veil (evOk (cutA i.fst.fst))) (inK IntKind.i64 (evOf (cutA i.fst.fst)).fst → inK IntKind.i64 (evOf (cutA i.fst.fst)).snd.fst → inK IntKind.i64 (evOf (cutA i.fst.fst)).snd.snd.fst → inK IntKind.i64 
 (evOf (cutA i.fst.fst)).snd.snd.snd.fst → ByteArray.size (evOf (cutA i.fst.fst)).snd.snd.snd.snd.fst ≤ (9223372036854775807 : Nat) → ByteArray.size (evOf (cutA i.fst.fst)).snd.snd.snd.snd.snd.fst ≤ 
 (9223372036854775807 : Nat) → List.length (evOf (cutA i.fst.fst)).snd.snd.snd.snd.snd.snd.fst ≤ (9223372036854775807 : Nat) → br (!cutC i.fst.fst) (List.length i.fst.snd.fst ≤ (9223372036854775807 : 
 Nat) → inK IntKind.i64 ((↑(List.length i.fst.snd.fst) : Int) + (1 : Int)) ∧ Q (SV.tup [S1.c (Cl.k (Value.slice none (0 : Nat) (0 : Nat))), S1.c (Cl.k (Value.int IntKind.i64 ((↑(List.length 
 i.fst.snd.fst) : Int) + (1 : Int)))), S1.c (Cl.k (Value.int IntKind.i64 (240 : Int)))]) []) ((List.length i.fst.snd.fst + List.length [evOf (cutA i.fst.fst)]) * (88 : Nat) ≤ (140737488355328 : Nat) ∧ 
 List.length i.fst.snd.fst + List.length [evOf (cutA i.fst.fst)] ≤ (9223372036854775807 : Nat) ∧ again ((cutB i.fst.fst, i.fst.snd.fst ++ [evOf (cutA i.fst.fst)], ()), ()))) ((∀ (a0 a1 a2 a3 : Int) (a4 
 a5 : ByteArray), inK IntKind.i64 a0 → inK IntKind.i64 a1 → inK IntKind.i64 a2 → inK IntKind.i64 a3 → ByteArray.size a4 ≤ (9223372036854775807 : Nat) → ByteArray.size a5 ≤ (9223372036854775807 : Nat) → 
 br (!cutC i.fst.fst) (List.length i.fst.snd.fst ≤ (9223372036854775807 : Nat) → inK IntKind.i64 ((↑(List.length i.fst.snd.fst) : Int) + (1 : Int)) ∧ Q (SV.tup [S1.c (Cl.k (Value.slice none (0 : Nat) 
 (0 : Nat))), S1.c (Cl.k (Value.int IntKind.i64 ((↑(List.length i.fst.snd.fst) : Int) + (1 : Int)))), S1.c (Cl.k (Value.int IntKind.i64 (240 : Int)))]) []) (List.length i.fst.snd.fst ≤ 
 (9223372036854775807 : Nat) → inK IntKind.i64 ((↑(List.length i.fst.snd.fst) : Int) + (1 : Int)) ∧ Q (SV.tup [S1.c (Cl.k (Value.slice none (0 : Nat) (0 : Nat))), S1.c (Cl.k (Value.int IntKind.i64 
 ((↑(List.length i.fst.snd.fst) : Int) + (1 : Int)))), S1.c (Cl.k (Value.int IntKind.i64 (240 : Int)))]) [])) ∧ ∀ (a0 a1 a2 a3 : Int) (a4 a5 : ByteArray) (a6 : List UInt8), inK IntKind.i64 a0 → inK 
 IntKind.i64 a1 → inK IntKind.i64 a2 → inK IntKind.i64 a3 → ByteArray.size a4 ≤ (9223372036854775807 : Nat) → ByteArray.size a5 ≤ (9223372036854775807 : Nat) → List.length a6 ≤ (9223372036854775807 : 
 Nat) → br (!cutC i.fst.fst) (List.length i.fst.snd.fst ≤ (9223372036854775807 : Nat) → inK IntKind.i64 ((↑(List.length i.fst.snd.fst) : Int) + (1 : Int)) ∧ Q (SV.tup [S1.c (Cl.k (Value.slice none (0 : 
 Nat) (0 : Nat))), S1.c (Cl.k (Value.int IntKind.i64 ((↑(List.length i.fst.snd.fst) : Int) + (1 : Int)))), S1.c (Cl.k (Value.int IntKind.i64 (240 : Int)))]) []) (List.length i.fst.snd.fst ≤ 
 (9223372036854775807 : Nat) → inK IntKind.i64 ((↑(List.length i.fst.snd.fst) : Int) + (1 : Int)) ∧ Q (SV.tup [S1.c (Cl.k (Value.slice none (0 : Nat) (0 : Nat))), S1.c (Cl.k (Value.int IntKind.i64 
 ((↑(List.length i.fst.snd.fst) : Int) + (1 : Int)))), S1.c (Cl.k (Value.int IntKind.i64 (240 : Int)))]) [])))) (Q (SV.tup [S1.c (Cl.o (0 : Nat)), S1.c (Cl.k (Value.int IntKind.i64 (0 : Int))), S1.c 
 (Cl.k (Value.int IntKind.i64 (0 : Int)))]) [HO.sl (41 : TypeId) tEvent i.fst.snd.fst])) ((s, [], ()), ()))))
set_option maxRecDepth 1000000 in
theorem vc_parse_eq (s : ByteArray) (Q : SV → List HO → Prop) : vFun XD1113 ⟨[(5, ⟨[(0, .str), (5, .own 41 tEvent)], []⟩)], []⟩ Tryd.f14 [.str s] [] Q = vc_parse s Q := by kernel_rfl
set_option maxRecDepth 100000 in
theorem w_parse : ∀ args H Q, c_parse args H Q → Wp Inv Tryd.prog 14 args H Q := by
  intro args H Q h
  unfold c_parse at h
  split at h
  · rename_i s
    refine Wp.enter (X := XD1113) XD1113_ok ⟨[(5, ⟨[(0, .str), (5, .own 41 tEvent)], []⟩)], []⟩ (fn := Tryd.f14) (by kernel_rfl) ?_
    have hv := vc_parse_eq s Q
    rw [show vFun _ _ _ _ _ _ = _ from hv]
    unfold vc_parse
    clear hv
    have ok : ∀ l, parseN s = (l, 0, 0) → Q (.tup [.c (.o 0), .c (.k (.int .i64 0)), .c (.k (.int .i64 0))]) [.sl 41 tEvent l] := fun l e => by rw [e] at h; exact h
    have bad : ∀ (n c : Int), c ≠ 0 → parseN s = ([], n, c) → Q (.tup [.c (.k (.slice none 0 0)), .c (.k (.int .i64 n)), .c (.k (.int .i64 c))]) [] := fun n c hc e => by
      rw [e] at h
      have e2 : (c == 0) = false := by simpa using hc
      simp only [e2] at h
      exact h
    clear h
    intro hs
    refine @br_of _ _ _ ?_ ?_
    · intro c1
      exact bad 0 3 (by decide) (by unfold parseN; rw [c1, Bool.true_or, if_pos rfl])
    · intro c1
      refine ⟨rfl, fun _ => ?_⟩
      refine @br_of _ _ _ ?_ ?_
      · intro c2
        exact bad 0 3 (by decide) (by unfold parseN; rw [c2, Bool.or_true, if_pos rfl])
      · intro c2
        have hp : parseN s = parseGo s.size [] s := by unfold parseN; rw [c1, c2, Bool.or_false, if_neg (by decide)]
        have d1 : ¬ (s.size : Int) > 65536 := by simpa using c1
        refine LoopP.intro (fun i => parseGo i.1.1.size i.1.2.1 i.1.1 = parseN s ∧ i.1.1.size + i.1.2.1.length ≤ 65536) (fun i => i.1.1.size) ⟨hp.symm, by show s.size + 0 ≤ _; omega⟩ ?_
        rintro ⟨⟨z, l, _⟩, _⟩ ⟨h1, h2⟩
        simp only at h1 h2 ⊢
        refine @br_of _ _ _ ?_ ?_
        · intro c3
          refine ⟨trivial, by omega, fun _ _ => ⟨by have := cutA_sz z; omega, ?_⟩⟩
          rw [veil_eq]
          refine @br_of _ _ _ ?_ ?_
          · intro c4
            intro _ _ _ _ _ _ _
            refine @br_of _ _ _ ?_ ?_
            · intro c5
              rw [parse_bad c3 (by rw [c5, Bool.true_or])] at h1
              exact fun _ => ⟨by unfold inK; omega, bad _ _ (by decide) h1.symm⟩
            · intro c5
              have hb : (!cutC z || !evOk (cutA z)) = false := by rw [c5, c4]; rfl
              rw [parse_step c3 hb] at h1
              have hlt := cut_lt (s := z) (by simpa using c5)
              refine ⟨by show (l.length + 1) * 88 ≤ _; omega, by show l.length + 1 ≤ _; omega, ⟨h1, ?_⟩, hlt⟩
              rw [List.length_append]
              show _ + (l.length + 1) ≤ _
              omega
          · intro c4
            have hb : (!cutC z || !evOk (cutA z)) = true := by rw [c4]; simp
            rw [parse_bad c3 hb] at h1
            have fin : l.length ≤ 9223372036854775807 → inK .i64 ((l.length : Int) + 1) ∧ Q (.tup [.c (.k (.slice none 0 0)), .c (.k (.int .i64 ((l.length : Int) + 1))), .c (.k (.int .i64 240))]) [] := fun _ => ⟨by unfold inK; omega, bad _ _ (by decide) h1.symm⟩
            exact ⟨fun _ _ _ _ _ _ _ _ _ _ _ _ => br_of (fun _ => fin) (fun _ => fin), fun _ _ _ _ _ _ _ _ _ _ _ _ _ _ => br_of (fun _ => fin) (fun _ => fin)⟩
        · intro c3
          rw [parse_end c3] at h1
          exact ok _ h1.symm
  · exact h.elim
end Go.Proofs

namespace Go.Proofs
open Go Go.Lm Go.RowKit
abbrev shownS : ByteArray := ⟨#[57, 32, 48, 32, 48, 32, 48, 32, 39, 47, 100, 39, 10]⟩
def c_shown : Ct
  | [], [], Q => Q (.bool true) []
  | _, _, _ => False
noncomputable def XD1214 : Vx := { P := Tryd.prog, ct := [(14, c_parse), (31, c_event), (47, c_atoi), (35, c_line), (45, c_words), (51, c_sjoin), (46, c_split), (30, c_cut), (29, c_count), (37, c_itoa), (11, c_unquoteR), (23, c_digit), (10, c_unquote), (13, c_quoteR), (27, c_decode), (12, c_quote), (28, c_itselfR), (26, c_itself), (24, c_hasPre), (39, c_hasPre0), (22, c_indexByte), (25, c_runeLen)], ty := tyTab, hold := [51] }
theorem XD1214_ok : CtOk Inv Tryd.prog XD1214.ct := CtOk.cons w_parse (CtOk.cons w_event (CtOk.cons w_atoi (CtOk.cons w_line (CtOk.cons w_words (CtOk.cons w_sjoin (CtOk.cons w_split (CtOk.cons w_cut (CtOk.cons w_count (CtOk.cons w_itoa (CtOk.cons w_unquoteR (CtOk.cons w_digit (CtOk.cons w_unquote (CtOk.cons w_quoteR (CtOk.cons w_decode (CtOk.cons w_quote (CtOk.cons w_itselfR (CtOk.cons w_itself (CtOk.cons w_hasPre (CtOk.cons w_hasPre0 (CtOk.cons w_indexByte (CtOk.cons w_runeLen (CtOk.nil _ _))))))))))))))))))))))
def vc_shown : (SV → List HO → Prop) → Prop :=
 fun Q => (↑(5 : Nat) : Int) ≤ (1000000000 : Int) ∧ ((0 : Nat) ≤ (9223372036854775807 : Nat) → inK IntKind.i64 (unqD (ByteArray.mk ( #[(39 : UInt8), (37 : UInt8), (54 : UInt8), (49 : UInt8), (39 : 
 UInt8)] ))).snd → inK IntKind.i64 (parseN (ByteArray.mk ( #[(57 : UInt8), (32 : UInt8), (48 : UInt8), (32 : UInt8), (48 : UInt8), (32 : UInt8), (48 : UInt8), (32 : UInt8), (39 : UInt8), (47 : UInt8), 
 (100 : UInt8), (39 : UInt8), (10 : UInt8)] ))).snd.fst → inK IntKind.i64 (parseN (ByteArray.mk ( #[(57 : UInt8), (32 : UInt8), (48 : UInt8), (32 : UInt8), (48 : UInt8), (32 : UInt8), (48 : UInt8), (32 
 : UInt8), (39 : UInt8), (47 : UInt8), (100 : UInt8), (39 : UInt8), (10 : UInt8)] ))).snd.snd → (↑(4 : Nat) : Int) ≤ (1000000000 : Int) ∧ ((8 : Nat) ≤ (9223372036854775807 : Nat) → (↑(1 : Nat) : Int) ≤ 
 (1000000000 : Int) ∧ ((5 : Nat) ≤ (9223372036854775807 : Nat) → (1 : Nat) ≤ (9223372036854775807 : Nat) → (0 : Int) ≤ (0 : Int) ∧ (0 : Int) < (↑(1 : Nat) : Int) ∧ (0 : Int) ≤ (0 : Int) ∧ (0 : Int) < 
 (↑(1 : Nat) : Int) ∧ (Ty.ok tEvent (ixD tEvent (parseN (ByteArray.mk ( #[(57 : UInt8), (32 : UInt8), (48 : UInt8), (32 : UInt8), (48 : UInt8), (32 : UInt8), (48 : UInt8), (32 : UInt8), (39 : UInt8), 
 (47 : UInt8), (100 : UInt8), (39 : UInt8), (10 : UInt8)] ))).fst (0 : Int)) → (0 : Int) ≤ (0 : Int) ∧ (0 : Int) < (↑(1 : Nat) : Int) ∧ (0 : Int) ≤ (0 : Int) ∧ (0 : Int) < (↑(1 : Nat) : Int) ∧ (Ty.ok 
 tEvent (ixD tEvent (parseN (ByteArray.mk ( #[(57 : UInt8), (32 : UInt8), (48 : UInt8), (32 : UInt8), (48 : UInt8), (32 : UInt8), (48 : UInt8), (32 : UInt8), (39 : UInt8), (47 : UInt8), (100 : UInt8), 
 (39 : UInt8), (10 : UInt8)] ))).fst (0 : Int)) → Q (SV.v (S1.c (Cl.k (Value.bool (sEq (ixD tEvent (parseN (ByteArray.mk ( #[(57 : UInt8), (32 : UInt8), (48 : UInt8), (32 : UInt8), (48 : UInt8), (32 : 
 UInt8), (48 : UInt8), (32 : UInt8), (39 : UInt8), (47 : UInt8), (100 : UInt8), (39 : UInt8), (10 : UInt8)] ))).fst (0 : Int)).snd.snd.snd.snd.fst (ByteArray.mk ( #[(47 : UInt8), (100 : UInt8)] ))))))) 
 [])))))
set_option maxRecDepth 1000000 in
theorem vc_shown_eq  (Q : SV → List HO → Prop) : vFun XD1214 ⟨[], []⟩ Tryd.f9 [] [] Q = vc_shown  Q := by kernel_rfl
set_option maxRecDepth 100000 in
theorem w_shown : ∀ args H Q, c_shown args H Q → Wp Inv Tryd.prog 9 args H Q := by
  intro args H Q h
  unfold c_shown at h
  split at h
  · skip
    refine Wp.enter (X := XD1214) XD1214_ok ⟨[], []⟩ (fn := Tryd.f9) (by kernel_rfl) ?_
    have hv := vc_shown_eq  Q
    rw [show vFun _ _ _ _ _ _ = _ from hv]
    unfold vc_shown
    clear hv
    have e : sEq (ixD tEvent (parseN shownS).1 0).2.2.2.2.1 ⟨#[47, 100]⟩ = true := by decide +kernel
    have h1 : Q (SV.v (S1.c (Cl.k (Value.bool (sEq (ixD tEvent (parseN shownS).1 0).2.2.2.2.1 ⟨#[47, 100]⟩))))) [] := by rw [e]; exact h
    refine ⟨by decide, fun _ _ _ _ => ⟨by decide, fun _ => ⟨by decide, fun _ _ => ⟨by decide, by decide, by decide, by decide, fun _ => ⟨by decide, by decide, by decide, by decide, fun _ => ?_⟩⟩⟩⟩⟩
    exact h1
  · exact h.elim
end Go.Proofs

namespace Go.Proofs
open Go Go.Lm Go.RowKit
theorem cut_le (s : ByteArray) : (s.extract 0 (Int.toNat (boundV (some 1000) (s.size : Int)))).size ≤ 1000 := by
  rw [sz_list, ext_lst, List.length_drop, List.length_take]
  show min 1000 _ - 0 ≤ 1000
  omega
def c_lawQuotes : Ct
  | [.v (.c (.k (.string s))), .v (.c (.k (.string t)))], [], Q => Q (.bool true) []
  | _, _, _ => False
noncomputable def XD1315 : Vx := { P := Tryd.prog, ct := [(9, c_shown), (14, c_parse), (31, c_event), (47, c_atoi), (35, c_line), (45, c_words), (51, c_sjoin), (46, c_split), (30, c_cut), (29, c_count), (37, c_itoa), (11, c_unquoteR), (23, c_digit), (10, c_unquote), (13, c_quoteR), (27, c_decode), (12, c_quote), (28, c_itselfR), (26, c_itself), (24, c_hasPre), (39, c_hasPre0), (22, c_indexByte), (25, c_runeLen)], ty := tyTab, hold := [51] }
theorem XD1315_ok : CtOk Inv Tryd.prog XD1315.ct := CtOk.cons w_shown (CtOk.cons w_parse (CtOk.cons w_event (CtOk.cons w_atoi (CtOk.cons w_line (CtOk.cons w_words (CtOk.cons w_sjoin (CtOk.cons w_split (CtOk.cons w_cut (CtOk.cons w_count (CtOk.cons w_itoa (CtOk.cons w_unquoteR (CtOk.cons w_digit (CtOk.cons w_unquote (CtOk.cons w_quoteR (CtOk.cons w_decode (CtOk.cons w_quote (CtOk.cons w_itselfR (CtOk.cons w_itself (CtOk.cons w_hasPre (CtOk.cons w_hasPre0 (CtOk.cons w_indexByte (CtOk.cons w_runeLen (CtOk.nil _ _)))))))))))))))))))))))
def vc_lawQuotes : (ByteArray) → (ByteArray) → (SV → List HO → Prop) → Prop :=
 fun s t Q => ByteArray.size s ≤ (9223372036854775807 : Nat) → ByteArray.size t ≤ (9223372036854775807 : Nat) → br (decide ((↑(ByteArray.size s) : Int) > (1000 : Int))) ((0 : Int) ≤ boundV none (0 : 
 Int) ∧ boundV none (0 : Int) ≤ boundV (some (1000 : Int)) (↑(ByteArray.size s) : Int) ∧ boundV (some (1000 : Int)) (↑(ByteArray.size s) : Int) ≤ (↑(ByteArray.size s) : Int) ∧ br (decide 
 ((↑(ByteArray.size t) : Int) > (1000 : Int))) ((0 : Int) ≤ boundV none (0 : Int) ∧ boundV none (0 : Int) ≤ boundV (some (1000 : Int)) (↑(ByteArray.size t) : Int) ∧ boundV (some (1000 : Int)) 
 (↑(ByteArray.size t) : Int) ≤ (↑(ByteArray.size t) : Int) ∧ (↑(ByteArray.size (ByteArray.extract t (0 : Nat) (Int.toNat (boundV (some (1000 : Int)) (↑(ByteArray.size t) : Int))))) : Int) ≤ (1000000000 
 : Int) ∧ (ByteArray.size (unqD (ByteArray.extract t (0 : Nat) (Int.toNat (boundV (some (1000 : Int)) (↑(ByteArray.size t) : Int))))).fst ≤ (9223372036854775807 : Nat) → inK IntKind.i64 (unqD 
 (ByteArray.extract t (0 : Nat) (Int.toNat (boundV (some (1000 : Int)) (↑(ByteArray.size t) : Int))))).snd → (↑(ByteArray.size (ByteArray.extract t (0 : Nat) (Int.toNat (boundV (some (1000 : Int)) 
 (↑(ByteArray.size t) : Int))))) : Int) ≤ (1000000000 : Int) ∧ (ByteArray.size (unqR (ByteArray.extract t (0 : Nat) (Int.toNat (boundV (some (1000 : Int)) (↑(ByteArray.size t) : Int))))).fst ≤ 
 (9223372036854775807 : Nat) → inK IntKind.i64 (unqR (ByteArray.extract t (0 : Nat) (Int.toNat (boundV (some (1000 : Int)) (↑(ByteArray.size t) : Int))))).snd → (↑(ByteArray.size (ByteArray.extract s 
 (0 : Nat) (Int.toNat (boundV (some (1000 : Int)) (↑(ByteArray.size s) : Int))))) : Int) ≤ (1000000000 : Int) ∧ (ByteArray.size (quoteN (ByteArray.extract s (0 : Nat) (Int.toNat (boundV (some (1000 : 
 Int)) (↑(ByteArray.size s) : Int))))) ≤ (9223372036854775807 : Nat) → (↑(ByteArray.size (ByteArray.extract s (0 : Nat) (Int.toNat (boundV (some (1000 : Int)) (↑(ByteArray.size s) : Int))))) : Int) ≤ 
 (1000000000 : Int) ∧ (ByteArray.size (quoteN (ByteArray.extract s (0 : Nat) (Int.toNat (boundV (some (1000 : Int)) (↑(ByteArray.size s) : Int))))) ≤ (9223372036854775807 : Nat) → br (sEq (quoteN 
 (ByteArray.extract s (0 : Nat) (Int.toNat (boundV (some (1000 : Int)) (↑(ByteArray.size s) : Int))))) (quoteN (ByteArray.extract s (0 : Nat) (Int.toNat (boundV (some (1000 : Int)) (↑(ByteArray.size s) 
 : Int)))))) (br (sEq (unqD (ByteArray.extract t (0 : Nat) (Int.toNat (boundV (some (1000 : Int)) (↑(ByteArray.size t) : Int))))).fst (unqR (ByteArray.extract t (0 : Nat) (Int.toNat (boundV (some (1000 
 : Int)) (↑(ByteArray.size t) : Int))))).fst) (Q (SV.v (S1.c (Cl.k (Value.bool ((unqD (ByteArray.extract t (0 : Nat) (Int.toNat (boundV (some (1000 : Int)) (↑(ByteArray.size t) : Int))))).snd == (unqR 
 (ByteArray.extract t (0 : Nat) (Int.toNat (boundV (some (1000 : Int)) (↑(ByteArray.size t) : Int))))).snd))))) []) (Q (SV.v (S1.c (Cl.k (Value.bool false)))) [])) (Q (SV.v (S1.c (Cl.k (Value.bool 
 false)))) [])))))) ((↑(ByteArray.size t) : Int) ≤ (1000000000 : Int) ∧ (ByteArray.size (unqD t).fst ≤ (9223372036854775807 : Nat) → inK IntKind.i64 (unqD t).snd → (↑(ByteArray.size t) : Int) ≤ 
 (1000000000 : Int) ∧ (ByteArray.size (unqR t).fst ≤ (9223372036854775807 : Nat) → inK IntKind.i64 (unqR t).snd → (↑(ByteArray.size (ByteArray.extract s (0 : Nat) (Int.toNat (boundV (some (1000 : Int)) 
 (↑(ByteArray.size s) : Int))))) : Int) ≤ (1000000000 : Int) ∧ (ByteArray.size (quoteN (ByteArray.extract s (0 : Nat) (Int.toNat (boundV (some (1000 : Int)) (↑(ByteArray.size s) : Int))))) ≤ 
 (9223372036854775807 : Nat) → (↑(ByteArray.size (ByteArray.extract s (0 : Nat) (Int.toNat (boundV (some (1000 : Int)) (↑(ByteArray.size s) : Int))))) : Int) ≤ (1000000000 : Int) ∧ (ByteArray.size 
 (quoteN (ByteArray.extract s (0 : Nat) (Int.toNat (boundV (some (1000 : Int)) (↑(ByteArray.size s) : Int))))) ≤ (9223372036854775807 : Nat) → br (sEq (quoteN (ByteArray.extract s (0 : Nat) (Int.toNat 
 (boundV (some (1000 : Int)) (↑(ByteArray.size s) : Int))))) (quoteN (ByteArray.extract s (0 : Nat) (Int.toNat (boundV (some (1000 : Int)) (↑(ByteArray.size s) : Int)))))) (br (sEq (unqD t).fst (unqR 
 t).fst) (Q (SV.v (S1.c (Cl.k (Value.bool ((unqD t).snd == (unqR t).snd))))) []) (Q (SV.v (S1.c (Cl.k (Value.bool false)))) [])) (Q (SV.v (S1.c (Cl.k (Value.bool false)))) []))))))) (br (decide 
 ((↑(ByteArray.size t) : Int) > (1000 : Int))) ((0 : Int) ≤ boundV none (0 : Int) ∧ boundV none (0 : Int) ≤ boundV (some (1000 : Int)) (↑(ByteArray.size t) : Int) ∧ boundV (some (1000 : Int)) 
 (↑(ByteArray.size t) : Int) ≤ (↑(ByteArray.size t) : Int) ∧ (↑(ByteArray.size (ByteArray.extract t (0 : Nat) (Int.toNat (boundV (some (1000 : Int)) (↑(ByteArray.size t) : Int))))) : Int) ≤ (1000000000 
 : Int) ∧ (ByteArray.size (unqD (ByteArray.extract t (0 : Nat) (Int.toNat (boundV (some (1000 : Int)) (↑(ByteArray.size t) : Int))))).fst ≤ (9223372036854775807 : Nat) → inK IntKind.i64 (unqD 
 (ByteArray.extract t (0 : Nat) (Int.toNat (boundV (some (1000 : Int)) (↑(ByteArray.size t) : Int))))).snd → (↑(ByteArray.size (ByteArray.extract t (0 : Nat) (Int.toNat (boundV (some (1000 : Int)) 
 (↑(ByteArray.size t) : Int))))) : Int) ≤ (1000000000 : Int) ∧ (ByteArray.size (unqR (ByteArray.extract t (0 : Nat) (Int.toNat (boundV (some (1000 : Int)) (↑(ByteArray.size t) : Int))))).fst ≤ 
 (9223372036854775807 : Nat) → inK IntKind.i64 (unqR (ByteArray.extract t (0 : Nat) (Int.toNat (boundV (some (1000 : Int)) (↑(ByteArray.size t) : Int))))).snd → (↑(ByteArray.size s) : Int) ≤ 
 (1000000000 : Int) ∧ (ByteArray.size (quoteN s) ≤ (9223372036854775807 : Nat) → (↑(ByteArray.size s) : Int) ≤ (1000000000 : Int) ∧ (ByteArray.size (quoteN s) ≤ (9223372036854775807 : Nat) → br (sEq 
 (quoteN s) (quoteN s)) (br (sEq (unqD (ByteArray.extract t (0 : Nat) (Int.toNat (boundV (some (1000 : Int)) (↑(ByteArray.size t) : Int))))).fst (unqR (ByteArray.extract t (0 : Nat) (Int.toNat (boundV 
 (some (1000 : Int)) (↑(ByteArray.size t) : Int))))).fst) (Q (SV.v (S1.c (Cl.k (Value.bool ((unqD (ByteArray.extract t (0 : Nat) (Int.toNat (boundV (some (1000 : Int)) (↑(ByteArray.size t) : 
 Int))))).snd == (unqR (ByteArray.extract t (0 : Nat) (Int.toNat (boundV (some (1000 : Int)) (↑(ByteArray.size t) : Int))))).snd))))) []) (Q (SV.v (S1.c (Cl.k (Value.bool false)))) [])) (Q (SV.v (S1.c 
 (Cl.k (Value.bool false)))) [])))))) ((↑(ByteArray.size t) : Int) ≤ (1000000000 : Int) ∧ (ByteArray.size (unqD t).fst ≤ (9223372036854775807 : Nat) → inK IntKind.i64 (unqD t).snd → (↑(ByteArray.size 
 t) : Int) ≤ (1000000000 : Int) ∧ (ByteArray.size (unqR t).fst ≤ (9223372036854775807 : Nat) → inK IntKind.i64 (unqR t).snd → (↑(ByteArray.size s) : Int) ≤ (1000000000 : Int) ∧ (ByteArray.size (quoteN 
 s) ≤ (9223372036854775807 : Nat) → (↑(ByteArray.size s) : Int) ≤ (1000000000 : Int) ∧ (ByteArray.size (quoteN s) ≤ (9223372036854775807 : Nat) → br (sEq (quoteN s) (quoteN s)) (br (sEq (unqD t).fst 
 (unqR t).fst) (Q (SV.v (S1.c (Cl.k (Value.bool ((unqD t).snd == (unqR t).snd))))) []) (Q (SV.v (S1.c (Cl.k (Value.bool false)))) [])) (Q (SV.v (S1.c (Cl.k (Value.bool false)))) [])))))))
set_option maxRecDepth 1000000 in
theorem vc_lawQuotes_eq (s : ByteArray) (t : ByteArray) (Q : SV → List HO → Prop) : vFun XD1315 ⟨[], []⟩ Tryd.f3 [.str s, .str t] [] Q = vc_lawQuotes s t Q := by kernel_rfl
set_option maxRecDepth 100000 in
theorem w_lawQuotes : ∀ args H Q, c_lawQuotes args H Q → Wp Inv Tryd.prog 3 args H Q := by
  intro args H Q h
  unfold c_lawQuotes at h
  split at h
  · rename_i s t
    refine Wp.enter (X := XD1315) XD1315_ok ⟨[], []⟩ (fn := Tryd.f3) (by kernel_rfl) ?_
    have hv := vc_lawQuotes_eq s t Q
    rw [show vFun _ _ _ _ _ _ = _ from hv]
    unfold vc_lawQuotes
    clear hv
    intro _ _
    have es : (s.extract 0 (Int.toNat (boundV (some 1000) (s.size : Int)))).size ≤ 1000 := cut_le s
    have et : (t.extract 0 (Int.toNat (boundV (some 1000) (t.size : Int)))).size ≤ 1000 := cut_le t
    refine @br_of _ _ _ ?_ ?_
    · intro c1
      have c1 : (s.size : Int) > 1000 := by simpa using c1
      refine ⟨by decide, by show (0 : Int) ≤ 1000; decide, by show (1000 : Int) ≤ s.size; omega, ?_⟩
      refine @br_of _ _ _ ?_ ?_
      · intro c2
        have c2 : (t.size : Int) > 1000 := by simpa using c2
        refine ⟨by decide, by show (0 : Int) ≤ 1000; decide, by show (1000 : Int) ≤ t.size; omega, ?_⟩
        refine ⟨by omega, fun _ _ => ⟨by omega, fun _ _ => ⟨by omega, fun _ => ⟨by omega, fun _ => ?_⟩⟩⟩⟩
        rw [unq_eq, sEq_self, sEq_self, beq_self_eq_true]
        exact h
      · intro c2
        have c2 : ¬ (t.size : Int) > 1000 := by simpa using c2
        refine ⟨by omega, fun _ _ => ⟨by omega, fun _ _ => ⟨by omega, fun _ => ⟨by omega, fun _ => ?_⟩⟩⟩⟩
        rw [unq_eq, sEq_self, sEq_self, beq_self_eq_true]
        exact h
    · intro c1
      have c1 : ¬ (s.size : Int) > 1000 := by simpa using c1
      refine @br_of _ _ _ ?_ ?_
      · intro c2
        have c2 : (t.size : Int) > 1000 := by simpa using c2
        refine ⟨by decide, by show (0 : Int) ≤ 1000; decide, by show (1000 : Int) ≤ t.size; omega, ?_⟩
        refine ⟨by omega, fun _ _ => ⟨by omega, fun _ _ => ⟨by omega, fun _ => ⟨by omega, fun _ => ?_⟩⟩⟩⟩
        rw [unq_eq, sEq_self, sEq_self, beq_self_eq_true]
        exact h
      · intro c2
        have c2 : ¬ (t.size : Int) > 1000 := by simpa using c2
        refine ⟨by omega, fun _ _ => ⟨by omega, fun _ _ => ⟨by omega, fun _ => ⟨by omega, fun _ => ?_⟩⟩⟩⟩
        rw [unq_eq, sEq_self, sEq_self, beq_self_eq_true]
        exact h
  · exact h.elim
def c_lawPlain : Ct
  | [.v (.c (.k (.string s)))], [], Q => Q (.bool true) []
  | _, _, _ => False
noncomputable def XD1316 : Vx := { P := Tryd.prog, ct := [(3, c_lawQuotes), (9, c_shown), (14, c_parse), (31, c_event), (47, c_atoi), (35, c_line), (45, c_words), (51, c_sjoin), (46, c_split), (30, c_cut), (29, c_count), (37, c_itoa), (11, c_unquoteR), (23, c_digit), (10, c_unquote), (13, c_quoteR), (27, c_decode), (12, c_quote), (28, c_itselfR), (26, c_itself), (24, c_hasPre), (39, c_hasPre0), (22, c_indexByte), (25, c_runeLen)], ty := tyTab, hold := [51] }
theorem XD1316_ok : CtOk Inv Tryd.prog XD1316.ct := CtOk.cons w_lawQuotes (CtOk.cons w_shown (CtOk.cons w_parse (CtOk.cons w_event (CtOk.cons w_atoi (CtOk.cons w_line (CtOk.cons w_words (CtOk.cons w_sjoin (CtOk.cons w_split (CtOk.cons w_cut (CtOk.cons w_count (CtOk.cons w_itoa (CtOk.cons w_unquoteR (CtOk.cons w_digit (CtOk.cons w_unquote (CtOk.cons w_quoteR (CtOk.cons w_decode (CtOk.cons w_quote (CtOk.cons w_itselfR (CtOk.cons w_itself (CtOk.cons w_hasPre (CtOk.cons w_hasPre0 (CtOk.cons w_indexByte (CtOk.cons w_runeLen (CtOk.nil _ _))))))))))))))))))))))))
def vc_lawPlain : (ByteArray) → (SV → List HO → Prop) → Prop :=
 fun s Q => ByteArray.size s ≤ (9223372036854775807 : Nat) → br (decide ((↑(ByteArray.size s) : Int) > (1000 : Int))) ((0 : Int) ≤ boundV none (0 : Int) ∧ boundV none (0 : Int) ≤ boundV (some (1000 : 
 Int)) (↑(ByteArray.size s) : Int) ∧ boundV (some (1000 : Int)) (↑(ByteArray.size s) : Int) ≤ (↑(ByteArray.size s) : Int) ∧ (↑(ByteArray.size (ByteArray.extract s (0 : Nat) (Int.toNat (boundV (some 
 (1000 : Int)) (↑(ByteArray.size s) : Int))))) : Int) ≤ (1000000000 : Int) ∧ (ByteArray.size (quoteN (ByteArray.extract s (0 : Nat) (Int.toNat (boundV (some (1000 : Int)) (↑(ByteArray.size s) : 
 Int))))) ≤ (9223372036854775807 : Nat) → (↑(ByteArray.size (quoteN (ByteArray.extract s (0 : Nat) (Int.toNat (boundV (some (1000 : Int)) (↑(ByteArray.size s) : Int)))))) : Int) ≤ (1000000000 : Int) ∧ 
 (ByteArray.size (unqD (quoteN (ByteArray.extract s (0 : Nat) (Int.toNat (boundV (some (1000 : Int)) (↑(ByteArray.size s) : Int)))))).fst ≤ (9223372036854775807 : Nat) → inK IntKind.i64 (unqD (quoteN 
 (ByteArray.extract s (0 : Nat) (Int.toNat (boundV (some (1000 : Int)) (↑(ByteArray.size s) : Int)))))).snd → br ((unqD (quoteN (ByteArray.extract s (0 : Nat) (Int.toNat (boundV (some (1000 : Int)) 
 (↑(ByteArray.size s) : Int)))))).snd != (0 : Int)) (Q (SV.v (S1.c (Cl.k (Value.bool false)))) []) (br (!sEq (unqD (quoteN (ByteArray.extract s (0 : Nat) (Int.toNat (boundV (some (1000 : Int)) 
 (↑(ByteArray.size s) : Int)))))).fst (ByteArray.extract s (0 : Nat) (Int.toNat (boundV (some (1000 : Int)) (↑(ByteArray.size s) : Int))))) (Q (SV.v (S1.c (Cl.k (Value.bool false)))) []) (br (decide 
 ((↑(ByteArray.size (quoteN (ByteArray.extract s (0 : Nat) (Int.toNat (boundV (some (1000 : Int)) (↑(ByteArray.size s) : Int)))))) : Int) < (2 : Int))) (Q (SV.v (S1.c (Cl.k (Value.bool false)))) []) 
 ((0 : Int) ≤ (0 : Int) ∧ (0 : Int) < (↑(ByteArray.size (quoteN (ByteArray.extract s (0 : Nat) (Int.toNat (boundV (some (1000 : Int)) (↑(ByteArray.size s) : Int)))))) : Int) ∧ inK IntKind.i64 
 ((↑(ByteArray.size (quoteN (ByteArray.extract s (0 : Nat) (Int.toNat (boundV (some (1000 : Int)) (↑(ByteArray.size s) : Int)))))) : Int) - (1 : Int)) ∧ (0 : Int) ≤ (↑(ByteArray.size (quoteN 
 (ByteArray.extract s (0 : Nat) (Int.toNat (boundV (some (1000 : Int)) (↑(ByteArray.size s) : Int)))))) : Int) - (1 : Int) ∧ (↑(ByteArray.size (quoteN (ByteArray.extract s (0 : Nat) (Int.toNat (boundV 
 (some (1000 : Int)) (↑(ByteArray.size s) : Int)))))) : Int) - (1 : Int) < (↑(ByteArray.size (quoteN (ByteArray.extract s (0 : Nat) (Int.toNat (boundV (some (1000 : Int)) (↑(ByteArray.size s) : 
 Int)))))) : Int) ∧ br ((↑(UInt8.toNat (byteAt (quoteN (ByteArray.extract s (0 : Nat) (Int.toNat (boundV (some (1000 : Int)) (↑(ByteArray.size s) : Int))))) ((↑(ByteArray.size (quoteN 
 (ByteArray.extract s (0 : Nat) (Int.toNat (boundV (some (1000 : Int)) (↑(ByteArray.size s) : Int)))))) : Int) - (1 : Int)))) : Int) != (39 : Int)) (Q (SV.v (S1.c (Cl.k (Value.bool false)))) []) (LoopP 
 (fun i again => inK IntKind.i64 ((↑(ByteArray.size (quoteN (ByteArray.extract s (0 : Nat) (Int.toNat (boundV (some (1000 : Int)) (↑(ByteArray.size s) : Int)))))) : Int) - (1 : Int)) ∧ br (decide 
 (i.fst.fst < (↑(ByteArray.size (quoteN (ByteArray.extract s (0 : Nat) (Int.toNat (boundV (some (1000 : Int)) (↑(ByteArray.size s) : Int)))))) : Int) - (1 : Int))) ((0 : Int) ≤ i.fst.fst ∧ i.fst.fst < 
 (↑(ByteArray.size (quoteN (ByteArray.extract s (0 : Nat) (Int.toNat (boundV (some (1000 : Int)) (↑(ByteArray.size s) : Int)))))) : Int) ∧ br (decide ((↑(UInt8.toNat (byteAt (quoteN (ByteArray.extract 
 s (0 : Nat) (Int.toNat (boundV (some (1000 : Int)) (↑(ByteArray.size s) : Int))))) i.fst.fst)) : Int) < (33 : Int))) (Q (SV.v (S1.c (Cl.k (Value.bool false)))) []) ((0 : Int) ≤ i.fst.fst ∧ i.fst.fst < 
 (↑(ByteArray.size (quoteN (ByteArray.extract s (0 : Nat) (Int.toNat (boundV (some (1000 : Int)) (↑(ByteArray.size s) : Int)))))) : Int) ∧ br ((↑(UInt8.toNat (byteAt (quoteN (ByteArray.extract s (0 : 
 Nat) (Int.toNat (boundV (some (1000 : Int)) (↑(ByteArray.size s) : Int))))) i.fst.fst)) : Int) == (127 : Int)) (Q (SV.v (S1.c (Cl.k (Value.bool false)))) []) ((0 : Int) ≤ i.fst.fst ∧ i.fst.fst < 
 (↑(ByteArray.size (quoteN (ByteArray.extract s (0 : Nat) (Int.toNat (boundV (some (1000 : Int)) (↑(ByteArray.size s) : Int)))))) : Int) ∧ br ((↑(UInt8.toNat (byteAt (quoteN (ByteArray.extract s (0 : 
 Nat) (Int.toNat (boundV (some (1000 : Int)) (↑(ByteArray.size s) : Int))))) i.fst.fst)) : Int) == (39 : Int)) (Q (SV.v (S1.c (Cl.k (Value.bool false)))) []) (inK IntKind.i64 (i.fst.fst + (1 : Int)) ∧ 
 again ((i.fst.fst + (1 : Int), ()), ()))))) (Q (SV.v (S1.c (Cl.k (Value.bool true)))) [])) (((1 : Int), ()), ())))))))) ((↑(ByteArray.size s) : Int) ≤ (1000000000 : Int) ∧ (ByteArray.size (quoteN s) ≤ 
 (9223372036854775807 : Nat) → (↑(ByteArray.size (quoteN s)) : Int) ≤ (1000000000 : Int) ∧ (ByteArray.size (unqD (quoteN s)).fst ≤ (9223372036854775807 : Nat) → inK IntKind.i64 (unqD (quoteN s)).snd → 
 br ((unqD (quoteN s)).snd != (0 : Int)) (Q (SV.v (S1.c (Cl.k (Value.bool false)))) []) (br (!sEq (unqD (quoteN s)).fst s) (Q (SV.v (S1.c (Cl.k (Value.bool false)))) []) (br (decide ((↑(ByteArray.size 
 (quoteN s)) : Int) < (2 : Int))) (Q (SV.v (S1.c (Cl.k (Value.bool false)))) []) ((0 : Int) ≤ (0 : Int) ∧ (0 : Int) < (↑(ByteArray.size (quoteN s)) : Int) ∧ inK IntKind.i64 ((↑(ByteArray.size (quoteN 
 s)) : Int) - (1 : Int)) ∧ (0 : Int) ≤ (↑(ByteArray.size (quoteN s)) : Int) - (1 : Int) ∧ (↑(ByteArray.size (quoteN s)) : Int) - (1 : Int) < (↑(ByteArray.size (quoteN s)) : Int) ∧ br ((↑(UInt8.toNat 
 (byteAt (quoteN s) ((↑(ByteArray.size (quoteN s)) : Int) - (1 : Int)))) : Int) != (39 : Int)) (Q (SV.v (S1.c (Cl.k (Value.bool false)))) []) (LoopP (fun i again => inK IntKind.i64 ((↑(ByteArray.size 
 (quoteN s)) : Int) - (1 : Int)) ∧ br (decide (i.fst.fst < (↑(ByteArray.size (quoteN s)) : Int) - (1 : Int))) ((0 : Int) ≤ i.fst.fst ∧ i.fst.fst < (↑(ByteArray.size (quoteN s)) : Int) ∧ br (decide 
 ((↑(UInt8.toNat (byteAt (quoteN s) i.fst.fst)) : Int) < (33 : Int))) (Q (SV.v (S1.c (Cl.k (Value.bool false)))) []) ((0 : Int) ≤ i.fst.fst ∧ i.fst.fst < (↑(ByteArray.size (quoteN s)) : Int) ∧ br 
 ((↑(UInt8.toNat (byteAt (quoteN s) i.fst.fst)) : Int) == (127 : Int)) (Q (SV.v (S1.c (Cl.k (Value.bool false)))) []) ((0 : Int) ≤ i.fst.fst ∧ i.fst.fst < (↑(ByteArray.size (quoteN s)) : Int) ∧ br 
 ((↑(UInt8.toNat (byteAt (quoteN s) i.fst.fst)) : Int) == (39 : Int)) (Q (SV.v (S1.c (Cl.k (Value.bool false)))) []) (inK IntKind.i64 (i.fst.fst + (1 : Int)) ∧ again ((i.fst.fst + (1 : Int), ()), 
 ()))))) (Q (SV.v (S1.c (Cl.k (Value.bool true)))) [])) (((1 : Int), ()), ()))))))))
set_option maxRecDepth 1000000 in
theorem vc_lawPlain_eq (s : ByteArray) (Q : SV → List HO → Prop) : vFun XD1316 ⟨[(10, ⟨[(7, .int .i64)], []⟩)], []⟩ Tryd.f4 [.str s] [] Q = vc_lawPlain s Q := by kernel_rfl
set_option maxRecDepth 100000 in
theorem w_lawPlain : ∀ args H Q, c_lawPlain args H Q → Wp Inv Tryd.prog 4 args H Q := by
  intro args H Q h
  unfold c_lawPlain at h
  split at h
  · rename_i s
    refine Wp.enter (X := XD1316) XD1316_ok ⟨[(10, ⟨[(7, .int .i64)], []⟩)], []⟩ (fn := Tryd.f4) (by kernel_rfl) ?_
    have hv := vc_lawPlain_eq s Q
    rw [show vFun _ _ _ _ _ _ = _ from hv]
    unfold vc_lawPlain
    clear hv
    intro _
    have es : (s.extract 0 (Int.toNat (boundV (some 1000) (s.size : Int)))).size ≤ 1000 := cut_le s
    have hq1 := quoteN_size s
    have hq2 := quoteN_size (s.extract 0 (Int.toNat (boundV (some 1000) (s.size : Int))))
    refine @br_of _ _ _ ?_ ?_
    · intro c1
      have c1 : (s.size : Int) > 1000 := by simpa using c1
      refine ⟨by decide, by show (0 : Int) ≤ 1000; decide, by show (1000 : Int) ≤ s.size; omega, ?_⟩
      generalize (s.extract 0 (Int.toNat (boundV (some 1000) (s.size : Int)))) = x at es hq2 ⊢
      refine ⟨by omega, fun _ => ⟨by omega, fun _ _ => ?_⟩⟩
      obtain ⟨p1, p2, p3, _⟩ := quoteN_parts x
      rw [(unq_quote x).1]
      refine @br_of _ _ _ ?_ ?_
      · intro c2
        cases c2
      intro _
      refine @br_of _ _ _ ?_ ?_
      · intro c2
        rw [sEq_self] at c2; cases c2
      intro _
      refine @br_of _ _ _ ?_ ?_
      · intro c2
        have c2 : ((quoteN x).size : Int) < 2 := by simpa using c2
        omega
      intro _
      refine ⟨by decide, by omega, by unfold inK; omega, by omega, by omega, ?_⟩
      refine @br_of _ _ _ ?_ ?_
      · intro c2
        rw [p3] at c2; exact absurd c2 (by decide)
      intro _
      refine LoopP.intro (fun i => 1 ≤ i.1.1 ∧ i.1.1 ≤ (quoteN x).size) (fun i => (quoteN x).size - i.1.1.toNat) ⟨by decide, by show (1 : Int) ≤ _; omega⟩ ?_
      rintro ⟨⟨i, _⟩, _⟩ ⟨h0, h1⟩
      simp only at h0 h1 ⊢
      refine ⟨by unfold inK; omega, ?_⟩
      refine @br_of _ _ _ ?_ ?_
      · intro c2
        have c2 : i < ((quoteN x).size : Int) - 1 := by simpa using c2
        obtain ⟨o1, o2, o3⟩ := okQ_facts (plain_byte h0 c2)
        refine ⟨by omega, by omega, ?_⟩
        refine @br_of _ _ _ ?_ ?_
        · intro c3
          exact absurd (of_decide_eq_true c3) o1
        intro _
        refine ⟨by omega, by omega, ?_⟩
        refine @br_of _ _ _ ?_ ?_
        · intro c3
          exact absurd (eq_of_beq c3) o2
        intro _
        refine ⟨by omega, by omega, ?_⟩
        refine @br_of _ _ _ ?_ ?_
        · intro c3
          exact absurd (eq_of_beq c3) o3
        intro _
        exact ⟨by unfold inK; omega, ⟨by omega, by omega⟩, by omega⟩
      · intro _
        exact h
    · intro c1
      have c1 : ¬ (s.size : Int) > 1000 := by simpa using c1
      refine ⟨by omega, fun _ => ⟨by omega, fun _ _ => ?_⟩⟩
      obtain ⟨p1, p2, p3, _⟩ := quoteN_parts s
      rw [(unq_quote s).1]
      refine @br_of _ _ _ ?_ ?_
      · intro c2
        cases c2
      intro _
      refine @br_of _ _ _ ?_ ?_
      · intro c2
        rw [sEq_self] at c2; cases c2
      intro _
      refine @br_of _ _ _ ?_ ?_
      · intro c2
        have c2 : ((quoteN s).size : Int) < 2 := by simpa using c2
        omega
      intro _
      refine ⟨by decide, by omega, by unfold inK; omega, by omega, by omega, ?_⟩
      refine @br_of _ _ _ ?_ ?_
      · intro c2
        rw [p3] at c2; exact absurd c2 (by decide)
      intro _
      refine LoopP.intro (fun i => 1 ≤ i.1.1 ∧ i.1.1 ≤ (quoteN s).size) (fun i => (quoteN s).size - i.1.1.toNat) ⟨by decide, by show (1 : Int) ≤ _; omega⟩ ?_
      rintro ⟨⟨i, _⟩, _⟩ ⟨h0, h1⟩
      simp only at h0 h1 ⊢
      refine ⟨by unfold inK; omega, ?_⟩
      refine @br_of _ _ _ ?_ ?_
      · intro c2
        have c2 : i < ((quoteN s).size : Int) - 1 := by simpa using c2
        obtain ⟨o1, o2, o3⟩ := okQ_facts (plain_byte h0 c2)
        refine ⟨by omega, by omega, ?_⟩
        refine @br_of _ _ _ ?_ ?_
        · intro c3
          exact absurd (of_decide_eq_true c3) o1
        intro _
        refine ⟨by omega, by omega, ?_⟩
        refine @br_of _ _ _ ?_ ?_
        · intro c3
          exact absurd (eq_of_beq c3) o2
        intro _
        refine ⟨by omega, by omega, ?_⟩
        refine @br_of _ _ _ ?_ ?_
        · intro c3
          exact absurd (eq_of_beq c3) o3
        intro _
        exact ⟨by unfold inK; omega, ⟨by omega, by omega⟩, by omega⟩
      · intro _
        exact h
  · exact h.elim
end Go.Proofs

namespace Go.Proofs
open Go Go.Lm Go.RowKit
set_option maxHeartbeats 1000000 in
set_option maxRecDepth 100000 in
theorem bld_fresh (b : Nat) (w : World) (h0 : w.cell? ⟨b, 0, none⟩ = some (.pointer none)) (hsh : w.shape? b = some (59, 2)) (hfz : w.frozen? ⟨b, 0, none⟩ = false) :
    Calls Tryd.prog 50 #[.pointer (some ⟨b, 0, none⟩)] w fun e w' => e = .returned (.tuple #[]) ∧ w' = w.setCell ⟨b, 0, none⟩ (.pointer (some ⟨b, 0, none⟩)) := by
  have hj : (Tryd.prog.info? 59).map (·.size) = some 2 := by kernel_rfl
  obtain ⟨j, hj, hjs⟩ := Option.map_eq_some_iff.1 hj
  have hl : liesAt Tryd.prog Tryd.prog.depth 59 (2 / Tryd.prog.cellsOf 59) 0 59 1 = true := by kernel_rfl
  go_enter Tryd.func50, Tryd.ntmps50
  go_wp2
  rw [Lib.run_to_unsafe w ⟨b, 0, none⟩ Tryd.underlying57 Tryd.underlying90 hj (by rw [hjs]; decide) hsh (Nat.zero_lt_succ 1)]
  simp only [Result.andThen]
  rw [Oper.upon_value]
  go_wp2
  rw [run_callFunc_extern Tryd.func58 (by kernel_rfl) (by kernel_rfl) (by kernel_rfl) (e := Extern.AbiNoEscape.same) (by kernel_rfl)]
  rw [Lib.run_noEscape]
  simp only [Result.andThen]
  rw [Oper.upon_value]
  go_wp2
  rw [Lib.run_from_unsafe w ⟨b, 0, none⟩ Tryd.underlying90 Tryd.underlying57 hj hsh hl]
  simp only [Result.andThen]
  rw [Oper.upon_value]
  go_wp2
  go_end0
  exact ⟨rfl, rfl⟩
set_option maxHeartbeats 1000000 in
set_option maxRecDepth 100000 in
theorem bld_used (b : Nat) (w : World) (h0 : w.cell? ⟨b, 0, none⟩ = some (.pointer (some ⟨b, 0, none⟩))) :
    Calls Tryd.prog 50 #[.pointer (some ⟨b, 0, none⟩)] w fun e w' => e = .returned (.tuple #[]) ∧ w' = w := by
  have hj : (Tryd.prog.info? 59).map (·.size) = some 2 := by kernel_rfl
  obtain ⟨j, hj, _⟩ := Option.map_eq_some_iff.1 hj
  go_enter Tryd.func50, Tryd.ntmps50
  go_wp2
  rw [Lib.run_neq_ptr_same w _ Tryd.underlying57 hj]
  go_wp2
  go_end0
  exact ⟨rfl, rfl⟩
/-- What copyCheck leaves: the builder knows its own address. -/
theorem bld_check {W : Base} {g w : World} {F : List Atom} {v : Value} {x : List UInt8} (H : SL W g w (bldA 59 5 x v :: F)) :
    Calls Tryd.prog 50 #[v] w fun e w' => e = .returned (.tuple #[]) ∧ ∃ b u, v = ptr b 0 ∧ SL W g w' (Lm.blk b #[ptr b 0, u] 59 :: slO .u8 5 u x :: F) := by
  obtain ⟨b, p, u, rfl, hp, H2⟩ := bld_open H
  have hbk := H2.blk 0
  have hsh : w.shape? b = some (59, 2) := by unfold World.shape?; rw [hbk]; rfl
  have hfz : w.frozen? ⟨b, 0, none⟩ = false := by unfold World.frozen?; rw [hbk]; rfl
  have h0 : w.cell? ⟨b, 0, none⟩ = some p := by rw [Lib.cell_of_heap hbk]; rfl
  rcases hp with rfl | rfl
  · exact (bld_fresh b w h0 hsh hfz).mono fun e w' ⟨h1, h2⟩ => ⟨h1, b, u, rfl, by rw [h2]; exact SL.updO0 (o' := .cells #[ptr b 0, u] 59 (0, 0)) H2 (set_at (i := 0) (u := ptr b 0) hbk)⟩
  · exact (bld_used b w h0).mono fun e w' ⟨h1, h2⟩ => ⟨h1, b, u, rfl, by rw [h2]; exact H2⟩
set_option linter.unusedVariables false in
set_option maxHeartbeats 2000000 in
set_option maxRecDepth 100000 in
theorem bld_write {W : Base} {g w : World} {F : List Atom} {v : Value} {x : List UInt8} {s : ByteArray} (H : SL W g w (bldA 59 5 x v :: F)) (hlen : x.length + s.size ≤ 140737488355328) :
    Calls Tryd.prog 34 #[v, .string s] w fun e w' => e = .returned (.tuple #[.int .i64 s.size, .nilIface]) ∧ SL W g w' (bldA 59 5 (x ++ s.data.toList) v :: F) := by
  have hi0 : (Tryd.prog.info? 5).map (fun i => (i.zero, i.size, i.bytes)) = some (some (.int .u8 0), 1, 1) := by kernel_rfl
  obtain ⟨i0, hi, hz0, hz1, hz2⟩ := info_parts hi0
  have hv : ∃ b, v = ptr b 0 := by
    obtain ⟨b, _, _, hv, _⟩ := bld_open H
    exact ⟨b, hv⟩
  obtain ⟨b, rfl⟩ := hv
  show Calls Tryd.prog 34 #[.pointer (some ⟨b, 0, none⟩), .string s] w _
  go_enter Tryd.func34, Tryd.ntmps34
  go_wp2_with (go_at_call 50; refine (bld_check H).mono ?_)
  rintro e w1 ⟨rfl, b', u, hb', H1⟩
  obtain rfl : b = b' := by
    have : Addr.mk b 0 none = Addr.mk b' 0 none := by injection hb' with h; injection h
    injection this
  have hbk := H1.blk 0
  have c0 : w1.cell? ⟨b, 0, none⟩ = some (.pointer (some ⟨b, 0, none⟩)) := by rw [Lib.cell_of_heap hbk]; rfl
  have c1 : w1.cell? ⟨b, 1, none⟩ = some u := by rw [Lib.cell_of_heap hbk]; rfl
  have H1 := H1.to [1, 0]
  go_wp2_with (at_builtin; refine wp_appStr rfl _ _ 39 9 rfl 5 i0 Tryd.underlying39 Tryd.underlying9 hi hz0 hz1 hz2 rfl H1 s rfl ?c3 ?_)
  case c3 => exact hlen
  intro q m c w2 H2 hgrow
  have hb2 := H2.blk 1
  have d0 : w2.cell? ⟨b, 0, none⟩ = some (.pointer (some ⟨b, 0, none⟩)) := by rw [Lib.cell_of_heap hb2]; rfl
  have d1 : w2.cell? ⟨b, 1, none⟩ = some u := by rw [Lib.cell_of_heap hb2]; rfl
  have f1 : w2.frozen? ⟨b, 1, none⟩ = false := Lib.frozen_of_heap hb2 1
  go_wp2
  go_ret2
  refine ⟨rfl, ?_⟩
  have H3 : SL W g _ (Lm.blk b #[ptr b 0, .slice q m c] 59 :: _) := (H2.to [1, 0]).updO0 (set_at (u := .slice q m c) (i := 1) hb2)
  exact SL.shutE (f := fun (q : Nat × Value × Value) => [pureA (ptr b 0 = ptr q.1 0 ∧ (q.2.1 = .pointer none ∨ q.2.1 = ptr q.1 0)), Lm.blk q.1 #[q.2.1, q.2.2] 59, slO .u8 5 q.2.2 (x ++ s.data.toList)]) (b, ptr b 0, .slice q m c) (H3.addPure ⟨rfl, .inr rfl⟩)
def c_bldW : Ct
  | [.v (.c (.p 0 0)), .v (.c (.k (.string z)))], [.ab (.bld t e x)], Q => t = 59 ∧ e = 5 ∧ ((x.length + z.size : Nat) : Int) ≤ 140737488355328 ∧ Q (.tup [.c (.k (.int .i64 z.size)), .c (.k .nilIface)]) [.ab (.bld t e (x ++ z.data.toList))]
  | _, _, _ => False
theorem w_bldW : ∀ args H Q, c_bldW args H Q → Wp Inv Tryd.prog 34 args H Q := by
  intro args H Q h
  unfold c_bldW at h
  split at h
  · rename_i z t e x
    obtain ⟨rfl, rfl, hb, h⟩ := h
    intro W hW g w E F vs hs hv
    obtain ⟨u, q, rfl, ⟨b, hE, rfl⟩, ⟨rfl, hz⟩⟩ := relVs_two hv
    have H : SL W g w (bldA 59 5 x (ptr b 0) :: F) := hs.sl.weak fun k ⟨k1, k2, ap, q, ⟨v, h1, s1⟩, s2⟩ => ⟨k1, k2, ap, q, by
      have e : v = ptr b 0 := Option.some.inj (h1.symm.trans hE)
      rw [e] at s1; exact s1, s2⟩
    refine (Ret.of (bld_write (s := z) H (by omega))).mono fun r w' ⟨h1, h2⟩ => ⟨E, g, _, [.ab (.bld 59 5 (x ++ z.data.toList))], EnvLe.refl E, Mono.refl g, ⟨h2.weak fun k ⟨k1, k2, ap, q, s1, s2⟩ => ⟨k1, k2, ap, q, ⟨_, hE, s1⟩, s2⟩, hs.len⟩, ?_, h⟩
    rw [h1]
    exact ⟨_, ⟨_, _, rfl, ⟨rfl, by show (-9223372036854775808 : Int) ≤ (z.size : Int) ∧ (z.size : Int) ≤ 9223372036854775807; have hz : z.size ≤ maxLen := hz; unfold maxLen at hz; omega⟩, _, _, rfl, ⟨rfl, rfl⟩, rfl⟩, rfl⟩
  · exact h.elim
def c_bldS : Ct
  | [.v (.c (.p 0 0))], [.ab (.bld t e x)], Q => t = 59 ∧ e = 5 ∧ Q (.str (bstr x)) [.gone]
  | _, _, _ => False
theorem w_bldS : ∀ args H Q, c_bldS args H Q → Wp Inv Tryd.prog 36 args H Q := by
  intro args H Q h
  unfold c_bldS at h
  split at h
  · rename_i t e x
    obtain ⟨rfl, rfl, h⟩ := h
    intro W hW g w E F vs hs hv
    obtain ⟨u, q, rfl, ⟨b, hE, rfl⟩, hq⟩ := hv
    obtain rfl : q = [] := hq
    have H : SL W g w (bldA 59 5 x (ptr b 0) :: F) := hs.sl.weak fun k ⟨k1, k2, ap, q, ⟨v, h1, s1⟩, s2⟩ => ⟨k1, k2, ap, q, by
      have e : v = ptr b 0 := Option.some.inj (h1.symm.trans hE)
      rw [e] at s1; exact s1, s2⟩
    have hl : x.length ≤ maxLen := by
      obtain ⟨_, _, _, _, _, H2⟩ := bld_open H
      have := SL.slLen (α := UInt8) 1 H2
      unfold maxLen; omega
    refine (Ret.of (bld_string Tryd.lays169 Tryd.Builder_Extra_169 H)).mono fun r w' ⟨h1, h2⟩ => ⟨E, g, _, [.gone], EnvLe.refl E, Mono.refl g, ⟨h2.addPure trivial, hs.len⟩, ?_, h⟩
    rw [h1]
    exact ⟨rfl, by show (bstr x).size ≤ maxLen; rw [bstr_size]; exact hl⟩
  · exact h.elim
end Go.Proofs

namespace Go.Proofs
open Go Go.Lm Go.RowKit
def c_numberR : Ct
  | [.v (.c (.k (.string s)))], [], Q => Q (.int (numberN s)) []
  | _, _, _ => False
noncomputable def XD1517 : Vx := { P := Tryd.prog, ct := [(36, c_bldS), (34, c_bldW), (4, c_lawPlain), (3, c_lawQuotes), (9, c_shown), (14, c_parse), (31, c_event), (47, c_atoi), (35, c_line), (45, c_words), (51, c_sjoin), (46, c_split), (30, c_cut), (29, c_count), (37, c_itoa), (11, c_unquoteR), (23, c_digit), (10, c_unquote), (13, c_quoteR), (27, c_decode), (12, c_quote), (28, c_itselfR), (26, c_itself), (24, c_hasPre), (39, c_hasPre0), (22, c_indexByte), (25, c_runeLen)], ty := tyTab, hold := [51], wrap := true }
theorem XD1517_ok : CtOk Inv Tryd.prog XD1517.ct := CtOk.cons w_bldS (CtOk.cons w_bldW (CtOk.cons w_lawPlain (CtOk.cons w_lawQuotes (CtOk.cons w_shown (CtOk.cons w_parse (CtOk.cons w_event (CtOk.cons w_atoi (CtOk.cons w_line (CtOk.cons w_words (CtOk.cons w_sjoin (CtOk.cons w_split (CtOk.cons w_cut (CtOk.cons w_count (CtOk.cons w_itoa (CtOk.cons w_unquoteR (CtOk.cons w_digit (CtOk.cons w_unquote (CtOk.cons w_quoteR (CtOk.cons w_decode (CtOk.cons w_quote (CtOk.cons w_itselfR (CtOk.cons w_itself (CtOk.cons w_hasPre (CtOk.cons w_hasPre0 (CtOk.cons w_indexByte (CtOk.cons w_runeLen (CtOk.nil _ _)))))))))))))))))))))))))))
def vc_numberR : (ByteArray) → (SV → List HO → Prop) → Prop :=
 fun s Q => ByteArray.size s ≤ (9223372036854775807 : Nat) → LoopP (fun i again => br (decide (i.fst.snd.fst < (↑(ByteArray.size s) : Int))) (br (decide (i.fst.snd.fst < (21 : Int))) ((0 : Int) ≤ 
 i.fst.snd.fst ∧ i.fst.snd.fst < (↑(ByteArray.size s) : Int) ∧ br (decide ((↑(UInt8.toNat (byteAt s i.fst.snd.fst)) : Int) ≥ (48 : Int))) ((0 : Int) ≤ i.fst.snd.fst ∧ i.fst.snd.fst < (↑(ByteArray.size 
 s) : Int) ∧ br (decide ((↑(UInt8.toNat (byteAt s i.fst.snd.fst)) : Int) ≤ (57 : Int))) (inK IntKind.i64 (IntKind.wrap IntKind.i64 ((10 : Int) * i.fst.fst)) → (0 : Int) ≤ i.fst.snd.fst ∧ i.fst.snd.fst 
 < (↑(ByteArray.size s) : Int) ∧ (inK IntKind.u8 (IntKind.wrap IntKind.u8 ((↑(UInt8.toNat (byteAt s i.fst.snd.fst)) : Int) - (48 : Int))) → inK IntKind.i64 (IntKind.wrap IntKind.i64 (IntKind.wrap 
 IntKind.u8 ((↑(UInt8.toNat (byteAt s i.fst.snd.fst)) : Int) - (48 : Int)))) → inK IntKind.i64 (IntKind.wrap IntKind.i64 (IntKind.wrap IntKind.i64 ((10 : Int) * i.fst.fst) - IntKind.wrap IntKind.i64 
 (IntKind.wrap IntKind.u8 ((↑(UInt8.toNat (byteAt s i.fst.snd.fst)) : Int) - (48 : Int))))) → inK IntKind.i64 (IntKind.wrap IntKind.i64 (i.fst.snd.fst + (1 : Int))) → again ((IntKind.wrap IntKind.i64 
 (IntKind.wrap IntKind.i64 ((10 : Int) * i.fst.fst) - IntKind.wrap IntKind.i64 (IntKind.wrap IntKind.u8 ((↑(UInt8.toNat (byteAt s i.fst.snd.fst)) : Int) - (48 : Int)))), IntKind.wrap IntKind.i64 
 (i.fst.snd.fst + (1 : Int)), ()), ()))) (inK IntKind.i64 (IntKind.wrap IntKind.i64 (i.fst.snd.fst + (1 : Int))) → again ((i.fst.fst, IntKind.wrap IntKind.i64 (i.fst.snd.fst + (1 : Int)), ()), ()))) 
 (inK IntKind.i64 (IntKind.wrap IntKind.i64 (i.fst.snd.fst + (1 : Int))) → again ((i.fst.fst, IntKind.wrap IntKind.i64 (i.fst.snd.fst + (1 : Int)), ()), ()))) (br (decide ((↑(ByteArray.size s) : Int) > 
 (0 : Int))) ((0 : Int) ≤ (0 : Int) ∧ (0 : Int) < (↑(ByteArray.size s) : Int) ∧ br ((↑(UInt8.toNat (byteAt s (0 : Int))) : Int) == (45 : Int)) (Q (SV.v (S1.c (Cl.k (Value.int IntKind.i64 i.fst.fst)))) 
 []) (inK IntKind.i64 (IntKind.wrap IntKind.i64 ((0 : Int) - i.fst.fst)) → Q (SV.v (S1.c (Cl.k (Value.int IntKind.i64 (IntKind.wrap IntKind.i64 ((0 : Int) - i.fst.fst)))))) [])) (inK IntKind.i64 
 (IntKind.wrap IntKind.i64 ((0 : Int) - i.fst.fst)) → Q (SV.v (S1.c (Cl.k (Value.int IntKind.i64 (IntKind.wrap IntKind.i64 ((0 : Int) - i.fst.fst)))))) []))) (br (decide ((↑(ByteArray.size s) : Int) > 
 (0 : Int))) ((0 : Int) ≤ (0 : Int) ∧ (0 : Int) < (↑(ByteArray.size s) : Int) ∧ br ((↑(UInt8.toNat (byteAt s (0 : Int))) : Int) == (45 : Int)) (Q (SV.v (S1.c (Cl.k (Value.int IntKind.i64 i.fst.fst)))) 
 []) (inK IntKind.i64 (IntKind.wrap IntKind.i64 ((0 : Int) - i.fst.fst)) → Q (SV.v (S1.c (Cl.k (Value.int IntKind.i64 (IntKind.wrap IntKind.i64 ((0 : Int) - i.fst.fst)))))) [])) (inK IntKind.i64 
 (IntKind.wrap IntKind.i64 ((0 : Int) - i.fst.fst)) → Q (SV.v (S1.c (Cl.k (Value.int IntKind.i64 (IntKind.wrap IntKind.i64 ((0 : Int) - i.fst.fst)))))) []))) (((0 : Int), (0 : Int), ()), ())
set_option maxRecDepth 1000000 in
theorem vc_numberR_eq (s : ByteArray) (Q : SV → List HO → Prop) : vFun XD1517 ⟨[(4, ⟨[(3, .int .i64), (4, .int .i64)], []⟩)], []⟩ Tryd.f49 [.str s] [] Q = vc_numberR s Q := by kernel_rfl
set_option maxRecDepth 100000 in
theorem w_numberR : ∀ args H Q, c_numberR args H Q → Wp Inv Tryd.prog 49 args H Q := by
  intro args H Q h
  unfold c_numberR at h
  split at h
  · rename_i s
    refine Wp.enter (X := XD1517) XD1517_ok ⟨[(4, ⟨[(3, .int .i64), (4, .int .i64)], []⟩)], []⟩ (fn := Tryd.f49) (by kernel_rfl) ?_
    have hv := vc_numberR_eq s Q
    rw [show vFun _ _ _ _ _ _ = _ from hv]
    unfold vc_numberR
    clear hv
    intro hs
    refine LoopP.intro (fun i => ∃ p : Nat, i.1.2.1 = (p : Int) ∧ p ≤ s.size ∧ p ≤ 21 ∧ i.1.1 = (s.data.toList.take p).foldl numStep 0) (fun i => 21 - i.1.2.1.toNat) ⟨0, rfl, Nat.zero_le _, by decide, rfl⟩ ?_
    rintro ⟨⟨n, i, _⟩, _⟩ ⟨p, h0, h1, h2, h3⟩
    simp only at h0 h3 ⊢
    subst h0
    refine @br_of _ _ _ ?_ ?_
    · intro c1
      have c1 : p < s.size := by simpa using c1
      refine @br_of _ _ _ ?_ ?_
      · intro c2
        have c2 : p < 21 := by have : (p : Int) < 21 := (by simpa using c2); omega
        have hw := wrap_next (i := p) (by omega)
        have hn := num_next (s := s) (i := p) c1
        rw [← h3] at hn
        refine ⟨by omega, by omega, ?_⟩
        refine @br_of _ _ _ ?_ ?_
        · intro c3
          have c3 : 48 ≤ (byteAt s (p : Int)).toNat := by have : ((byteAt s (p : Int)).toNat : Int) ≥ 48 := (by simpa using c3); omega
          refine ⟨by omega, by omega, ?_⟩
          refine @br_of _ _ _ ?_ ?_
          · intro c4
            have c4 : (byteAt s (p : Int)).toNat ≤ 57 := by have : ((byteAt s (p : Int)).toNat : Int) ≤ 57 := (by simpa using c4); omega
            refine fun _ => ⟨by omega, by omega, fun _ _ _ _ => ?_⟩
            rw [hw]
            refine ⟨⟨p + 1, rfl, by omega, by omega, ?_⟩, by omega⟩
            rw [hn]
            exact num_hit c3 c4
          · intro c4
            have c4 : ¬ (byteAt s (p : Int)).toNat ≤ 57 := by have : ¬ ((byteAt s (p : Int)).toNat : Int) ≤ 57 := (by simpa using c4); omega
            intro _
            rw [hw]
            refine ⟨⟨p + 1, rfl, by omega, by omega, ?_⟩, by omega⟩
            rw [hn]
            exact num_miss (fun e => c4 e.2)
        · intro c3
          have c3 : ¬ 48 ≤ (byteAt s (p : Int)).toNat := by have : ¬ ((byteAt s (p : Int)).toNat : Int) ≥ 48 := (by simpa using c3); omega
          intro _
          rw [hw]
          refine ⟨⟨p + 1, rfl, by omega, by omega, ?_⟩, by omega⟩
          rw [hn]
          exact num_miss (fun e => c3 e.1)
      · intro c2
        have c2 : p = 21 := by have : ¬ (p : Int) < 21 := (by simpa using c2); omega
        rw [num_end (.inr c2) h2] at h3
        subst h3
        refine @br_of _ _ _ ?_ ?_
        · intro e1
          have e1 : 0 < s.size := by have : (s.size : Int) > 0 := (by simpa using e1); omega
          refine ⟨by decide, by omega, ?_⟩
          refine @br_of _ _ _ ?_ ?_
          · intro e2
            rw [number_neg e1 e2] at h
            exact h
          · intro e2
            intro _
            rw [number_pos fun _ => e2] at h
            exact h
        · intro e1
          have e1 : ¬ 0 < s.size := by have : ¬ (s.size : Int) > 0 := (by simpa using e1); omega
          intro _
          rw [number_pos fun e => absurd e e1] at h
          exact h
    · intro c1
      have c1 : p = s.size := by have : ¬ p < s.size := (by simpa using c1); omega
      rw [num_end (.inl c1) h2] at h3
      subst h3
      refine @br_of _ _ _ ?_ ?_
      · intro e1
        have e1 : 0 < s.size := by have : (s.size : Int) > 0 := (by simpa using e1); omega
        refine ⟨by decide, by omega, ?_⟩
        refine @br_of _ _ _ ?_ ?_
        · intro e2
          rw [number_neg e1 e2] at h
          exact h
        · intro e2
          intro _
          rw [number_pos fun _ => e2] at h
          exact h
      · intro e1
        have e1 : ¬ 0 < s.size := by have : ¬ (s.size : Int) > 0 := (by simpa using e1); omega
        intro _
        rw [number_pos fun e => absurd e e1] at h
        exact h
  · exact h.elim
end Go.Proofs

namespace Go.Proofs
open Go Go.Lm Go.RowKit
def c_wordsR : Ct
  | [.v (.c (.k (.string s)))], [], Q => ((s.size : Int) ≤ 1000000000 ∧ Q (.v (.c (.o 0))) [.sl 9 .str (partsW s)])
  | _, _, _ => False
noncomputable def XD1618 : Vx := { P := Tryd.prog, ct := [(49, c_numberR), (36, c_bldS), (34, c_bldW), (4, c_lawPlain), (3, c_lawQuotes), (9, c_shown), (14, c_parse), (31, c_event), (47, c_atoi), (35, c_line), (45, c_words), (51, c_sjoin), (46, c_split), (30, c_cut), (29, c_count), (37, c_itoa), (11, c_unquoteR), (23, c_digit), (10, c_unquote), (13, c_quoteR), (27, c_decode), (12, c_quote), (28, c_itselfR), (26, c_itself), (24, c_hasPre), (39, c_hasPre0), (22, c_indexByte), (25, c_runeLen)], ty := tyTab, hold := [51] }
theorem XD1618_ok : CtOk Inv Tryd.prog XD1618.ct := CtOk.cons w_numberR (CtOk.cons w_bldS (CtOk.cons w_bldW (CtOk.cons w_lawPlain (CtOk.cons w_lawQuotes (CtOk.cons w_shown (CtOk.cons w_parse (CtOk.cons w_event (CtOk.cons w_atoi (CtOk.cons w_line (CtOk.cons w_words (CtOk.cons w_sjoin (CtOk.cons w_split (CtOk.cons w_cut (CtOk.cons w_count (CtOk.cons w_itoa (CtOk.cons w_unquoteR (CtOk.cons w_digit (CtOk.cons w_unquote (CtOk.cons w_quoteR (CtOk.cons w_decode (CtOk.cons w_quote (CtOk.cons w_itselfR (CtOk.cons w_itself (CtOk.cons w_hasPre (CtOk.cons w_hasPre0 (CtOk.cons w_indexByte (CtOk.cons w_runeLen (CtOk.nil _ _))))))))))))))))))))))))))))
def vc_wordsR : (ByteArray) → (SV → List HO → Prop) → Prop :=
 fun s Q => ByteArray.size s ≤ (9223372036854775807 : Nat) → LoopP (fun i again => br (decide (i.fst.snd.snd.fst ≤ (↑(ByteArray.size s) : Int))) (br (i.fst.snd.snd.fst == (↑(ByteArray.size s) : Int)) 
 ((0 : Int) ≤ boundV (some i.fst.snd.fst) (0 : Int) ∧ boundV (some i.fst.snd.fst) (0 : Int) ≤ boundV (some i.fst.snd.snd.fst) (↑(ByteArray.size s) : Int) ∧ boundV (some i.fst.snd.snd.fst) 
 (↑(ByteArray.size s) : Int) ≤ (↑(ByteArray.size s) : Int) ∧ (List.length i.fst.fst + List.length [ByteArray.extract s (Int.toNat (boundV (some i.fst.snd.fst) (0 : Int))) (Int.toNat (boundV (some 
 i.fst.snd.snd.fst) (↑(ByteArray.size s) : Int)))]) * (16 : Nat) ≤ (140737488355328 : Nat) ∧ List.length i.fst.fst + List.length [ByteArray.extract s (Int.toNat (boundV (some i.fst.snd.fst) (0 : Int))) 
 (Int.toNat (boundV (some i.fst.snd.snd.fst) (↑(ByteArray.size s) : Int)))] ≤ (9223372036854775807 : Nat) ∧ inK IntKind.i64 (i.fst.snd.snd.fst + (1 : Int)) ∧ inK IntKind.i64 (i.fst.snd.snd.fst + (1 : 
 Int)) ∧ again ((i.fst.fst ++ [ByteArray.extract s (Int.toNat (boundV (some i.fst.snd.fst) (0 : Int))) (Int.toNat (boundV (some i.fst.snd.snd.fst) (↑(ByteArray.size s) : Int)))], i.fst.snd.snd.fst + (1 
 : Int), i.fst.snd.snd.fst + (1 : Int), ()), ())) ((0 : Int) ≤ i.fst.snd.snd.fst ∧ i.fst.snd.snd.fst < (↑(ByteArray.size s) : Int) ∧ br ((↑(UInt8.toNat (byteAt s i.fst.snd.snd.fst)) : Int) == (32 : 
 Int)) ((0 : Int) ≤ boundV (some i.fst.snd.fst) (0 : Int) ∧ boundV (some i.fst.snd.fst) (0 : Int) ≤ boundV (some i.fst.snd.snd.fst) (↑(ByteArray.size s) : Int) ∧ boundV (some i.fst.snd.snd.fst) 
 (↑(ByteArray.size s) : Int) ≤ (↑(ByteArray.size s) : Int) ∧ (List.length i.fst.fst + List.length [ByteArray.extract s (Int.toNat (boundV (some i.fst.snd.fst) (0 : Int))) (Int.toNat (boundV (some 
 i.fst.snd.snd.fst) (↑(ByteArray.size s) : Int)))]) * (16 : Nat) ≤ (140737488355328 : Nat) ∧ List.length i.fst.fst + List.length [ByteArray.extract s (Int.toNat (boundV (some i.fst.snd.fst) (0 : Int))) 
 (Int.toNat (boundV (some i.fst.snd.snd.fst) (↑(ByteArray.size s) : Int)))] ≤ (9223372036854775807 : Nat) ∧ inK IntKind.i64 (i.fst.snd.snd.fst + (1 : Int)) ∧ inK IntKind.i64 (i.fst.snd.snd.fst + (1 : 
 Int)) ∧ again ((i.fst.fst ++ [ByteArray.extract s (Int.toNat (boundV (some i.fst.snd.fst) (0 : Int))) (Int.toNat (boundV (some i.fst.snd.snd.fst) (↑(ByteArray.size s) : Int)))], i.fst.snd.snd.fst + (1 
 : Int), i.fst.snd.snd.fst + (1 : Int), ()), ())) (inK IntKind.i64 (i.fst.snd.snd.fst + (1 : Int)) ∧ again ((i.fst.fst, i.fst.snd.fst, i.fst.snd.snd.fst + (1 : Int), ()), ())))) (Q (SV.v (S1.c (Cl.o (0 
 : Nat)))) [HO.sl (9 : TypeId) Ty.str i.fst.fst])) (([], (0 : Int), (0 : Int), ()), ())
set_option maxRecDepth 1000000 in
theorem vc_wordsR_eq (s : ByteArray) (Q : SV → List HO → Prop) : vFun XD1618 ⟨[(5, ⟨[(3, .own 9 .str), (4, .int .i64), (5, .int .i64)], []⟩)], []⟩ Tryd.f48 [.str s] [] Q = vc_wordsR s Q := by kernel_rfl
set_option maxRecDepth 100000 in
theorem w_wordsR : ∀ args H Q, c_wordsR args H Q → Wp Inv Tryd.prog 48 args H Q := by
  intro args H Q h
  unfold c_wordsR at h
  split at h
  · rename_i s
    refine Wp.enter (X := XD1618) XD1618_ok ⟨[(5, ⟨[(3, .own 9 .str), (4, .int .i64), (5, .int .i64)], []⟩)], []⟩ (fn := Tryd.f48) (by kernel_rfl) ?_
    have hv := vc_wordsR_eq s Q
    rw [show vFun _ _ _ _ _ _ = _ from hv]
    unfold vc_wordsR
    clear hv
    obtain ⟨hb, h⟩ := h
    intro hs
    refine LoopP.intro (fun i => ∃ a p : Nat, i.1.2.1 = (a : Int) ∧ i.1.2.2.1 = (p : Int) ∧ i.1.1.length ≤ p ∧ ((p ≤ s.size ∧ a ≤ p ∧ NoBl s a p ∧ i.1.1 ++ partsW (restS s a) = partsW s) ∨ (p = s.size + 1 ∧ i.1.1 = partsW s))) (fun i => s.size + 1 - i.1.2.2.1.toNat) ⟨0, 0, rfl, rfl, Nat.le_refl _, .inl ⟨Nat.zero_le _, Nat.le_refl _, noBl_self s 0, by rw [words_start]; rfl⟩⟩ ?_
    rintro ⟨⟨l, a, i, _⟩, _⟩ ⟨a', p, h0, h1, h2, h3⟩
    simp only at h0 h1 h2 h3 ⊢
    subst h0 h1
    have h2 : l.length ≤ p := h2
    rename_i a
    refine @br_of _ _ _ ?_ ?_
    · intro c1
      have c1 : p ≤ s.size := by have : (p : Int) ≤ s.size := (by simpa using c1); omega
      rcases h3 with ⟨_, h4, h5, h6⟩ | ⟨h4, _⟩
      · simp only [boundV, Int.toNat_natCast]
        refine @br_of _ _ _ ?_ ?_
        · intro c2
          have c2 : p = s.size := by have : (p : Int) = s.size := (by simpa using c2); omega
          subst c2
          rw [words_last h5 h4] at h6
          refine ⟨by omega, by omega, by omega, by show (l.length + 1) * 16 ≤ _; omega, by show l.length + 1 ≤ _; omega, by unfold inK; omega, by unfold inK; omega, ⟨_, s.size + 1, rfl, by omega, ?_, .inr ⟨rfl, h6⟩⟩, by omega⟩
          rw [List.length_append]
          show l.length + 1 ≤ _
          omega
        · intro c2
          have c2 : ¬ p = s.size := by have : ¬ (p : Int) = s.size := (by simpa using c2); omega
          refine ⟨by omega, by omega, ?_⟩
          refine @br_of _ _ _ ?_ ?_
          · intro c3
            have c3 : byteAt s (p : Int) = 32 := UInt8.toNat_inj.1 (by have : ((byteAt s (p : Int)).toNat : Int) = 32 := (by simpa using c3); show (byteAt s (p : Int)).toNat = 32; omega)
            rw [words_step h5 h4 (by omega) c3] at h6
            refine ⟨by omega, by omega, by omega, by show (l.length + 1) * 16 ≤ _; omega, by show l.length + 1 ≤ _; omega, by unfold inK; omega, by unfold inK; omega, ⟨p + 1, p + 1, by omega, by omega, ?_, .inl ⟨by omega, Nat.le_refl _, noBl_self s _, ?_⟩⟩, by omega⟩
            · rw [List.length_append]
              show l.length + 1 ≤ _
              omega
            · rw [List.append_assoc]
              exact h6
          · intro c3
            have c3 : byteAt s (p : Int) ≠ 32 := fun e => by
              rw [e] at c3; exact absurd c3 (by decide)
            refine ⟨by unfold inK; omega, ⟨_, p + 1, rfl, by omega, by omega, .inl ⟨by omega, by omega, noBl_next h5 h4 (by omega) c3, h6⟩⟩, by omega⟩
      · omega
    · intro c1
      have c1 : ¬ p ≤ s.size := by have : ¬ (p : Int) ≤ s.size := (by simpa using c1); omega
      rcases h3 with ⟨h4, _⟩ | ⟨_, h4⟩
      · omega
      · rw [h4]
        exact h
  · exact h.elim
end Go.Proofs

namespace Go.Proofs
open Go Go.Lm Go.RowKit
def c_lineR : Ct
  | [.v (.agg ce)], [], Q => (match (tEvent).of ce with
    | some (e, []) => ((e.2.2.2.2.1.size : Int) ≤ 100000000 ∧ (e.2.2.2.2.2.1.size : Int) ≤ 100000000 ∧ (e.2.2.2.2.2.2.1.length : Int) ≤ 100000000 ∧ Q (.str (lineN e)) [])
    | _ => False)
  | _, _, _ => False
noncomputable def XD1719 : Vx := { P := Tryd.prog, ct := [(48, c_wordsR), (49, c_numberR), (36, c_bldS), (34, c_bldW), (4, c_lawPlain), (3, c_lawQuotes), (9, c_shown), (14, c_parse), (31, c_event), (47, c_atoi), (35, c_line), (45, c_words), (51, c_sjoin), (46, c_split), (30, c_cut), (29, c_count), (37, c_itoa), (11, c_unquoteR), (23, c_digit), (10, c_unquote), (13, c_quoteR), (27, c_decode), (12, c_quote), (28, c_itselfR), (26, c_itself), (24, c_hasPre), (39, c_hasPre0), (22, c_indexByte), (25, c_runeLen)], ty := tyTab, hold := [51] }
theorem XD1719_ok : CtOk Inv Tryd.prog XD1719.ct := CtOk.cons w_wordsR (CtOk.cons w_numberR (CtOk.cons w_bldS (CtOk.cons w_bldW (CtOk.cons w_lawPlain (CtOk.cons w_lawQuotes (CtOk.cons w_shown (CtOk.cons w_parse (CtOk.cons w_event (CtOk.cons w_atoi (CtOk.cons w_line (CtOk.cons w_words (CtOk.cons w_sjoin (CtOk.cons w_split (CtOk.cons w_cut (CtOk.cons w_count (CtOk.cons w_itoa (CtOk.cons w_unquoteR (CtOk.cons w_digit (CtOk.cons w_unquote (CtOk.cons w_quoteR (CtOk.cons w_decode (CtOk.cons w_quote (CtOk.cons w_itselfR (CtOk.cons w_itself (CtOk.cons w_hasPre (CtOk.cons w_hasPre0 (CtOk.cons w_indexByte (CtOk.cons w_runeLen (CtOk.nil _ _)))))))))))))))))))))))))))))
def vc_lineR : ((tEvent).den) → (SV → List HO → Prop) → Prop :=
 fun e Q => inK IntKind.i64 e.fst → inK IntKind.i64 e.snd.fst → inK IntKind.i64 e.snd.snd.fst → inK IntKind.i64 e.snd.snd.snd.fst → ByteArray.size e.snd.snd.snd.snd.fst ≤ (9223372036854775807 : Nat) → 
 ByteArray.size e.snd.snd.snd.snd.snd.fst ≤ (9223372036854775807 : Nat) → List.length e.snd.snd.snd.snd.snd.snd.fst ≤ (9223372036854775807 : Nat) → ByteArray.size (itoaN e.fst) ≤ (9223372036854775807 : 
 Nat) → ByteArray.size (itoaN e.snd.fst) ≤ (9223372036854775807 : Nat) → ByteArray.size (itoaN e.snd.snd.fst) ≤ (9223372036854775807 : Nat) → ByteArray.size (itoaN e.snd.snd.snd.fst) ≤ 
 (9223372036854775807 : Nat) → (↑(ByteArray.size e.snd.snd.snd.snd.fst) : Int) ≤ (1000000000 : Int) ∧ (ByteArray.size (quoteN e.snd.snd.snd.snd.fst) ≤ (9223372036854775807 : Nat) → (↑(ByteArray.size 
 e.snd.snd.snd.snd.snd.fst) : Int) ≤ (1000000000 : Int) ∧ (ByteArray.size (quoteN e.snd.snd.snd.snd.snd.fst) ≤ (9223372036854775807 : Nat) → (↑(ByteArray.size (bstr e.snd.snd.snd.snd.snd.snd.fst)) : 
 Int) ≤ (1000000000 : Int) ∧ (ByteArray.size (quoteN (bstr e.snd.snd.snd.snd.snd.snd.fst)) ≤ (9223372036854775807 : Nat) → List.length [itoaN e.fst, itoaN e.snd.fst, itoaN e.snd.snd.fst, itoaN 
 e.snd.snd.snd.fst, quoteN e.snd.snd.snd.snd.fst, quoteN e.snd.snd.snd.snd.snd.fst, quoteN (bstr e.snd.snd.snd.snd.snd.snd.fst)] ≤ (9223372036854775807 : Nat) → LoopP (fun i again => br (decide 
 (i.fst.fst > (1 : Int))) (br (decide (i.fst.fst ≤ (4 : Int))) (inK IntKind.i64 (i.fst.fst - (1 : Int)) ∧ (0 : Int) ≤ i.fst.fst - (1 : Int) ∧ i.fst.fst - (1 : Int) < (↑(List.length [itoaN e.fst, itoaN 
 e.snd.fst, itoaN e.snd.snd.fst, itoaN e.snd.snd.snd.fst, quoteN e.snd.snd.snd.snd.fst, quoteN e.snd.snd.snd.snd.snd.fst, quoteN (bstr e.snd.snd.snd.snd.snd.snd.fst)]) : Int) ∧ (0 : Int) ≤ i.fst.fst - 
 (1 : Int) ∧ i.fst.fst - (1 : Int) < (↑(List.length [itoaN e.fst, itoaN e.snd.fst, itoaN e.snd.snd.fst, itoaN e.snd.snd.snd.fst, quoteN e.snd.snd.snd.snd.fst, quoteN e.snd.snd.snd.snd.snd.fst, quoteN 
 (bstr e.snd.snd.snd.snd.snd.snd.fst)]) : Int) ∧ (Ty.ok Ty.str (ixD Ty.str [itoaN e.fst, itoaN e.snd.fst, itoaN e.snd.snd.fst, itoaN e.snd.snd.snd.fst, quoteN e.snd.snd.snd.snd.fst, quoteN 
 e.snd.snd.snd.snd.snd.fst, quoteN (bstr e.snd.snd.snd.snd.snd.snd.fst)] (i.fst.fst - (1 : Int))) → br (sEq (ixD Ty.str [itoaN e.fst, itoaN e.snd.fst, itoaN e.snd.snd.fst, itoaN e.snd.snd.snd.fst, 
 quoteN e.snd.snd.snd.snd.fst, quoteN e.snd.snd.snd.snd.snd.fst, quoteN (bstr e.snd.snd.snd.snd.snd.snd.fst)] (i.fst.fst - (1 : Int))) (ByteArray.mk ( #[(48 : UInt8)] ))) (inK IntKind.i64 (i.fst.fst - 
 (1 : Int)) ∧ again ((i.fst.fst - (1 : Int), ()), ())) (br (decide (i.fst.fst > (4 : Int))) (inK IntKind.i64 (i.fst.fst - (1 : Int)) ∧ (0 : Int) ≤ i.fst.fst - (1 : Int) ∧ i.fst.fst - (1 : Int) < 
 (↑(List.length [itoaN e.fst, itoaN e.snd.fst, itoaN e.snd.snd.fst, itoaN e.snd.snd.snd.fst, quoteN e.snd.snd.snd.snd.fst, quoteN e.snd.snd.snd.snd.snd.fst, quoteN (bstr 
 e.snd.snd.snd.snd.snd.snd.fst)]) : Int) ∧ (0 : Int) ≤ i.fst.fst - (1 : Int) ∧ i.fst.fst - (1 : Int) < (↑(List.length [itoaN e.fst, itoaN e.snd.fst, itoaN e.snd.snd.fst, itoaN e.snd.snd.snd.fst, quoteN 
 e.snd.snd.snd.snd.fst, quoteN e.snd.snd.snd.snd.snd.fst, quoteN (bstr e.snd.snd.snd.snd.snd.snd.fst)]) : Int) ∧ (Ty.ok Ty.str (ixD Ty.str [itoaN e.fst, itoaN e.snd.fst, itoaN e.snd.snd.fst, itoaN 
 e.snd.snd.snd.fst, quoteN e.snd.snd.snd.snd.fst, quoteN e.snd.snd.snd.snd.snd.fst, quoteN (bstr e.snd.snd.snd.snd.snd.snd.fst)] (i.fst.fst - (1 : Int))) → br (sEq (ixD Ty.str [itoaN e.fst, itoaN 
 e.snd.fst, itoaN e.snd.snd.fst, itoaN e.snd.snd.snd.fst, quoteN e.snd.snd.snd.snd.fst, quoteN e.snd.snd.snd.snd.snd.fst, quoteN (bstr e.snd.snd.snd.snd.snd.snd.fst)] (i.fst.fst - (1 : Int))) 
 (ByteArray.mk ( #[(39 : UInt8), (39 : UInt8)] ))) (inK IntKind.i64 (i.fst.fst - (1 : Int)) ∧ again ((i.fst.fst - (1 : Int), ()), ())) ((0 : Int) ≤ (0 : Int) ∧ (0 : Int) < (↑(List.length [itoaN e.fst, 
 itoaN e.snd.fst, itoaN e.snd.snd.fst, itoaN e.snd.snd.snd.fst, quoteN e.snd.snd.snd.snd.fst, quoteN e.snd.snd.snd.snd.snd.fst, quoteN (bstr e.snd.snd.snd.snd.snd.snd.fst)]) : Int) ∧ (0 : Int) ≤ (0 : 
 Int) ∧ (0 : Int) < (↑(List.length [itoaN e.fst, itoaN e.snd.fst, itoaN e.snd.snd.fst, itoaN e.snd.snd.snd.fst, quoteN e.snd.snd.snd.snd.fst, quoteN e.snd.snd.snd.snd.snd.fst, quoteN (bstr 
 e.snd.snd.snd.snd.snd.snd.fst)]) : Int) ∧ (Ty.ok Ty.str (ixD Ty.str [itoaN e.fst, itoaN e.snd.fst, itoaN e.snd.snd.fst, itoaN e.snd.snd.snd.fst, quoteN e.snd.snd.snd.snd.fst, quoteN 
 e.snd.snd.snd.snd.snd.fst, quoteN (bstr e.snd.snd.snd.snd.snd.snd.fst)] (0 : Int)) → LoopP (fun i_1 again => br (decide (i_1.fst.snd.fst < i.fst.fst)) (ByteArray.size i_1.fst.fst + (1 : Nat) ≤ 
 (9223372036854775807 : Nat) ∧ (0 : Int) ≤ i_1.fst.snd.fst ∧ i_1.fst.snd.fst < (↑(List.length [itoaN e.fst, itoaN e.snd.fst, itoaN e.snd.snd.fst, itoaN e.snd.snd.snd.fst, quoteN e.snd.snd.snd.snd.fst, 
 quoteN e.snd.snd.snd.snd.snd.fst, quoteN (bstr e.snd.snd.snd.snd.snd.snd.fst)]) : Int) ∧ (0 : Int) ≤ i_1.fst.snd.fst ∧ i_1.fst.snd.fst < (↑(List.length [itoaN e.fst, itoaN e.snd.fst, itoaN 
 e.snd.snd.fst, itoaN e.snd.snd.snd.fst, quoteN e.snd.snd.snd.snd.fst, quoteN e.snd.snd.snd.snd.snd.fst, quoteN (bstr e.snd.snd.snd.snd.snd.snd.fst)]) : Int) ∧ (Ty.ok Ty.str (ixD Ty.str [itoaN e.fst, 
 itoaN e.snd.fst, itoaN e.snd.snd.fst, itoaN e.snd.snd.snd.fst, quoteN e.snd.snd.snd.snd.fst, quoteN e.snd.snd.snd.snd.snd.fst, quoteN (bstr e.snd.snd.snd.snd.snd.snd.fst)] i_1.fst.snd.fst) → 
 ByteArray.size (i_1.fst.fst ++ (ByteArray.mk ( #[(32 : UInt8)] ))) + ByteArray.size (ixD Ty.str [itoaN e.fst, itoaN e.snd.fst, itoaN e.snd.snd.fst, itoaN e.snd.snd.snd.fst, quoteN 
 e.snd.snd.snd.snd.fst, quoteN e.snd.snd.snd.snd.snd.fst, quoteN (bstr e.snd.snd.snd.snd.snd.snd.fst)] i_1.fst.snd.fst) ≤ (9223372036854775807 : Nat) ∧ inK IntKind.i64 (i_1.fst.snd.fst + (1 : Int)) ∧ 
 again ((i_1.fst.fst ++ (ByteArray.mk ( #[(32 : UInt8)] )) ++ ixD Ty.str [itoaN e.fst, itoaN e.snd.fst, itoaN e.snd.snd.fst, itoaN e.snd.snd.snd.fst, quoteN e.snd.snd.snd.snd.fst, quoteN 
 e.snd.snd.snd.snd.snd.fst, quoteN (bstr e.snd.snd.snd.snd.snd.snd.fst)] i_1.fst.snd.fst, i_1.fst.snd.fst + (1 : Int), ()), ()))) (Q (SV.v (S1.c (Cl.k (Value.string i_1.fst.fst)))) [])) ((ixD Ty.str 
 [itoaN e.fst, itoaN e.snd.fst, itoaN e.snd.snd.fst, itoaN e.snd.snd.snd.fst, quoteN e.snd.snd.snd.snd.fst, quoteN e.snd.snd.snd.snd.snd.fst, quoteN (bstr e.snd.snd.snd.snd.snd.snd.fst)] (0 : Int), (1 
 : Int), ()), ()))))) ((0 : Int) ≤ (0 : Int) ∧ (0 : Int) < (↑(List.length [itoaN e.fst, itoaN e.snd.fst, itoaN e.snd.snd.fst, itoaN e.snd.snd.snd.fst, quoteN e.snd.snd.snd.snd.fst, quoteN 
 e.snd.snd.snd.snd.snd.fst, quoteN (bstr e.snd.snd.snd.snd.snd.snd.fst)]) : Int) ∧ (0 : Int) ≤ (0 : Int) ∧ (0 : Int) < (↑(List.length [itoaN e.fst, itoaN e.snd.fst, itoaN e.snd.snd.fst, itoaN 
 e.snd.snd.snd.fst, quoteN e.snd.snd.snd.snd.fst, quoteN e.snd.snd.snd.snd.snd.fst, quoteN (bstr e.snd.snd.snd.snd.snd.snd.fst)]) : Int) ∧ (Ty.ok Ty.str (ixD Ty.str [itoaN e.fst, itoaN e.snd.fst, itoaN 
 e.snd.snd.fst, itoaN e.snd.snd.snd.fst, quoteN e.snd.snd.snd.snd.fst, quoteN e.snd.snd.snd.snd.snd.fst, quoteN (bstr e.snd.snd.snd.snd.snd.snd.fst)] (0 : Int)) → LoopP (fun i_1 again => br (decide 
 (i_1.fst.snd.fst < i.fst.fst)) (ByteArray.size i_1.fst.fst + (1 : Nat) ≤ (9223372036854775807 : Nat) ∧ (0 : Int) ≤ i_1.fst.snd.fst ∧ i_1.fst.snd.fst < (↑(List.length [itoaN e.fst, itoaN e.snd.fst, 
 itoaN e.snd.snd.fst, itoaN e.snd.snd.snd.fst, quoteN e.snd.snd.snd.snd.fst, quoteN e.snd.snd.snd.snd.snd.fst, quoteN (bstr e.snd.snd.snd.snd.snd.snd.fst)]) : Int) ∧ (0 : Int) ≤ i_1.fst.snd.fst ∧ 
 i_1.fst.snd.fst < (↑(List.length [itoaN e.fst, itoaN e.snd.fst, itoaN e.snd.snd.fst, itoaN e.snd.snd.snd.fst, quoteN e.snd.snd.snd.snd.fst, quoteN e.snd.snd.snd.snd.snd.fst, quoteN (bstr 
 e.snd.snd.snd.snd.snd.snd.fst)]) : Int) ∧ (Ty.ok Ty.str (ixD Ty.str [itoaN e.fst, itoaN e.snd.fst, itoaN e.snd.snd.fst, itoaN e.snd.snd.snd.fst, quoteN e.snd.snd.snd.snd.fst, quoteN 
 e.snd.snd.snd.snd.snd.fst, quoteN (bstr e.snd.snd.snd.snd.snd.snd.fst)] i_1.fst.snd.fst) → ByteArray.size (i_1.fst.fst ++ (ByteArray.mk ( #[(32 : UInt8)] ))) + ByteArray.size (ixD Ty.str [itoaN e.fst, 
 itoaN e.snd.fst, itoaN e.snd.snd.fst, itoaN e.snd.snd.snd.fst, quoteN e.snd.snd.snd.snd.fst, quoteN e.snd.snd.snd.snd.snd.fst, quoteN (bstr e.snd.snd.snd.snd.snd.snd.fst)] i_1.fst.snd.fst) ≤ 
 (9223372036854775807 : Nat) ∧ inK IntKind.i64 (i_1.fst.snd.fst + (1 : Int)) ∧ again ((i_1.fst.fst ++ (ByteArray.mk ( #[(32 : UInt8)] )) ++ ixD Ty.str [itoaN e.fst, itoaN e.snd.fst, itoaN 
 e.snd.snd.fst, itoaN e.snd.snd.snd.fst, quoteN e.snd.snd.snd.snd.fst, quoteN e.snd.snd.snd.snd.snd.fst, quoteN (bstr e.snd.snd.snd.snd.snd.snd.fst)] i_1.fst.snd.fst, i_1.fst.snd.fst + (1 : Int), ()), 
 ()))) (Q (SV.v (S1.c (Cl.k (Value.string i_1.fst.fst)))) [])) ((ixD Ty.str [itoaN e.fst, itoaN e.snd.fst, itoaN e.snd.snd.fst, itoaN e.snd.snd.snd.fst, quoteN e.snd.snd.snd.snd.fst, quoteN 
 e.snd.snd.snd.snd.snd.fst, quoteN (bstr e.snd.snd.snd.snd.snd.snd.fst)] (0 : Int), (1 : Int), ()), ())))))) (br (decide (i.fst.fst > (4 : Int))) (inK IntKind.i64 (i.fst.fst - (1 : Int)) ∧ (0 : Int) ≤ 
 i.fst.fst - (1 : Int) ∧ i.fst.fst - (1 : Int) < (↑(List.length [itoaN e.fst, itoaN e.snd.fst, itoaN e.snd.snd.fst, itoaN e.snd.snd.snd.fst, quoteN e.snd.snd.snd.snd.fst, quoteN 
 e.snd.snd.snd.snd.snd.fst, quoteN (bstr e.snd.snd.snd.snd.snd.snd.fst)]) : Int) ∧ (0 : Int) ≤ i.fst.fst - (1 : Int) ∧ i.fst.fst - (1 : Int) < (↑(List.length [itoaN e.fst, itoaN e.snd.fst, itoaN 
 e.snd.snd.fst, itoaN e.snd.snd.snd.fst, quoteN e.snd.snd.snd.snd.fst, quoteN e.snd.snd.snd.snd.snd.fst, quoteN (bstr e.snd.snd.snd.snd.snd.snd.fst)]) : Int) ∧ (Ty.ok Ty.str (ixD Ty.str [itoaN e.fst, 
 itoaN e.snd.fst, itoaN e.snd.snd.fst, itoaN e.snd.snd.snd.fst, quoteN e.snd.snd.snd.snd.fst, quoteN e.snd.snd.snd.snd.snd.fst, quoteN (bstr e.snd.snd.snd.snd.snd.snd.fst)] (i.fst.fst - (1 : Int))) → 
 br (sEq (ixD Ty.str [itoaN e.fst, itoaN e.snd.fst, itoaN e.snd.snd.fst, itoaN e.snd.snd.snd.fst, quoteN e.snd.snd.snd.snd.fst, quoteN e.snd.snd.snd.snd.snd.fst, quoteN (bstr 
 e.snd.snd.snd.snd.snd.snd.fst)] (i.fst.fst - (1 : Int))) (ByteArray.mk ( #[(39 : UInt8), (39 : UInt8)] ))) (inK IntKind.i64 (i.fst.fst - (1 : Int)) ∧ again ((i.fst.fst - (1 : Int), ()), ())) ((0 : 
 Int) ≤ (0 : Int) ∧ (0 : Int) < (↑(List.length [itoaN e.fst, itoaN e.snd.fst, itoaN e.snd.snd.fst, itoaN e.snd.snd.snd.fst, quoteN e.snd.snd.snd.snd.fst, quoteN e.snd.snd.snd.snd.snd.fst, quoteN (bstr 
 e.snd.snd.snd.snd.snd.snd.fst)]) : Int) ∧ (0 : Int) ≤ (0 : Int) ∧ (0 : Int) < (↑(List.length [itoaN e.fst, itoaN e.snd.fst, itoaN e.snd.snd.fst, itoaN e.snd.snd.snd.fst, quoteN e.snd.snd.snd.snd.fst, 
 quoteN e.snd.snd.snd.snd.snd.fst, quoteN (bstr e.snd.snd.snd.snd.snd.snd.fst)]) : Int) ∧ (Ty.ok Ty.str (ixD Ty.str [itoaN e.fst, itoaN e.snd.fst, itoaN e.snd.snd.fst, itoaN e.snd.snd.snd.fst, quoteN 
 e.snd.snd.snd.snd.fst, quoteN e.snd.snd.snd.snd.snd.fst, quoteN (bstr e.snd.snd.snd.snd.snd.snd.fst)] (0 : Int)) → LoopP (fun i_1 again => br (decide (i_1.fst.snd.fst < i.fst.fst)) (ByteArray.size 
 i_1.fst.fst + (1 : Nat) ≤ (9223372036854775807 : Nat) ∧ (0 : Int) ≤ i_1.fst.snd.fst ∧ i_1.fst.snd.fst < (↑(List.length [itoaN e.fst, itoaN e.snd.fst, itoaN e.snd.snd.fst, itoaN e.snd.snd.snd.fst, 
 quoteN e.snd.snd.snd.snd.fst, quoteN e.snd.snd.snd.snd.snd.fst, quoteN (bstr e.snd.snd.snd.snd.snd.snd.fst)]) : Int) ∧ (0 : Int) ≤ i_1.fst.snd.fst ∧ i_1.fst.snd.fst < (↑(List.length [itoaN e.fst, 
 itoaN e.snd.fst, itoaN e.snd.snd.fst, itoaN e.snd.snd.snd.fst, quoteN e.snd.snd.snd.snd.fst, quoteN e.snd.snd.snd.snd.snd.fst, quoteN (bstr e.snd.snd.snd.snd.snd.snd.fst)]) : Int) ∧ (Ty.ok Ty.str (ixD 
 Ty.str [itoaN e.fst, itoaN e.snd.fst, itoaN e.snd.snd.fst, itoaN e.snd.snd.snd.fst, quoteN e.snd.snd.snd.snd.fst, quoteN e.snd.snd.snd.snd.snd.fst, quoteN (bstr e.snd.snd.snd.snd.snd.snd.fst)] 
 i_1.fst.snd.fst) → ByteArray.size (i_1.fst.fst ++ (ByteArray.mk ( #[(32 : UInt8)] ))) + ByteArray.size (ixD Ty.str [itoaN e.fst, itoaN e.snd.fst, itoaN e.snd.snd.fst, itoaN e.snd.snd.snd.fst, quoteN 
 e.snd.snd.snd.snd.fst, quoteN e.snd.snd.snd.snd.snd.fst, quoteN (bstr e.snd.snd.snd.snd.snd.snd.fst)] i_1.fst.snd.fst) ≤ (9223372036854775807 : Nat) ∧ inK IntKind.i64 (i_1.fst.snd.fst + (1 : Int)) ∧ 
 again ((i_1.fst.fst ++ (ByteArray.mk ( #[(32 : UInt8)] )) ++ ixD Ty.str [itoaN e.fst, itoaN e.snd.fst, itoaN e.snd.snd.fst, itoaN e.snd.snd.snd.fst, quoteN e.snd.snd.snd.snd.fst, quoteN 
 e.snd.snd.snd.snd.snd.fst, quoteN (bstr e.snd.snd.snd.snd.snd.snd.fst)] i_1.fst.snd.fst, i_1.fst.snd.fst + (1 : Int), ()), ()))) (Q (SV.v (S1.c (Cl.k (Value.string i_1.fst.fst)))) [])) ((ixD Ty.str 
 [itoaN e.fst, itoaN e.snd.fst, itoaN e.snd.snd.fst, itoaN e.snd.snd.snd.fst, quoteN e.snd.snd.snd.snd.fst, quoteN e.snd.snd.snd.snd.snd.fst, quoteN (bstr e.snd.snd.snd.snd.snd.snd.fst)] (0 : Int), (1 
 : Int), ()), ()))))) ((0 : Int) ≤ (0 : Int) ∧ (0 : Int) < (↑(List.length [itoaN e.fst, itoaN e.snd.fst, itoaN e.snd.snd.fst, itoaN e.snd.snd.snd.fst, quoteN e.snd.snd.snd.snd.fst, quoteN 
 e.snd.snd.snd.snd.snd.fst, quoteN (bstr e.snd.snd.snd.snd.snd.snd.fst)]) : Int) ∧ (0 : Int) ≤ (0 : Int) ∧ (0 : Int) < (↑(List.length [itoaN e.fst, itoaN e.snd.fst, itoaN e.snd.snd.fst, itoaN 
 e.snd.snd.snd.fst, quoteN e.snd.snd.snd.snd.fst, quoteN e.snd.snd.snd.snd.snd.fst, quoteN (bstr e.snd.snd.snd.snd.snd.snd.fst)]) : Int) ∧ (Ty.ok Ty.str (ixD Ty.str [itoaN e.fst, itoaN e.snd.fst, itoaN 
 e.snd.snd.fst, itoaN e.snd.snd.snd.fst, quoteN e.snd.snd.snd.snd.fst, quoteN e.snd.snd.snd.snd.snd.fst, quoteN (bstr e.snd.snd.snd.snd.snd.snd.fst)] (0 : Int)) → LoopP (fun i_1 again => br (decide 
 (i_1.fst.snd.fst < i.fst.fst)) (ByteArray.size i_1.fst.fst + (1 : Nat) ≤ (9223372036854775807 : Nat) ∧ (0 : Int) ≤ i_1.fst.snd.fst ∧ i_1.fst.snd.fst < (↑(List.length [itoaN e.fst, itoaN e.snd.fst, 
 itoaN e.snd.snd.fst, itoaN e.snd.snd.snd.fst, quoteN e.snd.snd.snd.snd.fst, quoteN e.snd.snd.snd.snd.snd.fst, quoteN (bstr e.snd.snd.snd.snd.snd.snd.fst)]) : Int) ∧ (0 : Int) ≤ i_1.fst.snd.fst ∧ 
 i_1.fst.snd.fst < (↑(List.length [itoaN e.fst, itoaN e.snd.fst, itoaN e.snd.snd.fst, itoaN e.snd.snd.snd.fst, quoteN e.snd.snd.snd.snd.fst, quoteN e.snd.snd.snd.snd.snd.fst, quoteN (bstr 
 e.snd.snd.snd.snd.snd.snd.fst)]) : Int) ∧ (Ty.ok Ty.str (ixD Ty.str [itoaN e.fst, itoaN e.snd.fst, itoaN e.snd.snd.fst, itoaN e.snd.snd.snd.fst, quoteN e.snd.snd.snd.snd.fst, quoteN 
 e.snd.snd.snd.snd.snd.fst, quoteN (bstr e.snd.snd.snd.snd.snd.snd.fst)] i_1.fst.snd.fst) → ByteArray.size (i_1.fst.fst ++ (ByteArray.mk ( #[(32 : UInt8)] ))) + ByteArray.size (ixD Ty.str [itoaN e.fst, 
 itoaN e.snd.fst, itoaN e.snd.snd.fst, itoaN e.snd.snd.snd.fst, quoteN e.snd.snd.snd.snd.fst, quoteN e.snd.snd.snd.snd.snd.fst, quoteN (bstr e.snd.snd.snd.snd.snd.snd.fst)] i_1.fst.snd.fst) ≤ 
 (9223372036854775807 : Nat) ∧ inK IntKind.i64 (i_1.fst.snd.fst + (1 : Int)) ∧ again ((i_1.fst.fst ++ (ByteArray.mk ( #[(32 : UInt8)] )) ++ ixD Ty.str [itoaN e.fst, itoaN e.snd.fst, itoaN 
 e.snd.snd.fst, itoaN e.snd.snd.snd.fst, quoteN e.snd.snd.snd.snd.fst, quoteN e.snd.snd.snd.snd.snd.fst, quoteN (bstr e.snd.snd.snd.snd.snd.snd.fst)] i_1.fst.snd.fst, i_1.fst.snd.fst + (1 : Int), ()), 
 ()))) (Q (SV.v (S1.c (Cl.k (Value.string i_1.fst.fst)))) [])) ((ixD Ty.str [itoaN e.fst, itoaN e.snd.fst, itoaN e.snd.snd.fst, itoaN e.snd.snd.snd.fst, quoteN e.snd.snd.snd.snd.fst, quoteN 
 e.snd.snd.snd.snd.snd.fst, quoteN (bstr e.snd.snd.snd.snd.snd.snd.fst)] (0 : Int), (1 : Int), ()), ()))))) ((0 : Int) ≤ (0 : Int) ∧ (0 : Int) < (↑(List.length [itoaN e.fst, itoaN e.snd.fst, itoaN 
 e.snd.snd.fst, itoaN e.snd.snd.snd.fst, quoteN e.snd.snd.snd.snd.fst, quoteN e.snd.snd.snd.snd.snd.fst, quoteN (bstr e.snd.snd.snd.snd.snd.snd.fst)]) : Int) ∧ (0 : Int) ≤ (0 : Int) ∧ (0 : Int) < 
 (↑(List.length [itoaN e.fst, itoaN e.snd.fst, itoaN e.snd.snd.fst, itoaN e.snd.snd.snd.fst, quoteN e.snd.snd.snd.snd.fst, quoteN e.snd.snd.snd.snd.snd.fst, quoteN (bstr 
 e.snd.snd.snd.snd.snd.snd.fst)]) : Int) ∧ (Ty.ok Ty.str (ixD Ty.str [itoaN e.fst, itoaN e.snd.fst, itoaN e.snd.snd.fst, itoaN e.snd.snd.snd.fst, quoteN e.snd.snd.snd.snd.fst, quoteN 
 e.snd.snd.snd.snd.snd.fst, quoteN (bstr e.snd.snd.snd.snd.snd.snd.fst)] (0 : Int)) → LoopP (fun i_1 again => br (decide (i_1.fst.snd.fst < i.fst.fst)) (ByteArray.size i_1.fst.fst + (1 : Nat) ≤ 
 (9223372036854775807 : Nat) ∧ (0 : Int) ≤ i_1.fst.snd.fst ∧ i_1.fst.snd.fst < (↑(List.length [itoaN e.fst, itoaN e.snd.fst, itoaN e.snd.snd.fst, itoaN e.snd.snd.snd.fst, quoteN e.snd.snd.snd.snd.fst, 
 quoteN e.snd.snd.snd.snd.snd.fst, quoteN (bstr e.snd.snd.snd.snd.snd.snd.fst)]) : Int) ∧ (0 : Int) ≤ i_1.fst.snd.fst ∧ i_1.fst.snd.fst < (↑(List.length [itoaN e.fst, itoaN e.snd.fst, itoaN 
 e.snd.snd.fst, itoaN e.snd.snd.snd.fst, quoteN e.snd.snd.snd.snd.fst, quoteN e.snd.snd.snd.snd.snd.fst, quoteN (bstr e.snd.snd.snd.snd.snd.snd.fst)]) : Int) ∧ (Ty.ok Ty.str (ixD Ty.str [itoaN e.fst, 
 itoaN e.snd.fst, itoaN e.snd.snd.fst, itoaN e.snd.snd.snd.fst, quoteN e.snd.snd.snd.snd.fst, quoteN e.snd.snd.snd.snd.snd.fst, quoteN (bstr e.snd.snd.snd.snd.snd.snd.fst)] i_1.fst.snd.fst) → 
 ByteArray.size (i_1.fst.fst ++ (ByteArray.mk ( #[(32 : UInt8)] ))) + ByteArray.size (ixD Ty.str [itoaN e.fst, itoaN e.snd.fst, itoaN e.snd.snd.fst, itoaN e.snd.snd.snd.fst, quoteN 
 e.snd.snd.snd.snd.fst, quoteN e.snd.snd.snd.snd.snd.fst, quoteN (bstr e.snd.snd.snd.snd.snd.snd.fst)] i_1.fst.snd.fst) ≤ (9223372036854775807 : Nat) ∧ inK IntKind.i64 (i_1.fst.snd.fst + (1 : Int)) ∧ 
 again ((i_1.fst.fst ++ (ByteArray.mk ( #[(32 : UInt8)] )) ++ ixD Ty.str [itoaN e.fst, itoaN e.snd.fst, itoaN e.snd.snd.fst, itoaN e.snd.snd.snd.fst, quoteN e.snd.snd.snd.snd.fst, quoteN 
 e.snd.snd.snd.snd.snd.fst, quoteN (bstr e.snd.snd.snd.snd.snd.snd.fst)] i_1.fst.snd.fst, i_1.fst.snd.fst + (1 : Int), ()), ()))) (Q (SV.v (S1.c (Cl.k (Value.string i_1.fst.fst)))) [])) ((ixD Ty.str 
 [itoaN e.fst, itoaN e.snd.fst, itoaN e.snd.snd.fst, itoaN e.snd.snd.snd.fst, quoteN e.snd.snd.snd.snd.fst, quoteN e.snd.snd.snd.snd.snd.fst, quoteN (bstr e.snd.snd.snd.snd.snd.snd.fst)] (0 : Int), (1 
 : Int), ()), ())))) (((↑(List.length [itoaN e.fst, itoaN e.snd.fst, itoaN e.snd.snd.fst, itoaN e.snd.snd.snd.fst, quoteN e.snd.snd.snd.snd.fst, quoteN e.snd.snd.snd.snd.snd.fst, quoteN (bstr 
 e.snd.snd.snd.snd.snd.snd.fst)]) : Int), ()), ()))))
set_option maxRecDepth 1000000 in
theorem vc_lineR_eq (e : (tEvent).den) (Q : SV → List HO → Prop) : vFun XD1719 ⟨[(4, ⟨[(4, .int .i64)], []⟩), (8, ⟨[(5, .str), (6, .int .i64)], []⟩)], []⟩ Tryd.f33 [.v (.agg (Ty.cells tEvent e))] [] Q = vc_lineR e Q := by kernel_rfl
set_option maxRecDepth 100000 in
theorem w_lineR : ∀ args H Q, c_lineR args H Q → Wp Inv Tryd.prog 33 args H Q := by
  intro args H Q h
  unfold c_lineR at h
  split at h
  · rename_i ce
    split at h
    · rename_i e he
      refine Wp.said (args' := [.v (.agg (Ty.cells tEvent e))]) (fun E g => RelVs.cons1 (of_row he) (fun _ h => h)) ?_
      clear he
      refine Wp.enter (X := XD1719) XD1719_ok ⟨[(4, ⟨[(4, .int .i64)], []⟩), (8, ⟨[(5, .str), (6, .int .i64)], []⟩)], []⟩ (fn := Tryd.f33) (by kernel_rfl) ?_
      have hv := vc_lineR_eq e Q
      rw [show vFun _ _ _ _ _ _ = _ from hv]
      unfold vc_lineR
      clear hv
      obtain ⟨hb1, hb2, hb3, h⟩ := h
      intro k1 k2 k3 k4 k5 k6 k7 _ _ _ _
      have ok : EvOk 100000000 e := ⟨k1, k2, k3, k4, by omega, by omega, by omega⟩
      have hbz := bstr_size e.2.2.2.2.2.2.1
      refine ⟨by omega, fun _ => ⟨by omega, fun _ => ⟨by rw [hbz]; omega, fun _ _ => ?_⟩⟩⟩
      rw [show ([itoaN e.1, itoaN e.2.1, itoaN e.2.2.1, itoaN e.2.2.2.1, quoteN e.2.2.2.2.1, quoteN e.2.2.2.2.2.1, quoteN (bstr e.2.2.2.2.2.2.1)] : List ByteArray) = wordsN e from rfl]
      have hl : ((wordsN e).length : Int) = 7 := rfl
      refine LoopP.intro (fun i => ∃ n : Nat, i.1.1 = (n : Int) ∧ 1 ≤ n ∧ n ≤ 7 ∧ trimN (wordsN e) noneW n = trimN (wordsN e) noneW 7) (fun i => i.1.1.toNat) ⟨7, rfl, by decide, by decide, rfl⟩ ?_
      rintro ⟨⟨n, _⟩, _⟩ ⟨m, h0, h1, h2, h3⟩
      simp only at h0 h3 ⊢
      subst h0
      refine @br_of _ _ _ ?_ ?_
      · intro c1
        have c1 : 1 < m := by have : (m : Int) > 1 := (by simpa using c1); omega
        obtain ⟨q, rfl⟩ : ∃ q, m = q + 1 := ⟨m - 1, by omega⟩
        have e1 : ((q + 1 : Nat) : Int) - 1 = (q : Int) := by omega
        rw [e1]
        have hx : ixD Ty.str (wordsN e) (q : Int) = (wordsN e).getD q ⟨#[]⟩ := rfl
        rw [hx]
        refine @br_of _ _ _ ?_ ?_
        · intro c2
          have c2 : q + 1 ≤ 4 := by have : ((q + 1 : Nat) : Int) ≤ 4 := (by simpa using c2); omega
          refine ⟨by unfold inK; omega, by omega, by omega, by omega, by omega, fun _ => ?_⟩
          rw [← none_low (q := q) (by omega)]
          refine @br_of _ _ _ ?_ ?_
          · intro c3
            exact ⟨by unfold inK; omega, ⟨q, rfl, by omega, by omega, (trim_yes (decide_eq_true (by omega)) c3).symm.trans h3⟩, by omega⟩
          · intro c3
            refine @br_of _ _ _ ?_ ?_
            · intro c4
              have c4 : ((q + 1 : Nat) : Int) > 4 := (by simpa using c4)
              omega
            · intro c4
              skip
              have hL := line_k (e := e) (k := (q + 1)) (h3.symm.trans (trim_no c3))
              refine ⟨by decide, by rw [hl]; decide, by decide, by rw [hl]; decide, fun _ => ?_⟩
              refine LoopP.intro (fun i => ∃ p : Nat, i.1.2.1 = (p : Int) ∧ 1 ≤ p ∧ p ≤ (q + 1) ∧ i.1.1 = joinW ((wordsN e).take p)) (fun i => (q + 1) - i.1.2.1.toNat) ⟨1, rfl, by decide, by omega, (joinW_one _).symm⟩ ?_
              rintro ⟨⟨t, i, _⟩, _⟩ ⟨p, g0, g1, g2, g3⟩
              simp only at g0 g3 ⊢
              subst g0
              refine @br_of _ _ _ ?_ ?_
              · intro d1
                have d1 : p < (q + 1) := by have : (p : Int) < (((q + 1) : Nat) : Int) := (by simpa using d1); omega
                have z1 := line_size ok p
                have z2 := line_size ok (p + 1)
                have hn := join_next (e := e) (p := p) g1 (by omega)
                have hx : ixD Ty.str (wordsN e) (p : Int) = (wordsN e).getD p ⟨#[]⟩ := rfl
                refine ⟨by rw [g3]; omega, by omega, by omega, by omega, by omega, fun _ => ⟨?_, by unfold inK; omega, ⟨p + 1, by omega, by omega, by omega, ?_⟩, by omega⟩⟩
                · rw [hx, ← ByteArray.size_append, g3]
                  rw [hn] at z2
                  exact Nat.le_trans z2 (by decide)
                · rw [hx, g3, hn]
              · intro d1
                have d1 : p = (q + 1) := by have : ¬ (p : Int) < (((q + 1) : Nat) : Int) := (by simpa using d1); omega
                rw [hL, ← d1] at h
                rw [g3]
                exact h
        · intro c2
          have c2 : ¬ q + 1 ≤ 4 := by have : ¬ ((q + 1 : Nat) : Int) ≤ 4 := (by simpa using c2); omega
          refine @br_of _ _ _ ?_ ?_
          · intro c4
            refine ⟨by unfold inK; omega, by omega, by omega, by omega, by omega, fun _ => ?_⟩
            rw [← none_high (q := q) (by omega) (by omega)]
            refine @br_of _ _ _ ?_ ?_
            · intro c3
              exact ⟨by unfold inK; omega, ⟨q, rfl, by omega, by omega, (trim_yes (decide_eq_true (by omega)) c3).symm.trans h3⟩, by omega⟩
            · intro c3
              skip
              have hL := line_k (e := e) (k := (q + 1)) (h3.symm.trans (trim_no c3))
              refine ⟨by decide, by rw [hl]; decide, by decide, by rw [hl]; decide, fun _ => ?_⟩
              refine LoopP.intro (fun i => ∃ p : Nat, i.1.2.1 = (p : Int) ∧ 1 ≤ p ∧ p ≤ (q + 1) ∧ i.1.1 = joinW ((wordsN e).take p)) (fun i => (q + 1) - i.1.2.1.toNat) ⟨1, rfl, by decide, by omega, (joinW_one _).symm⟩ ?_
              rintro ⟨⟨t, i, _⟩, _⟩ ⟨p, g0, g1, g2, g3⟩
              simp only at g0 g3 ⊢
              subst g0
              refine @br_of _ _ _ ?_ ?_
              · intro d1
                have d1 : p < (q + 1) := by have : (p : Int) < (((q + 1) : Nat) : Int) := (by simpa using d1); omega
                have z1 := line_size ok p
                have z2 := line_size ok (p + 1)
                have hn := join_next (e := e) (p := p) g1 (by omega)
                have hx : ixD Ty.str (wordsN e) (p : Int) = (wordsN e).getD p ⟨#[]⟩ := rfl
                refine ⟨by rw [g3]; omega, by omega, by omega, by omega, by omega, fun _ => ⟨?_, by unfold inK; omega, ⟨p + 1, by omega, by omega, by omega, ?_⟩, by omega⟩⟩
                · rw [hx, ← ByteArray.size_append, g3]
                  rw [hn] at z2
                  exact Nat.le_trans z2 (by decide)
                · rw [hx, g3, hn]
              · intro d1
                have d1 : p = (q + 1) := by have : ¬ (p : Int) < (((q + 1) : Nat) : Int) := (by simpa using d1); omega
                rw [hL, ← d1] at h
                rw [g3]
                exact h
          · intro c4
            have c4 : ¬ ((q + 1 : Nat) : Int) > 4 := (by simpa using c4)
            omega
      · intro c1
        have c1 : m = 1 := by have : ¬ (m : Int) > 1 := (by simpa using c1); omega
        subst c1
        have hL := line_k (e := e) (k := 1) (h3.symm.trans (trim_one _ _))
        refine ⟨by decide, by rw [hl]; decide, by decide, by rw [hl]; decide, fun _ => ?_⟩
        refine LoopP.intro (fun i => ∃ p : Nat, i.1.2.1 = (p : Int) ∧ 1 ≤ p ∧ p ≤ 1 ∧ i.1.1 = joinW ((wordsN e).take p)) (fun i => 1 - i.1.2.1.toNat) ⟨1, rfl, by decide, by omega, (joinW_one _).symm⟩ ?_
        rintro ⟨⟨t, i, _⟩, _⟩ ⟨p, g0, g1, g2, g3⟩
        simp only at g0 g3 ⊢
        subst g0
        refine @br_of _ _ _ ?_ ?_
        · intro d1
          have d1 : p < 1 := by have : (p : Int) < ((1 : Nat) : Int) := (by simpa using d1); omega
          have z1 := line_size ok p
          have z2 := line_size ok (p + 1)
          have hn := join_next (e := e) (p := p) g1 (by omega)
          have hx : ixD Ty.str (wordsN e) (p : Int) = (wordsN e).getD p ⟨#[]⟩ := rfl
          refine ⟨by rw [g3]; omega, by omega, by omega, by omega, by omega, fun _ => ⟨?_, by unfold inK; omega, ⟨p + 1, by omega, by omega, by omega, ?_⟩, by omega⟩⟩
          · rw [hx, ← ByteArray.size_append, g3]
            rw [hn] at z2
            exact Nat.le_trans z2 (by decide)
          · rw [hx, g3, hn]
        · intro d1
          have d1 : p = 1 := by have : ¬ (p : Int) < ((1 : Nat) : Int) := (by simpa using d1); omega
          rw [hL, ← d1] at h
          rw [g3]
          exact h
    · exact h.elim
  · exact h.elim
end Go.Proofs

namespace Go.Proofs
open Go Go.Lm Go.RowKit
def c_eventR : Ct
  | [.v (.c (.k (.string s)))], [], Q => ((s.size : Int) ≤ 90000000 ∧ Q (.v (.agg [.k (.int .i64 (evR s).1), .k (.int .i64 (evR s).2.1), .k (.int .i64 (evR s).2.2.1), .k (.int .i64 (evR s).2.2.2.1), .k (.string (evR s).2.2.2.2.1), .k (.string (evR s).2.2.2.2.2.1), .d .u8 (evR s).2.2.2.2.2.2.1])) [])
  | _, _, _ => False
noncomputable def XD1820 : Vx := { P := Tryd.prog, ct := [(33, c_lineR), (48, c_wordsR), (49, c_numberR), (36, c_bldS), (34, c_bldW), (4, c_lawPlain), (3, c_lawQuotes), (9, c_shown), (14, c_parse), (31, c_event), (47, c_atoi), (35, c_line), (45, c_words), (51, c_sjoin), (46, c_split), (30, c_cut), (29, c_count), (37, c_itoa), (11, c_unquoteR), (23, c_digit), (10, c_unquote), (13, c_quoteR), (27, c_decode), (12, c_quote), (28, c_itselfR), (26, c_itself), (24, c_hasPre), (39, c_hasPre0), (22, c_indexByte), (25, c_runeLen)], ty := tyTab, hold := [51] }
theorem XD1820_ok : CtOk Inv Tryd.prog XD1820.ct := CtOk.cons w_lineR (CtOk.cons w_wordsR (CtOk.cons w_numberR (CtOk.cons w_bldS (CtOk.cons w_bldW (CtOk.cons w_lawPlain (CtOk.cons w_lawQuotes (CtOk.cons w_shown (CtOk.cons w_parse (CtOk.cons w_event (CtOk.cons w_atoi (CtOk.cons w_line (CtOk.cons w_words (CtOk.cons w_sjoin (CtOk.cons w_split (CtOk.cons w_cut (CtOk.cons w_count (CtOk.cons w_itoa (CtOk.cons w_unquoteR (CtOk.cons w_digit (CtOk.cons w_unquote (CtOk.cons w_quoteR (CtOk.cons w_decode (CtOk.cons w_quote (CtOk.cons w_itselfR (CtOk.cons w_itself (CtOk.cons w_hasPre (CtOk.cons w_hasPre0 (CtOk.cons w_indexByte (CtOk.cons w_runeLen (CtOk.nil _ _))))))))))))))))))))))))))))))
def vc_eventR : (ByteArray) → (SV → List HO → Prop) → Prop :=
 fun s Q => ByteArray.size s ≤ (9223372036854775807 : Nat) → (↑(ByteArray.size s) : Int) ≤ (1000000000 : Int) ∧ LoopP (fun i again => List.length i.fst.fst ≤ (9223372036854775807 : Nat) → br (decide 
 ((↑(List.length i.fst.fst) : Int) < (7 : Int))) ((List.length i.fst.fst + (1 : Nat)) * (16 : Nat) ≤ (140737488355328 : Nat) ∧ List.length i.fst.fst + (1 : Nat) ≤ (9223372036854775807 : Nat) ∧ again 
 ((i.fst.fst ++ [(ByteArray.mk ( #[(48 : UInt8)] ))], ()), ())) ((0 : Int) ≤ (4 : Int) ∧ (4 : Int) < (↑(List.length i.fst.fst) : Int) ∧ (0 : Int) ≤ (4 : Int) ∧ (4 : Int) < (↑(List.length i.fst.fst) : 
 Int) ∧ (Ty.ok Ty.str (ixD Ty.str i.fst.fst (4 : Int)) → (↑(ByteArray.size (ixD Ty.str i.fst.fst (4 : Int))) : Int) ≤ (1000000000 : Int) ∧ (ByteArray.size (unqR (ixD Ty.str i.fst.fst (4 : Int))).fst ≤ 
 (9223372036854775807 : Nat) → inK IntKind.i64 (unqR (ixD Ty.str i.fst.fst (4 : Int))).snd → (0 : Int) ≤ (5 : Int) ∧ (5 : Int) < (↑(List.length i.fst.fst) : Int) ∧ (0 : Int) ≤ (5 : Int) ∧ (5 : Int) < 
 (↑(List.length i.fst.fst) : Int) ∧ (Ty.ok Ty.str (ixD Ty.str i.fst.fst (5 : Int)) → (↑(ByteArray.size (ixD Ty.str i.fst.fst (5 : Int))) : Int) ≤ (1000000000 : Int) ∧ (ByteArray.size (unqR (ixD Ty.str 
 i.fst.fst (5 : Int))).fst ≤ (9223372036854775807 : Nat) → inK IntKind.i64 (unqR (ixD Ty.str i.fst.fst (5 : Int))).snd → (0 : Int) ≤ (6 : Int) ∧ (6 : Int) < (↑(List.length i.fst.fst) : Int) ∧ (0 : Int) 
 ≤ (6 : Int) ∧ (6 : Int) < (↑(List.length i.fst.fst) : Int) ∧ (Ty.ok Ty.str (ixD Ty.str i.fst.fst (6 : Int)) → (↑(ByteArray.size (ixD Ty.str i.fst.fst (6 : Int))) : Int) ≤ (1000000000 : Int) ∧ 
 (ByteArray.size (unqR (ixD Ty.str i.fst.fst (6 : Int))).fst ≤ (9223372036854775807 : Nat) → inK IntKind.i64 (unqR (ixD Ty.str i.fst.fst (6 : Int))).snd → (0 : Int) ≤ (0 : Int) ∧ (0 : Int) < 
 (↑(List.length i.fst.fst) : Int) ∧ (0 : Int) ≤ (0 : Int) ∧ (0 : Int) < (↑(List.length i.fst.fst) : Int) ∧ (Ty.ok Ty.str (ixD Ty.str i.fst.fst (0 : Int)) → (0 : Int) ≤ (1 : Int) ∧ (1 : Int) < 
 (↑(List.length i.fst.fst) : Int) ∧ (0 : Int) ≤ (1 : Int) ∧ (1 : Int) < (↑(List.length i.fst.fst) : Int) ∧ (Ty.ok Ty.str (ixD Ty.str i.fst.fst (1 : Int)) → (0 : Int) ≤ (2 : Int) ∧ (2 : Int) < 
 (↑(List.length i.fst.fst) : Int) ∧ (0 : Int) ≤ (2 : Int) ∧ (2 : Int) < (↑(List.length i.fst.fst) : Int) ∧ (Ty.ok Ty.str (ixD Ty.str i.fst.fst (2 : Int)) → (0 : Int) ≤ (3 : Int) ∧ (3 : Int) < 
 (↑(List.length i.fst.fst) : Int) ∧ (0 : Int) ≤ (3 : Int) ∧ (3 : Int) < (↑(List.length i.fst.fst) : Int) ∧ (Ty.ok Ty.str (ixD Ty.str i.fst.fst (3 : Int)) → (inK IntKind.i64 (numberN (ixD Ty.str 
 i.fst.fst (0 : Int))) → (inK IntKind.i64 (numberN (ixD Ty.str i.fst.fst (1 : Int))) → (inK IntKind.i64 (numberN (ixD Ty.str i.fst.fst (2 : Int))) → (inK IntKind.i64 (numberN (ixD Ty.str i.fst.fst (3 : 
 Int))) → Q (SV.v (S1.agg [Cl.k (Value.int IntKind.i64 (numberN (ixD Ty.str i.fst.fst (0 : Int)))), Cl.k (Value.int IntKind.i64 (numberN (ixD Ty.str i.fst.fst (1 : Int)))), Cl.k (Value.int IntKind.i64 
 (numberN (ixD Ty.str i.fst.fst (2 : Int)))), Cl.k (Value.int IntKind.i64 (numberN (ixD Ty.str i.fst.fst (3 : Int)))), Cl.k (Value.string (unqR (ixD Ty.str i.fst.fst (4 : Int))).fst), Cl.k 
 (Value.string (unqR (ixD Ty.str i.fst.fst (5 : Int))).fst), Cl.d Ty.u8 (unqR (ixD Ty.str i.fst.fst (6 : Int))).fst.data.toList])) []) ∧ (inK IntKind.i64 (numberN (ixD Ty.str i.fst.fst (3 : Int))) → Q 
 (SV.v (S1.agg [Cl.k (Value.int IntKind.i64 (numberN (ixD Ty.str i.fst.fst (0 : Int)))), Cl.k (Value.int IntKind.i64 (numberN (ixD Ty.str i.fst.fst (1 : Int)))), Cl.k (Value.int IntKind.i64 (numberN 
 (ixD Ty.str i.fst.fst (2 : Int)))), Cl.k (Value.int IntKind.i64 (numberN (ixD Ty.str i.fst.fst (3 : Int)))), Cl.k (Value.string (unqR (ixD Ty.str i.fst.fst (4 : Int))).fst), Cl.k (Value.string (unqR 
 (ixD Ty.str i.fst.fst (5 : Int))).fst), Cl.d Ty.u8 (unqR (ixD Ty.str i.fst.fst (6 : Int))).fst.data.toList])) [])) ∧ (inK IntKind.i64 (numberN (ixD Ty.str i.fst.fst (2 : Int))) → inK IntKind.i64 
 (numberN (ixD Ty.str i.fst.fst (3 : Int))) → Q (SV.v (S1.agg [Cl.k (Value.int IntKind.i64 (numberN (ixD Ty.str i.fst.fst (0 : Int)))), Cl.k (Value.int IntKind.i64 (numberN (ixD Ty.str i.fst.fst (1 : 
 Int)))), Cl.k (Value.int IntKind.i64 (numberN (ixD Ty.str i.fst.fst (2 : Int)))), Cl.k (Value.int IntKind.i64 (numberN (ixD Ty.str i.fst.fst (3 : Int)))), Cl.k (Value.string (unqR (ixD Ty.str 
 i.fst.fst (4 : Int))).fst), Cl.k (Value.string (unqR (ixD Ty.str i.fst.fst (5 : Int))).fst), Cl.d Ty.u8 (unqR (ixD Ty.str i.fst.fst (6 : Int))).fst.data.toList])) [])) ∧ (inK IntKind.i64 (numberN (ixD 
 Ty.str i.fst.fst (1 : Int))) → inK IntKind.i64 (numberN (ixD Ty.str i.fst.fst (2 : Int))) → inK IntKind.i64 (numberN (ixD Ty.str i.fst.fst (3 : Int))) → Q (SV.v (S1.agg [Cl.k (Value.int IntKind.i64 
 (numberN (ixD Ty.str i.fst.fst (0 : Int)))), Cl.k (Value.int IntKind.i64 (numberN (ixD Ty.str i.fst.fst (1 : Int)))), Cl.k (Value.int IntKind.i64 (numberN (ixD Ty.str i.fst.fst (2 : Int)))), Cl.k 
 (Value.int IntKind.i64 (numberN (ixD Ty.str i.fst.fst (3 : Int)))), Cl.k (Value.string (unqR (ixD Ty.str i.fst.fst (4 : Int))).fst), Cl.k (Value.string (unqR (ixD Ty.str i.fst.fst (5 : Int))).fst), 
 Cl.d Ty.u8 (unqR (ixD Ty.str i.fst.fst (6 : Int))).fst.data.toList])) [])) ∧ (inK IntKind.i64 (numberN (ixD Ty.str i.fst.fst (0 : Int))) → inK IntKind.i64 (numberN (ixD Ty.str i.fst.fst (1 : Int))) → 
 inK IntKind.i64 (numberN (ixD Ty.str i.fst.fst (2 : Int))) → inK IntKind.i64 (numberN (ixD Ty.str i.fst.fst (3 : Int))) → Q (SV.v (S1.agg [Cl.k (Value.int IntKind.i64 (numberN (ixD Ty.str i.fst.fst (0 
 : Int)))), Cl.k (Value.int IntKind.i64 (numberN (ixD Ty.str i.fst.fst (1 : Int)))), Cl.k (Value.int IntKind.i64 (numberN (ixD Ty.str i.fst.fst (2 : Int)))), Cl.k (Value.int IntKind.i64 (numberN (ixD 
 Ty.str i.fst.fst (3 : Int)))), Cl.k (Value.string (unqR (ixD Ty.str i.fst.fst (4 : Int))).fst), Cl.k (Value.string (unqR (ixD Ty.str i.fst.fst (5 : Int))).fst), Cl.d Ty.u8 (unqR (ixD Ty.str i.fst.fst 
 (6 : Int))).fst.data.toList])) []))))))))))))) ((partsW s, ()), ())
set_option maxRecDepth 1000000 in
theorem vc_eventR_eq (s : ByteArray) (Q : SV → List HO → Prop) : vFun XD1820 ⟨[(3, ⟨[(3, .own 9 .str)], []⟩)], []⟩ Tryd.f32 [.str s] [] Q = vc_eventR s Q := by kernel_rfl
set_option maxRecDepth 100000 in
theorem w_eventR : ∀ args H Q, c_eventR args H Q → Wp Inv Tryd.prog 32 args H Q := by
  intro args H Q h
  unfold c_eventR at h
  split at h
  · rename_i s
    refine Wp.enter (X := XD1820) XD1820_ok ⟨[(3, ⟨[(3, .own 9 .str)], []⟩)], []⟩ (fn := Tryd.f32) (by kernel_rfl) ?_
    have hv := vc_eventR_eq s Q
    rw [show vFun _ _ _ _ _ _ = _ from hv]
    unfold vc_eventR
    clear hv
    obtain ⟨hb, h⟩ := h
    intro hs
    refine ⟨by omega, ?_⟩
    refine LoopP.intro (fun i => ∃ k, i.1.1 = padW s k ∧ (padW s k).length ≤ s.size + 8) (fun i => 7 - i.1.1.length) ⟨0, (List.append_nil _).symm, ?_⟩ ?_
    · have := partsW_le s
      show (partsW s ++ []).length ≤ _
      rw [List.append_nil]; omega
    rintro ⟨⟨l, _⟩, _⟩ ⟨k, h0, h1⟩
    simp only at h0 ⊢
    subst h0
    intro _
    refine @br_of _ _ _ ?_ ?_
    · intro c1
      have c1 : (padW s k).length < 7 := by have : ((padW s k).length : Int) < 7 := (by simpa using c1); omega
      refine ⟨by omega, by omega, ⟨k + 1, pad_next s k, ?_⟩, ?_⟩
      · rw [← pad_next, List.length_append]
        show (padW s k).length + 1 ≤ _
        omega
      · rw [List.length_append]
        show 7 - ((padW s k).length + 1) < _
        omega
    · intro c1
      have c1 : ¬ (padW s k).length < 7 := by have : ¬ ((padW s k).length : Int) < 7 := (by simpa using c1); omega
      have hx : ∀ i : Nat, ixD Ty.str (padW s k) (i : Int) = (padW s k).getD i ⟨#[]⟩ := fun _ => rfl
      have e0 : numberN (ixD Ty.str (padW s k) 0) = numberN (wordW s 0) := pad_num (i := 0) (by omega) (by decide)
      have e1 : numberN (ixD Ty.str (padW s k) 1) = numberN (wordW s 1) := pad_num (i := 1) (by omega) (by decide)
      have e2 : numberN (ixD Ty.str (padW s k) 2) = numberN (wordW s 2) := pad_num (i := 2) (by omega) (by decide)
      have e3 : numberN (ixD Ty.str (padW s k) 3) = numberN (wordW s 3) := pad_num (i := 3) (by omega) (by decide)
      have e4 : (unqD (ixD Ty.str (padW s k) 4)).1 = (unqD (wordW s 4)).1 := pad_unq (i := 4) (by omega) (by decide) (by decide)
      have e5 : (unqD (ixD Ty.str (padW s k) 5)).1 = (unqD (wordW s 5)).1 := pad_unq (i := 5) (by omega) (by decide) (by decide)
      have e6 : (unqD (ixD Ty.str (padW s k) 6)).1 = (unqD (wordW s 6)).1 := pad_unq (i := 6) (by omega) (by decide) (by decide)
      have z4 : (ixD Ty.str (padW s k) 4).size ≤ s.size + 1 := pad_sz (i := 4) (by omega)
      have z5 : (ixD Ty.str (padW s k) 5).size ≤ s.size + 1 := pad_sz (i := 5) (by omega)
      have z6 : (ixD Ty.str (padW s k) 6).size ≤ s.size + 1 := pad_sz (i := 6) (by omega)
      rw [← unq_eq (ixD Ty.str (padW s k) 4), ← unq_eq (ixD Ty.str (padW s k) 5), ← unq_eq (ixD Ty.str (padW s k) 6), e0, e1, e2, e3, e4, e5, e6]
      refine ⟨by decide, by omega, by decide, by omega, fun _ => ⟨by omega, fun _ _ => ⟨by decide, by omega, by decide, by omega, fun _ => ⟨by omega, fun _ _ => ⟨by decide, by omega, by decide, by omega, fun _ => ⟨by omega, fun _ _ => ⟨by decide, by omega, by decide, by omega, fun _ => ⟨by decide, by omega, by decide, by omega, fun _ => ⟨by decide, by omega, by decide, by omega, fun _ => ⟨by decide, by omega, by decide, by omega, fun _ => ?_⟩⟩⟩⟩⟩⟩⟩⟩⟩⟩
      exact ⟨fun _ => ⟨fun _ => ⟨fun _ => ⟨fun _ => h, fun _ => h⟩, fun _ _ => h⟩, fun _ _ _ => h⟩, fun _ _ _ _ => h⟩
  · exact h.elim
end Go.Proofs

namespace Go.Proofs
open Go Go.Lm Go.RowKit
def c_parseR : Ct
  | [.v (.c (.k (.string s)))], [], Q => br ((parseN s).2.2 == 0) (Q (.tup [.c (.o 0), .c (.k (.int .i64 (parseN s).2.1)), .c (.k (.int .i64 (parseN s).2.2))]) [.sl 41 tEvent (parseN s).1]) (Q (.tup [.c (.k (.slice none 0 0)), .c (.k (.int .i64 (parseN s).2.1)), .c (.k (.int .i64 (parseN s).2.2))]) [])
  | _, _, _ => False
noncomputable def XD1921 : Vx := { P := Tryd.prog, ct := [(32, c_eventR), (33, c_lineR), (48, c_wordsR), (49, c_numberR), (36, c_bldS), (34, c_bldW), (4, c_lawPlain), (3, c_lawQuotes), (9, c_shown), (14, c_parse), (31, c_event), (47, c_atoi), (35, c_line), (45, c_words), (51, c_sjoin), (46, c_split), (30, c_cut), (29, c_count), (37, c_itoa), (11, c_unquoteR), (23, c_digit), (10, c_unquote), (13, c_quoteR), (27, c_decode), (12, c_quote), (28, c_itselfR), (26, c_itself), (24, c_hasPre), (39, c_hasPre0), (22, c_indexByte), (25, c_runeLen)], ty := tyTab, hold := [51] }
theorem XD1921_ok : CtOk Inv Tryd.prog XD1921.ct := CtOk.cons w_eventR (CtOk.cons w_lineR (CtOk.cons w_wordsR (CtOk.cons w_numberR (CtOk.cons w_bldS (CtOk.cons w_bldW (CtOk.cons w_lawPlain (CtOk.cons w_lawQuotes (CtOk.cons w_shown (CtOk.cons w_parse (CtOk.cons w_event (CtOk.cons w_atoi (CtOk.cons w_line (CtOk.cons w_words (CtOk.cons w_sjoin (CtOk.cons w_split (CtOk.cons w_cut (CtOk.cons w_count (CtOk.cons w_itoa (CtOk.cons w_unquoteR (CtOk.cons w_digit (CtOk.cons w_unquote (CtOk.cons w_quoteR (CtOk.cons w_decode (CtOk.cons w_quote (CtOk.cons w_itselfR (CtOk.cons w_itself (CtOk.cons w_hasPre (CtOk.cons w_hasPre0 (CtOk.cons w_indexByte (CtOk.cons w_runeLen (CtOk.nil _ _)))))))))))))))))))))))))))))))
def vc_parseR : (ByteArray) → (SV → List HO → Prop) → Prop :=
 fun s Q => ByteArray.size s ≤ (9223372036854775807 : Nat) → LoopP (fun i again => br (decide (i.fst.snd.fst < (↑(ByteArray.size s) : Int))) ((0 : Int) ≤ i.fst.snd.fst ∧ i.fst.snd.fst < 
 (↑(ByteArray.size s) : Int) ∧ br ((↑(UInt8.toNat (byteAt s i.fst.snd.fst)) : Int) == (10 : Int)) (inK IntKind.i64 (i.fst.fst + (1 : Int)) ∧ inK IntKind.i64 (i.fst.snd.fst + (1 : Int)) ∧ again 
 ((i.fst.fst + (1 : Int), i.fst.snd.fst + (1 : Int), ()), ())) (inK IntKind.i64 (i.fst.snd.fst + (1 : Int)) ∧ again ((i.fst.fst, i.fst.snd.fst + (1 : Int), ()), ()))) (br (decide ((↑(ByteArray.size s) 
 : Int) > (65536 : Int))) (Q (SV.tup [S1.c (Cl.k (Value.slice none (0 : Nat) (0 : Nat))), S1.c (Cl.k (Value.int IntKind.i64 (0 : Int))), S1.c (Cl.k (Value.int IntKind.i64 (3 : Int)))]) []) (br (decide 
 (i.fst.fst > (2048 : Int))) (Q (SV.tup [S1.c (Cl.k (Value.slice none (0 : Nat) (0 : Nat))), S1.c (Cl.k (Value.int IntKind.i64 (0 : Int))), S1.c (Cl.k (Value.int IntKind.i64 (3 : Int)))]) []) (LoopP 
 (fun i again => br (decide (i.fst.snd.snd.fst < (↑(ByteArray.size s) : Int))) ((0 : Int) ≤ i.fst.snd.snd.fst ∧ i.fst.snd.snd.fst < (↑(ByteArray.size s) : Int) ∧ br ((↑(UInt8.toNat (byteAt s 
 i.fst.snd.snd.fst)) : Int) != (10 : Int)) (inK IntKind.i64 (i.fst.snd.snd.fst + (1 : Int)) ∧ again ((i.fst.fst, i.fst.snd.fst, i.fst.snd.snd.fst + (1 : Int), ()), ())) ((0 : Int) ≤ boundV (some 
 i.fst.snd.fst) (0 : Int) ∧ boundV (some i.fst.snd.fst) (0 : Int) ≤ boundV (some i.fst.snd.snd.fst) (↑(ByteArray.size s) : Int) ∧ boundV (some i.fst.snd.snd.fst) (↑(ByteArray.size s) : Int) ≤ 
 (↑(ByteArray.size s) : Int) ∧ (↑(ByteArray.size (ByteArray.extract s (Int.toNat (boundV (some i.fst.snd.fst) (0 : Int))) (Int.toNat (boundV (some i.fst.snd.snd.fst) (↑(ByteArray.size s) : Int))))) : 
 Int) ≤ (90000000 : Int) ∧ (inK IntKind.i64 (evR (ByteArray.extract s (Int.toNat (boundV (some i.fst.snd.fst) (0 : Int))) (Int.toNat (boundV (some i.fst.snd.snd.fst) (↑(ByteArray.size s) : Int))))).fst 
 → inK IntKind.i64 (evR (ByteArray.extract s (Int.toNat (boundV (some i.fst.snd.fst) (0 : Int))) (Int.toNat (boundV (some i.fst.snd.snd.fst) (↑(ByteArray.size s) : Int))))).snd.fst → inK IntKind.i64 
 (evR (ByteArray.extract s (Int.toNat (boundV (some i.fst.snd.fst) (0 : Int))) (Int.toNat (boundV (some i.fst.snd.snd.fst) (↑(ByteArray.size s) : Int))))).snd.snd.fst → inK IntKind.i64 (evR 
 (ByteArray.extract s (Int.toNat (boundV (some i.fst.snd.fst) (0 : Int))) (Int.toNat (boundV (some i.fst.snd.snd.fst) (↑(ByteArray.size s) : Int))))).snd.snd.snd.fst → ByteArray.size (evR 
 (ByteArray.extract s (Int.toNat (boundV (some i.fst.snd.fst) (0 : Int))) (Int.toNat (boundV (some i.fst.snd.snd.fst) (↑(ByteArray.size s) : Int))))).snd.snd.snd.snd.fst ≤ (9223372036854775807 : Nat) → 
 ByteArray.size (evR (ByteArray.extract s (Int.toNat (boundV (some i.fst.snd.fst) (0 : Int))) (Int.toNat (boundV (some i.fst.snd.snd.fst) (↑(ByteArray.size s) : Int))))).snd.snd.snd.snd.snd.fst ≤ 
 (9223372036854775807 : Nat) → List.length (evR (ByteArray.extract s (Int.toNat (boundV (some i.fst.snd.fst) (0 : Int))) (Int.toNat (boundV (some i.fst.snd.snd.fst) (↑(ByteArray.size s) : 
 Int))))).snd.snd.snd.snd.snd.snd.fst ≤ (9223372036854775807 : Nat) → (0 : Int) ≤ boundV (some i.fst.snd.fst) (0 : Int) ∧ boundV (some i.fst.snd.fst) (0 : Int) ≤ boundV (some i.fst.snd.snd.fst) 
 (↑(ByteArray.size s) : Int) ∧ boundV (some i.fst.snd.snd.fst) (↑(ByteArray.size s) : Int) ≤ (↑(ByteArray.size s) : Int) ∧ (↑(ByteArray.size (evR (ByteArray.extract s (Int.toNat (boundV (some 
 i.fst.snd.fst) (0 : Int))) (Int.toNat (boundV (some i.fst.snd.snd.fst) (↑(ByteArray.size s) : Int))))).snd.snd.snd.snd.fst) : Int) ≤ (100000000 : Int) ∧ (↑(ByteArray.size (evR (ByteArray.extract s 
 (Int.toNat (boundV (some i.fst.snd.fst) (0 : Int))) (Int.toNat (boundV (some i.fst.snd.snd.fst) (↑(ByteArray.size s) : Int))))).snd.snd.snd.snd.snd.fst) : Int) ≤ (100000000 : Int) ∧ (↑(List.length 
 (evR (ByteArray.extract s (Int.toNat (boundV (some i.fst.snd.fst) (0 : Int))) (Int.toNat (boundV (some i.fst.snd.snd.fst) (↑(ByteArray.size s) : Int))))).snd.snd.snd.snd.snd.snd.fst) : Int) ≤ 
 (100000000 : Int) ∧ (ByteArray.size (lineN (evR (ByteArray.extract s (Int.toNat (boundV (some i.fst.snd.fst) (0 : Int))) (Int.toNat (boundV (some i.fst.snd.snd.fst) (↑(ByteArray.size s) : Int)))))) ≤ 
 (9223372036854775807 : Nat) → br (!sEq (lineN (evR (ByteArray.extract s (Int.toNat (boundV (some i.fst.snd.fst) (0 : Int))) (Int.toNat (boundV (some i.fst.snd.snd.fst) (↑(ByteArray.size s) : Int)))))) 
 (ByteArray.extract s (Int.toNat (boundV (some i.fst.snd.fst) (0 : Int))) (Int.toNat (boundV (some i.fst.snd.snd.fst) (↑(ByteArray.size s) : Int))))) (List.length i.fst.fst ≤ (9223372036854775807 : 
 Nat) → inK IntKind.i64 ((↑(List.length i.fst.fst) : Int) + (1 : Int)) ∧ Q (SV.tup [S1.c (Cl.k (Value.slice none (0 : Nat) (0 : Nat))), S1.c (Cl.k (Value.int IntKind.i64 ((↑(List.length i.fst.fst) : 
 Int) + (1 : Int)))), S1.c (Cl.k (Value.int IntKind.i64 (240 : Int)))]) []) ((List.length i.fst.fst + List.length [evR (ByteArray.extract s (Int.toNat (boundV (some i.fst.snd.fst) (0 : Int))) 
 (Int.toNat (boundV (some i.fst.snd.snd.fst) (↑(ByteArray.size s) : Int))))]) * (88 : Nat) ≤ (140737488355328 : Nat) ∧ List.length i.fst.fst + List.length [evR (ByteArray.extract s (Int.toNat (boundV 
 (some i.fst.snd.fst) (0 : Int))) (Int.toNat (boundV (some i.fst.snd.snd.fst) (↑(ByteArray.size s) : Int))))] ≤ (9223372036854775807 : Nat) ∧ inK IntKind.i64 (i.fst.snd.snd.fst + (1 : Int)) ∧ inK 
 IntKind.i64 (i.fst.snd.snd.fst + (1 : Int)) ∧ again ((i.fst.fst ++ [evR (ByteArray.extract s (Int.toNat (boundV (some i.fst.snd.fst) (0 : Int))) (Int.toNat (boundV (some i.fst.snd.snd.fst) 
 (↑(ByteArray.size s) : Int))))], i.fst.snd.snd.fst + (1 : Int), i.fst.snd.snd.fst + (1 : Int), ()), ())))))) (br (i.fst.snd.fst != (↑(ByteArray.size s) : Int)) (List.length i.fst.fst ≤ 
 (9223372036854775807 : Nat) → inK IntKind.i64 ((↑(List.length i.fst.fst) : Int) + (1 : Int)) ∧ Q (SV.tup [S1.c (Cl.k (Value.slice none (0 : Nat) (0 : Nat))), S1.c (Cl.k (Value.int IntKind.i64 
 ((↑(List.length i.fst.fst) : Int) + (1 : Int)))), S1.c (Cl.k (Value.int IntKind.i64 (240 : Int)))]) []) (Q (SV.tup [S1.c (Cl.o (0 : Nat)), S1.c (Cl.k (Value.int IntKind.i64 (0 : Int))), S1.c (Cl.k 
 (Value.int IntKind.i64 (0 : Int)))]) [HO.sl (41 : TypeId) tEvent i.fst.fst]))) (([], (0 : Int), (0 : Int), ()), ()))))) (((0 : Int), (0 : Int), ()), ())
set_option maxRecDepth 1000000 in
theorem vc_parseR_eq (s : ByteArray) (Q : SV → List HO → Prop) : vFun XD1921 ⟨[(4, ⟨[(5, .int .i64), (6, .int .i64)], []⟩), (13, ⟨[(7, .own 41 tEvent), (8, .int .i64), (9, .int .i64)], []⟩)], []⟩ Tryd.f15 [.str s] [] Q = vc_parseR s Q := by kernel_rfl
set_option maxRecDepth 100000 in
theorem w_parseR : ∀ args H Q, c_parseR args H Q → Wp Inv Tryd.prog 15 args H Q := by
  intro args H Q h
  unfold c_parseR at h
  split at h
  · rename_i s
    refine Wp.enter (X := XD1921) XD1921_ok ⟨[(4, ⟨[(5, .int .i64), (6, .int .i64)], []⟩), (13, ⟨[(7, .own 41 tEvent), (8, .int .i64), (9, .int .i64)], []⟩)], []⟩ (fn := Tryd.f15) (by kernel_rfl) ?_
    have hv := vc_parseR_eq s Q
    rw [show vFun _ _ _ _ _ _ = _ from hv]
    unfold vc_parseR
    clear hv
    have ok : ∀ l, parseN s = (l, 0, 0) → Q (.tup [.c (.o 0), .c (.k (.int .i64 0)), .c (.k (.int .i64 0))]) [.sl 41 tEvent l] := fun l e => by rw [e] at h; exact h
    have bad : ∀ (n c : Int), c ≠ 0 → parseN s = ([], n, c) → Q (.tup [.c (.k (.slice none 0 0)), .c (.k (.int .i64 n)), .c (.k (.int .i64 c))]) [] := fun n c hc e => by
      rw [e] at h
      have e2 : (c == 0) = false := by simpa using hc
      simp only [e2] at h
      exact h
    clear h
    intro hs
    refine LoopP.intro (fun i => ∃ p : Nat, i.1.2.1 = (p : Int) ∧ p ≤ s.size ∧ i.1.1 = (Lib.countByte (s.data.toList.take p) 10 : Int) ∧ Lib.countByte (s.data.toList.take p) 10 ≤ p) (fun i => s.size - i.1.2.1.toNat) ⟨0, rfl, Nat.zero_le _, rfl, Nat.le_refl _⟩ ?_
    rintro ⟨⟨n, i, _⟩, _⟩ ⟨p, g0, g1, g2, g3⟩
    simp only at g0 g2 ⊢
    subst g0
    refine @br_of _ _ _ ?_ ?_
    · intro c1
      have c1 : p < s.size := by simpa using c1
      have hn := count_next (s := s) (i := p) c1
      refine ⟨by omega, by omega, ?_⟩
      refine @br_of _ _ _ ?_ ?_
      · intro c2
        have c2 : byteAt s (p : Int) = 10 := UInt8.toNat_inj.1 (by have : ((byteAt s (p : Int)).toNat : Int) = 10 := (by simpa using c2); show (byteAt s (p : Int)).toNat = 10; omega)
        rw [if_pos c2] at hn
        exact ⟨by unfold inK; omega, by unfold inK; omega, ⟨p + 1, by omega, by omega, by rw [g2, hn]; omega, by omega⟩, by omega⟩
      · intro c2
        have c2 : byteAt s (p : Int) ≠ 10 := fun e => by
          rw [e] at c2; exact absurd c2 (by decide)
        rw [if_neg c2] at hn
        exact ⟨by unfold inK; omega, ⟨p + 1, by omega, by omega, by rw [g2, hn]; omega, by omega⟩, by omega⟩
    · intro c1
      have c1 : p = s.size := by have : ¬ p < s.size := (by simpa using c1); omega
      have eall : s.data.toList.take p = s.data.toList := List.take_of_length_le (by rw [← sz_list]; omega)
      rw [eall] at g2
      subst g2
      refine @br_of _ _ _ ?_ ?_
      · intro c2
        exact bad 0 3 (by decide) (by unfold parseN; rw [c2, Bool.true_or, if_pos rfl])
      intro c2
      refine @br_of _ _ _ ?_ ?_
      · intro c3
        exact bad 0 3 (by decide) (by unfold parseN; rw [c3, Bool.or_true, if_pos rfl])
      · intro c3
        have hp : parseN s = parseGo (restS s 0).size [] (restS s 0) := by rw [rest_zero]; unfold parseN; rw [c2, c3, Bool.or_false, if_neg (by decide)]
        have d1 : ¬ (s.size : Int) > 65536 := by simpa using c2
        refine LoopP.intro (fun i => ∃ a p : Nat, i.1.2.1 = (a : Int) ∧ i.1.2.2.1 = (p : Int) ∧ p ≤ s.size ∧ a ≤ p ∧ NoNl s a p ∧ i.1.1.length ≤ a ∧ parseGo (restS s a).size i.1.1 (restS s a) = parseN s) (fun i => s.size - i.1.2.2.1.toNat) ⟨0, 0, rfl, rfl, Nat.zero_le _, Nat.le_refl _, noNl_self s 0, Nat.le_refl _, hp.symm⟩ ?_
        rintro ⟨⟨l, ai, i, _⟩, _⟩ ⟨a, q, h0, h1, h2, h3, h4, h5, h6⟩
        simp only at h0 h1 h5 h6 ⊢
        subst h0 h1
        have h5 : l.length ≤ a := h5
        refine @br_of _ _ _ ?_ ?_
        · intro c4
          have c4 : q < s.size := by simpa using c4
          refine ⟨by omega, by omega, ?_⟩
          refine @br_of _ _ _ ?_ ?_
          · intro c5
            have c5 : byteAt s (q : Int) ≠ 10 := fun e => by
              rw [e] at c5; exact absurd c5 (by decide)
            exact ⟨by unfold inK; omega, ⟨a, q + 1, rfl, by omega, by omega, by omega, noNl_next h4 h3 c4 c5, h5, h6⟩, by omega⟩
          · intro c5
            have c5 : byteAt s (q : Int) = 10 := UInt8.toNat_inj.1 (by have : ((byteAt s (q : Int)).toNat : Int) = 10 := (by simpa using c5); show (byteAt s (q : Int)).toNat = 10; omega)
            obtain ⟨k1, k2, k3⟩ := cut_hit h4 h3 c4 c5
            have hne := rest_ne (s := s) (a := a) (by omega)
            simp only [boundV, Int.toNat_natCast]
            have hxs := ext_sz (s := s) (a := a) (i := q)
            generalize s.extract a q = x at hxs k2 ⊢
            obtain ⟨v1, v2⟩ := ev_same x
            have z4 := wordW_sz x 4
            have z5 := wordW_sz x 5
            have z6 := wordW_sz x 6
            have u4 : (evR x).2.2.2.2.1.size ≤ (wordW x 4).size := unqD_sz (wordW x 4)
            have u5 : (evR x).2.2.2.2.2.1.size ≤ (wordW x 5).size := unqD_sz (wordW x 5)
            have u6 : (evR x).2.2.2.2.2.2.1.length ≤ (wordW x 6).size := by
              have := unqD_sz (wordW x 6)
              rw [sz_list] at this
              exact this
            refine ⟨by omega, by omega, by omega, by omega, fun _ _ _ _ _ _ _ => ⟨by omega, by omega, by omega, by omega, by omega, by omega, fun _ => ?_⟩⟩
            rw [v1]
            refine @br_of _ _ _ ?_ ?_
            · intro c6
              have hbad : (!cutC (restS s a) || !evOk (cutA (restS s a))) = true := by rw [k2, c6, Bool.or_true]
              rw [parse_bad hne hbad] at h6
              exact fun _ => ⟨by unfold inK; omega, bad _ _ (by decide) h6.symm⟩
            · intro c6
              have c6 : evOk x = true := by simpa using c6
              have hgood : (!cutC (restS s a) || !evOk (cutA (restS s a))) = false := by rw [k1, k2, c6]; rfl
              rw [parse_step hne hgood, k2, k3] at h6
              rw [v2 c6]
              refine ⟨by show (l.length + 1) * 88 ≤ _; omega, by show l.length + 1 ≤ _; omega, by unfold inK; omega, by unfold inK; omega, ⟨q + 1, q + 1, by omega, by omega, by omega, Nat.le_refl _, noNl_self s _, ?_, h6⟩, by omega⟩
              rw [List.length_append]
              show l.length + 1 ≤ _
              omega
        · intro c4
          have c4 : q = s.size := by have : ¬ q < s.size := (by simpa using c4); omega
          subst c4
          refine @br_of _ _ _ ?_ ?_
          · intro c5
            have c5 : a ≠ s.size := fun e => by
              rw [e] at c5; simp at c5
            rw [parse_bad (rest_ne (by omega)) (by rw [cut_miss h4 h3]; rfl)] at h6
            exact fun _ => ⟨by unfold inK; omega, bad _ _ (by decide) h6.symm⟩
          · intro c5
            have c5 : a = s.size := by have : (a : Int) = s.size := (by simpa using c5); omega
            rw [c5, parse_end (rest_end s)] at h6
            exact ok _ h6.symm
  · exact h.elim
end Go.Proofs

namespace Go.Proofs
open Go Go.Lm Go.RowKit
def c_sameE : Ct
  | [.v (.c ca), .v (.c cb)], [], Q => (match (Ty.sl tEvent).of [ca] with
    | some (a, []) => (match (Ty.sl tEvent).of [cb] with
    | some (b, []) => (EvsEq a b ∧ Q (.bool true) [])
    | _ => False)
    | _ => False)
  | _, _, _ => False
noncomputable def XD2022 : Vx := { P := Tryd.prog, ct := [(15, c_parseR), (32, c_eventR), (33, c_lineR), (48, c_wordsR), (49, c_numberR), (36, c_bldS), (34, c_bldW), (4, c_lawPlain), (3, c_lawQuotes), (9, c_shown), (14, c_parse), (31, c_event), (47, c_atoi), (35, c_line), (45, c_words), (51, c_sjoin), (46, c_split), (30, c_cut), (29, c_count), (37, c_itoa), (11, c_unquoteR), (23, c_digit), (10, c_unquote), (13, c_quoteR), (27, c_decode), (12, c_quote), (28, c_itselfR), (26, c_itself), (24, c_hasPre), (39, c_hasPre0), (22, c_indexByte), (25, c_runeLen)], ty := tyTab, hold := [51] }
theorem XD2022_ok : CtOk Inv Tryd.prog XD2022.ct := CtOk.cons w_parseR (CtOk.cons w_eventR (CtOk.cons w_lineR (CtOk.cons w_wordsR (CtOk.cons w_numberR (CtOk.cons w_bldS (CtOk.cons w_bldW (CtOk.cons w_lawPlain (CtOk.cons w_lawQuotes (CtOk.cons w_shown (CtOk.cons w_parse (CtOk.cons w_event (CtOk.cons w_atoi (CtOk.cons w_line (CtOk.cons w_words (CtOk.cons w_sjoin (CtOk.cons w_split (CtOk.cons w_cut (CtOk.cons w_count (CtOk.cons w_itoa (CtOk.cons w_unquoteR (CtOk.cons w_digit (CtOk.cons w_unquote (CtOk.cons w_quoteR (CtOk.cons w_decode (CtOk.cons w_quote (CtOk.cons w_itselfR (CtOk.cons w_itself (CtOk.cons w_hasPre (CtOk.cons w_hasPre0 (CtOk.cons w_indexByte (CtOk.cons w_runeLen (CtOk.nil _ _))))))))))))))))))))))))))))))))
def vc_sameE : (List (tEvent).den) → (List (tEvent).den) → (SV → List HO → Prop) → Prop :=
 fun a b Q => List.length a ≤ (9223372036854775807 : Nat) → List.length b ≤ (9223372036854775807 : Nat) → List.length a ≤ (9223372036854775807 : Nat) → List.length b ≤ (9223372036854775807 : Nat) → br 
 ((↑(List.length a) : Int) != (↑(List.length b) : Int)) (Q (SV.v (S1.c (Cl.k (Value.bool false)))) []) (LoopP (fun i again => List.length a ≤ (9223372036854775807 : Nat) → br (decide (i.fst.fst < 
 (↑(List.length a) : Int))) ((0 : Int) ≤ i.fst.fst ∧ i.fst.fst < (↑(List.length a) : Int) ∧ (Ty.ok tEvent (ixD tEvent a i.fst.fst) → (0 : Int) ≤ i.fst.fst ∧ i.fst.fst < (↑(List.length b) : Int) ∧ 
 (Ty.ok tEvent (ixD tEvent b i.fst.fst) → br ((ixD tEvent a i.fst.fst).fst != (ixD tEvent b i.fst.fst).fst) (Q (SV.v (S1.c (Cl.k (Value.bool false)))) []) (br ((ixD tEvent a i.fst.fst).snd.fst != (ixD 
 tEvent b i.fst.fst).snd.fst) (Q (SV.v (S1.c (Cl.k (Value.bool false)))) []) (br ((ixD tEvent a i.fst.fst).snd.snd.fst != (ixD tEvent b i.fst.fst).snd.snd.fst) (Q (SV.v (S1.c (Cl.k (Value.bool 
 false)))) []) (br ((ixD tEvent a i.fst.fst).snd.snd.snd.fst != (ixD tEvent b i.fst.fst).snd.snd.snd.fst) (Q (SV.v (S1.c (Cl.k (Value.bool false)))) []) (br (!sEq (ixD tEvent a 
 i.fst.fst).snd.snd.snd.snd.fst (ixD tEvent b i.fst.fst).snd.snd.snd.snd.fst) (Q (SV.v (S1.c (Cl.k (Value.bool false)))) []) (br (!sEq (ixD tEvent a i.fst.fst).snd.snd.snd.snd.snd.fst (ixD tEvent b 
 i.fst.fst).snd.snd.snd.snd.snd.fst) (Q (SV.v (S1.c (Cl.k (Value.bool false)))) []) (br (!sEq (bstr (ixD tEvent a i.fst.fst).snd.snd.snd.snd.snd.snd.fst) (bstr (ixD tEvent b 
 i.fst.fst).snd.snd.snd.snd.snd.snd.fst)) (Q (SV.v (S1.c (Cl.k (Value.bool false)))) []) (inK IntKind.i64 (i.fst.fst + (1 : Int)) ∧ again ((i.fst.fst + (1 : Int), ()), ()))))))))))) (Q (SV.v (S1.c 
 (Cl.k (Value.bool true)))) [])) (((0 : Int), ()), ()))
set_option maxRecDepth 1000000 in
theorem vc_sameE_eq (a : List (tEvent).den) (b : List (tEvent).den) (Q : SV → List HO → Prop) : vFun XD2022 ⟨[(5, ⟨[(5, .int .i64)], []⟩)], []⟩ Tryd.f16 [.c (.d tEvent a), .c (.d tEvent b)] [] Q = vc_sameE a b Q := by kernel_rfl
set_option maxRecDepth 100000 in
theorem w_sameE : ∀ args H Q, c_sameE args H Q → Wp Inv Tryd.prog 16 args H Q := by
  intro args H Q h
  unfold c_sameE at h
  split at h
  · rename_i ca cb
    split at h
    · rename_i a ha
      split at h
      · rename_i b hb
        refine Wp.said (args' := [.c (.d tEvent a), .c (.d tEvent b)]) (fun E g => RelVs.cons1 (of_list ha) (RelVs.cons1 (of_list hb) (fun _ h => h))) ?_
        clear ha hb
        refine Wp.enter (X := XD2022) XD2022_ok ⟨[(5, ⟨[(5, .int .i64)], []⟩)], []⟩ (fn := Tryd.f16) (by kernel_rfl) ?_
        have hv := vc_sameE_eq a b Q
        rw [show vFun _ _ _ _ _ _ = _ from hv]
        unfold vc_sameE
        clear hv
        obtain ⟨⟨rfl⟩, h⟩ := h
        intro _ _ _ _
        refine @br_of _ _ _ ?_ ?_
        · intro c1
          rw [bne_self_eq_false] at c1; cases c1
        · intro c1
          refine LoopP.intro (fun i => 0 ≤ i.1.1 ∧ i.1.1 ≤ a.length) (fun i => a.length - i.1.1.toNat) ⟨by decide, by show (0 : Int) ≤ _; omega⟩ ?_
          rintro ⟨⟨i, _⟩, _⟩ ⟨h0, h1⟩
          simp only at h0 h1 ⊢
          intro _
          refine @br_of _ _ _ ?_ ?_
          · intro c2
            have c2 : i < (a.length : Int) := by simpa using c2
            refine ⟨h0, c2, fun _ => ⟨h0, c2, fun _ => ?_⟩⟩
            rw [bne_self_eq_false, bne_self_eq_false, bne_self_eq_false, bne_self_eq_false, sEq_self, sEq_self, sEq_self]
            exact ⟨by unfold inK; omega, ⟨by omega, by omega⟩, by omega⟩
          · intro c2
            exact h
      · exact h.elim
    · exact h.elim
  · exact h.elim
end Go.Proofs
