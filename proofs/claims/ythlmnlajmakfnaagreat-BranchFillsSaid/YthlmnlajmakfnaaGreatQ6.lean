/- Texts of mine, laid together: Shelf U3 U4 U5 U6 U7 LmYd U8 LmYe U9 LmYf U10. -/
import Derived.Test.YthlmnlajmakfnaaGreatQ5
import Derived.Shelf.Strings.Builder1
import Derived.Shelf.Strings.Builder2
import Derived.Shelf.Strings.OnBuilder
import Derived.Shelf.Small.Bits
import Derived.Shelf.Small.Strs
import Derived.Shelf.Strings.BuilderF
import Derived.Shelf.Strings.BuilderK
import Derived.Shelf.Strings.Builder2Cap
import Derived.Shelf.Strconv.Itoa0
import Derived.Shelf.Strings.Search1
import Derived.Shelf.Sort.Plain
import Derived.Shelf.Strings.BuilderCap
import Derived.Ground.Names2Prog
import Derived.Shelf.Slices.Clone
import Derived.Shelf.Slices.In.SortNone
import Derived.Shelf.Bytes.SlIndexAt
import Derived.Shelf.Bytes.SlSearch0
import Derived.Ground.SlbCloneProg
import Derived.Shelf.Bytes.SlClone
import Derived.Shelf.Bytes.SlEqualAll
import Derived.Shelf.Bytes.Small
import Derived.Shelf.Bytes.IndexByte
import Derived.Test.YthlmnlajmakfnaaGreatProg
import Derived.Test.YthlmnlajmakfnaaGreatChecked
import Derived.Test.YthlmnlajmakfnaaGreatQ3
import Derived.Test.YthlmnlajmakfnaaGreatQ4
set_option linter.unusedVariables false
namespace Go.Proofs
open Go.Shelf
def Tryz.lays137_ren : Go.Shelf.Ren := ⟨fun | 137 => 125 | 217 => 148 | 266 => 163 | n => n, fun | 9 => 9 | 5 => 5 | 3 => 3 | n => n, fun | n => n⟩
theorem Tryz.lays137 : Go.Proofs.Lays.n137 Tryz.prog Tryz.lays137_ren := {
 mixed := by kernel_rfl
 f137 := Tryz.func125.trans (congrArg some (by kernel_rfl))
 f217 := Tryz.func148.trans (congrArg some (by kernel_rfl))
 f266 := Tryz.func163.trans (congrArg some (by kernel_rfl))
 t3 := Tryz.underlying3
 a3 := Tryz.isAgg3
 z3 := Tryz.sizeOf3
 v3 := Tryz.zeroValue3
 t5 := Tryz.underlying5
 a5 := Tryz.isAgg5
 z5 := Tryz.sizeOf5
 v5 := Tryz.zeroValue5
 t9 := Tryz.underlying9
 a9 := Tryz.isAgg9
 z9 := Tryz.sizeOf9
 v9 := Tryz.zeroValue9 }
open Go.RowKit in
theorem Tryz.strings_IndexByte (s : ByteArray) (c : Int) (w : World) :
  Calls Tryz.prog 125 #[.string s, .int .u8 c] w fun e w' => e = .returned (.int .i64 (Lib.indexByte s.data.toList c.toNat.toUInt8)) ∧ w' = w := Any.strings_IndexByte Tryz.lays137 s c w
def Tryz.lays190_ren : Go.Shelf.Ren := ⟨fun | 190 => 150 | 125 => 110 | 258 => 165 | 128 => 143 | 129 => 144 | 302 => 173 | 303 => 174 | 304 => 175 | 305 => 176 | 306 => 177 | 307 => 178 | 308 => 179 | 309 => 180 | 310 => 181 | 333 => 184 | 329 => 159 | 330 => 160 | 334 => 185 | 335 => 186 | 336 => 145 | 344 => 189 | n => n, fun | 31 => 30 | 9 => 9 | 3 => 3 | 46 => 139 | 0 => 0 | 51 => 174 | 53 => 176 | 4 => 4 | 183 => 168 | 182 => 167 | 131 => 101 | 5 => 5 | 218 => 185 | 222 => 189 | 228 => 204 | 229 => 205 | n => n, fun | n => n⟩
theorem Tryz.lays190 : Go.Proofs.Lays.n190 Tryz.prog Tryz.lays190_ren := {
 mixed := by kernel_rfl
 f125 := Tryz.func110.trans (congrArg some (by kernel_rfl))
 f128 := Tryz.func143.trans (congrArg some (by kernel_rfl))
 f129 := Tryz.func144.trans (congrArg some (by kernel_rfl))
 f190 := Tryz.func150.trans (congrArg some (by kernel_rfl))
 f258 := Tryz.func165.trans (congrArg some (by kernel_rfl))
 f302 := Tryz.func173.trans (congrArg some (by kernel_rfl))
 f303 := Tryz.func174.trans (congrArg some (by kernel_rfl))
 f304 := Tryz.func175.trans (congrArg some (by kernel_rfl))
 f305 := Tryz.func176.trans (congrArg some (by kernel_rfl))
 f306 := Tryz.func177.trans (congrArg some (by kernel_rfl))
 f307 := Tryz.func178.trans (congrArg some (by kernel_rfl))
 f308 := Tryz.func179.trans (congrArg some (by kernel_rfl))
 f309 := Tryz.func180.trans (congrArg some (by kernel_rfl))
 f310 := Tryz.func181.trans (congrArg some (by kernel_rfl))
 f329 := Tryz.func159.trans (congrArg some (by kernel_rfl))
 f330 := Tryz.func160.trans (congrArg some (by kernel_rfl))
 f333 := Tryz.func184.trans (congrArg some (by kernel_rfl))
 f334 := Tryz.func185.trans (congrArg some (by kernel_rfl))
 f335 := Tryz.func186.trans (congrArg some (by kernel_rfl))
 f336 := Tryz.func145.trans (congrArg some (by kernel_rfl))
 f344 := Tryz.func189.trans (congrArg some (by kernel_rfl))
 t0 := Tryz.underlying0
 a0 := Tryz.isAgg0
 z0 := Tryz.sizeOf0
 v0 := Tryz.zeroValue0
 t3 := Tryz.underlying3
 a3 := Tryz.isAgg3
 z3 := Tryz.sizeOf3
 v3 := Tryz.zeroValue3
 t4 := Tryz.underlying4
 a4 := Tryz.isAgg4
 z4 := Tryz.sizeOf4
 v4 := Tryz.zeroValue4
 t5 := Tryz.underlying5
 a5 := Tryz.isAgg5
 z5 := Tryz.sizeOf5
 v5 := Tryz.zeroValue5
 t9 := Tryz.underlying9
 a9 := Tryz.isAgg9
 z9 := Tryz.sizeOf9
 v9 := Tryz.zeroValue9
 t31 := Tryz.underlying30
 a31 := Tryz.isAgg30
 z31 := Tryz.sizeOf30
 v31 := Tryz.zeroValue30
 t46 := Tryz.underlying139
 a46 := Tryz.isAgg139
 z46 := Tryz.sizeOf139
 v46 := Tryz.zeroValue139
 t51 := Tryz.underlying174
 a51 := Tryz.isAgg174
 z51 := Tryz.sizeOf174
 v51 := Tryz.zeroValue174
 t53 := Tryz.underlying176
 a53 := Tryz.isAgg176
 z53 := Tryz.sizeOf176
 v53 := Tryz.zeroValue176
 t131 := Tryz.underlying101
 a131 := Tryz.isAgg101
 z131 := Tryz.sizeOf101
 v131 := Tryz.zeroValue101
 t182 := Tryz.underlying167
 a182 := Tryz.isAgg167
 z182 := Tryz.sizeOf167
 v182 := Tryz.zeroValue167
 t183 := Tryz.underlying168
 a183 := Tryz.isAgg168
 z183 := Tryz.sizeOf168
 v183 := Tryz.zeroValue168
 t218 := Tryz.underlying185
 a218 := Tryz.isAgg185
 z218 := Tryz.sizeOf185
 v218 := Tryz.zeroValue185
 t222 := Tryz.underlying189
 a222 := Tryz.isAgg189
 z222 := Tryz.sizeOf189
 v222 := Tryz.zeroValue189
 t228 := Tryz.underlying204
 a228 := Tryz.isAgg204
 z228 := Tryz.sizeOf204
 v228 := Tryz.zeroValue204
 t229 := Tryz.underlying205
 a229 := Tryz.isAgg205
 z229 := Tryz.sizeOf205
 v229 := Tryz.zeroValue205 }
open Go.Sort Go.RowKit in
theorem Tryz.slices_Sort_string (blk off cap : Nat) (ss : List (List UInt8)) (w : World) (hH : Holds encStr w blk off ss.toArray) (hblk : blk < w.heap.size) (hsz : ss.length < 4611686018427387904) :
  Calls Tryz.prog 150 #[.slice (some ⟨blk, off, none⟩) ss.length cap] w fun e w' =>
   e = .returned (.tuple #[]) ∧ ∃ n os, w' = grow (putRow encStr (Sort.ahead w n) blk off (ss.mergeSort fun x y => decide (x ≤ y)).toArray) os := Any.slices_Sort_string Tryz.lays190 blk off cap ss w hH hblk hsz
open Go.RowKit Go.Sort in
theorem Tryz.slices_Sort_string_none (p : Option Addr) (cap : Nat) (w : World) :
  Calls Tryz.prog 150 #[.slice p 0 cap] w fun e w' => e = .returned (.tuple #[]) ∧ w' = w := Any.slices_Sort_string_none Tryz.lays190 p cap w
def Tryz.lays187_ren : Go.Shelf.Ren := ⟨fun | 187 => 113 | 255 => 146 | n => n, fun | 37 => 33 | 5 => 5 | 3 => 3 | n => n, fun | n => n⟩
theorem Tryz.lays187 : Go.Proofs.Lays.n187 Tryz.prog Tryz.lays187_ren := {
 mixed := by kernel_rfl
 f187 := Tryz.func113.trans (congrArg some (by kernel_rfl))
 f255 := Tryz.func146.trans (congrArg some (by kernel_rfl))
 t3 := Tryz.underlying3
 a3 := Tryz.isAgg3
 z3 := Tryz.sizeOf3
 v3 := Tryz.zeroValue3
 t5 := Tryz.underlying5
 a5 := Tryz.isAgg5
 z5 := Tryz.sizeOf5
 v5 := Tryz.zeroValue5
 t37 := Tryz.underlying33
 a37 := Tryz.isAgg33
 z37 := Tryz.sizeOf33
 v37 := Tryz.zeroValue33 }
open Go.RowKit Go.Lib in
theorem Tryz.bytes_IndexByte_at (a : Addr) (n c : Nat) (xs : List Int) (cv : Int) (w : World) (hx : xs.length = n) (hc : ∀ i, i < n → w.cell? (a.add i) = some (.int .u8 (xs.getD i 0))) :
  Calls Tryz.prog 113 #[.slice (some a) n c, .int .u8 cv] w fun e w' => e = .returned (.int .i64 (Lib.indexByte (Lib.bytesOf xs) cv.toNat.toUInt8)) ∧ w' = w := Any.bytes_IndexByte_at Tryz.lays187 a n c xs cv w hx hc
theorem Tryz.bytes_IndexByte_nil (cv : Int) (w : World) :
  Calls Tryz.prog 113 #[.slice none 0 0, .int .u8 cv] w fun e w' => e = .returned (.int .i64 (-1)) ∧ w' = w := Any.bytes_IndexByte_nil Tryz.lays187 cv w
end Go.Proofs

namespace Go.Proofs
open Go Go.Lm Go.RowKit
set_option maxRecDepth 1000000
def c_sindex : Ct
 | [.v (.c (.k (.string s))), .v (.c (.k (.int .u8 c)))], [], Q => Q (.int (Lib.indexByte s.data.toList c.toNat.toUInt8)) []
 | _, _, _ => False
theorem w_sindex : ∀ args H Q, c_sindex args H Q → Wp Inv Tryz.prog 125 args H Q := by
 intro args H Q h
 unfold c_sindex at h
 split at h
 ·rename_i s c
  refine Wp.of_pure (fun E g w vs m hv => ?_) h
  obtain ⟨u, v, rfl, ⟨rfl, hs⟩, ⟨rfl, _⟩⟩ := relVs_two hv
  refine (Ret.of (Tryz.strings_IndexByte s c w)).mono fun x w' ⟨h1, h2⟩ => ⟨?_, by rw [h2]; exact Le.refl w⟩
  rw [h1]
  refine relV_mk ?_
  have := indexByte_in s.data.toList c.toNat.toUInt8
  have hs' : s.data.toList.length ≤ 9223372036854775807 := by rw [← sz_list]; exact hs
  unfold inK
  omega
 ·exact h.elim
theorem bytesOf_map (l : List UInt8) : Lib.bytesOf (l.map fun b => (b.toNat : Int)) = l := by
 unfold Lib.bytesOf
 rw [List.map_map]
 conv => rhs; rw [← List.map_id l]
 refine List.map_congr_left fun b _ => ?_
 simp [Function.comp]
def c_bindex : Ct
 | [.v (.c cx), .v (.c (.k (.int .u8 0)))], [], Q => (match (Ty.sl Ty.u8).of [cx] with
  | some (l, []) => Q (.int (Lib.indexByte l 0)) []
  | _ => False)
 | _, _, _ => False
theorem w_bindex : ∀ args H Q, c_bindex args H Q → Wp Inv Tryz.prog 113 args H Q := by
 intro args H Q h
 unfold c_bindex at h
 split at h
 ·split at h
  ·rename_i l hl
   refine Wp.of_pure (fun E g w vs m hv => ?_) h
   obtain ⟨u, v, rfl, hu, ⟨rfl, _⟩⟩ := relVs_two hv
   have hu : IsD .u8 g u l := of_list hl u hu
   have hin : inK .i64 (Lib.indexByte l 0) := by
    have := indexByte_in l 0
    have := isD_len hu
    unfold inK; omega
   rcases is_list.1 (IsD.mono m hu) with ⟨rfl, rfl⟩ | ⟨a, cap, rfl, _, _, h3⟩
   ·exact (Ret.of (Tryz.bytes_IndexByte_nil 0 w)).mono fun _ _ ⟨h1, h2⟩ => ⟨by rw [h1]; exact relV_mk hin, by rw [h2]; exact Le.refl w⟩
   ·have hr := Tryz.bytes_IndexByte_at a l.length cap (l.map fun b => (b.toNat : Int)) 0 w (by simp) fun i hi => by
     obtain ⟨cs, hc, hr⟩ := h3 i _ (List.getElem?_eq_getElem hi)
     have hr' : cs = [.int .u8 (l[i].toNat : Int)] := hr
     have := hc 0 (.int .u8 (l[i].toNat : Int)) (by rw [hr']; rfl)
     simp only [GoRep.size, Nat.mul_one, Nat.add_zero] at this
     rw [this]
     simp [List.getD, hi]
    rw [bytesOf_map] at hr
    exact (Ret.of hr).mono fun _ _ ⟨h1, h2⟩ => ⟨by rw [h1]; exact relV_mk hin, by rw [h2]; exact Le.refl w⟩
  ·exact h.elim
 ·exact h.elim
theorem leB_pos {a b : ByteArray} (h : leB a b = false) : 1 ≤ (a.size : Int) := by
 rw [leB_geq] at h
 have h1 : sLt b a = true := by simpa using h
 unfold sLt at h1
 rw [sz_list]
 rw [Lib.toList_data, Lib.toList_data] at h1
 cases hq : a.data.toList with
 | nil => rw [hq] at h1; cases hb : b.data.toList <;> rw [hb] at h1 <;> cases h1
 | cons c l => simp only [List.length_cons]; omega
theorem badX_prog (x : XaD) (last : ByteArray) : badX x last = (leB x.1 last || (decide ((x.1.size : Int) > 40) || (decide (Lib.indexByte x.1.data.toList 0 ≥ 0) || decide ((x.2.1.length : Int) > 200)))) := by
 unfold badX plainS withinI nulAt
 cases hl : leB x.1 last with
 | true => simp
 | false =>
  have := leB_pos hl
  rw [Bool.eq_iff_iff]
  simp only [Bool.or_eq_true, Bool.not_eq_true', Bool.and_eq_false_iff, decide_eq_false_iff_not, decide_eq_true_eq, Bool.false_eq_true, or_false, false_or]
  omega
def c_mayx : Ct
 | [.v (.c cl)], [], Q => (match (Ty.sl xaTy).of [cl] with
  | some (l, []) => Q (.bool (xattrsB l)) []
  | _ => False)
 | _, _, _ => False
noncomputable def XU315 : Vx := { P := Tryz.prog, ct := (113, c_bindex) :: (125, c_sindex) :: (70, c_attrs) :: XU214.ct, ty := tyTab, hold := [] }
theorem XU315_ok : CtOk Inv Tryz.prog XU315.ct := CtOk.cons w_bindex (CtOk.cons w_sindex (CtOk.cons w_attrs (XU214_ok)))
def vc_mayx : (List (xaTy).den) → (SV → List HO → Prop) → Prop :=
 fun l Q => List.length l ≤ 9223372036854775807 → List.length l ≤ 9223372036854775807 → LoopP (fun i again => br (decide (i.1.1 < (l.length : Int))) (0 ≤ i.1.1 ∧ i.1.1 < (l.length : Int) ∧ (Ty.ok xaTy (ixD xaTy l i.1.1) → br (sLt (ixD xaTy l 
 i.1.1).1 i.1.2.1 || sEq (ixD xaTy l i.1.1).1 i.1.2.1) (Q (.v (.c (.k (.bool false)))) []) (br (decide ((↑(ByteArray.size (ixD xaTy l i.1.1).1) : Int) > (40 : Int))) (Q (.v (.c (.k (.bool false)))) []) (inK .i64 (Lib.indexByte (ixD xaTy l 
 i.1.1).1.data.toList (Nat.toUInt8 (0 : Nat))) → br (decide (Lib.indexByte (ixD xaTy l i.1.1).1.data.toList (Nat.toUInt8 (0 : Nat)) ≥ 0)) (Q (.v (.c (.k (.bool false)))) []) (List.length (ixD xaTy l i.1.1).2.1 ≤ 9223372036854775807 → br 
 (decide ((↑(List.length (ixD xaTy l i.1.1).2.1) : Int) > (200 : Int))) (Q (.v (.c (.k (.bool false)))) []) (inK .i64 (i.1.1 + 1) ∧ again ((i.1.1 + 1, (ixD xaTy l i.1.1).1, ()), ()))))))) (List.length l ≤ 9223372036854775807 → Q (.v (.c (.k 
 (.bool (decide ((l.length : Int) ≤ (8 : Int))))))) [])) (((0 : Int), ByteArray.mk #[], ()), ())
theorem vc_mayx_eq (l : List (xaTy).den) (Q : SV → List HO → Prop) : vFun XU315 ⟨[(4, ⟨[(8, .int .i64), (3, .str)], []⟩)], []⟩ Tryz.f93 [.c (.d xaTy l)] [] Q = vc_mayx l Q := by kernel_rfl
theorem w_mayx : ∀ args H Q, c_mayx args H Q → Wp Inv Tryz.prog 93 args H Q := by
 intro args H Q h
 unfold c_mayx at h
 split at h
 rotate_left
 ·exact h.elim
 rename_i cl
 split at h
 rotate_left
 ·exact h.elim
 rename_i l hl
 refine Wp.said (args' := [.c (.d xaTy l)]) (fun E g => RelVs.cons1 (of_list hl) (fun _ h => h)) ?_
 clear hl
 refine Wp.enter (X := XU315) XU315_ok ⟨[(4, ⟨[(8, .int .i64), (3, .str)], []⟩)], []⟩ (fn := Tryz.f93) (by kernel_rfl) ?_
 have hv := vc_mayx_eq l Q
 rw [show vFun _ _ _ _ _ _ = _ from hv]
 unfold vc_mayx
 intro _ _
 refine LoopP.intro (fun i => 0 ≤ i.1.1 ∧ i.1.1 ≤ l.length ∧ xattrsGo l ⟨#[]⟩ = xattrsGo (l.drop i.1.1.toNat) i.1.2.1) (fun i => l.length - i.1.1.toNat) ⟨by simp, by simp, by simp⟩ ?_
 rintro ⟨⟨i, last, _⟩, _⟩ ⟨h0, h1, h2⟩
 simp only at h0 h1 h2 ⊢
 refine br_of (fun hc => ?_) (fun hc => ?_)
 ·have hc : i < l.length := by simpa using hc
  refine ⟨h0, hc, fun _ => ?_⟩
  rw [ixD_drop (e := xaTy) h0 hc] at h2
  have bad : badX (ixD xaTy l i) last = true → Q (.bool false) [] := fun hb => by
   simp only [xattrsGo, hb, if_true] at h2
   unfold xattrsB at h
   rw [h2, Bool.false_and] at h
   exact h
  rw [badX_prog] at bad
  refine br_of (fun h3 => bad (by unfold leB; rw [h3]; rfl)) (fun h3 => br_of (fun h4 => bad (by rw [h4]; simp)) (fun h4 => fun _ => br_of (fun h5 => bad (by rw [show decide (Lib.indexByte (ixD xaTy l i).1.data.toList 0 ≥ 0) = true from h5]; simp)) (fun h5 => fun _ => br_of (fun h6 => bad (by rw [h6]; simp)) (fun h6 => ?_))))
  have hn : badX (ixD xaTy l i) last = false := by rw [badX_prog]; unfold leB; rw [h3, h4, show decide (Lib.indexByte (ixD xaTy l i).1.data.toList 0 ≥ 0) = false from h5, h6]; rfl
  simp only [xattrsGo, hn, Bool.false_eq_true, if_false] at h2
  exact ⟨by unfold inK; omega, ⟨by omega, by omega, h2⟩, by omega⟩
 ·have hc : ¬ i < l.length := by simpa using hc
  rw [drop_all hc] at h2
  intro _
  unfold xattrsB at h
  rw [h2] at h
  exact h
def c_good : Ct
 | [.v (.agg cx)], [], Q => (match (noTy).of cx with
  | some (x, []) => Q (.bool (mayN x)) []
  | _ => False)
 | _, _, _ => False
noncomputable def XU316 : Vx := { P := Tryz.prog, ct := (93, c_mayx) :: XU315.ct, ty := tyTab, hold := [] }
theorem XU316_ok : CtOk Inv Tryz.prog XU316.ct := CtOk.cons w_mayx (XU315_ok)
def vc_good : ((noTy).den) → (SV → List HO → Prop) → Prop :=
 fun x Q => List.length x.1 ≤ 9223372036854775807 → inK .i64 x.2.1 → inK .i64 x.2.2.1 → inK .i64 x.2.2.2.1.1 → inK .i64 x.2.2.2.1.2.1 → inK .i64 x.2.2.2.1.2.2.1 → List.length x.2.2.2.2.1 ≤ 9223372036854775807 → ByteArray.size x.2.2.2.2.2.1 ≤ 
 9223372036854775807 → List.length x.2.2.2.2.2.2.1 ≤ 9223372036854775807 → List.length x.2.2.2.2.1 ≤ 9223372036854775807 → br (x.2.2.1 == 1) (br ((↑(List.length x.2.2.2.2.1) : Int) == 0) (br (sEq x.2.2.2.2.2.1 (ByteArray.mk #[])) (br (mayA 
 x.2.2.2.1) (Q (.v (.c (.k (.bool (xattrsB x.2.2.2.2.2.2.1))))) []) (Q (.v (.c (.k (.bool false)))) [])) (Q (.v (.c (.k (.bool false)))) [])) (Q (.v (.c (.k (.bool false)))) [])) (br (x.2.2.1 == 2) (List.length x.2.2.2.2.1 ≤ 
 9223372036854775807 → br (decide ((↑(List.length x.2.2.2.2.1) : Int) ≤ (4096 : Int))) (br (sEq x.2.2.2.2.2.1 (ByteArray.mk #[])) (br (mayA x.2.2.2.1) (Q (.v (.c (.k (.bool (xattrsB x.2.2.2.2.2.2.1))))) []) (Q (.v (.c (.k (.bool false)))) 
 [])) (Q (.v (.c (.k (.bool false)))) [])) (Q (.v (.c (.k (.bool false)))) [])) (br (x.2.2.1 == 3) (br (!sEq x.2.2.2.2.2.1 (ByteArray.mk #[])) (br (decide ((↑(ByteArray.size x.2.2.2.2.2.1) : Int) ≤ (200 : Int))) (inK .i64 (Lib.indexByte 
 x.2.2.2.2.2.1.data.toList (0 : UInt8)) → br ((↑(List.length x.2.2.2.2.1) : Int) == 0) (br (decide (Lib.indexByte x.2.2.2.2.2.1.data.toList (0 : UInt8) < 0)) (br (mayA x.2.2.2.1) (Q (.v (.c (.k (.bool (xattrsB x.2.2.2.2.2.2.1))))) []) (Q (.v 
 (.c (.k (.bool false)))) [])) (Q (.v (.c (.k (.bool false)))) [])) (Q (.v (.c (.k (.bool false)))) [])) (br ((↑(List.length x.2.2.2.2.1) : Int) == 0) (Q (.v (.c (.k (.bool false)))) []) (Q (.v (.c (.k (.bool false)))) []))) (br 
 ((↑(List.length x.2.2.2.2.1) : Int) == 0) (Q (.v (.c (.k (.bool false)))) []) (Q (.v (.c (.k (.bool false)))) []))) (br (x.2.2.1 == 4) (br ((↑(List.length x.2.2.2.2.1) : Int) == 0) (br (sEq x.2.2.2.2.2.1 (ByteArray.mk #[])) (br (x.2.2.2.1.1 
 == 0 && (x.2.2.2.1.2.1 == 0 && (x.2.2.2.1.2.2.1 == 0 && true))) (List.length x.2.2.2.2.2.2.1 ≤ 9223372036854775807 → Q (.v (.c (.k (.bool ((↑(List.length x.2.2.2.2.2.2.1) : Int) == 0))))) []) (Q (.v (.c (.k (.bool false)))) [])) (Q (.v (.c 
 (.k (.bool false)))) [])) (Q (.v (.c (.k (.bool false)))) [])) (Q (.v (.c (.k (.bool false)))) []))))
theorem vc_good_eq (x : (noTy).den) (Q : SV → List HO → Prop) : vFun XU316 ⟨[], []⟩ Tryz.f69 [.v (.agg (Ty.cells noTy x))] [] Q = vc_good x Q := by kernel_rfl
theorem w_good : ∀ args H Q, c_good args H Q → Wp Inv Tryz.prog 69 args H Q := by
 intro args H Q h
 unfold c_good at h
 split at h
 rotate_left
 ·exact h.elim
 rename_i cx
 split at h
 rotate_left
 ·exact h.elim
 rename_i x hx
 refine Wp.said (args' := [.v (.agg (Ty.cells noTy x))]) (fun E g => RelVs.cons1 (of_row hx) (fun _ h => h)) ?_
 clear hx
 refine Wp.enter (X := XU316) XU316_ok ⟨[], []⟩ (fn := Tryz.f69) (by kernel_rfl) ?_
 have hv := vc_good_eq x Q
 rw [show vFun _ _ _ _ _ _ = _ from hv]
 unfold vc_good
 intro _ _ _ _ _ _ _ _ _ _
 have fin : ∀ c, mayN x = c → Q (.bool c) [] := fun c e => e ▸ h
 obtain ⟨a1, a2, kd, at', dt, tg, xs, op, u⟩ := x
 clear h hv
 unfold mayN badM mayT NoD.setO plainS withinI noB nulAt at fin
 simp only at fin ⊢
 have may : may3 at'.1 at'.2.1 at'.2.2.1 = mayA at' := rfl
 rw [may] at fin
 refine br_of (fun h1 => ?_) (fun h1 => br_of (fun h2 => fun _ => ?_) (fun h2 => br_of (fun h3 => ?_) (fun h3 => br_of (fun h4 => ?_) (fun h4 => ?_))))
 ·have h1 := eq_of_beq h1
  subst h1
  refine br_of (fun h5 => br_of (fun h6 => br_of (fun h7 => fin _ ?_) (fun h7 => fin _ ?_)) (fun h6 => fin _ ?_)) (fun h5 => fin _ ?_)
  all_goals simp_all
 ·have h2 := eq_of_beq h2
  subst h2
  refine br_of (fun h5 => br_of (fun h6 => br_of (fun h7 => fin _ ?_) (fun h7 => fin _ ?_)) (fun h6 => fin _ ?_)) (fun h5 => fin _ ?_)
  all_goals simp_all
  intros
  omega
 ·have h3 := eq_of_beq h3
  subst h3
  refine br_of (fun h5 => br_of (fun h6 => fun _ => br_of (fun h7 => br_of (fun h8 => br_of (fun h9 => fin _ ?_) (fun h9 => fin _ ?_)) (fun h8 => fin _ ?_)) (fun h7 => fin _ ?_)) (fun h6 => br_of (fun h7 => fin _ ?_) (fun h7 => fin _ ?_))) (fun h5 => br_of (fun h7 => fin _ ?_) (fun h7 => fin _ ?_))
  all_goals rw [noB_size] at h5
  all_goals clear may
  all_goals simp_all
  all_goals (intros; omega)
 ·have h4 := eq_of_beq h4
  subst h4
  refine br_of (fun h5 => br_of (fun h6 => br_of (fun h7 => fun _ => fin _ ?_) (fun h7 => fin _ ?_)) (fun h6 => fin _ ?_)) (fun h5 => fin _ ?_)
  all_goals simp_all
  cases xs <;> simp
  omega
 ·refine fin _ ?_
  simp_all
end Go.Proofs

namespace Go.Proofs
open Go Go.Lm Go.RowKit
set_option maxRecDepth 1000000
def c_fresh : Ct
 | [.v (.c (.p 0 0)), .v (.c (.k (.int .i64 ref))), .v (.c (.k (.string s)))], [.up ⟨84, 81, 3, 9⟩ q1 q2 mb nx L], Q => (getK L ref = none → Q (.tup [.c (.k (.pointer none)), .c (.k (.int .i64 1))]) [.up ⟨84, 81, 3, 9⟩ q1 q2 mb nx L]) ∧ (∀ m, getK L ref = some m → NodeOk m → br (m.kind == 1) (br (validN s != 0) (Q (.tup [.c (.k (.pointer none)), .c (.k (.int .i64 (validN s)))]) [.up ⟨84, 81, 3, 9⟩ q1 q2 mb nx L]) ((getK m.ents s = none → Q (.tup [.c (.kl 0 (.pointer (some ⟨m.blk, 0, none⟩))), .c (.k (.int .i64 0))]) [.up ⟨84, 81, 3, 9⟩ q1 q2 mb nx L]) ∧ ∀ x, getK m.ents s = some x → Q (.tup [.c (.k (.pointer none)), .c (.k (.int .i64 21))]) [.up ⟨84, 81, 3, 9⟩ q1 q2 mb nx L])) (Q (.tup [.c (.k (.pointer none)), .c (.k (.int .i64 24))]) [.up ⟨84, 81, 3, 9⟩ q1 q2 mb nx L]))
 | _, _, _ => False
noncomputable def XU417 : Vx := { P := Tryz.prog, ct := (69, c_good) :: XU316.ct, ty := tyTab, hold := [] }
theorem XU417_ok : CtOk Inv Tryz.prog XU417.ct := CtOk.cons w_good (XU316_ok)
def vc_fresh : (Int) → (ByteArray) → (Int) → (Int) → (Nat) → (Int) → (List (Int × LNode)) → (SV → List HO → Prop) → Prop :=
 fun ref s q1 q2 mb nx L Q => inK .i64 ref → ByteArray.size s ≤ 9223372036854775807 → (getK L ref = none → inK .i64 1 → Q (.tup [.c (.k (.pointer none)), .c (.k (.int .i64 1))]) [.up ⟨84, 81, 3, 9⟩ q1 q2 mb nx L]) ∧ ∀ (m : LNode), getK L ref 
 = some m → NodeOk m → br (m.kind == 1) (inK .i64 0 → inK .i64 (validN s) → br (validN s != 0) (Q (.tup [.c (.k (.pointer none)), .c (.k (.int .i64 (validN s)))]) [.up ⟨84, 81, 3, 9⟩ q1 q2 mb nx L]) (∃ r m_1, getK L r = some m_1 ∧ m_1.blk = 
 m.blk ∧ (NodeOk m_1 → ∃ r m_2, getK L r = some m_2 ∧ m_2.vi = m_1.vi ∧ (getK m_2.ents s = none → Q (SV.tup [S1.c (Cl.kl (0 : Nat) (Value.pointer (some (Addr.mk m.blk (0 : Nat) none)))), .c (.k (.int .i64 0))]) [.up ⟨84, 81, 3, 9⟩ q1 q2 mb 
 nx L]) ∧ ∀ (x : Int), getK m_2.ents s = some x → inK .i64 x → Q (.tup [.c (.k (.pointer none)), .c (.k (.int .i64 21))]) [.up ⟨84, 81, 3, 9⟩ q1 q2 mb nx L]))) (inK .i64 24 → Q (.tup [.c (.k (.pointer none)), .c (.k (.int .i64 24))]) [.up 
 ⟨84, 81, 3, 9⟩ q1 q2 mb nx L])
theorem vc_fresh_eq (ref : Int) (s : ByteArray) (q1 : Int) (q2 : Int) (mb : Nat) (nx : Int) (L : List (Int × LNode)) (Q : SV → List HO → Prop) : vFun XU417 ⟨[], []⟩ Tryz.f68 [.v (.c (.p 0 0)), .int ref, .str s] [.up ⟨84, 81, 3, 9⟩ q1 q2 mb nx L] Q = vc_fresh ref s q1 q2 mb nx L Q := by kernel_rfl
theorem w_fresh : ∀ args H Q, c_fresh args H Q → Wp Inv Tryz.prog 68 args H Q := by
 intro args H Q h
 unfold c_fresh at h
 split at h
 rotate_left
 ·exact h.elim
 rename_i ref s q1 q2 mb nx L
 refine Wp.enter (X := XU417) XU417_ok ⟨[], []⟩ (fn := Tryz.f68) (by kernel_rfl) ?_
 have hv := vc_fresh_eq ref s q1 q2 mb nx L Q
 rw [show vFun _ _ _ _ _ _ = _ from hv]
 unfold vc_fresh
 intro _ _
 refine ⟨fun hn _ => h.1 hn, fun m hg hm => ?_⟩
 have h2 := h.2 m hg hm
 refine br_of (fun hc => fun _ _ => ?_) (fun hc => fun _ => ?_)
 ·rw [hc] at h2
  refine br_of (fun hd => ?_) (fun hd => ⟨_, m, hg, rfl, fun _ => ⟨_, m, hg, rfl, fun h0 => ?_, fun x hx _ => ?_⟩⟩)
  ·rw [hd] at h2; exact h2
  ·rw [hd] at h2; exact h2.1 h0
  ·rw [hd] at h2; exact h2.2 x hx
 ·rw [hc] at h2; exact h2
def c_within : Ct
 | [.v (.c (.p 0 0)), .v (.c (.k (.int .i64 d))), .v (.c (.k (.int .i64 top)))], [.up ⟨84, 81, 3, 9⟩ q1 q2 mb nx L], Q => ∃ Y : UpY, (q1 = Y.q1 ∧ q2 = Y.q2 ∧ nx = Y.nx ∧ RepY L Y) ∧ Y.Wf ∧ Y.dirE d = 0 ∧ Q (.bool (Y.below top d)) [.up ⟨84, 81, 3, 9⟩ q1 q2 mb nx L]
 | _, _, _ => False
noncomputable def XU418 : Vx := { P := Tryz.prog, ct := (68, c_fresh) :: XU417.ct, ty := tyTab, hold := [] }
theorem XU418_ok : CtOk Inv Tryz.prog XU418.ct := CtOk.cons w_fresh (XU417_ok)
def vc_within : (Int) → (Int) → (Int) → (Int) → (Nat) → (Int) → (List (Int × LNode)) → (SV → List HO → Prop) → Prop :=
 fun d top q1 q2 mb nx L Q => inK .i64 d → inK .i64 top → LoopP (fun i again => br (i.1.1 != top) (br (i.1.1 != 1) (inK .i64 q1 → inK .i64 q2 → inK .i64 nx → Value.map (some mb) = Value.map (some mb) ∧ (getK L i.1.1 = none → False) ∧ ∀ (m : 
 LNode), getK L i.1.1 = some m → NodeOk m → ∃ r m_1, getK L r = some m_1 ∧ m_1.blk = m.blk ∧ (NodeOk m_1 → again ((m_1.up, ()), ()))) (Q (.v (.c (.k (.bool (i.1.1 == top))))) [.up ⟨84, 81, 3, 9⟩ q1 q2 mb nx L])) (Q (.v (.c (.k (.bool (i.1.1 
 == top))))) [.up ⟨84, 81, 3, 9⟩ q1 q2 mb nx L])) ((d, ()), ())
theorem vc_within_eq (d : Int) (top : Int) (q1 : Int) (q2 : Int) (mb : Nat) (nx : Int) (L : List (Int × LNode)) (Q : SV → List HO → Prop) : vFun XU418 ⟨[(2, ⟨[(1, .int .i64)], []⟩)], []⟩ Tryz.f88 [.v (.c (.p 0 0)), .int d, .int top] [.up ⟨84, 81, 3, 9⟩ q1 q2 mb nx L] Q = vc_within d top q1 q2 mb nx L Q := by kernel_rfl
theorem w_within : ∀ args H Q, c_within args H Q → Wp Inv Tryz.prog 88 args H Q := by
 intro args H Q h
 unfold c_within at h
 split at h
 rotate_left
 ·exact h.elim
 rename_i d top q1 q2 mb nx L
 refine Wp.enter (X := XU418) XU418_ok ⟨[(2, ⟨[(1, .int .i64)], []⟩)], []⟩ (fn := Tryz.f88) (by kernel_rfl) ?_
 have hv := vc_within_eq d top q1 q2 mb nx L Q
 rw [show vFun _ _ _ _ _ _ = _ from hv]
 unfold vc_within
 obtain ⟨Y, ⟨rfl, rfl, rfl, hr⟩, hw, hd, hq⟩ := h
 obtain ⟨dp, hdp⟩ := hw.dep
 intro _ _
 refine LoopP.intro (fun i => Y.dirE i.1.1 = 0 ∧ Y.below top i.1.1 = Y.below top d) (fun i => dp i.1.1) ⟨hd, rfl⟩ ?_
 rintro ⟨⟨i, _⟩, _⟩ ⟨h0, h1⟩
 simp only at h0 h1 ⊢
 have fin : ∀ c, Y.below top i = c → Q (.bool c) [.up ⟨84, 81, 3, 9⟩ Y.q1 Y.q2 mb Y.nx L] := fun c e => by rw [← e, h1]; exact hq
 refine br_of (fun h2 => br_of (fun h3 => fun _ _ _ => ?_) (fun h3 => fin _ ?_)) (fun h2 => fin _ ?_)
 ·have ht : i ≠ top := by simpa using h2
  have hi : i ≠ 1 := by simpa using h3
  obtain ⟨y, hy, hk⟩ := dirE_zero.1 h0
  obtain ⟨m, hg, hN⟩ := hr.get hy
  have hyi := (at_mem hy).2
  obtain ⟨e, he, hei, hup⟩ := upOf_some (hw.has y (at_mem hy).1 (by rw [hyi]; exact hi))
  rw [hyi] at hei hup
  have hmu : m.up = e.1 := hN.up (by rw [hN.kind]; exact hk) e he hei
  refine ⟨trivial, no_some hg, only hg fun _ => ⟨_, m, hg, rfl, fun _ => ⟨⟨?_, ?_⟩, ?_⟩⟩⟩
  ·simp only [hmu]; exact (hw.dir e he).1
  ·simp only [hmu]; rw [← hup, ← below_up ht hi, h1]
  ·simp only [hmu]; rw [← hei]; exact hdp e he (by rw [hei]; exact h0)
 ·have hi : i = 1 := by simpa using h3
  subst hi
  have ht : (1 : Int) ≠ top := by simpa using h2
  rw [below_root (Ne.symm ht)]; simpa using ht
 ·have ht : i = top := by simpa using h2
  subst ht
  rw [below_here]; simp
def c_setattr0 : Ct
 | [.v (.c (.p 0 0)), .v (.c (.k (.int .i64 ref))), .v (.agg ca)], [.up ⟨84, 81, 3, 9⟩ q1 q2 mb nx L], Q => (match (atTy).of ca with
  | some (a, []) => ∃ Y : UpY, (q1 = Y.q1 ∧ q2 = Y.q2 ∧ nx = Y.nx ∧ RepY L Y) ∧ (Y.Ok) ∧ ∀ o, UpIs ⟨84, 81, 3, 9⟩ (Y.setAttrY ref a) o → Q (.c (.k (.int .i64 (Y.setAttrE ref a)))) [o]
  | _ => False)
 | _, _, _ => False
noncomputable def XU419 : Vx := { P := Tryz.prog, ct := (88, c_within) :: XU418.ct, ty := tyTab, hold := [] }
theorem XU419_ok : CtOk Inv Tryz.prog XU419.ct := CtOk.cons w_within (XU418_ok)
def vc_setattr0 : (Int) → ((atTy).den) → (Int) → (Int) → (Nat) → (Int) → (List (Int × LNode)) → (SV → List HO → Prop) → Prop :=
 fun ref a q1 q2 mb nx L Q => inK .i64 ref → inK .i64 a.1 → inK .i64 a.2.1 → inK .i64 a.2.2.1 → (getK L ref = none → inK .i64 1 → Q (.v (.c (.k (.int .i64 1)))) [.up ⟨84, 81, 3, 9⟩ q1 q2 mb nx L]) ∧ ∀ (m : LNode), getK L ref = some m → 
 NodeOk m → inK .i64 0 → ∃ r m_1, getK L r = some m_1 ∧ m_1.blk = m.blk ∧ (NodeOk m_1 → br (m_1.kind == 4) (Q (.v (.c (.k (.int .i64 1)))) [.up ⟨84, 81, 3, 9⟩ q1 q2 mb nx L]) (br (!mayA a) (Q (.v (.c (.k (.int .i64 1)))) [.up ⟨84, 81, 3, 9⟩ 
 q1 q2 mb nx L]) (∃ r m_2, getK L r = some m_2 ∧ m_2.blk = m.blk ∧ Q (.v (.c (.k (.int .i64 0)))) [.up ⟨84, 81, 3, 9⟩ q1 q2 mb nx (setK L r (LNode.mk m_2.blk m_2.kind a.1 a.2.1 a.2.2.1 m_2.vd m_2.data m_2.target m_2.vx m_2.xattrs m_2.opq 
 m_2.vi m_2.ents m_2.up m_2.links))])))
theorem vc_setattr0_eq (ref : Int) (a : (atTy).den) (q1 : Int) (q2 : Int) (mb : Nat) (nx : Int) (L : List (Int × LNode)) (Q : SV → List HO → Prop) : vFun XU419 ⟨[], []⟩ Tryz.f43 [.v (.c (.p 0 0)), .int ref, .v (.agg (Ty.cells atTy a))] [.up ⟨84, 81, 3, 9⟩ q1 q2 mb nx L] Q = vc_setattr0 ref a q1 q2 mb nx L Q := by kernel_rfl
theorem w_setattr0 : ∀ args H Q, c_setattr0 args H Q → Wp Inv Tryz.prog 43 args H Q := by
 intro args H Q h
 unfold c_setattr0 at h
 split at h
 rotate_left
 ·exact h.elim
 rename_i ref ca q1 q2 mb nx L
 split at h
 rotate_left
 ·exact h.elim
 rename_i a ha
 refine Wp.said (args' := [.v (.c (.p 0 0)), .int ref, .v (.agg (Ty.cells atTy a))]) (fun E g => RelVs.cons1 (fun _ h => h) (RelVs.cons1 (fun _ h => h) (RelVs.cons1 (of_row ha) (fun _ h => h)))) ?_
 clear ha
 refine Wp.enter (X := XU419) XU419_ok ⟨[], []⟩ (fn := Tryz.f43) (by kernel_rfl) ?_
 have hv := vc_setattr0_eq ref a q1 q2 mb nx L Q
 rw [show vFun _ _ _ _ _ _ = _ from hv]
 unfold vc_setattr0
 obtain ⟨Y, ⟨rfl, rfl, rfl, hr⟩, hp, hq⟩ := h
 have stay : ∀ zz : Int, Y.setAttrE ref a = zz → zz ≠ 0 → Q (.int zz) [.up ⟨84, 81, 3, 9⟩ Y.q1 Y.q2 mb Y.nx L] := fun zz e hx => by
  have hY : Y.setAttrY ref a = Y := if_neg (by rw [e]; exact hx)
  rw [hY, e] at hq
  exact hq _ ⟨rfl, rfl, rfl, rfl, hr⟩
 have go : Y.setAttrE ref a = 0 → ∀ o, UpIs ⟨84, 81, 3, 9⟩ ({ Y with L := setN Y.L ref (·.setA a) }) o → Q (.int 0) [o] := fun e o ho => by
  have hY : Y.setAttrY ref a = ({ Y with L := setN Y.L ref (·.setA a) }) := if_pos e
  rw [hY, e] at hq
  exact hq o ho
 
 intro _ _ _ _
 rcases hr.both ref with ⟨hn, hy⟩ | ⟨m, y, hg, hy, hN⟩
 ·refine ⟨fun _ _ => stay 1 ?_ (by decide), fun m hg => ?_⟩
  ·simp only [UpY.setAttrE, hy]
  ·rw [hn] at hg; cases hg
 ·refine ⟨no_some hg, only hg fun _ _ => ⟨_, m, hg, rfl, fun _ => br_of (fun h1 => stay 1 ?_ (by decide)) (fun h1 => br_of (fun h2 => stay 1 ?_ (by decide)) (fun h2 => ⟨_, m, hg, rfl, go ?_ _ ⟨rfl, rfl, rfl, rfl, hr.setN (f := (·.setA a)) (fun _ => rfl) hg hy ⟨hN.kind, rfl, rfl, rfl, hN.data, hN.target, hN.xattrs, hN.opq, hN.ents, hN.links, hN.up⟩⟩⟩))⟩⟩
  all_goals simp only [UpY.setAttrE, hy]
  all_goals rw [hN.kind] at h1
  ·rw [if_pos (.inl (by simpa using h1))]
  ·rw [if_pos (.inr (by simpa using h2))]
  ·rw [if_neg (by
    have h1 := (by simpa using h1 : ¬ y.2.2.1 = 4)
    have h2 := (by simpa using h2 : mayA a = true)
    rw [h2]; simp [h1])]
def c_setattr : Ct
 | [.v (.c (.p 0 0)), .v (.c (.k (.int .i64 ref))), .v (.agg ca)], [.ab (.upr ⟨84, 81, 3, 9⟩ Y)], Q => (match (atTy).of ca with
  | some (a, []) => (Y.Ok) ∧ Q (.c (.k (.int .i64 (Y.setAttrE ref a)))) [.ab (.upr ⟨84, 81, 3, 9⟩ (Y.setAttrY ref a))]
  | _ => False)
 | _, _, _ => False
theorem w_setattr : ∀ args H Q, c_setattr args H Q → Wp Inv Tryz.prog 43 args H Q := by
 intro args H Q h
 unfold c_setattr at h
 split at h
 ·rename_i ref ca Y
  split at h
  ·rename_i a ha
   refine Wp.uprO fun mb L hr => w_setattr0 _ _ _ ?_
   unfold c_setattr0
   simp only [ha]
   exact ⟨Y, ⟨rfl, rfl, rfl, hr⟩, h.1, fun o ho => ⟨o, _, _, rfl, ho, h.2⟩⟩
  ·exact h.elim
 ·exact h.elim
def c_setopq0 : Ct
 | [.v (.c (.p 0 0)), .v (.c (.k (.int .i64 ref))), .v (.c (.k (.bool on)))], [.up ⟨84, 81, 3, 9⟩ q1 q2 mb nx L], Q => ∃ Y : UpY, (q1 = Y.q1 ∧ q2 = Y.q2 ∧ nx = Y.nx ∧ RepY L Y) ∧ (Y.Ok) ∧ ∀ o, UpIs ⟨84, 81, 3, 9⟩ (Y.setOpaqueY ref on) o → Q (.c (.k (.int .i64 (Y.dirE ref)))) [o]
 | _, _, _ => False
noncomputable def XU420 : Vx := { P := Tryz.prog, ct := (43, c_setattr) :: XU419.ct, ty := tyTab, hold := [] }
theorem XU420_ok : CtOk Inv Tryz.prog XU420.ct := CtOk.cons w_setattr (XU419_ok)
def vc_setopq0 : (Int) → (Bool) → (Int) → (Int) → (Nat) → (Int) → (List (Int × LNode)) → (SV → List HO → Prop) → Prop :=
 fun ref on q1 q2 mb nx L Q => inK .i64 ref → (getK L ref = none → inK .i64 1 → Q (.v (.c (.k (.int .i64 1)))) [.up ⟨84, 81, 3, 9⟩ q1 q2 mb nx L]) ∧ ∀ (m : LNode), getK L ref = some m → NodeOk m → br (m.kind == 1) (inK .i64 0 → ∃ r m_1, getK 
 L r = some m_1 ∧ m_1.blk = m.blk ∧ Q (.v (.c (.k (.int .i64 0)))) [.up ⟨84, 81, 3, 9⟩ q1 q2 mb nx (setK L r (LNode.mk m_1.blk m_1.kind m_1.mode m_1.uid m_1.gid m_1.vd m_1.data m_1.target m_1.vx m_1.xattrs on m_1.vi m_1.ents m_1.up 
 m_1.links))]) (inK .i64 24 → Q (.v (.c (.k (.int .i64 24)))) [.up ⟨84, 81, 3, 9⟩ q1 q2 mb nx L])
theorem vc_setopq0_eq (ref : Int) (on : Bool) (q1 : Int) (q2 : Int) (mb : Nat) (nx : Int) (L : List (Int × LNode)) (Q : SV → List HO → Prop) : vFun XU420 ⟨[], []⟩ Tryz.f47 [.v (.c (.p 0 0)), .int ref, .bool on] [.up ⟨84, 81, 3, 9⟩ q1 q2 mb nx L] Q = vc_setopq0 ref on q1 q2 mb nx L Q := by kernel_rfl
theorem w_setopq0 : ∀ args H Q, c_setopq0 args H Q → Wp Inv Tryz.prog 47 args H Q := by
 intro args H Q h
 unfold c_setopq0 at h
 split at h
 rotate_left
 ·exact h.elim
 rename_i ref on q1 q2 mb nx L
 refine Wp.enter (X := XU420) XU420_ok ⟨[], []⟩ (fn := Tryz.f47) (by kernel_rfl) ?_
 have hv := vc_setopq0_eq ref on q1 q2 mb nx L Q
 rw [show vFun _ _ _ _ _ _ = _ from hv]
 unfold vc_setopq0
 obtain ⟨Y, ⟨rfl, rfl, rfl, hr⟩, hp, hq⟩ := h
 have stay : ∀ zz : Int, Y.dirE ref = zz → zz ≠ 0 → Q (.int zz) [.up ⟨84, 81, 3, 9⟩ Y.q1 Y.q2 mb Y.nx L] := fun zz e hx => by
  have hY : Y.setOpaqueY ref on = Y := if_neg (by rw [e]; exact hx)
  rw [hY, e] at hq
  exact hq _ ⟨rfl, rfl, rfl, rfl, hr⟩
 have go : Y.dirE ref = 0 → ∀ o, UpIs ⟨84, 81, 3, 9⟩ ({ Y with L := setN Y.L ref (·.setO on) }) o → Q (.int 0) [o] := fun e o ho => by
  have hY : Y.setOpaqueY ref on = ({ Y with L := setN Y.L ref (·.setO on) }) := if_pos e
  rw [hY, e] at hq
  exact hq o ho
 
 intro _
 rcases hr.both ref with ⟨hn, hy⟩ | ⟨m, y, hg, hy, hN⟩
 ·refine ⟨fun _ _ => stay 1 (dirE_none hy) (by decide), fun m hg => ?_⟩
  rw [hn] at hg; cases hg
 ·refine ⟨no_some hg, only hg fun _ => br_of (fun h1 => fun _ => ⟨_, m, hg, rfl, go ?_ _ ⟨rfl, rfl, rfl, rfl, hr.setN (f := (·.setO on)) (fun _ => rfl) hg hy ⟨hN.kind, hN.mode, hN.uid, hN.gid, hN.data, hN.target, hN.xattrs, rfl, hN.ents, hN.links, hN.up⟩⟩⟩) (fun h1 => fun _ => stay 24 ?_ (by decide))⟩
  all_goals rw [dirE_some hy]
  all_goals rw [hN.kind] at h1
  ·rw [if_pos (by simpa using h1)]
  ·rw [if_neg (by simpa using h1)]
def c_setopq : Ct
 | [.v (.c (.p 0 0)), .v (.c (.k (.int .i64 ref))), .v (.c (.k (.bool on)))], [.ab (.upr ⟨84, 81, 3, 9⟩ Y)], Q => (Y.Ok) ∧ Q (.c (.k (.int .i64 (Y.dirE ref)))) [.ab (.upr ⟨84, 81, 3, 9⟩ (Y.setOpaqueY ref on))]
 | _, _, _ => False
theorem w_setopq : ∀ args H Q, c_setopq args H Q → Wp Inv Tryz.prog 47 args H Q := by
 intro args H Q h
 unfold c_setopq at h
 split at h
 ·rename_i ref on Y
  refine Wp.uprO fun mb L hr => w_setopq0 _ _ _ ?_
  unfold c_setopq0
  exact ⟨Y, ⟨rfl, rfl, rfl, hr⟩, h.1, fun o ho => ⟨o, _, _, rfl, ho, h.2⟩⟩
 ·exact h.elim
def c_setx0 : Ct
 | [.v (.c (.p 0 0)), .v (.c (.k (.int .i64 ref))), .v (.c cx)], [.up ⟨84, 81, 3, 9⟩ q1 q2 mb nx L], Q => (match (Ty.sl xaTy).of [cx] with
  | some (x, []) => ∃ Y : UpY, (q1 = Y.q1 ∧ q2 = Y.q2 ∧ nx = Y.nx ∧ RepY L Y) ∧ (Y.Ok) ∧ ∀ o, UpIs ⟨84, 81, 3, 9⟩ (Y.setXattrsY ref x) o → Q (.c (.k (.int .i64 (Y.setXattrsE ref x)))) [o]
  | _ => False)
 | _, _, _ => False
noncomputable def XU421 : Vx := { P := Tryz.prog, ct := (47, c_setopq) :: XU420.ct, ty := tyTab, hold := [] }
theorem XU421_ok : CtOk Inv Tryz.prog XU421.ct := CtOk.cons w_setopq (XU420_ok)
def vc_setx0 : (Int) → (List (xaTy).den) → (Int) → (Int) → (Nat) → (Int) → (List (Int × LNode)) → (SV → List HO → Prop) → Prop :=
 fun ref x q1 q2 mb nx L Q => inK .i64 ref → List.length x ≤ 9223372036854775807 → (getK L ref = none → inK .i64 1 → Q (.v (.c (.k (.int .i64 1)))) [.up ⟨84, 81, 3, 9⟩ q1 q2 mb nx L]) ∧ ∀ (m : LNode), getK L ref = some m → NodeOk m → inK 
 .i64 0 → ∃ r m_1, getK L r = some m_1 ∧ m_1.blk = m.blk ∧ (NodeOk m_1 → br (m_1.kind == 4) (Q (.v (.c (.k (.int .i64 1)))) [.up ⟨84, 81, 3, 9⟩ q1 q2 mb nx L]) (br (!xattrsB x) (Q (.v (.c (.k (.int .i64 1)))) [.up ⟨84, 81, 3, 9⟩ q1 q2 mb nx 
 L]) (List.length x ≤ 1000 ∧ (∀ (y : Ty.den xaTy), List.Mem y x → List.length y.2.1 ≤ 140737488355328) ∧ ∃ r m_2, getK L r = some m_2 ∧ m_2.blk = m.blk ∧ ∀ (vx : Value), Q (.v (.c (.k (.int .i64 0)))) [.up ⟨84, 81, 3, 9⟩ q1 q2 mb nx (setK L 
 r (LNode.mk m_2.blk m_2.kind m_2.mode m_2.uid m_2.gid m_2.vd m_2.data m_2.target vx (List.map xaO x) m_2.opq m_2.vi m_2.ents m_2.up m_2.links))])))
theorem vc_setx0_eq (ref : Int) (x : List (xaTy).den) (q1 : Int) (q2 : Int) (mb : Nat) (nx : Int) (L : List (Int × LNode)) (Q : SV → List HO → Prop) : vFun XU421 ⟨[], []⟩ Tryz.f45 [.v (.c (.p 0 0)), .int ref, .c (.d xaTy x)] [.up ⟨84, 81, 3, 9⟩ q1 q2 mb nx L] Q = vc_setx0 ref x q1 q2 mb nx L Q := by kernel_rfl
theorem w_setx0 : ∀ args H Q, c_setx0 args H Q → Wp Inv Tryz.prog 45 args H Q := by
 intro args H Q h
 unfold c_setx0 at h
 split at h
 rotate_left
 ·exact h.elim
 rename_i ref cx q1 q2 mb nx L
 split at h
 rotate_left
 ·exact h.elim
 rename_i x hx
 refine Wp.said (args' := [.v (.c (.p 0 0)), .int ref, .c (.d xaTy x)]) (fun E g => RelVs.cons1 (fun _ h => h) (RelVs.cons1 (fun _ h => h) (RelVs.cons1 (of_list hx) (fun _ h => h)))) ?_
 clear hx
 refine Wp.enter (X := XU421) XU421_ok ⟨[], []⟩ (fn := Tryz.f45) (by kernel_rfl) ?_
 have hv := vc_setx0_eq ref x q1 q2 mb nx L Q
 rw [show vFun _ _ _ _ _ _ = _ from hv]
 unfold vc_setx0
 obtain ⟨Y, ⟨rfl, rfl, rfl, hr⟩, hp, hq⟩ := h
 have stay : ∀ zz : Int, Y.setXattrsE ref x = zz → zz ≠ 0 → Q (.int zz) [.up ⟨84, 81, 3, 9⟩ Y.q1 Y.q2 mb Y.nx L] := fun zz e hx => by
  have hY : Y.setXattrsY ref x = Y := if_neg (by rw [e]; exact hx)
  rw [hY, e] at hq
  exact hq _ ⟨rfl, rfl, rfl, rfl, hr⟩
 have go : Y.setXattrsE ref x = 0 → ∀ o, UpIs ⟨84, 81, 3, 9⟩ ({ Y with L := setN Y.L ref (·.setX x) }) o → Q (.int 0) [o] := fun e o ho => by
  have hY : Y.setXattrsY ref x = ({ Y with L := setN Y.L ref (·.setX x) }) := if_pos e
  rw [hY, e] at hq
  exact hq o ho
 
 intro _ _
 rcases hr.both ref with ⟨hn, hy⟩ | ⟨m, y, hg, hy, hN⟩
 ·refine ⟨fun _ _ => stay 1 ?_ (by decide), fun m hg => ?_⟩
  ·simp only [UpY.setXattrsE, hy]
  ·rw [hn] at hg; cases hg
 ·refine ⟨no_some hg, only hg fun _ _ => ⟨_, m, hg, rfl, fun _ => br_of (fun h1 => stay 1 ?_ (by decide)) (fun h1 => br_of (fun h2 => stay 1 ?_ (by decide)) (fun h2 => ?_))⟩⟩
  ·simp only [UpY.setXattrsE, hy]
   rw [hN.kind] at h1
   rw [if_pos (.inl (by simpa using h1))]
  ·simp only [UpY.setXattrsE, hy]
   rw [if_pos (.inr (by simpa using h2))]
  ·have hx : xattrsB x = true := by simpa using h2
   have hl := xattrsB_len hx
   have ha := xattrsB_all hx
   refine ⟨by omega, fun y hy => Nat.le_trans (ha y hy).1 (by omega), _, m, hg, rfl, fun vx => go ?_ _ ⟨rfl, rfl, rfl, rfl, hr.setN (f := (·.setX x)) (fun _ => rfl) hg hy ⟨hN.kind, hN.mode, hN.uid, hN.gid, hN.data, hN.target, xaO_xaT x, hN.opq, hN.ents, hN.links, hN.up⟩⟩⟩
   simp only [UpY.setXattrsE, hy]
   rw [hN.kind] at h1
   rw [if_neg (by
    have h1 := (by simpa using h1 : ¬ y.2.2.1 = 4)
    rw [hx]; simp [h1])]
def c_setx : Ct
 | [.v (.c (.p 0 0)), .v (.c (.k (.int .i64 ref))), .v (.c cx)], [.ab (.upr ⟨84, 81, 3, 9⟩ Y)], Q => (match (Ty.sl xaTy).of [cx] with
  | some (x, []) => (Y.Ok) ∧ Q (.c (.k (.int .i64 (Y.setXattrsE ref x)))) [.ab (.upr ⟨84, 81, 3, 9⟩ (Y.setXattrsY ref x))]
  | _ => False)
 | _, _, _ => False
theorem w_setx : ∀ args H Q, c_setx args H Q → Wp Inv Tryz.prog 45 args H Q := by
 intro args H Q h
 unfold c_setx at h
 split at h
 ·rename_i ref cx Y
  split at h
  ·rename_i x hx
   refine Wp.uprO fun mb L hr => w_setx0 _ _ _ ?_
   unfold c_setx0
   simp only [hx]
   exact ⟨Y, ⟨rfl, rfl, rfl, hr⟩, h.1, fun o ho => ⟨o, _, _, rfl, ho, h.2⟩⟩
  ·exact h.elim
 ·exact h.elim
def c_resize0 : Ct
 | [.v (.c (.p 0 0)), .v (.c (.k (.int .i64 ref))), .v (.c (.k (.int .i64 k)))], [.up ⟨84, 81, 3, 9⟩ q1 q2 mb nx L], Q => ∃ Y : UpY, (q1 = Y.q1 ∧ q2 = Y.q2 ∧ nx = Y.nx ∧ RepY L Y) ∧ (Y.Ok) ∧ ∀ o, UpIs ⟨84, 81, 3, 9⟩ (Y.resizeY ref k) o → Q (.c (.k (.int .i64 (Y.resizeE ref k)))) [o]
 | _, _, _ => False
noncomputable def XU422 : Vx := { P := Tryz.prog, ct := (45, c_setx) :: XU421.ct, ty := tyTab, hold := [] }
theorem XU422_ok : CtOk Inv Tryz.prog XU422.ct := CtOk.cons w_setx (XU421_ok)
def vc_resize0 : (Int) → (Int) → (Int) → (Int) → (Nat) → (Int) → (List (Int × LNode)) → (SV → List HO → Prop) → Prop :=
 fun ref k q1 q2 mb nx L Q => inK .i64 ref → inK .i64 k → (getK L ref = none → inK .i64 1 → Q (.v (.c (.k (.int .i64 1)))) [.up ⟨84, 81, 3, 9⟩ q1 q2 mb nx L]) ∧ ∀ (m : LNode), getK L ref = some m → NodeOk m → br (m.kind == 1) (inK .i64 25 → 
 Q (.v (.c (.k (.int .i64 25)))) [.up ⟨84, 81, 3, 9⟩ q1 q2 mb nx L]) (br (m.kind == 2) (inK .i64 0 → br (decide (k < 0)) (Q (.v (.c (.k (.int .i64 1)))) [.up ⟨84, 81, 3, 9⟩ q1 q2 mb nx L]) (br (decide (k > 4096)) (Q (.v (.c (.k (.int .i64 
 3)))) [.up ⟨84, 81, 3, 9⟩ q1 q2 mb nx L]) (∃ r m_1, getK L r = some m_1 ∧ m_1.blk = m.blk ∧ (NodeOk m_1 → 0 ≤ k ∧ k ≤ 140737488355328 ∧ ∃ r m_2, getK L r = some m_2 ∧ m_2.blk = m.blk ∧ ∀ (vd : Value), Q (.v (.c (.k (.int .i64 0)))) [.up 
 ⟨84, 81, 3, 9⟩ q1 q2 mb nx (setK L r (LNode.mk m_2.blk m_2.kind m_2.mode m_2.uid m_2.gid vd (sizeL m_1.data k) m_2.target m_2.vx m_2.xattrs m_2.opq m_2.vi m_2.ents m_2.up m_2.links))])))) (inK .i64 1 → Q (.v (.c (.k (.int .i64 1)))) [.up 
 ⟨84, 81, 3, 9⟩ q1 q2 mb nx L]))
theorem vc_resize0_eq (ref : Int) (k : Int) (q1 : Int) (q2 : Int) (mb : Nat) (nx : Int) (L : List (Int × LNode)) (Q : SV → List HO → Prop) : vFun XU422 ⟨[], []⟩ Tryz.f41 [.v (.c (.p 0 0)), .int ref, .int k] [.up ⟨84, 81, 3, 9⟩ q1 q2 mb nx L] Q = vc_resize0 ref k q1 q2 mb nx L Q := by kernel_rfl
theorem w_resize0 : ∀ args H Q, c_resize0 args H Q → Wp Inv Tryz.prog 41 args H Q := by
 intro args H Q h
 unfold c_resize0 at h
 split at h
 rotate_left
 ·exact h.elim
 rename_i ref k q1 q2 mb nx L
 refine Wp.enter (X := XU422) XU422_ok ⟨[], []⟩ (fn := Tryz.f41) (by kernel_rfl) ?_
 have hv := vc_resize0_eq ref k q1 q2 mb nx L Q
 rw [show vFun _ _ _ _ _ _ = _ from hv]
 unfold vc_resize0
 obtain ⟨Y, ⟨rfl, rfl, rfl, hr⟩, hp, hq⟩ := h
 have stay : ∀ zz : Int, Y.resizeE ref k = zz → zz ≠ 0 → Q (.int zz) [.up ⟨84, 81, 3, 9⟩ Y.q1 Y.q2 mb Y.nx L] := fun zz e hx => by
  have hY : Y.resizeY ref k = Y := if_neg (by rw [e]; exact hx)
  rw [hY, e] at hq
  exact hq _ ⟨rfl, rfl, rfl, rfl, hr⟩
 have go : Y.resizeE ref k = 0 → ∀ o, UpIs ⟨84, 81, 3, 9⟩ ({ Y with L := setN Y.L ref fun n => n.setD (sizeL n.2.2.2.2.1 k) }) o → Q (.int 0) [o] := fun e o ho => by
  have hY : Y.resizeY ref k = ({ Y with L := setN Y.L ref fun n => n.setD (sizeL n.2.2.2.2.1 k) }) := if_pos e
  rw [hY, e] at hq
  exact hq o ho
 
 intro _ _
 rcases hr.both ref with ⟨hn, hy⟩ | ⟨m, y, hg, hy, hN⟩
 ·refine ⟨fun _ _ => stay 1 ?_ (by decide), fun m hg => ?_⟩
  ·simp only [UpY.resizeE, fileE_none hy]; rfl
  ·rw [hn] at hg; cases hg
 ·refine ⟨no_some hg, only hg fun _ => br_of (fun h1 => fun _ => stay 25 ?_ (by decide)) (fun h1 => br_of (fun h2 => fun _ => br_of (fun h3 => stay 1 ?_ (by decide)) (fun h3 => br_of (fun h4 => stay 3 ?_ (by decide)) (fun h4 => ⟨_, m, hg, rfl, fun _ => ⟨?_, ?_, _, m, hg, rfl, fun vd => go ?_ _ ⟨rfl, rfl, rfl, rfl, hr.setN (f := fun n => n.setD (sizeL n.2.2.2.2.1 k)) (fun _ => rfl) hg hy ⟨hN.kind, hN.mode, hN.uid, hN.gid, by simp only [NoD.setD]; rw [hN.data], hN.target, hN.xattrs, hN.opq, hN.ents, hN.links, hN.up⟩⟩⟩⟩))) (fun h2 => fun _ => stay 1 ?_ (by decide)))⟩
  all_goals try replace h3 := of_decide_eq_true h3
  all_goals try replace h3 := of_decide_eq_false h3
  all_goals try replace h4 := of_decide_eq_true h4
  all_goals try replace h4 := of_decide_eq_false h4
  all_goals try omega
  all_goals simp only [UpY.resizeE, fileE_some hy]
  all_goals rw [hN.kind] at h1
  all_goals try rw [hN.kind] at h2
  ·simp [eq_of_beq h1]
  all_goals have h1 : ¬ y.2.2.1 = 1 := by simpa using h1
  ·simp [h1, eq_of_beq h2, h3]
  ·have h3' : ¬ k < 0 := h3
   have h4' : k > 4096 := h4
   simp [h1, eq_of_beq h2, h3', h4']
  ·have h3' : ¬ k < 0 := h3
   have h4' : ¬ k > 4096 := h4
   simp only [eq_of_beq h2]
   simp [h3', h4']
  ·have h2 : ¬ y.2.2.1 = 2 := by simpa using h2
   simp [h1, h2]
def c_resize : Ct
 | [.v (.c (.p 0 0)), .v (.c (.k (.int .i64 ref))), .v (.c (.k (.int .i64 k)))], [.ab (.upr ⟨84, 81, 3, 9⟩ Y)], Q => (Y.Ok) ∧ Q (.c (.k (.int .i64 (Y.resizeE ref k)))) [.ab (.upr ⟨84, 81, 3, 9⟩ (Y.resizeY ref k))]
 | _, _, _ => False
theorem w_resize : ∀ args H Q, c_resize args H Q → Wp Inv Tryz.prog 41 args H Q := by
 intro args H Q h
 unfold c_resize at h
 split at h
 ·rename_i ref k Y
  refine Wp.uprO fun mb L hr => w_resize0 _ _ _ ?_
  unfold c_resize0
  exact ⟨Y, ⟨rfl, rfl, rfl, hr⟩, h.1, fun o ho => ⟨o, _, _, rfl, ho, h.2⟩⟩
 ·exact h.elim
end Go.Proofs

namespace Go.Proofs
open Go Go.Lm Go.RowKit
set_option maxRecDepth 1000000
def c_write0 : Ct
 | [.v (.c (.p 0 0)), .v (.c (.k (.int .i64 ref))), .v (.c (.k (.int .i64 off))), .v (.c cb)], [.up ⟨84, 81, 3, 9⟩ q1 q2 mb nx L], Q => (match (Ty.sl Ty.u8).of [cb] with
  | some (b, []) => ∃ Y : UpY, (q1 = Y.q1 ∧ q2 = Y.q2 ∧ nx = Y.nx ∧ RepY L Y) ∧ (Y.Ok) ∧ ∀ o, UpIs ⟨84, 81, 3, 9⟩ (Y.writeY ref off b) o → Q (.c (.k (.int .i64 (Y.writeE ref off b)))) [o]
  | _ => False)
 | _, _, _ => False
noncomputable def XU523 : Vx := { P := Tryz.prog, ct := (41, c_resize) :: XU422.ct, ty := tyTab, hold := [], pend := true }
theorem XU523_ok : CtOk Inv Tryz.prog XU523.ct := CtOk.cons w_resize (XU422_ok)
def vc_write0 : (Int) → (Int) → (List (Ty.u8).den) → (Int) → (Int) → (Nat) → (Int) → (List (Int × LNode)) → (SV → List HO → Prop) → Prop :=
 fun ref off b q1 q2 mb nx L Q => inK .i64 ref → inK .i64 off → List.length b ≤ 9223372036854775807 → (getK L ref = none → inK .i64 1 → Q (.v (.c (.k (.int .i64 1)))) [.up ⟨84, 81, 3, 9⟩ q1 q2 mb nx L]) ∧ ∀ (m : LNode), getK L ref = some m → 
 NodeOk m → br (m.kind == 1) (inK .i64 25 → Q (.v (.c (.k (.int .i64 25)))) [.up ⟨84, 81, 3, 9⟩ q1 q2 mb nx L]) (br (m.kind == 2) (inK .i64 0 → br (decide (off < 0)) (Q (.v (.c (.k (.int .i64 1)))) [.up ⟨84, 81, 3, 9⟩ q1 q2 mb nx L]) (br 
 (decide (off > 4096)) (Q (.v (.c (.k (.int .i64 3)))) [.up ⟨84, 81, 3, 9⟩ q1 q2 mb nx L]) (List.length b ≤ 9223372036854775807 → inK .i64 (4096 - off) ∧ br (decide ((b.length : Int) > 4096 - off)) (Q (.v (.c (.k (.int .i64 3)))) [.up ⟨84, 
 81, 3, 9⟩ q1 q2 mb nx L]) (List.length b ≤ 9223372036854775807 → br ((b.length : Int) == 0) (Q (.v (.c (.k (.int .i64 0)))) [.up ⟨84, 81, 3, 9⟩ q1 q2 mb nx L]) (∃ r m_1, getK L r = some m_1 ∧ m_1.blk = m.blk ∧ (NodeOk m_1 → ∃ r m_2, getK L 
 r = some m_2 ∧ m_2.blk = m.blk ∧ (NodeOk m_2 → List.length m_2.data ≤ 9223372036854775807 → List.length b ≤ 9223372036854775807 → inK .i64 (off + (b.length : Int)) ∧ (0 ≤ if false = true then min (↑(List.length m_2.data) : Int) (off + 
 (b.length : Int)) else max (↑(List.length m_2.data) : Int) (off + (b.length : Int))) ∧ (if false = true then min (↑(List.length m_2.data) : Int) (off + (b.length : Int)) else max (↑(List.length m_2.data) : Int) (off + (b.length : Int))) ≤ 
 140737488355328 ∧ ∃ r m_3, getK L r = some m_3 ∧ m_3.blk = m.blk ∧ ∀ (vd : Value), (LNode.mk m_3.blk m_3.kind m_3.mode m_3.uid m_3.gid vd (sizeL m_1.data (if false = true then min (↑(List.length m_2.data) : Int) (off + (b.length : Int)) 
 else max (↑(List.length m_2.data) : Int) (off + (b.length : Int)))) m_3.target m_3.vx m_3.xattrs m_3.opq m_3.vi m_3.ents m_3.up m_3.links).blk = m.blk ∧ (LNode.mk m_3.blk m_3.kind m_3.mode m_3.uid m_3.gid vd (sizeL m_1.data (if false = true 
 then min (↑(List.length m_2.data) : Int) (off + (b.length : Int)) else max (↑(List.length m_2.data) : Int) (off + (b.length : Int)))) m_3.target m_3.vx m_3.xattrs m_3.opq m_3.vi m_3.ents m_3.up m_3.links).vd = (LNode.mk m_3.blk m_3.kind 
 m_3.mode m_3.uid m_3.gid vd (sizeL m_1.data (if false = true then min (↑(List.length m_2.data) : Int) (off + (b.length : Int)) else max (↑(List.length m_2.data) : Int) (off + (b.length : Int)))) m_3.target m_3.vx m_3.xattrs m_3.opq m_3.vi 
 m_3.ents m_3.up m_3.links).vd ∧ 0 ≤ boundV (some off) 0 ∧ boundV (some off) 0 ≤ boundV none (↑(List.length (sizeL m_1.data (if false = true then min (↑(List.length m_2.data) : Int) (off + (b.length : Int)) else max (↑(List.length m_2.data) 
 : Int) (off + (b.length : Int))))) : Int) ∧ boundV none (↑(List.length (sizeL m_1.data (if false = true then min (↑(List.length m_2.data) : Int) (off + (b.length : Int)) else max (↑(List.length m_2.data) : Int) (off + (b.length : Int))))) : 
 Int) ≤ (↑(List.length (sizeL m_1.data (if false = true then min (↑(List.length m_2.data) : Int) (off + (b.length : Int)) else max (↑(List.length m_2.data) : Int) (off + (b.length : Int))))) : Int) ∧ ∃ lo, sliceV (1 : Nat) (LNode.mk m_3.blk 
 m_3.kind m_3.mode m_3.uid m_3.gid vd (sizeL m_1.data (if false = true then min (↑(List.length m_2.data) : Int) (off + (b.length : Int)) else max (↑(List.length m_2.data) : Int) (off + (b.length : Int)))) m_3.target m_3.vx m_3.xattrs m_3.opq 
 m_3.vi m_3.ents m_3.up m_3.links).vd (boundV (some off) 0) (boundV none (↑(List.length (sizeL m_1.data (if false = true then min (↑(List.length m_2.data) : Int) (off + (b.length : Int)) else max (↑(List.length m_2.data) : Int) (off + 
 (b.length : Int))))) : Int)) = sliceV (1 : Nat) (LNode.mk m_3.blk m_3.kind m_3.mode m_3.uid m_3.gid vd (sizeL m_1.data (if false = true then min (↑(List.length m_2.data) : Int) (off + (b.length : Int)) else max (↑(List.length m_2.data) : 
 Int) (off + (b.length : Int)))) m_3.target m_3.vx m_3.xattrs m_3.opq m_3.vi m_3.ents m_3.up m_3.links).vd lo (↑(List.length (sizeL m_1.data (if false = true then min (↑(List.length m_2.data) : Int) (off + (b.length : Int)) else max 
 (↑(List.length m_2.data) : Int) (off + (b.length : Int))))) : Int) ∧ 0 ≤ lo ∧ lo ≤ (↑(List.length (sizeL m_1.data (if false = true then min (↑(List.length m_2.data) : Int) (off + (b.length : Int)) else max (↑(List.length m_2.data) : Int) 
 (off + (b.length : Int))))) : Int) ∧ Q (.v (.c (.k (.int .i64 0)))) [.ab (.pw ⟨84, 81, 3, 9⟩ q1 q2 mb nx L r (LNode.mk m_3.blk m_3.kind m_3.mode m_3.uid m_3.gid vd (sizeL m_1.data (if false = true then min (↑(List.length m_2.data) : Int) 
 (off + (b.length : Int)) else max (↑(List.length m_2.data) : Int) (off + (b.length : Int)))) m_3.target m_3.vx m_3.xattrs m_3.opq m_3.vi m_3.ents m_3.up m_3.links) (5 : Nat) (copyL (sizeL m_1.data (if false = true then min (↑(List.length 
 m_2.data) : Int) (off + (b.length : Int)) else max (↑(List.length m_2.data) : Int) (off + (b.length : Int)))) (Int.toNat lo) b))]))))))) (inK .i64 1 → Q (.v (.c (.k (.int .i64 1)))) [.up ⟨84, 81, 3, 9⟩ q1 q2 mb nx L]))
theorem vc_write0_eq (ref : Int) (off : Int) (b : List (Ty.u8).den) (q1 : Int) (q2 : Int) (mb : Nat) (nx : Int) (L : List (Int × LNode)) (Q : SV → List HO → Prop) : vFun XU523 ⟨[], []⟩ Tryz.f16 [.v (.c (.p 0 0)), .int ref, .int off, .c (.d Ty.u8 b)] [.up ⟨84, 81, 3, 9⟩ q1 q2 mb nx L] Q = vc_write0 ref off b q1 q2 mb nx L Q := by kernel_rfl
theorem w_write0 : ∀ args H Q, c_write0 args H Q → Wp Inv Tryz.prog 16 args H Q := by
 intro args H Q h
 unfold c_write0 at h
 split at h
 rotate_left
 ·exact h.elim
 rename_i ref off cb q1 q2 mb nx L
 split at h
 rotate_left
 ·exact h.elim
 rename_i b hb
 refine Wp.said (args' := [.v (.c (.p 0 0)), .int ref, .int off, .c (.d Ty.u8 b)]) (fun E g => RelVs.cons1 (fun _ h => h) (RelVs.cons1 (fun _ h => h) (RelVs.cons1 (fun _ h => h) (RelVs.cons1 (of_list hb) (fun _ h => h))))) ?_
 clear hb
 refine Wp.enter (X := XU523) XU523_ok ⟨[], []⟩ (fn := Tryz.f16) (by kernel_rfl) ?_
 have hv := vc_write0_eq ref off b q1 q2 mb nx L Q
 rw [show vFun _ _ _ _ _ _ = _ from hv]
 unfold vc_write0
 obtain ⟨Y, ⟨rfl, rfl, rfl, hr⟩, hp, hq⟩ := h
 have stay : ∀ z : Int, Y.writeE ref off b = z → z ≠ 0 ∨ b = [] → Q (.int z) [.up ⟨84, 81, 3, 9⟩ Y.q1 Y.q2 mb Y.nx L] := fun z e hx => by
  have hY : Y.writeY ref off b = Y := if_neg (by
   rw [e]
   rintro ⟨h1, h2⟩
   rcases hx with hx | hx
   ·exact hx h1
   ·exact h2 hx)
  rw [hY, e] at hq
  exact hq _ ⟨rfl, rfl, rfl, rfl, hr⟩
 have go : Y.writeE ref off b = 0 → b ≠ [] → ∀ o, UpIs ⟨84, 81, 3, 9⟩ { Y with L := setN Y.L ref fun n => n.setD (writeL n.2.2.2.2.1 off b) } o → Q (.int 0) [o] := fun e hb o ho => by
  have hY : Y.writeY ref off b = { Y with L := setN Y.L ref fun n => n.setD (writeL n.2.2.2.2.1 off b) } := if_pos ⟨e, hb⟩
  rw [hY, e] at hq
  exact hq o ho
 intro _ _ _
 rcases hr.both ref with ⟨hn, hy⟩ | ⟨m, y, hg, hy, hN⟩
 ·refine ⟨fun _ _ => stay 1 ?_ (.inl (by decide)), fun m hg => ?_⟩
  ·simp only [UpY.writeE, fileE_none hy]; rfl
  ·rw [hn] at hg; cases hg
 ·have hl := (mayN_lens (hp.wf.nm y (at_mem hy).1).2.2).1
  rw [← hN.data] at hl
  refine ⟨no_some hg, only hg fun _ => br_of (fun h1 => fun _ => stay 25 ?_ (.inl (by decide))) (fun h1 => br_of (fun h2 => fun _ => br_of (fun h3 => stay 1 ?_ (.inl (by decide))) (fun h3 => br_of (fun h4 => stay 3 ?_ (.inl (by decide))) (fun h4 => fun _ => ⟨?_, br_of (fun h5 => stay 3 ?_ (.inl (by decide))) (fun h5 => fun _ => br_of (fun h6 => stay 0 ?_ (.inr ?_)) (fun h6 => ?_))⟩))) (fun h2 => fun _ => stay 1 ?_ (.inl (by decide))))⟩
  all_goals try replace h3 := of_decide_eq_true h3
  all_goals try replace h3 := of_decide_eq_false h3
  all_goals try replace h4 := of_decide_eq_true h4
  all_goals try replace h4 := of_decide_eq_false h4
  all_goals try replace h5 := of_decide_eq_true h5
  all_goals try replace h5 := of_decide_eq_false h5
  all_goals rw [hN.kind] at h1
  all_goals try rw [hN.kind] at h2
  ·simp only [UpY.writeE, fileE_some hy, eq_of_beq h1]; rfl
  all_goals have h1 : ¬ y.2.2.1 = 1 := by simpa using h1
  ·simp only [UpY.writeE, fileE_some hy, eq_of_beq h2]; simp [h3]
  ·have h3' : ¬ off < 0 := h3
   have h4' : off > 4096 := h4
   simp only [UpY.writeE, fileE_some hy, eq_of_beq h2]; simp [h3', h4']
  ·unfold inK; omega
  ·have h3' : ¬ off < 0 := h3
   have h5' : (b.length : Int) > 4096 - off := h5
   simp only [UpY.writeE, fileE_some hy, eq_of_beq h2]; simp [h3', h5']
  ·have h3' : ¬ off < 0 := h3
   have h4' : ¬ off > 4096 := h4
   have h5' : ¬ (b.length : Int) > 4096 - off := h5
   simp only [UpY.writeE, fileE_some hy, eq_of_beq h2]; simp [h3', h4', h5']
  ·have h6 : (b.length : Int) = 0 := by simpa using h6
   exact List.eq_nil_of_length_eq_zero (by omega)
  ·have hb : b ≠ [] := fun e => by subst e; simp at h6
   have e0 : Y.writeE ref off b = 0 := by
    have h3' : ¬ off < 0 := h3
    have h4' : ¬ off > 4096 := h4
    have h5' : ¬ (b.length : Int) > 4096 - off := h5
    simp only [UpY.writeE, fileE_some hy, eq_of_beq h2]; simp [h3', h4', h5']
   simp only [Bool.false_eq_true, if_false]
   have hs : ((sizeL m.data (max (m.data.length : Int) (off + b.length))).length : Int) = max (m.data.length : Int) (off + b.length) := by rw [sizeL_len]; omega
   refine ⟨_, m, hg, rfl, fun _ => ⟨_, m, hg, rfl, fun _ _ _ => ⟨by unfold inK; omega, by omega, by omega, _, m, hg, rfl, fun vd => ⟨rfl, trivial, ?_, ?_, ?_, off, rfl, ?_, ?_, go e0 hb _ ⟨rfl, rfl, rfl, rfl, fun vd' => hr.setN (f := fun n => n.setD (writeL n.2.2.2.2.1 off b)) (fun _ => rfl) hg hy ⟨hN.kind, hN.mode, hN.uid, hN.gid, ?_, hN.target, hN.xattrs, hN.opq, hN.ents, hN.links, hN.up⟩⟩⟩⟩⟩⟩
   ·show (0 : Int) ≤ off; omega
   ·show off ≤ ((sizeL m.data _).length : Int); rw [hs]; omega
   ·show ((sizeL m.data _).length : Int) ≤ ((sizeL m.data _).length : Int); omega
   ·omega
   ·rw [hs]; omega
   ·simp only [NoD.setD, writeL]; rw [hN.data]
  ·have h2 : ¬ y.2.2.1 = 2 := by simpa using h2
   simp only [UpY.writeE, fileE_some hy]; simp [h1, h2]
def c_write : Ct
 | [.v (.c (.p 0 0)), .v (.c (.k (.int .i64 ref))), .v (.c (.k (.int .i64 off))), .v (.c cb)], [.ab (.upr ⟨84, 81, 3, 9⟩ Y)], Q => (match (Ty.sl Ty.u8).of [cb] with
  | some (b, []) => (Y.Ok) ∧ Q (.c (.k (.int .i64 (Y.writeE ref off b)))) [.ab (.upr ⟨84, 81, 3, 9⟩ (Y.writeY ref off b))]
  | _ => False)
 | _, _, _ => False
theorem w_write : ∀ args H Q, c_write args H Q → Wp Inv Tryz.prog 16 args H Q := by
 intro args H Q h
 unfold c_write at h
 split at h
 ·rename_i ref off cb Y
  split at h
  ·rename_i b hb
   refine Wp.uprO fun mb L hr => w_write0 _ _ _ ?_
   unfold c_write0
   simp only [hb]
   exact ⟨Y, ⟨rfl, rfl, rfl, hr⟩, h.1, fun o ho => ⟨o, _, _, rfl, ho, h.2⟩⟩
  ·exact h.elim
 ·exact h.elim
def c_read0 : Ct
 | [.v (.c (.p 0 0)), .v (.c (.k (.int .i64 ref))), .v (.c (.k (.int .i64 off))), .v (.c (.k (.int .i64 k)))], [.up ⟨84, 81, 3, 9⟩ q1 q2 mb nx L], Q => ∃ Y : UpY, (q1 = Y.q1 ∧ q2 = Y.q2 ∧ nx = Y.nx ∧ RepY L Y) ∧ (Y.Ok) ∧ ∀ o, UpIs ⟨84, 81, 3, 9⟩ (Y) o → Q (.tup [.c (.o 1), .c (.k (.int .i64 (Y.readE ref off k)))]) [o, .sl 5 .u8 (Y.readD ref off k)]
 | _, _, _ => False
noncomputable def XU524 : Vx := { P := Tryz.prog, ct := (16, c_write) :: XU523.ct, ty := tyTab, hold := [] }
theorem XU524_ok : CtOk Inv Tryz.prog XU524.ct := CtOk.cons w_write (XU523_ok)
def vc_read0 : (Int) → (Int) → (Int) → (Int) → (Int) → (Nat) → (Int) → (List (Int × LNode)) → (SV → List HO → Prop) → Prop :=
 fun ref off k q1 q2 mb nx L Q => inK .i64 ref → inK .i64 off → inK .i64 k → (getK L ref = none → inK .i64 1 → Q (.tup [.c (.k (.slice none 0 0)), .c (.k (.int .i64 1))]) [.up ⟨84, 81, 3, 9⟩ q1 q2 mb nx L]) ∧ ∀ (m : LNode), getK L ref = some 
 m → NodeOk m → br (m.kind == 1) (inK .i64 25 → Q (.tup [.c (.k (.slice none 0 0)), .c (.k (.int .i64 25))]) [.up ⟨84, 81, 3, 9⟩ q1 q2 mb nx L]) (br (m.kind == 2) (inK .i64 0 → br (decide (off < 0)) (Q (.tup [.c (.k (.slice none 0 0)), .c 
 (.k (.int .i64 1))]) [.up ⟨84, 81, 3, 9⟩ q1 q2 mb nx L]) (br (decide (k < 0)) (Q (.tup [.c (.k (.slice none 0 0)), .c (.k (.int .i64 1))]) [.up ⟨84, 81, 3, 9⟩ q1 q2 mb nx L]) (∃ r m_1, getK L r = some m_1 ∧ m_1.blk = m.blk ∧ (NodeOk m_1 → 
 List.length m_1.data ≤ 9223372036854775807 → br (decide (off ≥ (↑(List.length m_1.data) : Int))) (Q (.tup [.c (.k (.slice none 0 0)), .c (.k (.int .i64 0))]) [.up ⟨84, 81, 3, 9⟩ q1 q2 mb nx L]) (∃ r m_2, getK L r = some m_2 ∧ m_2.blk = 
 m.blk ∧ (NodeOk m_2 → ∃ r m_3, getK L r = some m_3 ∧ m_3.blk = m.blk ∧ (NodeOk m_3 → List.length m_3.data ≤ 9223372036854775807 → inK .i64 ((↑(List.length m_3.data) : Int) - off) ∧ inK .i64 (off + if true = true then min k ((↑(List.length 
 m_3.data) : Int) - off) else max k ((↑(List.length m_3.data) : Int) - off)) ∧ 0 ≤ boundV (some off) 0 ∧ boundV (some off) 0 ≤ boundV (some (off + if true = true then min k ((↑(List.length m_3.data) : Int) - off) else max k ((↑(List.length 
 m_3.data) : Int) - off))) (↑(List.length m_2.data) : Int) ∧ boundV (some (off + if true = true then min k ((↑(List.length m_3.data) : Int) - off) else max k ((↑(List.length m_3.data) : Int) - off))) (↑(List.length m_2.data) : Int) ≤ 
 (↑(List.length m_2.data) : Int) ∧ List.length (List.take (Int.toNat (boundV (some (off + if true = true then min k ((↑(List.length m_3.data) : Int) - off) else max k ((↑(List.length m_3.data) : Int) - off))) (↑(List.length m_2.data) : Int)) 
 - Int.toNat (boundV (some off) 0)) (List.drop (Int.toNat (boundV (some off) 0)) m_2.data)) ≤ 140737488355328 ∧ Q (SV.tup [S1.c (.o 1), .c (.k (.int .i64 0))]) [.up ⟨84, 81, 3, 9⟩ q1 q2 mb nx L, .sl 5 Ty.u8 (List.take (Int.toNat (boundV 
 (some (off + if true = true then min k ((↑(List.length m_3.data) : Int) - off) else max k ((↑(List.length m_3.data) : Int) - off))) (↑(List.length m_2.data) : Int)) - Int.toNat (boundV (some off) 0)) (List.drop (Int.toNat (boundV (some off) 
 0)) m_2.data))]))))))) (inK .i64 1 → Q (.tup [.c (.k (.slice none 0 0)), .c (.k (.int .i64 1))]) [.up ⟨84, 81, 3, 9⟩ q1 q2 mb nx L]))
theorem vc_read0_eq (ref : Int) (off : Int) (k : Int) (q1 : Int) (q2 : Int) (mb : Nat) (nx : Int) (L : List (Int × LNode)) (Q : SV → List HO → Prop) : vFun XU524 ⟨[], []⟩ Tryz.f24 [.v (.c (.p 0 0)), .int ref, .int off, .int k] [.up ⟨84, 81, 3, 9⟩ q1 q2 mb nx L] Q = vc_read0 ref off k q1 q2 mb nx L Q := by kernel_rfl
theorem w_read0 : ∀ args H Q, c_read0 args H Q → Wp Inv Tryz.prog 24 args H Q := by
 intro args H Q h
 unfold c_read0 at h
 split at h
 rotate_left
 ·exact h.elim
 rename_i ref off k q1 q2 mb nx L
 refine Wp.ownNil2 (t := 5) (e := .u8) ?_
 refine Wp.enter (X := XU524) XU524_ok ⟨[], []⟩ (fn := Tryz.f24) (by kernel_rfl) ?_
 refine Eq.mpr (vc_read0_eq ref off k q1 q2 mb nx L _) ?_
 unfold vc_read0
 obtain ⟨Y, ⟨rfl, rfl, rfl, hr⟩, hp, hq⟩ := h
 have fin : ∀ z l, Y.readE ref off k = z → Y.readD ref off k = l → Q (.tup [.c (.o 1), .c (.k (.int .i64 z))]) [.up ⟨84, 81, 3, 9⟩ Y.q1 Y.q2 mb Y.nx L, .sl 5 .u8 l] := fun z l e1 e2 => by
  rw [e1, e2] at hq
  exact hq _ ⟨rfl, rfl, rfl, rfl, hr⟩
 have bad : ∀ z, Y.readE ref off k = z → z ≠ 0 → Q (.tup [.c (.o 1), .c (.k (.int .i64 z))]) [.up ⟨84, 81, 3, 9⟩ Y.q1 Y.q2 mb Y.nx L, .sl 5 .u8 []] := fun z e hz => fin z [] e (if_neg (by rw [e]; exact hz))
 intro _ _ _
 rcases hr.both ref with ⟨hn, hy⟩ | ⟨m, y, hg, hy, hN⟩
 ·refine ⟨fun _ _ => .inr ⟨1, rfl, bad 1 ?_ (by decide)⟩, fun m hg => ?_⟩
  ·simp only [UpY.readE, fileE_none hy]; rfl
  ·rw [hn] at hg; cases hg
 ·have hl := (mayN_lens (hp.wf.nm y (at_mem hy).1).2.2).1
  rw [← hN.data] at hl
  refine ⟨no_some hg, only hg fun _ => br_of (fun h1 => fun _ => .inr ⟨25, rfl, bad 25 ?_ (by decide)⟩) (fun h1 => br_of (fun h2 => fun _ => br_of (fun h3 => .inr ⟨1, rfl, bad 1 ?_ (by decide)⟩) (fun h3 => br_of (fun h4 => .inr ⟨1, rfl, bad 1 ?_ (by decide)⟩) (fun h4 => ⟨_, m, hg, rfl, fun _ _ => ?_⟩))) (fun h2 => fun _ => .inr ⟨1, rfl, bad 1 ?_ (by decide)⟩))⟩
  all_goals try replace h3 := of_decide_eq_true h3
  all_goals try replace h3 := of_decide_eq_false h3
  all_goals try replace h4 := of_decide_eq_true h4
  all_goals try replace h4 := of_decide_eq_false h4
  all_goals rw [hN.kind] at h1
  all_goals try rw [hN.kind] at h2
  ·simp only [UpY.readE, fileE_some hy, eq_of_beq h1]; rfl
  all_goals have h1 : ¬ y.2.2.1 = 1 := by simpa using h1
  ·simp only [UpY.readE, fileE_some hy, eq_of_beq h2]; simp [h3]
  ·simp only [UpY.readE, fileE_some hy, eq_of_beq h2]; simp [h4]
  ·have e0 : Y.readE ref off k = 0 := by
    have h3' : ¬ off < 0 := h3
    have h4' : ¬ k < 0 := h4
    simp only [UpY.readE, fileE_some hy, eq_of_beq h2]; simp [h3', h4']
   refine br_of (fun h5 => .inr ⟨0, rfl, fin 0 [] e0 ?_⟩) (fun h5 => ?_)
   ·have h5 : off ≥ (m.data.length : Int) := by simpa using h5
    rw [hN.data] at h5
    simp only [UpY.readD, e0, if_true, hy, h5]
   ·have h5 : ¬ off ≥ (m.data.length : Int) := by simpa using h5
    simp only [if_true]
    refine ⟨_, m, hg, rfl, fun _ => ⟨_, m, hg, rfl, fun _ _ => ⟨by unfold inK; omega, by unfold inK; omega, ?_, ?_, ?_, ?_, .inl (fin 0 _ e0 ?_)⟩⟩⟩
    ·show (0 : Int) ≤ off; omega
    ·show off ≤ off + min k ((m.data.length : Int) - off); omega
    ·show off + min k ((m.data.length : Int) - off) ≤ m.data.length; omega
    ·refine Nat.le_trans (List.length_take_le ..) ?_
     show (off + min k ((m.data.length : Int) - off)).toNat - off.toNat ≤ _
     omega
    ·rw [hN.data] at h5
     simp only [UpY.readD, e0, if_true, hy, h5, if_false]
     rw [← hN.data]
     show _ = List.take ((off + min k ((m.data.length : Int) - off)).toNat - off.toNat) (List.drop off.toNat m.data)
     congr 1
     omega
  ·have h2 : ¬ y.2.2.1 = 2 := by simpa using h2
   simp only [UpY.readE, fileE_some hy]; simp [h1, h2]
def c_read : Ct
 | [.v (.c (.p 0 0)), .v (.c (.k (.int .i64 ref))), .v (.c (.k (.int .i64 off))), .v (.c (.k (.int .i64 k)))], [.ab (.upr ⟨84, 81, 3, 9⟩ Y)], Q => (Y.Ok) ∧ Q (.tup [.c (.o 1), .c (.k (.int .i64 (Y.readE ref off k)))]) [.ab (.upr ⟨84, 81, 3, 9⟩ (Y)), .sl 5 .u8 (Y.readD ref off k)]
 | _, _, _ => False
theorem w_read : ∀ args H Q, c_read args H Q → Wp Inv Tryz.prog 24 args H Q := by
 intro args H Q h
 unfold c_read at h
 split at h
 ·rename_i ref off k Y
  refine Wp.uprO fun mb L hr => w_read0 _ _ _ ?_
  unfold c_read0
  exact ⟨Y, ⟨rfl, rfl, rfl, hr⟩, h.1, fun o ho => ⟨o, _, _, rfl, ho, h.2⟩⟩
 ·exact h.elim
def c_xattrs0 : Ct
 | [.v (.c (.p 0 0)), .v (.c (.k (.int .i64 ref)))], [.up ⟨84, 81, 3, 9⟩ q1 q2 mb nx L], Q => ∃ Y : UpY, (q1 = Y.q1 ∧ q2 = Y.q2 ∧ nx = Y.nx ∧ RepY L Y) ∧ (Y.Ok) ∧ ∀ o, UpIs ⟨84, 81, 3, 9⟩ (Y) o → Q (.tup [.c (.o 1), .c (.k (.int .i64 (Y.atE ref)))]) [o, .sl 71 xaTy (Y.xattrsD ref)]
 | _, _, _ => False
noncomputable def XU525 : Vx := { P := Tryz.prog, ct := (24, c_read) :: XU524.ct, ty := tyTab, hold := [] }
theorem XU525_ok : CtOk Inv Tryz.prog XU525.ct := CtOk.cons w_read (XU524_ok)
def vc_xattrs0 : (Int) → (Int) → (Int) → (Nat) → (Int) → (List (Int × LNode)) → (SV → List HO → Prop) → Prop :=
 fun ref q1 q2 mb nx L Q => inK .i64 ref → (getK L ref = none → inK .i64 1 → Q (.tup [.c (.k (.slice none 0 0)), .c (.k (.int .i64 1))]) [.up ⟨84, 81, 3, 9⟩ q1 q2 mb nx L]) ∧ ∀ (m : LNode), getK L ref = some m → NodeOk m → inK .i64 0 → ∃ r 
 m_1, getK L r = some m_1 ∧ m_1.blk = m.blk ∧ (NodeOk m_1 → List.length (List.map xaT m_1.xattrs) ≤ 1000 ∧ (∀ (y : Ty.den xaTy), List.Mem y (List.map xaT m_1.xattrs) → List.length y.2.1 ≤ 140737488355328) ∧ Q (SV.tup [S1.c (.o 1), .c (.k 
 (.int .i64 0))]) [.up ⟨84, 81, 3, 9⟩ q1 q2 mb nx L, .sl 71 xaTy (List.map xaT m_1.xattrs)])
theorem vc_xattrs0_eq (ref : Int) (q1 : Int) (q2 : Int) (mb : Nat) (nx : Int) (L : List (Int × LNode)) (Q : SV → List HO → Prop) : vFun XU525 ⟨[], []⟩ Tryz.f25 [.v (.c (.p 0 0)), .int ref] [.up ⟨84, 81, 3, 9⟩ q1 q2 mb nx L] Q = vc_xattrs0 ref q1 q2 mb nx L Q := by kernel_rfl
theorem w_xattrs0 : ∀ args H Q, c_xattrs0 args H Q → Wp Inv Tryz.prog 25 args H Q := by
 intro args H Q h
 unfold c_xattrs0 at h
 split at h
 rotate_left
 ·exact h.elim
 rename_i ref q1 q2 mb nx L
 refine Wp.ownNil2 (t := 71) (e := xaTy) ?_
 refine Wp.enter (X := XU525) XU525_ok ⟨[], []⟩ (fn := Tryz.f25) (by kernel_rfl) ?_
 refine Eq.mpr (vc_xattrs0_eq ref q1 q2 mb nx L _) ?_
 unfold vc_xattrs0
 obtain ⟨Y, ⟨rfl, rfl, rfl, hr⟩, hp, hq⟩ := h
 have fin : ∀ z l, Y.atE ref = z → Y.xattrsD ref = l → Q (.tup [.c (.o 1), .c (.k (.int .i64 z))]) [.up ⟨84, 81, 3, 9⟩ Y.q1 Y.q2 mb Y.nx L, .sl 71 xaTy l] := fun z l e1 e2 => by
  rw [e1, e2] at hq
  exact hq _ ⟨rfl, rfl, rfl, rfl, hr⟩
 intro _
 rcases hr.both ref with ⟨hn, hy⟩ | ⟨m, y, hg, hy, hN⟩
 ·refine ⟨fun _ _ => .inr ⟨1, rfl, fin 1 [] ?_ ?_⟩, fun m hg => ?_⟩
  ·simp only [UpY.atE, hy]
  ·simp only [UpY.xattrsD, hy]
  ·rw [hn] at hg; cases hg
 ·have hmn := (hp.wf.nm y (at_mem hy).1).2.2
  have hl := (mayN_lens hmn).2.2
  have ha := mayN_xattrs hmn
  rw [← hN.xattrs] at hl ha
  refine ⟨no_some hg, only hg fun _ _ => ⟨_, m, hg, rfl, fun _ => ⟨by omega, fun y hy => Nat.le_trans (ha y hy).1 (by omega), .inl (fin 0 _ ?_ ?_)⟩⟩⟩
  ·simp only [UpY.atE, hy]
  ·simp only [UpY.xattrsD, hy]; exact hN.xattrs.symm
def c_xattrs : Ct
 | [.v (.c (.p 0 0)), .v (.c (.k (.int .i64 ref)))], [.ab (.upr ⟨84, 81, 3, 9⟩ Y)], Q => (Y.Ok) ∧ Q (.tup [.c (.o 1), .c (.k (.int .i64 (Y.atE ref)))]) [.ab (.upr ⟨84, 81, 3, 9⟩ (Y)), .sl 71 xaTy (Y.xattrsD ref)]
 | _, _, _ => False
theorem w_xattrs : ∀ args H Q, c_xattrs args H Q → Wp Inv Tryz.prog 25 args H Q := by
 intro args H Q h
 unfold c_xattrs at h
 split at h
 ·rename_i ref Y
  refine Wp.uprO fun mb L hr => w_xattrs0 _ _ _ ?_
  unfold c_xattrs0
  exact ⟨Y, ⟨rfl, rfl, rfl, hr⟩, h.1, fun o ho => ⟨o, _, _, rfl, ho, h.2⟩⟩
 ·exact h.elim
end Go.Proofs

namespace Go.Proofs
open Go Go.Lm Go.RowKit
set_option maxRecDepth 1000000
def c_make0 : Ct
 | [.v (.c (.p 0 0)), .v (.c (.k (.int .i64 d))), .v (.c (.k (.string s))), .v (.agg cx)], [.up ⟨84, 81, 3, 9⟩ q1 q2 mb nx L], Q => (match (noTy).of cx with
  | some (x, []) => ∃ Y : UpY, (q1 = Y.q1 ∧ q2 = Y.q2 ∧ nx = Y.nx ∧ RepY L Y) ∧ (Y.Ok) ∧ ∀ o, UpIs ⟨84, 81, 3, 9⟩ (Y.makeY d s x) o → Q (.tup [.c (.k (.int .i64 (Y.makeR d s x))), .c (.k (.int .i64 (Y.makeE d s x)))]) [o]
  | _ => False)
 | _, _, _ => False
noncomputable def XU626 : Vx := { P := Tryz.prog, ct := (25, c_xattrs) :: XU525.ct, ty := tyTab, hold := [] }
theorem XU626_ok : CtOk Inv Tryz.prog XU626.ct := CtOk.cons w_xattrs (XU525_ok)
def vc_make0 : (Int) → (ByteArray) → ((noTy).den) → (Int) → (Int) → (Nat) → (Int) → (List (Int × LNode)) → (SV → List HO → Prop) → Prop :=
 fun d s x q1 q2 mb nx L Q => inK .i64 d → ByteArray.size s ≤ 9223372036854775807 → List.length x.1 ≤ 9223372036854775807 → inK .i64 x.2.1 → inK .i64 x.2.2.1 → inK .i64 x.2.2.2.1.1 → inK .i64 x.2.2.2.1.2.1 → inK .i64 x.2.2.2.1.2.2.1 → 
 List.length x.2.2.2.2.1 ≤ 9223372036854775807 → ByteArray.size x.2.2.2.2.2.1 ≤ 9223372036854775807 → List.length x.2.2.2.2.2.2.1 ≤ 9223372036854775807 → (getK L d = none → inK .i64 1 → Q (.tup [.c (.k (.int .i64 0)), .c (.k (.int .i64 1))]) 
 [.up ⟨84, 81, 3, 9⟩ q1 q2 mb nx L]) ∧ ∀ (m : LNode), getK L d = some m → NodeOk m → br (m.kind == 1) (br (validN s != 0) (inK .i64 (validN s) → br (validN s != 0) (Q (.tup [.c (.k (.int .i64 0)), .c (.k (.int .i64 (validN s)))]) [.up ⟨84, 
 81, 3, 9⟩ q1 q2 mb nx L]) (br (!mayN x) (Q (.tup [.c (.k (.int .i64 0)), .c (.k (.int .i64 1))]) [.up ⟨84, 81, 3, 9⟩ q1 q2 mb nx L]) (List.length x.2.2.2.2.1 ≤ 140737488355328 ∧ List.length x.2.2.2.2.2.2.1 ≤ 1000 ∧ (∀ (y : Ty.den xaTy), 
 List.Mem y x.2.2.2.2.2.2.1 → List.length y.2.1 ≤ 140737488355328) ∧ br (x.2.2.1 == 1) (inK .i64 q1 → inK .i64 q2 → inK .i64 nx → inK .i64 q1 → inK .i64 q2 → inK .i64 nx → inK .i64 (nx + 1) ∧ (inK .i64 q1 → inK .i64 q2 → inK .i64 (nx + 1) → 
 False)) (inK .i64 q1 → inK .i64 q2 → inK .i64 nx → inK .i64 q1 → inK .i64 q2 → inK .i64 nx → inK .i64 (nx + 1) ∧ (inK .i64 q1 → inK .i64 q2 → inK .i64 (nx + 1) → False))))) ((getK m.ents s = none → inK .i64 0 → br (!mayN x) (Q (.tup [.c (.k 
 (.int .i64 0)), .c (.k (.int .i64 1))]) [.up ⟨84, 81, 3, 9⟩ q1 q2 mb nx L]) (List.length x.2.2.2.2.1 ≤ 140737488355328 ∧ List.length x.2.2.2.2.2.2.1 ≤ 1000 ∧ (∀ (y : Ty.den xaTy), List.Mem y x.2.2.2.2.2.2.1 → List.length y.2.1 ≤ 
 140737488355328) ∧ br (x.2.2.1 == 1) (inK .i64 q1 → inK .i64 q2 → inK .i64 nx → inK .i64 q1 → inK .i64 q2 → inK .i64 nx → inK .i64 (nx + 1) ∧ (inK .i64 q1 → inK .i64 q2 → inK .i64 (nx + 1) → ∃ r m_1, getK L r = some m_1 ∧ m_1.blk = m.blk ∧ 
 (NodeOk m_1 → Value.map (some mb) = Value.map (some mb) ∧ getK L nx = none ∧ List.length L < 9223372036854775807 ∧ ∀ (st bk : Nat) (vd vx : Value) (ib : Nat), (↑st : Int) = (↑st : Int) ∧ Value.map (some mb) = Value.map (some mb) ∧ inK .i64 
 nx ∧ getK L nx = none ∧ ∃ r m, getK ((nx, LNode.mk bk x.2.2.1 x.2.2.2.1.1 x.2.2.2.1.2.1 x.2.2.2.1.2.2.1 vd x.2.2.2.2.1 x.2.2.2.2.2.1 vx (List.map xaO x.2.2.2.2.2.2.1) false (Value.map (some ib)) [] d (1 : Int)) :: L) r = some m ∧ m.vi = 
 m_1.vi ∧ m.kind = (1 : Int) ∧ List.length m.ents < 9223372036854775807 ∧ ∀ (st : Nat), (↑st : Int) = (↑st : Int) ∧ ∃ m, getK ((nx, LNode.mk bk x.2.2.1 x.2.2.2.1.1 x.2.2.2.1.2.1 x.2.2.2.1.2.2.1 vd x.2.2.2.2.1 x.2.2.2.2.2.1 vx (List.map xaO 
 x.2.2.2.2.2.2.1) false (Value.map (some ib)) [] d (1 : Int)) :: L) r = some m ∧ m.vi = m_1.vi ∧ ByteArray.size s ≤ 9223372036854775807 ∧ Q (.tup [.c (.k (.int .i64 nx)), .c (.k (.int .i64 0))]) [.up ⟨84, 81, 3, 9⟩ q1 q2 mb (nx + 1) (setK 
 ((nx, LNode.mk bk x.2.2.1 x.2.2.2.1.1 x.2.2.2.1.2.1 x.2.2.2.1.2.2.1 vd x.2.2.2.2.1 x.2.2.2.2.2.1 vx (List.map xaO x.2.2.2.2.2.2.1) false (Value.map (some ib)) [] d (1 : Int)) :: L) r (LNode.mk m.blk m.kind m.mode m.uid m.gid m.vd m.data 
 m.target m.vx m.xattrs m.opq m.vi (putK m.ents s nx) m.up m.links))]))) (inK .i64 q1 → inK .i64 q2 → inK .i64 nx → inK .i64 q1 → inK .i64 q2 → inK .i64 nx → inK .i64 (nx + 1) ∧ (inK .i64 q1 → inK .i64 q2 → inK .i64 (nx + 1) → ∃ r m_1, getK 
 L r = some m_1 ∧ m_1.blk = m.blk ∧ (NodeOk m_1 → Value.map (some mb) = Value.map (some mb) ∧ getK L nx = none ∧ List.length L < 9223372036854775807 ∧ ∀ (st : Nat), x.2.2.1 ≠ 1 ∧ ∀ (bk : Nat) (vd vx : Value), (↑st : Int) = (↑st : Int) ∧ 
 Value.map (some mb) = Value.map (some mb) ∧ inK .i64 nx ∧ getK L nx = none ∧ ∃ r m, getK ((nx, LNode.mk bk x.2.2.1 x.2.2.2.1.1 x.2.2.2.1.2.1 x.2.2.2.1.2.2.1 vd x.2.2.2.2.1 x.2.2.2.2.2.1 vx (List.map xaO x.2.2.2.2.2.2.1) false (Value.map 
 none) [] (0 : Int) (1 : Int)) :: L) r = some m ∧ m.vi = m_1.vi ∧ m.kind = (1 : Int) ∧ List.length m.ents < 9223372036854775807 ∧ ∀ (st : Nat), (↑st : Int) = (↑st : Int) ∧ ∃ m, getK ((nx, LNode.mk bk x.2.2.1 x.2.2.2.1.1 x.2.2.2.1.2.1 
 x.2.2.2.1.2.2.1 vd x.2.2.2.2.1 x.2.2.2.2.2.1 vx (List.map xaO x.2.2.2.2.2.2.1) false (Value.map none) [] (0 : Int) (1 : Int)) :: L) r = some m ∧ m.vi = m_1.vi ∧ ByteArray.size s ≤ 9223372036854775807 ∧ Q (.tup [.c (.k (.int .i64 nx)), .c 
 (.k (.int .i64 0))]) [.up ⟨84, 81, 3, 9⟩ q1 q2 mb (nx + 1) (setK ((nx, LNode.mk bk x.2.2.1 x.2.2.2.1.1 x.2.2.2.1.2.1 x.2.2.2.1.2.2.1 vd x.2.2.2.2.1 x.2.2.2.2.2.1 vx (List.map xaO x.2.2.2.2.2.2.1) false (Value.map none) [] (0 : Int) (1 : 
 Int)) :: L) r (LNode.mk m.blk m.kind m.mode m.uid m.gid m.vd m.data m.target m.vx m.xattrs m.opq m.vi (putK m.ents s nx) m.up m.links))]))))) ∧ ∀ (x : Int), getK m.ents s = some x → inK .i64 21 → Q (.tup [.c (.k (.int .i64 0)), .c (.k (.int 
 .i64 21))]) [.up ⟨84, 81, 3, 9⟩ q1 q2 mb nx L])) (inK .i64 24 → Q (.tup [.c (.k (.int .i64 0)), .c (.k (.int .i64 24))]) [.up ⟨84, 81, 3, 9⟩ q1 q2 mb nx L])
theorem vc_make0_eq (d : Int) (s : ByteArray) (x : (noTy).den) (q1 : Int) (q2 : Int) (mb : Nat) (nx : Int) (L : List (Int × LNode)) (Q : SV → List HO → Prop) : vFun XU626 ⟨[], []⟩ Tryz.f23 [.v (.c (.p 0 0)), .int d, .str s, .v (.agg (Ty.cells noTy x))] [.up ⟨84, 81, 3, 9⟩ q1 q2 mb nx L] Q = vc_make0 d s x q1 q2 mb nx L Q := by kernel_rfl
theorem w_make0 : ∀ args H Q, c_make0 args H Q → Wp Inv Tryz.prog 23 args H Q := by
 intro args H Q h
 unfold c_make0 at h
 split at h
 rotate_left
 ·exact h.elim
 rename_i d s cx q1 q2 mb nx L
 split at h
 rotate_left
 ·exact h.elim
 rename_i x hx
 refine Wp.said (args' := [.v (.c (.p 0 0)), .int d, .str s, .v (.agg (Ty.cells noTy x))]) (fun E g => RelVs.cons1 (fun _ h => h) (RelVs.cons1 (fun _ h => h) (RelVs.cons1 (fun _ h => h) (RelVs.cons1 (of_row hx) (fun _ h => h))))) ?_
 clear hx
 refine Wp.enter (X := XU626) XU626_ok ⟨[], []⟩ (fn := Tryz.f23) (by kernel_rfl) ?_
 have hv := vc_make0_eq d s x q1 q2 mb nx L Q
 rw [show vFun _ _ _ _ _ _ = _ from hv]
 unfold vc_make0
 obtain ⟨Y, ⟨rfl, rfl, rfl, hr⟩, hp, hq⟩ := h
 have w := hp.wf
 have stay : ∀ z, Y.makeE d s x = z → z ≠ 0 → Q (.tup [.c (.k (.int .i64 0)), .c (.k (.int .i64 z))]) [.up ⟨84, 81, 3, 9⟩ Y.q1 Y.q2 mb Y.nx L] := fun z e hz => by
  have hY : Y.makeY d s x = Y := if_neg (by rw [e]; exact hz)
  have hR : Y.makeR d s x = 0 := if_neg (by rw [e]; exact hz)
  rw [hY, hR, e] at hq
  exact hq _ ⟨rfl, rfl, rfl, rfl, hr⟩
 have go : Y.makeE d s x = 0 → ∀ o, UpIs ⟨84, 81, 3, 9⟩ { Y with L := Y.L ++ [Y.newN x], E := Y.E ++ [(d, s, Y.nx, ())], nx := Y.nx + 1 } o → Q (.tup [.c (.k (.int .i64 Y.nx)), .c (.k (.int .i64 0))]) [o] := fun e o ho => by
  have hY : Y.makeY d s x = { Y with L := Y.L ++ [Y.newN x], E := Y.E ++ [(d, s, Y.nx, ())], nx := Y.nx + 1 } := if_pos e
  have hR : Y.makeR d s x = Y.nx := if_pos e
  rw [hY, hR, e] at hq
  exact hq o ho
 intro _ hs _ _ _ _ _ _ _ _ _
 rcases hr.both d with ⟨hn, hy⟩ | ⟨m, y, hg, hy, hN⟩
 ·refine ⟨fun _ _ => stay 1 ?_ (by decide), fun m hg => ?_⟩
  ·unfold UpY.makeE
   rw [freshE_no (by rw [dirE_none hy]; decide), dirE_none hy]; rfl
  ·rw [hn] at hg; cases hg
 ·have hg2 := ent_get w hN s
  have hlen := hr.len w
  have hnb := hp.nb
  have hnp := nx_pos w
  have hen := hp.en
  have hel := ents_len hN
  have hcp : Y.E.countP (ofD d) ≤ Y.E.length := List.countP_le_length
  refine ⟨no_some hg, only hg fun _ => br_of (fun h1 => br_of (fun h2 => fun _ => br_of (fun h3 => stay _ ?_ ?_) (fun h3 => ?_)) (fun h2 => ⟨fun h0 => fun _ => br_of (fun h3 => stay 1 ?_ (by decide)) (fun h3 => ?_), fun z hz => fun _ => stay 21 ?_ (by decide)⟩)) (fun h1 => fun _ => stay 24 ?_ (by decide))⟩
  all_goals rw [hN.kind] at h1
  ·have hv : validN s ≠ 0 := by simpa using h2
   have hf := freshE_bad (s := s) hy (eq_of_beq h1) hv
   unfold UpY.makeE
   rw [hf, if_neg hv]
  ·simpa using h2
  ·rw [h2] at h3; cases h3
  ·have hv : validN s = 0 := by simpa using h2
   rw [hg2, Option.map_eq_none_iff] at h0
   have hf := freshE_some (s := s) hy (eq_of_beq h1) hv
   rw [h0] at hf
   unfold UpY.makeE
   rw [hf, if_pos rfl, if_neg (by simpa using h3)]
  ·have hv : validN s = 0 := by simpa using h2
   have hm : mayN x = true := by simpa using h3
   have hent := h0
   rw [hg2, Option.map_eq_none_iff] at h0
   have hf := freshE_some (s := s) hy (eq_of_beq h1) hv
   rw [h0] at hf
   have e0 : Y.makeE d s x = 0 := by
    unfold UpY.makeE
    rw [hf, if_pos rfl, if_pos hm]
   have hl := mayN_lens hm
   have ha := mayN_xattrs hm
   have hdn : Y.nx ≠ d := fun e => by rw [← e, nx_none w] at hy; cases hy
   have hmk : m.kind = 1 := by rw [hN.kind]; exact eq_of_beq h1
   refine ⟨by omega, by omega, fun y hy => Nat.le_trans (ha y hy).1 (by omega), br_of (fun h4 => ?_) (fun h4 => ?_)⟩
   ·intro _ _ _ _ _ _
    refine ⟨by unfold inK; omega, fun _ _ _ => ⟨_, m, hg, rfl, fun _ => ⟨rfl, hr.nx_no w, by omega, fun st bk vd vx ib => ⟨rfl, rfl, by unfold inK; omega, hr.nx_no w, d, m, getK_cons_ne' hdn hg, rfl, hmk, by omega, fun st2 => ⟨rfl, m, getK_cons_ne' hdn hg, rfl, hs, go e0 _ ⟨rfl, rfl, rfl, rfl, hr.make w hg hy hN hent ⟨rfl, rfl, rfl, rfl, rfl, rfl, xaO_xaT _, rfl, rfl, rfl, fun _ => rfl⟩⟩⟩⟩⟩⟩⟩
   ·intro _ _ _ _ _ _
    have hx1 : ¬ x.2.2.1 = 1 := by simpa using h4
    refine ⟨by unfold inK; omega, fun _ _ _ => ⟨_, m, hg, rfl, fun _ => ⟨rfl, hr.nx_no w, by omega, fun st => ⟨hx1, fun bk vd vx => ⟨rfl, rfl, by unfold inK; omega, hr.nx_no w, d, m, getK_cons_ne' hdn hg, rfl, hmk, by omega, fun st2 => ⟨rfl, m, getK_cons_ne' hdn hg, rfl, hs, go e0 _ ⟨rfl, rfl, rfl, rfl, hr.make w hg hy hN hent ⟨rfl, rfl, rfl, rfl, rfl, rfl, xaO_xaT _, rfl, rfl, rfl, fun h => absurd h hx1⟩⟩⟩⟩⟩⟩⟩⟩
  ·have hv : validN s = 0 := by simpa using h2
   rw [hg2] at hz
   obtain ⟨e, he, _⟩ := Option.map_eq_some_iff.1 hz
   have hf := freshE_some (s := s) hy (eq_of_beq h1) hv
   rw [he] at hf
   unfold UpY.makeE
   rw [hf]; rfl
  ·have h1 : ¬ y.2.2.1 = 1 := by simpa using h1
   have hd : Y.dirE d = 24 := by rw [dirE_some hy, if_neg h1]
   unfold UpY.makeE
   rw [freshE_no (by rw [hd]; decide), hd]; rfl
def c_make : Ct
 | [.v (.c (.p 0 0)), .v (.c (.k (.int .i64 d))), .v (.c (.k (.string s))), .v (.agg cx)], [.ab (.upr ⟨84, 81, 3, 9⟩ Y)], Q => (match (noTy).of cx with
  | some (x, []) => (Y.Ok) ∧ Q (.tup [.c (.k (.int .i64 (Y.makeR d s x))), .c (.k (.int .i64 (Y.makeE d s x)))]) [.ab (.upr ⟨84, 81, 3, 9⟩ (Y.makeY d s x))]
  | _ => False)
 | _, _, _ => False
theorem w_make : ∀ args H Q, c_make args H Q → Wp Inv Tryz.prog 23 args H Q := by
 intro args H Q h
 unfold c_make at h
 split at h
 ·rename_i d s cx Y
  split at h
  ·rename_i x hx
   refine Wp.uprO fun mb L hr => w_make0 _ _ _ ?_
   unfold c_make0
   simp only [hx]
   exact ⟨Y, ⟨rfl, rfl, rfl, hr⟩, h.1, fun o ho => ⟨o, _, _, rfl, ho, h.2⟩⟩
  ·exact h.elim
 ·exact h.elim
def c_link0 : Ct
 | [.v (.c (.p 0 0)), .v (.c (.k (.int .i64 d))), .v (.c (.k (.string s))), .v (.c (.k (.int .i64 r)))], [.up ⟨84, 81, 3, 9⟩ q1 q2 mb nx L], Q => ∃ Y : UpY, (q1 = Y.q1 ∧ q2 = Y.q2 ∧ nx = Y.nx ∧ RepY L Y) ∧ (Y.Ok) ∧ ∀ o, UpIs ⟨84, 81, 3, 9⟩ (Y.linkY d s r) o → Q (.c (.k (.int .i64 (Y.linkE d s r)))) [o]
 | _, _, _ => False
noncomputable def XU627 : Vx := { P := Tryz.prog, ct := (23, c_make) :: XU626.ct, ty := tyTab, hold := [] }
theorem XU627_ok : CtOk Inv Tryz.prog XU627.ct := CtOk.cons w_make (XU626_ok)
def vc_link0 : (Int) → (ByteArray) → (Int) → (Int) → (Int) → (Nat) → (Int) → (List (Int × LNode)) → (SV → List HO → Prop) → Prop :=
 fun d s r q1 q2 mb nx L Q => inK .i64 d → ByteArray.size s ≤ 9223372036854775807 → inK .i64 r → (getK L r = none → inK .i64 1 → (getK L d = none → inK .i64 1 → Q (.v (.c (.k (.int .i64 1)))) [.up ⟨84, 81, 3, 9⟩ q1 q2 mb nx L]) ∧ ∀ (m : 
 LNode), getK L d = some m → NodeOk m → inK .i64 0 → Q (.v (.c (.k (.int .i64 1)))) [.up ⟨84, 81, 3, 9⟩ q1 q2 mb nx L]) ∧ ∀ (m : LNode), getK L r = some m → NodeOk m → inK .i64 0 → (getK L d = none → inK .i64 1 → Q (.v (.c (.k (.int .i64 
 1)))) [.up ⟨84, 81, 3, 9⟩ q1 q2 mb nx L]) ∧ ∀ (m_1 : LNode), getK L d = some m_1 → NodeOk m_1 → inK .i64 0 → (getK L d = none → inK .i64 1 → Q (.v (.c (.k (.int .i64 1)))) [.up ⟨84, 81, 3, 9⟩ q1 q2 mb nx L]) ∧ ∀ (m_2 : LNode), getK L d = 
 some m_2 → NodeOk m_2 → br (m_2.kind == 1) (br (validN s != 0) (inK .i64 (validN s) → br (validN s != 0) (Q (.v (.c (.k (.int .i64 (validN s))))) [.up ⟨84, 81, 3, 9⟩ q1 q2 mb nx L]) (∃ r m_3, getK L r = some m_3 ∧ m_3.blk = m.blk ∧ (NodeOk 
 m_3 → br (m_3.kind == 1) (Q (.v (.c (.k (.int .i64 25)))) [.up ⟨84, 81, 3, 9⟩ q1 q2 mb nx L]) False))) ((getK m_2.ents s = none → inK .i64 0 → ∃ r_1 m_3, getK L r_1 = some m_3 ∧ m_3.blk = m.blk ∧ (NodeOk m_3 → br (m_3.kind == 1) (Q (.v (.c 
 (.k (.int .i64 25)))) [.up ⟨84, 81, 3, 9⟩ q1 q2 mb nx L]) (∃ r_2 m_4, getK L r_2 = some m_4 ∧ m_4.blk = m_2.blk ∧ (NodeOk m_4 → ∃ r_3 m_5, getK L r_3 = some m_5 ∧ m_5.vi = m_4.vi ∧ m_5.kind = (1 : Int) ∧ List.length m_5.ents < 
 9223372036854775807 ∧ ∃ r_4 m_6, getK (setK L r_3 (LNode.mk m_5.blk m_5.kind m_5.mode m_5.uid m_5.gid m_5.vd m_5.data m_5.target m_5.vx m_5.xattrs m_5.opq m_5.vi (putK m_5.ents s r) m_5.up m_5.links)) r_4 = some m_6 ∧ m_6.blk = m.blk ∧ 
 (NodeOk m_6 → inK .i64 (m_6.links + 1) ∧ ∃ r_5 m_7, getK (setK L r_3 (LNode.mk m_5.blk m_5.kind m_5.mode m_5.uid m_5.gid m_5.vd m_5.data m_5.target m_5.vx m_5.xattrs m_5.opq m_5.vi (putK m_5.ents s r) m_5.up m_5.links)) r_5 = some m_7 ∧ 
 m_7.blk = m.blk ∧ Q (.v (.c (.k (.int .i64 0)))) [.up ⟨84, 81, 3, 9⟩ q1 q2 mb nx (setK (setK L r_3 (LNode.mk m_5.blk m_5.kind m_5.mode m_5.uid m_5.gid m_5.vd m_5.data m_5.target m_5.vx m_5.xattrs m_5.opq m_5.vi (putK m_5.ents s r) m_5.up 
 m_5.links)) r_5 (LNode.mk m_7.blk m_7.kind m_7.mode m_7.uid m_7.gid m_7.vd m_7.data m_7.target m_7.vx m_7.xattrs m_7.opq m_7.vi m_7.ents m_7.up (m_6.links + 1)))]))))) ∧ ∀ (x : Int), getK m_2.ents s = some x → inK .i64 21 → Q (.v (.c (.k 
 (.int .i64 21)))) [.up ⟨84, 81, 3, 9⟩ q1 q2 mb nx L])) (inK .i64 24 → Q (.v (.c (.k (.int .i64 24)))) [.up ⟨84, 81, 3, 9⟩ q1 q2 mb nx L])
theorem vc_link0_eq (d : Int) (s : ByteArray) (r : Int) (q1 : Int) (q2 : Int) (mb : Nat) (nx : Int) (L : List (Int × LNode)) (Q : SV → List HO → Prop) : vFun XU627 ⟨[], []⟩ Tryz.f32 [.v (.c (.p 0 0)), .int d, .str s, .int r] [.up ⟨84, 81, 3, 9⟩ q1 q2 mb nx L] Q = vc_link0 d s r q1 q2 mb nx L Q := by kernel_rfl
theorem w_link0 : ∀ args H Q, c_link0 args H Q → Wp Inv Tryz.prog 32 args H Q := by
 intro args H Q h
 unfold c_link0 at h
 split at h
 rotate_left
 ·exact h.elim
 rename_i d s r q1 q2 mb nx L
 refine Wp.enter (X := XU627) XU627_ok ⟨[], []⟩ (fn := Tryz.f32) (by kernel_rfl) ?_
 have hv := vc_link0_eq d s r q1 q2 mb nx L Q
 rw [show vFun _ _ _ _ _ _ = _ from hv]
 unfold vc_link0
 obtain ⟨Y, ⟨rfl, rfl, rfl, hr⟩, hp, hq⟩ := h
 have stay : ∀ zz : Int, Y.linkE d s r = zz → zz ≠ 0 → Q (.int zz) [.up ⟨84, 81, 3, 9⟩ Y.q1 Y.q2 mb Y.nx L] := fun zz e hx => by
  have hY : Y.linkY d s r = Y := if_neg (by rw [e]; exact hx)
  rw [hY, e] at hq
  exact hq _ ⟨rfl, rfl, rfl, rfl, hr⟩
 have go : Y.linkE d s r = 0 → ∀ o, UpIs ⟨84, 81, 3, 9⟩ ({ Y with E := Y.E ++ [(d, s, r, ())] }) o → Q (.int 0) [o] := fun e o ho => by
  have hY : Y.linkY d s r = ({ Y with E := Y.E ++ [(d, s, r, ())] }) := if_pos e
  rw [hY, e] at hq
  exact hq o ho
 
 have w := hp.wf
 intro _ hs _
 rcases hr.both r with ⟨hn, hyr⟩ | ⟨n, yr, hgr, hyr, hNr⟩
 ·have e1 : Y.linkE d s r = 1 := by unfold UpY.linkE; rw [hyr]
  refine ⟨fun _ _ => ⟨fun _ _ => stay 1 e1 (by decide), fun _ _ _ _ => stay 1 e1 (by decide)⟩, fun m hg => ?_⟩
  rw [hn] at hg; cases hg
 refine ⟨no_some hgr, only hgr fun _ _ => ?_⟩
 rcases hr.both d with ⟨hn, hy⟩ | ⟨m, y, hg, hy, hN⟩
 ·have e1 : Y.linkE d s r = 1 := by unfold UpY.linkE; rw [hyr, hy]
  refine ⟨fun _ _ => stay 1 e1 (by decide), fun m hg => ?_⟩
  rw [hn] at hg; cases hg
 have hlk : Y.linkE d s r = if Y.freshE d s = 0 then (if yr.2.2.1 = 1 then 25 else 0) else Y.freshE d s := by unfold UpY.linkE; rw [hyr, hy]
 have hg2 := ent_get w hN s
 have hen := hp.en
 have hel := ents_len hN
 have hcp : Y.E.countP (ofD d) ≤ Y.E.length := List.countP_le_length
 have hcp2 : Y.E.countP (toR r) ≤ Y.E.length := List.countP_le_length
 refine ⟨no_some hg, only hg fun _ _ => ⟨no_some hg, only hg fun _ => br_of (fun h1 => br_of (fun h2 => fun _ => br_of (fun h3 => stay _ ?_ ?_) (fun h3 => ?_)) (fun h2 => ⟨fun h0 => fun _ => ⟨_, n, hgr, rfl, fun _ => br_of (fun h3 => stay 25 ?_ (by decide)) (fun h3 => ?_)⟩, fun z hz => fun _ => stay 21 ?_ (by decide)⟩)) (fun h1 => fun _ => stay 24 ?_ (by decide))⟩⟩
 all_goals rw [hN.kind] at h1
 ·have hv : validN s ≠ 0 := by simpa using h2
  rw [hlk, freshE_bad (s := s) hy (eq_of_beq h1) hv, if_neg hv]
 ·simpa using h2
 ·rw [h2] at h3; cases h3
 ·have hv : validN s = 0 := by simpa using h2
  rw [hg2, Option.map_eq_none_iff] at h0
  have hf := freshE_some (s := s) hy (eq_of_beq h1) hv
  rw [h0] at hf
  rw [hNr.kind] at h3
  rw [hlk, hf, if_pos rfl, if_pos (eq_of_beq h3)]
 ·have hv : validN s = 0 := by simpa using h2
  have hent := h0
  rw [hg2, Option.map_eq_none_iff] at h0
  have hf := freshE_some (s := s) hy (eq_of_beq h1) hv
  rw [h0] at hf
  have hk3 : ¬ n.kind = 1 := by simpa using h3
  have e0 : Y.linkE d s r = 0 := by rw [hlk, hf, if_pos rfl, if_neg (by rw [← hNr.kind]; exact hk3)]
  have hmk : m.kind = 1 := by rw [hN.kind]; exact eq_of_beq h1
  have hdr : d ≠ r := fun e => by
   subst e
   rw [hg] at hgr
   obtain rfl := Option.some.inj hgr
   exact hk3 hmk
  have hr1 : r ≠ 1 := fun e => by
   subst e
   obtain ⟨y1, hy1, hk1⟩ := dirE_zero.1 w.root
   rw [hyr] at hy1
   obtain rfl := Option.some.inj hy1
   exact hk3 (by rw [hNr.kind]; exact hk1)
  have hg3 : getK (setK L d { m with ents := putK m.ents s r }) r = some n := by rw [getK_setK_other (Ne.symm hdr)]; exact hgr
  refine ⟨_, m, hg, rfl, fun _ => ⟨_, m, hg, rfl, hmk, by omega, _, n, hg3, rfl, fun _ => ⟨?_, _, n, hg3, rfl, go e0 _ ⟨rfl, rfl, rfl, rfl, hr.link hg hy hN hent hgr hyr hNr hk3 hdr hr1⟩⟩⟩⟩
  rw [hNr.links]
  unfold UpY.links inK
  rw [if_neg hr1]
  omega
 ·have hv : validN s = 0 := by simpa using h2
  rw [hg2] at hz
  obtain ⟨e, he, _⟩ := Option.map_eq_some_iff.1 hz
  have hf := freshE_some (s := s) hy (eq_of_beq h1) hv
  rw [he] at hf
  rw [hlk, hf]; rfl
 ·have h1 : ¬ y.2.2.1 = 1 := by simpa using h1
  have hd : Y.dirE d = 24 := by rw [dirE_some hy, if_neg h1]
  rw [hlk, freshE_no (by rw [hd]; decide), hd]; rfl
def c_link : Ct
 | [.v (.c (.p 0 0)), .v (.c (.k (.int .i64 d))), .v (.c (.k (.string s))), .v (.c (.k (.int .i64 r)))], [.ab (.upr ⟨84, 81, 3, 9⟩ Y)], Q => (Y.Ok) ∧ Q (.c (.k (.int .i64 (Y.linkE d s r)))) [.ab (.upr ⟨84, 81, 3, 9⟩ (Y.linkY d s r))]
 | _, _, _ => False
theorem w_link : ∀ args H Q, c_link args H Q → Wp Inv Tryz.prog 32 args H Q := by
 intro args H Q h
 unfold c_link at h
 split at h
 ·rename_i d s r Y
  refine Wp.uprO fun mb L hr => w_link0 _ _ _ ?_
  unfold c_link0
  exact ⟨Y, ⟨rfl, rfl, rfl, hr⟩, h.1, fun o ho => ⟨o, _, _, rfl, ho, h.2⟩⟩
 ·exact h.elim
end Go.Proofs

namespace Go.Proofs
open Go Go.Lm Go.RowKit
set_option maxRecDepth 1000000
def c_move0 : Ct
 | [.v (.c (.p 0 0)), .v (.c (.k (.int .i64 d))), .v (.c (.k (.string s))), .v (.c (.k (.int .i64 to))), .v (.c (.k (.string now)))], [.up ⟨84, 81, 3, 9⟩ q1 q2 mb nx L], Q => ∃ Y : UpY, (q1 = Y.q1 ∧ q2 = Y.q2 ∧ nx = Y.nx ∧ RepY L Y) ∧ (Y.Ok) ∧ ∀ o, UpIs ⟨84, 81, 3, 9⟩ (Y.moveY d s to now) o → Q (.c (.k (.int .i64 (Y.moveE d s to now)))) [o]
 | _, _, _ => False
noncomputable def XU728 : Vx := { P := Tryz.prog, ct := (32, c_link) :: XU627.ct, ty := tyTab, hold := [] }
theorem XU728_ok : CtOk Inv Tryz.prog XU728.ct := CtOk.cons w_link (XU627_ok)
def vc_move0 : (Int) → (ByteArray) → (Int) → (ByteArray) → (Int) → (Int) → (Nat) → (Int) → (List (Int × LNode)) → (SV → List HO → Prop) → Prop :=
 fun d s to now q1 q2 mb nx L Q => inK .i64 d → ByteArray.size s ≤ 9223372036854775807 → inK .i64 to → ByteArray.size now ≤ 9223372036854775807 → (getK L to = none → inK .i64 1 → Q (.v (.c (.k (.int .i64 1)))) [.up ⟨84, 81, 3, 9⟩ q1 q2 mb nx 
 L]) ∧ ∀ (m : LNode), getK L to = some m → NodeOk m → inK .i64 0 → (getK L d = none → inK .i64 1 → Q (.v (.c (.k (.int .i64 1)))) [.up ⟨84, 81, 3, 9⟩ q1 q2 mb nx L]) ∧ ∀ (m : LNode), getK L d = some m → NodeOk m → br (m.kind == 1) (inK .i64 
 0 → (getK L to = none → inK .i64 1 → Q (.v (.c (.k (.int .i64 1)))) [.up ⟨84, 81, 3, 9⟩ q1 q2 mb nx L]) ∧ ∀ (m_1 : LNode), getK L to = some m_1 → NodeOk m_1 → br (m_1.kind == 1) (inK .i64 0 → ∃ r m_2, getK L r = some m_2 ∧ m_2.blk = m.blk ∧ 
 (NodeOk m_2 → ∃ r m_3, getK L r = some m_3 ∧ m_3.vi = m_2.vi ∧ (getK m_3.ents s = none → Q (.v (.c (.k (.int .i64 20)))) [.up ⟨84, 81, 3, 9⟩ q1 q2 mb nx L]) ∧ ∀ (x : Int), getK m_3.ents s = some x → inK .i64 x → (getK L to = none → inK .i64 
 1 → Q (.v (.c (.k (.int .i64 1)))) [.up ⟨84, 81, 3, 9⟩ q1 q2 mb nx L]) ∧ ∀ (m_4 : LNode), getK L to = some m_4 → NodeOk m_4 → br (m_4.kind == 1) (br (validN now != 0) (inK .i64 (validN now) → br (validN now != 0) (Q (.v (.c (.k (.int .i64 
 (validN now))))) [.up ⟨84, 81, 3, 9⟩ q1 q2 mb nx L]) (∃ Y, (q1 = Y.q1 ∧ q2 = Y.q2 ∧ nx = Y.nx ∧ RepY L Y) ∧ UpY.Wf Y ∧ UpY.dirE Y to = (0 : Int) ∧ br (UpY.below Y x to) (Q (.v (.c (.k (.int .i64 30)))) [.up ⟨84, 81, 3, 9⟩ q1 q2 mb nx L]) (∃ 
 r m_5, getK L r = some m_5 ∧ m_5.blk = m.blk ∧ (NodeOk m_5 → ∃ r m, getK L r = some m ∧ m.vi = m_5.vi ∧ m.kind = (1 : Int) ∧ False)))) ((getK m_4.ents now = none → inK .i64 0 → ∃ Y, (q1 = Y.q1 ∧ q2 = Y.q2 ∧ nx = Y.nx ∧ RepY L Y) ∧ UpY.Wf Y 
 ∧ UpY.dirE Y to = (0 : Int) ∧ br (UpY.below Y x to) (Q (.v (.c (.k (.int .i64 30)))) [.up ⟨84, 81, 3, 9⟩ q1 q2 mb nx L]) (∃ r m_5, getK L r = some m_5 ∧ m_5.blk = m.blk ∧ (NodeOk m_5 → ∃ r m, getK L r = some m ∧ m.vi = m_5.vi ∧ m.kind = (1 
 : Int) ∧ ∃ r_1 m_6, getK (setK L r (LNode.mk m.blk m.kind m.mode m.uid m.gid m.vd m.data m.target m.vx m.xattrs m.opq m.vi (delK m.ents s) m.up m.links)) r_1 = some m_6 ∧ m_6.blk = m_4.blk ∧ (NodeOk m_6 → ∃ r_2 m_7, getK (setK L r (LNode.mk 
 m.blk m.kind m.mode m.uid m.gid m.vd m.data m.target m.vx m.xattrs m.opq m.vi (delK m.ents s) m.up m.links)) r_2 = some m_7 ∧ m_7.vi = m_6.vi ∧ m_7.kind = (1 : Int) ∧ List.length m_7.ents < 9223372036854775807 ∧ (inK .i64 q1 → inK .i64 q2 → 
 inK .i64 nx → Value.map (some mb) = Value.map (some mb) ∧ (getK (setK (setK L r (LNode.mk m.blk m.kind m.mode m.uid m.gid m.vd m.data m.target m.vx m.xattrs m.opq m.vi (delK m.ents s) m.up m.links)) r_2 (LNode.mk m_7.blk m_7.kind m_7.mode 
 m_7.uid m_7.gid m_7.vd m_7.data m_7.target m_7.vx m_7.xattrs m_7.opq m_7.vi (putK m_7.ents now x) m_7.up m_7.links)) x = none → False) ∧ ∀ (m_8 : LNode), getK (setK (setK L r (LNode.mk m.blk m.kind m.mode m.uid m.gid m.vd m.data m.target 
 m.vx m.xattrs m.opq m.vi (delK m.ents s) m.up m.links)) r_2 (LNode.mk m_7.blk m_7.kind m_7.mode m_7.uid m_7.gid m_7.vd m_7.data m_7.target m_7.vx m_7.xattrs m_7.opq m_7.vi (putK m_7.ents now x) m_7.up m_7.links)) x = some m_8 → NodeOk m_8 → 
 ∃ r_3 m_9, getK (setK (setK L r (LNode.mk m.blk m.kind m.mode m.uid m.gid m.vd m.data m.target m.vx m.xattrs m.opq m.vi (delK m.ents s) m.up m.links)) r_2 (LNode.mk m_7.blk m_7.kind m_7.mode m_7.uid m_7.gid m_7.vd m_7.data m_7.target m_7.vx 
 m_7.xattrs m_7.opq m_7.vi (putK m_7.ents now x) m_7.up m_7.links)) r_3 = some m_9 ∧ m_9.blk = m_8.blk ∧ (NodeOk m_9 → br (m_9.kind == 1) (∃ r_4 m_10, getK (setK (setK L r (LNode.mk m.blk m.kind m.mode m.uid m.gid m.vd m.data m.target m.vx 
 m.xattrs m.opq m.vi (delK m.ents s) m.up m.links)) r_2 (LNode.mk m_7.blk m_7.kind m_7.mode m_7.uid m_7.gid m_7.vd m_7.data m_7.target m_7.vx m_7.xattrs m_7.opq m_7.vi (putK m_7.ents now x) m_7.up m_7.links)) r_4 = some m_10 ∧ m_10.blk = 
 m_8.blk ∧ Q (.v (.c (.k (.int .i64 0)))) [.up ⟨84, 81, 3, 9⟩ q1 q2 mb nx (setK (setK (setK L r (LNode.mk m.blk m.kind m.mode m.uid m.gid m.vd m.data m.target m.vx m.xattrs m.opq m.vi (delK m.ents s) m.up m.links)) r_2 (LNode.mk m_7.blk 
 m_7.kind m_7.mode m_7.uid m_7.gid m_7.vd m_7.data m_7.target m_7.vx m_7.xattrs m_7.opq m_7.vi (putK m_7.ents now x) m_7.up m_7.links)) r_4 (LNode.mk m_10.blk m_10.kind m_10.mode m_10.uid m_10.gid m_10.vd m_10.data m_10.target m_10.vx 
 m_10.xattrs m_10.opq m_10.vi m_10.ents to m_10.links))]) (Q (.v (.c (.k (.int .i64 0)))) [.up ⟨84, 81, 3, 9⟩ q1 q2 mb nx (setK (setK L r (LNode.mk m.blk m.kind m.mode m.uid m.gid m.vd m.data m.target m.vx m.xattrs m.opq m.vi (delK m.ents s) 
 m.up m.links)) r_2 (LNode.mk m_7.blk m_7.kind m_7.mode m_7.uid m_7.gid m_7.vd m_7.data m_7.target m_7.vx m_7.xattrs m_7.opq m_7.vi (putK m_7.ents now x) m_7.up m_7.links))]))))))) ∧ ∀ (x : Int), getK m_4.ents now = some x → inK .i64 21 → Q 
 (.v (.c (.k (.int .i64 21)))) [.up ⟨84, 81, 3, 9⟩ q1 q2 mb nx L])) (inK .i64 24 → Q (.v (.c (.k (.int .i64 24)))) [.up ⟨84, 81, 3, 9⟩ q1 q2 mb nx L]))) (inK .i64 24 → Q (.v (.c (.k (.int .i64 24)))) [.up ⟨84, 81, 3, 9⟩ q1 q2 mb nx L])) (inK 
 .i64 24 → Q (.v (.c (.k (.int .i64 24)))) [.up ⟨84, 81, 3, 9⟩ q1 q2 mb nx L])
theorem vc_move0_eq (d : Int) (s : ByteArray) (to : Int) (now : ByteArray) (q1 : Int) (q2 : Int) (mb : Nat) (nx : Int) (L : List (Int × LNode)) (Q : SV → List HO → Prop) : vFun XU728 ⟨[], []⟩ Tryz.f38 [.v (.c (.p 0 0)), .int d, .str s, .int to, .str now] [.up ⟨84, 81, 3, 9⟩ q1 q2 mb nx L] Q = vc_move0 d s to now q1 q2 mb nx L Q := by kernel_rfl
theorem w_move0 : ∀ args H Q, c_move0 args H Q → Wp Inv Tryz.prog 38 args H Q := by
 intro args H Q h
 unfold c_move0 at h
 split at h
 rotate_left
 ·exact h.elim
 rename_i d s to now q1 q2 mb nx L
 refine Wp.enter (X := XU728) XU728_ok ⟨[], []⟩ (fn := Tryz.f38) (by kernel_rfl) ?_
 have hv := vc_move0_eq d s to now q1 q2 mb nx L Q
 rw [show vFun _ _ _ _ _ _ = _ from hv]
 unfold vc_move0
 obtain ⟨Y, ⟨rfl, rfl, rfl, hr⟩, hp, hq⟩ := h
 have w := hp.wf
 have stay : ∀ z : Int, Y.moveE d s to now = z → z ≠ 0 → Q (.int z) [.up ⟨84, 81, 3, 9⟩ Y.q1 Y.q2 mb Y.nx L] := fun z e hz => by
  have hY : Y.moveY d s to now = Y := if_neg (by rw [e]; exact hz)
  rw [hY, e] at hq
  exact hq _ ⟨rfl, rfl, rfl, rfl, hr⟩
 intro _ hs _ hnow
 rcases hr.both to with ⟨hn, hyt⟩ | ⟨t, yt, hgt, hyt, hNt⟩
 ·refine ⟨fun _ _ => stay 1 ?_ (by decide), fun m hg => ?_⟩
  ·simp only [UpY.moveE, UpY.atE, hyt]; rfl
  ·rw [hn] at hg; cases hg
 have hat : Y.atE to = 0 := by simp only [UpY.atE, hyt]
 refine ⟨no_some hgt, only hgt fun _ _ => ?_⟩
 rcases hr.both d with ⟨hn, hy⟩ | ⟨m, y, hg, hy, hN⟩
 ·refine ⟨fun _ _ => stay 1 ?_ (by decide), fun m hg => ?_⟩
  ·simp only [UpY.moveE, hat, dirE_none hy]; rfl
  ·rw [hn] at hg; cases hg
 refine ⟨no_some hg, only hg fun _ => br_of (fun h1 => fun _ => ⟨no_some hgt, only hgt fun _ => br_of (fun h2 => fun _ => ?_) (fun h2 => fun _ => stay 24 ?_ (by decide))⟩) (fun h1 => fun _ => stay 24 ?_ (by decide))⟩
 rotate_left
 ·have h1 : y.2.2.1 = 1 := by rw [← hN.kind]; exact eq_of_beq h1
  have h2 : ¬ yt.2.2.1 = 1 := by rw [← hNt.kind]; simpa using h2
  simp only [UpY.moveE, hat, dirE_some hy, h1, dirE_some hyt, h2]; rfl
 ·have h1 : ¬ y.2.2.1 = 1 := by rw [← hN.kind]; simpa using h1
  simp only [UpY.moveE, hat, dirE_some hy, h1]; rfl
 have k1 : y.2.2.1 = 1 := by rw [← hN.kind]; exact eq_of_beq h1
 have k2 : yt.2.2.1 = 1 := by rw [← hNt.kind]; exact eq_of_beq h2
 have hd : Y.dirE d = 0 := by rw [dirE_some hy, if_pos k1]
 have hdt : Y.dirE to = 0 := by rw [dirE_some hyt, if_pos k2]
 have hmv : Y.moveE d s to now = match Y.ent d s with
   | none => 20
   | some e => if Y.freshE to now ≠ 0 then Y.freshE to now else if Y.below e.2.2.1 to then 30 else 0 := by
  unfold UpY.moveE
  rw [if_neg (by rw [hat]; decide), if_neg (by rw [hd]; decide), if_neg (by rw [hdt]; decide)]
  cases Y.ent d s <;> rfl
 have hg2 := ent_get w hN s
 have hg3 := ent_get w hNt now
 have hen := hp.en
 have hel := ents_len hNt
 have hcp : Y.E.countP (ofD to) ≤ Y.E.length := List.countP_le_length
 refine ⟨_, m, hg, rfl, fun _ => ⟨_, m, hg, rfl, fun h0 => stay 20 ?_ (by decide), fun x hx _ => ⟨no_some hgt, only hgt fun _ => br_of (fun _ => br_of (fun h3 => fun _ => br_of (fun h4 => stay _ ?_ ?_) (fun h4 => ?_)) (fun h3 => ⟨fun h0 => fun _ => ?_, fun z hz => fun _ => stay 21 ?_ (by decide)⟩)) (fun h3 => ?_)⟩⟩⟩
 ·rw [hg2, Option.map_eq_none_iff] at h0
  rw [hmv, h0]
 ·have hv : validN now ≠ 0 := by simpa using h3
  rw [hg2] at hx
  obtain ⟨e, he, rfl⟩ := Option.map_eq_some_iff.1 hx
  rw [hmv, he, freshE_bad (s := now) hyt k2 hv]
  simp only [if_pos hv]
 ·simpa using h3
 ·rw [h3] at h4; cases h4
 ·have hv : validN now = 0 := by simpa using h3
  rw [hg2] at hx
  obtain ⟨e, he, rfl⟩ := Option.map_eq_some_iff.1 hx
  have hent := h0
  rw [hg3, Option.map_eq_none_iff] at h0
  have hf := freshE_some (s := now) hyt k2 hv
  rw [h0] at hf
  rw [he] at hmv
  simp only [hf, ne_eq, not_true_eq_false, if_false] at hmv
  refine ⟨Y, ⟨rfl, rfl, rfl, hr⟩, w, hdt, br_of (fun h4 => stay 30 ?_ (by decide)) (fun h4 => ?_)⟩
  ·rw [hmv, if_pos h4]
  ·have e0 : Y.moveE d s to now = 0 := by rw [hmv, if_neg (by rw [h4]; decide)]
   have go : ∀ o, UpIs ⟨84, 81, 3, 9⟩ { Y with E := (Y.E.filter fun e => !isE d s e) ++ [(to, now, e.2.2.1, ())] } o → Q (.int 0) [o] := fun o ho => by
    have hY : Y.moveY d s to now = { Y with E := (Y.E.filter fun e => !isE d s e) ++ [(to, now, e.2.2.1, ())] } := by
     unfold UpY.moveY
     rw [if_pos e0, he]
    rw [hY, e0] at hq
    exact hq o ho
   obtain ⟨he1, he2, _⟩ := ent_mem he
   obtain ⟨yx, hyx⟩ := at_ref w he1
   obtain ⟨n, hgn, hNn⟩ := hr.get hyx
   have hx2 : e.2.2.1 ≠ to := fun q => by
    rw [q, below_here] at h4; cases h4
   have hx1 : e.2.2.1 ≠ d := fun q => by
    obtain ⟨dp, hdp⟩ := w.dep
    have := hdp e he1 (by rw [q]; exact hd)
    rw [he2, q] at this
    exact Nat.lt_irrefl _ this
   obtain ⟨m6, a1, a2, a3, a4, a5, a6⟩ := hr.moved w he hg hgt hgn hent hx1 hx2
   refine ⟨_, m, hg, rfl, fun _ => ⟨_, m, hg, rfl, by rw [hN.kind]; exact k1, _, m6, a1, a2, fun _ => ⟨_, m6, a1, rfl, by rw [a3, hNt.kind]; exact k2, by omega, fun _ _ _ => ⟨rfl, fun h => (by rw [a5] at h; cases h), only a5 fun _ => ⟨_, n, a5, rfl, fun _ => br_of (fun h5 => ⟨_, n, a5, rfl, go _ ⟨rfl, rfl, rfl, rfl, ?_⟩⟩) (fun h5 => go _ ⟨rfl, rfl, rfl, rfl, ?_⟩)⟩⟩⟩⟩⟩
   ·rw [if_pos (eq_of_beq h5)] at a6; exact a6
   ·rw [if_neg (by simpa using h5)] at a6; exact a6
 ·have hv : validN now = 0 := by simpa using h3
  rw [hg2] at hx
  obtain ⟨e, he, rfl⟩ := Option.map_eq_some_iff.1 hx
  rw [hg3] at hz
  obtain ⟨e2, he2, _⟩ := Option.map_eq_some_iff.1 hz
  have hf := freshE_some (s := now) hyt k2 hv
  rw [he2] at hf
  rw [hmv, he]
  simp only [hf]
  rfl
 ·rw [h2] at h3; cases h3
def c_move : Ct
 | [.v (.c (.p 0 0)), .v (.c (.k (.int .i64 d))), .v (.c (.k (.string s))), .v (.c (.k (.int .i64 to))), .v (.c (.k (.string now)))], [.ab (.upr ⟨84, 81, 3, 9⟩ Y)], Q => (Y.Ok) ∧ Q (.c (.k (.int .i64 (Y.moveE d s to now)))) [.ab (.upr ⟨84, 81, 3, 9⟩ (Y.moveY d s to now))]
 | _, _, _ => False
theorem w_move : ∀ args H Q, c_move args H Q → Wp Inv Tryz.prog 38 args H Q := by
 intro args H Q h
 unfold c_move at h
 split at h
 ·rename_i d s to now Y
  refine Wp.uprO fun mb L hr => w_move0 _ _ _ ?_
  unfold c_move0
  exact ⟨Y, ⟨rfl, rfl, rfl, hr⟩, h.1, fun o ho => ⟨o, _, _, rfl, ho, h.2⟩⟩
 ·exact h.elim
end Go.Proofs

namespace Go.Lm
open Go Go.RowKit
def letL (L : List (Int × LNode)) (r : Int) : List (Int × LNode) := match getK L r with
 | none => L
 | some m => if m.links - 1 > 0 then setK L r { m with links := m.links - 1 } else delK L r
def letLs (L : List (Int × LNode)) (xs : List Int) : List (Int × LNode) := xs.foldl letL L
def UpO (T : UTy) (q1 q2 : Int) (mb : Nat) (nx : Int) (L : List (Int × LNode)) (o : HO) : Prop := o = .up T q1 q2 mb nx L ∨ ∃ z hz, o = .ab (.fz T q1 q2 mb nx L z hz)
structure KidsOk (L : List (Int × LNode)) (xs : List Int) : Prop where
 get : ∀ ys x zs, (ys ++ x :: zs).Perm xs → ∃ c, getK (letLs L ys) x = some c ∧ c.ents = [] ∧ inK .i64 (c.links - 1)
structure LetO (L : List (Int × LNode)) (r : Int) (m : LNode) (L' : List (Int × LNode)) : Prop where
 ex : ∃ ys, ys.Perm (m.ents.map (·.2)) ∧ L' = if m.links - 1 > 0 then setK L r { m with links := m.links - 1 } else letLs (delK L r) ys
structure LetPre (L : List (Int × LNode)) (r : Int) (m : LNode) : Prop where
 ok : m.links - 1 > 0 ∨ KidsOk (delK L r) (m.ents.map (·.2))
theorem delK_setK' {α : Type} (l : List (Int × α)) (x : Int) (u : α) : delK (setK l x u) x = delK l x := by
 unfold delK setK
 induction l with
 | nil => rfl
 | cons p l ih =>
  by_cases e : p.1 = x
  ·rw [List.map_cons, if_pos e, List.filter_cons, List.filter_cons]
   simp only [e, decide_true, Bool.not_true, Bool.false_eq_true, if_false]
   exact ih
  ·rw [List.map_cons, if_neg e, List.filter_cons, List.filter_cons]
   simp only [e, decide_false, Bool.not_false, if_true]
   rw [ih]
end Go.Lm

namespace Go.Proofs
open Go Go.Lm Go.RowKit
set_option maxRecDepth 1000000
def c_let0 : Ct
 | [.v (.c (.p 0 0)), .v (.c (.k (.int .i64 r)))], [.up ⟨84, 81, 3, 9⟩ q1 q2 mb nx L], Q => ∃ m, getK L r = some m ∧ m.ents = [] ∧ inK .i64 (m.links - 1) ∧ ∀ o, UpO ⟨84, 81, 3, 9⟩ q1 q2 mb nx (letL L r) o → Q (.tup []) [o]
 | _, _, _ => False
noncomputable def XU829 : Vx := { P := Tryz.prog, ct := (38, c_move) :: XU728.ct, ty := tyTab, hold := [] }
theorem XU829_ok : CtOk Inv Tryz.prog XU829.ct := CtOk.cons w_move (XU728_ok)
def vc_let0 : (Int) → (Int) → (Int) → (Nat) → (Int) → (List (Int × LNode)) → (SV → List HO → Prop) → Prop :=
 fun r q1 q2 mb nx L Q => inK .i64 r → inK .i64 q1 → inK .i64 q2 → inK .i64 nx → Value.map (some mb) = Value.map (some mb) ∧ (getK L r = none → False) ∧ ∀ (m : LNode), getK L r = some m → NodeOk m → ∃ r_1 m_1, getK L r_1 = some m_1 ∧ m_1.blk 
 = m.blk ∧ (NodeOk m_1 → inK .i64 (m_1.links - 1) ∧ ∃ r_2 m_2, getK L r_2 = some m_2 ∧ m_2.blk = m.blk ∧ ∃ r_3 m_3, getK (setK L r_2 (LNode.mk m_2.blk m_2.kind m_2.mode m_2.uid m_2.gid m_2.vd m_2.data m_2.target m_2.vx m_2.xattrs m_2.opq 
 m_2.vi m_2.ents m_2.up (m_1.links - 1))) r_3 = some m_3 ∧ m_3.blk = m.blk ∧ (NodeOk m_3 → br (decide (m_3.links > 0)) (Q (SV.tup []) [.up ⟨84, 81, 3, 9⟩ q1 q2 mb nx (setK L r_2 (LNode.mk m_2.blk m_2.kind m_2.mode m_2.uid m_2.gid m_2.vd 
 m_2.data m_2.target m_2.vx m_2.xattrs m_2.opq m_2.vi m_2.ents m_2.up (m_1.links - 1)))]) (inK .i64 q1 → inK .i64 q2 → inK .i64 nx → ∃ m_4, getK (setK L r_2 (LNode.mk m_2.blk m_2.kind m_2.mode m_2.uid m_2.gid m_2.vd m_2.data m_2.target 
 m_2.vx m_2.xattrs m_2.opq m_2.vi m_2.ents m_2.up (m_1.links - 1))) r = some m_4 ∧ Value.map (some mb) = Value.map (some mb) ∧ ∀ (hz : Hp), ∃ m_5, ((∃ r_4, getK (delK (setK L r_2 (LNode.mk m_2.blk m_2.kind m_2.mode m_2.uid m_2.gid m_2.vd 
 m_2.data m_2.target m_2.vx m_2.xattrs m_2.opq m_2.vi m_2.ents m_2.up (m_1.links - 1))) r) r_4 = some m_5) ∨ some m_4 = some m_5) ∧ m_5.blk = m.blk ∧ (NodeOk m_5 → m_4.vi = m_5.vi ∧ LoopT (PUnit × (Int × Int × Nat × Int × List (Int × LNode) 
 × LNode × Hp) × (Hp × Value × List (ByteArray × Int) × Option (ByteArray × Int)) × PUnit) (fun i again => i.2.1.2.2.2.2.2.2 = i.2.2.1.1 ∧ ∃ M, ((9 : TypeId) = (UTy.mk (84 : TypeId) (81 : TypeId) (3 : TypeId) (9 : TypeId)).kS ∧ ∃ m, 
 i.2.1.2.2.2.2.2.1 = m ∧ m.vi = i.2.2.1.2.1 ∧ m.ents = M) ∧ (i.2.2.1.2.2.1 = [] → Q (SV.tup []) [.ab (.fz ⟨84, 81, 3, 9⟩ i.2.1.1 i.2.1.2.1 i.2.1.2.2.1 i.2.1.2.2.2.1 i.2.1.2.2.2.2.1 (some i.2.1.2.2.2.2.2.1) i.2.1.2.2.2.2.2.2)]) ∧ ∀ (x : 
 Kk.den Kk.str) (y : Kk.uv Kk.str) (left' : List (Kk.den Kk.str × Kk.uv Kk.str)), List.Perm i.2.2.1.2.2.1 ((x, y) :: left') → ByteArray.size x ≤ 9223372036854775807 ∧ inK .i64 y → ∃ M x_1 y_1, i.2.1.2.2.2.2.2.2 = i.2.2.1.1 ∧ ((9 : TypeId) = 
 (UTy.mk (84 : TypeId) (81 : TypeId) (3 : TypeId) (9 : TypeId)).kS ∧ ∃ m, i.2.1.2.2.2.2.2.1 = m ∧ m.vi = i.2.2.1.2.1 ∧ m.ents = M) ∧ some (x, y) = some (x_1, y_1) ∧ (ByteArray.size x_1 ≤ 9223372036854775807 ∧ inK .i64 y_1 → False)) ((), (q1, 
 q2, mb, nx, delK (setK L r_2 (LNode.mk m_2.blk m_2.kind m_2.mode m_2.uid m_2.gid m_2.vd m_2.data m_2.target m_2.vx m_2.xattrs m_2.opq m_2.vi m_2.ents m_2.up (m_1.links - 1))) r, m_4, hz), (hz, m_5.vi, m_4.ents, none), ())))))
theorem vc_let0_eq (r : Int) (q1 : Int) (q2 : Int) (mb : Nat) (nx : Int) (L : List (Int × LNode)) (Q : SV → List HO → Prop) : vFun XU829 ⟨[(6, ⟨[], [(0, .ab (.fzs ⟨84, 81, 3, 9⟩)), (1, .ab (.mit .str 9 0))]⟩)], []⟩ Tryz.f59 [.v (.c (.p 0 0)), .int r] [.up ⟨84, 81, 3, 9⟩ q1 q2 mb nx L] Q = vc_let0 r q1 q2 mb nx L Q := by kernel_rfl
theorem w_let0 : ∀ args H Q, c_let0 args H Q → Wp Inv Tryz.prog 59 args H Q := by
 intro args H Q h
 unfold c_let0 at h
 split at h
 rotate_left
 ·exact h.elim
 rename_i r q1 q2 mb nx L
 refine Wp.enter (X := XU829) XU829_ok ⟨[(6, ⟨[], [(0, .ab (.fzs ⟨84, 81, 3, 9⟩)), (1, .ab (.mit .str 9 0))]⟩)], []⟩ (fn := Tryz.f59) (by kernel_rfl) ?_
 have hv := vc_let0_eq r q1 q2 mb nx L Q
 rw [show vFun _ _ _ _ _ _ = _ from hv]
 unfold vc_let0
 obtain ⟨m, hg, he, hl, hq⟩ := h
 intro _ _ _ _
 refine ⟨rfl, no_some hg, only hg fun _ => ⟨_, m, hg, rfl, fun _ => ⟨hl, _, m, hg, rfl, _, { m with links := m.links - 1 }, getK_setK_self hg, rfl, fun _ => br_of (fun h1 => ?_) (fun h1 => fun _ _ _ => ⟨_, getK_setK_self hg, rfl, fun hz => ⟨_, .inr rfl, rfl, fun _ => ⟨rfl, ?_⟩⟩⟩)⟩⟩⟩
 ·have h1 : m.links - 1 > 0 := by simpa using h1
  refine hq _ (.inl ?_)
  unfold letL; rw [hg]; simp only [h1, if_true]
 ·have h1 : ¬ m.links - 1 > 0 := by simpa using h1
  rw [delK_setK']
  refine LoopP.intro (fun i => i.2.1 = (q1, q2, mb, nx, delK L r, { m with links := m.links - 1 }, hz) ∧ i.2.2.1.1 = hz ∧ i.2.2.1.2.2.1 = [] ∧ i.2.2.1.2.1 = m.vi) (fun _ => 0) ⟨rfl, rfl, he, rfl⟩ ?_
  rintro ⟨_, _, ⟨hz', v, left, cur⟩, _⟩ ⟨rfl, h7, h8, h9⟩
  simp only at h7 h8 h9
  subst h7 h8 h9
  simp only
  refine ⟨trivial, _, ⟨trivial, _, rfl, rfl, rfl⟩, fun _ => hq _ (.inr ⟨some { m with links := m.links - 1 }, hz', ?_⟩), fun x y left' hp => ?_⟩
  ·unfold letL; rw [hg]; simp only [h1, if_false]
  ·have := hp.length_eq; simp at this
def c_letz : Ct
 | [.v (.c (.p 0 0)), .v (.c (.k (.int .i64 r)))], [.ab (.fz ⟨84, 81, 3, 9⟩ q1 q2 mb nx L (some z) hz)], Q => ∃ m, getK L r = some m ∧ m.ents = [] ∧ inK .i64 (m.links - 1) ∧ Q (.tup []) [.ab (.fz ⟨84, 81, 3, 9⟩ q1 q2 mb nx (letL L r) (some z) hz)]
 | _, _, _ => False
theorem w_letz : ∀ args H Q, c_letz args H Q → Wp Inv Tryz.prog 59 args H Q := by
 intro args H Q h
 unfold c_letz at h
 split at h
 ·rename_i r q1 q2 mb nx L z hz
  obtain ⟨m, h1, h2, h3, hq⟩ := h
  refine Wp.zomb (w_let0 _ _ _ ?_)
  unfold c_let0
  refine ⟨m, h1, h2, h3, fun o ho => ⟨o, _, rfl, ho, hq⟩⟩
 ·exact h.elim
def c_let : Ct
 | [.v (.c (.p 0 0)), .v (.c (.k (.int .i64 r)))], [.up ⟨84, 81, 3, 9⟩ q1 q2 mb nx L], Q => ∃ m, getK L r = some m ∧ inK .i64 (m.links - 1) ∧ LetPre L r m ∧ ∀ L2, LetO L r m L2 → Q (.tup []) [.up ⟨84, 81, 3, 9⟩ q1 q2 mb nx L2] ∧ ∀ z hz, Q (.tup []) [.ab (.fz ⟨84, 81, 3, 9⟩ q1 q2 mb nx L2 (some z) hz)]
 | _, _, _ => False
noncomputable def XU830 : Vx := { P := Tryz.prog, ct := (59, c_letz) :: XU829.ct, ty := tyTab, hold := [] }
theorem XU830_ok : CtOk Inv Tryz.prog XU830.ct := CtOk.cons w_letz (XU829_ok)
def vc_let : (Int) → (Int) → (Int) → (Nat) → (Int) → (List (Int × LNode)) → (SV → List HO → Prop) → Prop :=
 fun r q1 q2 mb nx L Q => inK .i64 r → inK .i64 q1 → inK .i64 q2 → inK .i64 nx → Value.map (some mb) = Value.map (some mb) ∧ (getK L r = none → False) ∧ ∀ (m : LNode), getK L r = some m → NodeOk m → ∃ r_1 m_1, getK L r_1 = some m_1 ∧ m_1.blk 
 = m.blk ∧ (NodeOk m_1 → inK .i64 (m_1.links - 1) ∧ ∃ r_2 m_2, getK L r_2 = some m_2 ∧ m_2.blk = m.blk ∧ ∃ r_3 m_3, getK (setK L r_2 (LNode.mk m_2.blk m_2.kind m_2.mode m_2.uid m_2.gid m_2.vd m_2.data m_2.target m_2.vx m_2.xattrs m_2.opq 
 m_2.vi m_2.ents m_2.up (m_1.links - 1))) r_3 = some m_3 ∧ m_3.blk = m.blk ∧ (NodeOk m_3 → br (decide (m_3.links > 0)) (Q (SV.tup []) [.up ⟨84, 81, 3, 9⟩ q1 q2 mb nx (setK L r_2 (LNode.mk m_2.blk m_2.kind m_2.mode m_2.uid m_2.gid m_2.vd 
 m_2.data m_2.target m_2.vx m_2.xattrs m_2.opq m_2.vi m_2.ents m_2.up (m_1.links - 1)))]) (inK .i64 q1 → inK .i64 q2 → inK .i64 nx → ∃ m_4, getK (setK L r_2 (LNode.mk m_2.blk m_2.kind m_2.mode m_2.uid m_2.gid m_2.vd m_2.data m_2.target 
 m_2.vx m_2.xattrs m_2.opq m_2.vi m_2.ents m_2.up (m_1.links - 1))) r = some m_4 ∧ Value.map (some mb) = Value.map (some mb) ∧ ∀ (hz : Hp), ∃ m_5, ((∃ r_4, getK (delK (setK L r_2 (LNode.mk m_2.blk m_2.kind m_2.mode m_2.uid m_2.gid m_2.vd 
 m_2.data m_2.target m_2.vx m_2.xattrs m_2.opq m_2.vi m_2.ents m_2.up (m_1.links - 1))) r) r_4 = some m_5) ∨ some m_4 = some m_5) ∧ m_5.blk = m.blk ∧ (NodeOk m_5 → m_4.vi = m_5.vi ∧ LoopT (PUnit × (Int × Int × Nat × Int × List (Int × LNode) 
 × LNode × Hp) × (Hp × Value × List (ByteArray × Int) × Option (ByteArray × Int)) × PUnit) (fun i again => i.2.1.2.2.2.2.2.2 = i.2.2.1.1 ∧ ∃ M, ((9 : TypeId) = (UTy.mk (84 : TypeId) (81 : TypeId) (3 : TypeId) (9 : TypeId)).kS ∧ ∃ m, 
 i.2.1.2.2.2.2.2.1 = m ∧ m.vi = i.2.2.1.2.1 ∧ m.ents = M) ∧ (i.2.2.1.2.2.1 = [] → Q (SV.tup []) [.ab (.fz ⟨84, 81, 3, 9⟩ i.2.1.1 i.2.1.2.1 i.2.1.2.2.1 i.2.1.2.2.2.1 i.2.1.2.2.2.2.1 (some i.2.1.2.2.2.2.2.1) i.2.1.2.2.2.2.2.2)]) ∧ ∀ (x : 
 Kk.den Kk.str) (y : Kk.uv Kk.str) (left' : List (Kk.den Kk.str × Kk.uv Kk.str)), List.Perm i.2.2.1.2.2.1 ((x, y) :: left') → ByteArray.size x ≤ 9223372036854775807 ∧ inK .i64 y → ∃ M x_1 y_1, i.2.1.2.2.2.2.2.2 = i.2.2.1.1 ∧ ((9 : TypeId) = 
 (UTy.mk (84 : TypeId) (81 : TypeId) (3 : TypeId) (9 : TypeId)).kS ∧ ∃ m, i.2.1.2.2.2.2.2.1 = m ∧ m.vi = i.2.2.1.2.1 ∧ m.ents = M) ∧ some (x, y) = some (x_1, y_1) ∧ (ByteArray.size x_1 ≤ 9223372036854775807 ∧ inK .i64 y_1 → ∃ m, getK 
 i.2.1.2.2.2.2.1 y_1 = some m ∧ m.ents = [] ∧ inK .i64 (m.links - 1) ∧ again ((), (i.2.1.1, i.2.1.2.1, i.2.1.2.2.1, i.2.1.2.2.2.1, letL i.2.1.2.2.2.2.1 y_1, i.2.1.2.2.2.2.2), (i.2.2.1.1, i.2.2.1.2.1, left', some (x, y)), ()))) ((), (q1, q2, 
 mb, nx, delK (setK L r_2 (LNode.mk m_2.blk m_2.kind m_2.mode m_2.uid m_2.gid m_2.vd m_2.data m_2.target m_2.vx m_2.xattrs m_2.opq m_2.vi m_2.ents m_2.up (m_1.links - 1))) r, m_4, hz), (hz, m_5.vi, m_4.ents, none), ())))))
theorem vc_let_eq (r : Int) (q1 : Int) (q2 : Int) (mb : Nat) (nx : Int) (L : List (Int × LNode)) (Q : SV → List HO → Prop) : vFun XU830 ⟨[(6, ⟨[], [(0, .ab (.fzs ⟨84, 81, 3, 9⟩)), (1, .ab (.mit .str 9 0))]⟩)], []⟩ Tryz.f59 [.v (.c (.p 0 0)), .int r] [.up ⟨84, 81, 3, 9⟩ q1 q2 mb nx L] Q = vc_let r q1 q2 mb nx L Q := by kernel_rfl
theorem w_let : ∀ args H Q, c_let args H Q → Wp Inv Tryz.prog 59 args H Q := by
 intro args H Q h
 unfold c_let at h
 split at h
 rotate_left
 ·exact h.elim
 rename_i r q1 q2 mb nx L
 refine Wp.enter (X := XU830) XU830_ok ⟨[(6, ⟨[], [(0, .ab (.fzs ⟨84, 81, 3, 9⟩)), (1, .ab (.mit .str 9 0))]⟩)], []⟩ (fn := Tryz.f59) (by kernel_rfl) ?_
 have hv := vc_let_eq r q1 q2 mb nx L Q
 rw [show vFun _ _ _ _ _ _ = _ from hv]
 unfold vc_let
 obtain ⟨m, hg, hl, hk, hq⟩ := h
 intro _ _ _ _
 refine ⟨rfl, no_some hg, only hg fun _ => ⟨_, m, hg, rfl, fun _ => ⟨hl, _, m, hg, rfl, _, { m with links := m.links - 1 }, getK_setK_self hg, rfl, fun _ => br_of (fun h1 => ?_) (fun h1 => fun _ _ _ => ⟨_, getK_setK_self hg, rfl, fun hz => ⟨_, .inr rfl, rfl, fun _ => ⟨rfl, ?_⟩⟩⟩)⟩⟩⟩
 ·have h1 : m.links - 1 > 0 := by simpa using h1
  exact (hq _ ⟨_, List.Perm.refl _, (if_pos h1).symm⟩).1
 ·have h1 : ¬ m.links - 1 > 0 := by simpa using h1
  have hk : KidsOk (delK L r) (m.ents.map (·.2)) := hk.ok.resolve_left h1
  rw [delK_setK']
  refine LoopP.intro (fun i => ∃ done : List (ByteArray × Int), (done ++ i.2.2.1.2.2.1).Perm m.ents ∧ i.2.1 = (q1, q2, mb, nx, letLs (delK L r) (done.map (·.2)), { m with links := m.links - 1 }, hz) ∧ i.2.2.1.1 = hz ∧ i.2.2.1.2.1 = m.vi) (fun i => i.2.2.1.2.2.1.length) ⟨[], List.Perm.refl _, rfl, rfl, rfl⟩ ?_
  rintro ⟨_, _, ⟨hz', v, left, cur⟩, _⟩ ⟨done, hp, rfl, h7, h8⟩
  simp only at h7 h8
  subst h7 h8
  simp only at hp ⊢
  refine ⟨trivial, _, ⟨trivial, _, rfl, rfl, rfl⟩, fun h0 => ?_, fun x y left' hp2 _ => ⟨_, x, y, trivial, ⟨trivial, _, rfl, rfl, rfl⟩, rfl, fun _ => ?_⟩⟩
  ·subst h0
   rw [List.append_nil] at hp
   exact (hq _ ⟨done.map (·.2), hp.map _, (if_neg h1).symm⟩).2 _ _
  ·have hp3 : (done ++ (x, y) :: left').Perm m.ents := (List.Perm.append_left done hp2.symm).trans hp
   obtain ⟨c, h2, h3, h4⟩ := hk.get (done.map (·.2)) y (left'.map (·.2)) (by have := hp3.map (·.2); simpa using this)
   refine ⟨c, h2, h3, h4, ⟨done ++ [(x, y)], by simpa using hp3, ?_, trivial, trivial⟩, ?_⟩
   ·rw [List.map_append]
    unfold letLs
    rw [List.foldl_append]; rfl
   ·have := hp2.length_eq; simp at this; omega
end Go.Proofs

namespace Go.Lm
open Go Go.RowKit
section
variable {L : List (Int × LNode)} {Y : UpY}
def mid (L : List (Int × LNode)) (c : Int → Nat) : List (Int × LNode) := (L.filter fun p => decide (p.1 = 1 ∨ 0 < c p.1)).map fun p => (p.1, { p.2 with links := if p.1 = 1 then 1 else (c p.1 : Int) })
theorem mid_get (c : Int → Nat) (x : Int) : getK (mid L c) x = if x = 1 ∨ 0 < c x then (getK L x).map (fun m => { m with links := if x = 1 then 1 else (c x : Int) }) else none := by
 induction L with
 | nil => simp [mid, getK]
 | cons p L ih =>
  by_cases hp : p.1 = 1 ∨ 0 < c p.1
  ·have e : mid (p :: L) c = (p.1, { p.2 with links := if p.1 = 1 then 1 else (c p.1 : Int) }) :: mid L c := by
    unfold mid; rw [List.filter_cons, if_pos (by simpa using hp), List.map_cons]
   rw [e, getK_cons', getK_cons', ih]
   by_cases hx : p.1 = x
   ·subst hx
    simp only [if_true, hp]; rfl
   ·simp only [if_neg hx]
  ·have e : mid (p :: L) c = mid L c := by
    unfold mid; rw [List.filter_cons, if_neg (by simpa using hp)]
   rw [e, getK_cons', ih]
   by_cases hx : p.1 = x
   ·subst hx
    rw [if_neg hp, if_neg hp]
   ·simp only [if_neg hx]
theorem mid_self {c : Int → Nat} (h : ∀ p ∈ L, (p.1 = 1 ∨ 0 < c p.1) ∧ p.2.links = if p.1 = 1 then 1 else (c p.1 : Int)) : mid L c = L := by
 unfold mid
 rw [List.filter_eq_self.2 fun p hp => by simpa using (h p hp).1]
 conv => rhs; rw [← List.map_id L]
 refine List.map_congr_left fun p hp => ?_
 rw [← (h p hp).2]; rfl
theorem mid_keys (c : Int → Nat) : (mid L c).map (·.1) = (L.map (·.1)).filter fun k => decide (k = 1 ∨ 0 < c k) := by
 unfold mid
 rw [List.map_map, List.filter_map]
 rfl
theorem letL_mid (hn : (L.map (·.1)).Nodup) {c : Int → Nat} {x : Int} {m : LNode} (hx : x ≠ 1) (hc : 0 < c x) (hg : getK L x = some m) : letL (mid L c) x = mid L fun z => if z = x then c z - 1 else c z := by
 have e : getK (mid L c) x = some { m with links := (c x : Int) } := by
  rw [mid_get, if_pos (.inr hc), hg, if_neg hx]; rfl
 unfold letL
 rw [e]
 have at_x : ∀ p ∈ L, p.1 = x → p.2 = m := fun p hp q => by
  have := getK_of_mem hn hp
  rw [q, hg] at this
  exact (Option.some.inj this).symm
 simp only
 by_cases h1 : (c x : Int) - 1 > 0
 ·rw [if_pos h1]
  unfold mid setK
  rw [List.map_map]
  rw [List.filter_congr (q := fun p : Int × LNode => decide (p.1 = 1 ∨ 0 < if p.1 = x then c p.1 - 1 else c p.1)) fun p _ => by
   by_cases q : p.1 = x
   ·simp only [q, if_true, hx, false_or, decide_eq_decide]; omega
   ·simp only [q, if_false]]
  refine List.map_congr_left fun p hp => ?_
  have hp := (List.mem_filter.1 hp).1
  simp only [Function.comp]
  by_cases q : p.1 = x
  ·rw [if_pos q, if_pos q, at_x p hp q, q, if_neg hx]
   congr 2
   omega
  ·rw [if_neg q, if_neg q]
 ·rw [if_neg h1]
  unfold mid delK
  rw [List.filter_map, List.filter_filter]
  rw [List.filter_congr (q := fun p : Int × LNode => decide (p.1 = 1 ∨ 0 < if p.1 = x then c p.1 - 1 else c p.1)) fun p _ => by
   by_cases q : p.1 = x
   ·simp only [Function.comp, q, if_true, hx, false_or, decide_true, Bool.not_true, Bool.false_and]
    symm
    rw [decide_eq_false_iff_not]; omega
   ·simp only [Function.comp, q, if_false, decide_false, Bool.not_false, Bool.true_and]]
  refine List.map_congr_left fun p hp => ?_
  have hp := (List.mem_filter.1 hp).2
  by_cases q : p.1 = x
  ·simp only [q, if_true, hx, false_or, decide_eq_true_eq] at hp
   omega
  ·simp only [if_neg q]
theorem letLs_mid (hn : (L.map (·.1)).Nodup) : ∀ (ys : List Int) (c : Int → Nat), (∀ x ∈ ys, x ≠ 1 ∧ ∃ m, getK L x = some m) → (∀ x, ys.count x ≤ c x) → letLs (mid L c) ys = mid L fun z => c z - ys.count z
 | [], c, _, _ => by simp [letLs]
 | y :: ys, c, h, hc => by
  obtain ⟨h1, m, hm⟩ := h y (by simp)
  have h2 := hc y
  rw [List.count_cons_self] at h2
  unfold letLs
  rw [List.foldl_cons, letL_mid hn h1 (by omega) hm]
  have := letLs_mid hn ys (fun z => if z = y then c z - 1 else c z) (fun x hx => h x (by simp [hx])) fun x => by
   have h3 := hc x
   rw [List.count_cons] at h3
   by_cases q : x = y
   ·subst q; simp at h3 ⊢; omega
   ·have q' : (y == x) = false := by simpa using Ne.symm q
    rw [q'] at h3
    simp only [if_neg q]; simpa using h3
  unfold letLs at this
  rw [this]
  congr 1
  funext z
  rw [List.count_cons]
  by_cases q : z = y
  ·subst q; simp; omega
  ·have q' : (y == z) = false := by simpa using Ne.symm q
   rw [q']
   simp only [if_neg q]; simp
theorem any_cnt {E : List EnD} {z : Int} : E.any (toR z) = true ↔ 0 < E.countP (toR z) := by
 rw [List.any_eq_true, List.countP_pos_iff]
theorem RepY.nodup (hr : RepY L Y) (w : Y.Wf) : (L.map (·.1)).Nodup := hr.keys.nodup_iff.2 w.nd
theorem at_less {E' : List EnD} {z : Int} {y : NoD} (h : Y.at z = some y) (hz : z = 1 ∨ E'.any (toR z) = true) : ({ Y with L := Y.L.filter fun n => isI 1 n || E'.any (toR n.2.1), E := E' } : UpY).at z = some y := by
 unfold UpY.at at h ⊢
 rw [List.find?_filter, ← h]
 congr 1
 funext n
 by_cases q : n.2.1 = z
 ·rcases hz with hz | hz
  ·subst hz; simp [isI, q]
  ·rw [q, hz]; simp
 ·have : isI z n = false := by simpa [isI] using q
  rw [this]; simp
theorem RepY.less (hr : RepY L Y) {d : Int} {s : ByteArray} {m : LNode} (hg : getK L d = some m) {E' : List EnD} (hE : ∀ e ∈ E', e ∈ Y.E)
  (he : ∀ z mz, getK L z = some mz → (z = 1 ∨ E'.any (toR z) = true) → (if z = d then delK mz.ents s else mz.ents).Perm (entsOf E' z)) :
  RepY (mid (setK L d { m with ents := delK m.ents s }) fun z => E'.countP (toR z)) { Y with L := Y.L.filter fun n => isI 1 n || E'.any (toR n.2.1), E := E' } := by
 refine ⟨?_, fun z n hn => ?_⟩
 ·rw [mid_keys, setK_keys]
  refine (hr.keys.filter _).trans ?_
  rw [List.filter_map]
  show List.Perm _ ((Y.L.filter fun n => isI 1 n || E'.any (toR n.2.1)).map (·.2.1))
  rw [List.filter_congr (q := fun n : NoD => isI 1 n || E'.any (toR n.2.1)) fun n _ => ?_]
  rw [Bool.eq_iff_iff]
  simp only [Function.comp, decide_eq_true_eq, Bool.or_eq_true, any_cnt]
  simp [isI]
 ·rw [mid_get] at hn
  by_cases hz : z = 1 ∨ 0 < E'.countP (toR z)
  ·rw [if_pos hz] at hn
   have hz' : z = 1 ∨ E'.any (toR z) = true := hz.imp id any_cnt.2
   obtain ⟨n1, h1, rfl⟩ := Option.map_eq_some_iff.1 hn
   have : ∃ n0, getK L z = some n0 ∧ n1 = { n0 with ents := if z = d then delK n0.ents s else n0.ents } := by
    by_cases q : z = d
    ·subst q
     rw [getK_setK_self hg] at h1
     obtain rfl := Option.some.inj h1
     exact ⟨m, hg, by rw [if_pos rfl]⟩
    ·rw [getK_setK_other q] at h1
     exact ⟨n1, h1, by rw [if_neg q]⟩
   obtain ⟨n0, h2, rfl⟩ := this
   obtain ⟨y, hy, hN⟩ := hr.nodes z n0 h2
   refine ⟨y, at_less hy hz', hN.turn rfl (he z n0 h2 hz') rfl fun hk e he' hez => hN.up hk e (hE e he') hez⟩
  ·rw [if_neg hz] at hn; cases hn
theorem ents_perm (hr : RepY L Y) {d : Int} {s : ByteArray} {z : Int} {mz : LNode} (h : getK L z = some mz) : (if z = d then delK mz.ents s else mz.ents).Perm (entsOf (Y.E.filter fun e => !isE d s e) z) := by
 obtain ⟨y, _, hN⟩ := hr.nodes z mz h
 by_cases q : z = d
 ·subst q
  rw [if_pos rfl, entsOf_del_eq]
  exact delK_perm hN.ents
 ·rw [if_neg q, entsOf_del_ne _ _ _ _ (Ne.symm q)]
  exact hN.ents
theorem entsOf_no (E : List EnD) {x z : Int} (h : z ≠ x) : entsOf (E.filter fun e => !ofD x e) z = entsOf E z := by
 unfold entsOf
 congr 1
 rw [List.filter_filter]
 refine List.filter_congr fun e _ => ?_
 unfold ofD
 by_cases h1 : e.1 = z
 ·have : (z == x) = false := by simpa using h
  simp [h1, this]
 ·have : (e.1 == z) = false := by simpa using h1
  simp [this]
theorem cnt_no (E : List EnD) (x z : Int) : (E.filter fun e => !ofD x e).countP (toR z) + ((entsOf E x).map (·.2)).count z = E.countP (toR z) := by
 unfold entsOf
 induction E with
 | nil => rfl
 | cons e E ih =>
  rw [List.filter_cons, List.filter_cons, List.countP_cons]
  by_cases h1 : ofD x e = true
  ·simp only [h1, Bool.not_true, Bool.false_eq_true, if_false, if_true, List.map_cons, List.count_cons]
   rw [← ih]
   unfold toR
   omega
  ·simp only [h1, Bool.not_false, Bool.false_eq_true, if_false, if_true]
   have h1' : ofD x e = false := by simpa using h1
   simp only [h1', Bool.not_false, if_true, List.countP_cons]
   rw [← ih]
   omega
theorem RepY.remove (hr : RepY L Y) (w : Y.Wf) (hen : Y.E.length ≤ 1099511627776) {d : Int} {s : ByteArray} {m : LNode} {e : EnD} (hg : getK L d = some m) (he : Y.ent d s = some e) (hw : Y.whites e.2.2.1 = true) {n : LNode} (hn : getK L e.2.2.1 = some n) :
  e.2.2.1 ≠ d ∧ getK (setK L d { m with ents := delK m.ents s }) e.2.2.1 = some n ∧ n.links = (Y.E.countP (toR e.2.2.1) : Int) ∧ LetPre (setK L d { m with ents := delK m.ents s }) e.2.2.1 n ∧
   ∀ L2, LetO (setK L d { m with ents := delK m.ents s }) e.2.2.1 n L2 → RepY L2 { Y with L := Y.goneL d s e.2.2.1, E := Y.goneE d s e.2.2.1 } := by
 obtain ⟨he1, he2, he3⟩ := ent_mem he
 obtain ⟨hx1, _⟩ := w.ref e he1
 obtain ⟨yx, hyx, hNx⟩ := hr.nodes _ n hn
 have hxd : e.2.2.1 ≠ d := fun q => by
  obtain ⟨dp, hdp⟩ := w.dep
  have hd := (w.dir e he1).1
  have := hdp e he1 (by rw [q, ← he2]; exact hd)
  rw [he2, q] at this
  exact Nat.lt_irrefl _ this
 have hgx : getK (setK L d { m with ents := delK m.ents s }) e.2.2.1 = some n := by rw [getK_setK_other hxd]; exact hn
 have hlk : n.links = (Y.E.countP (toR e.2.2.1) : Int) := by rw [hNx.links]; unfold UpY.links; rw [if_neg hx1]
 have hkey : ((setK L d { m with ents := delK m.ents s }).map (·.1)).Nodup := by rw [setK_keys]; exact hr.nodup w
 have hself : mid (setK L d { m with ents := delK m.ents s }) (fun z => Y.E.countP (toR z)) = setK L d { m with ents := delK m.ents s } := mid_self fun p hp => by
  have h1 := getK_of_mem hkey hp
  have : ∃ n0, getK L p.1 = some n0 ∧ p.2.links = n0.links := by
   by_cases q : p.1 = d
   ·rw [q, getK_setK_self hg] at h1
    rw [q]
    exact ⟨m, hg, by rw [← Option.some.inj h1]⟩
   ·rw [getK_setK_other q] at h1
    exact ⟨_, h1, rfl⟩
  obtain ⟨n0, h2, h3⟩ := this
  obtain ⟨y, hy, hN⟩ := hr.nodes _ n0 h2
  refine ⟨?_, by rw [h3, hN.links]; rfl⟩
  by_cases q : p.1 = 1
  ·exact .inl q
  ·have := w.has y (at_mem hy).1 (by rw [(at_mem hy).2]; exact q)
   rw [(at_mem hy).2] at this
   exact .inr (any_cnt.1 this)
 have hcx : 0 < Y.E.countP (toR e.2.2.1) := List.countP_pos_iff.2 ⟨e, he1, by simp [toR]⟩
 have h1 := letL_mid hkey (c := fun z => Y.E.countP (toR z)) hx1 hcx hgx
 rw [hself] at h1
 have hc1 : (fun z => if z = e.2.2.1 then Y.E.countP (toR z) - 1 else Y.E.countP (toR z)) = fun z => (Y.E.filter fun e => !isE d s e).countP (toR z) := by
  funext z
  have := cnt_del w he z
  by_cases q : z = e.2.2.1
  ·rw [if_pos q]; rw [if_pos q.symm] at this; omega
  ·rw [if_neg q]; rw [if_neg (Ne.symm q)] at this; omega
 rw [hc1] at h1
 have hl1 := cnt_del w he e.2.2.1
 rw [if_pos rfl] at hl1
 have hsub : ∀ e' ∈ (Y.E.filter fun e => !isE d s e), e' ∈ Y.E := fun e' h => (List.mem_filter.1 h).1
 have hL : letL (setK L d { m with ents := delK m.ents s }) e.2.2.1 = if n.links - 1 > 0 then setK (setK L d { m with ents := delK m.ents s }) e.2.2.1 { n with links := n.links - 1 } else delK (setK L d { m with ents := delK m.ents s }) e.2.2.1 := by
  unfold letL; rw [hgx]
 by_cases hmore : n.links - 1 > 0
 ·refine ⟨hxd, hgx, hlk, ⟨.inl hmore⟩, fun L2 h => ?_⟩
  obtain ⟨ys, _, h2⟩ := h.ex
  rw [if_pos hmore] at h2 hL
  rw [h2, ← hL, h1]
  have hge : Y.goneE d s e.2.2.1 = Y.E.filter fun e => !isE d s e := by
   unfold UpY.goneE
   rw [if_pos (any_cnt.2 (by omega))]
  have := hr.less hg (s := s) (E' := Y.goneE d s e.2.2.1) (by rw [hge]; exact hsub) fun z mz hz _ => by rw [hge]; exact ents_perm hr hz
  rw [hge] at this
  unfold UpY.goneL
  rw [hge]
  exact this
 ·rw [if_neg hmore] at hL
  have hge : Y.goneE d s e.2.2.1 = (Y.E.filter fun e => !isE d s e).filter fun e' => !ofD e.2.2.1 e' := by
   unfold UpY.goneE
   rw [if_neg (by rw [any_cnt]; omega)]
  have hkids : n.ents.Perm (entsOf (Y.E.filter fun e => !isE d s e) e.2.2.1) := by
   rw [entsOf_del_ne _ _ _ _ (Ne.symm hxd)]
   exact hNx.ents
  have hkc : ∀ z, (n.ents.map (·.2)).count z = ((entsOf (Y.E.filter fun e => !isE d s e) e.2.2.1).map (·.2)).count z := fun z => (hkids.map _).count_eq z
  -- each child: a mark
  have kid : ∀ z ∈ n.ents.map (·.2), z ≠ 1 ∧ ∃ mz, getK (setK L d { m with ents := delK m.ents s }) z = some mz ∧ mz.ents = [] := fun z hz => by
   obtain ⟨p, hp, rfl⟩ := List.mem_map.1 hz
   obtain ⟨e', h2, h3, h4, h5⟩ := (ents_mem hNx (s := p.1) (x := p.2)).1 hp
   obtain ⟨h6, _⟩ := w.ref e' h2
   rw [h5] at h6
   obtain ⟨yz, hyz⟩ := at_ref w h2
   rw [h5] at hyz
   obtain ⟨mz, hmz, hNz⟩ := hr.get hyz
   have h7 := List.all_eq_true.1 hw e' h2
   have h8 : yz.2.2.1 = 4 := by
    unfold UpY.kindOf at h7
    rw [h5, hyz] at h7
    simpa [ofD, h3] using h7
   have nodir : ∀ e'' ∈ Y.E, e''.1 ≠ p.2 := fun e'' h9 q => by
    obtain ⟨y1, h10, h11⟩ := at_dir w h9
    rw [q, hyz] at h10
    obtain rfl := Option.some.inj h10
    rw [h8] at h11; exact absurd h11 (by decide)
   have hzd : p.2 ≠ d := fun q => nodir e he1 (by rw [he2, q])
   refine ⟨h6, mz, by rw [getK_setK_other hzd]; exact hmz, ?_⟩
   have := hNz.ents
   rw [List.filter_eq_nil_iff.2 fun e'' h9 => by simpa [ofD] using nodir e'' h9] at this
   exact this.eq_nil
  have hcc : ∀ ys zs : List Int, (ys ++ zs).Perm (n.ents.map (·.2)) → ∀ z, ys.count z + zs.count z ≤ (Y.E.filter fun e => !isE d s e).countP (toR z) := fun ys zs hp z => by
   have h2 := cnt_no (Y.E.filter fun e => !isE d s e) e.2.2.1 z
   rw [← hkc z, ← hp.count_eq z, List.count_append] at h2
   omega
  have hlet : ∀ ys zs : List Int, (ys ++ zs).Perm (n.ents.map (·.2)) → letLs (delK (setK L d { m with ents := delK m.ents s }) e.2.2.1) ys = mid (setK L d { m with ents := delK m.ents s }) fun z => (Y.E.filter fun e => !isE d s e).countP (toR z) - ys.count z := fun ys zs hp => by
   rw [← hL, h1]
   refine letLs_mid hkey ys _ (fun x hx => ?_) fun z => by have := hcc ys zs hp z; omega
   obtain ⟨a, mz, b, _⟩ := kid x (hp.mem_iff.1 (by simp [hx]))
   exact ⟨a, mz, b⟩
  refine ⟨hxd, hgx, hlk, ⟨.inr ⟨fun ys x zs hp => ?_⟩⟩, fun L2 h => ?_⟩
  ·obtain ⟨a, mz, b, c⟩ := kid x (hp.mem_iff.1 (by simp))
   have h2 := hcc ys (x :: zs) hp x
   rw [List.count_cons_self] at h2
   rw [hlet ys (x :: zs) hp, mid_get, if_pos (.inr (by omega)), b]
   have h3 : (Y.E.filter fun e => !isE d s e).countP (toR x) ≤ Y.E.length := Nat.le_trans List.countP_le_length (List.length_filter_le ..)
   rw [if_neg a]
   refine ⟨_, rfl, c, ?_⟩
   simp only [if_neg a]
   unfold inK
   omega
  ·obtain ⟨ys, h2, h3⟩ := h.ex
   rw [if_neg hmore] at h3
   rw [h3, hlet ys [] (by simpa using h2)]
   have := hr.less hg (s := s) (E' := Y.goneE d s e.2.2.1) (fun e' h => by rw [hge] at h; exact hsub _ (List.mem_filter.1 h).1) fun z mz hz hk => by
    have hzx : z ≠ e.2.2.1 := fun q => by
     subst q
     rcases hk with hk | hk
     ·exact hx1 hk
     ·rw [hge] at hk
      obtain ⟨e', h4, h5⟩ := List.any_eq_true.1 hk
      have h6 : 0 < (Y.E.filter fun e => !isE d s e).countP (toR e.2.2.1) := List.countP_pos_iff.2 ⟨e', (List.mem_filter.1 h4).1, h5⟩
      omega
    rw [hge, entsOf_no _ hzx]
    exact ents_perm hr hz
   have hc2 : (fun z => (Y.E.filter fun e => !isE d s e).countP (toR z) - ys.count z) = fun z => (Y.goneE d s e.2.2.1).countP (toR z) := by
    funext z
    have h4 := cnt_no (Y.E.filter fun e => !isE d s e) e.2.2.1 z
    rw [← hkc z, ← h2.count_eq z] at h4
    rw [hge]
    omega
   rw [hc2]
   exact this
end
end Go.Lm

namespace Go.Proofs
open Go Go.Lm Go.RowKit
set_option maxRecDepth 1000000
def c_remove0 : Ct
 | [.v (.c (.p 0 0)), .v (.c (.k (.int .i64 d))), .v (.c (.k (.string s)))], [.up ⟨84, 81, 3, 9⟩ q1 q2 mb nx L], Q => ∃ Y : UpY, (q1 = Y.q1 ∧ q2 = Y.q2 ∧ nx = Y.nx ∧ RepY L Y) ∧ (Y.Ok) ∧ ∀ o, UpIs ⟨84, 81, 3, 9⟩ (Y.removeY d s) o → Q (.c (.k (.int .i64 (Y.removeE d s)))) [o]
 | _, _, _ => False
noncomputable def XU931 : Vx := { P := Tryz.prog, ct := (59, c_let) :: XU830.ct, ty := tyTab, hold := [] }
theorem XU931_ok : CtOk Inv Tryz.prog XU931.ct := CtOk.cons w_let (XU830_ok)
def vc_remove0 : (Int) → (ByteArray) → (Int) → (Int) → (Nat) → (Int) → (List (Int × LNode)) → (SV → List HO → Prop) → Prop :=
 fun d s q1 q2 mb nx L Q => inK .i64 d → ByteArray.size s ≤ 9223372036854775807 → (getK L d = none → inK .i64 1 → Q (.v (.c (.k (.int .i64 1)))) [.up ⟨84, 81, 3, 9⟩ q1 q2 mb nx L]) ∧ ∀ (m : LNode), getK L d = some m → NodeOk m → br (m.kind 
 == 1) (inK .i64 0 → ∃ r m_1, getK L r = some m_1 ∧ m_1.blk = m.blk ∧ (NodeOk m_1 → ∃ r m_2, getK L r = some m_2 ∧ m_2.vi = m_1.vi ∧ (getK m_2.ents s = none → Q (.v (.c (.k (.int .i64 20)))) [.up ⟨84, 81, 3, 9⟩ q1 q2 mb nx L]) ∧ ∀ (x : Int), 
 getK m_2.ents s = some x → inK .i64 x → inK .i64 q1 → inK .i64 q2 → inK .i64 nx → Value.map (some mb) = Value.map (some mb) ∧ (getK L x = none → False) ∧ ∀ (m_3 : LNode), getK L x = some m_3 → NodeOk m_3 → ∃ r m_4, getK L r = some m_4 ∧ 
 m_4.blk = m_3.blk ∧ (NodeOk m_4 → ∃ r m_5, getK L r = some m_5 ∧ m_5.vi = m_4.vi ∧ ∀ (hz : Hp), LoopT (PUnit × (Hp × Value × List (ByteArray × Int) × Option (ByteArray × Int)) × PUnit) (fun i again => hz = i.2.1.1 ∧ ∃ M, ((9 : TypeId) = 
 (UTy.mk (84 : TypeId) (81 : TypeId) (3 : TypeId) (9 : TypeId)).kS ∧ ∃ m, (∃ r, getK L r = some m) ∧ m.vi = i.2.1.2.1 ∧ m.ents = M) ∧ (i.2.1.2.2.1 = [] → ∃ m_6, ((∃ r, getK L r = some m_6) ∨ none = some m_6) ∧ m_6.blk = m.blk ∧ (NodeOk m_6 → 
 ∃ r m, getK L r = some m ∧ m.vi = m_6.vi ∧ m.kind = (1 : Int) ∧ ∃ m_7, getK (setK L r (LNode.mk m.blk m.kind m.mode m.uid m.gid m.vd m.data m.target m.vx m.xattrs m.opq m.vi (delK m.ents s) m.up m.links)) x = some m_7 ∧ inK .i64 (m_7.links 
 - 1) ∧ LetPre (setK L r (LNode.mk m.blk m.kind m.mode m.uid m.gid m.vd m.data m.target m.vx m.xattrs m.opq m.vi (delK m.ents s) m.up m.links)) x m_7 ∧ ∀ (L2 : List (Int × LNode)), LetO (setK L r (LNode.mk m.blk m.kind m.mode m.uid m.gid 
 m.vd m.data m.target m.vx m.xattrs m.opq m.vi (delK m.ents s) m.up m.links)) x m_7 L2 → Q (.v (.c (.k (.int .i64 0)))) [.up ⟨84, 81, 3, 9⟩ q1 q2 mb nx L2] ∧ ∀ (z : LNode) (hz : Hp), Q (.v (.c (.k (.int .i64 0)))) [.ab (.fz ⟨84, 81, 3, 9⟩ q1 
 q2 mb nx L2 (some z) hz)])) ∧ ∀ (x : Kk.den Kk.str) (y : Kk.uv Kk.str) (left' : List (Kk.den Kk.str × Kk.uv Kk.str)), List.Perm i.2.1.2.2.1 ((x, y) :: left') → ByteArray.size x ≤ 9223372036854775807 ∧ inK .i64 y → ∃ M x_1 y_1, hz = i.2.1.1 
 ∧ ((9 : TypeId) = (UTy.mk (84 : TypeId) (81 : TypeId) (3 : TypeId) (9 : TypeId)).kS ∧ ∃ m, (∃ r, getK L r = some m) ∧ m.vi = i.2.1.2.1 ∧ m.ents = M) ∧ some (x, y) = some (x_1, y_1) ∧ (ByteArray.size x_1 ≤ 9223372036854775807 ∧ inK .i64 y_1 
 → inK .i64 q1 → inK .i64 q2 → inK .i64 nx → Value.map (some mb) = Value.map (some mb) ∧ (getK L y_1 = none → False) ∧ ∀ (m : LNode), getK L y_1 = some m → NodeOk m → ∃ m_6, ((∃ r, getK L r = some m_6) ∨ none = some m_6) ∧ m_6.blk = m.blk ∧ 
 (NodeOk m_6 → br (m_6.kind != 4) (Q (.v (.c (.k (.int .i64 26)))) [.ab (.fz ⟨84, 81, 3, 9⟩ q1 q2 mb nx L none hz)]) (again ((), (i.2.1.1, i.2.1.2.1, left', some (x, y)), ()))))) ((), (hz, m_4.vi, m_5.ents, none), ())))) (inK .i64 24 → Q (.v 
 (.c (.k (.int .i64 24)))) [.up ⟨84, 81, 3, 9⟩ q1 q2 mb nx L])
theorem vc_remove0_eq (d : Int) (s : ByteArray) (q1 : Int) (q2 : Int) (mb : Nat) (nx : Int) (L : List (Int × LNode)) (Q : SV → List HO → Prop) : vFun XU931 ⟨[(9, ⟨[], [(1, .ab (.mit .str 9 0))]⟩)], []⟩ Tryz.f17 [.v (.c (.p 0 0)), .int d, .str s] [.up ⟨84, 81, 3, 9⟩ q1 q2 mb nx L] Q = vc_remove0 d s q1 q2 mb nx L Q := by kernel_rfl
theorem w_remove0 : ∀ args H Q, c_remove0 args H Q → Wp Inv Tryz.prog 17 args H Q := by
 intro args H Q h
 unfold c_remove0 at h
 split at h
 rotate_left
 ·exact h.elim
 rename_i d s q1 q2 mb nx L
 refine Wp.enter (X := XU931) XU931_ok ⟨[(9, ⟨[], [(1, .ab (.mit .str 9 0))]⟩)], []⟩ (fn := Tryz.f17) (by kernel_rfl) ?_
 have hv := vc_remove0_eq d s q1 q2 mb nx L Q
 rw [show vFun _ _ _ _ _ _ = _ from hv]
 unfold vc_remove0
 obtain ⟨Y, ⟨rfl, rfl, rfl, hr⟩, hp, hq⟩ := h
 have w := hp.wf
 have hen := hp.en
 have stay : ∀ z : Int, Y.removeE d s = z → z ≠ 0 → ∀ o, UpIs ⟨84, 81, 3, 9⟩ Y o → Q (.int z) [o] := fun z e hz o ho => by
  have hY : Y.removeY d s = Y := if_neg (by rw [e]; exact hz)
  rw [hY, e] at hq
  exact hq o ho
 have up0 : UpIs ⟨84, 81, 3, 9⟩ Y (.up ⟨84, 81, 3, 9⟩ Y.q1 Y.q2 mb Y.nx L) := ⟨rfl, rfl, rfl, rfl, hr⟩
 intro _ _
 rcases hr.both d with ⟨hn, hy⟩ | ⟨m, y, hg, hy, hN⟩
 ·refine ⟨fun _ _ => stay 1 ?_ (by decide) _ up0, fun m hg => ?_⟩
  ·simp only [UpY.removeE, UpY.lookE, dirE_none hy]; rfl
  ·rw [hn] at hg; cases hg
 have hg2 := ent_get w hN s
 refine ⟨no_some hg, only hg fun _ => br_of (fun h1 => fun _ => ⟨_, m, hg, rfl, fun _ => ⟨_, m, hg, rfl, fun h0 => stay 20 ?_ (by decide) _ up0, fun x hx _ _ _ _ => ?_⟩⟩) (fun h1 => fun _ => stay 24 ?_ (by decide) _ up0)⟩
 ·rw [hN.kind] at h1
  rw [hg2, Option.map_eq_none_iff] at h0
  simp only [UpY.removeE, UpY.lookE, dirE_some hy, if_pos (eq_of_beq h1), h0]; rfl
 ·rw [hN.kind] at h1
  rw [hg2] at hx
  obtain ⟨e, he, rfl⟩ := Option.map_eq_some_iff.1 hx
  have hlook : Y.lookE d s = 0 := by simp only [UpY.lookE, dirE_some hy, if_pos (eq_of_beq h1), he]; rfl
  obtain ⟨he1, he2, _⟩ := ent_mem he
  obtain ⟨yx, hyx⟩ := at_ref w he1
  obtain ⟨n, hgn, hNn⟩ := hr.get hyx
  refine ⟨rfl, no_some hgn, only hgn fun _ => ⟨_, n, hgn, rfl, fun _ => ⟨_, n, hgn, rfl, fun hz => ?_⟩⟩⟩
  refine LoopP.intro (fun i => ∃ done : List (ByteArray × Int), (done ++ i.2.1.2.2.1).Perm n.ents ∧ (∀ p ∈ done, Y.kindOf p.2 = 4) ∧ i.2.1.1 = hz ∧ i.2.1.2.1 = n.vi) (fun i => i.2.1.2.2.1.length) ⟨[], List.Perm.refl _, by simp, rfl, rfl⟩ ?_
  rintro ⟨_, ⟨hz', v, left, cur⟩, _⟩ ⟨done, hp2, hd, h7, h8⟩
  simp only at h7 h8
  subst h7 h8
  simp only at hp2 ⊢
  refine ⟨trivial, _, ⟨trivial, n, ⟨_, hgn⟩, rfl, rfl⟩, fun h0 => ?_, fun x y2 left' hp3 _ => ⟨_, x, y2, trivial, ⟨trivial, n, ⟨_, hgn⟩, rfl, rfl⟩, rfl, fun _ _ _ _ => ⟨trivial, ?_, fun mz hmz _ => ⟨mz, .inl ⟨_, hmz⟩, rfl, fun _ => br_of (fun h3 => ?_) (fun h3 => ?_)⟩⟩⟩⟩
  ·subst h0
   rw [List.append_nil] at hp2
   have hw : Y.whites e.2.2.1 = true := List.all_eq_true.2 fun e' he' => by
    by_cases q : ofD e.2.2.1 e' = true
    ·have h4 : (e'.2.1, e'.2.2.1) ∈ n.ents := (ents_mem hNn).2 ⟨e', he', by simpa [ofD] using q, rfl, rfl⟩
     have := hd _ (hp2.mem_iff.2 h4)
     simp only at this
     rw [this]; simp
    ·simp [q]
   obtain ⟨a1, a2, a3, a4, a5⟩ := hr.remove w hen hg he hw hgn
   have e0 : Y.removeE d s = 0 := by unfold UpY.removeE; rw [if_pos hlook, he]; simp [hw]
   have hY : Y.removeY d s = { Y with L := Y.goneL d s e.2.2.1, E := Y.goneE d s e.2.2.1 } := by unfold UpY.removeY; rw [if_pos e0, he]
   rw [hY, e0] at hq
   have hcp : Y.E.countP (toR e.2.2.1) ≤ Y.E.length := List.countP_le_length
   refine ⟨m, .inl ⟨_, hg⟩, rfl, fun _ => ⟨_, m, hg, rfl, by rw [hN.kind]; exact eq_of_beq h1, n, a2, ?_, a4, fun L2 h2 => ⟨hq _ ⟨rfl, rfl, rfl, rfl, a5 L2 h2⟩, fun z hz => hq _ ⟨rfl, rfl, rfl, rfl, a5 L2 h2⟩⟩⟩⟩
   rw [a3]; unfold inK; omega
  all_goals
   have h4 : (x, y2) ∈ n.ents := hp2.mem_iff.1 (List.mem_append_right _ (hp3.mem_iff.2 (by simp)))
   obtain ⟨e', g1, g2, g3, g4⟩ := (ents_mem hNn).1 h4
   obtain ⟨yz, hyz⟩ := at_ref w g1
   rw [g4] at hyz
  ·intro hz
   obtain ⟨mz, hmz, _⟩ := hr.get hyz
   rw [hz] at hmz; cases hmz
  all_goals
   obtain ⟨yz', hyz', hNz⟩ := hr.nodes _ mz hmz
   rw [hyz] at hyz'
   obtain rfl := Option.some.inj hyz'
   rw [hNz.kind] at h3
   have hk : Y.kindOf y2 = yz.2.2.1 := by unfold UpY.kindOf; rw [hyz]
  ·refine stay 26 ?_ (by decide) _ ⟨rfl, rfl, rfl, rfl, hr⟩
   have hw : ¬ Y.whites e.2.2.1 = true := fun h => by
    have := List.all_eq_true.1 h e' g1
    rw [g4, hk] at this
    have h3 : ¬ yz.2.2.1 = 4 := by simpa using h3
    simp [ofD, g2, h3] at this
   unfold UpY.removeE; rw [if_pos hlook, he]; simp [hw]
  ·have h3 : yz.2.2.1 = 4 := by simpa using h3
   refine ⟨⟨done ++ [(x, y2)], ?_, ?_, trivial, trivial⟩, ?_⟩
   ·simpa using (List.Perm.append_left done hp3.symm).trans hp2
   ·intro p hp
    rcases List.mem_append.1 hp with hp | hp
    ·exact hd p hp
    ·have : p = (x, y2) := by simpa using hp
     rw [this, hk]; exact h3
   ·have := hp3.length_eq; simp at this; omega
 ·rw [hN.kind] at h1
  have h1 : ¬ y.2.2.1 = 1 := by simpa using h1
  have hd : Y.dirE d = 24 := by rw [dirE_some hy, if_neg h1]
  have hl : Y.lookE d s = 24 := by unfold UpY.lookE; rw [hd]; rfl
  unfold UpY.removeE
  rw [hl]; rfl
def c_remove : Ct
 | [.v (.c (.p 0 0)), .v (.c (.k (.int .i64 d))), .v (.c (.k (.string s)))], [.ab (.upr ⟨84, 81, 3, 9⟩ Y)], Q => (Y.Ok) ∧ Q (.c (.k (.int .i64 (Y.removeE d s)))) [.ab (.upr ⟨84, 81, 3, 9⟩ (Y.removeY d s))]
 | _, _, _ => False
theorem w_remove : ∀ args H Q, c_remove args H Q → Wp Inv Tryz.prog 17 args H Q := by
 intro args H Q h
 unfold c_remove at h
 split at h
 ·rename_i d s Y
  refine Wp.uprO fun mb L hr => w_remove0 _ _ _ ?_
  unfold c_remove0
  exact ⟨Y, ⟨rfl, rfl, rfl, hr⟩, h.1, fun o ho => ⟨o, _, _, rfl, ho, h.2⟩⟩
 ·exact h.elim
end Go.Proofs

namespace Go.Lm
open Go Go.RowKit
section
variable {α β : Type}
def fs (f : α → Int) : List α → Int
 | [] => 0
 | x :: l => f x + fs f l
theorem fs_sum (f : α → Int) (l : List α) : (l.map f).sum = fs f l := by
 induction l with
 | nil => rfl
 | cons x l ih => rw [List.map_cons, List.sum_cons, ih]; rfl
theorem fs_perm (f : α → Int) {l m : List α} (h : l.Perm m) : fs f l = fs f m := by
 induction h with
 | nil => rfl
 | cons x _ ih => show f x + _ = f x + _; rw [ih]
 | swap x y l => show f y + (f x + fs f l) = f x + (f y + fs f l); omega
 | trans _ _ a b => exact a.trans b
theorem fs_map (f : α → Int) (g : β → α) (l : List β) : fs f (l.map g) = fs (fun x => f (g x)) l := by
 induction l with
 | nil => rfl
 | cons x l ih => show f (g x) + fs f (l.map g) = _; rw [ih]; rfl
theorem fs_congr {f g : α → Int} {l : List α} (h : ∀ x ∈ l, f x = g x) : fs f l = fs g l := by
 induction l with
 | nil => rfl
 | cons x l ih => show f x + fs f l = g x + fs g l; rw [h x (by simp), ih fun y hy => h y (by simp [hy])]
theorem fs_add (f g : α → Int) (l : List α) : fs (fun x => f x + g x) l = fs f l + fs g l := by
 induction l with
 | nil => rfl
 | cons x l ih => show f x + g x + fs _ l = f x + fs f l + (g x + fs g l); rw [ih]; omega
theorem fs_nn {f : α → Int} {l : List α} (h : ∀ x ∈ l, 0 ≤ f x) : 0 ≤ fs f l := by
 induction l with
 | nil => exact Int.le_refl 0
 | cons x l ih =>
  have h1 := h x (by simp)
  have h2 := ih fun y hy => h y (by simp [hy])
  show 0 ≤ f x + fs f l
  omega
theorem fs_le {f : α → Int} {b : Int} {l : List α} (h : ∀ x ∈ l, f x ≤ b) : fs f l ≤ (l.length : Int) * b := by
 induction l with
 | nil => show (0 : Int) ≤ (0 : Int) * b; rw [Int.zero_mul]; exact Int.le_refl 0
 | cons x l ih =>
  have h1 := h x (by simp)
  have h2 := ih fun y hy => h y (by simp [hy])
  show f x + fs f l ≤ ((l.length + 1 : Nat) : Int) * b
  rw [Int.natCast_add, Int.add_mul, show ((1 : Nat) : Int) * b = b from Int.one_mul b]
  omega
theorem fs_zero (l : List α) : fs (fun _ => 0) l = 0 := by
 induction l with
 | nil => rfl
 | cons x l ih => show 0 + fs _ l = 0; rw [ih]; rfl
theorem fs_cons (f : α → Int) (x : α) (l : List α) : fs f (x :: l) = f x + fs f l := rfl
end
theorem fs_ind {K : List Int} (hn : K.Nodup) {a : Int} (ha : a ∈ K) (v : Int) : fs (fun k => if a = k then v else 0) K = v := by
 induction K with
 | nil => cases ha
 | cons x K ih =>
  obtain ⟨h1, h2⟩ := List.nodup_cons.1 hn
  rw [fs_cons]
  by_cases q : a = x
  ·subst q
   rw [if_pos rfl, fs_congr (g := fun _ => 0) fun k hk => if_neg fun e => h1 (by rw [e]; exact hk), fs_zero]
   omega
  ·rw [if_neg q, ih h2 ((List.mem_cons.1 ha).resolve_left q)]
   omega
theorem fs_part {K : List Int} (hn : K.Nodup) (f : EnD → Int) : ∀ (E : List EnD), (∀ e ∈ E, e.1 ∈ K) → fs (fun k => fs f (E.filter (ofD k))) K = fs f E
 | [], _ => fs_zero K
 | e :: E, h => by
  rw [fs_congr (g := fun k => (if e.1 = k then f e else 0) + fs f (E.filter (ofD k))) fun k _ => ?_, fs_add, fs_ind hn (h e (by simp)), fs_part hn f E fun x hx => h x (by simp [hx])]
  ·rfl
  ·by_cases q : e.1 = k
   ·rw [if_pos q, List.filter_cons, if_pos (by simp [ofD, q])]; rfl
   ·rw [if_neg q, List.filter_cons, if_neg (by simp [ofD, q])]; omega
section
variable {L : List (Int × LNode)} {Y : UpY}
def szX (x : XaD) : Int := (x.1.size : Int) + x.2.1.length
def szE (p : ByteArray × Int) : Int := p.1.size
def costL (m : LNode) : Int := 64 + m.data.length + m.target.size + fs szX (m.xattrs.map xaT) + fs szE m.ents
theorem at_of_mem (w : Y.Wf) {n : NoD} (h : n ∈ Y.L) : Y.at n.2.1 = some n := by
 have key : ∀ l : List NoD, (l.map (·.2.1)).Nodup → n ∈ l → l.find? (isI n.2.1) = some n := fun l => by
  induction l with
  | nil => intro _ h; cases h
  | cons x l ih =>
   intro hn h
   obtain ⟨h1, h2⟩ := List.nodup_cons.1 hn
   rw [List.find?_cons]
   by_cases q : x.2.1 = n.2.1
   ·have e : isI n.2.1 x = true := by simp [isI, q]
    rw [e]
    rcases List.mem_cons.1 h with h | h
    ·rw [h]
    ·have h3 : n.2.1 ∈ l.map (·.2.1) := List.mem_map.2 ⟨n, h, rfl⟩
     rw [← q] at h3
     exact absurd h3 h1
   ·have e : isI n.2.1 x = false := by simpa [isI] using q
    rw [e]
    rcases List.mem_cons.1 h with h | h
    ·exact absurd (by rw [h]) q
    ·exact ih h2 h
 exact key _ w.nd h
theorem RepN.cost {r : Int} {m : LNode} {y : NoD} (h : RepN Y r m y) : costL m = UpY.costN y + fs (fun e : EnD => (e.2.1.size : Int)) (Y.E.filter (ofD r)) := by
 unfold costL UpY.costN UpY.costX
 rw [fs_sum, h.data, h.target, h.xattrs, fs_perm szE h.ents, fs_map]
 rfl
theorem RepY.used (hr : RepY L Y) (w : Y.Wf) : fs (fun p => costL p.2) L = Y.usedB := by
 have h1 : fs (fun p => costL p.2) L = fs (fun r => match Y.at r with | none => 0 | some y => UpY.costN y + fs (fun e : EnD => (e.2.1.size : Int)) (Y.E.filter (ofD r))) (L.map (·.1)) := by
  rw [fs_map]
  refine fs_congr fun p hp => ?_
  obtain ⟨y, hy, hN⟩ := hr.nodes p.1 p.2 (getK_of_mem (hr.nodup w) hp)
  rw [hy]
  exact hN.cost
 have h2 : fs (fun r => match Y.at r with | none => 0 | some y => UpY.costN y + fs (fun e : EnD => (e.2.1.size : Int)) (Y.E.filter (ofD r))) (Y.L.map (·.2.1)) = fs (fun n => UpY.costN n + fs (fun e : EnD => (e.2.1.size : Int)) (Y.E.filter (ofD n.2.1))) Y.L := by
  rw [fs_map]
  refine fs_congr fun n hn => ?_
  rw [at_of_mem w hn]
 have h3 := fs_map (fun k => fs (fun e : EnD => (e.2.1.size : Int)) (Y.E.filter (ofD k))) (fun n : NoD => n.2.1) Y.L
 rw [h1, fs_perm _ hr.keys, h2, fs_add, ← h3, fs_part w.nd _ Y.E fun e he => ?_]
 ·unfold UpY.usedB
  rw [fs_sum, fs_sum]
 ·obtain ⟨y, hy, _⟩ := at_dir w he
  exact List.mem_map.2 ⟨y, (at_mem hy).1, (at_mem hy).2⟩
theorem fs_szX_nn (l : List XaD) : 0 ≤ fs szX l := fs_nn fun x _ => by unfold szX; omega
theorem fs_szE_nn (l : List (ByteArray × Int)) : 0 ≤ fs szE l := fs_nn fun x _ => by unfold szE; omega
theorem costL_nn (m : LNode) : 64 ≤ costL m := by
 have h1 := fs_szX_nn (m.xattrs.map xaT)
 have h2 := fs_szE_nn m.ents
 unfold costL; omega
theorem costX_le {l : List XaD} (h : ∀ x ∈ l, x.2.1.length ≤ 200 ∧ x.1.size ≤ 40) (h2 : l.length ≤ 8) : fs szX l ≤ 1920 := by
 have := fs_le (f := szX) (b := 240) fun x hx => by have := h x hx; unfold szX; omega
 omega
theorem validN_len {s : ByteArray} (h : validN s = 0) : (s.size : Int) ≤ 255 := by
 unfold validN at h
 split at h
 ·cases h
 ·omega
theorem usedB_le (h : Y.Ok) : (Y.L.length : Int) < Y.nx ∧ Y.usedB ≤ 8000 * 1099511627776 := by
 have w := h.wf
 have h0 := nodup_len (Y.nx - 1).toNat (Y.L.map (·.2.1)) w.nd fun x hx => by
  obtain ⟨n, hn, rfl⟩ := List.mem_map.1 hx
  have := w.lo n hn
  omega
 rw [List.length_map] at h0
 have hnx := nx_pos w
 have hnb := h.nb
 have hen := h.en
 have h1 : fs UpY.costN Y.L ≤ (Y.L.length : Int) * 6280 := fs_le fun n hn => by
  have hm := (w.nm n hn).2.2
  have hl := mayN_lens hm
  have hx := costX_le (mayN_xattrs hm) hl.2.2
  unfold UpY.costN UpY.costX
  rw [fs_sum]
  show 64 + _ + _ + fs szX n.2.2.2.2.2.2.1 ≤ _
  omega
 have h2 : fs (fun e : EnD => (e.2.1.size : Int)) Y.E ≤ (Y.E.length : Int) * 255 := fs_le fun e he => by
  have := validN_len (w.dir e he).2
  omega
 refine ⟨by omega, ?_⟩
 unfold UpY.usedB
 rw [fs_sum, fs_sum]
 omega
end
end Go.Lm

namespace Go.Proofs
open Go Go.Lm Go.RowKit
set_option maxRecDepth 1000000
def c_usedf : Ct
 | [.v (.c (.p 0 0))], [.up ⟨84, 81, 3, 9⟩ q1 q2 mb nx L], Q => ∃ Y : UpY, (q1 = Y.q1 ∧ q2 = Y.q2 ∧ nx = Y.nx ∧ RepY L Y) ∧ Y.Ok ∧ ∀ hz, Q (.v (.agg [.k (.int .i64 (Y.L.length : Int)), .k (.int .i64 Y.usedB)])) [.ab (.fz ⟨84, 81, 3, 9⟩ q1 q2 mb nx L none hz)]
 | _, _, _ => False
noncomputable def XU1032 : Vx := { P := Tryz.prog, ct := (17, c_remove) :: XU931.ct, ty := tyTab, hold := [] }
theorem XU1032_ok : CtOk Inv Tryz.prog XU1032.ct := CtOk.cons w_remove (XU931_ok)
def vc_usedf : (Int) → (Int) → (Nat) → (Int) → (List (Int × LNode)) → (SV → List HO → Prop) → Prop :=
 fun q1 q2 mb nx L Q => inK .i64 q1 → inK .i64 q2 → inK .i64 nx → Value.map (some mb) = Value.map (some mb) ∧ (List.length L ≤ 9223372036854775807 → inK .i64 q1 → inK .i64 q2 → inK .i64 nx → Value.map (some mb) = Value.map (some mb) ∧ ∀ (hz 
 : Hp), LoopT (PUnit × (Int × Int × PUnit) × (Hp × Value × List (Int × LNode) × Option (Int × LNode)) × PUnit) (fun i again => hz = i.2.2.1.1 ∧ ∃ M, ((3 : TypeId) = (UTy.mk (84 : TypeId) (81 : TypeId) (3 : TypeId) (9 : TypeId)).kI ∧ (none : 
 Option LNode) = none ∧ i.2.2.1.2.1 = Value.map (some mb) ∧ M = L) ∧ (i.2.2.1.2.2.1 = [] → Q (SV.v (S1.agg [.k (.int .i64 i.2.1.1), .k (.int .i64 i.2.1.2.1)])) [.ab (.fz ⟨84, 81, 3, 9⟩ q1 q2 mb nx L none hz)]) ∧ ∀ (x : Kk.den Kk.int) (y : 
 Kk.uv Kk.int) (left' : List (Kk.den Kk.int × Kk.uv Kk.int)), List.Perm i.2.2.1.2.2.1 ((x, y) :: left') → (-9223372036854775808 : Int) ≤ x ∧ x ≤ 9223372036854775807 → ∃ M x_1 y_1, hz = i.2.2.1.1 ∧ ((3 : TypeId) = (UTy.mk (84 : TypeId) (81 : 
 TypeId) (3 : TypeId) (9 : TypeId)).kI ∧ (none : Option LNode) = none ∧ i.2.2.1.2.1 = Value.map (some mb) ∧ M = L) ∧ some (x, y) = some (x_1, y_1) ∧ ((-9223372036854775808 : Int) ≤ x_1 ∧ x_1 ≤ 9223372036854775807 → ∃ m, ((∃ r, getK L r = 
 some m) ∨ none = some m) ∧ m.blk = y_1.blk ∧ (NodeOk m → List.length m.data ≤ 9223372036854775807 → inK .i64 ((64 : Int) + (↑(List.length m.data) : Int)) ∧ ∃ m_1, ((∃ r, getK L r = some m_1) ∨ none = some m_1) ∧ m_1.blk = y_1.blk ∧ (NodeOk 
 m_1 → inK .i64 ((64 : Int) + (↑(List.length m.data) : Int) + (↑(ByteArray.size m_1.target) : Int)) ∧ inK .i64 (i.2.1.2.1 + ((64 : Int) + (↑(List.length m.data) : Int) + (↑(ByteArray.size m_1.target) : Int))) ∧ ∃ m_2, ((∃ r, getK L r = some 
 m_2) ∨ none = some m_2) ∧ m_2.blk = y_1.blk ∧ (NodeOk m_2 → List.length (List.map xaT m_2.xattrs) ≤ 9223372036854775807 → LoopP (fun i_1 again_1 => br (decide (i_1.1.1 < (↑(List.length (List.map xaT m_2.xattrs)) : Int))) (0 ≤ i_1.1.1 ∧ 
 i_1.1.1 < (↑(List.length (List.map xaT m_2.xattrs)) : Int) ∧ (Ty.ok xaTy (ixD xaTy (List.map xaT m_2.xattrs) i_1.1.1) → List.length (ixD xaTy (List.map xaT m_2.xattrs) i_1.1.1).2.1 ≤ 9223372036854775807 → inK .i64 ((↑(ByteArray.size (ixD 
 xaTy (List.map xaT m_2.xattrs) i_1.1.1).1) : Int) + (↑(List.length (ixD xaTy (List.map xaT m_2.xattrs) i_1.1.1).2.1) : Int)) ∧ inK .i64 (i_1.2.1.2.1 + ((↑(ByteArray.size (ixD xaTy (List.map xaT m_2.xattrs) i_1.1.1).1) : Int) + 
 (↑(List.length (ixD xaTy (List.map xaT m_2.xattrs) i_1.1.1).2.1) : Int))) ∧ inK .i64 (i_1.1.1 + 1) ∧ again_1 ((i_1.1.1 + 1, ()), (i_1.2.1.1, i_1.2.1.2.1 + ((↑(ByteArray.size (ixD xaTy (List.map xaT m_2.xattrs) i_1.1.1).1) : Int) + 
 (↑(List.length (ixD xaTy (List.map xaT m_2.xattrs) i_1.1.1).2.1) : Int)), ()), ()))) (∃ m, ((∃ r, getK L r = some m) ∨ none = some m) ∧ m.blk = y_1.blk ∧ (NodeOk m → ∃ r m_3, getK L r = some m_3 ∧ m_3.vi = m.vi ∧ LoopT (PUnit × (Int × Int × 
 PUnit) × (Hp × Value × List (ByteArray × Int) × Option (ByteArray × Int)) × PUnit) (fun i_2 again_2 => hz = i_2.2.2.1.1 ∧ ∃ M, ((9 : TypeId) = (UTy.mk (84 : TypeId) (81 : TypeId) (3 : TypeId) (9 : TypeId)).kS ∧ ∃ m, (∃ r, getK L r = some m) 
 ∧ m.vi = i_2.2.2.1.2.1 ∧ m.ents = M) ∧ (i_2.2.2.1.2.2.1 = [] → again ((), i_2.2.1, (i.2.2.1.1, i.2.2.1.2.1, left', some (x, y)), ())) ∧ ∀ (x : Kk.den Kk.str) (y : Kk.uv Kk.str) (left' : List (Kk.den Kk.str × Kk.uv Kk.str)), List.Perm 
 i_2.2.2.1.2.2.1 ((x, y) :: left') → ByteArray.size x ≤ 9223372036854775807 ∧ inK .i64 y → ∃ M x_2 y_2, hz = i_2.2.2.1.1 ∧ ((9 : TypeId) = (UTy.mk (84 : TypeId) (81 : TypeId) (3 : TypeId) (9 : TypeId)).kS ∧ ∃ m, (∃ r, getK L r = some m) ∧ 
 m.vi = i_2.2.2.1.2.1 ∧ m.ents = M) ∧ some (x, y) = some (x_2, y_2) ∧ (ByteArray.size x_2 ≤ 9223372036854775807 ∧ inK .i64 y_2 → inK .i64 (i_2.2.1.2.1 + (↑(ByteArray.size x_2) : Int)) ∧ again_2 ((), (i_2.2.1.1, i_2.2.1.2.1 + 
 (↑(ByteArray.size x_2) : Int), ()), (i_2.2.2.1.1, i_2.2.2.1.2.1, left', some (x, y)), ()))) ((), i_1.2.1, (hz, m.vi, m_3.ents, none), ())))) (((0 : Int), ()), (i.2.1.1, i.2.1.2.1 + ((64 : Int) + (↑(List.length m.data) : Int) + 
 (↑(ByteArray.size m_1.target) : Int)), ()), ())))))) ((), ((L.length : Int), (0 : Int), ()), (hz, Value.map (some mb), L, none), ()))
theorem vc_usedf_eq (q1 : Int) (q2 : Int) (mb : Nat) (nx : Int) (L : List (Int × LNode)) (Q : SV → List HO → Prop) : vFun XU1032 ⟨[(4, ⟨[], [(2, .cells 23 [.int .i64, .int .i64]), (3, .ab (.mit .int 3 0))]⟩), (8, ⟨[(48, .int .i64)], [(2, .cells 23 [.int .i64, .int .i64])]⟩), (13, ⟨[], [(2, .cells 23 [.int .i64, .int .i64]), (4, .ab (.mit .str 9 0))]⟩)], []⟩ Tryz.f21 [.v (.c (.p 0 0))] [.up ⟨84, 81, 3, 9⟩ q1 q2 mb nx L] Q = vc_usedf q1 q2 mb nx L Q := by kernel_rfl
theorem w_usedf : ∀ args H Q, c_usedf args H Q → Wp Inv Tryz.prog 21 args H Q := by
 intro args H Q h
 unfold c_usedf at h
 split at h
 rotate_left
 ·exact h.elim
 rename_i q1 q2 mb nx L
 refine Wp.enter (X := XU1032) XU1032_ok ⟨[(4, ⟨[], [(2, .cells 23 [.int .i64, .int .i64]), (3, .ab (.mit .int 3 0))]⟩), (8, ⟨[(48, .int .i64)], [(2, .cells 23 [.int .i64, .int .i64])]⟩), (13, ⟨[], [(2, .cells 23 [.int .i64, .int .i64]), (4, .ab (.mit .str 9 0))]⟩)], []⟩ (fn := Tryz.f21) (by kernel_rfl) ?_
 have hv := vc_usedf_eq q1 q2 mb nx L Q
 rw [show vFun _ _ _ _ _ _ = _ from hv]
 unfold vc_usedf
 obtain ⟨Y, ⟨rfl, rfl, rfl, hr⟩, hp, hq⟩ := h
 have w := hp.wf
 have hT := hr.used w
 have hB := (usedB_le hp).2
 have hlen : (L.length : Int) = Y.L.length := by
  have := hr.keys.length_eq
  rw [List.length_map, List.length_map] at this
  omega
 intro _ _ _
 refine ⟨rfl, fun _ _ _ _ => ⟨rfl, fun hz => ?_⟩⟩
 refine LoopP.intro (fun i => i.2.1.1 = L.length ∧ i.2.1.2.1 + fs (fun p : Int × LNode => costL p.2) i.2.2.1.2.2.1 = Y.usedB ∧ 0 ≤ i.2.1.2.1 ∧ (∀ p ∈ i.2.2.1.2.2.1, getK L p.1 = some p.2) ∧ i.2.2.1.1 = hz ∧ i.2.2.1.2.1 = Value.map (some mb)) (fun i => i.2.2.1.2.2.1.length) ⟨rfl, by simp only; omega, by simp only; omega, fun p hp => getK_of_mem (hr.nodup w) hp, rfl, rfl⟩ ?_
 rintro ⟨_, ⟨k, b, _⟩, ⟨hz', v, left, cur⟩, _⟩ ⟨hk, hb, hb0, hin, h7, h8⟩
 simp only at hk hb hb0 hin h7 h8
 subst h7 h8 hk
 simp only
 refine ⟨trivial, _, ⟨trivial, trivial, trivial, rfl⟩, fun h0 => ?_, fun x y left' hp3 _ => ⟨_, x, y, trivial, ⟨trivial, trivial, trivial, rfl⟩, rfl, fun _ => ?_⟩⟩
 ·subst h0
  have e : b = Y.usedB := by rw [← hb]; show b = b + 0; omega
  rw [hlen, e]
  exact hq _
 have hg : getK L x = some y := hin (x, y) (hp3.mem_iff.2 (by simp))
 rw [fs_perm _ hp3, fs_cons] at hb
 have hrest : 0 ≤ fs (fun p : Int × LNode => costL p.2) left' := fs_nn fun p _ => by have := costL_nn p.2; omega
 have hx0 := fs_szX_nn (y.xattrs.map xaT)
 have he0 := fs_szE_nn y.ents
 have hc : costL y = 64 + y.data.length + y.target.size + fs szX (y.xattrs.map xaT) + fs szE y.ents := rfl
 simp only at hb
 refine ⟨y, .inl ⟨_, hg⟩, rfl, fun _ _ => ⟨by unfold inK; omega, y, .inl ⟨_, hg⟩, rfl, fun _ => ⟨by unfold inK; omega, by unfold inK; omega, y, .inl ⟨_, hg⟩, rfl, fun _ _ => ?_⟩⟩⟩
 refine LoopP.intro (fun i => 0 ≤ i.1.1 ∧ i.1.1 ≤ (y.xattrs.map xaT).length ∧ i.2.1.1 = L.length ∧ i.2.1.2.1 + fs szX ((y.xattrs.map xaT).drop i.1.1.toNat) = b + (64 + y.data.length + y.target.size) + fs szX (y.xattrs.map xaT) ∧ 0 ≤ i.2.1.2.1) (fun i => (y.xattrs.map xaT).length - i.1.1.toNat) ⟨by simp only; omega, by simp only; omega, rfl, by simp only [show (0 : Int).toNat = 0 from rfl, List.drop_zero], by simp only; omega⟩ ?_
 rintro ⟨⟨i, _⟩, ⟨k2, c, _⟩, _⟩ ⟨g0, g1, g2, g3, g4⟩
 simp only at g0 g1 g2 g3 g4
 subst g2
 simp only
 refine br_of (fun h1 => ?_) (fun h1 => ?_)
 ·have h1 : i < ((y.xattrs.map xaT).length : Int) := of_decide_eq_true h1
  rw [ixD_drop (e := xaTy) g0 h1, fs_cons] at g3
  have h2 := fs_szX_nn ((y.xattrs.map xaT).drop (i + 1).toNat)
  have h3 : szX (ixD xaTy (y.xattrs.map xaT) i) = ((ixD xaTy (y.xattrs.map xaT) i).1.size : Int) + (ixD xaTy (y.xattrs.map xaT) i).2.1.length := rfl
  exact ⟨g0, h1, fun _ _ => ⟨by unfold inK; omega, by unfold inK; omega, by unfold inK; omega, ⟨by omega, by omega, trivial, by omega, by omega⟩, by omega⟩⟩
 have h1 : ¬ i < ((y.xattrs.map xaT).length : Int) := of_decide_eq_false h1
 rw [drop_all h1] at g3
 have g3 : c = b + (64 + y.data.length + y.target.size) + fs szX (y.xattrs.map xaT) := by rw [← g3]; show c = c + 0; omega
 refine ⟨y, .inl ⟨_, hg⟩, rfl, fun _ => ⟨_, y, hg, rfl, ?_⟩⟩
 refine LoopP.intro (fun j => j.2.1.1 = L.length ∧ j.2.1.2.1 + fs szE j.2.2.1.2.2.1 = c + fs szE y.ents ∧ 0 ≤ j.2.1.2.1 ∧ j.2.2.1.1 = hz' ∧ j.2.2.1.2.1 = y.vi) (fun j => j.2.2.1.2.2.1.length) ⟨rfl, rfl, g4, rfl, rfl⟩ ?_
 rintro ⟨_, ⟨k3, q, _⟩, ⟨hz2, v2, left2, cur2⟩, _⟩ ⟨q1, q2, q3, q4, q5⟩
 simp only at q1 q2 q3 q4 q5
 subst q1 q4 q5
 simp only
 refine ⟨trivial, _, ⟨trivial, y, ⟨_, hg⟩, rfl, rfl⟩, fun h0 => ?_, fun z x2 left3 hp4 _ => ⟨_, z, x2, trivial, ⟨trivial, y, ⟨_, hg⟩, rfl, rfl⟩, rfl, fun _ => ?_⟩⟩
 ·subst h0
  have q2 : q = c + fs szE y.ents := by rw [← q2]; show q = q + 0; omega
  refine ⟨⟨trivial, by omega, by omega, fun p hp => hin p (hp3.mem_iff.2 (by simp [hp])), trivial, trivial⟩, ?_⟩
  have := hp3.length_eq; simp at this; omega
 ·rw [fs_perm _ hp4, fs_cons] at q2
  have h2 := fs_szE_nn left3
  have h3 : szE (z, x2) = (z.size : Int) := rfl
  refine ⟨by unfold inK; omega, ⟨trivial, by omega, by omega, trivial, trivial⟩, ?_⟩
  have := hp4.length_eq; simp at this; omega
def c_used : Ct
 | [.v (.c (.p 0 0))], [.ab (.upr ⟨84, 81, 3, 9⟩ Y)], Q => (Y.Ok) ∧ Q (.v (.agg [.k (.int .i64 (Y.L.length : Int)), .k (.int .i64 Y.usedB)])) [.ab (.upr ⟨84, 81, 3, 9⟩ (Y))]
 | _, _, _ => False
theorem w_used : ∀ args H Q, c_used args H Q → Wp Inv Tryz.prog 21 args H Q := by
 intro args H Q h
 unfold c_used at h
 split at h
 ·rename_i Y
  refine Wp.uprO fun mb L hr => w_usedf _ _ _ ?_
  unfold c_usedf
  exact ⟨Y, ⟨rfl, rfl, rfl, hr⟩, h.1, fun hz => ⟨_, _, _, rfl, ⟨rfl, rfl, rfl, rfl, hr⟩, h.2⟩⟩
 ·exact h.elim
def c_over0 : Ct
 | [.v (.c (.p 0 0))], [.up ⟨84, 81, 3, 9⟩ q1 q2 mb nx L], Q => ∃ Y : UpY, (q1 = Y.q1 ∧ q2 = Y.q2 ∧ nx = Y.nx ∧ RepY L Y) ∧ (Y.Ok) ∧ ∀ o, UpIs ⟨84, 81, 3, 9⟩ (Y) o → Q (.bool Y.over) [o]
 | _, _, _ => False
noncomputable def XU1033 : Vx := { P := Tryz.prog, ct := (21, c_usedf) :: (21, c_used) :: (21, c_usedf) :: XU1032.ct, ty := tyTab, hold := [] }
theorem XU1033_ok : CtOk Inv Tryz.prog XU1033.ct := CtOk.cons w_usedf (CtOk.cons w_used (CtOk.cons w_usedf (XU1032_ok)))
def vc_over0 : (Int) → (Int) → (Nat) → (Int) → (List (Int × LNode)) → (SV → List HO → Prop) → Prop :=
 fun q1 q2 mb nx L Q => ∃ Y, (q1 = Y.q1 ∧ q2 = Y.q2 ∧ nx = Y.nx ∧ RepY L Y) ∧ UpY.Ok Y ∧ ∀ (hz : Hp), inK .i64 (↑(List.length Y.L) : Int) → inK .i64 (UpY.usedB Y) → inK .i64 q1 → inK .i64 q2 → inK .i64 nx → br (decide ((↑(List.length Y.L) : 
 Int) > q1)) (Q (.v (.c (.k (.bool true)))) [.ab (.fz ⟨84, 81, 3, 9⟩ q1 q2 mb nx L none hz)]) (inK .i64 q1 → inK .i64 q2 → inK .i64 nx → Q (.v (.c (.k (.bool (decide (UpY.usedB Y > q2)))))) [.ab (.fz ⟨84, 81, 3, 9⟩ q1 q2 mb nx L none hz)])
theorem vc_over0_eq (q1 : Int) (q2 : Int) (mb : Nat) (nx : Int) (L : List (Int × LNode)) (Q : SV → List HO → Prop) : vFun XU1033 ⟨[], []⟩ Tryz.f31 [.v (.c (.p 0 0))] [.up ⟨84, 81, 3, 9⟩ q1 q2 mb nx L] Q = vc_over0 q1 q2 mb nx L Q := by kernel_rfl
theorem w_over0 : ∀ args H Q, c_over0 args H Q → Wp Inv Tryz.prog 31 args H Q := by
 intro args H Q h
 unfold c_over0 at h
 split at h
 rotate_left
 ·exact h.elim
 rename_i q1 q2 mb nx L
 refine Wp.enter (X := XU1033) XU1033_ok ⟨[], []⟩ (fn := Tryz.f31) (by kernel_rfl) ?_
 have hv := vc_over0_eq q1 q2 mb nx L Q
 rw [show vFun _ _ _ _ _ _ = _ from hv]
 unfold vc_over0
 obtain ⟨Y, ⟨rfl, rfl, rfl, hr⟩, hp, hq⟩ := h
 have fin : ∀ c, Y.over = c → ∀ hz, Q (.bool c) [.ab (.fz ⟨84, 81, 3, 9⟩ Y.q1 Y.q2 mb Y.nx L none hz)] := fun c e hz => by
  rw [e] at hq
  exact hq _ ⟨rfl, rfl, rfl, rfl, hr⟩
 refine ⟨Y, ⟨rfl, rfl, rfl, hr⟩, hp, fun hz _ _ _ _ _ => br_of (fun h1 => fin true ?_ hz) (fun h1 => fun _ _ _ => fin _ ?_ hz)⟩
 ·unfold UpY.over; rw [h1]; rfl
 ·unfold UpY.over; rw [h1]; rfl
def c_over : Ct
 | [.v (.c (.p 0 0))], [.ab (.upr ⟨84, 81, 3, 9⟩ Y)], Q => (Y.Ok) ∧ Q (.bool Y.over) [.ab (.upr ⟨84, 81, 3, 9⟩ (Y))]
 | _, _, _ => False
theorem w_over : ∀ args H Q, c_over args H Q → Wp Inv Tryz.prog 31 args H Q := by
 intro args H Q h
 unfold c_over at h
 split at h
 ·rename_i Y
  refine Wp.uprO fun mb L hr => w_over0 _ _ _ ?_
  unfold c_over0
  exact ⟨Y, ⟨rfl, rfl, rfl, hr⟩, h.1, fun o ho => ⟨o, _, _, rfl, ho, h.2⟩⟩
 ·exact h.elim
end Go.Proofs

