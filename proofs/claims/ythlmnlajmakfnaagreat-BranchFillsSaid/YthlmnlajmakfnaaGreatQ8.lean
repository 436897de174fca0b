/- Texts of mine, laid together: Keys U12 ShelfJ B1 B2 B3 B4 B5 LmYn Cmp. -/
import Derived.Test.YthlmnlajmakfnaaGreatQ7
import Derived.Shelf.SlIter.Sorted
import Derived.Test.YthlmnlajmakfnaaGreatQ6
import Derived.Test.YthlmnlajmakfnaaGreatProg
import Derived.Test.YthlmnlajmakfnaaGreatChecked
import Derived.Test.YthlmnlajmakfnaaGreatQ3
import Derived.Shelf.Strings.Builder1
import Derived.Shelf.Strings.Builder2
import Derived.Shelf.Strings.OnBuilder
import Derived.Shelf.Small.Bits
import Derived.Shelf.Small.Strs
import Derived.Shelf.Strings.BuilderF
import Derived.Shelf.Strings.BuilderK
import Derived.Shelf.Strings.Builder2Cap
import Derived.Shelf.Strconv.Itoa0
import Derived.Shelf.Strings.Search1
import Derived.Shelf.Sort.Plain
import Derived.Shelf.Strings.BuilderCap
import Derived.Ground.Names2Prog
import Derived.Shelf.Slices.Clone
import Derived.Shelf.Slices.In.SortNone
import Derived.Shelf.Bytes.SlIndexAt
import Derived.Shelf.Bytes.SlSearch0
import Derived.Ground.SlbCloneProg
import Derived.Shelf.Bytes.SlClone
import Derived.Shelf.Bytes.SlEqualAll
import Derived.Shelf.Bytes.Small
import Derived.Shelf.Bytes.IndexByte
import Derived.Test.YthlmnlajmakfnaaGreatQ5
import Derived.Sort.Grow
import Derived.Deep.Draws
import Derived.Shelf.Lay
import Derived.Lib.Walk
import Derived.Handy
import Derived.Deep.LoopGhost
set_option linter.unusedVariables false
namespace Go.Proofs
open Go Go.RowKit Go.Maps Go.Sort Go.Shelf Go.Lm
def Tryz.keysA_ren : Go.Shelf.Ren := ⟨fun | 7 => 127 | 10 => 151 | n => n, fun | 23 => 79 | 26 => 9 | 3 => 3 | 28 => 157 | 0 => 0 | 27 => 156 | 33 => 153 | 4 => 4 | n => n, fun | n => n⟩
theorem Tryz.keysA : Go.Proofs.SlLaysZ.n7 Tryz.prog Tryz.keysA_ren := {
 mixed := by kernel_rfl
 f7 := ⟨"maps.Keys[map[string]int,string,int]", by kernel_rfl, Tryz.func127.trans (congrArg some (by kernel_rfl))⟩
 f10 := ⟨"maps.Keys[map[string]int,string,int]$1", by kernel_rfl, Tryz.func151.trans (congrArg some (by kernel_rfl))⟩
 t0 := Tryz.underlying0
 a0 := Tryz.isAgg0
 z0 := Tryz.sizeOf0
 v0 := Tryz.zeroValue0
 t4 := Tryz.underlying4
 a4 := Tryz.isAgg4
 z4 := Tryz.sizeOf4
 v4 := Tryz.zeroValue4
 t23 := Tryz.underlying79
 a23 := Tryz.isAgg79
 z23 := Tryz.sizeOf79
 v23 := Tryz.zeroValue79
 t26 := Tryz.underlying9
 a26 := Tryz.isAgg9
 z26 := Tryz.sizeOf9
 v26 := Tryz.zeroValue9
 t27 := Tryz.underlying156
 a27 := Tryz.isAgg156
 z27 := Tryz.sizeOf156
 v27 := Tryz.zeroValue156
 t28 := Tryz.underlying157
 a28 := Tryz.isAgg157
 z28 := Tryz.sizeOf157
 v28 := Tryz.zeroValue157
 t33 := Tryz.underlying153
 a33 := Tryz.isAgg153
 z33 := Tryz.sizeOf153
 v33 := Tryz.zeroValue153 }
def Tryz.sortedA_ren : Go.Shelf.Ren := ⟨fun | 6 => 126 | 8 => 149 | 9 => 150 | 11 => 164 | n => n, fun | 26 => 9 | 28 => 157 | 24 => 30 | 0 => 0 | 3 => 3 | 4 => 4 | 33 => 153 | n => n, fun | n => n⟩
theorem Tryz.sortedA : Go.Proofs.SlLaysZ.n6 Tryz.prog Tryz.sortedA_ren := {
 mixed := by kernel_rfl
 f6 := ⟨"slices.Sorted[string]", by kernel_rfl, Tryz.func126.trans (congrArg some (by kernel_rfl))⟩
 f8 := ⟨"slices.Collect[string]", by kernel_rfl, Tryz.func149.trans (congrArg some (by kernel_rfl))⟩
 f11 := ⟨"slices.AppendSeq[[]string,string]", by kernel_rfl, Tryz.func164.trans (congrArg some (by kernel_rfl))⟩
 t0 := Tryz.underlying0
 a0 := Tryz.isAgg0
 z0 := Tryz.sizeOf0
 v0 := Tryz.zeroValue0
 t24 := Tryz.underlying30
 a24 := Tryz.isAgg30
 z24 := Tryz.sizeOf30
 v24 := Tryz.zeroValue30
 t26 := Tryz.underlying9
 a26 := Tryz.isAgg9
 z26 := Tryz.sizeOf9
 v26 := Tryz.zeroValue9
 t28 := Tryz.underlying157
 a28 := Tryz.isAgg157
 z28 := Tryz.sizeOf157
 v28 := Tryz.zeroValue157
 i26 := by kernel_rfl }
theorem sortsA (m : Nat) : AnyZ.SortsIn Tryz.prog Tryz.sortedA_ren Fence.wide m :=
  ⟨fun blk off cap ss W hH hblk hsz => callsIn_wide.2 (Tryz.slices_Sort_string blk off cap ss W hH hblk hsz),
   fun p cap W => callsIn_wide.2 (Tryz.slices_Sort_string_none p cap W)⟩
theorem keysC (w : World) (u ib : Nat) (D0 : DataW Value) (hu : u < w.heap.size) (hc : w.cell? ⟨u, 0, none⟩ = some (.map (some ib))) (ho : w.ownsMap Tryz.prog 9 holdV ib (Maps.size D0) D0) (hs : Maps.size D0 ≤ 1099511627776) :
  Calls Tryz.prog 126 #[.func (.func 151) #[] #[.pointer (some ⟨u, 0, none⟩)]] w fun e w' => ∃ (v : Value) (ss : List (List UInt8)), e = .returned v ∧ ss.Perm (strKeys D0) ∧ w'.ownsRow w.heap.size 9 1 v ss.length ((ss.mergeSort fun x y => decide (x ≤ y)).map Go.Proofs.encStr) ∧ Below w.heap.size w w' := by
 refine (callsIn_wide (n := 5)).1 ?_
 have hseq : SeqGives Fence.wide 2 Tryz.prog 151 #[.pointer (some ⟨u, 0, none⟩)] encStr (fun ss => ss.Perm (strKeys D0)) (Maps.size D0) w :=
  AnyZ.keys_gives (ρ := Tryz.keysA_ren) { Tryz.keysA with } Fence.wide _ trivial rfl (by omega) u ib _ D0 _ hu hc ho
 have cS := AnyZ.sorted_in Tryz.sortedA Fence.wide 5 trivial trivial trivial trivial rfl (by omega) (sortsA _) (enters_of Tryz.func150 (by kernel_rfl) rfl) 151 #[.pointer (some ⟨u, 0, none⟩)] trivial (enters_of Tryz.func151 (by kernel_rfl) rfl) _ _ (by unfold maxLen; omega) (by omega) _ hseq
 exact cS.mono fun e w' ⟨v, ss, h1, h2, h3, _, h4⟩ => ⟨v, ss, h1, h2, h3, h4⟩
end Go.Proofs

namespace Go.Proofs
open Go Go.Lm Go.RowKit
set_option maxRecDepth 1000000
def c_keys : Ct
 | [.v (.c (.kl 0 v))], [.up ⟨84, 81, 3, 9⟩ q1 q2 mb nx L], Q => Q (.c (.fn 151 [.p 1 0])) [.up ⟨84, 81, 3, 9⟩ q1 q2 mb nx L, .cells 79 [.kl 0 v]]
 | _, _, _ => False
noncomputable def XU1235 : Vx := { P := Tryz.prog, ct := (9, c_newu) :: XU1134.ct, ty := tyTab, hold := [] }
theorem XU1235_ok : CtOk Inv Tryz.prog XU1235.ct := CtOk.cons w_newu (XU1134_ok)
def vc_keys : (Value) → (Int) → (Int) → (Nat) → (Int) → (List (Int × LNode)) → (SV → List HO → Prop) → Prop :=
 fun v q1 q2 mb nx L Q => Q (SV.v (S1.c (Cl.fn (151 : Nat) [.p 1 0]))) [.up ⟨84, 81, 3, 9⟩ q1 q2 mb nx L, .cells 79 [Cl.kl (0 : Nat) v]]
theorem vc_keys_eq (v : Value) (q1 : Int) (q2 : Int) (mb : Nat) (nx : Int) (L : List (Int × LNode)) (Q : SV → List HO → Prop) : vFun XU1235 ⟨[], []⟩ Tryz.f127 [.c (.kl 0 v)] [.up ⟨84, 81, 3, 9⟩ q1 q2 mb nx L] Q = vc_keys v q1 q2 mb nx L Q := by kernel_rfl
theorem w_keys : ∀ args H Q, c_keys args H Q → Wp Inv Tryz.prog 127 args H Q := by
 intro args H Q h
 unfold c_keys at h
 split at h
 rotate_left
 ·exact h.elim
 rename_i v q1 q2 mb nx L
 refine Wp.enter (X := XU1235) XU1235_ok ⟨[], []⟩ (fn := Tryz.f127) (by kernel_rfl) ?_
 have hv := vc_keys_eq v q1 q2 mb nx L Q
 rw [show vFun _ _ _ _ _ _ = _ from hv]
 unfold vc_keys
 exact h
def c_sorted : Ct
 | [.v (.c (.fn 151 [.p 0 0]))], [.cells 79 [.kl 1 v], .up ⟨84, 81, 3, 9⟩ q1 q2 mb nx L], Q => ∃ r m, getK L r = some m ∧ m.vi = v ∧ m.kind = 1 ∧ m.ents.length ≤ 1099511627776 ∧ ∀ xs, SortedS xs (m.ents.map (·.1)) → Q (.c (.o 2)) [.cells 79 [.kl 1 v], .up ⟨84, 81, 3, 9⟩ q1 q2 mb nx L, .sl 9 .str xs]
 | _, _, _ => False
theorem w_sorted : ∀ args H Q, c_sorted args H Q → Wp Inv Tryz.prog 126 args H Q := by
 intro args H Q h
 unfold c_sorted at h
 split at h
 ·obtain ⟨r, m, h1, h2, h3, h4, h5⟩ := h
  exact Wp.sortedKeys (T := ⟨84, 81, 3, 9⟩) ⟨Tryz.underlying3, Tryz.underlying9⟩ keysC h1 h2 h3 h4 h5
 ·exact h.elim
def c_list0 : Ct
 | [.v (.c (.p 0 0)), .v (.c (.k (.int .i64 ref)))], [.up ⟨84, 81, 3, 9⟩ q1 q2 mb nx L], Q => ∃ Y : UpY, (q1 = Y.q1 ∧ q2 = Y.q2 ∧ nx = Y.nx ∧ RepY L Y) ∧ (Y.Ok) ∧ ∀ o, UpIs ⟨84, 81, 3, 9⟩ (Y) o → Q (.tup [.c (.o 1), .c (.k (.int .i64 (Y.dirE ref)))]) [o, .sl 54 xeTy (Y.listD ref)]
 | _, _, _ => False
noncomputable def XU1236 : Vx := { P := Tryz.prog, ct := (126, c_sorted) :: (127, c_keys) :: XU1235.ct, ty := tyTab, hold := [] }
theorem XU1236_ok : CtOk Inv Tryz.prog XU1236.ct := CtOk.cons w_sorted (CtOk.cons w_keys (XU1235_ok))
def vc_list0 : (Int) → (Int) → (Int) → (Nat) → (Int) → (List (Int × LNode)) → (SV → List HO → Prop) → Prop :=
 fun ref q1 q2 mb nx L Q => inK .i64 ref → (getK L ref = none → inK .i64 1 → Q (.tup [.c (.k (.slice none 0 0)), .c (.k (.int .i64 1))]) [.up ⟨84, 81, 3, 9⟩ q1 q2 mb nx L]) ∧ ∀ (m : LNode), getK L ref = some m → NodeOk m → br (m.kind == 1) 
 (inK .i64 0 → ∃ r m_1, getK L r = some m_1 ∧ m_1.blk = m.blk ∧ (NodeOk m_1 → ∃ r m_2, getK L r = some m_2 ∧ m_2.vi = m_1.vi ∧ m_2.kind = (1 : Int) ∧ List.length m_2.ents ≤ 1099511627776 ∧ ∀ (xs : List ByteArray), SortedS xs (List.map (fun x 
 => x.1) m_2.ents) → List.length xs ≤ 9223372036854775807 → LoopP (fun i again => br (decide (i.1.1 < (xs.length : Int))) (0 ≤ i.1.1 ∧ i.1.1 < (xs.length : Int) ∧ 0 ≤ i.1.1 ∧ i.1.1 < (xs.length : Int) ∧ (Ty.ok Ty.str (ixD Ty.str xs i.1.1) → 
 ∃ r m_3, getK i.2.1.2.2.2.2 r = some m_3 ∧ m_3.blk = m.blk ∧ (NodeOk m_3 → ∃ r m, getK i.2.1.2.2.2.2 r = some m ∧ m.vi = m_3.vi ∧ (getK m.ents (ixD Ty.str xs i.1.1) = none → ∃ m, getK i.2.1.2.2.2.2 (0 : Int) = some m ∧ (ByteArray.size (ixD 
 Ty.str xs i.1.1) ≤ 9223372036854775807 → inK .i64 m.kind → inK .i64 0 → (List.length i.1.2.1 + List.length [(ixD Ty.str xs i.1.1, m.kind, (0 : Int), ())]) * 32 ≤ 140737488355328 ∧ List.length i.1.2.1 + List.length [(ixD Ty.str xs i.1.1, 
 m.kind, (0 : Int), ())] ≤ 9223372036854775807 ∧ inK .i64 (i.1.1 + 1) ∧ again ((i.1.1 + 1, i.1.2.1 ++ [(ixD Ty.str xs i.1.1, m.kind, (0 : Int), ())], ()), i.2))) ∧ ∀ (x : Int), getK m.ents (ixD Ty.str xs i.1.1) = some x → inK .i64 x → ∃ m, 
 getK i.2.1.2.2.2.2 x = some m ∧ (ByteArray.size (ixD Ty.str xs i.1.1) ≤ 9223372036854775807 → inK .i64 m.kind → inK .i64 x → (List.length i.1.2.1 + List.length [(ixD Ty.str xs i.1.1, m.kind, x, ())]) * 32 ≤ 140737488355328 ∧ List.length 
 i.1.2.1 + List.length [(ixD Ty.str xs i.1.1, m.kind, x, ())] ≤ 9223372036854775807 ∧ inK .i64 (i.1.1 + 1) ∧ again ((i.1.1 + 1, i.1.2.1 ++ [(ixD Ty.str xs i.1.1, m.kind, x, ())], ()), i.2))))) (Q (SV.tup [S1.c (.o 1), .c (.k (.int .i64 0))]) 
 [.up ⟨84, 81, 3, 9⟩ i.2.1.1 i.2.1.2.1 i.2.1.2.2.1 i.2.1.2.2.2.1 i.2.1.2.2.2.2, .sl 54 xeTy i.1.2.1])) (((0 : Int), [], ()), (q1, q2, mb, nx, L), ()))) (inK .i64 24 → Q (.tup [.c (.k (.slice none 0 0)), .c (.k (.int .i64 24))]) [.up ⟨84, 81, 
 3, 9⟩ q1 q2 mb nx L])
theorem vc_list0_eq (ref : Int) (q1 : Int) (q2 : Int) (mb : Nat) (nx : Int) (L : List (Int × LNode)) (Q : SV → List HO → Prop) : vFun XU1236 ⟨[(7, ⟨[(27, .int .i64), (8, .own 54 xeTy)], [(0, .up ⟨84, 81, 3, 9⟩)]⟩)], []⟩ Tryz.f96 [.v (.c (.p 0 0)), .int ref] [.up ⟨84, 81, 3, 9⟩ q1 q2 mb nx L] Q = vc_list0 ref q1 q2 mb nx L Q := by kernel_rfl
theorem w_list0 : ∀ args H Q, c_list0 args H Q → Wp Inv Tryz.prog 96 args H Q := by
 intro args H Q h
 unfold c_list0 at h
 split at h
 rotate_left
 ·exact h.elim
 rename_i ref q1 q2 mb nx L
 refine Wp.ownNil2 (t := 54) (e := xeTy) ?_
 refine Wp.enter (X := XU1236) XU1236_ok ⟨[(7, ⟨[(27, .int .i64), (8, .own 54 xeTy)], [(0, .up ⟨84, 81, 3, 9⟩)]⟩)], []⟩ (fn := Tryz.f96) (by kernel_rfl) ?_
 refine Eq.mpr (vc_list0_eq ref q1 q2 mb nx L _) ?_
 unfold vc_list0
 obtain ⟨Y, ⟨rfl, rfl, rfl, hr⟩, hp, hq⟩ := h
 have w := hp.wf
 have nil : ∀ z, Y.dirE ref = z → z ≠ 0 → Q (.tup [.c (.o 1), .c (.k (.int .i64 z))]) [.up ⟨84, 81, 3, 9⟩ Y.q1 Y.q2 mb Y.nx L, .sl 54 xeTy []] := fun z e hz => by
  have hl : Y.listD ref = [] := if_neg (by rw [e]; exact hz)
  rw [hl, e] at hq
  exact hq _ ⟨rfl, rfl, rfl, rfl, hr⟩
 intro _
 rcases hr.both ref with ⟨hn, hy⟩ | ⟨m, y, hg, hy, hN⟩
 ·refine ⟨fun _ _ => .inr ⟨1, rfl, nil 1 (dirE_none hy) (by decide)⟩, fun m hg => ?_⟩
  rw [hn] at hg; cases hg
 have hen := hp.en
 have hel := ents_len hN
 have hcp : Y.E.countP (ofD ref) ≤ Y.E.length := List.countP_le_length
 refine ⟨no_some hg, only hg fun _ => br_of (fun h1 => fun _ => ⟨_, m, hg, rfl, fun _ => ⟨_, m, hg, rfl, eq_of_beq h1, by omega, fun xs hx hxl => ?_⟩⟩) (fun h1 => fun _ => .inr ⟨24, rfl, nil 24 ?_ (by decide)⟩)⟩
 ·have k1 : y.2.2.1 = 1 := by rw [← hN.kind]; exact eq_of_beq h1
  have hd : Y.dirE ref = 0 := by rw [dirE_some hy, if_pos k1]
  have hlen : xs.length = m.ents.length := by rw [hx.perm.length_eq, List.length_map]
  refine LoopP.intro (fun i => 0 ≤ i.1.1 ∧ i.1.1 ≤ xs.length ∧ i.1.2.1 = (xs.take i.1.1.toNat).map (xeOf Y m) ∧ i.2.1 = (Y.q1, Y.q2, mb, Y.nx, L)) (fun i => xs.length - i.1.1.toNat) ⟨by simp, by simp, by simp, rfl⟩ ?_
  rintro ⟨⟨i, out, _⟩, _, _⟩ ⟨h2, h3, h4, rfl⟩
  simp only at h2 h3 h4 ⊢
  refine br_of (fun hc => ?_) (fun hc => ?_)
  ·have hc : i < xs.length := of_decide_eq_true hc
   have hm : ixD .str xs i ∈ xs := ixD_mem (e := .str) h2 hc
   obtain ⟨p, hpm, hps⟩ := List.mem_map.1 (hx.perm.mem_iff.1 hm)
   have hgp : getK m.ents (ixD .str xs i) = some p.2 := getK_of_mem (ents_nodup w hN) (by rw [← hps]; exact hpm)
   have hol : out.length ≤ xs.length := by rw [h4, List.length_map, List.length_take]; omega
   refine ⟨h2, hc, h2, hc, fun _ => ⟨_, m, hg, rfl, fun _ => ⟨_, m, hg, rfl, fun hn => ?_, fun x hx2 _ => ?_⟩⟩⟩
   ·rw [hgp] at hn; cases hn
   ·rw [hgp] at hx2
    obtain rfl := Option.some.inj hx2
    obtain ⟨e', g1, g2, g3, g4⟩ := (ents_mem hN (s := p.1) (x := p.2)).1 hpm
    obtain ⟨yz, hyz⟩ := at_ref w g1
    rw [g4] at hyz
    obtain ⟨mz, hmz, hNz⟩ := hr.get hyz
    refine ⟨mz, hmz, fun _ _ _ => ⟨by simp only [List.length_singleton]; omega, by simp only [List.length_singleton]; omega, by unfold inK; omega, ⟨by omega, by omega, ?_, trivial⟩, by omega⟩⟩
    rw [ixD_take (e := .str) h2 hc, List.map_append, ← h4]
    congr 1
    have hk : Y.kindOf p.2 = mz.kind := by unfold UpY.kindOf; rw [hyz]; exact hNz.kind.symm
    simp only [List.map_cons, List.map_nil, xeOf, hgp, Option.getD_some, hk]
  ·have hc : ¬ i < xs.length := of_decide_eq_false hc
   rw [take_allI hc, list_eq w hN hd hx] at h4
   subst h4
   rw [hd] at hq
   exact .inl (hq _ ⟨rfl, rfl, rfl, rfl, hr⟩)
 ·have h1 : ¬ y.2.2.1 = 1 := by rw [← hN.kind]; simpa using h1
  rw [dirE_some hy, if_neg h1]
def c_list : Ct
 | [.v (.c (.p 0 0)), .v (.c (.k (.int .i64 ref)))], [.ab (.upr ⟨84, 81, 3, 9⟩ Y)], Q => (Y.Ok) ∧ Q (.tup [.c (.o 1), .c (.k (.int .i64 (Y.dirE ref)))]) [.ab (.upr ⟨84, 81, 3, 9⟩ (Y)), .sl 54 xeTy (Y.listD ref)]
 | _, _, _ => False
theorem w_list : ∀ args H Q, c_list args H Q → Wp Inv Tryz.prog 96 args H Q := by
 intro args H Q h
 unfold c_list at h
 split at h
 ·rename_i ref Y
  refine Wp.uprO fun mb L hr => w_list0 _ _ _ ?_
  unfold c_list0
  exact ⟨Y, ⟨rfl, rfl, rfl, hr⟩, h.1, fun o ho => ⟨o, _, _, rfl, ho, h.2⟩⟩
 ·exact h.elim
end Go.Proofs

namespace Go.Proofs
open Go.Shelf
set_option maxRecDepth 1000000
def Tryz.lays156_ren : Go.Shelf.Ren := ⟨fun | 156 => 152 | 165 => 166 | 166 => 167 | 169 => 168 | 240 => 182 | 241 => 183 | 276 => 187 | 277 => 188 | n => n, fun | 31 => 30 | 9 => 9 | 3 => 3 | 4 => 4 | 0 => 0 | 20 => 20 | 72 => 195 | 76 => 198 | 70 => 193 | 37 => 33 | 75 => 197 | 127 => 213 | 164 => 216 | 5 => 5 | 80 => 200 | n => n, fun | n => n⟩
theorem Tryz.lays156 : Go.Proofs.Lays.n156 Tryz.prog Tryz.lays156_ren := {
 mixed := by kernel_rfl
 f156 := Tryz.func152.trans (congrArg some (by kernel_rfl))
 f165 := Tryz.func166.trans (congrArg some (by kernel_rfl))
 f166 := Tryz.func167.trans (congrArg some (by kernel_rfl))
 f169 := Tryz.func168.trans (congrArg some (by kernel_rfl))
 f240 := Tryz.func182.trans (congrArg some (by kernel_rfl))
 f241 := Tryz.func183.trans (congrArg some (by kernel_rfl))
 f276 := Tryz.func187.trans (congrArg some (by kernel_rfl))
 f277 := Tryz.func188.trans (congrArg some (by kernel_rfl))
 t0 := Tryz.underlying0
 a0 := Tryz.isAgg0
 z0 := Tryz.sizeOf0
 v0 := Tryz.zeroValue0
 t3 := Tryz.underlying3
 a3 := Tryz.isAgg3
 z3 := Tryz.sizeOf3
 v3 := Tryz.zeroValue3
 t4 := Tryz.underlying4
 a4 := Tryz.isAgg4
 z4 := Tryz.sizeOf4
 v4 := Tryz.zeroValue4
 t9 := Tryz.underlying9
 a9 := Tryz.isAgg9
 z9 := Tryz.sizeOf9
 v9 := Tryz.zeroValue9
 t20 := Tryz.underlying20
 a20 := Tryz.isAgg20
 z20 := Tryz.sizeOf20
 v20 := Tryz.zeroValue20
 t31 := Tryz.underlying30
 a31 := Tryz.isAgg30
 z31 := Tryz.sizeOf30
 v31 := Tryz.zeroValue30
 t37 := Tryz.underlying33
 a37 := Tryz.isAgg33
 z37 := Tryz.sizeOf33
 v37 := Tryz.zeroValue33
 t70 := Tryz.underlying193
 a70 := Tryz.isAgg193
 z70 := Tryz.sizeOf193
 v70 := Tryz.zeroValue193
 t72 := Tryz.underlying195
 a72 := Tryz.isAgg195
 z72 := Tryz.sizeOf195
 v72 := Tryz.zeroValue195
 t75 := Tryz.underlying197
 a75 := Tryz.isAgg197
 z75 := Tryz.sizeOf197
 v75 := Tryz.zeroValue197
 t76 := Tryz.underlying198
 a76 := Tryz.isAgg198
 z76 := Tryz.sizeOf198
 v76 := Tryz.zeroValue198
 t127 := Tryz.underlying213
 a127 := Tryz.isAgg213
 z127 := Tryz.sizeOf213
 v127 := Tryz.zeroValue213
 t164 := Tryz.underlying216
 a164 := Tryz.isAgg216
 z164 := Tryz.sizeOf216
 v164 := Tryz.zeroValue216 }
theorem Tryz.Builder_Extra_156 : Builder.Extra Tryz.prog Tryz.lays156_ren := {
 sizeBuilder := by kernel_rfl
 liesBuilder := by kernel_rfl
 t5 := Tryz.underlying5
 a5 := Tryz.isAgg5
 z5 := Tryz.sizeOf5
 v5 := Tryz.zeroValue5
 infoByte := by kernel_rfl
 cellsByte := by kernel_rfl
 sizeByte := by kernel_rfl
 neB5 := by decide }
open Go.RowKit in
theorem Tryz.strings_Join_none (a : Option Addr) (c : Nat) (sep : ByteArray) (w : World) :
  Calls Tryz.prog 152 #[.slice a 0 c, .string sep] w fun e w' => e = .returned (.string ⟨#[]⟩) ∧ w' = w := Any.strings_Join_none Tryz.lays156 Tryz.Builder_Extra_156 a c sep w
open Go.RowKit in
theorem Tryz.strings_Join (bk o c : Nat) (xs : List ByteArray) (sep : ByteArray) (w : World) (hcells : ∀ (j : Nat) x, xs[j]? = some x → w.cell? ⟨bk, o + j, none⟩ = some (.string x)) (hbk : bk < w.heap.size) (hN : xs.length ≤ 140737488355328) (hcap : xs.length ≤ c) (hlen : (Lib.join (xs.map (·.data.toList)) sep.data.toList).length ≤ 140737488355328) :
  Calls Tryz.prog 152 #[.slice (some ⟨bk, o, none⟩) xs.length c, .string sep] w fun e w' => e = .returned (.string ⟨(Lib.join (xs.map (·.data.toList)) sep.data.toList).toArray⟩) ∧ Below w.heap.size w w' := Any.strings_Join Tryz.lays156 Tryz.Builder_Extra_156 bk o c xs sep w hcells hbk hN hcap hlen
end Go.Proofs

namespace Go.Proofs
open Go Go.Lm Go.RowKit
set_option maxRecDepth 1000000
def c_kwithin : Ct
 | [.v (.c (.k (.int .i64 x))), .v (.c (.k (.int .i64 a))), .v (.c (.k (.int .i64 b)))], [], Q => Q (.bool (withinI x a b)) []
 | _, _, _ => False
noncomputable def XB137 : Vx := { P := Tryz.prog, ct := [(125, c_sindex), (112, c_valid)], ty := tyTab, hold := [] }
theorem XB137_ok : CtOk Inv Tryz.prog XB137.ct := CtOk.cons w_sindex (CtOk.cons w_valid (CtOk.nil _ _))
def vc_kwithin : (Int) → (Int) → (Int) → (SV → List HO → Prop) → Prop :=
 fun x a b Q => inK .i64 x → inK .i64 a → inK .i64 b → br (decide (a ≤ x)) (Q (.v (.c (.k (.bool (decide (x ≤ b)))))) []) (Q (.v (.c (.k (.bool false)))) [])
theorem vc_kwithin_eq (x : Int) (a : Int) (b : Int) (Q : SV → List HO → Prop) : vFun XB137 ⟨[], []⟩ Tryz.f155 [.int x, .int a, .int b] [] Q = vc_kwithin x a b Q := by kernel_rfl
theorem w_kwithin : ∀ args H Q, c_kwithin args H Q → Wp Inv Tryz.prog 155 args H Q := by
 intro args H Q h
 unfold c_kwithin at h
 split at h
 rotate_left
 ·exact h.elim
 rename_i x a b
 refine Wp.enter (X := XB137) XB137_ok ⟨[], []⟩ (fn := Tryz.f155) (by kernel_rfl) ?_
 have hv := vc_kwithin_eq x a b Q
 rw [show vFun _ _ _ _ _ _ = _ from hv]
 unfold vc_kwithin
 intro _ _ _
 unfold withinI at h
 refine br_of (fun hc => ?_) (fun hc => ?_) <;> rw [hc] at h <;> exact h
def c_kplain : Ct
 | [.v (.c (.k (.string s))), .v (.c (.k (.int .i64 m)))], [], Q => Q (.bool (plainS s m)) []
 | _, _, _ => False
noncomputable def XB138 : Vx := { P := Tryz.prog, ct := (155, c_kwithin) :: XB137.ct, ty := tyTab, hold := [] }
theorem XB138_ok : CtOk Inv Tryz.prog XB138.ct := CtOk.cons w_kwithin (XB137_ok)
def vc_kplain : (ByteArray) → (Int) → (SV → List HO → Prop) → Prop :=
 fun s m Q => ByteArray.size s ≤ 9223372036854775807 → inK .i64 m → br (withinI (↑(ByteArray.size s) : Int) (1 : Int) m) (inK .i64 (Lib.indexByte s.data.toList (Nat.toUInt8 (0 : Nat))) → Q (.v (.c (.k (.bool (decide (Lib.indexByte 
 s.data.toList (Nat.toUInt8 (0 : Nat)) < 0)))))) []) (Q (.v (.c (.k (.bool false)))) [])
theorem vc_kplain_eq (s : ByteArray) (m : Int) (Q : SV → List HO → Prop) : vFun XB138 ⟨[], []⟩ Tryz.f154 [.str s, .int m] [] Q = vc_kplain s m Q := by kernel_rfl
theorem w_kplain : ∀ args H Q, c_kplain args H Q → Wp Inv Tryz.prog 154 args H Q := by
 intro args H Q h
 unfold c_kplain at h
 split at h
 rotate_left
 ·exact h.elim
 rename_i s m
 refine Wp.enter (X := XB138) XB138_ok ⟨[], []⟩ (fn := Tryz.f154) (by kernel_rfl) ?_
 have hv := vc_kplain_eq s m Q
 rw [show vFun _ _ _ _ _ _ = _ from hv]
 unfold vc_kplain
 intro _ _
 unfold plainS at h
 refine br_of (fun hc => ?_) (fun hc => ?_) <;> rw [hc] at h
 ·intro _
  exact h
 ·exact h
def c_kxattrs : Ct
 | [.v (.c cl)], [], Q => (match (Ty.sl xaTy).of [cl] with
  | some (l, []) => Q (.bool (xattrsB l)) []
  | _ => False)
 | _, _, _ => False
noncomputable def XB139 : Vx := { P := Tryz.prog, ct := (154, c_kplain) :: XB138.ct, ty := tyTab, hold := [] }
theorem XB139_ok : CtOk Inv Tryz.prog XB139.ct := CtOk.cons w_kplain (XB138_ok)
def vc_kxattrs : (List (xaTy).den) → (SV → List HO → Prop) → Prop :=
 fun l Q => List.length l ≤ 9223372036854775807 → List.length l ≤ 9223372036854775807 → LoopP (fun i again => br (decide (i.1.1 < (l.length : Int))) (0 ≤ i.1.1 ∧ i.1.1 < (l.length : Int) ∧ (Ty.ok xaTy (ixD xaTy l i.1.1) → br (!plainS (ixD 
 xaTy l i.1.1).1 (40 : Int)) (Q (.v (.c (.k (.bool false)))) []) (br (sLt (ixD xaTy l i.1.1).1 i.1.2.1 || sEq (ixD xaTy l i.1.1).1 i.1.2.1) (Q (.v (.c (.k (.bool false)))) []) (List.length (ixD xaTy l i.1.1).2.1 ≤ 9223372036854775807 → br 
 (decide ((↑(List.length (ixD xaTy l i.1.1).2.1) : Int) > (200 : Int))) (Q (.v (.c (.k (.bool false)))) []) (inK .i64 (i.1.1 + 1) ∧ again ((i.1.1 + 1, (ixD xaTy l i.1.1).1, ()), ())))))) (List.length l ≤ 9223372036854775807 → Q (.v (.c (.k 
 (.bool (decide ((l.length : Int) ≤ (8 : Int))))))) [])) (((0 : Int), ByteArray.mk #[], ()), ())
theorem vc_kxattrs_eq (l : List (xaTy).den) (Q : SV → List HO → Prop) : vFun XB139 ⟨[(4, ⟨[(8, .int .i64), (3, .str)], []⟩)], []⟩ Tryz.f156 [.c (.d xaTy l)] [] Q = vc_kxattrs l Q := by kernel_rfl
theorem w_kxattrs : ∀ args H Q, c_kxattrs args H Q → Wp Inv Tryz.prog 156 args H Q := by
 intro args H Q h
 unfold c_kxattrs at h
 split at h
 rotate_left
 ·exact h.elim
 rename_i cl
 split at h
 rotate_left
 ·exact h.elim
 rename_i l hl
 refine Wp.said (args' := [.c (.d xaTy l)]) (fun E g => RelVs.cons1 (of_list hl) (fun _ h => h)) ?_
 clear hl
 refine Wp.enter (X := XB139) XB139_ok ⟨[(4, ⟨[(8, .int .i64), (3, .str)], []⟩)], []⟩ (fn := Tryz.f156) (by kernel_rfl) ?_
 have hv := vc_kxattrs_eq l Q
 rw [show vFun _ _ _ _ _ _ = _ from hv]
 unfold vc_kxattrs
 intro hl0 _
 refine LoopP.intro (fun i => 0 ≤ i.1.1 ∧ i.1.1 ≤ l.length ∧ xattrsGo l ⟨#[]⟩ = xattrsGo (l.drop i.1.1.toNat) i.1.2.1) (fun i => l.length - i.1.1.toNat) ⟨by simp, by simp, by simp⟩ ?_
 rintro ⟨⟨i, last, _⟩, _⟩ ⟨h0, h1, h2⟩
 simp only at h0 h1 h2 ⊢
 refine br_of (fun hc => ?_) (fun hc => ?_)
 ·have hc : i < l.length := by simpa using hc
  refine ⟨h0, hc, fun _ => ?_⟩
  rw [ixD_drop (e := xaTy) h0 hc] at h2
  have bad : badX (ixD xaTy l i) last = true → Q (.bool false) [] := fun hb => by
   simp only [xattrsGo, hb, if_true] at h2
   unfold xattrsB at h
   rw [h2, Bool.false_and] at h
   exact h
  unfold badX Go.Lm.leB at bad
  refine br_of (fun h3 => bad (by rw [h3]; rfl)) (fun h3 => br_of (fun h4 => bad (by rw [h4]; simp)) (fun h4 => ?_))
  intro _
  refine br_of (fun h5 => bad (by rw [h5]; simp)) (fun h5 => ?_)
  have hn : badX (ixD xaTy l i) last = false := by unfold badX Go.Lm.leB; rw [h3, h4, h5]; rfl
  simp only [xattrsGo, hn, Bool.false_eq_true, if_false] at h2
  exact ⟨by unfold inK; omega, ⟨by omega, by omega, h2⟩, by omega⟩
 ·have hc : ¬ i < l.length := by simpa using hc
  rw [drop_all hc] at h2
  intro _
  unfold xattrsB at h
  rw [h2] at h
  exact h
def c_kmay : Ct
 | [.v (.agg cx)], [], Q => (match (noTy).of cx with
  | some (x, []) => Q (.bool (mayT x)) []
  | _ => False)
 | _, _, _ => False
noncomputable def XB140 : Vx := { P := Tryz.prog, ct := (156, c_kxattrs) :: XB139.ct, ty := tyTab, hold := [] }
theorem XB140_ok : CtOk Inv Tryz.prog XB140.ct := CtOk.cons w_kxattrs (XB139_ok)
def vc_kmay : ((noTy).den) → (SV → List HO → Prop) → Prop :=
 fun x Q => List.length x.1 ≤ 9223372036854775807 → inK .i64 x.2.1 → inK .i64 x.2.2.1 → inK .i64 x.2.2.2.1.1 → inK .i64 x.2.2.2.1.2.1 → inK .i64 x.2.2.2.1.2.2.1 → List.length x.2.2.2.2.1 ≤ 9223372036854775807 → ByteArray.size x.2.2.2.2.2.1 ≤ 
 9223372036854775807 → List.length x.2.2.2.2.2.2.1 ≤ 9223372036854775807 → List.length x.2.2.2.2.1 ≤ 9223372036854775807 → br (x.2.2.1 == 1) (br ((↑(List.length x.2.2.2.2.1) : Int) == 0) (br (sEq x.2.2.2.2.2.1 (ByteArray.mk #[])) (br 
 (!x.2.2.2.2.2.2.2.1) (br (withinI x.2.2.2.1.1 (0 : Int) (511 : Int)) (br (withinI x.2.2.2.1.2.1 (0 : Int) (65535 : Int)) (br (withinI x.2.2.2.1.2.2.1 (0 : Int) (65535 : Int)) (Q (.v (.c (.k (.bool (xattrsB x.2.2.2.2.2.2.1))))) []) (Q (.v 
 (.c (.k (.bool false)))) [])) (Q (.v (.c (.k (.bool false)))) [])) (Q (.v (.c (.k (.bool false)))) [])) (Q (.v (.c (.k (.bool false)))) [])) (Q (.v (.c (.k (.bool false)))) [])) (Q (.v (.c (.k (.bool false)))) [])) (br (x.2.2.1 == 2) 
 (List.length x.2.2.2.2.1 ≤ 9223372036854775807 → br (decide ((↑(List.length x.2.2.2.2.1) : Int) ≤ (4096 : Int))) (br (sEq x.2.2.2.2.2.1 (ByteArray.mk #[])) (br (!x.2.2.2.2.2.2.2.1) (br (withinI x.2.2.2.1.1 (0 : Int) (511 : Int)) (br 
 (withinI x.2.2.2.1.2.1 (0 : Int) (65535 : Int)) (br (withinI x.2.2.2.1.2.2.1 (0 : Int) (65535 : Int)) (Q (.v (.c (.k (.bool (xattrsB x.2.2.2.2.2.2.1))))) []) (Q (.v (.c (.k (.bool false)))) [])) (Q (.v (.c (.k (.bool false)))) [])) (Q (.v 
 (.c (.k (.bool false)))) [])) (Q (.v (.c (.k (.bool false)))) [])) (Q (.v (.c (.k (.bool false)))) [])) (Q (.v (.c (.k (.bool false)))) [])) (br (x.2.2.1 == 3) (br ((↑(List.length x.2.2.2.2.1) : Int) == 0) (br (plainS x.2.2.2.2.2.1 (200 : 
 Int)) (br (!x.2.2.2.2.2.2.2.1) (br (withinI x.2.2.2.1.1 (0 : Int) (511 : Int)) (br (withinI x.2.2.2.1.2.1 (0 : Int) (65535 : Int)) (br (withinI x.2.2.2.1.2.2.1 (0 : Int) (65535 : Int)) (Q (.v (.c (.k (.bool (xattrsB x.2.2.2.2.2.2.1))))) []) 
 (Q (.v (.c (.k (.bool false)))) [])) (Q (.v (.c (.k (.bool false)))) [])) (Q (.v (.c (.k (.bool false)))) [])) (Q (.v (.c (.k (.bool false)))) [])) (Q (.v (.c (.k (.bool false)))) [])) (Q (.v (.c (.k (.bool false)))) [])) (Q (.v (.c (.k 
 (.bool false)))) [])))
theorem vc_kmay_eq (x : (noTy).den) (Q : SV → List HO → Prop) : vFun XB140 ⟨[], []⟩ Tryz.f132 [.v (.agg (Ty.cells noTy x))] [] Q = vc_kmay x Q := by kernel_rfl
theorem w_kmay : ∀ args H Q, c_kmay args H Q → Wp Inv Tryz.prog 132 args H Q := by
 intro args H Q h
 unfold c_kmay at h
 split at h
 rotate_left
 ·exact h.elim
 rename_i cx
 split at h
 rotate_left
 ·exact h.elim
 rename_i x hx
 refine Wp.said (args' := [.v (.agg (Ty.cells noTy x))]) (fun E g => RelVs.cons1 (of_row hx) (fun _ h => h)) ?_
 clear hx
 refine Wp.enter (X := XB140) XB140_ok ⟨[], []⟩ (fn := Tryz.f132) (by kernel_rfl) ?_
 have hv := vc_kmay_eq x Q
 rw [show vFun _ _ _ _ _ _ = _ from hv]
 unfold vc_kmay
 intro _ _ _ _ _ _ _ _ _ _
 repeat' (first | (intro _; done) | refine br_of (fun _ => ?_) (fun _ => ?_) | intro _)
 all_goals refine Eq.mp (congrArg (fun z => Q (SV.bool z) []) ?_) h
 all_goals unfold mayT noB may3
 all_goals clear hv h
 all_goals simp_all
 all_goals (intros; omega)
def c_kbadT : Ct
 | [.v (.agg cx)], [], Q => (match (noTy).of cx with
  | some (x, []) => Q (.bool (!mayT x)) []
  | _ => False)
 | _, _, _ => False
noncomputable def XB141 : Vx := { P := Tryz.prog, ct := (132, c_kmay) :: XB140.ct, ty := tyTab, hold := [] }
theorem XB141_ok : CtOk Inv Tryz.prog XB141.ct := CtOk.cons w_kmay (XB140_ok)
def vc_kbadT : ((noTy).den) → (SV → List HO → Prop) → Prop :=
 fun x Q => List.length x.1 ≤ 9223372036854775807 → inK .i64 x.2.1 → inK .i64 x.2.2.1 → inK .i64 x.2.2.2.1.1 → inK .i64 x.2.2.2.1.2.1 → inK .i64 x.2.2.2.1.2.2.1 → List.length x.2.2.2.2.1 ≤ 9223372036854775807 → ByteArray.size x.2.2.2.2.2.1 ≤ 
 9223372036854775807 → List.length x.2.2.2.2.2.2.1 ≤ 9223372036854775807 → Q (.v (.c (.k (.bool !mayT (x.1, x.2.1, x.2.2.1, (x.2.2.2.1.1, x.2.2.2.1.2.1, x.2.2.2.1.2.2.1, ()), x.2.2.2.2.1, x.2.2.2.2.2.1, x.2.2.2.2.2.2.1, x.2.2.2.2.2.2.2.1, 
 ()))))) []
theorem vc_kbadT_eq (x : (noTy).den) (Q : SV → List HO → Prop) : vFun XB141 ⟨[], []⟩ Tryz.f131 [.v (.agg (Ty.cells noTy x))] [] Q = vc_kbadT x Q := by kernel_rfl
theorem w_kbadT : ∀ args H Q, c_kbadT args H Q → Wp Inv Tryz.prog 131 args H Q := by
 intro args H Q h
 unfold c_kbadT at h
 split at h
 rotate_left
 ·exact h.elim
 rename_i cx
 split at h
 rotate_left
 ·exact h.elim
 rename_i x hx
 refine Wp.said (args' := [.v (.agg (Ty.cells noTy x))]) (fun E g => RelVs.cons1 (of_row hx) (fun _ h => h)) ?_
 clear hx
 refine Wp.enter (X := XB141) XB141_ok ⟨[], []⟩ (fn := Tryz.f131) (by kernel_rfl) ?_
 have hv := vc_kbadT_eq x Q
 rw [show vFun _ _ _ _ _ _ = _ from hv]
 unfold vc_kbadT
 intros
 exact h
def c_kidxT : Ct
 | [.v (.c cl), .v (.c (.fn 131 []))], [], Q => (match (Ty.sl noTy).of [cl] with
  | some (l, []) => Q (.int (idxF (fun x : NoD => !mayT x) l 0)) []
  | _ => False)
 | _, _, _ => False
noncomputable def XB142 : Vx := { P := Tryz.prog, ct := (131, c_kbadT) :: XB141.ct, ty := tyTab, hold := [] }
theorem XB142_ok : CtOk Inv Tryz.prog XB142.ct := CtOk.cons w_kbadT (XB141_ok)
def vc_kidxT : (List (noTy).den) → (SV → List HO → Prop) → Prop :=
 fun l Q => List.length l ≤ 9223372036854775807 → List.length l ≤ 9223372036854775807 → LoopP (fun i again => br (decide (i.1.1 < (l.length : Int))) (0 ≤ i.1.1 ∧ i.1.1 < (l.length : Int) ∧ (Ty.ok noTy (ixD noTy l i.1.1) → br (!mayT ((ixD 
 noTy l i.1.1).1, (ixD noTy l i.1.1).2.1, (ixD noTy l i.1.1).2.2.1, ((ixD noTy l i.1.1).2.2.2.1.1, (ixD noTy l i.1.1).2.2.2.1.2.1, (ixD noTy l i.1.1).2.2.2.1.2.2.1, ()), (ixD noTy l i.1.1).2.2.2.2.1, (ixD noTy l i.1.1).2.2.2.2.2.1, (ixD noTy 
 l i.1.1).2.2.2.2.2.2.1, (ixD noTy l i.1.1).2.2.2.2.2.2.2.1, ())) (Q (.v (.c (.k (.int .i64 i.1.1)))) []) (inK .i64 (i.1.1 + 1) ∧ again ((i.1.1 + 1, ()), ())))) (Q (.v (.c (.k (.int .i64 (-1 : Int))))) [])) (((0 : Int), ()), ())
theorem vc_kidxT_eq (l : List (noTy).den) (Q : SV → List HO → Prop) : vFun XB142 ⟨[(3, ⟨[(8, .int .i64)], []⟩)], []⟩ Tryz.f153 [.c (.d noTy l), .c (.fn 131 [])] [] Q = vc_kidxT l Q := by kernel_rfl
theorem w_kidxT : ∀ args H Q, c_kidxT args H Q → Wp Inv Tryz.prog 153 args H Q := by
 intro args H Q h
 unfold c_kidxT at h
 split at h
 rotate_left
 ·exact h.elim
 rename_i cl
 split at h
 rotate_left
 ·exact h.elim
 rename_i l hl
 refine Wp.said (args' := [.c (.d noTy l), .c (.fn 131 [])]) (fun E g => RelVs.cons1 (of_list hl) (RelVs.cons1 (fun _ h => h) (fun _ h => h))) ?_
 clear hl
 refine Wp.enter (X := XB142) XB142_ok ⟨[(3, ⟨[(8, .int .i64)], []⟩)], []⟩ (fn := Tryz.f153) (by kernel_rfl) ?_
 have hv := vc_kidxT_eq l Q
 rw [show vFun _ _ _ _ _ _ = _ from hv]
 unfold vc_kidxT
 intro hl _
 refine LoopP.intro (fun i => 0 ≤ i.1.1 ∧ i.1.1 ≤ l.length ∧ idxF (fun x : NoD => !mayT x) (l.drop i.1.1.toNat) i.1.1 = idxF (fun x : NoD => !mayT x) l 0) (fun i => l.length - i.1.1.toNat) ⟨by simp, by simp, by simp⟩ ?_
 rintro ⟨⟨i, _⟩, _⟩ ⟨h0, h1, h2⟩
 simp only at h0 h1 h2 ⊢
 refine br_of (fun hc => ?_) (fun hc => ?_)
 ·have hc : i < l.length := by simpa using hc
  refine ⟨h0, hc, fun _ => ?_⟩
  rw [ixD_drop (e := noTy) h0 hc] at h2
  refine br_of (fun h3 => ?_) (fun h3 => ?_)
  ·simp only [idxF, h3, if_true] at h2
   rw [h2]; exact h
  ·simp only [idxF, h3, Bool.false_eq_true, if_false] at h2
   refine ⟨by unfold inK; omega, ⟨by omega, by omega, ?_⟩, by omega⟩
   rw [show (i + 1).toNat = (i + 1).toNat from rfl]
   exact h2
 ·have hc : ¬ i < l.length := by simpa using hc
  rw [drop_all hc] at h2
  simp only [idxF] at h2
  rw [h2]; exact h
def c_kanyT : Ct
 | [.v (.c cl), .v (.c (.fn 131 []))], [], Q => (match (Ty.sl noTy).of [cl] with
  | some (l, []) => Q (.bool (l.any fun x : NoD => !mayT x)) []
  | _ => False)
 | _, _, _ => False
noncomputable def XB143 : Vx := { P := Tryz.prog, ct := (153, c_kidxT) :: XB142.ct, ty := tyTab, hold := [] }
theorem XB143_ok : CtOk Inv Tryz.prog XB143.ct := CtOk.cons w_kidxT (XB142_ok)
def vc_kanyT : (List (noTy).den) → (SV → List HO → Prop) → Prop :=
 fun l Q => List.length l ≤ 9223372036854775807 → inK .i64 (idxF (fun x => !mayT x) l (0 : Int)) → Q (.v (.c (.k (.bool (decide (idxF (fun x => !mayT x) l (0 : Int) ≥ (0 : Int))))))) []
theorem vc_kanyT_eq (l : List (noTy).den) (Q : SV → List HO → Prop) : vFun XB143 ⟨[], []⟩ Tryz.f130 [.c (.d noTy l), .c (.fn 131 [])] [] Q = vc_kanyT l Q := by kernel_rfl
theorem w_kanyT : ∀ args H Q, c_kanyT args H Q → Wp Inv Tryz.prog 130 args H Q := by
 intro args H Q h
 unfold c_kanyT at h
 split at h
 rotate_left
 ·exact h.elim
 rename_i cl
 split at h
 rotate_left
 ·exact h.elim
 rename_i l hl
 refine Wp.said (args' := [.c (.d noTy l), .c (.fn 131 [])]) (fun E g => RelVs.cons1 (of_list hl) (RelVs.cons1 (fun _ h => h) (fun _ h => h))) ?_
 clear hl
 refine Wp.enter (X := XB143) XB143_ok ⟨[], []⟩ (fn := Tryz.f130) (by kernel_rfl) ?_
 have hv := vc_kanyT_eq l Q
 rw [show vFun _ _ _ _ _ _ = _ from hv]
 unfold vc_kanyT
 intro _ _
 rw [← idxF_any (Int.le_refl 0)] at h
 exact h
def c_kbadM : Ct
 | [.v (.agg cx)], [], Q => (match (noTy).of cx with
  | some (x, []) => Q (.bool (badM x)) []
  | _ => False)
 | _, _, _ => False
noncomputable def XB144 : Vx := { P := Tryz.prog, ct := (130, c_kanyT) :: XB143.ct, ty := tyTab, hold := [] }
theorem XB144_ok : CtOk Inv Tryz.prog XB144.ct := CtOk.cons w_kanyT (XB143_ok)
def vc_kbadM : ((noTy).den) → (SV → List HO → Prop) → Prop :=
 fun x Q => List.length x.1 ≤ 9223372036854775807 → inK .i64 x.2.1 → inK .i64 x.2.2.1 → inK .i64 x.2.2.2.1.1 → inK .i64 x.2.2.2.1.2.1 → inK .i64 x.2.2.2.1.2.2.1 → List.length x.2.2.2.2.1 ≤ 9223372036854775807 → ByteArray.size x.2.2.2.2.2.1 ≤ 
 9223372036854775807 → List.length x.2.2.2.2.2.2.1 ≤ 9223372036854775807 → br (x.2.2.1 == 4) (br (!(x.2.2.2.1.1 == 0 && (x.2.2.2.1.2.1 == 0 && (x.2.2.2.1.2.2.1 == 0 && true)))) (Q (.v (.c (.k (.bool true)))) []) (List.length x.2.2.2.2.1 ≤ 
 9223372036854775807 → br (decide ((↑(List.length x.2.2.2.2.1) : Int) > (0 : Int))) (Q (.v (.c (.k (.bool true)))) []) (br (!sEq x.2.2.2.2.2.1 (ByteArray.mk #[])) (Q (.v (.c (.k (.bool true)))) []) (List.length x.2.2.2.2.2.2.1 ≤ 
 9223372036854775807 → br (decide ((↑(List.length x.2.2.2.2.2.2.1) : Int) > (0 : Int))) (Q (.v (.c (.k (.bool true)))) []) (Q (.v (.c (.k (.bool x.2.2.2.2.2.2.2.1)))) []))))) (Q (.v (.c (.k (.bool false)))) [])
theorem vc_kbadM_eq (x : (noTy).den) (Q : SV → List HO → Prop) : vFun XB144 ⟨[], []⟩ Tryz.f134 [.v (.agg (Ty.cells noTy x))] [] Q = vc_kbadM x Q := by kernel_rfl
theorem w_kbadM : ∀ args H Q, c_kbadM args H Q → Wp Inv Tryz.prog 134 args H Q := by
 intro args H Q h
 unfold c_kbadM at h
 split at h
 rotate_left
 ·exact h.elim
 rename_i cx
 split at h
 rotate_left
 ·exact h.elim
 rename_i x hx
 refine Wp.said (args' := [.v (.agg (Ty.cells noTy x))]) (fun E g => RelVs.cons1 (of_row hx) (fun _ h => h)) ?_
 clear hx
 refine Wp.enter (X := XB144) XB144_ok ⟨[], []⟩ (fn := Tryz.f134) (by kernel_rfl) ?_
 have hv := vc_kbadM_eq x Q
 rw [show vFun _ _ _ _ _ _ = _ from hv]
 unfold vc_kbadM
 intro _ _ _ _ _ _ _ _ _
 repeat' (first | refine br_of (fun _ => ?_) (fun _ => ?_) | intro _)
 all_goals refine Eq.mp (congrArg (fun z => Q (SV.bool z) []) ?_) h
 all_goals unfold badM
 all_goals clear hv h
 all_goals simp_all
def c_kidxM : Ct
 | [.v (.c cl), .v (.c (.fn 134 []))], [], Q => (match (Ty.sl noTy).of [cl] with
  | some (l, []) => Q (.int (idxF (fun x : NoD => badM x) l 0)) []
  | _ => False)
 | _, _, _ => False
noncomputable def XB145 : Vx := { P := Tryz.prog, ct := (134, c_kbadM) :: XB144.ct, ty := tyTab, hold := [] }
theorem XB145_ok : CtOk Inv Tryz.prog XB145.ct := CtOk.cons w_kbadM (XB144_ok)
def vc_kidxM : (List (noTy).den) → (SV → List HO → Prop) → Prop :=
 fun l Q => List.length l ≤ 9223372036854775807 → List.length l ≤ 9223372036854775807 → LoopP (fun i again => br (decide (i.1.1 < (l.length : Int))) (0 ≤ i.1.1 ∧ i.1.1 < (l.length : Int) ∧ (Ty.ok noTy (ixD noTy l i.1.1) → br (badM ((ixD noTy 
 l i.1.1).1, (ixD noTy l i.1.1).2.1, (ixD noTy l i.1.1).2.2.1, ((ixD noTy l i.1.1).2.2.2.1.1, (ixD noTy l i.1.1).2.2.2.1.2.1, (ixD noTy l i.1.1).2.2.2.1.2.2.1, ()), (ixD noTy l i.1.1).2.2.2.2.1, (ixD noTy l i.1.1).2.2.2.2.2.1, (ixD noTy l 
 i.1.1).2.2.2.2.2.2.1, (ixD noTy l i.1.1).2.2.2.2.2.2.2.1, ())) (Q (.v (.c (.k (.int .i64 i.1.1)))) []) (inK .i64 (i.1.1 + 1) ∧ again ((i.1.1 + 1, ()), ())))) (Q (.v (.c (.k (.int .i64 (-1 : Int))))) [])) (((0 : Int), ()), ())
theorem vc_kidxM_eq (l : List (noTy).den) (Q : SV → List HO → Prop) : vFun XB145 ⟨[(3, ⟨[(8, .int .i64)], []⟩)], []⟩ Tryz.f153 [.c (.d noTy l), .c (.fn 134 [])] [] Q = vc_kidxM l Q := by kernel_rfl
theorem w_kidxM : ∀ args H Q, c_kidxM args H Q → Wp Inv Tryz.prog 153 args H Q := by
 intro args H Q h
 unfold c_kidxM at h
 split at h
 rotate_left
 ·exact h.elim
 rename_i cl
 split at h
 rotate_left
 ·exact h.elim
 rename_i l hl
 refine Wp.said (args' := [.c (.d noTy l), .c (.fn 134 [])]) (fun E g => RelVs.cons1 (of_list hl) (RelVs.cons1 (fun _ h => h) (fun _ h => h))) ?_
 clear hl
 refine Wp.enter (X := XB145) XB145_ok ⟨[(3, ⟨[(8, .int .i64)], []⟩)], []⟩ (fn := Tryz.f153) (by kernel_rfl) ?_
 have hv := vc_kidxM_eq l Q
 rw [show vFun _ _ _ _ _ _ = _ from hv]
 unfold vc_kidxM
 intro hl _
 refine LoopP.intro (fun i => 0 ≤ i.1.1 ∧ i.1.1 ≤ l.length ∧ idxF (fun x : NoD => badM x) (l.drop i.1.1.toNat) i.1.1 = idxF (fun x : NoD => badM x) l 0) (fun i => l.length - i.1.1.toNat) ⟨by simp, by simp, by simp⟩ ?_
 rintro ⟨⟨i, _⟩, _⟩ ⟨h0, h1, h2⟩
 simp only at h0 h1 h2 ⊢
 refine br_of (fun hc => ?_) (fun hc => ?_)
 ·have hc : i < l.length := by simpa using hc
  refine ⟨h0, hc, fun _ => ?_⟩
  rw [ixD_drop (e := noTy) h0 hc] at h2
  refine br_of (fun h3 => ?_) (fun h3 => ?_)
  ·simp only [idxF, h3, if_true] at h2
   rw [h2]; exact h
  ·simp only [idxF, h3, Bool.false_eq_true, if_false] at h2
   refine ⟨by unfold inK; omega, ⟨by omega, by omega, ?_⟩, by omega⟩
   rw [show (i + 1).toNat = (i + 1).toNat from rfl]
   exact h2
 ·have hc : ¬ i < l.length := by simpa using hc
  rw [drop_all hc] at h2
  simp only [idxF] at h2
  rw [h2]; exact h
def c_kanyM : Ct
 | [.v (.c cl), .v (.c (.fn 134 []))], [], Q => (match (Ty.sl noTy).of [cl] with
  | some (l, []) => Q (.bool (l.any fun x : NoD => badM x)) []
  | _ => False)
 | _, _, _ => False
noncomputable def XB146 : Vx := { P := Tryz.prog, ct := (153, c_kidxM) :: XB145.ct, ty := tyTab, hold := [] }
theorem XB146_ok : CtOk Inv Tryz.prog XB146.ct := CtOk.cons w_kidxM (XB145_ok)
def vc_kanyM : (List (noTy).den) → (SV → List HO → Prop) → Prop :=
 fun l Q => List.length l ≤ 9223372036854775807 → inK .i64 (idxF (fun x => badM x) l (0 : Int)) → Q (.v (.c (.k (.bool (decide (idxF (fun x => badM x) l (0 : Int) ≥ (0 : Int))))))) []
theorem vc_kanyM_eq (l : List (noTy).den) (Q : SV → List HO → Prop) : vFun XB146 ⟨[], []⟩ Tryz.f130 [.c (.d noTy l), .c (.fn 134 [])] [] Q = vc_kanyM l Q := by kernel_rfl
theorem w_kanyM : ∀ args H Q, c_kanyM args H Q → Wp Inv Tryz.prog 130 args H Q := by
 intro args H Q h
 unfold c_kanyM at h
 split at h
 rotate_left
 ·exact h.elim
 rename_i cl
 split at h
 rotate_left
 ·exact h.elim
 rename_i l hl
 refine Wp.said (args' := [.c (.d noTy l), .c (.fn 134 [])]) (fun E g => RelVs.cons1 (of_list hl) (RelVs.cons1 (fun _ h => h) (fun _ h => h))) ?_
 clear hl
 refine Wp.enter (X := XB146) XB146_ok ⟨[], []⟩ (fn := Tryz.f130) (by kernel_rfl) ?_
 have hv := vc_kanyM_eq l Q
 rw [show vFun _ _ _ _ _ _ = _ from hv]
 unfold vc_kanyM
 intro _ _
 rw [← idxF_any (Int.le_refl 0)] at h
 exact h
def c_kmarks : Ct
 | [.v (.c cl)], [], Q => (match (Ty.sl noTy).of [cl] with
  | some (l, []) => Q (.bool (!l.any fun x : NoD => badM x)) []
  | _ => False)
 | _, _, _ => False
noncomputable def XB147 : Vx := { P := Tryz.prog, ct := (130, c_kanyM) :: XB146.ct, ty := tyTab, hold := [] }
theorem XB147_ok : CtOk Inv Tryz.prog XB147.ct := CtOk.cons w_kanyM (XB146_ok)
def vc_kmarks : (List (noTy).den) → (SV → List HO → Prop) → Prop :=
 fun l Q => List.length l ≤ 9223372036854775807 → Q (.v (.c (.k (.bool !List.any l fun x => badM x)))) []
theorem vc_kmarks_eq (l : List (noTy).den) (Q : SV → List HO → Prop) : vFun XB147 ⟨[], []⟩ Tryz.f106 [.c (.d noTy l)] [] Q = vc_kmarks l Q := by kernel_rfl
theorem w_kmarks : ∀ args H Q, c_kmarks args H Q → Wp Inv Tryz.prog 106 args H Q := by
 intro args H Q h
 unfold c_kmarks at h
 split at h
 rotate_left
 ·exact h.elim
 rename_i cl
 split at h
 rotate_left
 ·exact h.elim
 rename_i l hl
 refine Wp.said (args' := [.c (.d noTy l)]) (fun E g => RelVs.cons1 (of_list hl) (fun _ h => h)) ?_
 clear hl
 refine Wp.enter (X := XB147) XB147_ok ⟨[], []⟩ (fn := Tryz.f106) (by kernel_rfl) ?_
 have hv := vc_kmarks_eq l Q
 rw [show vFun _ _ _ _ _ _ = _ from hv]
 unfold vc_kmarks
 intros
 exact h
end Go.Proofs

namespace Go.Proofs
open Go Go.Lm Go.RowKit
set_option maxRecDepth 1000000
abbrev shNode : List Sh := [.d .str, .int .i64, .int .i64, .int .i64, .int .i64, .int .i64, .d .u8, .str, .d xaTy, .bool]
def c_kfew : Ct
 | [.v (.c cl)], [], Q => (match (Ty.sl noTy).of [cl] with
  | some (l, []) => Q (.c (.o 0)) [.sl 36 noTy ((l.take 40).map clipN)]
  | _ => False)
 | _, _, _ => False
noncomputable def XB248 : Vx := { P := Tryz.prog, ct := (106, c_kmarks) :: XB147.ct, ty := tyTab, hold := [] }
theorem XB248_ok : CtOk Inv Tryz.prog XB248.ct := CtOk.cons w_kmarks (XB147_ok)
def vc_kfew : (List (noTy).den) → (SV → List HO → Prop) → Prop :=
 fun l Q => List.length l ≤ 9223372036854775807 → LoopP (fun i again => List.length l ≤ 9223372036854775807 → br (decide (i.1.1 < (l.length : Int))) (br (decide (i.1.1 < 40)) (0 ≤ i.1.1 ∧ i.1.1 < (l.length : Int) ∧ (Ty.ok noTy (ixD noTy l 
 i.1.1) → JoinP (fun k => List.length (ixD noTy l i.1.1).1 ≤ 9223372036854775807 → br (decide ((↑(List.length (ixD noTy l i.1.1).1) : Int) > (18 : Int))) (0 ≤ boundV none 0 ∧ boundV none 0 ≤ boundV (some (18 : Int)) (↑(List.length (ixD noTy 
 l i.1.1).1) : Int) ∧ boundV (some (18 : Int)) (↑(List.length (ixD noTy l i.1.1).1) : Int) ≤ (↑(List.length (ixD noTy l i.1.1).1) : Int) ∧ k ((), (List.take (Int.toNat (boundV (some (18 : Int)) (↑(List.length (ixD noTy l i.1.1).1) : Int)) - 
 0) (List.drop 0 (ixD noTy l i.1.1).1), (ixD noTy l i.1.1).2.1, (ixD noTy l i.1.1).2.2.1, (ixD noTy l i.1.1).2.2.2.1.1, (ixD noTy l i.1.1).2.2.2.1.2.1, (ixD noTy l i.1.1).2.2.2.1.2.2.1, (ixD noTy l i.1.1).2.2.2.2.1, (ixD noTy l 
 i.1.1).2.2.2.2.2.1, (ixD noTy l i.1.1).2.2.2.2.2.2.1, (ixD noTy l i.1.1).2.2.2.2.2.2.2.1, ()), ())) (k ((), ((ixD noTy l i.1.1).1, (ixD noTy l i.1.1).2.1, (ixD noTy l i.1.1).2.2.1, (ixD noTy l i.1.1).2.2.2.1.1, (ixD noTy l 
 i.1.1).2.2.2.1.2.1, (ixD noTy l i.1.1).2.2.2.1.2.2.1, (ixD noTy l i.1.1).2.2.2.2.1, (ixD noTy l i.1.1).2.2.2.2.2.1, (ixD noTy l i.1.1).2.2.2.2.2.2.1, (ixD noTy l i.1.1).2.2.2.2.2.2.2.1, ()), ()))) fun i_1 => JoinP (fun k => List.length 
 i_1.2.1.2.2.2.2.2.2.1 ≤ 9223372036854775807 → br (decide ((↑(List.length i_1.2.1.2.2.2.2.2.2.1) : Int) > (1500 : Int))) (0 ≤ boundV none 0 ∧ boundV none 0 ≤ boundV (some (1500 : Int)) (↑(List.length i_1.2.1.2.2.2.2.2.2.1) : Int) ∧ boundV 
 (some (1500 : Int)) (↑(List.length i_1.2.1.2.2.2.2.2.2.1) : Int) ≤ (↑(List.length i_1.2.1.2.2.2.2.2.2.1) : Int) ∧ k ((), (i_1.2.1.1, i_1.2.1.2.1, i_1.2.1.2.2.1, i_1.2.1.2.2.2.1, i_1.2.1.2.2.2.2.1, i_1.2.1.2.2.2.2.2.1, List.take (Int.toNat 
 (boundV (some (1500 : Int)) (↑(List.length i_1.2.1.2.2.2.2.2.2.1) : Int)) - 0) (List.drop 0 i_1.2.1.2.2.2.2.2.2.1), i_1.2.1.2.2.2.2.2.2.2.1, i_1.2.1.2.2.2.2.2.2.2.2.1, i_1.2.1.2.2.2.2.2.2.2.2.2.1, ()), ())) (k ((), (i_1.2.1.1, i_1.2.1.2.1, 
 i_1.2.1.2.2.1, i_1.2.1.2.2.2.1, i_1.2.1.2.2.2.2.1, i_1.2.1.2.2.2.2.2.1, i_1.2.1.2.2.2.2.2.2.1, i_1.2.1.2.2.2.2.2.2.2.1, i_1.2.1.2.2.2.2.2.2.2.2.1, i_1.2.1.2.2.2.2.2.2.2.2.2.1, ()), ()))) fun i_2 => JoinP (fun k => List.length 
 i_2.2.1.2.2.2.2.2.2.2.2.1 ≤ 9223372036854775807 → br (decide ((↑(List.length i_2.2.1.2.2.2.2.2.2.2.2.1) : Int) > (10 : Int))) (0 ≤ boundV none 0 ∧ boundV none 0 ≤ boundV (some (10 : Int)) (↑(List.length i_2.2.1.2.2.2.2.2.2.2.2.1) : Int) ∧ 
 boundV (some (10 : Int)) (↑(List.length i_2.2.1.2.2.2.2.2.2.2.2.1) : Int) ≤ (↑(List.length i_2.2.1.2.2.2.2.2.2.2.2.1) : Int) ∧ k ((), (i_2.2.1.1, i_2.2.1.2.1, i_2.2.1.2.2.1, i_2.2.1.2.2.2.1, i_2.2.1.2.2.2.2.1, i_2.2.1.2.2.2.2.2.1, 
 i_2.2.1.2.2.2.2.2.2.1, i_2.2.1.2.2.2.2.2.2.2.1, List.take (Int.toNat (boundV (some (10 : Int)) (↑(List.length i_2.2.1.2.2.2.2.2.2.2.2.1) : Int)) - 0) (List.drop 0 i_2.2.1.2.2.2.2.2.2.2.2.1), i_2.2.1.2.2.2.2.2.2.2.2.2.1, ()), ())) (k ((), 
 (i_2.2.1.1, i_2.2.1.2.1, i_2.2.1.2.2.1, i_2.2.1.2.2.2.1, i_2.2.1.2.2.2.2.1, i_2.2.1.2.2.2.2.2.1, i_2.2.1.2.2.2.2.2.2.1, i_2.2.1.2.2.2.2.2.2.2.1, i_2.2.1.2.2.2.2.2.2.2.2.1, i_2.2.1.2.2.2.2.2.2.2.2.2.1, ()), ()))) fun i_3 => (List.length 
 i.1.2.1 + List.length [(i_3.2.1.1, i_3.2.1.2.1, i_3.2.1.2.2.1, (i_3.2.1.2.2.2.1, i_3.2.1.2.2.2.2.1, i_3.2.1.2.2.2.2.2.1, ()), i_3.2.1.2.2.2.2.2.2.1, i_3.2.1.2.2.2.2.2.2.2.1, i_3.2.1.2.2.2.2.2.2.2.2.1, i_3.2.1.2.2.2.2.2.2.2.2.2.1, ())]) * 
 136 ≤ (140737488355328 : Nat) ∧ List.length i.1.2.1 + List.length [(i_3.2.1.1, i_3.2.1.2.1, i_3.2.1.2.2.1, (i_3.2.1.2.2.2.1, i_3.2.1.2.2.2.2.1, i_3.2.1.2.2.2.2.2.1, ()), i_3.2.1.2.2.2.2.2.2.1, i_3.2.1.2.2.2.2.2.2.2.1, 
 i_3.2.1.2.2.2.2.2.2.2.2.1, i_3.2.1.2.2.2.2.2.2.2.2.2.1, ())] ≤ 9223372036854775807 ∧ inK .i64 (i.1.1 + 1) ∧ again ((i.1.1 + 1, i.1.2.1 ++ [(i_3.2.1.1, i_3.2.1.2.1, i_3.2.1.2.2.1, (i_3.2.1.2.2.2.1, i_3.2.1.2.2.2.2.1, i_3.2.1.2.2.2.2.2.1, 
 ()), i_3.2.1.2.2.2.2.2.2.1, i_3.2.1.2.2.2.2.2.2.2.1, i_3.2.1.2.2.2.2.2.2.2.2.1, i_3.2.1.2.2.2.2.2.2.2.2.2.1, ())], ()), ()))) (Q (SV.v (S1.c (.o 0))) [.sl 36 noTy i.1.2.1])) (Q (SV.v (S1.c (.o 0))) [.sl 36 noTy i.1.2.1])) (((0 : Int), [], 
 ()), ())
theorem vc_kfew_eq (l : List (noTy).den) (Q : SV → List HO → Prop) : vFun XB248 ⟨[(4, ⟨[(4, .int .i64), (3, .own 36 noTy)], []⟩)], [(9, ⟨[], [(2, .cells 36 shNode)]⟩), (11, ⟨[], [(2, .cells 36 shNode)]⟩), (13, ⟨[], [(2, .cells 36 shNode)]⟩)]⟩ Tryz.f19 [.c (.d noTy l)] [] Q = vc_kfew l Q := by kernel_rfl
theorem w_kfew : ∀ args H Q, c_kfew args H Q → Wp Inv Tryz.prog 19 args H Q := by
 intro args H Q h
 unfold c_kfew at h
 split at h
 rotate_left
 ·exact h.elim
 rename_i cl
 split at h
 rotate_left
 ·exact h.elim
 rename_i l hl
 refine Wp.said (args' := [.c (.d noTy l)]) (fun E g => RelVs.cons1 (of_list hl) (fun _ h => h)) ?_
 clear hl
 refine Wp.enter (X := XB248) XB248_ok ⟨[(4, ⟨[(4, .int .i64), (3, .own 36 noTy)], []⟩)], [(9, ⟨[], [(2, .cells 36 shNode)]⟩), (11, ⟨[], [(2, .cells 36 shNode)]⟩), (13, ⟨[], [(2, .cells 36 shNode)]⟩)]⟩ (fn := Tryz.f19) (by kernel_rfl) ?_
 have hv := vc_kfew_eq l Q
 rw [show vFun _ _ _ _ _ _ = _ from hv]
 unfold vc_kfew
 intro hl0
 refine LoopP.intro (fun i => 0 ≤ i.1.1 ∧ i.1.1 ≤ l.length ∧ i.1.1 ≤ 40 ∧ i.1.2.1 = (l.take i.1.1.toNat).map clipN) (fun i => l.length - i.1.1.toNat) ⟨by simp, by simp, by simp, by simp⟩ ?_
 rintro ⟨⟨i, out, _⟩, _⟩ ⟨h0, h1, h2, h3⟩
 simp only at h0 h1 h2 h3 ⊢
 intro _
 have fin : ¬ (i < l.length ∧ i < 40) → Q (.c (.o 0)) [.sl 36 noTy out] := fun hn => by
  have : l.take i.toNat = l.take 40 := by
   by_cases h4 : i < l.length
   ·have : i = 40 := by omega
    subst this; rfl
   ·rw [List.take_of_length_le (by omega), List.take_of_length_le (by omega)]
  rw [h3, this]; exact h
 refine br_of (fun hc => br_of (fun hc2 => ?_) (fun hc2 => fin ?_)) (fun hc => fin ?_)
 ·have hc : i < l.length := by simpa using hc
  have hc2 : i < 40 := by simpa using hc2
  refine ⟨h0, hc, fun _ => ?_⟩
  have ht := take_ixD (e := noTy) h0 hc
  generalize ixD noTy l i = x at ht ⊢
  refine JoinP.intro (fun k => k.2.1 = (x.1.take 18, x.2.1, x.2.2.1, x.2.2.2.1.1, x.2.2.2.1.2.1, x.2.2.2.1.2.2.1, x.2.2.2.2.1, x.2.2.2.2.2.1, x.2.2.2.2.2.2.1, x.2.2.2.2.2.2.2.1, ())) ?_ ?_
  ·intro _
   refine br_of (fun h4 => ?_) (fun h4 => ?_)
   ·have h4 : (18 : Int) < x.1.length := by simpa using h4
    exact ⟨by simp [boundV], by simp [boundV], by simp [boundV]; omega, by simp [boundV]⟩
   ·have h4 : ¬ (18 : Int) < x.1.length := by simpa using h4
    have h5 : x.1.take 18 = x.1 := List.take_of_length_le (by omega)
    simp [h5]
  rintro ⟨_, k1, _⟩ hk
  simp only at hk
  subst hk
  dsimp only
  refine JoinP.intro (fun k => k.2.1 = (x.1.take 18, x.2.1, x.2.2.1, x.2.2.2.1.1, x.2.2.2.1.2.1, x.2.2.2.1.2.2.1, x.2.2.2.2.1.take 1500, x.2.2.2.2.2.1, x.2.2.2.2.2.2.1, x.2.2.2.2.2.2.2.1, ())) ?_ ?_
  ·intro _
   refine br_of (fun h4 => ?_) (fun h4 => ?_)
   ·have h4 : (1500 : Int) < x.2.2.2.2.1.length := by simpa using h4
    exact ⟨by simp [boundV], by simp [boundV], by simp [boundV]; omega, by simp [boundV]⟩
   ·have h4 : ¬ (1500 : Int) < x.2.2.2.2.1.length := by simpa using h4
    have h5 : x.2.2.2.2.1.take 1500 = x.2.2.2.2.1 := List.take_of_length_le (by omega)
    simp [h5]
  rintro ⟨_, k1, _⟩ hk
  simp only at hk
  subst hk
  dsimp only
  refine JoinP.intro (fun k => k.2.1 = (x.1.take 18, x.2.1, x.2.2.1, x.2.2.2.1.1, x.2.2.2.1.2.1, x.2.2.2.1.2.2.1, x.2.2.2.2.1.take 1500, x.2.2.2.2.2.1, x.2.2.2.2.2.2.1.take 10, x.2.2.2.2.2.2.2.1, ())) ?_ ?_
  ·intro _
   refine br_of (fun h4 => ?_) (fun h4 => ?_)
   ·have h4 : (10 : Int) < x.2.2.2.2.2.2.1.length := by simpa using h4
    exact ⟨by simp [boundV], by simp [boundV], by simp [boundV]; omega, by simp [boundV]⟩
   ·have h4 : ¬ (10 : Int) < x.2.2.2.2.2.2.1.length := by simpa using h4
    have h5 : x.2.2.2.2.2.2.1.take 10 = x.2.2.2.2.2.2.1 := List.take_of_length_le (by omega)
    simp [h5]
  rintro ⟨_, k1, _⟩ hk
  simp only at hk
  subst hk
  dsimp only
  have hlen : out.length = i.toNat := by rw [h3, List.length_map, List.length_take]; omega
  refine ⟨by simp only [List.length_cons, List.length_nil, hlen]; omega, by simp only [List.length_cons, List.length_nil, hlen]; omega, by unfold inK; omega, ⟨by omega, by omega, by omega, ?_⟩, by omega⟩
  rw [ht, List.map_append, ← h3]; rfl
 ·have : ¬ i < 40 := by simpa using hc2
  omega
 ·have : ¬ i < l.length := by simpa using hc
  omega
def c_kopaque : Ct
 | [.v (.c cl)], [], Q => (match (Ty.sl noTy).of [cl] with
  | some (l, []) => Q (.bool (opqGo l [])) []
  | _ => False)
 | _, _, _ => False
noncomputable def XB249 : Vx := { P := Tryz.prog, ct := (19, c_kfew) :: XB248.ct, ty := tyTab, hold := [] }
theorem XB249_ok : CtOk Inv Tryz.prog XB249.ct := CtOk.cons w_kfew (XB248_ok)
def vc_kopaque : (List (noTy).den) → (SV → List HO → Prop) → Prop :=
 fun l Q => List.length l ≤ 9223372036854775807 → List.length l ≤ 9223372036854775807 → LoopP (fun i again => br (decide (i.1.1 < (l.length : Int))) (0 ≤ i.1.1 ∧ i.1.1 < (l.length : Int) ∧ (Ty.ok noTy (ixD noTy l i.1.1) → Ty.ok Ty.bool 
 (Option.getD (Kk.get Kk.int i.2.1 (ixD noTy l i.1.1).2.1) false) → br (Option.getD (Kk.get Kk.int i.2.1 (ixD noTy l i.1.1).2.1) false) (Q (.v (.c (.k (.bool true)))) []) (List.length i.2.1 < 9223372036854775807 ∧ inK .i64 (i.1.1 + 1) ∧ 
 again ((i.1.1 + 1, ()), Kk.put Kk.int i.2.1 (ixD noTy l i.1.1).2.1 ((ixD noTy l i.1.1).2.2.1 == 1), ())))) (Q (.v (.c (.k (.bool false)))) [])) (((0 : Int), ()), [], ())
theorem vc_kopaque_eq (l : List (noTy).den) (Q : SV → List HO → Prop) : vFun XB249 ⟨[(4, ⟨[(9, .int .i64)], [(0, .map 3 .int .bool)]⟩)], []⟩ Tryz.f107 [.c (.d noTy l)] [] Q = vc_kopaque l Q := by kernel_rfl
theorem w_kopaque : ∀ args H Q, c_kopaque args H Q → Wp Inv Tryz.prog 107 args H Q := by
 intro args H Q h
 unfold c_kopaque at h
 split at h
 rotate_left
 ·exact h.elim
 rename_i cl
 split at h
 rotate_left
 ·exact h.elim
 rename_i l hl
 refine Wp.said (args' := [.c (.d noTy l)]) (fun E g => RelVs.cons1 (of_list hl) (fun _ h => h)) ?_
 clear hl
 refine Wp.enter (X := XB249) XB249_ok ⟨[(4, ⟨[(9, .int .i64)], [(0, .map 3 .int .bool)]⟩)], []⟩ (fn := Tryz.f107) (by kernel_rfl) ?_
 have hv := vc_kopaque_eq l Q
 rw [show vFun _ _ _ _ _ _ = _ from hv]
 unfold vc_kopaque
 intro hl _
 refine LoopP.intro (fun i => 0 ≤ i.1.1 ∧ i.1.1 ≤ l.length ∧ opqGo (l.drop i.1.1.toNat) i.2.1 = opqGo l [] ∧ (i.2.1.length : Int) ≤ i.1.1) (fun i => l.length - i.1.1.toNat) ⟨by simp, by simp, by simp, by simp⟩ ?_
 rintro ⟨⟨i, _⟩, m, _⟩ ⟨h0, h1, h2, h3⟩
 simp only at h0 h1 h2 h3 ⊢
 refine br_of (fun hc => ?_) (fun hc => ?_)
 ·have hc : i < l.length := by simpa using hc
  rw [ixD_drop (e := noTy) h0 hc] at h2
  refine ⟨h0, hc, fun _ _ => br_of (fun h4 => ?_) (fun h4 => ?_)⟩
  ·have h4 : (Kk.get .int m (ixD noTy l i).2.1).getD false = true := h4
   simp only [opqGo, h4, if_true] at h2
   rw [← h2] at h; exact h
  ·have h4 : (Kk.get .int m (ixD noTy l i).2.1).getD false = false := h4
   simp only [opqGo, h4, Bool.false_eq_true, if_false] at h2
   have hp := put_len (k := .int) (l := m) (x := (ixD noTy l i).2.1) (v := ((ixD noTy l i).2.2.1 == 1))
   exact ⟨by omega, by unfold inK; omega, ⟨by omega, by omega, h2, by omega⟩, by omega⟩
 ·have hc : ¬ i < l.length := by simpa using hc
  rw [drop_all hc] at h2
  simp only [opqGo] at h2
  rw [← h2] at h; exact h
def eqB (a b : List UInt8) : Bool := sEq (bstr a) (bstr b)
def c_kbequal : Ct
 | [.v (.c ca), .v (.c cb)], [], Q => (match (Ty.sl Ty.u8).of [ca] with
  | some (a, []) => (match (Ty.sl Ty.u8).of [cb] with
  | some (b, []) => Q (.bool (eqB a b)) []
  | _ => False)
  | _ => False)
 | _, _, _ => False
noncomputable def XB250 : Vx := { P := Tryz.prog, ct := (107, c_kopaque) :: XB249.ct, ty := tyTab, hold := [] }
theorem XB250_ok : CtOk Inv Tryz.prog XB250.ct := CtOk.cons w_kopaque (XB249_ok)
def vc_kbequal : (List (Ty.u8).den) → (List (Ty.u8).den) → (SV → List HO → Prop) → Prop :=
 fun a b Q => List.length a ≤ 9223372036854775807 → List.length b ≤ 9223372036854775807 → Q (.v (.c (.k (.bool (sEq (bstr a) (bstr b)))))) []
theorem vc_kbequal_eq (a : List (Ty.u8).den) (b : List (Ty.u8).den) (Q : SV → List HO → Prop) : vFun XB250 ⟨[], []⟩ Tryz.f170 [.c (.d Ty.u8 a), .c (.d Ty.u8 b)] [] Q = vc_kbequal a b Q := by kernel_rfl
theorem w_kbequal : ∀ args H Q, c_kbequal args H Q → Wp Inv Tryz.prog 170 args H Q := by
 intro args H Q h
 unfold c_kbequal at h
 split at h
 rotate_left
 ·exact h.elim
 rename_i ca cb
 split at h
 rotate_left
 ·exact h.elim
 rename_i a ha
 split at h
 rotate_left
 ·exact h.elim
 rename_i b hb
 refine Wp.said (args' := [.c (.d Ty.u8 a), .c (.d Ty.u8 b)]) (fun E g => RelVs.cons1 (of_list ha) (RelVs.cons1 (of_list hb) (fun _ h => h))) ?_
 clear ha hb
 refine Wp.enter (X := XB250) XB250_ok ⟨[], []⟩ (fn := Tryz.f170) (by kernel_rfl) ?_
 have hv := vc_kbequal_eq a b Q
 rw [show vFun _ _ _ _ _ _ = _ from hv]
 unfold vc_kbequal
 intros
 exact h
def alikeX (x y : XaD) : Bool := sEq x.1 y.1 && eqB x.2.1 y.2.1
def c_kalikeX : Ct
 | [.v (.agg cx), .v (.agg cy)], [], Q => (match (xaTy).of cx with
  | some (x, []) => (match (xaTy).of cy with
  | some (y, []) => Q (.bool (alikeX x y)) []
  | _ => False)
  | _ => False)
 | _, _, _ => False
noncomputable def XB251 : Vx := { P := Tryz.prog, ct := (170, c_kbequal) :: XB250.ct, ty := tyTab, hold := [] }
theorem XB251_ok : CtOk Inv Tryz.prog XB251.ct := CtOk.cons w_kbequal (XB250_ok)
def vc_kalikeX : ((xaTy).den) → ((xaTy).den) → (SV → List HO → Prop) → Prop :=
 fun x y Q => ByteArray.size x.1 ≤ 9223372036854775807 → List.length x.2.1 ≤ 9223372036854775807 → ByteArray.size y.1 ≤ 9223372036854775807 → List.length y.2.1 ≤ 9223372036854775807 → br (sEq x.1 y.1) (Q (.v (.c (.k (.bool (eqB x.2.1 
 y.2.1))))) []) (Q (.v (.c (.k (.bool false)))) [])
theorem vc_kalikeX_eq (x : (xaTy).den) (y : (xaTy).den) (Q : SV → List HO → Prop) : vFun XB251 ⟨[], []⟩ Tryz.f169 [.v (.agg (Ty.cells xaTy x)), .v (.agg (Ty.cells xaTy y))] [] Q = vc_kalikeX x y Q := by kernel_rfl
theorem w_kalikeX : ∀ args H Q, c_kalikeX args H Q → Wp Inv Tryz.prog 169 args H Q := by
 intro args H Q h
 unfold c_kalikeX at h
 split at h
 rotate_left
 ·exact h.elim
 rename_i cx cy
 split at h
 rotate_left
 ·exact h.elim
 rename_i x hx
 split at h
 rotate_left
 ·exact h.elim
 rename_i y hy
 refine Wp.said (args' := [.v (.agg (Ty.cells xaTy x)), .v (.agg (Ty.cells xaTy y))]) (fun E g => RelVs.cons1 (of_row hx) (RelVs.cons1 (of_row hy) (fun _ h => h))) ?_
 clear hx hy
 refine Wp.enter (X := XB251) XB251_ok ⟨[], []⟩ (fn := Tryz.f169) (by kernel_rfl) ?_
 have hv := vc_kalikeX_eq x y Q
 rw [show vFun _ _ _ _ _ _ = _ from hv]
 unfold vc_kalikeX
 unfold alikeX at h
 intros
 refine br_of (fun hc => ?_) (fun hc => ?_) <;> rw [hc] at h <;> first | exact h | (intros; exact h)
def alikeXs : List XaD → List XaD → Bool
 | [], [] => true
 | x :: a, y :: b => alikeX x y && alikeXs a b
 | _, _ => false
theorem alikeXs_len : ∀ {a b : List XaD}, a.length ≠ b.length → alikeXs a b = false
 | [], [], h => absurd rfl h
 | _ :: a, _ :: b, h => by
  unfold alikeXs
  rw [alikeXs_len (a := a) (b := b) (by simpa using h), Bool.and_false]
 | [], _ :: _, _ => rfl
 | _ :: _, [], _ => rfl
def c_keqXs : Ct
 | [.v (.c ca), .v (.c cb), .v (.c (.fn 169 []))], [], Q => (match (Ty.sl xaTy).of [ca] with
  | some (a, []) => (match (Ty.sl xaTy).of [cb] with
  | some (b, []) => Q (.bool (alikeXs a b)) []
  | _ => False)
  | _ => False)
 | _, _, _ => False
noncomputable def XB252 : Vx := { P := Tryz.prog, ct := (169, c_kalikeX) :: XB251.ct, ty := tyTab, hold := [] }
theorem XB252_ok : CtOk Inv Tryz.prog XB252.ct := CtOk.cons w_kalikeX (XB251_ok)
def vc_keqXs : (List (xaTy).den) → (List (xaTy).den) → (SV → List HO → Prop) → Prop :=
 fun a b Q => List.length a ≤ 9223372036854775807 → List.length b ≤ 9223372036854775807 → List.length a ≤ 9223372036854775807 → List.length b ≤ 9223372036854775807 → br ((a.length : Int) != (b.length : Int)) (Q (.v (.c (.k (.bool false)))) 
 []) (List.length a ≤ 9223372036854775807 → LoopP (fun i again => br (decide (i.1.1 < (a.length : Int))) (0 ≤ i.1.1 ∧ i.1.1 < (a.length : Int) ∧ (Ty.ok xaTy (ixD xaTy a i.1.1) → 0 ≤ i.1.1 ∧ i.1.1 < (b.length : Int) ∧ (Ty.ok xaTy (ixD xaTy b 
 i.1.1) → br (!alikeX ((ixD xaTy a i.1.1).1, (ixD xaTy a i.1.1).2.1, ()) ((ixD xaTy b i.1.1).1, (ixD xaTy b i.1.1).2.1, ())) (Q (.v (.c (.k (.bool false)))) []) (inK .i64 (i.1.1 + 1) ∧ again ((i.1.1 + 1, ()), ()))))) (Q (.v (.c (.k (.bool 
 true)))) [])) (((0 : Int), ()), ()))
theorem vc_keqXs_eq (a : List (xaTy).den) (b : List (xaTy).den) (Q : SV → List HO → Prop) : vFun XB252 ⟨[(5, ⟨[(17, .int .i64)], []⟩)], []⟩ Tryz.f171 [.c (.d xaTy a), .c (.d xaTy b), .c (.fn 169 [])] [] Q = vc_keqXs a b Q := by kernel_rfl
theorem w_keqXs : ∀ args H Q, c_keqXs args H Q → Wp Inv Tryz.prog 171 args H Q := by
 intro args H Q h
 unfold c_keqXs at h
 split at h
 rotate_left
 ·exact h.elim
 rename_i ca cb
 split at h
 rotate_left
 ·exact h.elim
 rename_i a ha
 split at h
 rotate_left
 ·exact h.elim
 rename_i b hb
 refine Wp.said (args' := [.c (.d xaTy a), .c (.d xaTy b), .c (.fn 169 [])]) (fun E g => RelVs.cons1 (of_list ha) (RelVs.cons1 (of_list hb) (RelVs.cons1 (fun _ h => h) (fun _ h => h)))) ?_
 clear ha hb
 refine Wp.enter (X := XB252) XB252_ok ⟨[(5, ⟨[(17, .int .i64)], []⟩)], []⟩ (fn := Tryz.f171) (by kernel_rfl) ?_
 have hv := vc_keqXs_eq a b Q
 rw [show vFun _ _ _ _ _ _ = _ from hv]
 unfold vc_keqXs
 intro _ _ _ _
 refine br_of (fun h1 => ?_) (fun h1 => ?_)
 ·rw [alikeXs_len (by intro e; rw [e] at h1; simp at h1)] at h
  exact h
 ·have hl : a.length = b.length := by
   have : (a.length : Int) = (b.length : Int) := by simpa only [bne_eq_false_iff_eq] using h1
   omega
  intro _
  refine LoopP.intro (fun i => 0 ≤ i.1.1 ∧ i.1.1 ≤ a.length ∧ alikeXs (a.drop i.1.1.toNat) (b.drop i.1.1.toNat) = alikeXs a b) (fun i => a.length - i.1.1.toNat) ⟨by simp, by simp, by simp⟩ ?_
  rintro ⟨⟨i, _⟩, _⟩ ⟨h0, h2, h3⟩
  simp only at h0 h2 h3 ⊢
  refine br_of (fun hc => ?_) (fun hc => ?_)
  ·have hc : i < a.length := by simpa using hc
   have hc2 : i < b.length := by omega
   rw [ixD_drop (e := xaTy) h0 hc, ixD_drop (e := xaTy) h0 hc2] at h3
   simp only [alikeXs] at h3
   refine ⟨h0, hc, fun _ => ⟨h0, hc2, fun _ => br_of (fun h4 => ?_) (fun h4 => ?_)⟩⟩
   ·have h4 : alikeX (ixD xaTy a i) (ixD xaTy b i) = false := by simpa using h4
    rw [h4, Bool.false_and] at h3
    rw [← h3] at h; exact h
   ·have h4 : alikeX (ixD xaTy a i) (ixD xaTy b i) = true := by simpa using h4
    rw [h4, Bool.true_and] at h3
    exact ⟨by unfold inK; omega, ⟨by omega, by omega, h3⟩, by omega⟩
  ·have hc : ¬ i < a.length := by simpa using hc
   rw [drop_all hc, drop_all (by omega)] at h3
   simp only [alikeXs] at h3
   rw [← h3] at h; exact h
def alikeN (x y : NoD) : Bool := x.2.2.1 == y.2.2.1 && ((x.2.2.2.1.1 == y.2.2.2.1.1 && (x.2.2.2.1.2.1 == y.2.2.2.1.2.1 && (x.2.2.2.1.2.2.1 == y.2.2.2.1.2.2.1 && true))) && (sEq x.2.2.2.2.2.1 y.2.2.2.2.2.1 && (x.2.2.2.2.2.2.2.1 == y.2.2.2.2.2.2.2.1 && (eqB x.2.2.2.2.1 y.2.2.2.2.1 && alikeXs x.2.2.2.2.2.2.1 y.2.2.2.2.2.2.1))))
def c_kalike : Ct
 | [.v (.agg cx), .v (.agg cy)], [], Q => (match (noTy).of cx with
  | some (x, []) => (match (noTy).of cy with
  | some (y, []) => Q (.bool (alikeN x y)) []
  | _ => False)
  | _ => False)
 | _, _, _ => False
noncomputable def XB253 : Vx := { P := Tryz.prog, ct := (171, c_keqXs) :: XB252.ct, ty := tyTab, hold := [] }
theorem XB253_ok : CtOk Inv Tryz.prog XB253.ct := CtOk.cons w_keqXs (XB252_ok)
def vc_kalike : ((noTy).den) → ((noTy).den) → (SV → List HO → Prop) → Prop :=
 fun x y Q => List.length x.1 ≤ 9223372036854775807 → inK .i64 x.2.1 → inK .i64 x.2.2.1 → inK .i64 x.2.2.2.1.1 → inK .i64 x.2.2.2.1.2.1 → inK .i64 x.2.2.2.1.2.2.1 → List.length x.2.2.2.2.1 ≤ 9223372036854775807 → ByteArray.size x.2.2.2.2.2.1 
 ≤ 9223372036854775807 → List.length x.2.2.2.2.2.2.1 ≤ 9223372036854775807 → List.length y.1 ≤ 9223372036854775807 → inK .i64 y.2.1 → inK .i64 y.2.2.1 → inK .i64 y.2.2.2.1.1 → inK .i64 y.2.2.2.1.2.1 → inK .i64 y.2.2.2.1.2.2.1 → List.length 
 y.2.2.2.2.1 ≤ 9223372036854775807 → ByteArray.size y.2.2.2.2.2.1 ≤ 9223372036854775807 → List.length y.2.2.2.2.2.2.1 ≤ 9223372036854775807 → br (x.2.2.1 == y.2.2.1) (br (x.2.2.2.1.1 == y.2.2.2.1.1 && (x.2.2.2.1.2.1 == y.2.2.2.1.2.1 && 
 (x.2.2.2.1.2.2.1 == y.2.2.2.1.2.2.1 && true))) (br (sEq x.2.2.2.2.2.1 y.2.2.2.2.2.1) (br (x.2.2.2.2.2.2.2.1 == y.2.2.2.2.2.2.2.1) (br (eqB x.2.2.2.2.1 y.2.2.2.2.1) (Q (.v (.c (.k (.bool (alikeXs x.2.2.2.2.2.2.1 y.2.2.2.2.2.2.1))))) []) (Q 
 (.v (.c (.k (.bool false)))) [])) (Q (.v (.c (.k (.bool false)))) [])) (Q (.v (.c (.k (.bool false)))) [])) (Q (.v (.c (.k (.bool false)))) [])) (Q (.v (.c (.k (.bool false)))) [])
theorem vc_kalike_eq (x : (noTy).den) (y : (noTy).den) (Q : SV → List HO → Prop) : vFun XB253 ⟨[], []⟩ Tryz.f157 [.v (.agg (Ty.cells noTy x)), .v (.agg (Ty.cells noTy y))] [] Q = vc_kalike x y Q := by kernel_rfl
theorem w_kalike : ∀ args H Q, c_kalike args H Q → Wp Inv Tryz.prog 157 args H Q := by
 intro args H Q h
 unfold c_kalike at h
 split at h
 rotate_left
 ·exact h.elim
 rename_i cx cy
 split at h
 rotate_left
 ·exact h.elim
 rename_i x hx
 split at h
 rotate_left
 ·exact h.elim
 rename_i y hy
 refine Wp.said (args' := [.v (.agg (Ty.cells noTy x)), .v (.agg (Ty.cells noTy y))]) (fun E g => RelVs.cons1 (of_row hx) (RelVs.cons1 (of_row hy) (fun _ h => h))) ?_
 clear hx hy
 refine Wp.enter (X := XB253) XB253_ok ⟨[], []⟩ (fn := Tryz.f157) (by kernel_rfl) ?_
 have hv := vc_kalike_eq x y Q
 rw [show vFun _ _ _ _ _ _ = _ from hv]
 unfold vc_kalike
 unfold alikeN at h
 intro _ _ _ _ _ _ _ _ _ _ _ _ _ _ _ _ _ _
 repeat' (first | refine br_of (fun hc => ?_) (fun hc => ?_) | intro _)
 all_goals refine Eq.mp (congrArg (fun z => Q (SV.bool z) []) ?_) h
 all_goals clear hv h
 all_goals simp only [*, Bool.true_and, Bool.false_and, Bool.and_false]
def linkGo : List NoD → List (Int × NoD) → Int
 | [], _ => 0
 | x :: r, m => match Kk.get .int m x.2.1 with
  | some o => if x.2.2.1 == 1 || !alikeN x o then 8 else linkGo r m
  | none => linkGo r (Kk.put .int m x.2.1 x)
def c_klinked : Ct
 | [.v (.c cl)], [], Q => (match (Ty.sl noTy).of [cl] with
  | some (l, []) => Q (.int (linkGo l [])) []
  | _ => False)
 | _, _, _ => False
noncomputable def XB254 : Vx := { P := Tryz.prog, ct := (157, c_kalike) :: XB253.ct, ty := tyTab, hold := [] }
theorem XB254_ok : CtOk Inv Tryz.prog XB254.ct := CtOk.cons w_kalike (XB253_ok)
def vc_klinked : (List (noTy).den) → (SV → List HO → Prop) → Prop :=
 fun l Q => List.length l ≤ 9223372036854775807 → List.length l ≤ 9223372036854775807 → LoopP (fun i again => br (decide (i.1.1 < (l.length : Int))) (0 ≤ i.1.1 ∧ i.1.1 < (l.length : Int) ∧ (Ty.ok noTy (ixD noTy l i.1.1) → Ty.ok noTy 
 (Option.getD (Kk.get Kk.int i.2.1 (ixD noTy l i.1.1).2.1) ([], (0 : Int), (0 : Int), ((0 : Int), (0 : Int), (0 : Int), ()), [], ByteArray.mk #[], [], false, ())) → br (Option.isSome (Kk.get Kk.int i.2.1 (ixD noTy l i.1.1).2.1)) (br ((ixD 
 noTy l i.1.1).2.2.1 == 1) (Q (.v (.c (.k (.int .i64 8)))) []) (br (!alikeN ((ixD noTy l i.1.1).1, (ixD noTy l i.1.1).2.1, (ixD noTy l i.1.1).2.2.1, ((ixD noTy l i.1.1).2.2.2.1.1, (ixD noTy l i.1.1).2.2.2.1.2.1, (ixD noTy l 
 i.1.1).2.2.2.1.2.2.1, ()), (ixD noTy l i.1.1).2.2.2.2.1, (ixD noTy l i.1.1).2.2.2.2.2.1, (ixD noTy l i.1.1).2.2.2.2.2.2.1, (ixD noTy l i.1.1).2.2.2.2.2.2.2.1, ()) ((Option.getD (Kk.get Kk.int i.2.1 (ixD noTy l i.1.1).2.1) ([], (0 : Int), (0 
 : Int), ((0 : Int), (0 : Int), (0 : Int), ()), [], ByteArray.mk #[], [], false, ())).1, (Option.getD (Kk.get Kk.int i.2.1 (ixD noTy l i.1.1).2.1) ([], (0 : Int), (0 : Int), ((0 : Int), (0 : Int), (0 : Int), ()), [], ByteArray.mk #[], [], 
 false, ())).2.1, (Option.getD (Kk.get Kk.int i.2.1 (ixD noTy l i.1.1).2.1) ([], (0 : Int), (0 : Int), ((0 : Int), (0 : Int), (0 : Int), ()), [], ByteArray.mk #[], [], false, ())).2.2.1, ((Option.getD (Kk.get Kk.int i.2.1 (ixD noTy l 
 i.1.1).2.1) ([], (0 : Int), (0 : Int), ((0 : Int), (0 : Int), (0 : Int), ()), [], ByteArray.mk #[], [], false, ())).2.2.2.1.1, (Option.getD (Kk.get Kk.int i.2.1 (ixD noTy l i.1.1).2.1) ([], (0 : Int), (0 : Int), ((0 : Int), (0 : Int), (0 : 
 Int), ()), [], ByteArray.mk #[], [], false, ())).2.2.2.1.2.1, (Option.getD (Kk.get Kk.int i.2.1 (ixD noTy l i.1.1).2.1) ([], (0 : Int), (0 : Int), ((0 : Int), (0 : Int), (0 : Int), ()), [], ByteArray.mk #[], [], false, ())).2.2.2.1.2.2.1, 
 ()), (Option.getD (Kk.get Kk.int i.2.1 (ixD noTy l i.1.1).2.1) ([], (0 : Int), (0 : Int), ((0 : Int), (0 : Int), (0 : Int), ()), [], ByteArray.mk #[], [], false, ())).2.2.2.2.1, (Option.getD (Kk.get Kk.int i.2.1 (ixD noTy l i.1.1).2.1) ([], 
 (0 : Int), (0 : Int), ((0 : Int), (0 : Int), (0 : Int), ()), [], ByteArray.mk #[], [], false, ())).2.2.2.2.2.1, (Option.getD (Kk.get Kk.int i.2.1 (ixD noTy l i.1.1).2.1) ([], (0 : Int), (0 : Int), ((0 : Int), (0 : Int), (0 : Int), ()), [], 
 ByteArray.mk #[], [], false, ())).2.2.2.2.2.2.1, (Option.getD (Kk.get Kk.int i.2.1 (ixD noTy l i.1.1).2.1) ([], (0 : Int), (0 : Int), ((0 : Int), (0 : Int), (0 : Int), ()), [], ByteArray.mk #[], [], false, ())).2.2.2.2.2.2.2.1, ())) (Q (.v 
 (.c (.k (.int .i64 8)))) []) (br (!Option.isSome (Kk.get Kk.int i.2.1 (ixD noTy l i.1.1).2.1)) (List.length i.2.1 < 9223372036854775807 ∧ inK .i64 (i.1.1 + 1) ∧ again ((i.1.1 + 1, ()), Kk.put Kk.int i.2.1 (ixD noTy l i.1.1).2.1 ((ixD noTy l 
 i.1.1).1, (ixD noTy l i.1.1).2.1, (ixD noTy l i.1.1).2.2.1, ((ixD noTy l i.1.1).2.2.2.1.1, (ixD noTy l i.1.1).2.2.2.1.2.1, (ixD noTy l i.1.1).2.2.2.1.2.2.1, ()), (ixD noTy l i.1.1).2.2.2.2.1, (ixD noTy l i.1.1).2.2.2.2.2.1, (ixD noTy l 
 i.1.1).2.2.2.2.2.2.1, (ixD noTy l i.1.1).2.2.2.2.2.2.2.1, ()), ())) (inK .i64 (i.1.1 + 1) ∧ again ((i.1.1 + 1, ()), i.2.1, ()))))) (br (!Option.isSome (Kk.get Kk.int i.2.1 (ixD noTy l i.1.1).2.1)) (List.length i.2.1 < 9223372036854775807 ∧ 
 inK .i64 (i.1.1 + 1) ∧ again ((i.1.1 + 1, ()), Kk.put Kk.int i.2.1 (ixD noTy l i.1.1).2.1 ((ixD noTy l i.1.1).1, (ixD noTy l i.1.1).2.1, (ixD noTy l i.1.1).2.2.1, ((ixD noTy l i.1.1).2.2.2.1.1, (ixD noTy l i.1.1).2.2.2.1.2.1, (ixD noTy l 
 i.1.1).2.2.2.1.2.2.1, ()), (ixD noTy l i.1.1).2.2.2.2.1, (ixD noTy l i.1.1).2.2.2.2.2.1, (ixD noTy l i.1.1).2.2.2.2.2.2.1, (ixD noTy l i.1.1).2.2.2.2.2.2.2.1, ()), ())) (inK .i64 (i.1.1 + 1) ∧ again ((i.1.1 + 1, ()), i.2.1, ()))))) (Q (.v 
 (.c (.k (.int .i64 0)))) [])) (((0 : Int), ()), [], ())
theorem vc_klinked_eq (l : List (noTy).den) (Q : SV → List HO → Prop) : vFun XB254 ⟨[(4, ⟨[(11, .int .i64)], [(0, .map 3 .int noTy)]⟩)], []⟩ Tryz.f133 [.c (.d noTy l)] [] Q = vc_klinked l Q := by kernel_rfl
theorem w_klinked : ∀ args H Q, c_klinked args H Q → Wp Inv Tryz.prog 133 args H Q := by
 intro args H Q h
 unfold c_klinked at h
 split at h
 rotate_left
 ·exact h.elim
 rename_i cl
 split at h
 rotate_left
 ·exact h.elim
 rename_i l hl
 refine Wp.said (args' := [.c (.d noTy l)]) (fun E g => RelVs.cons1 (of_list hl) (fun _ h => h)) ?_
 clear hl
 refine Wp.enter (X := XB254) XB254_ok ⟨[(4, ⟨[(11, .int .i64)], [(0, .map 3 .int noTy)]⟩)], []⟩ (fn := Tryz.f133) (by kernel_rfl) ?_
 have hv := vc_klinked_eq l Q
 rw [show vFun _ _ _ _ _ _ = _ from hv]
 unfold vc_klinked
 intro hl _
 refine LoopP.intro (fun i => 0 ≤ i.1.1 ∧ i.1.1 ≤ l.length ∧ linkGo (l.drop i.1.1.toNat) i.2.1 = linkGo l [] ∧ (i.2.1.length : Int) ≤ i.1.1) (fun i => l.length - i.1.1.toNat) ⟨by simp, by simp, by simp, by simp⟩ ?_
 rintro ⟨⟨i, _⟩, m, _⟩ ⟨h0, h1, h2, h3⟩
 simp only at h0 h1 h2 h3 ⊢
 refine br_of (fun hc => ?_) (fun hc => ?_)
 ·have hc : i < l.length := by simpa using hc
  rw [ixD_drop (e := noTy) h0 hc] at h2
  refine ⟨h0, hc, fun _ => ?_⟩
  have hp := put_len (k := .int) (l := m) (x := (ixD noTy l i).2.1) (v := ixD noTy l i)
  cases hg : Kk.get .int m (ixD noTy l i).2.1 with
  | none =>
   simp only [linkGo, hg] at h2
   intro _
   refine br_of (fun h4 => by cases h4) (fun _ => br_of (fun _ => ?_) (fun h5 => by cases h5))
   exact ⟨by omega, by unfold inK; omega, ⟨by omega, by omega, h2, Int.le_trans (Int.ofNat_le.2 hp) (by omega)⟩, by omega⟩
  | some o =>
   simp only [linkGo, hg] at h2
   intro _
   refine br_of (fun _ => br_of (fun h5 => ?_) (fun h5 => br_of (fun h6 => ?_) (fun h6 => br_of (fun h7 => by cases h7) (fun _ => ?_)))) (fun h4 => by cases h4)
   ·rw [h5, Bool.true_or, if_pos rfl] at h2
    rw [← h2] at h; exact h
   ·have h6 : (!alikeN (ixD noTy l i) o) = true := h6
    rw [h6, Bool.or_true, if_pos rfl] at h2
    rw [← h2] at h; exact h
   ·have h6 : (!alikeN (ixD noTy l i) o) = false := h6
    rw [h5, h6] at h2
    exact ⟨by unfold inK; omega, ⟨by omega, by omega, h2, by omega⟩, by omega⟩
 ·have hc : ¬ i < l.length := by simpa using hc
  rw [drop_all hc] at h2
  simp only [linkGo] at h2
  rw [← h2] at h; exact h
def whGo : List NoD → List (Int × Bool) → Bool
 | [], _ => false
 | x :: r, m => match Kk.get .int m x.2.1 with
  | some o => if o || x.2.2.1 == 4 then true else whGo r (Kk.put .int m x.2.1 (x.2.2.1 == 4))
  | none => whGo r (Kk.put .int m x.2.1 (x.2.2.1 == 4))
def c_kwhite : Ct
 | [.v (.c cl)], [], Q => (match (Ty.sl noTy).of [cl] with
  | some (l, []) => Q (.bool (whGo l [])) []
  | _ => False)
 | _, _, _ => False
noncomputable def XB255 : Vx := { P := Tryz.prog, ct := (133, c_klinked) :: XB254.ct, ty := tyTab, hold := [] }
theorem XB255_ok : CtOk Inv Tryz.prog XB255.ct := CtOk.cons w_klinked (XB254_ok)
def vc_kwhite : (List (noTy).den) → (SV → List HO → Prop) → Prop :=
 fun l Q => List.length l ≤ 9223372036854775807 → List.length l ≤ 9223372036854775807 → LoopP (fun i again => br (decide (i.1.1 < (l.length : Int))) (0 ≤ i.1.1 ∧ i.1.1 < (l.length : Int) ∧ (Ty.ok noTy (ixD noTy l i.1.1) → Ty.ok Ty.bool 
 (Option.getD (Kk.get Kk.int i.2.1 (ixD noTy l i.1.1).2.1) false) → br (Option.isSome (Kk.get Kk.int i.2.1 (ixD noTy l i.1.1).2.1)) (br (Option.getD (Kk.get Kk.int i.2.1 (ixD noTy l i.1.1).2.1) false) (Q (.v (.c (.k (.bool true)))) []) (br 
 ((ixD noTy l i.1.1).2.2.1 == 4) (Q (.v (.c (.k (.bool true)))) []) (List.length i.2.1 < 9223372036854775807 ∧ inK .i64 (i.1.1 + 1) ∧ again ((i.1.1 + 1, ()), Kk.put Kk.int i.2.1 (ixD noTy l i.1.1).2.1 ((ixD noTy l i.1.1).2.2.1 == 4), ())))) 
 (List.length i.2.1 < 9223372036854775807 ∧ inK .i64 (i.1.1 + 1) ∧ again ((i.1.1 + 1, ()), Kk.put Kk.int i.2.1 (ixD noTy l i.1.1).2.1 ((ixD noTy l i.1.1).2.2.1 == 4), ())))) (Q (.v (.c (.k (.bool false)))) [])) (((0 : Int), ()), [], ())
theorem vc_kwhite_eq (l : List (noTy).den) (Q : SV → List HO → Prop) : vFun XB255 ⟨[(4, ⟨[(11, .int .i64)], [(0, .map 3 .int .bool)]⟩)], []⟩ Tryz.f108 [.c (.d noTy l)] [] Q = vc_kwhite l Q := by kernel_rfl
theorem w_kwhite : ∀ args H Q, c_kwhite args H Q → Wp Inv Tryz.prog 108 args H Q := by
 intro args H Q h
 unfold c_kwhite at h
 split at h
 rotate_left
 ·exact h.elim
 rename_i cl
 split at h
 rotate_left
 ·exact h.elim
 rename_i l hl
 refine Wp.said (args' := [.c (.d noTy l)]) (fun E g => RelVs.cons1 (of_list hl) (fun _ h => h)) ?_
 clear hl
 refine Wp.enter (X := XB255) XB255_ok ⟨[(4, ⟨[(11, .int .i64)], [(0, .map 3 .int .bool)]⟩)], []⟩ (fn := Tryz.f108) (by kernel_rfl) ?_
 have hv := vc_kwhite_eq l Q
 rw [show vFun _ _ _ _ _ _ = _ from hv]
 unfold vc_kwhite
 intro hl _
 refine LoopP.intro (fun i => 0 ≤ i.1.1 ∧ i.1.1 ≤ l.length ∧ whGo (l.drop i.1.1.toNat) i.2.1 = whGo l [] ∧ (i.2.1.length : Int) ≤ i.1.1) (fun i => l.length - i.1.1.toNat) ⟨by simp, by simp, by simp, by simp⟩ ?_
 rintro ⟨⟨i, _⟩, m, _⟩ ⟨h0, h1, h2, h3⟩
 simp only at h0 h1 h2 h3 ⊢
 refine br_of (fun hc => ?_) (fun hc => ?_)
 ·have hc : i < l.length := by simpa using hc
  rw [ixD_drop (e := noTy) h0 hc] at h2
  refine ⟨h0, hc, fun _ _ => ?_⟩
  have hp := put_len (k := .int) (l := m) (x := (ixD noTy l i).2.1) (v := ((ixD noTy l i).2.2.1 == 4))
  cases hg : Kk.get .int m (ixD noTy l i).2.1 with
  | none =>
   simp only [whGo, hg] at h2
   refine br_of (fun h4 => by cases h4) (fun _ => ?_)
   exact ⟨by omega, by unfold inK; omega, ⟨by omega, by omega, h2, Int.le_trans (Int.ofNat_le.2 hp) (by omega)⟩, by omega⟩
  | some o =>
   simp only [whGo, hg] at h2
   refine br_of (fun _ => br_of (fun h5 => ?_) (fun h5 => br_of (fun h6 => ?_) (fun h6 => ?_))) (fun h4 => by cases h4)
   ·have h5 : o = true := h5
    rw [h5, Bool.true_or, if_pos rfl] at h2
    rw [← h2] at h; exact h
   ·rw [h6, Bool.or_true, if_pos rfl] at h2
    rw [← h2] at h; exact h
   ·have h5 : o = false := h5
    rw [h5, h6, Bool.or_false, if_neg (by simp)] at h2
    rw [h6] at hp
    rw [h6]
    exact ⟨by omega, by unfold inK; omega, ⟨by omega, by omega, h2, Int.le_trans (Int.ofNat_le.2 hp) (by omega)⟩, by omega⟩
 ·have hc : ¬ i < l.length := by simpa using hc
  rw [drop_all hc] at h2
  simp only [whGo] at h2
  rw [← h2] at h; exact h
def plainN (x : NoD) : NoD := (x.1, x.2.1, (if x.2.2.1 = 4 then 2 else x.2.2.1), x.2.2.2.1, x.2.2.2.2.1, x.2.2.2.2.2.1, x.2.2.2.2.2.2.1, (if x.2.2.1 = 1 then false else x.2.2.2.2.2.2.2.1), ())
def c_kbplain : Ct
 | [.v (.agg cx)], [], Q => (match (noTy).of cx with
  | some (x, []) => Q (.v (.agg (noTy.cells (plainN x)))) []
  | _ => False)
 | _, _, _ => False
noncomputable def XB256 : Vx := { P := Tryz.prog, ct := (108, c_kwhite) :: XB255.ct, ty := tyTab, hold := [] }
theorem XB256_ok : CtOk Inv Tryz.prog XB256.ct := CtOk.cons w_kwhite (XB255_ok)
def vc_kbplain : ((noTy).den) → (SV → List HO → Prop) → Prop :=
 fun x Q => List.length x.1 ≤ 9223372036854775807 → inK .i64 x.2.1 → inK .i64 x.2.2.1 → inK .i64 x.2.2.2.1.1 → inK .i64 x.2.2.2.1.2.1 → inK .i64 x.2.2.2.1.2.2.1 → List.length x.2.2.2.2.1 ≤ 9223372036854775807 → ByteArray.size x.2.2.2.2.2.1 ≤ 
 9223372036854775807 → List.length x.2.2.2.2.2.2.1 ≤ 9223372036854775807 → br (x.2.2.1 == 1) (Q (SV.v (S1.agg [Cl.d Ty.str x.1, .k (.int .i64 x.2.1), .k (.int .i64 x.2.2.1), .k (.int .i64 x.2.2.2.1.1), .k (.int .i64 x.2.2.2.1.2.1), .k (.int 
 .i64 x.2.2.2.1.2.2.1), Cl.d Ty.u8 x.2.2.2.2.1, .k (.string x.2.2.2.2.2.1), Cl.d xaTy x.2.2.2.2.2.2.1, .k (.bool false)])) []) (br (x.2.2.1 == 4) (Q (SV.v (S1.agg [Cl.d Ty.str x.1, .k (.int .i64 x.2.1), .k (.int .i64 2), .k (.int .i64 
 x.2.2.2.1.1), .k (.int .i64 x.2.2.2.1.2.1), .k (.int .i64 x.2.2.2.1.2.2.1), Cl.d Ty.u8 x.2.2.2.2.1, .k (.string x.2.2.2.2.2.1), Cl.d xaTy x.2.2.2.2.2.2.1, .k (.bool x.2.2.2.2.2.2.2.1)])) []) (Q (SV.v (S1.agg [Cl.d Ty.str x.1, .k (.int .i64 
 x.2.1), .k (.int .i64 x.2.2.1), .k (.int .i64 x.2.2.2.1.1), .k (.int .i64 x.2.2.2.1.2.1), .k (.int .i64 x.2.2.2.1.2.2.1), Cl.d Ty.u8 x.2.2.2.2.1, .k (.string x.2.2.2.2.2.1), Cl.d xaTy x.2.2.2.2.2.2.1, .k (.bool x.2.2.2.2.2.2.2.1)])) []))
theorem vc_kbplain_eq (x : (noTy).den) (Q : SV → List HO → Prop) : vFun XB256 ⟨[], []⟩ Tryz.f104 [.v (.agg (Ty.cells noTy x))] [] Q = vc_kbplain x Q := by kernel_rfl
theorem w_kbplain : ∀ args H Q, c_kbplain args H Q → Wp Inv Tryz.prog 104 args H Q := by
 intro args H Q h
 unfold c_kbplain at h
 split at h
 rotate_left
 ·exact h.elim
 rename_i cx
 split at h
 rotate_left
 ·exact h.elim
 rename_i x hx
 refine Wp.said (args' := [.v (.agg (Ty.cells noTy x))]) (fun E g => RelVs.cons1 (of_row hx) (fun _ h => h)) ?_
 clear hx
 refine Wp.enter (X := XB256) XB256_ok ⟨[], []⟩ (fn := Tryz.f104) (by kernel_rfl) ?_
 have hv := vc_kbplain_eq x Q
 rw [show vFun _ _ _ _ _ _ = _ from hv]
 unfold vc_kbplain
 unfold plainN at h
 intro _ _ _ _ _ _ _ _ _
 refine br_of (fun hc => ?_) (fun hc => br_of (fun hd => ?_) (fun hd => ?_))
 ·have hc : x.2.2.1 = 1 := by simpa using hc
  rw [if_pos hc, if_neg (show ¬ x.2.2.1 = 4 by rw [hc]; decide)] at h
  exact h
 ·have hd : x.2.2.1 = 4 := by simpa using hd
  rw [if_neg (show ¬ x.2.2.1 = 1 by rw [hd]; decide), if_pos hd] at h
  exact h
 ·have hc : x.2.2.1 ≠ 1 := by simpa using hc
  have hd : x.2.2.1 ≠ 4 := by simpa using hd
  rw [if_neg hc, if_neg hd] at h
  exact h
end Go.Proofs

namespace Go.Proofs
open Go Go.Lm Go.RowKit
set_option maxRecDepth 1000000
def validsGo : List ByteArray → Int
 | [] => 0
 | s :: r => if validN s != 0 then validN s else validsGo r
def namesGo : List NoD → Int
 | [] => 0
 | x :: r => if validsGo x.1 != 0 then validsGo x.1 else namesGo r
def deepB (l : List NoD) : Bool := l.any fun x => decide ((x.1.length : Int) > 16)
def twiceGo (l : List NoD) : List NoD → Int → Bool
 | [], _ => false
 | x :: r, i => decide (idxF (isNm x.1) l 0 < i) || twiceGo l r (i + 1)
def namedR (l : List NoD) : Int := if namesGo l != 0 then namesGo l else if deepB l then 9 else if twiceGo l l 0 then 6 else 0
theorem validN_old (s : ByteArray) : Go.LmN.validN s = validN s := by
 unfold Go.LmN.validN validN
 rw [show Go.LmN.dots s = dotsB s from rfl, show Go.LmN.badB s 0 = slashB s 0 from rfl, Bool.or_comm]
def c_sjoin : Ct
 | [.v (.c ca), .v (.c (.k (.string z)))], [], Q => (match (Ty.sl Ty.str).of [ca] with
  | some (a, []) => z = ⟨#[47]⟩ ∧ (Go.LmN.joinN a).size ≤ 140737488355328 ∧ Q (.str ⟨(Lib.join (a.map (·.data.toList)) [47]).toArray⟩) []
  | _ => False)
 | _, _, _ => False
theorem sj_size (l : List ByteArray) (hb : (Go.LmN.joinN l).size ≤ 140737488355328) : 1 + (ByteArray.mk ((Lib.join (l.map (·.data.toList)) [47]).toArray)).size ≤ 9223372036854775807 := by
 have hj := Go.LmN.join_len1 l
 have e : (ByteArray.mk ((Lib.join (l.map (·.data.toList)) [47]).toArray)).size = (Lib.join (l.map (·.data.toList)) [47]).length := by rw [Go.LmN.size_list]
 rw [e]; omega
theorem join_lib (l : List ByteArray) (v : Value) (g w : World) (sees : Mono g w) (h : Is g v l) (hb : (Go.LmN.joinN l).size ≤ 140737488355328) : Ret Tryz.prog 152 #[v, .string ⟨#[47]⟩] w fun u w' => u = .string ⟨(Lib.join (l.map (·.data.toList)) [47]).toArray⟩ ∧ Le w w' := by
 have hj := Go.LmN.join_len l
 by_cases hl : l = []
 ·subst hl
  rcases is_list.1 h with ⟨rfl, _⟩ | ⟨a, cap, rfl, _⟩
  ·exact (Ret.of (Tryz.strings_Join_none none 0 ⟨#[47]⟩ w)).mono fun _ _ ⟨h1, h2⟩ => ⟨h1, by rw [h2]; exact Le.refl w⟩
  ·exact (Ret.of (Tryz.strings_Join_none (some a) cap ⟨#[47]⟩ w)).mono fun _ _ ⟨h1, h2⟩ => ⟨h1, by rw [h2]; exact Le.refl w⟩
 ·obtain ⟨bk, o, c, rfl, h1, h2, h3⟩ := Go.LmN.join_argsM h sees hl
  have hn : l.length ≤ (Go.LmN.joinN l).size := by
   have e := Go.LmN.joinN_data l
   rw [if_neg (by simpa using hl)] at e
   rw [Go.LmN.size_list, e]
   exact Go.LmN.tails_ge l
  exact (Ret.of (Tryz.strings_Join bk o c l ⟨#[47]⟩ w h1 h2 (by omega) h3 (by show (Lib.join (l.map (·.data.toList)) [47]).length ≤ _; omega))).mono fun _ _ ⟨h1, h2⟩ => ⟨h1, h2⟩
theorem w_sjoin : ∀ args H Q, c_sjoin args H Q → Wp Inv Tryz.prog 152 args H Q := by
 intro args H Q h
 unfold c_sjoin at h
 split at h
 ·split at h
  ·rename_i a ha
   obtain ⟨rfl, hb, h⟩ := h
   refine Wp.of_pure (fun E g w vs m hv => ?_) h
   obtain ⟨u, v, rfl, hu, ⟨rfl, _⟩⟩ := relVs_two hv
   have hu : IsD .str g u a := of_list ha u hu
   refine (join_lib a u g w m hu hb).mono fun x w' ⟨h1, h2⟩ => ⟨?_, h2⟩
   rw [h1]
   refine ⟨rfl, ?_⟩
   exact Nat.le_trans (Nat.le_add_left _ 1) (sj_size a hb)
  ·exact h.elim
 ·exact h.elim
def c_kjoin : Ct
 | [.v (.c ca)], [], Q => (match (Ty.sl Ty.str).of [ca] with
  | some (a, []) => ((Go.LmN.joinN a).size ≤ 140737488355328 ∧ Q (.str (Go.LmN.joinN a)) [])
  | _ => False)
 | _, _, _ => False
noncomputable def XB357 : Vx := { P := Tryz.prog, ct := (152, c_sjoin) :: (104, c_kbplain) :: XB256.ct, ty := tyTab, hold := [] }
theorem XB357_ok : CtOk Inv Tryz.prog XB357.ct := CtOk.cons w_sjoin (CtOk.cons w_kbplain (XB256_ok))
def vc_kjoin : (List (Ty.str).den) → (SV → List HO → Prop) → Prop :=
 fun a Q => List.length a ≤ 9223372036854775807 → ByteArray.mk #[(47 : UInt8)] = ByteArray.mk #[(47 : UInt8)] ∧ ByteArray.size (LmN.joinN a) ≤ 140737488355328 ∧ (ByteArray.size (ByteArray.mk (List.toArray (Lib.join (List.map (fun x => 
 x.data.toList) a) [(47 : UInt8)]))) ≤ 9223372036854775807 → (1 : Nat) + ByteArray.size (ByteArray.mk (List.toArray (Lib.join (List.map (fun x => x.data.toList) a) [(47 : UInt8)]))) ≤ 9223372036854775807 ∧ Q (.v (.c (.k (.string 
 (ByteArray.mk #[(47 : UInt8)] ++ ByteArray.mk (List.toArray (Lib.join (List.map (fun x => x.data.toList) a) [(47 : UInt8)]))))))) [])
theorem vc_kjoin_eq (a : List (Ty.str).den) (Q : SV → List HO → Prop) : vFun XB357 ⟨[], []⟩ Tryz.f129 [.c (.d Ty.str a)] [] Q = vc_kjoin a Q := by kernel_rfl
theorem w_kjoin : ∀ args H Q, c_kjoin args H Q → Wp Inv Tryz.prog 129 args H Q := by
 intro args H Q h
 unfold c_kjoin at h
 split at h
 rotate_left
 ·exact h.elim
 rename_i ca
 split at h
 rotate_left
 ·exact h.elim
 rename_i a ha
 refine Wp.said (args' := [.c (.d Ty.str a)]) (fun E g => RelVs.cons1 (of_list ha) (fun _ h => h)) ?_
 clear ha
 refine Wp.enter (X := XB357) XB357_ok ⟨[], []⟩ (fn := Tryz.f129) (by kernel_rfl) ?_
 have hv := vc_kjoin_eq a Q
 rw [show vFun _ _ _ _ _ _ = _ from hv]
 unfold vc_kjoin
 obtain ⟨hb, h⟩ := h
 intro _
 refine ⟨rfl, hb, fun _ => ⟨?_, ?_⟩⟩
 ·exact sj_size a hb
 ·rw [← Go.LmN.joinN_lib] at h
  exact h
abbrev joinP (l : List ByteArray) : ByteArray := Go.LmN.joinN l
def mapGo : List NoD → List (ByteArray × NoD) → Option (List (ByteArray × NoD))
 | [], m => some m
 | x :: r, m => if (Kk.get .str m (joinP x.1)).isSome then none else mapGo r (Kk.put .str m (joinP x.1) x)
theorem valids_ok : ∀ {l : List ByteArray}, validsGo l = 0 → ∀ s ∈ l, validN s = 0
 | [], _, s, hs => by cases hs
 | x :: r, h, s, hs => by
  unfold validsGo at h
  by_cases hx : (validN x != 0) = true
  ·rw [if_pos hx] at h
   rw [h] at hx; simp at hx
  ·rw [if_neg hx] at h
   rcases List.mem_cons.1 hs with rfl | hs
   ·simpa using hx
   ·exact valids_ok h s hs
theorem names_valid : ∀ {l : List NoD}, namesGo l = 0 → ∀ x ∈ l, ∀ s ∈ x.1, validN s = 0
 | [], _, x, hx => by cases hx
 | y :: r, h, x, hx => by
  unfold namesGo at h
  by_cases hy : (validsGo y.1 != 0) = true
  ·rw [if_pos hy] at h
   rw [h] at hy; simp at hy
  ·rw [if_neg hy] at h
   rcases List.mem_cons.1 hx with rfl | hx
   ·exact valids_ok (by simpa using hy)
   ·exact names_valid h x hx
theorem deep_ok {l : List NoD} (h : deepB l = false) {x : NoD} (hx : x ∈ l) : x.1.length ≤ 16 := by
 unfold deepB at h
 rw [List.any_eq_false] at h
 have := h x hx
 simp at this; omega
theorem join_small {p : List ByteArray} (h : ∀ s ∈ p, validN s = 0) (hl : p.length ≤ 30) : (joinP p).size ≤ 140737488355328 := by
 have := Go.LmN.allV_size (l := p) (fun s hs => by rw [validN_old]; exact h s hs) hl
 show (Go.LmN.joinN p).size ≤ _
 omega
theorem ixD_mem {e : Ty} {l : List e.den} {k : Int} (h0 : 0 ≤ k) (h1 : k < l.length) : ixD e l k ∈ l := by
 have hlt : k.toNat < l.length := by omega
 unfold ixD
 rw [List.getD_eq_getElem?_getD, List.getElem?_eq_getElem hlt]
 exact List.getElem_mem hlt
def namedE (l : List NoD) : Int := if namesGo l != 0 then namesGo l else if deepB l then 9 else if (mapGo l []).isNone then 6 else 0
def byPath (l : List NoD) : List (ByteArray × NoD) := (mapGo l []).getD []
def c_knamed : Ct
 | [.v (.c cl)], [], Q => (match (Ty.sl noTy).of [cl] with
  | some (l, []) => br (namedE l != 0) (Q (.tup [.c (.k (.map none)), .c (.k (.int .i64 (namedE l)))]) []) (Q (.tup [.c (.m 0), .c (.k (.int .i64 0))]) [.map 9 .str noTy (byPath l)])
  | _ => False)
 | _, _, _ => False
noncomputable def XB358 : Vx := { P := Tryz.prog, ct := (129, c_kjoin) :: XB357.ct, ty := tyTab, hold := [] }
theorem XB358_ok : CtOk Inv Tryz.prog XB358.ct := CtOk.cons w_kjoin (XB357_ok)
def vc_knamed : (List (noTy).den) → (SV → List HO → Prop) → Prop :=
 fun l Q => List.length l ≤ 9223372036854775807 → List.length l ≤ 9223372036854775807 → LoopP (fun i again => br (decide (i.1.1 < (l.length : Int))) (0 ≤ i.1.1 ∧ i.1.1 < (l.length : Int) ∧ (Ty.ok noTy (ixD noTy l i.1.1) → List.length (ixD 
 noTy l i.1.1).1 ≤ 9223372036854775807 → LoopP (fun i_1 again_1 => br (decide (i_1.1.1 < (↑(List.length (ixD noTy l i.1.1).1) : Int))) (0 ≤ i_1.1.1 ∧ i_1.1.1 < (↑(List.length (ixD noTy l i.1.1).1) : Int) ∧ (Ty.ok Ty.str (ixD Ty.str (ixD noTy 
 l i.1.1).1 i_1.1.1) → inK .i64 (validN (ixD Ty.str (ixD noTy l i.1.1).1 i_1.1.1)) → br (validN (ixD Ty.str (ixD noTy l i.1.1).1 i_1.1.1) != 0) (Q (.tup [.c (.k (.map none)), .c (.k (.int .i64 (validN (ixD Ty.str (ixD noTy l i.1.1).1 
 i_1.1.1))))]) []) (inK .i64 (i_1.1.1 + 1) ∧ again_1 ((i_1.1.1 + 1, ()), ())))) (inK .i64 (i.1.1 + 1) ∧ again ((i.1.1 + 1, ()), ()))) (((0 : Int), ()), ()))) (List.length l ≤ 9223372036854775807 → LoopP (fun i again => br (decide (i.1.1 < 
 (l.length : Int))) (0 ≤ i.1.1 ∧ i.1.1 < (l.length : Int) ∧ (Ty.ok noTy (ixD noTy l i.1.1) → List.length (ixD noTy l i.1.1).1 ≤ 9223372036854775807 → br (decide ((↑(List.length (ixD noTy l i.1.1).1) : Int) > (16 : Int))) (Q (.tup [.c (.k 
 (.map none)), .c (.k (.int .i64 9))]) []) (inK .i64 (i.1.1 + 1) ∧ again ((i.1.1 + 1, ()), ())))) (List.length l ≤ 9223372036854775807 → LoopP (fun i again => br (decide (i.1.1 < (l.length : Int))) (0 ≤ i.1.1 ∧ i.1.1 < (l.length : Int) ∧ 
 (Ty.ok noTy (ixD noTy l i.1.1) → ByteArray.size (LmN.joinN (ixD noTy l i.1.1).1) ≤ 140737488355328 ∧ (ByteArray.size (LmN.joinN (ixD noTy l i.1.1).1) ≤ 9223372036854775807 → Ty.ok noTy (Option.getD (Kk.get Kk.str i.2.1 (LmN.joinN (ixD noTy 
 l i.1.1).1)) ([], (0 : Int), (0 : Int), ((0 : Int), (0 : Int), (0 : Int), ()), [], ByteArray.mk #[], [], false, ())) → br (Option.isSome (Kk.get Kk.str i.2.1 (LmN.joinN (ixD noTy l i.1.1).1))) (Q (.tup [.c (.k (.map none)), .c (.k (.int 
 .i64 6))]) []) (List.length i.2.1 < 9223372036854775807 ∧ inK .i64 (i.1.1 + 1) ∧ again ((i.1.1 + 1, ()), Kk.put Kk.str i.2.1 (LmN.joinN (ixD noTy l i.1.1).1) ((ixD noTy l i.1.1).1, (ixD noTy l i.1.1).2.1, (ixD noTy l i.1.1).2.2.1, ((ixD 
 noTy l i.1.1).2.2.2.1.1, (ixD noTy l i.1.1).2.2.2.1.2.1, (ixD noTy l i.1.1).2.2.2.1.2.2.1, ()), (ixD noTy l i.1.1).2.2.2.2.1, (ixD noTy l i.1.1).2.2.2.2.2.1, (ixD noTy l i.1.1).2.2.2.2.2.2.1, (ixD noTy l i.1.1).2.2.2.2.2.2.2.1, ()), ()))))) 
 (Q (SV.tup [S1.c (Cl.m (0 : Nat)), .c (.k (.int .i64 0))]) [HO.map (9 : TypeId) Kk.str noTy i.2.1])) (((0 : Int), ()), [], ()))) (((0 : Int), ()), ()))) (((0 : Int), ()), ())
theorem vc_knamed_eq (l : List (noTy).den) (Q : SV → List HO → Prop) : vFun XB358 ⟨[(3, ⟨[(19, .int .i64)], []⟩), (6, ⟨[(26, .int .i64)], []⟩), (14, ⟨[(39, .int .i64)], []⟩), (21, ⟨[(51, .int .i64)], [(0, .map 9 .str noTy)]⟩)], []⟩ Tryz.f128 [.c (.d noTy l)] [] Q = vc_knamed l Q := by kernel_rfl
theorem w_knamed : ∀ args H Q, c_knamed args H Q → Wp Inv Tryz.prog 128 args H Q := by
 intro args H Q h
 unfold c_knamed at h
 split at h
 rotate_left
 ·exact h.elim
 rename_i cl
 split at h
 rotate_left
 ·exact h.elim
 rename_i l hl
 refine Wp.said (args' := [.c (.d noTy l)]) (fun E g => RelVs.cons1 (of_list hl) (fun _ h => h)) ?_
 clear hl
 refine Wp.enter (X := XB358) XB358_ok ⟨[(3, ⟨[(19, .int .i64)], []⟩), (6, ⟨[(26, .int .i64)], []⟩), (14, ⟨[(39, .int .i64)], []⟩), (21, ⟨[(51, .int .i64)], [(0, .map 9 .str noTy)]⟩)], []⟩ (fn := Tryz.f128) (by kernel_rfl) ?_
 have hv := vc_knamed_eq l Q
 rw [show vFun _ _ _ _ _ _ = _ from hv]
 unfold vc_knamed
 clear hv
 intro _ _
 refine LoopP.intro (fun i => 0 ≤ i.1.1 ∧ i.1.1 ≤ l.length ∧ namesGo (l.drop i.1.1.toNat) = namesGo l) (fun i => l.length - i.1.1.toNat) ⟨by simp, by simp, by simp⟩ ?_
 rintro ⟨⟨i, _⟩, _⟩ ⟨h0, h1, h2⟩
 simp only at h0 h1 h2 ⊢
 refine br_of (fun hc => ?_) (fun hc => ?_)
 ·have hc : i < l.length := by simpa using hc
  rw [ixD_drop (e := noTy) h0 hc] at h2
  simp only [namesGo] at h2
  generalize ixD noTy l i = x at *
  refine ⟨h0, hc, fun _ _ => ?_⟩
  refine LoopP.intro (fun k => 0 ≤ k.1.1 ∧ k.1.1 ≤ x.1.length ∧ validsGo (x.1.drop k.1.1.toNat) = validsGo x.1) (fun k => x.1.length - k.1.1.toNat) ⟨by simp, by simp, by simp⟩ ?_
  rintro ⟨⟨k, _⟩, _⟩ ⟨k0, k1, k2⟩
  simp only at k0 k1 k2 ⊢
  refine br_of (fun hk => ?_) (fun hk => ?_)
  ·have hk : k < x.1.length := by simpa using hk
   rw [ixD_drop (e := Ty.str) k0 hk] at k2
   simp only [validsGo] at k2
   refine ⟨k0, hk, fun _ _ => br_of (fun hb => ?_) (fun hb => ?_)⟩
   ·rw [if_pos hb] at k2
    rw [k2] at hb
    rw [if_pos hb] at h2
    rw [h2] at hb
    have e : namedE l = namesGo l := if_pos hb
    rw [e, hb, ← h2, ← k2] at h
    exact h
   ·rw [if_neg (by rw [hb]; simp)] at k2
    exact ⟨by unfold inK; omega, ⟨by omega, by omega, k2⟩, by omega⟩
  ·have hk : ¬ k < x.1.length := by simpa using hk
   rw [drop_all hk] at k2
   simp only [validsGo] at k2
   rw [← k2, if_neg (by simp)] at h2
   exact ⟨by unfold inK; omega, ⟨by omega, by omega, h2⟩, by omega⟩
 have hc : ¬ i < l.length := by simpa using hc
 rw [drop_all hc] at h2
 simp only [namesGo] at h2
 have hN : namesGo l = 0 := h2.symm
 have e1 : namedE l = if deepB l then 9 else if (mapGo l []).isNone then 6 else 0 := if_neg (by rw [hN]; simp)
 rw [e1] at h
 clear h0 h1 h2 hc
 intro _
 refine LoopP.intro (fun i => 0 ≤ i.1.1 ∧ i.1.1 ≤ l.length ∧ deepB (l.drop i.1.1.toNat) = deepB l) (fun i => l.length - i.1.1.toNat) ⟨by simp, by simp, by simp⟩ ?_
 rintro ⟨⟨i, _⟩, _⟩ ⟨h0, h1, h2⟩
 simp only at h0 h1 h2 ⊢
 refine br_of (fun hc => ?_) (fun hc => ?_)
 ·have hc : i < l.length := by simpa using hc
  rw [ixD_drop (e := noTy) h0 hc] at h2
  unfold deepB at h2
  rw [List.any_cons] at h2
  refine ⟨h0, hc, fun _ _ => br_of (fun hb => ?_) (fun hb => ?_)⟩
  ·rw [hb, Bool.true_or] at h2
   have hD : deepB l = true := h2.symm
   rw [if_pos hD] at h
   exact h
  ·rw [hb, Bool.false_or] at h2
   exact ⟨by unfold inK; omega, ⟨by omega, by omega, h2⟩, by omega⟩
 have hc : ¬ i < l.length := by simpa using hc
 rw [drop_all hc] at h2
 have hD : deepB l = false := h2.symm
 rw [if_neg (by rw [hD]; decide)] at h
 clear h0 h1 h2 hc
 intro _
 refine LoopP.intro (fun i => 0 ≤ i.1.1 ∧ i.1.1 ≤ l.length ∧ mapGo (l.drop i.1.1.toNat) i.2.1 = mapGo l [] ∧ (i.2.1.length : Int) ≤ i.1.1) (fun i => l.length - i.1.1.toNat) ⟨by simp, by simp, by simp, by simp⟩ ?_
 rintro ⟨⟨i, _⟩, m, _⟩ ⟨h0, h1, h2, h3⟩
 simp only at h0 h1 h2 h3 ⊢
 refine br_of (fun hc => ?_) (fun hc => ?_)
 ·have hc : i < l.length := by simpa using hc
  rw [ixD_drop (e := noTy) h0 hc] at h2
  have hx : ixD noTy l i ∈ l := ixD_mem (e := noTy) h0 hc
  have hb := join_small (names_valid hN _ hx) (by have := deep_ok hD hx; omega)
  have hp := put_len (k := .str) (l := m) (x := joinP (ixD noTy l i).1) (v := ixD noTy l i)
  generalize ixD noTy l i = x at *
  simp only [mapGo] at h2
  refine ⟨h0, hc, fun _ => ⟨hb, fun _ _ => br_of (fun h4 => ?_) (fun h4 => ?_)⟩⟩
  ·rw [if_pos h4] at h2
   rw [← h2] at h
   exact h
  ·rw [if_neg (by rw [h4]; simp)] at h2
   exact ⟨by omega, by unfold inK; omega, ⟨by omega, by omega, h2, Int.le_trans (Int.ofNat_le.2 hp) (by omega)⟩, by omega⟩
 have hc : ¬ i < l.length := by simpa using hc
 rw [drop_all hc] at h2
 simp only [mapGo] at h2
 have e2 : byPath l = m := by unfold byPath; rw [← h2]; rfl
 rw [← h2, e2] at h
 exact h
def kindAt (m : List (ByteArray × NoD)) (p : List ByteArray) : Int := ((Kk.get .str m (joinP p)).getD ([], 0, 0, (0, 0, 0, ()), [], ⟨#[]⟩, [], false, ())).2.2.1
def parB (m : List (ByteArray × NoD)) (l : List NoD) : Bool := l.any fun x => decide ((x.1.length : Int) - 1 ≥ 0) && (kindAt m (x.1.take (x.1.length - 1)) != 1)
def checkT (l : List NoD) : Int := if (l.length : Int) > 1024 then 3 else if namedE l != 0 then namedE l else if kindAt (byPath l) [] != 1 then 4 else if parB (byPath l) l then 5 else if l.any (fun x => !mayT x) then 7 else linkGo l []
theorem namedE_0 {l : List NoD} (h : (namedE l != 0) = false) : namesGo l = 0 ∧ deepB l = false ∧ (mapGo l []).isSome = true := by
 have h : namedE l = 0 := by simpa using h
 unfold namedE at h
 split at h
 ·rename_i h1
  rw [h] at h1; simp at h1
 ·rename_i h1
  split at h
  ·simp at h
  ·rename_i h2
   split at h
   ·simp at h
   ·rename_i h3
    refine ⟨by simpa using h1, by simpa using h2, ?_⟩
    cases hm : mapGo l [] with
    | none => rw [hm] at h3; simp at h3
    | some m => rfl
def c_kcheck : Ct
 | [.v (.c cl)], [], Q => (match (Ty.sl noTy).of [cl] with
  | some (l, []) => Q (.int (checkT l)) []
  | _ => False)
 | _, _, _ => False
noncomputable def XB359 : Vx := { P := Tryz.prog, ct := [(130, c_kanyT), (128, c_knamed), (129, c_kjoin), (152, c_sjoin), (104, c_kbplain), (108, c_kwhite), (133, c_klinked), (157, c_kalike), (171, c_keqXs), (169, c_kalikeX), (170, c_kbequal), (107, c_kopaque), (19, c_kfew), (106, c_kmarks), (130, c_kanyM), (153, c_kidxM), (134, c_kbadM), (153, c_kidxT), (131, c_kbadT), (132, c_kmay), (156, c_kxattrs), (154, c_kplain), (155, c_kwithin), (125, c_sindex), (112, c_valid)], ty := tyTab, hold := [] }
theorem XB359_ok : CtOk Inv Tryz.prog XB359.ct := CtOk.cons w_kanyT (CtOk.cons w_knamed (CtOk.cons w_kjoin (CtOk.cons w_sjoin (CtOk.cons w_kbplain (CtOk.cons w_kwhite (CtOk.cons w_klinked (CtOk.cons w_kalike (CtOk.cons w_keqXs (CtOk.cons w_kalikeX (CtOk.cons w_kbequal (CtOk.cons w_kopaque (CtOk.cons w_kfew (CtOk.cons w_kmarks (CtOk.cons w_kanyM (CtOk.cons w_kidxM (CtOk.cons w_kbadM (CtOk.cons w_kidxT (CtOk.cons w_kbadT (CtOk.cons w_kmay (CtOk.cons w_kxattrs (CtOk.cons w_kplain (CtOk.cons w_kwithin (CtOk.cons w_sindex (CtOk.cons w_valid (CtOk.nil _ _)))))))))))))))))))))))))
def vc_kcheck : (List (noTy).den) → (SV → List HO → Prop) → Prop :=
 fun l Q => List.length l ≤ 9223372036854775807 → List.length l ≤ 9223372036854775807 → br (decide ((l.length : Int) > (1024 : Int))) (Q (.v (.c (.k (.int .i64 3)))) []) (br (namedE l != 0) (inK .i64 (namedE l) → br (namedE l != 0) (Q (.v 
 (.c (.k (.int .i64 (namedE l))))) []) ((1 : Nat) ≤ (140737488355328 : Nat) ∧ ((1 : Nat) ≤ (9223372036854775807 : Nat) → False))) (inK .i64 0 → (1 : Nat) ≤ (140737488355328 : Nat) ∧ ((1 : Nat) ≤ (9223372036854775807 : Nat) → Ty.ok noTy 
 (Option.getD (Kk.get Kk.str (byPath l) (LmN.joinN [])) ([], (0 : Int), (0 : Int), ((0 : Int), (0 : Int), (0 : Int), ()), [], ByteArray.mk #[], [], false, ())) → br ((Option.getD (Kk.get Kk.str (byPath l) (LmN.joinN [])) ([], (0 : Int), (0 : 
 Int), ((0 : Int), (0 : Int), (0 : Int), ()), [], ByteArray.mk #[], [], false, ())).2.2.1 != 1) (Q (.v (.c (.k (.int .i64 4)))) []) (List.length l ≤ 9223372036854775807 → LoopP (fun i again => br (decide (i.1.1 < (l.length : Int))) (0 ≤ 
 i.1.1 ∧ i.1.1 < (l.length : Int) ∧ (Ty.ok noTy (ixD noTy l i.1.1) → List.length (ixD noTy l i.1.1).1 ≤ 9223372036854775807 → inK .i64 ((↑(List.length (ixD noTy l i.1.1).1) : Int) - 1) ∧ br (decide ((↑(List.length (ixD noTy l i.1.1).1) : 
 Int) - 1 ≥ (0 : Int))) (0 ≤ boundV none 0 ∧ boundV none 0 ≤ boundV (some ((↑(List.length (ixD noTy l i.1.1).1) : Int) - 1)) (↑(List.length (ixD noTy l i.1.1).1) : Int) ∧ boundV (some ((↑(List.length (ixD noTy l i.1.1).1) : Int) - 1)) 
 (↑(List.length (ixD noTy l i.1.1).1) : Int) ≤ (↑(List.length (ixD noTy l i.1.1).1) : Int) ∧ ByteArray.size (LmN.joinN (List.take (Int.toNat (boundV (some ((↑(List.length (ixD noTy l i.1.1).1) : Int) - 1)) (↑(List.length (ixD noTy l 
 i.1.1).1) : Int)) - 0) (List.drop 0 (ixD noTy l i.1.1).1))) ≤ 140737488355328 ∧ (ByteArray.size (LmN.joinN (List.take (Int.toNat (boundV (some ((↑(List.length (ixD noTy l i.1.1).1) : Int) - 1)) (↑(List.length (ixD noTy l i.1.1).1) : Int)) - 
 0) (List.drop 0 (ixD noTy l i.1.1).1))) ≤ 9223372036854775807 → Ty.ok noTy (Option.getD (Kk.get Kk.str (byPath l) (LmN.joinN (List.take (Int.toNat (boundV (some ((↑(List.length (ixD noTy l i.1.1).1) : Int) - 1)) (↑(List.length (ixD noTy l 
 i.1.1).1) : Int)) - 0) (List.drop 0 (ixD noTy l i.1.1).1)))) ([], (0 : Int), (0 : Int), ((0 : Int), (0 : Int), (0 : Int), ()), [], ByteArray.mk #[], [], false, ())) → br ((Option.getD (Kk.get Kk.str (byPath l) (LmN.joinN (List.take 
 (Int.toNat (boundV (some ((↑(List.length (ixD noTy l i.1.1).1) : Int) - 1)) (↑(List.length (ixD noTy l i.1.1).1) : Int)) - 0) (List.drop 0 (ixD noTy l i.1.1).1)))) ([], (0 : Int), (0 : Int), ((0 : Int), (0 : Int), (0 : Int), ()), [], 
 ByteArray.mk #[], [], false, ())).2.2.1 != 1) (Q (.v (.c (.k (.int .i64 5)))) []) (inK .i64 (i.1.1 + 1) ∧ again ((i.1.1 + 1, ()), ())))) (inK .i64 (i.1.1 + 1) ∧ again ((i.1.1 + 1, ()), ())))) (br (!List.any l fun x => !mayT x) (inK .i64 
 (linkGo l []) → Q (.v (.c (.k (.int .i64 (linkGo l []))))) []) (Q (.v (.c (.k (.int .i64 7)))) []))) (((0 : Int), ()), ())))))
theorem vc_kcheck_eq (l : List (noTy).den) (Q : SV → List HO → Prop) : vFun XB359 ⟨[(10, ⟨[(28, .int .i64)], []⟩)], []⟩ Tryz.f105 [.c (.d noTy l)] [] Q = vc_kcheck l Q := by kernel_rfl
theorem w_kcheck : ∀ args H Q, c_kcheck args H Q → Wp Inv Tryz.prog 105 args H Q := by
 intro args H Q h
 unfold c_kcheck at h
 split at h
 rotate_left
 ·exact h.elim
 rename_i cl
 split at h
 rotate_left
 ·exact h.elim
 rename_i l hl
 refine Wp.said (args' := [.c (.d noTy l)]) (fun E g => RelVs.cons1 (of_list hl) (fun _ h => h)) ?_
 clear hl
 refine Wp.enter (X := XB359) XB359_ok ⟨[(10, ⟨[(28, .int .i64)], []⟩)], []⟩ (fn := Tryz.f105) (by kernel_rfl) ?_
 have hv := vc_kcheck_eq l Q
 rw [show vFun _ _ _ _ _ _ = _ from hv]
 unfold vc_kcheck
 clear hv
 intro _ _
 unfold checkT at h
 refine br_of (fun hc => ?_) (fun hc => ?_)
 ·rw [if_pos (by simpa using hc)] at h; exact h
 rw [if_neg (by simpa using hc)] at h
 refine br_of (fun hc => ?_) (fun hc => ?_)
 ·rw [if_pos hc] at h
  intro _
  rw [hc]; exact h
 rw [if_neg (by rw [hc]; simp)] at h
 obtain ⟨hN, hD, _⟩ := namedE_0 hc
 intro _
 refine ⟨by decide, fun _ _ => br_of (fun hc => ?_) (fun hc => ?_)⟩
 ·rw [if_pos (show (kindAt (byPath l) [] != 1) = true from hc)] at h; exact h
 rw [if_neg (by show ¬ (kindAt (byPath l) [] != 1) = true; rw [show (kindAt (byPath l) [] != 1) = false from hc]; simp)] at h
 intro _
 refine LoopP.intro (fun i => 0 ≤ i.1.1 ∧ i.1.1 ≤ l.length ∧ parB (byPath l) (l.drop i.1.1.toNat) = parB (byPath l) l) (fun i => l.length - i.1.1.toNat) ⟨by simp, by simp, by simp⟩ ?_
 rintro ⟨⟨i, _⟩, _⟩ ⟨h0, h1, h2⟩
 simp only at h0 h1 h2 ⊢
 refine br_of (fun hc => ?_) (fun hc => ?_)
 ·have hc : i < l.length := by simpa using hc
  rw [ixD_drop (e := noTy) h0 hc] at h2
  have hx : ixD noTy l i ∈ l := ixD_mem (e := noTy) h0 hc
  have hv := names_valid hN _ hx
  have hl := deep_ok hD hx
  generalize ixD noTy l i = x at *
  have h2 : ((decide ((x.1.length : Int) - 1 ≥ 0) && (kindAt (byPath l) (x.1.take (x.1.length - 1)) != 1)) || parB (byPath l) (l.drop (i + 1).toNat)) = parB (byPath l) l := h2
  refine ⟨h0, hc, fun _ _ => ⟨by unfold inK; omega, br_of (fun hb => ?_) (fun hb => ?_)⟩⟩
  ·rw [hb, Bool.true_and] at h2
   have hb : (x.1.length : Int) - 1 ≥ 0 := by simpa using hb
   have e1 : boundV (some ((x.1.length : Int) - 1)) (x.1.length : Int) = (x.1.length : Int) - 1 := rfl
   have e2 : boundV none 0 = 0 := rfl
   rw [e1, e2]
   refine ⟨by omega, by omega, by omega, ?_⟩
   rw [show ((x.1.length : Int) - 1).toNat - 0 = x.1.length - 1 by omega, List.drop_zero]
   refine ⟨join_small (fun s hs => hv s (List.take_subset _ _ hs)) (by rw [List.length_take]; omega), fun _ _ => br_of (fun hd => ?_) (fun hd => ?_)⟩
   ·rw [show (kindAt (byPath l) (x.1.take (x.1.length - 1)) != 1) = true from hd, Bool.true_or] at h2
    rw [← h2, if_pos rfl] at h; exact h
   ·rw [show (kindAt (byPath l) (x.1.take (x.1.length - 1)) != 1) = false from hd, Bool.false_or] at h2
    exact ⟨by unfold inK; omega, ⟨by omega, by omega, h2⟩, by omega⟩
  ·rw [hb, Bool.false_and, Bool.false_or] at h2
   exact ⟨by unfold inK; omega, ⟨by omega, by omega, h2⟩, by omega⟩
 have hc : ¬ i < l.length := by simpa using hc
 rw [drop_all hc] at h2
 rw [← h2, if_neg (by simp [parB])] at h
 refine br_of (fun hb => fun _ => ?_) (fun hb => ?_)
 ·have hb : (l.any fun x => !mayT x) = false := by simpa only [Bool.not_eq_true'] using hb
  rw [if_neg (by rw [hb]; simp)] at h
  exact h
 ·have hb : (l.any fun x => !mayT x) = true := by simpa only [Bool.not_eq_false'] using hb
  rw [if_pos hb] at h
  exact h
end Go.Proofs

namespace Go.Proofs
open Go Go.Lm Go.RowKit
set_option maxRecDepth 1000000
def checkU (l : List NoD) : Int :=
 if checkT (l.map plainN) != 0 && checkT (l.map plainN) != 8 then checkT (l.map plainN) else if l.any (fun x => badM x) then 7 else if checkT (l.map plainN) != 0 || opqGo l [] then 8 else if whGo l [] then 8 else 0
def c_kcheckU : Ct
 | [.v (.c cl)], [], Q => (match (Ty.sl noTy).of [cl] with
  | some (l, []) => ((l.length : Int) ≤ 1000 ∧ Q (.int (checkU l)) [])
  | _ => False)
 | _, _, _ => False
noncomputable def XB460 : Vx := { P := Tryz.prog, ct := (105, c_kcheck) :: XB359.ct, ty := tyTab, hold := [105] }
theorem XB460_ok : CtOk Inv Tryz.prog XB460.ct := CtOk.cons w_kcheck (XB359_ok)
def vc_kcheckU : (List (noTy).den) → (SV → List HO → Prop) → Prop :=
 fun l Q => List.length l ≤ 9223372036854775807 → List.length l ≤ 9223372036854775807 → LoopP (fun i again => br (decide (i.1.1 < (l.length : Int))) (0 ≤ i.1.1 ∧ i.1.1 < (l.length : Int) ∧ (Ty.ok noTy (ixD noTy l i.1.1) → List.length (plainN 
 (ixD noTy l i.1.1)).1 ≤ 9223372036854775807 → inK .i64 (plainN (ixD noTy l i.1.1)).2.1 → inK .i64 (plainN (ixD noTy l i.1.1)).2.2.1 → inK .i64 (plainN (ixD noTy l i.1.1)).2.2.2.1.1 → inK .i64 (plainN (ixD noTy l i.1.1)).2.2.2.1.2.1 → inK 
 .i64 (plainN (ixD noTy l i.1.1)).2.2.2.1.2.2.1 → List.length (plainN (ixD noTy l i.1.1)).2.2.2.2.1 ≤ 9223372036854775807 → ByteArray.size (plainN (ixD noTy l i.1.1)).2.2.2.2.2.1 ≤ 9223372036854775807 → List.length (plainN (ixD noTy l 
 i.1.1)).2.2.2.2.2.2.1 ≤ 9223372036854775807 → (List.length i.1.2.1 + List.length [plainN (ixD noTy l i.1.1)]) * 136 ≤ (140737488355328 : Nat) ∧ List.length i.1.2.1 + List.length [plainN (ixD noTy l i.1.1)] ≤ 9223372036854775807 ∧ inK .i64 
 (i.1.1 + 1) ∧ again ((i.1.1 + 1, i.1.2.1 ++ [plainN (ixD noTy l i.1.1)], ()), ()))) (inK .i64 (checkT i.1.2.1) → br (checkT i.1.2.1 != 0) (br (checkT i.1.2.1 != 8) (Q (.v (.c (.k (.int .i64 (checkT i.1.2.1))))) []) (br (!!List.any l fun x 
 => badM x) (Q (.v (.c (.k (.int .i64 7)))) []) (br (checkT i.1.2.1 != 0) (Q (.v (.c (.k (.int .i64 8)))) []) (br (opqGo l []) (Q (.v (.c (.k (.int .i64 8)))) []) (br (whGo l []) (Q (.v (.c (.k (.int .i64 8)))) []) (Q (.v (.c (.k (.int .i64 
 0)))) [])))))) (br (!!List.any l fun x => badM x) (Q (.v (.c (.k (.int .i64 7)))) []) (br (checkT i.1.2.1 != 0) (Q (.v (.c (.k (.int .i64 8)))) []) (br (opqGo l []) (Q (.v (.c (.k (.int .i64 8)))) []) (br (whGo l []) (Q (.v (.c (.k (.int 
 .i64 8)))) []) (Q (.v (.c (.k (.int .i64 0)))) []))))))) (((0 : Int), [], ()), ())
theorem vc_kcheckU_eq (l : List (noTy).den) (Q : SV → List HO → Prop) : vFun XB460 ⟨[(4, ⟨[(9, .int .i64), (3, .own 36 noTy)], []⟩)], []⟩ Tryz.f61 [.c (.d noTy l)] [] Q = vc_kcheckU l Q := by kernel_rfl
theorem w_kcheckU : ∀ args H Q, c_kcheckU args H Q → Wp Inv Tryz.prog 61 args H Q := by
 intro args H Q h
 unfold c_kcheckU at h
 split at h
 rotate_left
 ·exact h.elim
 rename_i cl
 split at h
 rotate_left
 ·exact h.elim
 rename_i l hl
 refine Wp.said (args' := [.c (.d noTy l)]) (fun E g => RelVs.cons1 (of_list hl) (fun _ h => h)) ?_
 clear hl
 refine Wp.enter (X := XB460) XB460_ok ⟨[(4, ⟨[(9, .int .i64), (3, .own 36 noTy)], []⟩)], []⟩ (fn := Tryz.f61) (by kernel_rfl) ?_
 have hv := vc_kcheckU_eq l Q
 rw [show vFun _ _ _ _ _ _ = _ from hv]
 unfold vc_kcheckU
 clear hv
 obtain ⟨hb, h⟩ := h
 intro _ _
 refine LoopP.intro (fun i => 0 ≤ i.1.1 ∧ i.1.1 ≤ l.length ∧ i.1.2.1 = (l.take i.1.1.toNat).map plainN) (fun i => l.length - i.1.1.toNat) ⟨by simp, by simp, by simp⟩ ?_
 rintro ⟨⟨i, xs, _⟩, _⟩ ⟨h0, h1, h2⟩
 simp only at h0 h1 h2 ⊢
 refine br_of (fun hc => ?_) (fun hc => ?_)
 ·have hc : i < l.length := by simpa using hc
  have hl : (xs.length : Int) = i := by rw [h2, List.length_map, List.length_take]; omega
  have e1 : l.take (i + 1).toNat = l.take i.toNat ++ [ixD noTy l i] := take_ixD (e := noTy) h0 hc
  refine ⟨h0, hc, fun _ _ _ _ _ _ _ _ _ _ => ⟨?_, ?_, by unfold inK; omega, ⟨by omega, by omega, ?_⟩, by omega⟩⟩
  ·show (xs.length + 1) * 136 ≤ _
   omega
  ·show xs.length + 1 ≤ _
   omega
  ·show xs ++ [plainN (ixD noTy l i)] = (l.take (i + 1).toNat).map plainN
   rw [e1, List.map_append, h2]; rfl
 have hc : ¬ i < l.length := by simpa using hc
 rw [List.take_of_length_le (by omega)] at h2
 subst h2
 intro _
 unfold checkU at h
 cases e0 : (checkT (l.map plainN) != 0) <;> cases e8 : (checkT (l.map plainN) != 8) <;> cases eM : (l.any fun x => badM x) <;> cases eo : opqGo l [] <;> cases ew : whGo l [] <;> rw [e0, e8, eM, eo, ew] at h <;> first
  | exact h
end Go.Proofs

namespace Go.Proofs
open Go Go.Lm Go.RowKit
set_option maxRecDepth 1000000
def c_root0 : Ct
 | [.v (.c (.p 0 0))], [.up ⟨84, 81, 3, 9⟩ q1 q2 mb nx L], Q => ∃ Y : UpY, (q1 = Y.q1 ∧ q2 = Y.q2 ∧ nx = Y.nx ∧ RepY L Y) ∧ (True) ∧ ∀ o, UpIs ⟨84, 81, 3, 9⟩ (Y) o → Q (.c (.k (.int .i64 1))) [o]
 | _, _, _ => False
noncomputable def XB561 : Vx := { P := Tryz.prog, ct := [], ty := tyTab, hold := [105] }
theorem XB561_ok : CtOk Inv Tryz.prog XB561.ct := CtOk.nil _ _
def vc_root0 : (Int) → (Int) → (Nat) → (Int) → (List (Int × LNode)) → (SV → List HO → Prop) → Prop :=
 fun q1 q2 mb nx L Q => Q (.v (.c (.k (.int .i64 1)))) [.up ⟨84, 81, 3, 9⟩ q1 q2 mb nx L]
theorem vc_root0_eq (q1 : Int) (q2 : Int) (mb : Nat) (nx : Int) (L : List (Int × LNode)) (Q : SV → List HO → Prop) : vFun XB561 ⟨[], []⟩ Tryz.f51 [.v (.c (.p 0 0))] [.up ⟨84, 81, 3, 9⟩ q1 q2 mb nx L] Q = vc_root0 q1 q2 mb nx L Q := by kernel_rfl
theorem w_root0 : ∀ args H Q, c_root0 args H Q → Wp Inv Tryz.prog 51 args H Q := by
 intro args H Q h
 unfold c_root0 at h
 split at h
 rotate_left
 ·exact h.elim
 rename_i q1 q2 mb nx L
 refine Wp.enter (X := XB561) XB561_ok ⟨[], []⟩ (fn := Tryz.f51) (by kernel_rfl) ?_
 have hv := vc_root0_eq q1 q2 mb nx L Q
 rw [show vFun _ _ _ _ _ _ = _ from hv]
 unfold vc_root0
 obtain ⟨Y, ⟨rfl, rfl, rfl, hr⟩, hp, hq⟩ := h
 exact hq _ ⟨rfl, rfl, rfl, rfl, hr⟩
def c_root : Ct
 | [.v (.c (.p 0 0))], [.ab (.upr ⟨84, 81, 3, 9⟩ Y)], Q => (True) ∧ Q (.c (.k (.int .i64 1))) [.ab (.upr ⟨84, 81, 3, 9⟩ (Y))]
 | _, _, _ => False
theorem w_root : ∀ args H Q, c_root args H Q → Wp Inv Tryz.prog 51 args H Q := by
 intro args H Q h
 unfold c_root at h
 split at h
 ·rename_i Y
  refine Wp.uprO fun mb L hr => w_root0 _ _ _ ?_
  unfold c_root0
  exact ⟨Y, ⟨rfl, rfl, rfl, hr⟩, h.1, fun o ho => ⟨o, _, _, rfl, ho, h.2⟩⟩
 ·exact h.elim
def c_kind0 : Ct
 | [.v (.c (.k .nilIface))], [], Q => Q (.int 0) []
 | _, _, _ => False
noncomputable def XB562 : Vx := { P := Tryz.prog, ct := XB561.ct, ty := tyTab, hold := [105] }
theorem XB562_ok : CtOk Inv Tryz.prog XB562.ct := XB561_ok
def vc_kind0 : (SV → List HO → Prop) → Prop :=
 fun Q => Q (.v (.c (.k (.int .i64 0)))) []
theorem vc_kind0_eq  (Q : SV → List HO → Prop) : vFun XB562 ⟨[], []⟩ Tryz.f60 [.k .nilIface] [] Q = vc_kind0  Q := by kernel_rfl
theorem w_kind0 : ∀ args H Q, c_kind0 args H Q → Wp Inv Tryz.prog 60 args H Q := by
 intro args H Q h
 unfold c_kind0 at h
 split at h
 rotate_left
 ·exact h.elim
 refine Wp.enter (X := XB562) XB562_ok ⟨[], []⟩ (fn := Tryz.f60) (by kernel_rfl) ?_
 have hv := vc_kind0_eq  Q
 rw [show vFun _ _ _ _ _ _ = _ from hv]
 unfold vc_kind0
 exact h
def c_kind2 : Ct
 | [.v (.c (.ifc 26 (.p 0 0)))], [.ab (.upr ⟨84, 81, 3, 9⟩ Y)], Q => Q (.int 2) [.ab (.upr ⟨84, 81, 3, 9⟩ Y)]
 | _, _, _ => False
noncomputable def XB563 : Vx := { P := Tryz.prog, ct := XB562.ct, ty := tyTab, hold := [105] }
theorem XB563_ok : CtOk Inv Tryz.prog XB563.ct := XB562_ok
def vc_kind2 : (UpY) → (SV → List HO → Prop) → Prop :=
 fun Y Q => Q (.v (.c (.k (.int .i64 2)))) [.ab (.upr ⟨84, 81, 3, 9⟩ Y)]
theorem vc_kind2_eq (Y : UpY) (Q : SV → List HO → Prop) : vFun XB563 ⟨[], []⟩ Tryz.f60 [.c (.ifc 26 (.p 0 0))] [.ab (.upr ⟨84, 81, 3, 9⟩ Y)] Q = vc_kind2 Y Q := by kernel_rfl
theorem w_kind2 : ∀ args H Q, c_kind2 args H Q → Wp Inv Tryz.prog 60 args H Q := by
 intro args H Q h
 unfold c_kind2 at h
 split at h
 rotate_left
 ·exact h.elim
 rename_i Y
 refine Wp.enter (X := XB563) XB563_ok ⟨[], []⟩ (fn := Tryz.f60) (by kernel_rfl) ?_
 have hv := vc_kind2_eq Y Q
 rw [show vFun _ _ _ _ _ _ = _ from hv]
 unfold vc_kind2
 exact h
def c_kind : Ct
 | [.v (.c (.k .nilIface))], [], Q => Q (.int 0) []
 | [.v (.c (.ifc 26 (.p 0 0)))], [.ab (.upr ⟨84, 81, 3, 9⟩ Y)], Q => Q (.int 2) [.ab (.upr ⟨84, 81, 3, 9⟩ Y)]
 | _, _, _ => False
theorem w_kind : ∀ args H Q, c_kind args H Q → Wp Inv Tryz.prog 60 args H Q := by
 intro args H Q h
 unfold c_kind at h
 split at h
 ·exact w_kind0 _ _ _ h
 ·exact w_kind2 _ _ _ h
 ·exact h.elim
abbrev rootN : NoD := ([], 1, 1, (0, 0, 0, ()), [], ⟨#[]⟩, [], false, ())
abbrev whiteN : NoD := ([⟨#[97]⟩], 2, 4, (0, 0, 0, ()), [], ⟨#[]⟩, [], false, ())
abbrev inN : NoD := ([⟨#[97]⟩, ⟨#[98]⟩], 3, 2, (0, 0, 0, ()), [], ⟨#[]⟩, [], false, ())
theorem shown_5 : (checkU [rootN, whiteN, inN] == 5) = true := by decide +kernel
def c_shown : Ct
 | [], [], Q => Q (.bool true) []
 | _, _, _ => False
noncomputable def XB564 : Vx := { P := Tryz.prog, ct := (60, c_kind) :: (61, c_kcheckU) :: (9, c_newu) :: XB563.ct, ty := tyTab, hold := [61] }
theorem XB564_ok : CtOk Inv Tryz.prog XB564.ct := CtOk.cons w_kind (CtOk.cons w_kcheckU (CtOk.cons w_newu (XB563_ok)))
def vc_shown : (SV → List HO → Prop) → Prop :=
 fun Q => inK .i64 0 → inK .i64 2 → (↑(2 : Nat) : Int) ≤ (1000 : Int) ∧ (inK .i64 (checkU [(([] : List ByteArray), (1 : Int), (1 : Int), ((0 : Int), (0 : Int), (0 : Int), ()), [], ByteArray.mk #[], [], false, ()), ([ByteArray.mk #[(97 : 
 UInt8)]], (2 : Int), (4 : Int), ((0 : Int), (0 : Int), (0 : Int), ()), [], ByteArray.mk #[], [], false, ())]) → (↑(3 : Nat) : Int) ≤ (1000 : Int) ∧ (inK .i64 (checkU [(([] : List ByteArray), (1 : Int), (1 : Int), ((0 : Int), (0 : Int), (0 : 
 Int), ()), [], ByteArray.mk #[], [], false, ()), ([ByteArray.mk #[(97 : UInt8)]], (2 : Int), (4 : Int), ((0 : Int), (0 : Int), (0 : Int), ()), [], ByteArray.mk #[], [], false, ()), ([ByteArray.mk #[(97 : UInt8)], ByteArray.mk #[(98 : 
 UInt8)]], (3 : Int), (2 : Int), ((0 : Int), (0 : Int), (0 : Int), ()), [], ByteArray.mk #[], [], false, ())]) → Q (.v (.c (.k (.bool (checkU [(([] : List ByteArray), (1 : Int), (1 : Int), ((0 : Int), (0 : Int), (0 : Int), ()), [], 
 ByteArray.mk #[], [], false, ()), ([ByteArray.mk #[(97 : UInt8)]], (2 : Int), (4 : Int), ((0 : Int), (0 : Int), (0 : Int), ()), [], ByteArray.mk #[], [], false, ()), ([ByteArray.mk #[(97 : UInt8)], ByteArray.mk #[(98 : UInt8)]], (3 : Int), 
 (2 : Int), ((0 : Int), (0 : Int), (0 : Int), ()), [], ByteArray.mk #[], [], false, ())] == 5))))) []))
theorem vc_shown_eq  (Q : SV → List HO → Prop) : vFun XB564 ⟨[], []⟩ Tryz.f18 [] [] Q = vc_shown  Q := by kernel_rfl
theorem w_shown : ∀ args H Q, c_shown args H Q → Wp Inv Tryz.prog 18 args H Q := by
 intro args H Q h
 unfold c_shown at h
 split at h
 rotate_left
 ·exact h.elim
 refine Wp.enter (X := XB564) XB564_ok ⟨[], []⟩ (fn := Tryz.f18) (by kernel_rfl) ?_
 have hv := vc_shown_eq  Q
 rw [show vFun _ _ _ _ _ _ = _ from hv]
 unfold vc_shown
 clear hv
 intro _ _
 refine ⟨by decide, fun _ => ⟨by decide, fun _ => ?_⟩⟩
 exact Eq.mp (congrArg (fun z => Q (SV.bool z) []) shown_5.symm) h
def c_nclone : Ct
 | [.v (.c cx)], [], Q => (match (Ty.sl noTy).of [cx] with
  | some (x, []) => x.length ≤ 1000 ∧ Q (.c (.o 0)) [.sl 36 noTy x]
  | _ => False)
 | _, _, _ => False
noncomputable def XB565 : Vx := { P := Tryz.prog, ct := [], ty := tyTab, hold := [] }
theorem XB565_ok : CtOk Inv Tryz.prog XB565.ct := CtOk.nil _ _
def vc_nclone : (List (noTy).den) → (SV → List HO → Prop) → Prop :=
 fun x Q => List.length x ≤ 9223372036854775807 → ∀ (c : Bool), (c = true → x = []) → br (if true = true then c else !c) (Q (.v (.c (.k (.slice none 0 0)))) []) ((0 + List.length x) * 136 ≤ (140737488355328 : Nat) ∧ 0 + List.length x ≤ 
 9223372036854775807 ∧ Q (SV.v (S1.c (.o 0))) [.sl 36 noTy ([] ++ x)])
theorem vc_nclone_eq (x : List (noTy).den) (Q : SV → List HO → Prop) : vFun XB565 ⟨[], []⟩ Tryz.f62 [.c (.d noTy x)] [] Q = vc_nclone x Q := by kernel_rfl
theorem w_nclone : ∀ args H Q, c_nclone args H Q → Wp Inv Tryz.prog 62 args H Q := by
 intro args H Q h
 unfold c_nclone at h
 split at h
 rotate_left
 ·exact h.elim
 rename_i cx
 split at h
 rotate_left
 ·exact h.elim
 rename_i x hx
 refine Wp.said (args' := [.c (.d noTy x)]) (fun E g => RelVs.cons1 (of_list hx) (fun _ h => h)) ?_
 clear hx
 refine Wp.ownNil (t := 36) (e := noTy) ?_
 refine Wp.enter (X := XB565) XB565_ok ⟨[], []⟩ (fn := Tryz.f62) (by kernel_rfl) ?_
 refine Eq.mpr (vc_nclone_eq x _) ?_
 unfold vc_nclone
 intro _ c hc
 refine br_of (fun hb => .inr ⟨rfl, ?_⟩) (fun hb => ⟨by omega, by omega, .inl ?_⟩)
 ·have := hc (by simpa using hb)
  subst this
  exact h.2
 ·exact h.2
end Go.Proofs

namespace Go.Lm
open Go
def cmpS (x y : ByteArray) : Int := if Op.bytesLess x.toList y.toList then -1 else if x.toList == y.toList then 0 else 1
def cmpL : List ByteArray → List ByteArray → Int
 | [], [] => 0
 | [], _ :: _ => -1
 | _ :: _, [] => 1
 | x :: a, y :: b => if cmpS x y = 0 then cmpL a b else cmpS x y
theorem cmpL_step {xs ys : List ByteArray} {k : Nat} {x y : ByteArray} (hx : xs[k]? = some x) (hy : ys[k]? = some y) : cmpL (xs.drop k) (ys.drop k) = if cmpS x y = 0 then cmpL (xs.drop (k + 1)) (ys.drop (k + 1)) else cmpS x y := by
 obtain ⟨h1, rfl⟩ := List.getElem?_eq_some_iff.1 hx
 obtain ⟨h2, rfl⟩ := List.getElem?_eq_some_iff.1 hy
 rw [List.drop_eq_getElem_cons h1, List.drop_eq_getElem_cons h2]
 rfl
theorem cmpS_cases (x y : ByteArray) : (Op.bytesLess x.toList y.toList = true ∧ cmpS x y = -1) ∨ (x.toList = y.toList ∧ cmpS x y = 0) ∨ (Op.bytesLess y.toList x.toList = true ∧ cmpS x y = 1) := by
 unfold cmpS
 rcases bl_tri x.toList y.toList with h | h | h
 ·exact .inl ⟨h, by rw [h]; rfl⟩
 ·refine .inr (.inl ⟨h, ?_⟩)
  rw [h, bl_irr]; simp
 ·refine .inr (.inr ⟨h, ?_⟩)
  have h1 := bl_asymm h
  have h2 : (x.toList == y.toList) = false := by
   cases e : (x.toList == y.toList) with
   | false => rfl
   | true => rw [eq_of_beq e, bl_irr] at h; cases h
  rw [h1, h2]; rfl
theorem cmpS_trans {x y z : ByteArray} (h : cmpS x y < 0) (k : cmpS y z < 0) : cmpS x z < 0 := by
 rcases cmpS_cases x y with ⟨h1, e⟩ | ⟨_, e⟩ | ⟨_, e⟩ <;> rw [e] at h <;> try omega
 rcases cmpS_cases y z with ⟨k1, e2⟩ | ⟨_, e2⟩ | ⟨_, e2⟩ <;> rw [e2] at k <;> try omega
 unfold cmpS
 rw [bl_trans h1 k1, if_pos rfl]; decide
theorem cmpS_eq {x y : ByteArray} (h : cmpS x y = 0) : x.toList = y.toList := by
 rcases cmpS_cases x y with ⟨_, e⟩ | ⟨h1, _⟩ | ⟨_, e⟩
 ·rw [e] at h; omega
 ·exact h1
 ·rw [e] at h; omega
theorem cmpS_congr {x y z u : ByteArray} (h : x.toList = y.toList) (k : z.toList = u.toList) : cmpS x z = cmpS y u := by unfold cmpS; rw [h, k]
theorem cmpS_self (x : ByteArray) : cmpS x x = 0 := by unfold cmpS; rw [bl_irr]; simp
theorem cmpS_swap (x y : ByteArray) : cmpS y x = - cmpS x y := by
 rcases cmpS_cases x y with ⟨h, e⟩ | ⟨h, e⟩ | ⟨h, e⟩ <;> rw [e]
 ·unfold cmpS
  rw [bl_asymm h]
  have h2 : (y.toList == x.toList) = false := by
   cases q : (y.toList == x.toList) with
   | false => rfl
   | true => rw [eq_of_beq q, bl_irr] at h; cases h
  rw [h2]; rfl
 ·rw [cmpS_congr h.symm h, ← e]
  rw [cmpS_congr (x := x) (y := x) rfl h.symm, cmpS_self]; rfl
 ·unfold cmpS
  rw [h]; rfl
theorem cmpL_self : ∀ a : List ByteArray, cmpL a a = 0
 | [] => rfl
 | x :: a => by unfold cmpL; rw [cmpS_self, if_pos rfl, cmpL_self a]
theorem cmpL_swap : ∀ a b : List ByteArray, cmpL b a = - cmpL a b
 | [], [] => rfl
 | [], _ :: _ => rfl
 | _ :: _, [] => rfl
 | x :: a, y :: b => by
  unfold cmpL
  rw [cmpS_swap x y, cmpL_swap a b]
  by_cases h : cmpS x y = 0
  ·rw [if_pos h, if_pos (by omega)]
  ·rw [if_neg h, if_neg (by omega)]
theorem cmpL_congr : ∀ {a b c : List ByteArray}, cmpL a b = 0 → cmpL a c = cmpL b c
 | [], [], _, _ => rfl
 | [], _ :: _, _, h => by cases h
 | _ :: _, [], _, h => by cases h
 | x :: a, y :: b, [], _ => rfl
 | x :: a, y :: b, z :: c, h => by
  unfold cmpL at h ⊢
  by_cases e : cmpS x y = 0
  ·rw [if_pos e] at h
   rw [cmpL_congr h, cmpS_congr (z := z) (cmpS_eq e) rfl]
  ·rw [if_neg e] at h; exact absurd h e
theorem cmpL_trans : ∀ {a b c : List ByteArray}, cmpL a b < 0 → cmpL b c < 0 → cmpL a c < 0
 | [], [], _, h, _ => by simp [cmpL] at h
 | [], _ :: _, [], _, k => by simp [cmpL] at k
 | [], _ :: _, _ :: _, _, _ => by simp [cmpL]
 | _ :: _, [], _, h, _ => by simp [cmpL] at h
 | _ :: _, _ :: _, [], _, k => by simp [cmpL] at k
 | x :: a, y :: b, z :: c, h, k => by
  unfold cmpL at h k ⊢
  by_cases e1 : cmpS x y = 0
  ·rw [if_pos e1] at h
   rw [cmpS_congr (z := z) (cmpS_eq e1) rfl]
   by_cases e2 : cmpS y z = 0
   ·rw [if_pos e2] at k ⊢
    exact cmpL_trans h k
   ·rw [if_neg e2] at k ⊢
    exact k
  ·rw [if_neg e1] at h
   by_cases e2 : cmpS y z = 0
   ·have : cmpS x z = cmpS x y := cmpS_congr (x := x) rfl (cmpS_eq e2).symm
    rw [this, if_neg e1]; exact h
   ·rw [if_neg e2] at k
    have := cmpS_trans h k
    rw [if_neg (by omega)]; exact this
theorem cmpL_ntrans {a b c : List ByteArray} (h : ¬ cmpL a b < 0) (k : ¬ cmpL b c < 0) : ¬ cmpL a c < 0 := fun q => by
 have s1 := cmpL_swap a b
 have s2 := cmpL_swap b c
 by_cases e1 : cmpL a b = 0
 ·rw [cmpL_congr e1] at q; exact k q
 ·have h1 : cmpL b a < 0 := by omega
  exact k (cmpL_trans h1 q)
end Go.Lm

namespace Go.Proofs
open Go Go.Shelf Go.Lib Go.Sort Go.Lm
set_option maxRecDepth 1000000
set_option maxHeartbeats 1000000 in
theorem Tryz.isNaN_s (x : ByteArray) (w : World) : Calls Tryz.prog 145 #[.string x] w fun e w' => e = .returned (.bool false) ∧ w' = w := by
 go_enter Tryz.func145, Tryz.ntmps145
 go_wp2
 go_ret
 exact ⟨by simp, rfl⟩
theorem Tryz.str_gtr (x y : ByteArray) (w : World) : (binOp .gtr 9 (.string x) (.string y)).run Tryz.prog w = .ok (.bool (!Op.bytesLess x.toList y.toList && !x.toList == y.toList)) w := by
 simp [binOp, Op.stringOp, go_sem]
set_option maxHeartbeats 1000000 in
theorem Tryz.compare_s (x y : ByteArray) (w : World) : Calls Tryz.prog 111 #[.string x, .string y] w fun e w' => e = .returned (.int .i64 (cmpS x y)) ∧ w' = w := by
 go_enter Tryz.func111, Tryz.ntmps111
 go_wp2_with (first | (go_at_call 145; refine (Tryz.isNaN_s _ _).mono ?_; rintro e w' ⟨rfl, hw⟩; rw [hw]) | rw [Tryz.str_gtr])
 all_goals go_ret
 all_goals (refine ⟨?_, rfl⟩; simp_all [cmpS])
set_option maxHeartbeats 2000000 in
theorem Tryz.compareL (a a2 : Option Addr) (c c2 : Nat) (xs ys : List ByteArray) (w : World) (lx : xs.length ≤ 9223372036854775807) (ly : ys.length ≤ 9223372036854775807)
  (h1 : ∀ (j : Nat) x, xs[j]? = some x → ∃ bk o, a = some ⟨bk, o, none⟩ ∧ w.cell? ⟨bk, o + j, none⟩ = some (.string x))
  (h2 : ∀ (j : Nat) x, ys[j]? = some x → ∃ bk o, a2 = some ⟨bk, o, none⟩ ∧ w.cell? ⟨bk, o + j, none⟩ = some (.string x)) :
  Calls Tryz.prog 65 #[.slice a xs.length c, .slice a2 ys.length c2] w fun e w' => e = .returned (.int .i64 (cmpL xs ys)) ∧ w' = w := by
 generalize hn : xs.length = n at *
 generalize hm : ys.length = m at *
 go_enter Tryz.func65, Tryz.ntmps65
 go_wp2
 go_loop [11] (fun v11 => ∃ k : Nat, k ≤ n ∧ k ≤ m ∧ v11 = .int .i64 k ∧ Aside (cmpL (xs.drop k) (ys.drop k) = cmpL xs ys)) (fun v11 => match v11 with | .int _ m => n - m.toNat | _ => 0)
 case atStart => exact ⟨0, Nat.zero_le _, Nat.zero_le _, rfl, rfl⟩
 case round =>
  obtain ⟨k, hk, hk2, rfl, A⟩ := hrel
  by_cases hlt : k < n
  ·by_cases hlt2 : k < m
   ·obtain ⟨bk, o, rfl, g1⟩ := h1 k xs[k] (List.getElem?_eq_getElem (by omega))
    obtain ⟨bk2, o2, rfl, g2⟩ := h2 k ys[k] (List.getElem?_eq_getElem (by omega))
    have B : Aside (cmpL (xs.drop k) (ys.drop k) = if cmpS xs[k] ys[k] = 0 then cmpL (xs.drop (k + 1)) (ys.drop (k + 1)) else cmpS xs[k] ys[k]) := cmpL_step (List.getElem?_eq_getElem (by omega : k < xs.length)) (List.getElem?_eq_getElem (by omega : k < ys.length))
    clear h1 h2
    have hc := fun w => Tryz.compare_s xs[k] ys[k] w
    generalize xs[k] = x at *
    generalize ys[k] = y at *
    generalize cmpS x y = r at *
    by_cases hr : r = 0
    ·subst hr
     go_wp2_with (go_at_call 111; refine (hc _).mono ?_; rintro e w' ⟨rfl, rfl⟩)
     refine ⟨⟨k + 1, by omega, by omega, rfl, ?_⟩, by simp only [Int.toNat_natCast]; omega⟩
     simp only [if_true] at B
     exact (Eq.symm B).trans A
    ·go_wp2_with (go_at_call 111; refine (hc _).mono ?_; rintro e w' ⟨rfl, rfl⟩)
     go_ret
     have B : cmpL (xs.drop k) (ys.drop k) = r := by
      have B' : cmpL (xs.drop k) (ys.drop k) = if r = 0 then cmpL (xs.drop (k + 1)) (ys.drop (k + 1)) else r := B
      rw [if_neg hr] at B'; exact B'
     exact ⟨congrArg (fun z => Ending.returned (.int .i64 z)) ((Eq.symm B).trans A), rfl⟩
   ·obtain ⟨bk, o, rfl, g1⟩ := h1 k xs[k] (List.getElem?_eq_getElem (by omega))
    have B : Aside (cmpL (xs.drop k) (ys.drop k) = 1) := by
     rw [List.drop_eq_getElem_cons (show k < xs.length by omega), @List.drop_eq_nil_of_le _ ys k (by omega)]; rfl
    clear h1 h2
    generalize xs[k] = x at *
    go_wp2
    go_ret
    exact ⟨congrArg (fun z => Ending.returned (.int .i64 z)) ((Eq.symm B).trans A), rfl⟩
  ·clear h1 h2
   have e1 : xs.drop k = [] := List.drop_eq_nil_of_le (by omega)
   by_cases hlt2 : n < m
   ·have B : Aside (cmpL (xs.drop k) (ys.drop k) = -1) := by
     rw [e1, List.drop_eq_getElem_cons (show k < ys.length by omega)]; rfl
    go_wp2
    go_ret
    exact ⟨congrArg (fun z => Ending.returned (.int .i64 z)) ((Eq.symm B).trans A), rfl⟩
   ·have B : Aside (cmpL (xs.drop k) (ys.drop k) = 0) := by
     rw [e1, @List.drop_eq_nil_of_le _ ys k (by omega)]; rfl
    go_wp2
    go_ret
    exact ⟨congrArg (fun z => Ending.returned (.int .i64 z)) ((Eq.symm B).trans A), rfl⟩
theorem cell_grow {w : World} {os : Array Obj} {a : Addr} {v : Value} (h : w.cell? a = some v) : (grow w os).cell? a = some v := by
 unfold World.cell? at h ⊢
 split at h
 ·rename_i c e z hb
  have : (grow w os).heap[a.block]? = some (.cells c e z) := by
   show (w.heap ++ os)[a.block]? = _
   rw [Array.getElem?_append_left (Array.getElem?_eq_some_iff.1 hb).1]; exact hb
  rw [this]; exact h
 ·cases h
set_option maxHeartbeats 2000000 in
theorem Tryz.fill1 (a a2 : Option Addr) (c c2 : Nat) (xs ys : List ByteArray) (p1 p2 p3 p4 p5 p6 p7 p8 p9 q1 q2 q3 q4 q5 q6 q7 q8 q9 : Value) (w : World) (lx : xs.length ≤ 9223372036854775807) (ly : ys.length ≤ 9223372036854775807)
  (h1 : ∀ (j : Nat) x, xs[j]? = some x → ∃ bk o, a = some ⟨bk, o, none⟩ ∧ w.cell? ⟨bk, o + j, none⟩ = some (.string x))
  (h2 : ∀ (j : Nat) x, ys[j]? = some x → ∃ bk o, a2 = some ⟨bk, o, none⟩ ∧ w.cell? ⟨bk, o + j, none⟩ = some (.string x)) :
  Calls Tryz.prog 64 #[.agg #[.slice a xs.length c, p1, p2, p3, p4, p5, p6, p7, p8, p9], .agg #[.slice a2 ys.length c2, q1, q2, q3, q4, q5, q6, q7, q8, q9]] w fun e w' => e = .returned (.int .i64 (cmpL xs ys)) ∧ ∃ q os', w' = grow (w.drewN q) os' := by
 have hcon : ∀ W' os, W' = grow w os → Calls Tryz.prog 65 #[.slice a xs.length c, .slice a2 ys.length c2] W' fun e w' => e = .returned (.int .i64 (cmpL xs ys)) ∧ w' = W' := by
  rintro W' os rfl
  refine Tryz.compareL a a2 c c2 xs ys _ lx ly (fun j x hj => ?_) (fun j x hj => ?_)
  ·obtain ⟨bk, o, e, h⟩ := h1 j x hj
   exact ⟨bk, o, e, cell_grow h⟩
  ·obtain ⟨bk, o, e, h⟩ := h2 j x hj
   exact ⟨bk, o, e, cell_grow h⟩
 clear h1 h2
 generalize cmpL xs ys = r at *
 generalize xs.length = n at *
 generalize ys.length = m at *
 go_enter Tryz.func64, Tryz.ntmps64
 go_wp2_with (go_at_call 65; refine (hcon _ _ (by rw [alloc_eq_grow, alloc_eq_grow, grow_grow])).mono ?_; rintro e w' ⟨rfl, rfl⟩)
 go_ret
 exact ⟨rfl, 0, _, by rw [alloc_eq_grow, alloc_eq_grow, grow_grow]; rfl⟩
end Go.Proofs

