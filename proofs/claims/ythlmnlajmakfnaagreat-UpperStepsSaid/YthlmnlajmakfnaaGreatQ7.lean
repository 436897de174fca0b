/- Texts of mine, laid together: Keys U12 LmYh LmVzc R1 R2 R3 LmYi LmYj R4 R5 R6 R7 R8. -/
import Derived.Test.YthlmnlajmakfnaaGreatQ6
import Derived.Shelf.SlIter.Sorted
import Derived.Test.YthlmnlajmakfnaaGreatQ5
import Derived.Test.YthlmnlajmakfnaaGreatProg
import Derived.Test.YthlmnlajmakfnaaGreatChecked
import Derived.Test.YthlmnlajmakfnaaGreatQ3
set_option linter.unusedVariables false
namespace Go.Proofs
open Go Go.RowKit Go.Maps Go.Sort Go.Shelf Go.Lm
def Tryz.keysA_ren : Go.Shelf.Ren := ⟨fun | 7 => 127 | 10 => 151 | n => n, fun | 23 => 79 | 26 => 9 | 3 => 3 | 28 => 157 | 0 => 0 | 27 => 156 | 33 => 153 | 4 => 4 | n => n, fun | n => n⟩
theorem Tryz.keysA : Go.Proofs.SlLaysZ.n7 Tryz.prog Tryz.keysA_ren := {
  mixed := by kernel_rfl
  f7 := ⟨"maps.Keys[map[string]int,string,int]", by kernel_rfl, Tryz.func127.trans (congrArg some (by kernel_rfl))⟩
  f10 := ⟨"maps.Keys[map[string]int,string,int]$1", by kernel_rfl, Tryz.func151.trans (congrArg some (by kernel_rfl))⟩
  t0 := Tryz.underlying0
  a0 := Tryz.isAgg0
  z0 := Tryz.sizeOf0
  v0 := Tryz.zeroValue0
  t4 := Tryz.underlying4
  a4 := Tryz.isAgg4
  z4 := Tryz.sizeOf4
  v4 := Tryz.zeroValue4
  t23 := Tryz.underlying79
  a23 := Tryz.isAgg79
  z23 := Tryz.sizeOf79
  v23 := Tryz.zeroValue79
  t26 := Tryz.underlying9
  a26 := Tryz.isAgg9
  z26 := Tryz.sizeOf9
  v26 := Tryz.zeroValue9
  t27 := Tryz.underlying156
  a27 := Tryz.isAgg156
  z27 := Tryz.sizeOf156
  v27 := Tryz.zeroValue156
  t28 := Tryz.underlying157
  a28 := Tryz.isAgg157
  z28 := Tryz.sizeOf157
  v28 := Tryz.zeroValue157
  t33 := Tryz.underlying153
  a33 := Tryz.isAgg153
  z33 := Tryz.sizeOf153
  v33 := Tryz.zeroValue153 }
def Tryz.sortedA_ren : Go.Shelf.Ren := ⟨fun | 6 => 126 | 8 => 149 | 9 => 150 | 11 => 164 | n => n, fun | 26 => 9 | 28 => 157 | 24 => 30 | 0 => 0 | 3 => 3 | 4 => 4 | 33 => 153 | n => n, fun | n => n⟩
theorem Tryz.sortedA : Go.Proofs.SlLaysZ.n6 Tryz.prog Tryz.sortedA_ren := {
  mixed := by kernel_rfl
  f6 := ⟨"slices.Sorted[string]", by kernel_rfl, Tryz.func126.trans (congrArg some (by kernel_rfl))⟩
  f8 := ⟨"slices.Collect[string]", by kernel_rfl, Tryz.func149.trans (congrArg some (by kernel_rfl))⟩
  f11 := ⟨"slices.AppendSeq[[]string,string]", by kernel_rfl, Tryz.func164.trans (congrArg some (by kernel_rfl))⟩
  t0 := Tryz.underlying0
  a0 := Tryz.isAgg0
  z0 := Tryz.sizeOf0
  v0 := Tryz.zeroValue0
  t24 := Tryz.underlying30
  a24 := Tryz.isAgg30
  z24 := Tryz.sizeOf30
  v24 := Tryz.zeroValue30
  t26 := Tryz.underlying9
  a26 := Tryz.isAgg9
  z26 := Tryz.sizeOf9
  v26 := Tryz.zeroValue9
  t28 := Tryz.underlying157
  a28 := Tryz.isAgg157
  z28 := Tryz.sizeOf157
  v28 := Tryz.zeroValue157
  i26 := by kernel_rfl }
theorem sortsA (m : Nat) : AnyZ.SortsIn Tryz.prog Tryz.sortedA_ren Fence.wide m :=
  ⟨fun blk off cap ss W hH hblk hsz => callsIn_wide.2 (Tryz.slices_Sort_string blk off cap ss W hH hblk hsz),
   fun p cap W => callsIn_wide.2 (Tryz.slices_Sort_string_none p cap W)⟩
theorem keysC (w : World) (u ib : Nat) (D0 : DataW Value) (hu : u < w.heap.size) (hc : w.cell? ⟨u, 0, none⟩ = some (.map (some ib))) (ho : w.ownsMap Tryz.prog 9 holdV ib (Maps.size D0) D0) (hs : Maps.size D0 ≤ 1099511627776) :
    Calls Tryz.prog 126 #[.func (.func 151) #[] #[.pointer (some ⟨u, 0, none⟩)]] w fun e w' => ∃ (v : Value) (ss : List (List UInt8)), e = .returned v ∧ ss.Perm (strKeys D0) ∧ w'.ownsRow w.heap.size 9 1 v ss.length ((ss.mergeSort fun x y => decide (x ≤ y)).map Go.Proofs.encStr) ∧ Below w.heap.size w w' := by
  refine (callsIn_wide (n := 5)).1 ?_
  have hseq : SeqGives Fence.wide 2 Tryz.prog 151 #[.pointer (some ⟨u, 0, none⟩)] encStr (fun ss => ss.Perm (strKeys D0)) (Maps.size D0) w :=
    AnyZ.keys_gives (ρ := Tryz.keysA_ren) { Tryz.keysA with } Fence.wide _ trivial rfl (by omega) u ib _ D0 _ hu hc ho
  have cS := AnyZ.sorted_in Tryz.sortedA Fence.wide 5 trivial trivial trivial trivial rfl (by omega) (sortsA _) (enters_of Tryz.func150 (by kernel_rfl) rfl) 151 #[.pointer (some ⟨u, 0, none⟩)] trivial (enters_of Tryz.func151 (by kernel_rfl) rfl) _ _ (by unfold maxLen; omega) (by omega) _ hseq
  exact cS.mono fun e w' ⟨v, ss, h1, h2, h3, _, h4⟩ => ⟨v, ss, h1, h2, h3, h4⟩
end Go.Proofs

namespace Go.Proofs
open Go Go.Lm Go.RowKit
set_option maxRecDepth 1000000
def c_keys : Ct
  | [.v (.c (.kl 0 v))], [.up ⟨84, 81, 3, 9⟩ q1 q2 mb nx L], Q => Q (.c (.fn 151 [.p 1 0])) [.up ⟨84, 81, 3, 9⟩ q1 q2 mb nx L, .cells 79 [.kl 0 v]]
  | _, _, _ => False
noncomputable def XU1235 : Vx := { P := Tryz.prog, ct := (9, c_newu) :: XU1134.ct, ty := tyTab, hold := [] }
theorem XU1235_ok : CtOk Inv Tryz.prog XU1235.ct := CtOk.cons w_newu (XU1134_ok)
def vc_keys : (Value) → (Int) → (Int) → (Nat) → (Int) → (List (Int × LNode)) → (SV → List HO → Prop) → Prop :=
 fun v q1 q2 mb nx L Q => Q (SV.v (S1.c (Cl.fn (151 : Nat) [.p 1 0]))) [.up ⟨84, 81, 3, 9⟩ q1 q2 mb nx L, .cells 79 [Cl.kl (0 : Nat) v]]
theorem vc_keys_eq (v : Value) (q1 : Int) (q2 : Int) (mb : Nat) (nx : Int) (L : List (Int × LNode)) (Q : SV → List HO → Prop) : vFun XU1235 ⟨[], []⟩ Tryz.f127 [.c (.kl 0 v)] [.up ⟨84, 81, 3, 9⟩ q1 q2 mb nx L] Q = vc_keys v q1 q2 mb nx L Q := by kernel_rfl
theorem w_keys : ∀ args H Q, c_keys args H Q → Wp Inv Tryz.prog 127 args H Q := by
  intro args H Q h
  unfold c_keys at h
  split at h
  rotate_left
  · exact h.elim
  rename_i v q1 q2 mb nx L
  refine Wp.enter (X := XU1235) XU1235_ok ⟨[], []⟩ (fn := Tryz.f127) (by kernel_rfl) ?_
  have hv := vc_keys_eq v q1 q2 mb nx L Q
  rw [show vFun _ _ _ _ _ _ = _ from hv]
  unfold vc_keys
  exact h
def c_sorted : Ct
  | [.v (.c (.fn 151 [.p 0 0]))], [.cells 79 [.kl 1 v], .up ⟨84, 81, 3, 9⟩ q1 q2 mb nx L], Q => ∃ r m, getK L r = some m ∧ m.vi = v ∧ m.kind = 1 ∧ m.ents.length ≤ 1099511627776 ∧ ∀ xs, SortedS xs (m.ents.map (·.1)) → Q (.c (.o 2)) [.cells 79 [.kl 1 v], .up ⟨84, 81, 3, 9⟩ q1 q2 mb nx L, .sl 9 .str xs]
  | _, _, _ => False
theorem w_sorted : ∀ args H Q, c_sorted args H Q → Wp Inv Tryz.prog 126 args H Q := by
  intro args H Q h
  unfold c_sorted at h
  split at h
  · obtain ⟨r, m, h1, h2, h3, h4, h5⟩ := h
    exact Wp.sortedKeys (T := ⟨84, 81, 3, 9⟩) ⟨Tryz.underlying3, Tryz.underlying9⟩ keysC h1 h2 h3 h4 h5
  · exact h.elim
def c_list0 : Ct
  | [.v (.c (.p 0 0)), .v (.c (.k (.int .i64 ref)))], [.up ⟨84, 81, 3, 9⟩ q1 q2 mb nx L], Q => ∃ Y : UpY, (q1 = Y.q1 ∧ q2 = Y.q2 ∧ nx = Y.nx ∧ RepY L Y) ∧ (Y.Ok) ∧ ∀ o, UpIs ⟨84, 81, 3, 9⟩ (Y) o → Q (.tup [.c (.o 1), .c (.k (.int .i64 (Y.dirE ref)))]) [o, .sl 54 xeTy (Y.listD ref)]
  | _, _, _ => False
noncomputable def XU1236 : Vx := { P := Tryz.prog, ct := (126, c_sorted) :: (127, c_keys) :: XU1235.ct, ty := tyTab, hold := [] }
theorem XU1236_ok : CtOk Inv Tryz.prog XU1236.ct := CtOk.cons w_sorted (CtOk.cons w_keys (XU1235_ok))
def vc_list0 : (Int) → (Int) → (Int) → (Nat) → (Int) → (List (Int × LNode)) → (SV → List HO → Prop) → Prop :=
 fun ref q1 q2 mb nx L Q => inK .i64 ref → (getK L ref = none → inK .i64 1 → Q (.tup [.c (.k (.slice none 0 0)), .c (.k (.int .i64 1))]) [.up ⟨84, 81, 3, 9⟩ q1 q2 mb nx L]) ∧ ∀ (m : LNode), getK L ref = some m → NodeOk m → br (m.kind == 1) 
 (inK .i64 0 → ∃ r m_1, getK L r = some m_1 ∧ m_1.blk = m.blk ∧ (NodeOk m_1 → ∃ r m_2, getK L r = some m_2 ∧ m_2.vi = m_1.vi ∧ m_2.kind = (1 : Int) ∧ List.length m_2.ents ≤ 1099511627776 ∧ ∀ (xs : List ByteArray), SortedS xs (List.map (fun x 
 => x.1) m_2.ents) → List.length xs ≤ 9223372036854775807 → LoopP (fun i again => br (decide (i.1.1 < (xs.length : Int))) (0 ≤ i.1.1 ∧ i.1.1 < (xs.length : Int) ∧ 0 ≤ i.1.1 ∧ i.1.1 < (xs.length : Int) ∧ (Ty.ok Ty.str (ixD Ty.str xs i.1.1) → 
 ∃ r m_3, getK i.2.1.2.2.2.2 r = some m_3 ∧ m_3.blk = m.blk ∧ (NodeOk m_3 → ∃ r m, getK i.2.1.2.2.2.2 r = some m ∧ m.vi = m_3.vi ∧ (getK m.ents (ixD Ty.str xs i.1.1) = none → ∃ m, getK i.2.1.2.2.2.2 (0 : Int) = some m ∧ (ByteArray.size (ixD 
 Ty.str xs i.1.1) ≤ 9223372036854775807 → inK .i64 m.kind → inK .i64 0 → (List.length i.1.2.1 + List.length [(ixD Ty.str xs i.1.1, m.kind, (0 : Int), ())]) * 32 ≤ 140737488355328 ∧ List.length i.1.2.1 + List.length [(ixD Ty.str xs i.1.1, 
 m.kind, (0 : Int), ())] ≤ 9223372036854775807 ∧ inK .i64 (i.1.1 + 1) ∧ again ((i.1.1 + 1, i.1.2.1 ++ [(ixD Ty.str xs i.1.1, m.kind, (0 : Int), ())], ()), i.2))) ∧ ∀ (x : Int), getK m.ents (ixD Ty.str xs i.1.1) = some x → inK .i64 x → ∃ m, 
 getK i.2.1.2.2.2.2 x = some m ∧ (ByteArray.size (ixD Ty.str xs i.1.1) ≤ 9223372036854775807 → inK .i64 m.kind → inK .i64 x → (List.length i.1.2.1 + List.length [(ixD Ty.str xs i.1.1, m.kind, x, ())]) * 32 ≤ 140737488355328 ∧ List.length 
 i.1.2.1 + List.length [(ixD Ty.str xs i.1.1, m.kind, x, ())] ≤ 9223372036854775807 ∧ inK .i64 (i.1.1 + 1) ∧ again ((i.1.1 + 1, i.1.2.1 ++ [(ixD Ty.str xs i.1.1, m.kind, x, ())], ()), i.2))))) (Q (SV.tup [S1.c (.o 1), .c (.k (.int .i64 0))]) 
 [.up ⟨84, 81, 3, 9⟩ i.2.1.1 i.2.1.2.1 i.2.1.2.2.1 i.2.1.2.2.2.1 i.2.1.2.2.2.2, .sl 54 xeTy i.1.2.1])) (((0 : Int), [], ()), (q1, q2, mb, nx, L), ()))) (inK .i64 24 → Q (.tup [.c (.k (.slice none 0 0)), .c (.k (.int .i64 24))]) [.up ⟨84, 81, 
 3, 9⟩ q1 q2 mb nx L])
theorem vc_list0_eq (ref : Int) (q1 : Int) (q2 : Int) (mb : Nat) (nx : Int) (L : List (Int × LNode)) (Q : SV → List HO → Prop) : vFun XU1236 ⟨[(7, ⟨[(27, .int .i64), (8, .own 54 xeTy)], [(0, .up ⟨84, 81, 3, 9⟩)]⟩)], []⟩ Tryz.f96 [.v (.c (.p 0 0)), .int ref] [.up ⟨84, 81, 3, 9⟩ q1 q2 mb nx L] Q = vc_list0 ref q1 q2 mb nx L Q := by kernel_rfl
theorem w_list0 : ∀ args H Q, c_list0 args H Q → Wp Inv Tryz.prog 96 args H Q := by
  intro args H Q h
  unfold c_list0 at h
  split at h
  rotate_left
  · exact h.elim
  rename_i ref q1 q2 mb nx L
  refine Wp.ownNil2 (t := 54) (e := xeTy) ?_
  refine Wp.enter (X := XU1236) XU1236_ok ⟨[(7, ⟨[(27, .int .i64), (8, .own 54 xeTy)], [(0, .up ⟨84, 81, 3, 9⟩)]⟩)], []⟩ (fn := Tryz.f96) (by kernel_rfl) ?_
  refine Eq.mpr (vc_list0_eq ref q1 q2 mb nx L _) ?_
  unfold vc_list0
  obtain ⟨Y, ⟨rfl, rfl, rfl, hr⟩, hp, hq⟩ := h
  have w := hp.wf
  have nil : ∀ z, Y.dirE ref = z → z ≠ 0 → Q (.tup [.c (.o 1), .c (.k (.int .i64 z))]) [.up ⟨84, 81, 3, 9⟩ Y.q1 Y.q2 mb Y.nx L, .sl 54 xeTy []] := fun z e hz => by
    have hl : Y.listD ref = [] := if_neg (by rw [e]; exact hz)
    rw [hl, e] at hq
    exact hq _ ⟨rfl, rfl, rfl, rfl, hr⟩
  intro _
  rcases hr.both ref with ⟨hn, hy⟩ | ⟨m, y, hg, hy, hN⟩
  · refine ⟨fun _ _ => .inr ⟨1, rfl, nil 1 (dirE_none hy) (by decide)⟩, fun m hg => ?_⟩
    rw [hn] at hg; cases hg
  have hen := hp.en
  have hel := ents_len hN
  have hcp : Y.E.countP (ofD ref) ≤ Y.E.length := List.countP_le_length
  refine ⟨no_some hg, only hg fun _ => br_of (fun h1 => fun _ => ⟨_, m, hg, rfl, fun _ => ⟨_, m, hg, rfl, eq_of_beq h1, by omega, fun xs hx hxl => ?_⟩⟩) (fun h1 => fun _ => .inr ⟨24, rfl, nil 24 ?_ (by decide)⟩)⟩
  · have k1 : y.2.2.1 = 1 := by rw [← hN.kind]; exact eq_of_beq h1
    have hd : Y.dirE ref = 0 := by rw [dirE_some hy, if_pos k1]
    have hlen : xs.length = m.ents.length := by rw [hx.perm.length_eq, List.length_map]
    refine LoopP.intro (fun i => 0 ≤ i.1.1 ∧ i.1.1 ≤ xs.length ∧ i.1.2.1 = (xs.take i.1.1.toNat).map (xeOf Y m) ∧ i.2.1 = (Y.q1, Y.q2, mb, Y.nx, L)) (fun i => xs.length - i.1.1.toNat) ⟨by simp, by simp, by simp, rfl⟩ ?_
    rintro ⟨⟨i, out, _⟩, _, _⟩ ⟨h2, h3, h4, rfl⟩
    simp only at h2 h3 h4 ⊢
    refine br_of (fun hc => ?_) (fun hc => ?_)
    · have hc : i < xs.length := of_decide_eq_true hc
      have hm : ixD .str xs i ∈ xs := ixD_mem (e := .str) h2 hc
      obtain ⟨p, hpm, hps⟩ := List.mem_map.1 (hx.perm.mem_iff.1 hm)
      have hgp : getK m.ents (ixD .str xs i) = some p.2 := getK_of_mem (ents_nodup w hN) (by rw [← hps]; exact hpm)
      have hol : out.length ≤ xs.length := by rw [h4, List.length_map, List.length_take]; omega
      refine ⟨h2, hc, h2, hc, fun _ => ⟨_, m, hg, rfl, fun _ => ⟨_, m, hg, rfl, fun hn => ?_, fun x hx2 _ => ?_⟩⟩⟩
      · rw [hgp] at hn; cases hn
      · rw [hgp] at hx2
        obtain rfl := Option.some.inj hx2
        obtain ⟨e', g1, g2, g3, g4⟩ := (ents_mem hN (s := p.1) (x := p.2)).1 hpm
        obtain ⟨yz, hyz⟩ := at_ref w g1
        rw [g4] at hyz
        obtain ⟨mz, hmz, hNz⟩ := hr.get hyz
        refine ⟨mz, hmz, fun _ _ _ => ⟨by simp only [List.length_singleton]; omega, by simp only [List.length_singleton]; omega, by unfold inK; omega, ⟨by omega, by omega, ?_, trivial⟩, by omega⟩⟩
        rw [ixD_take (e := .str) h2 hc, List.map_append, ← h4]
        congr 1
        have hk : Y.kindOf p.2 = mz.kind := by unfold UpY.kindOf; rw [hyz]; exact hNz.kind.symm
        simp only [List.map_cons, List.map_nil, xeOf, hgp, Option.getD_some, hk]
    · have hc : ¬ i < xs.length := of_decide_eq_false hc
      rw [take_allI hc, list_eq w hN hd hx] at h4
      subst h4
      rw [hd] at hq
      exact .inl (hq _ ⟨rfl, rfl, rfl, rfl, hr⟩)
  · have h1 : ¬ y.2.2.1 = 1 := by rw [← hN.kind]; simpa using h1
    rw [dirE_some hy, if_neg h1]
def c_list : Ct
  | [.v (.c (.p 0 0)), .v (.c (.k (.int .i64 ref)))], [.ab (.upr ⟨84, 81, 3, 9⟩ Y)], Q => (Y.Ok) ∧ Q (.tup [.c (.o 1), .c (.k (.int .i64 (Y.dirE ref)))]) [.ab (.upr ⟨84, 81, 3, 9⟩ (Y)), .sl 54 xeTy (Y.listD ref)]
  | _, _, _ => False
theorem w_list : ∀ args H Q, c_list args H Q → Wp Inv Tryz.prog 96 args H Q := by
  intro args H Q h
  unfold c_list at h
  split at h
  · rename_i ref Y
    refine Wp.uprO fun mb L hr => w_list0 _ _ _ ?_
    unfold c_list0
    exact ⟨Y, ⟨rfl, rfl, rfl, hr⟩, h.1, fun o ho => ⟨o, _, _, rfl, ho, h.2⟩⟩
  · exact h.elim
end Go.Proofs

namespace Go.Lm
open Go Go.RowKit
section
variable {α : Type}
def idxI (p : α → Bool) : List α → Int → Int
  | [], _ => -1
  | x :: l, k => if p x then k else idxI p l (k + 1)
theorem idxI_none {p : α → Bool} : ∀ {l : List α} {k : Int}, 0 ≤ k → (idxI p l k < 0 ↔ l.find? p = none)
  | [], k, h => by simp [idxI]
  | x :: l, k, h => by
    unfold idxI
    rw [List.find?_cons]
    cases hx : p x with
    | true => simp; omega
    | false =>
      simp only [Bool.false_eq_true, if_false]
      exact idxI_none (by omega)
theorem idxI_some {p : α → Bool} : ∀ {l : List α} {k : Int} {x : α}, 0 ≤ k → l.find? p = some x → ∃ n : Nat, idxI p l k = k + n ∧ l[n]? = some x
  | [], k, x, _, h => by cases h
  | y :: l, k, x, hk, h => by
    unfold idxI
    rw [List.find?_cons] at h
    cases hy : p y with
    | true =>
      rw [hy] at h
      obtain rfl := Option.some.inj h
      exact ⟨0, by simp, rfl⟩
    | false =>
      rw [hy] at h
      simp only [Bool.false_eq_true, if_false]
      obtain ⟨n, h1, h2⟩ := idxI_some (k := k + 1) (by omega) h
      exact ⟨n + 1, by rw [h1]; omega, h2⟩
end
theorem isE_eq (d : Int) (s : ByteArray) (e : EnD) : isE d s e = (e.1 == d && sEq e.2.1 s) := by
  unfold isE
  congr 1
  rw [Bool.eq_iff_iff, sEq_iff]; simp
theorem atI_cases (q1 q2 : Int) (L : List NoD) (E : List EnD) (nx : Int) (r : Int) : (idxI (isI r) L 0 < 0 ∧ (UpY.mk q1 q2 L E nx).at r = none) ∨ ∃ y, (UpY.mk q1 q2 L E nx).at r = some y ∧ 0 ≤ idxI (isI r) L 0 ∧ idxI (isI r) L 0 < (L.length : Int) ∧ ixD noTy L (idxI (isI r) L 0) = y := by
  cases hf : L.find? (isI r) with
  | none => exact .inl ⟨(idxI_none (by omega)).2 hf, hf⟩
  | some y =>
    obtain ⟨n, h1, h2⟩ := idxI_some (k := 0) (by omega) hf
    have h3 := (List.getElem?_eq_some_iff.1 h2).1
    have h0 : 0 ≤ idxI (isI r) L 0 := by omega
    have h4 : idxI (isI r) L 0 < (L.length : Int) := by omega
    refine .inr ⟨y, hf, h0, h4, ?_⟩
    rw [ixD_get (e := noTy) h0 h4]
    have : (idxI (isI r) L 0).toNat = n := by omega
    rw [List.getElem?_eq_some_iff] at h2
    obtain ⟨_, h2⟩ := h2
    rw [← h2]
    congr 1
theorem inI_cases (q1 q2 : Int) (L : List NoD) (E : List EnD) (nx : Int) (d : Int) (s : ByteArray) : (idxI (isE d s) E 0 < 0 ∧ (UpY.mk q1 q2 L E nx).ent d s = none) ∨ ∃ e, (UpY.mk q1 q2 L E nx).ent d s = some e ∧ 0 ≤ idxI (isE d s) E 0 ∧ idxI (isE d s) E 0 < (E.length : Int) ∧ ixD enTy E (idxI (isE d s) E 0) = e := by
  cases hf : E.find? (isE d s) with
  | none => exact .inl ⟨(idxI_none (by omega)).2 hf, hf⟩
  | some y =>
    obtain ⟨n, h1, h2⟩ := idxI_some (k := 0) (by omega) hf
    have h3 := (List.getElem?_eq_some_iff.1 h2).1
    have h0 : 0 ≤ idxI (isE d s) E 0 := by omega
    have h4 : idxI (isE d s) E 0 < (E.length : Int) := by omega
    refine .inr ⟨y, hf, h0, h4, ?_⟩
    rw [ixD_get (e := enTy) h0 h4]
    have : (idxI (isE d s) E 0).toNat = n := by omega
    rw [List.getElem?_eq_some_iff] at h2
    obtain ⟨_, h2⟩ := h2
    rw [← h2]
    congr 1
def UpY.fileI (Y : UpY) (r : Int) : Int := if Y.fileE r = 0 then idxI (isI r) Y.L 0 else 0
theorem cnt_one {α : Type} {p : α → Bool} {l : List α} (h : l.countP p = 1) {a b : α} (ha : a ∈ l) (hb : b ∈ l) (pa : p a = true) (pb : p b = true) : a = b := by
  rw [List.countP_eq_length_filter] at h
  obtain ⟨x, hx⟩ := List.length_eq_one_iff.1 h
  have h1 : a ∈ l.filter p := List.mem_filter.2 ⟨ha, pa⟩
  have h2 : b ∈ l.filter p := List.mem_filter.2 ⟨hb, pb⟩
  rw [hx] at h1 h2
  rw [List.mem_singleton.1 h1, List.mem_singleton.1 h2]
end Go.Lm

namespace Go.Lm
open Go Go.RowKit
section
variable {P : Program} {I : Base → Prop} {f : FuncId} {args : List SV} {H : List HO} {Q Q' : SV → List HO → Prop} {W : Base} {E : Env} {g w : World} {F : List Atom}
def rfo0 (tU tN tE : TypeId) (Y : UpY) : List HO := [.cells tU [.k (.int .i64 Y.q1), .k (.int .i64 Y.q2), .o 1, .o 2, .k (.int .i64 Y.nx)], .sl tN noTy Y.L, .sl tE enTy Y.E]
abbrev rfs (tU tN tE : TypeId) (q1 q2 nx : Int) (L : List NoD) (N : List EnD) : List HO := [.cells tU [.k (.int .i64 q1), .k (.int .i64 q2), .o 1, .o 2, .k (.int .i64 nx)], .sl tN noTy L, .sl tE enTy N]
abbrev vq (x : Int) : Prop := Value.int .i64 x = Value.int .i64 x
abbrev rfo (tU tN tE : TypeId) (q1 q2 nx : Int) (L : List NoD) (N : List EnD) : List HO := [.cells tU [.k (.int .i64 q1), .k (.int .i64 q2), .o 3, .o 4, .k (.int .i64 nx)], .gone, .gone, .sl tN noTy L, .sl tE enTy N]
structure RfAt (tU tN tE : TypeId) (q1 q2 nx : Int) (L : List NoD) (N : List EnD) (a c : Nat) (H : List HO) : Prop where
  n1 : 0 ≠ a
  n2 : 0 ≠ c
  n3 : a ≠ c
  h0 : H[0]? = some (.cells tU [.k (.int .i64 q1), .k (.int .i64 q2), .o a, .o c, .k (.int .i64 nx)])
  h1 : H[a]? = some (.sl tN noTy L)
  h2 : H[c]? = some (.sl tE enTy N)
theorem Wp.rfN {tU tN tE : TypeId} {o0 o1 o2 : HO} (h : Wp I P f args [o0, o1, o2] fun sv H' => ∃ q1 q2 nx L N a c, RfAt tU tN tE q1 q2 nx L N a c H' ∧ Q (sv.ren (idxN [0])) (rfo tU tN tE q1 q2 nx L N)) : Wp I P f args [o0, o1, o2] Q := fun W hW g w E F vs hs hv =>
  (h W hW g w E F vs hs hv).mono fun v w' ⟨E1, g1, sv, H1, e1, m1, s1, r1, q1, q2, nx, L, N, a, c, ra, hq⟩ => by
    have hl := s1.len
    have l0 := (List.getElem?_eq_some_iff.1 ra.h0).1
    have la := (List.getElem?_eq_some_iff.1 ra.h1).1
    have lc := (List.getElem?_eq_some_iff.1 ra.h2).1
    rw [← hl] at l0 la lc
    have hlE : E.length = 3 := hs.len
    have key : ∃ v0 v1 v2 va vc, E1[0]? = some v0 ∧ E[0]? = some v0 ∧ E[1]? = some v1 ∧ E[2]? = some v2 ∧ E1[a]? = some va ∧ E1[c]? = some vc := by
      have k0 : E[0]? = some (E[0]'(by omega)) := List.getElem?_eq_getElem _
      exact ⟨E[0]'(by omega), E[1]'(by omega), E[2]'(by omega), E1[a], E1[c], e1 0 _ k0, k0, List.getElem?_eq_getElem _, List.getElem?_eq_getElem _, List.getElem?_eq_getElem _, List.getElem?_eq_getElem _⟩
    obtain ⟨v0, v1, v2, va, vc, k0, g0, gg1, gg2, ka, kc⟩ := key
    have hsat : Sat W [v0, v1, v2, va, vc] g1 w' (rfo tU tN tE q1 q2 nx L N) F := by
      refine ⟨s1.sl.weak fun k s => ?_, rfl⟩
      obtain ⟨p1, p2, ap, e, sa, s2⟩ := sats.take1 ra.h1 s
      have hc' : (H1.set a .gone)[c]? = some (.sl tE enTy N) := by rw [List.getElem?_set_ne ra.n3]; exact ra.h2
      obtain ⟨p3, p4, ap2, e2, sc, s3⟩ := sats.take1 hc' s2
      have hp' : ((H1.set a .gone).set c .gone)[0]? = some (.cells tU [.k (.int .i64 q1), .k (.int .i64 q2), .o a, .o c, .k (.int .i64 nx)]) := by rw [List.getElem?_set_ne (Ne.symm ra.n2), List.getElem?_set_ne (Ne.symm ra.n1)]; exact ra.h0
      obtain ⟨p5, p6, ap3, e3, sp, s4⟩ := sats.take1 hp' s3
      have s5 := sats.shed s4
      subst e3
      subst e2
      obtain ⟨a1, a2⟩ := Hp.apart_join.1 ap
      obtain ⟨a3, a4⟩ := Hp.apart_join.1 a2
      obtain ⟨b1, b2⟩ := Hp.apart_join.1 ap2
      obtain ⟨bb, us, hEb, hrel, hblk⟩ := sp
      obtain ⟨_, u1, rfl, i1, _, u2, rfl, i2, w1, u3, rfl, ⟨hEa, ha3⟩, w2, u4, rfl, ⟨hEc, hc3⟩, _, u5, rfl, i3, hnil⟩ := hrel
      obtain rfl : u5 = [] := hnil
      obtain ⟨va', hEa', sa'⟩ := sa
      obtain ⟨vc', hEc', sc'⟩ := sc
      rw [ka] at hEa hEa'
      obtain rfl := Option.some.inj hEa
      obtain rfl := Option.some.inj hEa'
      rw [kc] at hEc hEc'
      obtain rfl := Option.some.inj hEc
      obtain rfl := Option.some.inj hEc'
      rw [k0] at hEb
      obtain rfl := Option.some.inj hEb
      refine ⟨p5, p1.join (p3.join p6), ?_, ?_, ⟨bb, _, rfl, ⟨_, _, rfl, i1, _, _, rfl, i2, _, _, rfl, ⟨rfl, ha3⟩, _, _, rfl, ⟨rfl, hc3⟩, _, _, rfl, i3, rfl⟩, hblk⟩, ?_⟩
      · exact Hp.apart_join.2 ⟨a3.symm, Hp.apart_join.2 ⟨b1.symm, ap3⟩⟩
      · rw [e]
        rw [← Hp.join_assoc p3 p5 p6, Hp.join_comm b1, Hp.join_assoc p5 p3 p6, ← Hp.join_assoc p1 p5, Hp.join_comm a3, Hp.join_assoc p5 p1]
      · refine ⟨fun _ => none, _, fun _ => .inl rfl, by funext z; rfl, trivial, fun _ => none, _, fun _ => .inl rfl, by funext z; rfl, trivial, ?_⟩
        exact ⟨p1, p3.join p6, Hp.apart_join.2 ⟨a1, a4⟩, rfl, ⟨va, rfl, sa'⟩, p3, p6, b2, rfl, ⟨vc, rfl, sc'⟩, s5⟩
    refine ⟨[v0, v1, v2, va, vc], g1, _, _, fun k u hk => ?_, m1, hsat, r1.ren (r := idxN [0]) (fun l l' u h1 h2 => ?_), hq⟩
    · have hk0 := (List.getElem?_eq_some_iff.1 hk).1
      rw [hlE] at hk0
      match k, hk0, hk with
      | 0, _, hk => rw [g0] at hk; exact hk
      | 1, _, hk => rw [gg1] at hk; exact hk
      | 2, _, hk => rw [gg2] at hk; exact hk
    · have h3 := idxN_get h1
      match l', h3 with
      | 0, h3 =>
        have : l = 0 := by simpa using h3.symm
        subst this
        rw [k0] at h2; exact h2
theorem Wp.rfM {tU tN tE : TypeId} {Y : UpY} (h : Wp I P f args (rfo0 tU tN tE Y) fun sv H' => ∃ Y' : UpY, H' = rfo tU tN tE Y'.q1 Y'.q2 Y'.nx Y'.L Y'.E ∧ Q (sv.ren (idxN [0])) [.ab (.rf tU tN tE Y')]) : Wp I P f args [.ab (.rf tU tN tE Y)] Q := by
  refine Wp.sel (Wp.rfO (Wp.rfI (tU := tU) (tN := tN) (tE := tE) (p := 0) (a := 3) (c := 4) (h.mono fun sv H' ⟨Y', e, hq⟩ => ?_)))
  subst e
  exact ⟨Y', by decide, by decide, by decide, rfl, rfl, rfl, [0], rfl, by simp, by simp, hq⟩
theorem Wp.rfR {tU tN tE : TypeId} {Y : UpY} (h : Wp I P f args (rfo0 tU tN tE Y) fun sv H' => H' = rfo0 tU tN tE Y ∧ Q (sv.ren (idxN [0])) [.ab (.rf tU tN tE Y)]) : Wp I P f args [.ab (.rf tU tN tE Y)] Q := by
  refine Wp.sel (Wp.rfO (Wp.rfI (tU := tU) (tN := tN) (tE := tE) (p := 0) (a := 1) (c := 2) (h.mono fun sv H' ⟨e, hq⟩ => ?_)))
  subst e
  exact ⟨Y, by decide, by decide, by decide, rfl, rfl, rfl, [0], rfl, by simp, by simp [rfo0], hq⟩
theorem Wp.rfR1 {tU tN tE : TypeId} {Y : UpY} (h : Wp I P f args (rfo0 tU tN tE Y) fun sv H' => ∃ o : HO, H' = rfo0 tU tN tE Y ++ [o] ∧ Q (sv.ren (idxN [0, 3])) [.ab (.rf tU tN tE Y), o.ren (idxN [0, 3])]) : Wp I P f args [.ab (.rf tU tN tE Y)] Q := by
  refine Wp.sel (Wp.rfO (Wp.rfI (tU := tU) (tN := tN) (tE := tE) (p := 0) (a := 1) (c := 2) (h.mono fun sv H' ⟨o, e, hq⟩ => ?_)))
  subst e
  exact ⟨Y, by decide, by decide, by decide, rfl, rfl, rfl, [0, 3], rfl, by simp, by simp [rfo0], hq⟩
theorem Wp.nilD2 {e : Ty} (h : Wp I P f args H fun sv H' => Q sv H' ∨ ∃ x : Int, sv = .tup [.c (.k (.slice none 0 0)), .c (.k (.int .i64 x))] ∧ Q (.tup [.c (.d e []), .c (.k (.int .i64 x))]) H') : Wp I P f args H Q := fun W hW g w E F vs hs hv =>
  (h W hW g w E F vs hs hv).mono fun v w' ⟨E1, g1, sv, H1, e1, m1, s1, r1, q⟩ => by
    rcases q with q | ⟨x, rfl, q⟩
    · exact ⟨E1, g1, sv, H1, e1, m1, s1, r1, q⟩
    · obtain ⟨us, ⟨u1, us1, rfl, ⟨hu1, _⟩, u2, us2, rfl, hu2, hnil⟩, rfl⟩ := r1
      obtain rfl : us2 = [] := hnil
      subst hu1
      refine ⟨E1, g1, .tup [.c (.d e []), .c (.k (.int .i64 x))], H1, e1, m1, s1, ⟨_, ⟨_, _, rfl, ?_, _, _, rfl, hu2, rfl⟩, rfl⟩, q⟩
      exact (@is_list e.den e.rep g1 _ _).2 (.inl ⟨rfl, rfl⟩)
theorem Wp.cellNil {p : Nat} {t tt : TypeId} {e : Ty} (h : Wp I P f args H fun sv H' => ∃ cs1 cs2, H'[p]? = some (.cells t (cs1 ++ .k (.slice none 0 0) :: cs2)) ∧ Q sv ((H'.set p (.cells t (cs1 ++ .o H'.length :: cs2))) ++ [.sl tt e []])) : Wp I P f args H Q := fun W hW g w E F vs hs hv =>
  (h W hW g w E F vs hs hv).mono fun v w' ⟨E1, g1, sv, H1, e1, m1, s1, r1, cs1, cs2, hp, hq⟩ => by
    have hpl := (List.getElem?_eq_some_iff.1 hp).1
    letI := e.rep
    have H2 := SL.slNil e.den tt s1.sl
    have hlen : E1.length = H1.length := s1.len
    have he : EnvLe E1 (E1 ++ [Value.slice none 0 0]) := EnvLe.app _ _
    have S1 : Sat W (E1 ++ [Value.slice none 0 0]) g1 w' (H1 ++ [.sl tt e []]) F := Sat.push (o := .sl tt e []) hlen (H2.weak fun _ ⟨k1, k2, ap, q, x1, x2⟩ => ⟨k1, k2, ap, q, ⟨_, by rw [← hlen]; simp, x1⟩, x2⟩)
    refine ⟨E1 ++ [.slice none 0 0], g1, sv, _, e1.trans he, m1, ⟨?_, by simp [hlen]⟩, r1.mono he (Mono.refl _), hq⟩
    have hp' : (H1 ++ [HO.sl tt e []])[p]? = some (.cells t (cs1 ++ .k (.slice none 0 0) :: cs2)) := by rw [List.getElem?_append_left hpl]; exact hp
    refine S1.sl.weak fun k s => ?_
    obtain ⟨k1, k2, ap, e2, ⟨bb, us, hE, hrel, hblk⟩, s2⟩ := sats.take1 hp' s
    obtain ⟨u1, u2, rfl, h1, ⟨_, r, rfl, ⟨rfl, _⟩, h3⟩⟩ := RelCs.split hrel
    have hn : (E1 ++ [Value.slice none 0 0])[H1.length]? = some (.slice none 0 0) := by rw [← hlen]; simp
    have s3 : sats g1 (atomO (E1 ++ [Value.slice none 0 0]) p (.cells t (cs1 ++ .o H1.length :: cs2)) :: (atomsO (E1 ++ [Value.slice none 0 0]) 0 ((H1 ++ [HO.sl tt e []]).set p .gone) ++ F)) k := ⟨k1, k2, ap, e2, ⟨bb, _, hE, h1.app ⟨_, r, rfl, ⟨hn, none, 0, 0, rfl⟩, h3⟩, hblk⟩, s2⟩
    have s4 := sats.put1 (l := p) (by simp; omega) s3
    rw [List.set_set, List.set_append_left _ _ hpl] at s4
    exact s4
end
end Go.Lm

namespace Go.Proofs
open Go Go.Lm Go.RowKit
set_option maxRecDepth 1000000
def c_rat : Ct
  | [.v (.c (.p 0 0)), .v (.c (.k (.int .i64 ref)))], [.cells 87 [.k (.int .i64 q1), .k (.int .i64 q2), .o 1, .o 2, .k (.int .i64 nx)], .sl 36 (.pair (.sl .str) (.pair (.int .i64) (.pair (.int .i64) (.pair (.pair (.int .i64) (.pair (.int .i64) (.pair (.int .i64) .unit))) (.pair (.sl .u8) (.pair .str (.pair (.sl (.pair .str (.pair (.sl .u8) .unit))) (.pair .bool .unit)))))))) L, .sl 119 (.pair (.int .i64) (.pair .str (.pair (.int .i64) .unit))) E], Q => Q (.int (idxI (isI ref) L 0)) [.cells 87 [.k (.int .i64 q1), .k (.int .i64 q2), .o 1, .o 2, .k (.int .i64 nx)], .sl 36 noTy L, .sl 119 enTy E]
  | _, _, _ => False
noncomputable def XR137 : Vx := { P := Tryz.prog, ct := (96, c_list) :: XU1236.ct, ty := tyTab, hold := [] }
theorem XR137_ok : CtOk Inv Tryz.prog XR137.ct := CtOk.cons w_list (XU1236_ok)
def vc_rat : (Int) → (Int) → (Int) → (Int) → (List NoD) → (List EnD) → (SV → List HO → Prop) → Prop :=
 fun ref q1 q2 nx L E Q => inK .i64 ref → LoopP (fun i again => List.length L ≤ 9223372036854775807 → br (decide (i.1.1 < (L.length : Int))) (0 ≤ i.1.1 ∧ i.1.1 < (L.length : Int) ∧ 0 ≤ i.1.1 ∧ i.1.1 < (L.length : Int) ∧ (Ty.ok noTy (ixD noTy 
 L i.1.1) → br ((ixD noTy L i.1.1).2.1 == ref) (Q (.v (.c (.k (.int .i64 i.1.1)))) (rfs 87 36 119 q1 q2 nx L E)) (inK .i64 (i.1.1 + 1) ∧ again ((i.1.1 + 1, ()), ())))) (Q (.v (.c (.k (.int .i64 (-1 : Int))))) (rfs 87 36 119 q1 q2 nx L E))) 
 (((0 : Int), ()), ())
theorem vc_rat_eq (ref : Int) (q1 : Int) (q2 : Int) (nx : Int) (L : List NoD) (E : List EnD) (Q : SV → List HO → Prop) : vFun XR137 ⟨[(3, ⟨[(5, .int .i64)], []⟩)], []⟩ Tryz.f83 [.v (.c (.p 0 0)), .int ref] [.cells 87 [.k (.int .i64 q1), .k (.int .i64 q2), .o 1, .o 2, .k (.int .i64 nx)], .sl 36 noTy L, .sl 119 enTy E] Q = vc_rat ref q1 q2 nx L E Q := by kernel_rfl
theorem w_rat : ∀ args H Q, c_rat args H Q → Wp Inv Tryz.prog 83 args H Q := by
  intro args H Q h
  unfold c_rat at h
  split at h
  rotate_left
  · exact h.elim
  rename_i ref q1 q2 nx L E
  refine Wp.enter (X := XR137) XR137_ok ⟨[(3, ⟨[(5, .int .i64)], []⟩)], []⟩ (fn := Tryz.f83) (by kernel_rfl) ?_
  have hv := vc_rat_eq ref q1 q2 nx L E Q
  rw [show vFun _ _ _ _ _ _ = _ from hv]
  unfold vc_rat
  intro _ 
  refine LoopP.intro (fun i => 0 ≤ i.1.1 ∧ idxI (isI ref) (L.drop i.1.1.toNat) i.1.1 = idxI (isI ref) L 0) (fun i => L.length - i.1.1.toNat) ⟨by simp, rfl⟩ ?_
  rintro ⟨⟨i, _⟩, _⟩ ⟨h0, h1⟩
  simp only at h0 h1 ⊢
  intro hl
  refine br_of (fun hc => ?_) (fun hc => ?_)
  · have hc : i < (L.length : Int) := of_decide_eq_true hc
    rw [ixD_drop (e := noTy) h0 hc] at h1
    have yes : (isI ref) (ixD noTy L i) = true → Q (.int i) [.cells 87 [.k (.int .i64 q1), .k (.int .i64 q2), .o 1, .o 2, .k (.int .i64 nx)], .sl 36 noTy L, .sl 119 enTy E] := fun h2 => by
      simp only [idxI, h2, if_true] at h1
      rw [← h1] at h; exact h
    have no : (isI ref) (ixD noTy L i) = false → idxI (isI ref) (L.drop (i + 1).toNat) (i + 1) = idxI (isI ref) L 0 := fun h2 => by
      simp only [idxI, h2, Bool.false_eq_true, if_false] at h1
      exact h1
    refine ⟨h0, hc, h0, hc, fun _ => br_of (fun h2 => yes h2) (fun h2 => ⟨by unfold inK; omega, ⟨by omega, no h2⟩, by omega⟩)⟩
  · have hc : ¬ i < (L.length : Int) := of_decide_eq_false hc
    rw [drop_all hc] at h1
    rw [← h1] at h; exact h
def c_rin : Ct
  | [.v (.c (.p 0 0)), .v (.c (.k (.int .i64 d))), .v (.c (.k (.string s)))], [.cells 87 [.k (.int .i64 q1), .k (.int .i64 q2), .o 1, .o 2, .k (.int .i64 nx)], .sl 36 (.pair (.sl .str) (.pair (.int .i64) (.pair (.int .i64) (.pair (.pair (.int .i64) (.pair (.int .i64) (.pair (.int .i64) .unit))) (.pair (.sl .u8) (.pair .str (.pair (.sl (.pair .str (.pair (.sl .u8) .unit))) (.pair .bool .unit)))))))) L, .sl 119 (.pair (.int .i64) (.pair .str (.pair (.int .i64) .unit))) E], Q => Q (.int (idxI (isE d s) E 0)) [.cells 87 [.k (.int .i64 q1), .k (.int .i64 q2), .o 1, .o 2, .k (.int .i64 nx)], .sl 36 noTy L, .sl 119 enTy E]
  | _, _, _ => False
noncomputable def XR138 : Vx := { P := Tryz.prog, ct := (83, c_rat) :: XR137.ct, ty := tyTab, hold := [] }
theorem XR138_ok : CtOk Inv Tryz.prog XR138.ct := CtOk.cons w_rat (XR137_ok)
def vc_rin : (Int) → (ByteArray) → (Int) → (Int) → (Int) → (List NoD) → (List EnD) → (SV → List HO → Prop) → Prop :=
 fun d s q1 q2 nx L E Q => inK .i64 d → ByteArray.size s ≤ 9223372036854775807 → LoopP (fun i again => List.length E ≤ 9223372036854775807 → br (decide (i.1.1 < (E.length : Int))) (0 ≤ i.1.1 ∧ i.1.1 < (E.length : Int) ∧ 0 ≤ i.1.1 ∧ i.1.1 < 
 (E.length : Int) ∧ (Ty.ok enTy (ixD enTy E i.1.1) → br ((ixD enTy E i.1.1).1 == d) (0 ≤ i.1.1 ∧ i.1.1 < (E.length : Int) ∧ 0 ≤ i.1.1 ∧ i.1.1 < (E.length : Int) ∧ (Ty.ok enTy (ixD enTy E i.1.1) → br (sEq (ixD enTy E i.1.1).2.1 s) (Q (.v (.c 
 (.k (.int .i64 i.1.1)))) (rfs 87 36 119 q1 q2 nx L E)) (inK .i64 (i.1.1 + 1) ∧ again ((i.1.1 + 1, ()), ())))) (inK .i64 (i.1.1 + 1) ∧ again ((i.1.1 + 1, ()), ())))) (Q (.v (.c (.k (.int .i64 (-1 : Int))))) (rfs 87 36 119 q1 q2 nx L E))) 
 (((0 : Int), ()), ())
theorem vc_rin_eq (d : Int) (s : ByteArray) (q1 : Int) (q2 : Int) (nx : Int) (L : List NoD) (E : List EnD) (Q : SV → List HO → Prop) : vFun XR138 ⟨[(3, ⟨[(7, .int .i64)], []⟩)], []⟩ Tryz.f85 [.v (.c (.p 0 0)), .int d, .str s] [.cells 87 [.k (.int .i64 q1), .k (.int .i64 q2), .o 1, .o 2, .k (.int .i64 nx)], .sl 36 noTy L, .sl 119 enTy E] Q = vc_rin d s q1 q2 nx L E Q := by kernel_rfl
theorem w_rin : ∀ args H Q, c_rin args H Q → Wp Inv Tryz.prog 85 args H Q := by
  intro args H Q h
  unfold c_rin at h
  split at h
  rotate_left
  · exact h.elim
  rename_i d s q1 q2 nx L E
  refine Wp.enter (X := XR138) XR138_ok ⟨[(3, ⟨[(7, .int .i64)], []⟩)], []⟩ (fn := Tryz.f85) (by kernel_rfl) ?_
  have hv := vc_rin_eq d s q1 q2 nx L E Q
  rw [show vFun _ _ _ _ _ _ = _ from hv]
  unfold vc_rin
  intro _ _
  refine LoopP.intro (fun i => 0 ≤ i.1.1 ∧ idxI (isE d s) (E.drop i.1.1.toNat) i.1.1 = idxI (isE d s) E 0) (fun i => E.length - i.1.1.toNat) ⟨by simp, rfl⟩ ?_
  rintro ⟨⟨i, _⟩, _⟩ ⟨h0, h1⟩
  simp only at h0 h1 ⊢
  intro hl
  refine br_of (fun hc => ?_) (fun hc => ?_)
  · have hc : i < (E.length : Int) := of_decide_eq_true hc
    rw [ixD_drop (e := enTy) h0 hc] at h1
    have yes : (isE d s) (ixD enTy E i) = true → Q (.int i) [.cells 87 [.k (.int .i64 q1), .k (.int .i64 q2), .o 1, .o 2, .k (.int .i64 nx)], .sl 36 noTy L, .sl 119 enTy E] := fun h2 => by
      simp only [idxI, h2, if_true] at h1
      rw [← h1] at h; exact h
    have no : (isE d s) (ixD enTy E i) = false → idxI (isE d s) (E.drop (i + 1).toNat) (i + 1) = idxI (isE d s) E 0 := fun h2 => by
      simp only [idxI, h2, Bool.false_eq_true, if_false] at h1
      exact h1
    refine ⟨h0, hc, h0, hc, fun _ => br_of (fun h2 => ⟨h0, hc, h0, hc, fun _ => br_of (fun h3 => yes (by rw [isE_eq, h2, h3]; rfl)) (fun h3 => ⟨by unfold inK; omega, ⟨by omega, no (by rw [isE_eq, h2, h3]; rfl)⟩, by omega⟩)⟩) (fun h2 => ⟨by unfold inK; omega, ⟨by omega, no (by rw [isE_eq, h2]; rfl)⟩, by omega⟩)⟩
  · have hc : ¬ i < (E.length : Int) := of_decide_eq_false hc
    rw [drop_all hc] at h1
    rw [← h1] at h; exact h
def c_rlinks : Ct
  | [.v (.c (.p 0 0)), .v (.c (.k (.int .i64 ref)))], [.cells 87 [.k (.int .i64 q1), .k (.int .i64 q2), .o 1, .o 2, .k (.int .i64 nx)], .sl 36 (.pair (.sl .str) (.pair (.int .i64) (.pair (.int .i64) (.pair (.pair (.int .i64) (.pair (.int .i64) (.pair (.int .i64) .unit))) (.pair (.sl .u8) (.pair .str (.pair (.sl (.pair .str (.pair (.sl .u8) .unit))) (.pair .bool .unit)))))))) L, .sl 119 (.pair (.int .i64) (.pair .str (.pair (.int .i64) .unit))) E], Q => Q (.int ((UpY.mk q1 q2 L E nx).links ref)) [.cells 87 [.k (.int .i64 q1), .k (.int .i64 q2), .o 1, .o 2, .k (.int .i64 nx)], .sl 36 noTy L, .sl 119 enTy E]
  | _, _, _ => False
noncomputable def XR139 : Vx := { P := Tryz.prog, ct := (85, c_rin) :: XR138.ct, ty := tyTab, hold := [] }
theorem XR139_ok : CtOk Inv Tryz.prog XR139.ct := CtOk.cons w_rin (XR138_ok)
def vc_rlinks : (Int) → (Int) → (Int) → (Int) → (List NoD) → (List EnD) → (SV → List HO → Prop) → Prop :=
 fun ref q1 q2 nx L E Q => inK .i64 ref → LoopP (fun i again => List.length E ≤ 9223372036854775807 → br (decide (i.1.2.1 < (E.length : Int))) (0 ≤ i.1.2.1 ∧ i.1.2.1 < (E.length : Int) ∧ 0 ≤ i.1.2.1 ∧ i.1.2.1 < (E.length : Int) ∧ (Ty.ok enTy 
 (ixD enTy E i.1.2.1) → br ((ixD enTy E i.1.2.1).2.2.1 == ref) (inK .i64 (i.1.1 + 1) ∧ inK .i64 (i.1.2.1 + 1) ∧ again ((i.1.1 + 1, i.1.2.1 + 1, ()), ())) (inK .i64 (i.1.2.1 + 1) ∧ again ((i.1.1, i.1.2.1 + 1, ()), ())))) (br (ref == 1) (Q (.v 
 (.c (.k (.int .i64 1)))) (rfs 87 36 119 q1 q2 nx L E)) (Q (.v (.c (.k (.int .i64 i.1.1)))) (rfs 87 36 119 q1 q2 nx L E)))) (((0 : Int), (0 : Int), ()), ())
theorem vc_rlinks_eq (ref : Int) (q1 : Int) (q2 : Int) (nx : Int) (L : List NoD) (E : List EnD) (Q : SV → List HO → Prop) : vFun XR139 ⟨[(4, ⟨[(5, .int .i64), (6, .int .i64)], []⟩)], []⟩ Tryz.f123 [.v (.c (.p 0 0)), .int ref] [.cells 87 [.k (.int .i64 q1), .k (.int .i64 q2), .o 1, .o 2, .k (.int .i64 nx)], .sl 36 noTy L, .sl 119 enTy E] Q = vc_rlinks ref q1 q2 nx L E Q := by kernel_rfl
theorem w_rlinks : ∀ args H Q, c_rlinks args H Q → Wp Inv Tryz.prog 123 args H Q := by
  intro args H Q h
  unfold c_rlinks at h
  split at h
  rotate_left
  · exact h.elim
  rename_i ref q1 q2 nx L E
  refine Wp.enter (X := XR139) XR139_ok ⟨[(4, ⟨[(5, .int .i64), (6, .int .i64)], []⟩)], []⟩ (fn := Tryz.f123) (by kernel_rfl) ?_
  have hv := vc_rlinks_eq ref q1 q2 nx L E Q
  rw [show vFun _ _ _ _ _ _ = _ from hv]
  unfold vc_rlinks
  intro _
  refine LoopP.intro (fun i => 0 ≤ i.1.2.1 ∧ i.1.1 + ((E.drop i.1.2.1.toNat).countP (toR ref) : Int) = (E.countP (toR ref) : Int) ∧ 0 ≤ i.1.1) (fun i => E.length - i.1.2.1.toNat) ⟨by simp, by simp, by simp⟩ ?_
  rintro ⟨⟨n, i, _⟩, _⟩ ⟨h0, h1, hn⟩
  simp only at h0 h1 hn ⊢
  intro hl
  have hcp : E.countP (toR ref) ≤ E.length := List.countP_le_length
  refine br_of (fun hc => ?_) (fun hc => ?_)
  · have hc : i < (E.length : Int) := of_decide_eq_true hc
    rw [ixD_drop (e := enTy) h0 hc, List.countP_cons] at h1
    refine ⟨h0, hc, h0, hc, fun _ => br_of (fun h2 => ?_) (fun h2 => ?_)⟩
    · rw [show toR ref (ixD enTy E i) = true from h2] at h1
      simp only [if_true] at h1
      exact ⟨by unfold inK; omega, by unfold inK; omega, ⟨by omega, by omega, by omega⟩, by omega⟩
    · rw [show toR ref (ixD enTy E i) = false from h2] at h1
      simp only [Bool.false_eq_true, if_false] at h1
      exact ⟨by unfold inK; omega, ⟨by omega, by omega, by omega⟩, by omega⟩
  · have hc : ¬ i < (E.length : Int) := of_decide_eq_false hc
    rw [drop_all hc] at h1
    unfold UpY.links at h
    refine br_of (fun h2 => ?_) (fun h2 => ?_)
    · rw [if_pos (eq_of_beq h2)] at h; exact h
    · rw [if_neg (by simpa using h2)] at h
      have : n = (E.countP (toR ref) : Int) := by rw [← h1]; simp
      rw [this]; exact h
def c_rdir : Ct
  | [.v (.c (.p 0 0)), .v (.c (.k (.int .i64 ref)))], [.cells 87 [.k (.int .i64 q1), .k (.int .i64 q2), .o 1, .o 2, .k (.int .i64 nx)], .sl 36 (.pair (.sl .str) (.pair (.int .i64) (.pair (.int .i64) (.pair (.pair (.int .i64) (.pair (.int .i64) (.pair (.int .i64) .unit))) (.pair (.sl .u8) (.pair .str (.pair (.sl (.pair .str (.pair (.sl .u8) .unit))) (.pair .bool .unit)))))))) L, .sl 119 (.pair (.int .i64) (.pair .str (.pair (.int .i64) .unit))) E], Q => Q (.int ((UpY.mk q1 q2 L E nx).dirE ref)) [.cells 87 [.k (.int .i64 q1), .k (.int .i64 q2), .o 1, .o 2, .k (.int .i64 nx)], .sl 36 noTy L, .sl 119 enTy E]
  | _, _, _ => False
noncomputable def XR140 : Vx := { P := Tryz.prog, ct := (123, c_rlinks) :: XR139.ct, ty := tyTab, hold := [] }
theorem XR140_ok : CtOk Inv Tryz.prog XR140.ct := CtOk.cons w_rlinks (XR139_ok)
def vc_rdir : (Int) → (Int) → (Int) → (Int) → (List NoD) → (List EnD) → (SV → List HO → Prop) → Prop :=
 fun ref q1 q2 nx L E Q => inK .i64 ref → inK .i64 (idxI (isI ref) L (0 : Int)) → br (decide (idxI (isI ref) L (0 : Int) < (0 : Int))) (Q (.v (.c (.k (.int .i64 1)))) (rfs 87 36 119 q1 q2 nx L E)) (0 ≤ idxI (isI ref) L (0 : Int) ∧ idxI (isI 
 ref) L (0 : Int) < (L.length : Int) ∧ 0 ≤ idxI (isI ref) L (0 : Int) ∧ idxI (isI ref) L (0 : Int) < (L.length : Int) ∧ (Ty.ok noTy (ixD noTy L (idxI (isI ref) L (0 : Int))) → br ((ixD noTy L (idxI (isI ref) L (0 : Int))).2.2.1 != 1) (Q (.v 
 (.c (.k (.int .i64 24)))) (rfs 87 36 119 q1 q2 nx L E)) (Q (.v (.c (.k (.int .i64 0)))) (rfs 87 36 119 q1 q2 nx L E))))
theorem vc_rdir_eq (ref : Int) (q1 : Int) (q2 : Int) (nx : Int) (L : List NoD) (E : List EnD) (Q : SV → List HO → Prop) : vFun XR140 ⟨[], []⟩ Tryz.f84 [.v (.c (.p 0 0)), .int ref] [.cells 87 [.k (.int .i64 q1), .k (.int .i64 q2), .o 1, .o 2, .k (.int .i64 nx)], .sl 36 noTy L, .sl 119 enTy E] Q = vc_rdir ref q1 q2 nx L E Q := by kernel_rfl
theorem w_rdir : ∀ args H Q, c_rdir args H Q → Wp Inv Tryz.prog 84 args H Q := by
  intro args H Q h
  unfold c_rdir at h
  split at h
  rotate_left
  · exact h.elim
  rename_i ref q1 q2 nx L E
  refine Wp.enter (X := XR140) XR140_ok ⟨[], []⟩ (fn := Tryz.f84) (by kernel_rfl) ?_
  have hv := vc_rdir_eq ref q1 q2 nx L E Q
  rw [show vFun _ _ _ _ _ _ = _ from hv]
  unfold vc_rdir
  intro _ _
  rcases atI_cases q1 q2 L E nx ref with ⟨hi, hy⟩ | ⟨y, hy, h0, h1, hx⟩
  · rw [dirE_none hy] at h
    exact br_of (fun _ => h) (fun h2 => absurd hi (of_decide_eq_false h2))
  · rw [dirE_some hy] at h
    refine br_of (fun h2 => absurd (of_decide_eq_true h2) (by omega)) (fun h2 => ⟨h0, h1, h0, h1, fun _ => ?_⟩)
    rw [hx]
    refine br_of (fun h3 => ?_) (fun h3 => ?_)
    · rw [if_neg (by simpa using h3)] at h; exact h
    · rw [if_pos (by simpa using h3)] at h; exact h
def c_rfile : Ct
  | [.v (.c (.p 0 0)), .v (.c (.k (.int .i64 ref)))], [.cells 87 [.k (.int .i64 q1), .k (.int .i64 q2), .o 1, .o 2, .k (.int .i64 nx)], .sl 36 (.pair (.sl .str) (.pair (.int .i64) (.pair (.int .i64) (.pair (.pair (.int .i64) (.pair (.int .i64) (.pair (.int .i64) .unit))) (.pair (.sl .u8) (.pair .str (.pair (.sl (.pair .str (.pair (.sl .u8) .unit))) (.pair .bool .unit)))))))) L, .sl 119 (.pair (.int .i64) (.pair .str (.pair (.int .i64) .unit))) E], Q => Q (.tup [.c (.k (.int .i64 ((UpY.mk q1 q2 L E nx).fileI ref))), .c (.k (.int .i64 ((UpY.mk q1 q2 L E nx).fileE ref)))]) [.cells 87 [.k (.int .i64 q1), .k (.int .i64 q2), .o 1, .o 2, .k (.int .i64 nx)], .sl 36 noTy L, .sl 119 enTy E]
  | _, _, _ => False
noncomputable def XR141 : Vx := { P := Tryz.prog, ct := (84, c_rdir) :: XR140.ct, ty := tyTab, hold := [] }
theorem XR141_ok : CtOk Inv Tryz.prog XR141.ct := CtOk.cons w_rdir (XR140_ok)
def vc_rfile : (Int) → (Int) → (Int) → (Int) → (List NoD) → (List EnD) → (SV → List HO → Prop) → Prop :=
 fun ref q1 q2 nx L E Q => inK .i64 ref → inK .i64 (idxI (isI ref) L (0 : Int)) → br (decide (idxI (isI ref) L (0 : Int) < (0 : Int))) (Q (.tup [.c (.k (.int .i64 0)), .c (.k (.int .i64 1))]) (rfs 87 36 119 q1 q2 nx L E)) (0 ≤ idxI (isI ref) 
 L (0 : Int) ∧ idxI (isI ref) L (0 : Int) < (L.length : Int) ∧ 0 ≤ idxI (isI ref) L (0 : Int) ∧ idxI (isI ref) L (0 : Int) < (L.length : Int) ∧ (Ty.ok noTy (ixD noTy L (idxI (isI ref) L (0 : Int))) → br ((ixD noTy L (idxI (isI ref) L (0 : 
 Int))).2.2.1 == 1) (Q (.tup [.c (.k (.int .i64 0)), .c (.k (.int .i64 25))]) (rfs 87 36 119 q1 q2 nx L E)) (0 ≤ idxI (isI ref) L (0 : Int) ∧ idxI (isI ref) L (0 : Int) < (L.length : Int) ∧ 0 ≤ idxI (isI ref) L (0 : Int) ∧ idxI (isI ref) L 
 (0 : Int) < (L.length : Int) ∧ (Ty.ok noTy (ixD noTy L (idxI (isI ref) L (0 : Int))) → br ((ixD noTy L (idxI (isI ref) L (0 : Int))).2.2.1 != 2) (Q (.tup [.c (.k (.int .i64 0)), .c (.k (.int .i64 1))]) (rfs 87 36 119 q1 q2 nx L E)) (Q (.tup 
 [.c (.k (.int .i64 (idxI (isI ref) L (0 : Int)))), .c (.k (.int .i64 0))]) (rfs 87 36 119 q1 q2 nx L E))))))
theorem vc_rfile_eq (ref : Int) (q1 : Int) (q2 : Int) (nx : Int) (L : List NoD) (E : List EnD) (Q : SV → List HO → Prop) : vFun XR141 ⟨[], []⟩ Tryz.f90 [.v (.c (.p 0 0)), .int ref] [.cells 87 [.k (.int .i64 q1), .k (.int .i64 q2), .o 1, .o 2, .k (.int .i64 nx)], .sl 36 noTy L, .sl 119 enTy E] Q = vc_rfile ref q1 q2 nx L E Q := by kernel_rfl
theorem w_rfile : ∀ args H Q, c_rfile args H Q → Wp Inv Tryz.prog 90 args H Q := by
  intro args H Q h
  unfold c_rfile at h
  split at h
  rotate_left
  · exact h.elim
  rename_i ref q1 q2 nx L E
  refine Wp.enter (X := XR141) XR141_ok ⟨[], []⟩ (fn := Tryz.f90) (by kernel_rfl) ?_
  have hv := vc_rfile_eq ref q1 q2 nx L E Q
  rw [show vFun _ _ _ _ _ _ = _ from hv]
  unfold vc_rfile
  intro _ _
  unfold UpY.fileI at h
  rcases atI_cases q1 q2 L E nx ref with ⟨hi, hy⟩ | ⟨y, hy, h0, h1, hx⟩
  · rw [fileE_none hy] at h
    exact br_of (fun _ => h) (fun h2 => absurd hi (of_decide_eq_false h2))
  · rw [fileE_some hy] at h
    refine br_of (fun h2 => absurd (of_decide_eq_true h2) (by omega)) (fun h2 => ⟨h0, h1, h0, h1, fun _ => ?_⟩)
    rw [hx]
    refine br_of (fun h3 => ?_) (fun h3 => ⟨h0, h1, h0, h1, fun _ => ?_⟩)
    · have h3 : y.2.2.1 = 1 := by simpa using h3
      simp only [h3, if_true] at h; exact h
    · have h3 : ¬ y.2.2.1 = 1 := by simpa using h3
      refine br_of (fun h4 => ?_) (fun h4 => ?_)
      · have h4 : ¬ y.2.2.1 = 2 := by simpa using h4
        simp only [h3, h4, if_false] at h; exact h
      · have h4 : y.2.2.1 = 2 := by simpa using h4
        simp only [h4, if_true] at h; exact h
def c_nul : Ct
  | [.v (.c (.k (.string s)))], [], Q => Q (.bool (nulB s 0)) []
  | _, _, _ => False
noncomputable def XR142 : Vx := { P := Tryz.prog, ct := (90, c_rfile) :: XR141.ct, ty := tyTab, hold := [] }
theorem XR142_ok : CtOk Inv Tryz.prog XR142.ct := CtOk.cons w_rfile (XR141_ok)
def vc_nul : (ByteArray) → (SV → List HO → Prop) → Prop :=
 fun s Q => ByteArray.size s ≤ 9223372036854775807 → LoopP (fun i again => br (decide (i.1.1 < (↑(ByteArray.size s) : Int))) (0 ≤ i.1.1 ∧ i.1.1 < (↑(ByteArray.size s) : Int) ∧ br ((↑(UInt8.toNat (byteAt s i.1.1)) : Int) == 0) (Q (.v (.c (.k 
 (.bool true)))) []) (inK .i64 (i.1.1 + 1) ∧ again ((i.1.1 + 1, ()), ()))) (Q (.v (.c (.k (.bool false)))) [])) (((0 : Int), ()), ())
theorem vc_nul_eq (s : ByteArray) (Q : SV → List HO → Prop) : vFun XR142 ⟨[(3, ⟨[(3, .int .i64)], []⟩)], []⟩ Tryz.f124 [.str s] [] Q = vc_nul s Q := by kernel_rfl
theorem w_nul : ∀ args H Q, c_nul args H Q → Wp Inv Tryz.prog 124 args H Q := by
  intro args H Q h
  unfold c_nul at h
  split at h
  rotate_left
  · exact h.elim
  rename_i s
  refine Wp.enter (X := XR142) XR142_ok ⟨[(3, ⟨[(3, .int .i64)], []⟩)], []⟩ (fn := Tryz.f124) (by kernel_rfl) ?_
  have hv := vc_nul_eq s Q
  rw [show vFun _ _ _ _ _ _ = _ from hv]
  unfold vc_nul
  intro hs
  refine LoopP.intro (fun i => 0 ≤ i.1.1 ∧ i.1.1 ≤ s.size ∧ nulB s i.1.1.toNat = nulB s 0) (fun i => s.size - i.1.1.toNat) ⟨by simp, by simp, rfl⟩ ?_
  rintro ⟨⟨i, _⟩, _⟩ ⟨h0, h1, h2⟩
  simp only at h0 h1 h2 ⊢
  refine br_of (fun hc => ?_) (fun hc => ?_)
  · have hc : i < s.size := by simpa using hc
    have hst := nulB_step h0 hc
    refine ⟨h0, hc, br_of (fun hb => ?_) (fun hb => ?_)⟩
    · rw [hb, Bool.true_or] at hst
      rw [← h2, hst] at h
      exact h
    · rw [hb, Bool.false_or] at hst
      refine ⟨by unfold inK; omega, ⟨by omega, by omega, by rw [← hst, h2]⟩, by omega⟩
  · have hc : ¬ i < s.size := by simpa using hc
    rw [← h2, nulB_end hc h0] at h
    exact h
def c_xattrsR : Ct
  | [.v (.c cl)], [], Q => (match (Ty.sl xaTy).of [cl] with
    | some (l, []) => Q (.bool (xattrsB l)) []
    | _ => False)
  | _, _, _ => False
noncomputable def XR143 : Vx := { P := Tryz.prog, ct := (124, c_nul) :: XR142.ct, ty := tyTab, hold := [] }
theorem XR143_ok : CtOk Inv Tryz.prog XR143.ct := CtOk.cons w_nul (XR142_ok)
def vc_xattrsR : (List (xaTy).den) → (SV → List HO → Prop) → Prop :=
 fun l Q => List.length l ≤ 9223372036854775807 → LoopP (fun i again => List.length l ≤ 9223372036854775807 → br (decide (i.1.1 < (l.length : Int))) (0 ≤ i.1.1 ∧ i.1.1 < (l.length : Int) ∧ (Ty.ok xaTy (ixD xaTy l i.1.1) → br (decide 
 ((↑(ByteArray.size (ixD xaTy l i.1.1).1) : Int) < (1 : Int))) (Q (.v (.c (.k (.bool false)))) []) (br (decide ((↑(ByteArray.size (ixD xaTy l i.1.1).1) : Int) > (40 : Int))) (Q (.v (.c (.k (.bool false)))) []) (br (nulB (ixD xaTy l i.1.1).1 
 (0 : Nat)) (Q (.v (.c (.k (.bool false)))) []) (List.length (ixD xaTy l i.1.1).2.1 ≤ 9223372036854775807 → br (decide ((↑(List.length (ixD xaTy l i.1.1).2.1) : Int) > (200 : Int))) (Q (.v (.c (.k (.bool false)))) []) (br (decide (i.1.1 > 
 0)) (inK .i64 (i.1.1 - 1) ∧ 0 ≤ i.1.1 - 1 ∧ i.1.1 - 1 < (l.length : Int) ∧ (Ty.ok xaTy (ixD xaTy l (i.1.1 - 1)) → br (!sLt (ixD xaTy l (i.1.1 - 1)).1 (ixD xaTy l i.1.1).1) (Q (.v (.c (.k (.bool false)))) []) (inK .i64 (i.1.1 + 1) ∧ again 
 ((i.1.1 + 1, ()), ())))) (inK .i64 (i.1.1 + 1) ∧ again ((i.1.1 + 1, ()), ())))))))) (List.length l ≤ 9223372036854775807 → Q (.v (.c (.k (.bool (decide ((l.length : Int) ≤ (8 : Int))))))) [])) (((0 : Int), ()), ())
theorem vc_xattrsR_eq (l : List (xaTy).den) (Q : SV → List HO → Prop) : vFun XR143 ⟨[(3, ⟨[(3, .int .i64)], []⟩)], []⟩ Tryz.f94 [.c (.d xaTy l)] [] Q = vc_xattrsR l Q := by kernel_rfl
theorem w_xattrsR : ∀ args H Q, c_xattrsR args H Q → Wp Inv Tryz.prog 94 args H Q := by
  intro args H Q h
  unfold c_xattrsR at h
  split at h
  rotate_left
  · exact h.elim
  rename_i cl
  split at h
  rotate_left
  · exact h.elim
  rename_i l hl
  refine Wp.said (args' := [.c (.d xaTy l)]) (fun E g => RelVs.cons1 (of_list hl) (fun _ h => h)) ?_
  clear hl
  refine Wp.enter (X := XR143) XR143_ok ⟨[(3, ⟨[(3, .int .i64)], []⟩)], []⟩ (fn := Tryz.f94) (by kernel_rfl) ?_
  have hv := vc_xattrsR_eq l Q
  rw [show vFun _ _ _ _ _ _ = _ from hv]
  unfold vc_xattrsR
  intro hl0
  refine LoopP.intro (fun i => 0 ≤ i.1.1 ∧ i.1.1 ≤ l.length ∧ xattrsGo l ⟨#[]⟩ = xattrsGo (l.drop i.1.1.toNat) (prevN l i.1.1)) (fun i => l.length - i.1.1.toNat) ⟨by simp, by simp, by simp [prevN]⟩ ?_
  rintro ⟨⟨i, _⟩, _⟩ ⟨h0, h1, h2⟩
  simp only at h0 h1 h2 ⊢
  intro _
  refine br_of (fun hc => ?_) (fun hc => ?_)
  · have hc : i < l.length := by simpa using hc
    refine ⟨h0, hc, fun _ => ?_⟩
    rw [ixD_drop (e := xaTy) h0 hc] at h2
    have bad : badX (ixD xaTy l i) (prevN l i) = true → Q (.bool false) [] := fun hb => by
      simp only [xattrsGo, hb, if_true] at h2
      unfold xattrsB at h
      rw [h2, Bool.false_and] at h
      exact h
    have good : badX (ixD xaTy l i) (prevN l i) = false → inK .i64 (i + 1) ∧ (0 ≤ i + 1 ∧ i + 1 ≤ l.length ∧ xattrsGo l ⟨#[]⟩ = xattrsGo (l.drop (i + 1).toNat) (prevN l (i + 1))) ∧ l.length - (i + 1).toNat < l.length - i.toNat := fun hb => by
      simp only [xattrsGo, hb, Bool.false_eq_true, if_false] at h2
      have hp : prevN l (i + 1) = (ixD xaTy l i).1 := by
        unfold prevN
        rw [if_pos (by omega), show i + 1 - 1 = i by omega]; rfl
      rw [hp]
      exact ⟨by unfold inK; omega, ⟨by omega, by omega, h2⟩, by omega⟩
    rw [badX_ref] at bad good
    refine br_of (fun h3 => bad (by rw [h3]; rfl)) (fun h3 => br_of (fun h4 => bad (by rw [h4]; simp)) (fun h4 => br_of (fun h5 => bad (by rw [h5]; simp)) (fun h5 => fun _ => br_of (fun h6 => bad (by rw [h6]; simp)) (fun h6 => ?_))))
    refine br_of (fun h7 => ?_) (fun h7 => ?_)
    · have h7 : i > 0 := by simpa using h7
      have hp : prevN l i = (ixD xaTy l (i - 1)).1 := by
        unfold prevN
        rw [if_pos h7]; rfl
      refine ⟨by unfold inK; omega, by omega, by omega, fun _ => ?_⟩
      rw [hp] at bad good
      exact br_of (fun h8 => bad (by rw [h8]; simp)) (fun h8 => good (by rw [h3, h4, h5, h6, h8]; rfl))
    · have hp : prevN l i = ⟨#[]⟩ := by
        unfold prevN
        rw [if_neg (by simpa using h7)]
      have h9 : sLt ⟨#[]⟩ (ixD xaTy l i).1 = true := nil_lt (by
        have : ¬ ((ixD xaTy l i).1.size : Int) < 1 := by simpa using h3
        omega)
      exact good (by rw [h3, h4, h5, h6, hp, h9]; rfl)
  · have hc : ¬ i < l.length := by simpa using hc
    rw [drop_all hc] at h2
    intro _
    unfold xattrsB at h
    rw [h2] at h
    exact h
def c_mayR : Ct
  | [.v (.agg cx)], [], Q => (match (noTy).of cx with
    | some (x, []) => Q (.bool (mayT x)) []
    | _ => False)
  | _, _, _ => False
noncomputable def XR144 : Vx := { P := Tryz.prog, ct := (94, c_xattrsR) :: XR143.ct, ty := tyTab, hold := [] }
theorem XR144_ok : CtOk Inv Tryz.prog XR144.ct := CtOk.cons w_xattrsR (XR143_ok)
def vc_mayR : ((noTy).den) → (SV → List HO → Prop) → Prop :=
 fun x Q => List.length x.1 ≤ 9223372036854775807 → inK .i64 x.2.1 → inK .i64 x.2.2.1 → inK .i64 x.2.2.2.1.1 → inK .i64 x.2.2.2.1.2.1 → inK .i64 x.2.2.2.1.2.2.1 → List.length x.2.2.2.2.1 ≤ 9223372036854775807 → ByteArray.size x.2.2.2.2.2.1 ≤ 
 9223372036854775807 → List.length x.2.2.2.2.2.2.1 ≤ 9223372036854775807 → br (decide (x.2.2.1 < 1)) (Q (.v (.c (.k (.bool false)))) []) (br (decide (x.2.2.1 > 3)) (Q (.v (.c (.k (.bool false)))) []) (br x.2.2.2.2.2.2.2.1 (Q (.v (.c (.k 
 (.bool false)))) []) (br (decide (x.2.2.2.1.1 < 0)) (Q (.v (.c (.k (.bool false)))) []) (br (decide (x.2.2.2.1.1 > 511)) (Q (.v (.c (.k (.bool false)))) []) (br (decide (x.2.2.2.1.2.1 < 0)) (Q (.v (.c (.k (.bool false)))) []) (br (decide 
 (x.2.2.2.1.2.1 > 65535)) (Q (.v (.c (.k (.bool false)))) []) (br (decide (x.2.2.2.1.2.2.1 < 0)) (Q (.v (.c (.k (.bool false)))) []) (br (decide (x.2.2.2.1.2.2.1 > 65535)) (Q (.v (.c (.k (.bool false)))) []) (br (x.2.2.1 != 2) (List.length 
 x.2.2.2.2.1 ≤ 9223372036854775807 → br (decide ((↑(List.length x.2.2.2.2.1) : Int) > (0 : Int))) (Q (.v (.c (.k (.bool false)))) []) (List.length x.2.2.2.2.1 ≤ 9223372036854775807 → br (decide ((↑(List.length x.2.2.2.2.1) : Int) > (4096 : 
 Int))) (Q (.v (.c (.k (.bool false)))) []) (br (x.2.2.1 != 3) (br (!sEq x.2.2.2.2.2.1 (ByteArray.mk #[])) (Q (.v (.c (.k (.bool false)))) []) (br (x.2.2.1 == 3) (br (sEq x.2.2.2.2.2.1 (ByteArray.mk #[])) (Q (.v (.c (.k (.bool false)))) []) 
 (br (decide ((↑(ByteArray.size x.2.2.2.2.2.1) : Int) > (200 : Int))) (Q (.v (.c (.k (.bool false)))) []) (br (nulB x.2.2.2.2.2.1 (0 : Nat)) (Q (.v (.c (.k (.bool false)))) []) (Q (.v (.c (.k (.bool (xattrsB x.2.2.2.2.2.2.1))))) [])))) (Q 
 (.v (.c (.k (.bool (xattrsB x.2.2.2.2.2.2.1))))) []))) (br (x.2.2.1 == 3) (br (sEq x.2.2.2.2.2.1 (ByteArray.mk #[])) (Q (.v (.c (.k (.bool false)))) []) (br (decide ((↑(ByteArray.size x.2.2.2.2.2.1) : Int) > (200 : Int))) (Q (.v (.c (.k 
 (.bool false)))) []) (br (nulB x.2.2.2.2.2.1 (0 : Nat)) (Q (.v (.c (.k (.bool false)))) []) (Q (.v (.c (.k (.bool (xattrsB x.2.2.2.2.2.2.1))))) [])))) (Q (.v (.c (.k (.bool (xattrsB x.2.2.2.2.2.2.1))))) []))))) (List.length x.2.2.2.2.1 ≤ 
 9223372036854775807 → br (decide ((↑(List.length x.2.2.2.2.1) : Int) > (4096 : Int))) (Q (.v (.c (.k (.bool false)))) []) (br (x.2.2.1 != 3) (br (!sEq x.2.2.2.2.2.1 (ByteArray.mk #[])) (Q (.v (.c (.k (.bool false)))) []) (br (x.2.2.1 == 3) 
 (br (sEq x.2.2.2.2.2.1 (ByteArray.mk #[])) (Q (.v (.c (.k (.bool false)))) []) (br (decide ((↑(ByteArray.size x.2.2.2.2.2.1) : Int) > (200 : Int))) (Q (.v (.c (.k (.bool false)))) []) (br (nulB x.2.2.2.2.2.1 (0 : Nat)) (Q (.v (.c (.k (.bool 
 false)))) []) (Q (.v (.c (.k (.bool (xattrsB x.2.2.2.2.2.2.1))))) [])))) (Q (.v (.c (.k (.bool (xattrsB x.2.2.2.2.2.2.1))))) []))) (br (x.2.2.1 == 3) (br (sEq x.2.2.2.2.2.1 (ByteArray.mk #[])) (Q (.v (.c (.k (.bool false)))) []) (br (decide 
 ((↑(ByteArray.size x.2.2.2.2.2.1) : Int) > (200 : Int))) (Q (.v (.c (.k (.bool false)))) []) (br (nulB x.2.2.2.2.2.1 (0 : Nat)) (Q (.v (.c (.k (.bool false)))) []) (Q (.v (.c (.k (.bool (xattrsB x.2.2.2.2.2.2.1))))) [])))) (Q (.v (.c (.k 
 (.bool (xattrsB x.2.2.2.2.2.2.1))))) [])))))))))))))
theorem vc_mayR_eq (x : (noTy).den) (Q : SV → List HO → Prop) : vFun XR144 ⟨[], []⟩ Tryz.f92 [.v (.agg (Ty.cells noTy x))] [] Q = vc_mayR x Q := by kernel_rfl
theorem w_mayR : ∀ args H Q, c_mayR args H Q → Wp Inv Tryz.prog 92 args H Q := by
  intro args H Q h
  unfold c_mayR at h
  split at h
  rotate_left
  · exact h.elim
  rename_i cx
  split at h
  rotate_left
  · exact h.elim
  rename_i x hx
  refine Wp.said (args' := [.v (.agg (Ty.cells noTy x))]) (fun E g => RelVs.cons1 (of_row hx) (fun _ h => h)) ?_
  clear hx
  refine Wp.enter (X := XR144) XR144_ok ⟨[], []⟩ (fn := Tryz.f92) (by kernel_rfl) ?_
  have hv := vc_mayR_eq x Q
  rw [show vFun _ _ _ _ _ _ = _ from hv]
  unfold vc_mayR
  intro _ _ _ _ _ _ _ _ _
  repeat' (first | refine br_of (fun _ => ?_) (fun _ => ?_) | intro _)
  all_goals refine Eq.mp (congrArg (fun z => Q (SV.bool z) []) ?_) h
  all_goals rw [← refMay_eq]
  all_goals unfold refMay
  all_goals clear hv h
  all_goals simp only [*, Bool.true_or, Bool.or_true, Bool.false_or, Bool.or_false, Bool.and_true, Bool.true_and, Bool.and_false, Bool.false_and, if_true, if_false, Bool.false_eq_true]
  all_goals (exfalso; simp_all; done)
def c_validR : Ct
  | [.v (.c (.k (.string s)))], [], Q => Q (.int (validN s)) []
  | _, _, _ => False
noncomputable def XR145 : Vx := { P := Tryz.prog, ct := (92, c_mayR) :: XR144.ct, ty := tyTab, hold := [] }
theorem XR145_ok : CtOk Inv Tryz.prog XR145.ct := CtOk.cons w_mayR (XR144_ok)
def vc_validR : (ByteArray) → (SV → List HO → Prop) → Prop :=
 fun s Q => ByteArray.size s ≤ 9223372036854775807 → br (decide ((↑(ByteArray.size s) : Int) > (255 : Int))) (Q (.v (.c (.k (.int .i64 23)))) []) (LoopP (fun i again => br (decide (i.1.1 < (↑(ByteArray.size s) : Int))) (0 ≤ i.1.1 ∧ i.1.1 < 
 (↑(ByteArray.size s) : Int) ∧ br ((↑(UInt8.toNat (byteAt s i.1.1)) : Int) == 0) (Q (.v (.c (.k (.int .i64 22)))) []) (0 ≤ i.1.1 ∧ i.1.1 < (↑(ByteArray.size s) : Int) ∧ br ((↑(UInt8.toNat (byteAt s i.1.1)) : Int) == 47) (Q (.v (.c (.k (.int 
 .i64 22)))) []) (inK .i64 (i.1.1 + 1) ∧ again ((i.1.1 + 1, ()), ())))) (br (sEq s (ByteArray.mk #[])) (Q (.v (.c (.k (.int .i64 22)))) []) (br (sEq s (ByteArray.mk #[(46 : UInt8)])) (Q (.v (.c (.k (.int .i64 22)))) []) (br (sEq s 
 (ByteArray.mk #[(46 : UInt8), (46 : UInt8)])) (Q (.v (.c (.k (.int .i64 22)))) []) (Q (.v (.c (.k (.int .i64 0)))) []))))) (((0 : Int), ()), ()))
theorem vc_validR_eq (s : ByteArray) (Q : SV → List HO → Prop) : vFun XR145 ⟨[(5, ⟨[(3, .int .i64)], []⟩)], []⟩ Tryz.f122 [.str s] [] Q = vc_validR s Q := by kernel_rfl
theorem w_validR : ∀ args H Q, c_validR args H Q → Wp Inv Tryz.prog 122 args H Q := by
  intro args H Q h
  unfold c_validR at h
  split at h
  rotate_left
  · exact h.elim
  rename_i s
  refine Wp.enter (X := XR145) XR145_ok ⟨[(5, ⟨[(3, .int .i64)], []⟩)], []⟩ (fn := Tryz.f122) (by kernel_rfl) ?_
  have hv := vc_validR_eq s Q
  rw [show vFun _ _ _ _ _ _ = _ from hv]
  unfold vc_validR
  intro hs
  unfold validN at h
  refine br_of (fun h1 => ?_) (fun h1 => ?_)
  · rw [if_pos (by simpa using h1)] at h; exact h
  · rw [if_neg (by simpa using h1)] at h
    refine LoopP.intro (fun i => 0 ≤ i.1.1 ∧ i.1.1 ≤ s.size ∧ slashB s i.1.1.toNat = slashB s 0) (fun i => s.size - i.1.1.toNat) ⟨by simp, by simp, rfl⟩ ?_
    rintro ⟨⟨i, _⟩, _⟩ ⟨h0, h2, h3⟩
    simp only at h0 h2 h3 ⊢
    refine br_of (fun hc => ?_) (fun hc => ?_)
    · have hc : i < s.size := by simpa using hc
      have hst := slashB_step h0 hc
      refine ⟨h0, hc, br_of (fun hb => ?_) (fun hb => ⟨h0, hc, br_of (fun hd => ?_) (fun hd => ?_)⟩)⟩
      · rw [hb, Bool.true_or] at hst
        rw [← h3, hst] at h
        exact h
      · rw [hb, hd] at hst
        rw [← h3, hst] at h
        exact h
      · rw [hb, hd, Bool.false_or, Bool.false_or] at hst
        exact ⟨by unfold inK; omega, ⟨by omega, by omega, by rw [← hst, h3]⟩, by omega⟩
    · have hc : ¬ i < s.size := by simpa using hc
      rw [← h3, slashB_end hc h0, Bool.false_or] at h
      unfold dotsB at h
      refine br_of (fun h5 => ?_) (fun h5 => br_of (fun h6 => ?_) (fun h6 => br_of (fun h7 => ?_) (fun h7 => ?_)))
      · rw [h5] at h; exact h
      · rw [h5, h6] at h; exact h
      · rw [h5, h6, h7] at h; exact h
      · rw [h5, h6, h7] at h; exact h
def c_rmay : Ct
  | [.v (.agg cx)], [], Q => (match (noTy).of cx with
    | some (x, []) => Q (.bool (mayN x)) []
    | _ => False)
  | _, _, _ => False
noncomputable def XR146 : Vx := { P := Tryz.prog, ct := (122, c_validR) :: XR145.ct, ty := tyTab, hold := [] }
theorem XR146_ok : CtOk Inv Tryz.prog XR146.ct := CtOk.cons w_validR (XR145_ok)
def vc_rmay : ((noTy).den) → (SV → List HO → Prop) → Prop :=
 fun x Q => List.length x.1 ≤ 9223372036854775807 → inK .i64 x.2.1 → inK .i64 x.2.2.1 → inK .i64 x.2.2.2.1.1 → inK .i64 x.2.2.2.1.2.1 → inK .i64 x.2.2.2.1.2.2.1 → List.length x.2.2.2.2.1 ≤ 9223372036854775807 → ByteArray.size x.2.2.2.2.2.1 ≤ 
 9223372036854775807 → List.length x.2.2.2.2.2.2.1 ≤ 9223372036854775807 → br (x.2.2.1 == 4) (br (x.2.2.2.1.1 == 0 && (x.2.2.2.1.2.1 == 0 && (x.2.2.2.1.2.2.1 == 0 && true))) (List.length x.2.2.2.2.1 ≤ 9223372036854775807 → br ((↑(List.length 
 x.2.2.2.2.1) : Int) == 0) (br (sEq x.2.2.2.2.2.1 (ByteArray.mk #[])) (List.length x.2.2.2.2.2.2.1 ≤ 9223372036854775807 → Q (.v (.c (.k (.bool ((↑(List.length x.2.2.2.2.2.2.1) : Int) == 0))))) []) (Q (.v (.c (.k (.bool false)))) [])) (Q (.v 
 (.c (.k (.bool false)))) [])) (Q (.v (.c (.k (.bool false)))) [])) (Q (.v (.c (.k (.bool (mayT (x.1, x.2.1, x.2.2.1, x.2.2.2.1, x.2.2.2.2.1, x.2.2.2.2.2.1, x.2.2.2.2.2.2.1, false, ())))))) [])
theorem vc_rmay_eq (x : (noTy).den) (Q : SV → List HO → Prop) : vFun XR146 ⟨[], []⟩ Tryz.f82 [.v (.agg (Ty.cells noTy x))] [] Q = vc_rmay x Q := by kernel_rfl
theorem w_rmay : ∀ args H Q, c_rmay args H Q → Wp Inv Tryz.prog 82 args H Q := by
  intro args H Q h
  unfold c_rmay at h
  split at h
  rotate_left
  · exact h.elim
  rename_i cx
  split at h
  rotate_left
  · exact h.elim
  rename_i x hx
  refine Wp.said (args' := [.v (.agg (Ty.cells noTy x))]) (fun E g => RelVs.cons1 (of_row hx) (fun _ h => h)) ?_
  clear hx
  refine Wp.enter (X := XR146) XR146_ok ⟨[], []⟩ (fn := Tryz.f82) (by kernel_rfl) ?_
  have hv := vc_rmay_eq x Q
  rw [show vFun _ _ _ _ _ _ = _ from hv]
  unfold vc_rmay
  intro _ _ _ _ _ _ _ _ _
  have fin : ∀ c, mayN x = c → Q (.bool c) [] := fun c e => e ▸ h
  obtain ⟨a1, a2, kd, at', dt, tg, xs, op, u⟩ := x
  clear h hv
  unfold mayN badM NoD.setO at fin
  simp only at fin ⊢
  refine br_of (fun h1 => ?_) (fun h1 => fin _ ?_)
  · have h1 := eq_of_beq h1
    subst h1
    refine br_of (fun h2 => fun _ => br_of (fun h3 => br_of (fun h4 => fun _ => fin _ ?_) (fun h4 => fin _ ?_)) (fun h3 => fin _ ?_)) (fun h2 => fin _ ?_)
    all_goals simp_all
    all_goals (cases xs <;> simp)
    all_goals omega
  · have h1 : ¬ kd = 4 := by simpa using h1
    simp [h1]
def c_rfresh : Ct
  | [.v (.c (.p 0 0)), .v (.c (.k (.int .i64 d))), .v (.c (.k (.string s)))], [.cells 87 [.k (.int .i64 q1), .k (.int .i64 q2), .o 1, .o 2, .k (.int .i64 nx)], .sl 36 (.pair (.sl .str) (.pair (.int .i64) (.pair (.int .i64) (.pair (.pair (.int .i64) (.pair (.int .i64) (.pair (.int .i64) .unit))) (.pair (.sl .u8) (.pair .str (.pair (.sl (.pair .str (.pair (.sl .u8) .unit))) (.pair .bool .unit)))))))) L, .sl 119 (.pair (.int .i64) (.pair .str (.pair (.int .i64) .unit))) E], Q => Q (.int ((UpY.mk q1 q2 L E nx).freshE d s)) [.cells 87 [.k (.int .i64 q1), .k (.int .i64 q2), .o 1, .o 2, .k (.int .i64 nx)], .sl 36 noTy L, .sl 119 enTy E]
  | _, _, _ => False
noncomputable def XR147 : Vx := { P := Tryz.prog, ct := (82, c_rmay) :: XR146.ct, ty := tyTab, hold := [] }
theorem XR147_ok : CtOk Inv Tryz.prog XR147.ct := CtOk.cons w_rmay (XR146_ok)
def vc_rfresh : (Int) → (ByteArray) → (Int) → (Int) → (Int) → (List NoD) → (List EnD) → (SV → List HO → Prop) → Prop :=
 fun d s q1 q2 nx L E Q => inK .i64 d → ByteArray.size s ≤ 9223372036854775807 → inK .i64 (UpY.dirE (UpY.mk q1 q2 L E nx) d) → br (UpY.dirE (UpY.mk q1 q2 L E nx) d != 0) (Q (.v (.c (.k (.int .i64 (UpY.dirE (UpY.mk q1 q2 L E nx) d))))) (rfs 
 87 36 119 q1 q2 nx L E)) (inK .i64 (validN s) → br (validN s != 0) (Q (.v (.c (.k (.int .i64 (validN s))))) (rfs 87 36 119 q1 q2 nx L E)) (inK .i64 (idxI (isE d s) E (0 : Int)) → br (decide (idxI (isE d s) E (0 : Int) ≥ (0 : Int))) (Q (.v 
 (.c (.k (.int .i64 21)))) (rfs 87 36 119 q1 q2 nx L E)) (Q (.v (.c (.k (.int .i64 0)))) (rfs 87 36 119 q1 q2 nx L E))))
theorem vc_rfresh_eq (d : Int) (s : ByteArray) (q1 : Int) (q2 : Int) (nx : Int) (L : List NoD) (E : List EnD) (Q : SV → List HO → Prop) : vFun XR147 ⟨[], []⟩ Tryz.f81 [.v (.c (.p 0 0)), .int d, .str s] [.cells 87 [.k (.int .i64 q1), .k (.int .i64 q2), .o 1, .o 2, .k (.int .i64 nx)], .sl 36 noTy L, .sl 119 enTy E] Q = vc_rfresh d s q1 q2 nx L E Q := by kernel_rfl
theorem w_rfresh : ∀ args H Q, c_rfresh args H Q → Wp Inv Tryz.prog 81 args H Q := by
  intro args H Q h
  unfold c_rfresh at h
  split at h
  rotate_left
  · exact h.elim
  rename_i d s q1 q2 nx L E
  refine Wp.enter (X := XR147) XR147_ok ⟨[], []⟩ (fn := Tryz.f81) (by kernel_rfl) ?_
  have hv := vc_rfresh_eq d s q1 q2 nx L E Q
  rw [show vFun _ _ _ _ _ _ = _ from hv]
  unfold vc_rfresh
  intro _ _ _
  unfold UpY.freshE at h
  refine br_of (fun h1 => ?_) (fun h1 => fun _ => br_of (fun h2 => ?_) (fun h2 => fun _ => ?_))
  · rw [if_neg (by simpa using h1)] at h; exact h
  · rw [if_pos (by simpa using h1), if_neg (by simpa using h2)] at h; exact h
  · rw [if_pos (by simpa using h1), if_pos (by simpa using h2)] at h
    rcases inI_cases q1 q2 L E nx d s with ⟨hi, hy⟩ | ⟨y, hy, h0, h1, hx⟩
    · rw [hy] at h
      exact br_of (fun h3 => absurd (of_decide_eq_true h3) (by omega)) (fun _ => h)
    · rw [hy] at h
      exact br_of (fun _ => h) (fun h3 => absurd h0 (of_decide_eq_false h3))
end Go.Proofs

namespace Go.Proofs
open Go Go.Lm Go.RowKit
set_option maxRecDepth 1000000
def c_rtarget : Ct
  | [.v (.c (.p 0 0)), .v (.c (.k (.int .i64 ref)))], [.cells 87 [.k (.int .i64 q1), .k (.int .i64 q2), .o 1, .o 2, .k (.int .i64 nx)], .sl 36 (.pair (.sl .str) (.pair (.int .i64) (.pair (.int .i64) (.pair (.pair (.int .i64) (.pair (.int .i64) (.pair (.int .i64) .unit))) (.pair (.sl .u8) (.pair .str (.pair (.sl (.pair .str (.pair (.sl .u8) .unit))) (.pair .bool .unit)))))))) L, .sl 119 (.pair (.int .i64) (.pair .str (.pair (.int .i64) .unit))) E], Q => Q (.tup [.c (.k (.string ((UpY.mk q1 q2 L E nx).targetD ref))), .c (.k (.int .i64 ((UpY.mk q1 q2 L E nx).targetE ref)))]) [.cells 87 [.k (.int .i64 q1), .k (.int .i64 q2), .o 1, .o 2, .k (.int .i64 nx)], .sl 36 noTy L, .sl 119 enTy E]
  | _, _, _ => False
noncomputable def XR248 : Vx := { P := Tryz.prog, ct := (81, c_rfresh) :: XR147.ct, ty := tyTab, hold := [], ro := [83, 85, 123, 84, 90, 81] }
theorem XR248_ok : CtOk Inv Tryz.prog XR248.ct := CtOk.cons w_rfresh (XR147_ok)
def vc_rtarget : (Int) → (Int) → (Int) → (Int) → (List NoD) → (List EnD) → (SV → List HO → Prop) → Prop :=
 fun ref q1 q2 nx L E Q => inK .i64 ref → vq q1 ∧ vq q2 ∧ vq nx ∧ L = L ∧ E = E ∧ (inK .i64 (idxI (isI ref) L (0 : Int)) → br (decide (idxI (isI ref) L (0 : Int) < (0 : Int))) (Q (.tup [.c (.k (.string (ByteArray.mk #[]))), .c (.k (.int .i64 
 1))]) (rfs 87 36 119 q1 q2 nx L E)) (0 ≤ idxI (isI ref) L (0 : Int) ∧ idxI (isI ref) L (0 : Int) < (L.length : Int) ∧ 0 ≤ idxI (isI ref) L (0 : Int) ∧ idxI (isI ref) L (0 : Int) < (L.length : Int) ∧ (Ty.ok noTy (ixD noTy L (idxI (isI ref) L 
 (0 : Int))) → br ((ixD noTy L (idxI (isI ref) L (0 : Int))).2.2.1 != 3) (Q (.tup [.c (.k (.string (ByteArray.mk #[]))), .c (.k (.int .i64 1))]) (rfs 87 36 119 q1 q2 nx L E)) (0 ≤ idxI (isI ref) L (0 : Int) ∧ idxI (isI ref) L (0 : Int) < 
 (L.length : Int) ∧ 0 ≤ idxI (isI ref) L (0 : Int) ∧ idxI (isI ref) L (0 : Int) < (L.length : Int) ∧ (Ty.ok noTy (ixD noTy L (idxI (isI ref) L (0 : Int))) → Q (.tup [.c (.k (.string (ixD noTy L (idxI (isI ref) L (0 : Int))).2.2.2.2.2.1)), .c 
 (.k (.int .i64 0))]) (rfs 87 36 119 q1 q2 nx L E))))))
theorem vc_rtarget_eq (ref : Int) (q1 : Int) (q2 : Int) (nx : Int) (L : List NoD) (E : List EnD) (Q : SV → List HO → Prop) : vFun XR248 ⟨[], []⟩ Tryz.f98 [.v (.c (.p 0 0)), .int ref] [.cells 87 [.k (.int .i64 q1), .k (.int .i64 q2), .o 1, .o 2, .k (.int .i64 nx)], .sl 36 noTy L, .sl 119 enTy E] Q = vc_rtarget ref q1 q2 nx L E Q := by kernel_rfl
theorem w_rtarget : ∀ args H Q, c_rtarget args H Q → Wp Inv Tryz.prog 98 args H Q := by
  intro args H Q h
  unfold c_rtarget at h
  split at h
  rotate_left
  · exact h.elim
  rename_i ref q1 q2 nx L E
  refine Wp.enter (X := XR248) XR248_ok ⟨[], []⟩ (fn := Tryz.f98) (by kernel_rfl) ?_
  have hv := vc_rtarget_eq ref q1 q2 nx L E Q
  rw [show vFun _ _ _ _ _ _ = _ from hv]
  unfold vc_rtarget
  intro _
  refine ⟨rfl, rfl, rfl, rfl, rfl, fun _ => ?_⟩
  unfold UpY.targetD UpY.targetE at h
  rcases atI_cases q1 q2 L E nx ref with ⟨hi, hy⟩ | ⟨y, hy, h0, h1, hx⟩
  · rw [hy] at h
    exact br_of (fun _ => h) (fun h2 => absurd hi (of_decide_eq_false h2))
  · rw [hy] at h
    simp only at h
    refine br_of (fun h2 => absurd (of_decide_eq_true h2) (by omega)) (fun _ => ⟨h0, h1, h0, h1, fun _ => ?_⟩)
    rw [hx]
    refine br_of (fun h3 => ?_) (fun h3 => ⟨h0, h1, h0, h1, fun _ => ?_⟩)
    · have h3 : ¬ y.2.2.1 = 3 := by simpa using h3
      simp only [h3, if_false] at h; exact h
    · have h3 : y.2.2.1 = 3 := by simpa using h3
      simp only [h3, if_true] at h; exact h
def c_rxattrs : Ct
  | [.v (.c (.p 0 0)), .v (.c (.k (.int .i64 ref)))], [.cells 87 [.k (.int .i64 q1), .k (.int .i64 q2), .o 1, .o 2, .k (.int .i64 nx)], .sl 36 (.pair (.sl .str) (.pair (.int .i64) (.pair (.int .i64) (.pair (.pair (.int .i64) (.pair (.int .i64) (.pair (.int .i64) .unit))) (.pair (.sl .u8) (.pair .str (.pair (.sl (.pair .str (.pair (.sl .u8) .unit))) (.pair .bool .unit)))))))) L, .sl 119 (.pair (.int .i64) (.pair .str (.pair (.int .i64) .unit))) E], Q => ((UpY.mk q1 q2 L E nx).at ref = none → Q (.tup [.c (.k (.slice none 0 0)), .c (.k (.int .i64 1))]) [.cells 87 [.k (.int .i64 q1), .k (.int .i64 q2), .o 1, .o 2, .k (.int .i64 nx)], .sl 36 noTy L, .sl 119 enTy E]) ∧ ∀ y, (UpY.mk q1 q2 L E nx).at ref = some y → Q (.tup [.c (.d xaTy y.2.2.2.2.2.2.1), .c (.k (.int .i64 0))]) [.cells 87 [.k (.int .i64 q1), .k (.int .i64 q2), .o 1, .o 2, .k (.int .i64 nx)], .sl 36 noTy L, .sl 119 enTy E]
  | _, _, _ => False
noncomputable def XR249 : Vx := { P := Tryz.prog, ct := (98, c_rtarget) :: XR248.ct, ty := tyTab, hold := [], ro := [83, 85, 123, 84, 90, 81] }
theorem XR249_ok : CtOk Inv Tryz.prog XR249.ct := CtOk.cons w_rtarget (XR248_ok)
def vc_rxattrs : (Int) → (Int) → (Int) → (Int) → (List NoD) → (List EnD) → (SV → List HO → Prop) → Prop :=
 fun ref q1 q2 nx L E Q => inK .i64 ref → vq q1 ∧ vq q2 ∧ vq nx ∧ L = L ∧ E = E ∧ (inK .i64 (idxI (isI ref) L (0 : Int)) → br (decide (idxI (isI ref) L (0 : Int) < (0 : Int))) (Q (.tup [.c (.k (.slice none 0 0)), .c (.k (.int .i64 1))]) (rfs 
 87 36 119 q1 q2 nx L E)) (0 ≤ idxI (isI ref) L (0 : Int) ∧ idxI (isI ref) L (0 : Int) < (L.length : Int) ∧ 0 ≤ idxI (isI ref) L (0 : Int) ∧ idxI (isI ref) L (0 : Int) < (L.length : Int) ∧ (Ty.ok noTy (ixD noTy L (idxI (isI ref) L (0 : 
 Int))) → Q (SV.tup [S1.c (Cl.d xaTy (ixD noTy L (idxI (isI ref) L (0 : Int))).2.2.2.2.2.2.1), .c (.k (.int .i64 0))]) (rfs 87 36 119 q1 q2 nx L E))))
theorem vc_rxattrs_eq (ref : Int) (q1 : Int) (q2 : Int) (nx : Int) (L : List NoD) (E : List EnD) (Q : SV → List HO → Prop) : vFun XR249 ⟨[], []⟩ Tryz.f99 [.v (.c (.p 0 0)), .int ref] [.cells 87 [.k (.int .i64 q1), .k (.int .i64 q2), .o 1, .o 2, .k (.int .i64 nx)], .sl 36 noTy L, .sl 119 enTy E] Q = vc_rxattrs ref q1 q2 nx L E Q := by kernel_rfl
theorem w_rxattrs : ∀ args H Q, c_rxattrs args H Q → Wp Inv Tryz.prog 99 args H Q := by
  intro args H Q h
  unfold c_rxattrs at h
  split at h
  rotate_left
  · exact h.elim
  rename_i ref q1 q2 nx L E
  refine Wp.enter (X := XR249) XR249_ok ⟨[], []⟩ (fn := Tryz.f99) (by kernel_rfl) ?_
  have hv := vc_rxattrs_eq ref q1 q2 nx L E Q
  rw [show vFun _ _ _ _ _ _ = _ from hv]
  unfold vc_rxattrs
  intro _
  refine ⟨rfl, rfl, rfl, rfl, rfl, fun _ => ?_⟩
  rcases atI_cases q1 q2 L E nx ref with ⟨hi, hy⟩ | ⟨y, hy, h0, h1, hx⟩
  · exact br_of (fun _ => h.1 hy) (fun h2 => absurd hi (of_decide_eq_false h2))
  · refine br_of (fun h2 => absurd (of_decide_eq_true h2) (by omega)) (fun _ => ⟨h0, h1, h0, h1, fun _ => ?_⟩)
    rw [hx]
    exact h.2 y hy
def c_ropaque : Ct
  | [.v (.c (.p 0 0)), .v (.c (.k (.int .i64 ref)))], [.cells 87 [.k (.int .i64 q1), .k (.int .i64 q2), .o 1, .o 2, .k (.int .i64 nx)], .sl 36 (.pair (.sl .str) (.pair (.int .i64) (.pair (.int .i64) (.pair (.pair (.int .i64) (.pair (.int .i64) (.pair (.int .i64) .unit))) (.pair (.sl .u8) (.pair .str (.pair (.sl (.pair .str (.pair (.sl .u8) .unit))) (.pair .bool .unit)))))))) L, .sl 119 (.pair (.int .i64) (.pair .str (.pair (.int .i64) .unit))) E], Q => Q (.bool ((UpY.mk q1 q2 L E nx).opqD ref)) [.cells 87 [.k (.int .i64 q1), .k (.int .i64 q2), .o 1, .o 2, .k (.int .i64 nx)], .sl 36 noTy L, .sl 119 enTy E]
  | _, _, _ => False
noncomputable def XR250 : Vx := { P := Tryz.prog, ct := (99, c_rxattrs) :: XR249.ct, ty := tyTab, hold := [], ro := [83, 85, 123, 84, 90, 81] }
theorem XR250_ok : CtOk Inv Tryz.prog XR250.ct := CtOk.cons w_rxattrs (XR249_ok)
def vc_ropaque : (Int) → (Int) → (Int) → (Int) → (List NoD) → (List EnD) → (SV → List HO → Prop) → Prop :=
 fun ref q1 q2 nx L E Q => inK .i64 ref → vq q1 ∧ vq q2 ∧ vq nx ∧ L = L ∧ E = E ∧ (inK .i64 (idxI (isI ref) L (0 : Int)) → br (decide (idxI (isI ref) L (0 : Int) ≥ (0 : Int))) (0 ≤ idxI (isI ref) L (0 : Int) ∧ idxI (isI ref) L (0 : Int) < 
 (L.length : Int) ∧ 0 ≤ idxI (isI ref) L (0 : Int) ∧ idxI (isI ref) L (0 : Int) < (L.length : Int) ∧ (Ty.ok noTy (ixD noTy L (idxI (isI ref) L (0 : Int))) → Q (.v (.c (.k (.bool (ixD noTy L (idxI (isI ref) L (0 : Int))).2.2.2.2.2.2.2.1)))) 
 (rfs 87 36 119 q1 q2 nx L E))) (Q (.v (.c (.k (.bool false)))) (rfs 87 36 119 q1 q2 nx L E)))
theorem vc_ropaque_eq (ref : Int) (q1 : Int) (q2 : Int) (nx : Int) (L : List NoD) (E : List EnD) (Q : SV → List HO → Prop) : vFun XR250 ⟨[], []⟩ Tryz.f102 [.v (.c (.p 0 0)), .int ref] [.cells 87 [.k (.int .i64 q1), .k (.int .i64 q2), .o 1, .o 2, .k (.int .i64 nx)], .sl 36 noTy L, .sl 119 enTy E] Q = vc_ropaque ref q1 q2 nx L E Q := by kernel_rfl
theorem w_ropaque : ∀ args H Q, c_ropaque args H Q → Wp Inv Tryz.prog 102 args H Q := by
  intro args H Q h
  unfold c_ropaque at h
  split at h
  rotate_left
  · exact h.elim
  rename_i ref q1 q2 nx L E
  refine Wp.enter (X := XR250) XR250_ok ⟨[], []⟩ (fn := Tryz.f102) (by kernel_rfl) ?_
  have hv := vc_ropaque_eq ref q1 q2 nx L E Q
  rw [show vFun _ _ _ _ _ _ = _ from hv]
  unfold vc_ropaque
  intro _
  refine ⟨rfl, rfl, rfl, rfl, rfl, fun _ => ?_⟩
  unfold UpY.opqD at h
  rcases atI_cases q1 q2 L E nx ref with ⟨hi, hy⟩ | ⟨y, hy, h0, h1, hx⟩
  · rw [hy] at h
    exact br_of (fun h2 => absurd (of_decide_eq_true h2) (by omega)) (fun _ => h)
  · rw [hy] at h
    exact br_of (fun _ => ⟨h0, h1, h0, h1, fun _ => by rw [hx]; exact h⟩) (fun h2 => absurd h0 (of_decide_eq_false h2))
def c_rlook : Ct
  | [.v (.c (.p 0 0)), .v (.c (.k (.int .i64 ref))), .v (.c (.k (.string s)))], [.cells 87 [.k (.int .i64 q1), .k (.int .i64 q2), .o 1, .o 2, .k (.int .i64 nx)], .sl 36 (.pair (.sl .str) (.pair (.int .i64) (.pair (.int .i64) (.pair (.pair (.int .i64) (.pair (.int .i64) (.pair (.int .i64) .unit))) (.pair (.sl .u8) (.pair .str (.pair (.sl (.pair .str (.pair (.sl .u8) .unit))) (.pair .bool .unit)))))))) L, .sl 119 (.pair (.int .i64) (.pair .str (.pair (.int .i64) .unit))) E], Q => (UpY.mk q1 q2 L E nx).Wf ∧ Q (.tup [.agg (xeTy.cells ((UpY.mk q1 q2 L E nx).lookD ref s)), .c (.k (.int .i64 ((UpY.mk q1 q2 L E nx).lookE ref s)))]) [.cells 87 [.k (.int .i64 q1), .k (.int .i64 q2), .o 1, .o 2, .k (.int .i64 nx)], .sl 36 noTy L, .sl 119 enTy E]
  | _, _, _ => False
noncomputable def XR251 : Vx := { P := Tryz.prog, ct := (102, c_ropaque) :: XR250.ct, ty := tyTab, hold := [], ro := [83, 85, 123, 84, 90, 81] }
theorem XR251_ok : CtOk Inv Tryz.prog XR251.ct := CtOk.cons w_ropaque (XR250_ok)
def vc_rlook : (Int) → (ByteArray) → (Int) → (Int) → (Int) → (List NoD) → (List EnD) → (SV → List HO → Prop) → Prop :=
 fun ref s q1 q2 nx L E Q => inK .i64 ref → ByteArray.size s ≤ 9223372036854775807 → vq q1 ∧ vq q2 ∧ vq nx ∧ L = L ∧ E = E ∧ (inK .i64 (UpY.dirE (UpY.mk q1 q2 L E nx) ref) → br (UpY.dirE (UpY.mk q1 q2 L E nx) ref != 0) (Q (SV.tup [S1.agg [.k 
 (.string (ByteArray.mk #[])), .k (.int .i64 0), .k (.int .i64 0)], .c (.k (.int .i64 (UpY.dirE (UpY.mk q1 q2 L E nx) ref)))]) (rfs 87 36 119 q1 q2 nx L E)) (vq q1 ∧ vq q2 ∧ vq nx ∧ L = L ∧ E = E ∧ (inK .i64 (idxI (isE ref s) E (0 : Int)) → 
 br (decide (idxI (isE ref s) E (0 : Int) < (0 : Int))) (Q (SV.tup [S1.agg [.k (.string (ByteArray.mk #[])), .k (.int .i64 0), .k (.int .i64 0)], .c (.k (.int .i64 20))]) (rfs 87 36 119 q1 q2 nx L E)) (0 ≤ idxI (isE ref s) E (0 : Int) ∧ idxI 
 (isE ref s) E (0 : Int) < (E.length : Int) ∧ 0 ≤ idxI (isE ref s) E (0 : Int) ∧ idxI (isE ref s) E (0 : Int) < (E.length : Int) ∧ (Ty.ok enTy (ixD enTy E (idxI (isE ref s) E (0 : Int))) → 0 ≤ idxI (isE ref s) E (0 : Int) ∧ idxI (isE ref s) 
 E (0 : Int) < (E.length : Int) ∧ 0 ≤ idxI (isE ref s) E (0 : Int) ∧ idxI (isE ref s) E (0 : Int) < (E.length : Int) ∧ (Ty.ok enTy (ixD enTy E (idxI (isE ref s) E (0 : Int))) → vq q1 ∧ vq q2 ∧ vq nx ∧ L = L ∧ E = E ∧ (inK .i64 (idxI (isI 
 (ixD enTy E (idxI (isE ref s) E (0 : Int))).2.2.1) L (0 : Int)) → 0 ≤ idxI (isI (ixD enTy E (idxI (isE ref s) E (0 : Int))).2.2.1) L (0 : Int) ∧ idxI (isI (ixD enTy E (idxI (isE ref s) E (0 : Int))).2.2.1) L (0 : Int) < (L.length : Int) ∧ 0 
 ≤ idxI (isI (ixD enTy E (idxI (isE ref s) E (0 : Int))).2.2.1) L (0 : Int) ∧ idxI (isI (ixD enTy E (idxI (isE ref s) E (0 : Int))).2.2.1) L (0 : Int) < (L.length : Int) ∧ (Ty.ok noTy (ixD noTy L (idxI (isI (ixD enTy E (idxI (isE ref s) E (0 
 : Int))).2.2.1) L (0 : Int))) → Q (SV.tup [S1.agg [.k (.string s), .k (.int .i64 (ixD noTy L (idxI (isI (ixD enTy E (idxI (isE ref s) E (0 : Int))).2.2.1) L (0 : Int))).2.2.1), .k (.int .i64 (ixD enTy E (idxI (isE ref s) E (0 : 
 Int))).2.2.1)], .c (.k (.int .i64 0))]) (rfs 87 36 119 q1 q2 nx L E)))))))))
theorem vc_rlook_eq (ref : Int) (s : ByteArray) (q1 : Int) (q2 : Int) (nx : Int) (L : List NoD) (E : List EnD) (Q : SV → List HO → Prop) : vFun XR251 ⟨[], []⟩ Tryz.f205 [.v (.c (.p 0 0)), .int ref, .str s] [.cells 87 [.k (.int .i64 q1), .k (.int .i64 q2), .o 1, .o 2, .k (.int .i64 nx)], .sl 36 noTy L, .sl 119 enTy E] Q = vc_rlook ref s q1 q2 nx L E Q := by kernel_rfl
theorem w_rlook : ∀ args H Q, c_rlook args H Q → Wp Inv Tryz.prog 205 args H Q := by
  intro args H Q h
  unfold c_rlook at h
  split at h
  rotate_left
  · exact h.elim
  rename_i ref s q1 q2 nx L E
  refine Wp.enter (X := XR251) XR251_ok ⟨[], []⟩ (fn := Tryz.f205) (by kernel_rfl) ?_
  have hv := vc_rlook_eq ref s q1 q2 nx L E Q
  rw [show vFun _ _ _ _ _ _ = _ from hv]
  unfold vc_rlook
  intro _ _
  obtain ⟨hw, h⟩ := h
  unfold UpY.lookD UpY.lookE at h
  refine ⟨rfl, rfl, rfl, rfl, rfl, fun _ => br_of (fun hd => ?_) (fun hd => ⟨rfl, rfl, rfl, rfl, rfl, fun _ => ?_⟩)⟩
  · have hd : ¬ (UpY.mk q1 q2 L E nx).dirE ref = 0 := by simpa using hd
    rw [if_neg hd, if_neg hd] at h; exact h
  · have hd : (UpY.mk q1 q2 L E nx).dirE ref = 0 := by simpa using hd
    rw [if_pos hd, if_pos hd] at h
    rcases inI_cases q1 q2 L E nx ref s with ⟨hi, hy⟩ | ⟨e, hy, h0, h1, hx⟩
    · rw [hy] at h; exact br_of (fun _ => h) (fun h2 => absurd hi (of_decide_eq_false h2))
    · rw [hy] at h
      refine br_of (fun h2 => absurd (of_decide_eq_true h2) (by omega)) (fun _ => ⟨h0, h1, h0, h1, fun _ => ⟨h0, h1, h0, h1, fun _ => ⟨rfl, rfl, rfl, rfl, rfl, fun _ => ?_⟩⟩⟩)
      rw [hx]
      obtain ⟨he, _, _⟩ := ent_mem hy
      obtain ⟨yr, hyr⟩ := at_ref hw he
      rcases atI_cases q1 q2 L E nx e.2.2.1 with ⟨hi, hn⟩ | ⟨y, hn, g0, g1, gx⟩
      · rw [hyr] at hn; cases hn
      · refine ⟨g0, g1, g0, g1, fun _ => ?_⟩
        rw [gx]
        have hk : (UpY.mk q1 q2 L E nx).kindOf e.2.2.1 = y.2.2.1 := by unfold UpY.kindOf; rw [hn]
        simp only [hk] at h; exact h
def c_rread : Ct
  | [.v (.c (.p 0 0)), .v (.c (.k (.int .i64 ref))), .v (.c (.k (.int .i64 off))), .v (.c (.k (.int .i64 k)))], [.cells 87 [.k (.int .i64 q1), .k (.int .i64 q2), .o 1, .o 2, .k (.int .i64 nx)], .sl 36 (.pair (.sl .str) (.pair (.int .i64) (.pair (.int .i64) (.pair (.pair (.int .i64) (.pair (.int .i64) (.pair (.int .i64) .unit))) (.pair (.sl .u8) (.pair .str (.pair (.sl (.pair .str (.pair (.sl .u8) .unit))) (.pair .bool .unit)))))))) L, .sl 119 (.pair (.int .i64) (.pair .str (.pair (.int .i64) .unit))) E], Q => (UpY.mk q1 q2 L E nx).Ok ∧ Q (.tup [.c (.o 3), .c (.k (.int .i64 ((UpY.mk q1 q2 L E nx).readE ref off k)))]) [.cells 87 [.k (.int .i64 q1), .k (.int .i64 q2), .o 1, .o 2, .k (.int .i64 nx)], .sl 36 noTy L, .sl 119 enTy E, .sl 5 .u8 ((UpY.mk q1 q2 L E nx).readD ref off k)]
  | _, _, _ => False
noncomputable def XR252 : Vx := { P := Tryz.prog, ct := (205, c_rlook) :: XR251.ct, ty := tyTab, hold := [], ro := [83, 85, 123, 84, 90, 81] }
theorem XR252_ok : CtOk Inv Tryz.prog XR252.ct := CtOk.cons w_rlook (XR251_ok)
def vc_rread : (Int) → (Int) → (Int) → (Int) → (Int) → (Int) → (List NoD) → (List EnD) → (SV → List HO → Prop) → Prop :=
 fun ref off k q1 q2 nx L E Q => inK .i64 ref → inK .i64 off → inK .i64 k → vq q1 ∧ vq q2 ∧ vq nx ∧ L = L ∧ E = E ∧ (inK .i64 (idxI (isI ref) L (0 : Int)) → br (decide (idxI (isI ref) L (0 : Int) < (0 : Int))) (Q (.tup [.c (.k (.slice none 0 
 0)), .c (.k (.int .i64 1))]) (rfs 87 36 119 q1 q2 nx L E)) (0 ≤ idxI (isI ref) L (0 : Int) ∧ idxI (isI ref) L (0 : Int) < (L.length : Int) ∧ 0 ≤ idxI (isI ref) L (0 : Int) ∧ idxI (isI ref) L (0 : Int) < (L.length : Int) ∧ (Ty.ok noTy (ixD 
 noTy L (idxI (isI ref) L (0 : Int))) → br ((ixD noTy L (idxI (isI ref) L (0 : Int))).2.2.1 == 1) (Q (.tup [.c (.k (.slice none 0 0)), .c (.k (.int .i64 25))]) (rfs 87 36 119 q1 q2 nx L E)) (0 ≤ idxI (isI ref) L (0 : Int) ∧ idxI (isI ref) L 
 (0 : Int) < (L.length : Int) ∧ 0 ≤ idxI (isI ref) L (0 : Int) ∧ idxI (isI ref) L (0 : Int) < (L.length : Int) ∧ (Ty.ok noTy (ixD noTy L (idxI (isI ref) L (0 : Int))) → br ((ixD noTy L (idxI (isI ref) L (0 : Int))).2.2.1 != 2) (Q (.tup [.c 
 (.k (.slice none 0 0)), .c (.k (.int .i64 1))]) (rfs 87 36 119 q1 q2 nx L E)) (br (decide (off < 0)) (Q (.tup [.c (.k (.slice none 0 0)), .c (.k (.int .i64 1))]) (rfs 87 36 119 q1 q2 nx L E)) (br (decide (k < 0)) (Q (.tup [.c (.k (.slice 
 none 0 0)), .c (.k (.int .i64 1))]) (rfs 87 36 119 q1 q2 nx L E)) (0 ≤ idxI (isI ref) L (0 : Int) ∧ idxI (isI ref) L (0 : Int) < (L.length : Int) ∧ 0 ≤ idxI (isI ref) L (0 : Int) ∧ idxI (isI ref) L (0 : Int) < (L.length : Int) ∧ (Ty.ok noTy 
 (ixD noTy L (idxI (isI ref) L (0 : Int))) → List.length (ixD noTy L (idxI (isI ref) L (0 : Int))).2.2.2.2.1 ≤ 9223372036854775807 → br (decide (off ≥ (↑(List.length (ixD noTy L (idxI (isI ref) L (0 : Int))).2.2.2.2.1) : Int))) (Q (.tup [.c 
 (.k (.slice none 0 0)), .c (.k (.int .i64 0))]) (rfs 87 36 119 q1 q2 nx L E)) (List.length (ixD noTy L (idxI (isI ref) L (0 : Int))).2.2.2.2.1 ≤ 9223372036854775807 → inK .i64 ((↑(List.length (ixD noTy L (idxI (isI ref) L (0 : 
 Int))).2.2.2.2.1) : Int) - off) ∧ inK .i64 (off + if true = true then min k ((↑(List.length (ixD noTy L (idxI (isI ref) L (0 : Int))).2.2.2.2.1) : Int) - off) else max k ((↑(List.length (ixD noTy L (idxI (isI ref) L (0 : Int))).2.2.2.2.1) : 
 Int) - off)) ∧ 0 ≤ boundV (some off) 0 ∧ boundV (some off) 0 ≤ boundV (some (off + if true = true then min k ((↑(List.length (ixD noTy L (idxI (isI ref) L (0 : Int))).2.2.2.2.1) : Int) - off) else max k ((↑(List.length (ixD noTy L (idxI 
 (isI ref) L (0 : Int))).2.2.2.2.1) : Int) - off))) (↑(List.length (ixD noTy L (idxI (isI ref) L (0 : Int))).2.2.2.2.1) : Int) ∧ boundV (some (off + if true = true then min k ((↑(List.length (ixD noTy L (idxI (isI ref) L (0 : 
 Int))).2.2.2.2.1) : Int) - off) else max k ((↑(List.length (ixD noTy L (idxI (isI ref) L (0 : Int))).2.2.2.2.1) : Int) - off))) (↑(List.length (ixD noTy L (idxI (isI ref) L (0 : Int))).2.2.2.2.1) : Int) ≤ (↑(List.length (ixD noTy L (idxI 
 (isI ref) L (0 : Int))).2.2.2.2.1) : Int) ∧ (0 + List.length (List.take (Int.toNat (boundV (some (off + if true = true then min k ((↑(List.length (ixD noTy L (idxI (isI ref) L (0 : Int))).2.2.2.2.1) : Int) - off) else max k ((↑(List.length 
 (ixD noTy L (idxI (isI ref) L (0 : Int))).2.2.2.2.1) : Int) - off))) (↑(List.length (ixD noTy L (idxI (isI ref) L (0 : Int))).2.2.2.2.1) : Int)) - Int.toNat (boundV (some off) 0)) (List.drop (Int.toNat (boundV (some off) 0)) (ixD noTy L 
 (idxI (isI ref) L (0 : Int))).2.2.2.2.1))) * 1 ≤ (140737488355328 : Nat) ∧ 0 + List.length (List.take (Int.toNat (boundV (some (off + if true = true then min k ((↑(List.length (ixD noTy L (idxI (isI ref) L (0 : Int))).2.2.2.2.1) : Int) - 
 off) else max k ((↑(List.length (ixD noTy L (idxI (isI ref) L (0 : Int))).2.2.2.2.1) : Int) - off))) (↑(List.length (ixD noTy L (idxI (isI ref) L (0 : Int))).2.2.2.2.1) : Int)) - Int.toNat (boundV (some off) 0)) (List.drop (Int.toNat 
 (boundV (some off) 0)) (ixD noTy L (idxI (isI ref) L (0 : Int))).2.2.2.2.1)) ≤ 9223372036854775807 ∧ Q (SV.tup [S1.c (.o 3), .c (.k (.int .i64 0))]) [.cells 87 [.k (.int .i64 q1), .k (.int .i64 q2), .o 1, .o 2, .k (.int .i64 nx)], .sl 36 
 noTy L, .sl 119 enTy E, .sl 5 Ty.u8 ([] ++ List.take (Int.toNat (boundV (some (off + if true = true then min k ((↑(List.length (ixD noTy L (idxI (isI ref) L (0 : Int))).2.2.2.2.1) : Int) - off) else max k ((↑(List.length (ixD noTy L (idxI 
 (isI ref) L (0 : Int))).2.2.2.2.1) : Int) - off))) (↑(List.length (ixD noTy L (idxI (isI ref) L (0 : Int))).2.2.2.2.1) : Int)) - Int.toNat (boundV (some off) 0)) (List.drop (Int.toNat (boundV (some off) 0)) (ixD noTy L (idxI (isI ref) L (0 
 : Int))).2.2.2.2.1))]))))))))))
theorem vc_rread_eq (ref : Int) (off : Int) (k : Int) (q1 : Int) (q2 : Int) (nx : Int) (L : List NoD) (E : List EnD) (Q : SV → List HO → Prop) : vFun XR252 ⟨[], []⟩ Tryz.f49 [.v (.c (.p 0 0)), .int ref, .int off, .int k] [.cells 87 [.k (.int .i64 q1), .k (.int .i64 q2), .o 1, .o 2, .k (.int .i64 nx)], .sl 36 noTy L, .sl 119 enTy E] Q = vc_rread ref off k q1 q2 nx L E Q := by kernel_rfl
theorem w_rread : ∀ args H Q, c_rread args H Q → Wp Inv Tryz.prog 49 args H Q := by
  intro args H Q h
  unfold c_rread at h
  split at h
  rotate_left
  · exact h.elim
  rename_i ref off k q1 q2 nx L E
  refine Wp.ownNil2 (t := 5) (e := .u8) ?_
  refine Wp.enter (X := XR252) XR252_ok ⟨[], []⟩ (fn := Tryz.f49) (by kernel_rfl) ?_
  refine Eq.mpr (vc_rread_eq ref off k q1 q2 nx L E _) ?_
  unfold vc_rread
  intro _ _ _
  obtain ⟨hp, hq⟩ := h
  have fin : ∀ z l, (UpY.mk q1 q2 L E nx).readE ref off k = z → (UpY.mk q1 q2 L E nx).readD ref off k = l → Q (.tup [.c (.o 3), .c (.k (.int .i64 z))]) [.cells 87 [.k (.int .i64 q1), .k (.int .i64 q2), .o 1, .o 2, .k (.int .i64 nx)], .sl 36 noTy L, .sl 119 enTy E, .sl 5 .u8 l] := fun z l e1 e2 => by
    rw [e1, e2] at hq
    exact hq
  have bad : ∀ z, (UpY.mk q1 q2 L E nx).readE ref off k = z → z ≠ 0 → Q (.tup [.c (.o 3), .c (.k (.int .i64 z))]) [.cells 87 [.k (.int .i64 q1), .k (.int .i64 q2), .o 1, .o 2, .k (.int .i64 nx)], .sl 36 noTy L, .sl 119 enTy E, .sl 5 .u8 []] := fun z e hz => fin z [] e (if_neg (by rw [e]; exact hz))
  refine ⟨rfl, rfl, rfl, rfl, rfl, fun _ => ?_⟩
  rcases atI_cases q1 q2 L E nx ref with ⟨hi, hy⟩ | ⟨y, hy, h0, h1, hx⟩
  · exact br_of (fun _ => .inr ⟨1, rfl, bad 1 (by simp only [UpY.readE, fileE_none hy]; rfl) (by decide)⟩) (fun h2 => absurd hi (of_decide_eq_false h2))
  have hl := (mayN_lens (hp.wf.nm y (at_mem hy).1).2.2).1
  refine br_of (fun h2 => absurd (of_decide_eq_true h2) (by omega)) (fun _ => ⟨h0, h1, h0, h1, fun _ => ?_⟩)
  rw [hx]
  refine br_of (fun k1 => .inr ⟨25, rfl, bad 25 ?_ (by decide)⟩) (fun k1 => ⟨h0, h1, h0, h1, fun _ => br_of (fun k2 => .inr ⟨1, rfl, bad 1 ?_ (by decide)⟩) (fun k2 => br_of (fun h3 => .inr ⟨1, rfl, bad 1 ?_ (by decide)⟩) (fun h3 => br_of (fun h4 => .inr ⟨1, rfl, bad 1 ?_ (by decide)⟩) (fun h4 => ⟨h0, h1, h0, h1, fun _ _ => ?_⟩)))⟩)
  all_goals try replace h3 := of_decide_eq_true h3
  all_goals try replace h3 := of_decide_eq_false h3
  all_goals try replace h4 := of_decide_eq_true h4
  all_goals try replace h4 := of_decide_eq_false h4
  · simp only [UpY.readE, fileE_some hy, eq_of_beq k1]; rfl
  all_goals have k1 : ¬ y.2.2.1 = 1 := by simpa using k1
  · have k2 : ¬ y.2.2.1 = 2 := by simpa using k2
    simp only [UpY.readE, fileE_some hy]; simp [k1, k2]
  all_goals have k2 : y.2.2.1 = 2 := by simpa using k2
  · simp only [UpY.readE, fileE_some hy, k2]; simp [h3]
  · simp only [UpY.readE, fileE_some hy, k2]; simp [h4]
  have e0 : (UpY.mk q1 q2 L E nx).readE ref off k = 0 := by
    have h3' : ¬ off < 0 := h3
    have h4' : ¬ k < 0 := h4
    simp only [UpY.readE, fileE_some hy, k2]; simp [h3', h4']
  refine br_of (fun h5 => .inr ⟨0, rfl, fin 0 [] e0 ?_⟩) (fun h5 => ?_)
  · have h5 : off ≥ (y.2.2.2.2.1.length : Int) := by simpa using h5
    simp only [UpY.readD, e0, if_true, hy, h5]
  · have h5 : ¬ off ≥ (y.2.2.2.2.1.length : Int) := by simpa using h5
    simp only [if_true]
    intro _
    refine ⟨by unfold inK; omega, by unfold inK; omega, ?_, ?_, ?_, ?_, ?_, .inl (fin 0 _ e0 ?_)⟩
    · show (0 : Int) ≤ off; omega
    · show off ≤ off + min k ((y.2.2.2.2.1.length : Int) - off); omega
    · show off + min k ((y.2.2.2.2.1.length : Int) - off) ≤ y.2.2.2.2.1.length; omega
    · have := List.length_take_le ((off + min k ((y.2.2.2.2.1.length : Int) - off)).toNat - off.toNat) (List.drop off.toNat y.2.2.2.2.1)
      show (0 + List.length (List.take ((off + min k ((y.2.2.2.2.1.length : Int) - off)).toNat - off.toNat) (List.drop off.toNat y.2.2.2.2.1))) * 1 ≤ _
      omega
    · have := List.length_take_le ((off + min k ((y.2.2.2.2.1.length : Int) - off)).toNat - off.toNat) (List.drop off.toNat y.2.2.2.2.1)
      show 0 + List.length (List.take ((off + min k ((y.2.2.2.2.1.length : Int) - off)).toNat - off.toNat) (List.drop off.toNat y.2.2.2.2.1)) ≤ _
      omega
    · simp only [UpY.readD, e0, if_true, hy, h5, if_false]
      show _ = [] ++ List.take ((off + min k ((y.2.2.2.2.1.length : Int) - off)).toNat - off.toNat) (List.drop off.toNat y.2.2.2.2.1)
      rw [List.nil_append]
      congr 1
      omega
def c_rstat : Ct
  | [.v (.c (.p 0 0)), .v (.c (.k (.int .i64 ref)))], [.cells 87 [.k (.int .i64 q1), .k (.int .i64 q2), .o 1, .o 2, .k (.int .i64 nx)], .sl 36 (.pair (.sl .str) (.pair (.int .i64) (.pair (.int .i64) (.pair (.pair (.int .i64) (.pair (.int .i64) (.pair (.int .i64) .unit))) (.pair (.sl .u8) (.pair .str (.pair (.sl (.pair .str (.pair (.sl .u8) .unit))) (.pair .bool .unit)))))))) L, .sl 119 (.pair (.int .i64) (.pair .str (.pair (.int .i64) .unit))) E], Q => (UpY.mk q1 q2 L E nx).Ok ∧ Q (.tup [.agg (stTy.cells ((UpY.mk q1 q2 L E nx).statD ref)), .c (.k (.int .i64 ((UpY.mk q1 q2 L E nx).atE ref)))]) [.cells 87 [.k (.int .i64 q1), .k (.int .i64 q2), .o 1, .o 2, .k (.int .i64 nx)], .sl 36 noTy L, .sl 119 enTy E]
  | _, _, _ => False
noncomputable def XR253 : Vx := { P := Tryz.prog, ct := (49, c_rread) :: XR252.ct, ty := tyTab, hold := [], ro := [83, 85, 123, 84, 90, 81] }
theorem XR253_ok : CtOk Inv Tryz.prog XR253.ct := CtOk.cons w_rread (XR252_ok)
def vc_rstat : (Int) → (Int) → (Int) → (Int) → (List NoD) → (List EnD) → (SV → List HO → Prop) → Prop :=
 fun ref q1 q2 nx L E Q => inK .i64 ref → vq q1 ∧ vq q2 ∧ vq nx ∧ L = L ∧ E = E ∧ (inK .i64 (idxI (isI ref) L (0 : Int)) → br (decide (idxI (isI ref) L (0 : Int) < (0 : Int))) (Q (SV.tup [S1.agg [.k (.int .i64 0), .k (.int .i64 0), .k (.int 
 .i64 0), .k (.int .i64 0), .k (.int .i64 0), .k (.int .i64 0)], .c (.k (.int .i64 1))]) (rfs 87 36 119 q1 q2 nx L E)) (0 ≤ idxI (isI ref) L (0 : Int) ∧ idxI (isI ref) L (0 : Int) < (L.length : Int) ∧ 0 ≤ idxI (isI ref) L (0 : Int) ∧ idxI 
 (isI ref) L (0 : Int) < (L.length : Int) ∧ (Ty.ok noTy (ixD noTy L (idxI (isI ref) L (0 : Int))) → List.length (ixD noTy L (idxI (isI ref) L (0 : Int))).2.2.2.2.1 ≤ 9223372036854775807 → inK .i64 ((↑(List.length (ixD noTy L (idxI (isI ref) 
 L (0 : Int))).2.2.2.2.1) : Int) + (↑(ByteArray.size (ixD noTy L (idxI (isI ref) L (0 : Int))).2.2.2.2.2.1) : Int)) ∧ (vq q1 ∧ vq q2 ∧ vq nx ∧ L = L ∧ E = E ∧ (inK .i64 (UpY.links (UpY.mk q1 q2 L E nx) ref) → LoopP (fun i again => 
 List.length E ≤ 9223372036854775807 → br (decide (i.1.1 < (E.length : Int))) (0 ≤ i.1.1 ∧ i.1.1 < (E.length : Int) ∧ 0 ≤ i.1.1 ∧ i.1.1 < (E.length : Int) ∧ (Ty.ok enTy (ixD enTy E i.1.1) → br ((ixD enTy E i.1.1).1 == ref) (inK .i64 
 (i.2.1.2.2.2.2.2.1 + 1) ∧ inK .i64 (i.1.1 + 1) ∧ again ((i.1.1 + 1, ()), (i.2.1.1, i.2.1.2.1, i.2.1.2.2.1, i.2.1.2.2.2.1, i.2.1.2.2.2.2.1, i.2.1.2.2.2.2.2.1 + 1, ()), ())) (inK .i64 (i.1.1 + 1) ∧ again ((i.1.1 + 1, ()), i.2)))) (Q (SV.tup 
 [S1.agg [.k (.int .i64 i.2.1.1), .k (.int .i64 i.2.1.2.1), .k (.int .i64 i.2.1.2.2.1), .k (.int .i64 i.2.1.2.2.2.1), .k (.int .i64 i.2.1.2.2.2.2.1), .k (.int .i64 i.2.1.2.2.2.2.2.1)], .c (.k (.int .i64 0))]) (rfs 87 36 119 q1 q2 nx L E))) 
 (((0 : Int), ()), ((ixD noTy L (idxI (isI ref) L (0 : Int))).2.2.1, (ixD noTy L (idxI (isI ref) L (0 : Int))).2.2.2.1.1, (ixD noTy L (idxI (isI ref) L (0 : Int))).2.2.2.1.2.1, (ixD noTy L (idxI (isI ref) L (0 : Int))).2.2.2.1.2.2.1, 
 UpY.links (UpY.mk q1 q2 L E nx) ref, (↑(List.length (ixD noTy L (idxI (isI ref) L (0 : Int))).2.2.2.2.1) : Int) + (↑(ByteArray.size (ixD noTy L (idxI (isI ref) L (0 : Int))).2.2.2.2.2.1) : Int), ()), ()))) ∧ vq q1 ∧ vq q2 ∧ vq nx ∧ L = L ∧ 
 E = E ∧ (inK .i64 (UpY.links (UpY.mk q1 q2 L E nx) ref) → LoopP (fun i again => List.length E ≤ 9223372036854775807 → br (decide (i.1.1 < (E.length : Int))) (0 ≤ i.1.1 ∧ i.1.1 < (E.length : Int) ∧ 0 ≤ i.1.1 ∧ i.1.1 < (E.length : Int) ∧ 
 (Ty.ok enTy (ixD enTy E i.1.1) → br ((ixD enTy E i.1.1).1 == ref) (inK .i64 (i.2.1.2.2.2.2.2.1 + 1) ∧ inK .i64 (i.1.1 + 1) ∧ again ((i.1.1 + 1, ()), (i.2.1.1, i.2.1.2.1, i.2.1.2.2.1, i.2.1.2.2.2.1, i.2.1.2.2.2.2.1, i.2.1.2.2.2.2.2.1 + 1, 
 ()), ())) (inK .i64 (i.1.1 + 1) ∧ again ((i.1.1 + 1, ()), i.2)))) (Q (SV.tup [S1.agg [.k (.int .i64 i.2.1.1), .k (.int .i64 i.2.1.2.1), .k (.int .i64 i.2.1.2.2.1), .k (.int .i64 i.2.1.2.2.2.1), .k (.int .i64 i.2.1.2.2.2.2.1), .k (.int .i64 
 i.2.1.2.2.2.2.2.1)], .c (.k (.int .i64 0))]) (rfs 87 36 119 q1 q2 nx L E))) (((0 : Int), ()), ((ixD noTy L (idxI (isI ref) L (0 : Int))).2.2.1, (ixD noTy L (idxI (isI ref) L (0 : Int))).2.2.2.1.1, (ixD noTy L (idxI (isI ref) L (0 : 
 Int))).2.2.2.1.2.1, (ixD noTy L (idxI (isI ref) L (0 : Int))).2.2.2.1.2.2.1, UpY.links (UpY.mk q1 q2 L E nx) ref, (↑(List.length (ixD noTy L (idxI (isI ref) L (0 : Int))).2.2.2.2.1) : Int) + (↑(ByteArray.size (ixD noTy L (idxI (isI ref) L 
 (0 : Int))).2.2.2.2.2.1) : Int), ()), ())))))
theorem vc_rstat_eq (ref : Int) (q1 : Int) (q2 : Int) (nx : Int) (L : List NoD) (E : List EnD) (Q : SV → List HO → Prop) : vFun XR253 ⟨[(8, ⟨[(9, .int .i64)], [(5, .cells 75 [.int .i64, .int .i64, .int .i64, .int .i64, .int .i64, .int .i64])]⟩)], []⟩ Tryz.f95 [.v (.c (.p 0 0)), .int ref] [.cells 87 [.k (.int .i64 q1), .k (.int .i64 q2), .o 1, .o 2, .k (.int .i64 nx)], .sl 36 noTy L, .sl 119 enTy E] Q = vc_rstat ref q1 q2 nx L E Q := by kernel_rfl
theorem w_rstat : ∀ args H Q, c_rstat args H Q → Wp Inv Tryz.prog 95 args H Q := by
  intro args H Q h
  unfold c_rstat at h
  split at h
  rotate_left
  · exact h.elim
  rename_i ref q1 q2 nx L E
  refine Wp.enter (X := XR253) XR253_ok ⟨[(8, ⟨[(9, .int .i64)], [(5, .cells 75 [.int .i64, .int .i64, .int .i64, .int .i64, .int .i64, .int .i64])]⟩)], []⟩ (fn := Tryz.f95) (by kernel_rfl) ?_
  have hv := vc_rstat_eq ref q1 q2 nx L E Q
  rw [show vFun _ _ _ _ _ _ = _ from hv]
  unfold vc_rstat
  intro _
  obtain ⟨hp, h⟩ := h
  have hen := hp.en
  refine ⟨rfl, rfl, rfl, rfl, rfl, fun _ => ?_⟩
  unfold UpY.statD UpY.atE at h
  rcases atI_cases q1 q2 L E nx ref with ⟨hi, hy⟩ | ⟨y, hy, h0, h1, hx⟩
  · rw [hy] at h; exact br_of (fun _ => h) (fun h2 => absurd hi (of_decide_eq_false h2))
  rw [hy] at h
  simp only at h
  have hl := mayN_lens (hp.wf.nm y (at_mem hy).1).2.2
  have hcp : E.countP (ofD ref) ≤ E.length := List.countP_le_length
  simp only at hen
  refine br_of (fun h2 => absurd (of_decide_eq_true h2) (by omega)) (fun _ => ⟨h0, h1, h0, h1, fun _ _ => ?_⟩)
  rw [hx]
  refine ⟨by unfold inK; omega, ⟨rfl, rfl, rfl, rfl, rfl, fun _ => ?_⟩, rfl, rfl, rfl, rfl, rfl, fun _ => ?_⟩
  all_goals
    refine LoopP.intro (fun i => 0 ≤ i.1.1 ∧ i.2.1.1 = y.2.2.1 ∧ i.2.1.2.1 = y.2.2.2.1.1 ∧ i.2.1.2.2.1 = y.2.2.2.1.2.1 ∧ i.2.1.2.2.2.1 = y.2.2.2.1.2.2.1 ∧ i.2.1.2.2.2.2.1 = (UpY.mk q1 q2 L E nx).links ref ∧ i.2.1.2.2.2.2.2.1 + ((E.drop i.1.1.toNat).countP (ofD ref) : Int) = (y.2.2.2.2.1.length : Int) + y.2.2.2.2.2.1.size + (E.countP (ofD ref) : Int) ∧ 0 ≤ i.2.1.2.2.2.2.2.1) (fun i => E.length - i.1.1.toNat) ⟨by simp, rfl, rfl, rfl, rfl, rfl, by simp, by simp only; omega⟩ ?_
    rintro ⟨⟨i, _⟩, ⟨a1, a2, a3, a4, a5, n, _⟩, _⟩ ⟨g0, g1, g2, g3, g4, g5, g6, g7⟩
    simp only at g0 g1 g2 g3 g4 g5 g6 g7
    subst g1 g2 g3 g4 g5
    simp only
    intro hl2
    refine br_of (fun hc => ?_) (fun hc => ?_)
    · have hc : i < (E.length : Int) := of_decide_eq_true hc
      rw [ixD_drop (e := enTy) g0 hc, List.countP_cons] at g6
      refine ⟨g0, hc, g0, hc, fun _ => br_of (fun h2 => ?_) (fun h2 => ?_)⟩
      · rw [show ofD ref (ixD enTy E i) = true from h2] at g6
        simp only [if_true] at g6
        exact ⟨by unfold inK; omega, by unfold inK; omega, ⟨by omega, trivial, trivial, trivial, trivial, trivial, by omega, by omega⟩, by omega⟩
      · rw [show ofD ref (ixD enTy E i) = false from h2] at g6
        simp only [Bool.false_eq_true, if_false] at g6
        exact ⟨by unfold inK; omega, ⟨by omega, trivial, trivial, trivial, trivial, trivial, by omega, by omega⟩, by omega⟩
    · have hc : ¬ i < (E.length : Int) := of_decide_eq_false hc
      rw [drop_all hc] at g6
      have e : n = (y.2.2.2.2.1.length : Int) + y.2.2.2.2.2.1.size + (E.countP (ofD ref) : Int) := by rw [← g6]; simp
      rw [e]; exact h
end Go.Proofs

namespace Go.Proofs
open Go Go.Lm Go.RowKit
set_option maxRecDepth 1000000
def c_rwithin : Ct
  | [.v (.c (.p 0 0)), .v (.c (.k (.int .i64 d))), .v (.c (.k (.int .i64 top)))], [.cells 87 [.k (.int .i64 q1), .k (.int .i64 q2), .o 1, .o 2, .k (.int .i64 nx)], .sl 36 (.pair (.sl .str) (.pair (.int .i64) (.pair (.int .i64) (.pair (.pair (.int .i64) (.pair (.int .i64) (.pair (.int .i64) .unit))) (.pair (.sl .u8) (.pair .str (.pair (.sl (.pair .str (.pair (.sl .u8) .unit))) (.pair .bool .unit)))))))) L, .sl 119 (.pair (.int .i64) (.pair .str (.pair (.int .i64) .unit))) E], Q => (UpY.mk q1 q2 L E nx).Wf ∧ (UpY.mk q1 q2 L E nx).dirE d = 0 ∧ Q (.bool ((UpY.mk q1 q2 L E nx).below top d)) [.cells 87 [.k (.int .i64 q1), .k (.int .i64 q2), .o 1, .o 2, .k (.int .i64 nx)], .sl 36 noTy L, .sl 119 enTy E]
  | _, _, _ => False
noncomputable def XR354 : Vx := { P := Tryz.prog, ct := (95, c_rstat) :: XR253.ct, ty := tyTab, hold := [], ro := [83, 85, 123, 84, 90, 81] }
theorem XR354_ok : CtOk Inv Tryz.prog XR354.ct := CtOk.cons w_rstat (XR253_ok)
def vc_rwithin : (Int) → (Int) → (Int) → (Int) → (Int) → (List NoD) → (List EnD) → (SV → List HO → Prop) → Prop :=
 fun d top q1 q2 nx L E Q => inK .i64 d → inK .i64 top → LoopP (fun i again => br (i.1.1 != top) (LoopP (fun i_1 again_1 => List.length E ≤ 9223372036854775807 → br (decide (i_1.1.2.1 < (E.length : Int))) (0 ≤ i_1.1.2.1 ∧ i_1.1.2.1 < 
 (E.length : Int) ∧ 0 ≤ i_1.1.2.1 ∧ i_1.1.2.1 < (E.length : Int) ∧ (Ty.ok enTy (ixD enTy E i_1.1.2.1) → br ((ixD enTy E i_1.1.2.1).2.2.1 == i.1.1) (0 ≤ i_1.1.2.1 ∧ i_1.1.2.1 < (E.length : Int) ∧ 0 ≤ i_1.1.2.1 ∧ i_1.1.2.1 < (E.length : Int) ∧ 
 (Ty.ok enTy (ixD enTy E i_1.1.2.1) → inK .i64 (i_1.1.2.1 + 1) ∧ again_1 (((ixD enTy E i_1.1.2.1).1, i_1.1.2.1 + 1, ()), ()))) (inK .i64 (i_1.1.2.1 + 1) ∧ again_1 ((i_1.1.1, i_1.1.2.1 + 1, ()), ())))) (br (i_1.1.1 == 0) (Q (.v (.c (.k (.bool 
 false)))) (rfs 87 36 119 q1 q2 nx L E)) (again ((i_1.1.1, ()), ())))) (((0 : Int), (0 : Int), ()), ())) (Q (.v (.c (.k (.bool true)))) (rfs 87 36 119 q1 q2 nx L E))) ((d, ()), ())
theorem vc_rwithin_eq (d : Int) (top : Int) (q1 : Int) (q2 : Int) (nx : Int) (L : List NoD) (E : List EnD) (Q : SV → List HO → Prop) : vFun XR354 ⟨[(2, ⟨[(1, .int .i64)], []⟩), (5, ⟨[(7, .int .i64), (8, .int .i64)], []⟩)], []⟩ Tryz.f89 [.v (.c (.p 0 0)), .int d, .int top] [.cells 87 [.k (.int .i64 q1), .k (.int .i64 q2), .o 1, .o 2, .k (.int .i64 nx)], .sl 36 noTy L, .sl 119 enTy E] Q = vc_rwithin d top q1 q2 nx L E Q := by kernel_rfl
theorem w_rwithin : ∀ args H Q, c_rwithin args H Q → Wp Inv Tryz.prog 89 args H Q := by
  intro args H Q h
  unfold c_rwithin at h
  split at h
  rotate_left
  · exact h.elim
  rename_i d top q1 q2 nx L E
  refine Wp.enter (X := XR354) XR354_ok ⟨[(2, ⟨[(1, .int .i64)], []⟩), (5, ⟨[(7, .int .i64), (8, .int .i64)], []⟩)], []⟩ (fn := Tryz.f89) (by kernel_rfl) ?_
  have hv := vc_rwithin_eq d top q1 q2 nx L E Q
  rw [show vFun _ _ _ _ _ _ = _ from hv]
  unfold vc_rwithin
  intro _ _
  obtain ⟨hw, hd, h⟩ := h
  obtain ⟨dp, hdp⟩ := hw.dep
  refine LoopP.intro (fun i => (UpY.mk q1 q2 L E nx).dirE i.1.1 = 0 ∧ (UpY.mk q1 q2 L E nx).below top i.1.1 = (UpY.mk q1 q2 L E nx).below top d) (fun i => dp i.1.1) ⟨hd, rfl⟩ ?_
  rintro ⟨⟨i, _⟩, _⟩ ⟨h0, h1⟩
  simp only at h0 h1 ⊢
  have fin : ∀ c, (UpY.mk q1 q2 L E nx).below top i = c → Q (.bool c) [.cells 87 [.k (.int .i64 q1), .k (.int .i64 q2), .o 1, .o 2, .k (.int .i64 nx)], .sl 36 noTy L, .sl 119 enTy E] := fun c e => by rw [← e, h1]; exact h
  refine br_of (fun h2 => ?_) (fun h2 => fin _ ?_)
  rotate_left
  · have ht : i = top := by simpa using h2
    subst ht
    exact below_here i
  have ht : i ≠ top := by simpa using h2
  refine LoopP.intro (fun j => 0 ≤ j.1.2.1 ∧ ((j.1.1 = 0 ∧ (E.take j.1.2.1.toNat).any (toR i) = false) ∨ ∃ e ∈ E, e.2.2.1 = i ∧ j.1.1 = e.1)) (fun j => E.length - j.1.2.1.toNat) ⟨by simp, .inl ⟨rfl, by simp⟩⟩ ?_
  rintro ⟨⟨u, k, _⟩, _⟩ ⟨g0, g1⟩
  simp only at g0 g1 ⊢
  intro hl
  refine br_of (fun hc => ?_) (fun hc => ?_)
  · have hc : k < (E.length : Int) := of_decide_eq_true hc
    refine ⟨g0, hc, g0, hc, fun _ => br_of (fun h3 => ⟨g0, hc, g0, hc, fun _ => ⟨by unfold inK; omega, ⟨by omega, .inr ⟨_, ixD_mem (e := enTy) g0 hc, eq_of_beq h3, rfl⟩⟩, by omega⟩⟩) (fun h3 => ⟨by unfold inK; omega, ⟨by omega, ?_⟩, by omega⟩)⟩
    rcases g1 with ⟨a, b⟩ | g1
    · refine .inl ⟨a, ?_⟩
      rw [ixD_take (e := enTy) g0 hc, List.any_append, b]
      simp only [List.any_cons, List.any_nil, Bool.or_false, Bool.false_or]
      exact h3
    · exact .inr g1
  · have hc : ¬ k < (E.length : Int) := of_decide_eq_false hc
    rw [take_allI hc] at g1
    rcases g1 with ⟨a, b⟩ | ⟨e, he, hei, hu⟩
    · subst a
      refine br_of (fun _ => fin false ?_) (fun h3 => absurd h3 (by decide))
      by_cases hi : i = 1
      · subst hi; exact below_root (Ne.symm ht)
      · obtain ⟨y, hy, _⟩ := dirE_zero.1 h0
        have := hw.has y (at_mem hy).1 (by rw [(at_mem hy).2]; exact hi)
        rw [(at_mem hy).2] at this
        rw [b] at this; cases this
    · subst hu
      have hi : i ≠ 1 := by rw [← hei]; exact (hw.ref e he).1
      obtain ⟨yd, hyd, _⟩ := at_dir hw he
      have hlo := hw.lo yd (at_mem hyd).1
      rw [(at_mem hyd).2] at hlo
      refine br_of (fun h3 => by have h4 := eq_of_beq h3; exfalso; rw [h4] at hlo; exact absurd hlo.1 (by decide)) (fun _ => ⟨⟨(hw.dir e he).1, ?_⟩, ?_⟩)
      · obtain ⟨e', he', hei', hup⟩ := upOf_some (Y := (UpY.mk q1 q2 L E nx)) (List.any_eq_true.2 ⟨e, he, by unfold toR; rw [hei]; exact beq_self_eq_true i⟩)
        have : e' = e := cnt_one (hw.one e he (by rw [hei]; exact h0)) he' he (by unfold toR; rw [hei', hei]; exact beq_self_eq_true i) (by unfold toR; exact beq_self_eq_true _)
        rw [← h1, below_up ht hi, hup, this]
      · have := hdp e he (by rw [hei]; exact h0)
        rw [hei] at this; exact this
def c_rused : Ct
  | [.v (.c (.p 0 0))], [.cells 87 [.k (.int .i64 q1), .k (.int .i64 q2), .o 1, .o 2, .k (.int .i64 nx)], .sl 36 (.pair (.sl .str) (.pair (.int .i64) (.pair (.int .i64) (.pair (.pair (.int .i64) (.pair (.int .i64) (.pair (.int .i64) .unit))) (.pair (.sl .u8) (.pair .str (.pair (.sl (.pair .str (.pair (.sl .u8) .unit))) (.pair .bool .unit)))))))) L, .sl 119 (.pair (.int .i64) (.pair .str (.pair (.int .i64) .unit))) E], Q => (UpY.mk q1 q2 L E nx).Ok ∧ Q (.v (.agg [.k (.int .i64 (L.length : Int)), .k (.int .i64 (UpY.mk q1 q2 L E nx).usedB)])) [.cells 87 [.k (.int .i64 q1), .k (.int .i64 q2), .o 1, .o 2, .k (.int .i64 nx)], .sl 36 noTy L, .sl 119 enTy E]
  | _, _, _ => False
noncomputable def XR355 : Vx := { P := Tryz.prog, ct := (89, c_rwithin) :: XR354.ct, ty := tyTab, hold := [], ro := [83, 85, 123, 84, 90, 81] }
theorem XR355_ok : CtOk Inv Tryz.prog XR355.ct := CtOk.cons w_rwithin (XR354_ok)
def vc_rused : (Int) → (Int) → (Int) → (List NoD) → (List EnD) → (SV → List HO → Prop) → Prop :=
 fun q1 q2 nx L E Q => List.length L ≤ 9223372036854775807 → LoopP (fun i again => List.length L ≤ 9223372036854775807 → br (decide (i.1.1 < (L.length : Int))) (0 ≤ i.1.1 ∧ i.1.1 < (L.length : Int) ∧ 0 ≤ i.1.1 ∧ i.1.1 < (L.length : Int) ∧ 
 (Ty.ok noTy (ixD noTy L i.1.1) → inK .i64 (i.2.1.2.1 + 64) ∧ (List.length (ixD noTy L i.1.1).2.2.2.2.1 ≤ 9223372036854775807 → inK .i64 (i.2.1.2.1 + 64 + (↑(List.length (ixD noTy L i.1.1).2.2.2.2.1) : Int)) ∧ inK .i64 (i.2.1.2.1 + 64 + 
 (↑(List.length (ixD noTy L i.1.1).2.2.2.2.1) : Int) + (↑(ByteArray.size (ixD noTy L i.1.1).2.2.2.2.2.1) : Int)) ∧ LoopP (fun i_1 again_1 => List.length (ixD noTy L i.1.1).2.2.2.2.2.2.1 ≤ 9223372036854775807 → br (decide (i_1.1.1 < 
 (↑(List.length (ixD noTy L i.1.1).2.2.2.2.2.2.1) : Int))) (0 ≤ i_1.1.1 ∧ i_1.1.1 < (↑(List.length (ixD noTy L i.1.1).2.2.2.2.2.2.1) : Int) ∧ (Ty.ok xaTy (ixD xaTy (ixD noTy L i.1.1).2.2.2.2.2.2.1 i_1.1.1) → inK .i64 (i_1.2.1.2.1 + 
 (↑(ByteArray.size (ixD xaTy (ixD noTy L i.1.1).2.2.2.2.2.2.1 i_1.1.1).1) : Int)) ∧ 0 ≤ i_1.1.1 ∧ i_1.1.1 < (↑(List.length (ixD noTy L i.1.1).2.2.2.2.2.2.1) : Int) ∧ (Ty.ok xaTy (ixD xaTy (ixD noTy L i.1.1).2.2.2.2.2.2.1 i_1.1.1) → 
 List.length (ixD xaTy (ixD noTy L i.1.1).2.2.2.2.2.2.1 i_1.1.1).2.1 ≤ 9223372036854775807 → inK .i64 (i_1.2.1.2.1 + (↑(ByteArray.size (ixD xaTy (ixD noTy L i.1.1).2.2.2.2.2.2.1 i_1.1.1).1) : Int) + (↑(List.length (ixD xaTy (ixD noTy L 
 i.1.1).2.2.2.2.2.2.1 i_1.1.1).2.1) : Int)) ∧ inK .i64 (i_1.1.1 + 1) ∧ again_1 ((i_1.1.1 + 1, ()), (i_1.2.1.1, i_1.2.1.2.1 + (↑(ByteArray.size (ixD xaTy (ixD noTy L i.1.1).2.2.2.2.2.2.1 i_1.1.1).1) : Int) + (↑(List.length (ixD xaTy (ixD noTy 
 L i.1.1).2.2.2.2.2.2.1 i_1.1.1).2.1) : Int), ()), ())))) (inK .i64 (i.1.1 + 1) ∧ again ((i.1.1 + 1, ()), i_1.2))) (((0 : Int), ()), (i.2.1.1, i.2.1.2.1 + 64 + (↑(List.length (ixD noTy L i.1.1).2.2.2.2.1) : Int) + (↑(ByteArray.size (ixD noTy 
 L i.1.1).2.2.2.2.2.1) : Int), ()), ())))) (LoopP (fun i again => List.length E ≤ 9223372036854775807 → br (decide (i.1.1 < (E.length : Int))) (0 ≤ i.1.1 ∧ i.1.1 < (E.length : Int) ∧ 0 ≤ i.1.1 ∧ i.1.1 < (E.length : Int) ∧ (Ty.ok enTy (ixD 
 enTy E i.1.1) → inK .i64 (i.2.1.2.1 + (↑(ByteArray.size (ixD enTy E i.1.1).2.1) : Int)) ∧ inK .i64 (i.1.1 + 1) ∧ again ((i.1.1 + 1, ()), (i.2.1.1, i.2.1.2.1 + (↑(ByteArray.size (ixD enTy E i.1.1).2.1) : Int), ()), ()))) (Q (SV.v (S1.agg [.k 
 (.int .i64 i.2.1.1), .k (.int .i64 i.2.1.2.1)])) (rfs 87 36 119 q1 q2 nx L E))) (((0 : Int), ()), i.2))) (((0 : Int), ()), ((L.length : Int), (0 : Int), ()), ())
theorem vc_rused_eq (q1 : Int) (q2 : Int) (nx : Int) (L : List NoD) (E : List EnD) (Q : SV → List HO → Prop) : vFun XR355 ⟨[(4, ⟨[(4, .int .i64)], [(4, .cells 23 [.int .i64, .int .i64])]⟩), (9, ⟨[(6, .int .i64)], [(4, .cells 23 [.int .i64, .int .i64])]⟩), (13, ⟨[(7, .int .i64)], [(4, .cells 23 [.int .i64, .int .i64])]⟩)], []⟩ Tryz.f52 [.v (.c (.p 0 0))] [.cells 87 [.k (.int .i64 q1), .k (.int .i64 q2), .o 1, .o 2, .k (.int .i64 nx)], .sl 36 noTy L, .sl 119 enTy E] Q = vc_rused q1 q2 nx L E Q := by kernel_rfl
theorem w_rused : ∀ args H Q, c_rused args H Q → Wp Inv Tryz.prog 52 args H Q := by
  intro args H Q h
  unfold c_rused at h
  split at h
  rotate_left
  · exact h.elim
  rename_i q1 q2 nx L E
  refine Wp.enter (X := XR355) XR355_ok ⟨[(4, ⟨[(4, .int .i64)], [(4, .cells 23 [.int .i64, .int .i64])]⟩), (9, ⟨[(6, .int .i64)], [(4, .cells 23 [.int .i64, .int .i64])]⟩), (13, ⟨[(7, .int .i64)], [(4, .cells 23 [.int .i64, .int .i64])]⟩)], []⟩ (fn := Tryz.f52) (by kernel_rfl) ?_
  have hv := vc_rused_eq q1 q2 nx L E Q
  rw [show vFun _ _ _ _ _ _ = _ from hv]
  unfold vc_rused
  obtain ⟨hp, h⟩ := h
  have hB := (usedB_le hp).2
  have hU : (UpY.mk q1 q2 L E nx).usedB = fs UpY.costN L + fs (fun e : EnD => (e.2.1.size : Int)) E := by unfold UpY.usedB; rw [fs_sum, fs_sum]
  have cN : ∀ n : NoD, UpY.costN n = 64 + n.2.2.2.2.1.length + n.2.2.2.2.2.1.size + fs szX n.2.2.2.2.2.2.1 := fun n => by unfold UpY.costN UpY.costX; rw [fs_sum]; rfl
  have nnL : ∀ l : List NoD, 0 ≤ fs UpY.costN l := fun l => fs_nn fun n _ => by have := fs_szX_nn n.2.2.2.2.2.2.1; rw [cN]; omega
  have nnE : ∀ l : List EnD, 0 ≤ fs (fun e : EnD => (e.2.1.size : Int)) l := fun l => fs_nn fun e _ => by omega
  have hE0 := nnE E
  rw [hU] at hB h
  intro _
  refine LoopP.intro (fun i => 0 ≤ i.1.1 ∧ i.2.1.1 = L.length ∧ i.2.1.2.1 + fs UpY.costN (L.drop i.1.1.toNat) = fs UpY.costN L ∧ 0 ≤ i.2.1.2.1) (fun i => L.length - i.1.1.toNat) ⟨by simp, rfl, by simp, by simp⟩ ?_
  rintro ⟨⟨i, _⟩, ⟨k, b, _⟩, _⟩ ⟨g0, g1, g2, g3⟩
  simp only at g0 g1 g2 g3
  subst g1
  simp only
  intro hl
  refine br_of (fun hc => ?_) (fun hc => ?_)
  · have hc : i < (L.length : Int) := of_decide_eq_true hc
    rw [ixD_drop (e := noTy) g0 hc, fs_cons, cN] at g2
    have r0 := nnL (L.drop (i + 1).toNat)
    generalize ixD noTy L i = y at g2 ⊢
    have x0 := fs_szX_nn y.2.2.2.2.2.2.1
    refine ⟨g0, hc, g0, hc, fun _ => ⟨by unfold inK; omega, fun _ => ⟨by unfold inK; omega, by unfold inK; omega, ?_⟩⟩⟩
    refine LoopP.intro (fun j => 0 ≤ j.1.1 ∧ j.2.1.1 = L.length ∧ j.2.1.2.1 + fs szX (y.2.2.2.2.2.2.1.drop j.1.1.toNat) = b + 64 + y.2.2.2.2.1.length + y.2.2.2.2.2.1.size + fs szX y.2.2.2.2.2.2.1 ∧ 0 ≤ j.2.1.2.1) (fun j => y.2.2.2.2.2.2.1.length - j.1.1.toNat) ⟨by simp, rfl, by simp, by simp only; omega⟩ ?_
    rintro ⟨⟨q, _⟩, ⟨k2, c, _⟩, _⟩ ⟨p0, p1, p2, p3⟩
    simp only at p0 p1 p2 p3
    subst p1
    simp only
    intro hl2
    refine br_of (fun hc2 => ?_) (fun hc2 => ?_)
    · have hc2 : q < (y.2.2.2.2.2.2.1.length : Int) := of_decide_eq_true hc2
      rw [ixD_drop (e := xaTy) p0 hc2, fs_cons] at p2
      have r1 := fs_szX_nn (y.2.2.2.2.2.2.1.drop (q + 1).toNat)
      have r2 : szX (ixD xaTy y.2.2.2.2.2.2.1 q) = ((ixD xaTy y.2.2.2.2.2.2.1 q).1.size : Int) + (ixD xaTy y.2.2.2.2.2.2.1 q).2.1.length := rfl
      exact ⟨p0, hc2, fun _ => ⟨by unfold inK; omega, p0, hc2, fun _ _ => ⟨by unfold inK; omega, by unfold inK; omega, ⟨by omega, trivial, by omega, by omega⟩, by omega⟩⟩⟩
    · have hc2 : ¬ q < (y.2.2.2.2.2.2.1.length : Int) := of_decide_eq_false hc2
      rw [drop_all hc2] at p2
      have p2 : c = b + 64 + y.2.2.2.2.1.length + y.2.2.2.2.2.1.size + fs szX y.2.2.2.2.2.2.1 := by rw [← p2]; show c = c + 0; omega
      exact ⟨by unfold inK; omega, ⟨by omega, trivial, by omega, by omega⟩, by omega⟩
  · have hc : ¬ i < (L.length : Int) := of_decide_eq_false hc
    rw [drop_all hc] at g2
    have g2 : b = fs UpY.costN L := by rw [← g2]; show b = b + 0; omega
    refine LoopP.intro (fun j => 0 ≤ j.1.1 ∧ j.2.1.1 = L.length ∧ j.2.1.2.1 + fs (fun e : EnD => (e.2.1.size : Int)) (E.drop j.1.1.toNat) = b + fs (fun e : EnD => (e.2.1.size : Int)) E ∧ 0 ≤ j.2.1.2.1) (fun j => E.length - j.1.1.toNat) ⟨by simp, rfl, by simp, by simp only; omega⟩ ?_
    rintro ⟨⟨q, _⟩, ⟨k2, c, _⟩, _⟩ ⟨p0, p1, p2, p3⟩
    simp only at p0 p1 p2 p3
    subst p1
    simp only
    intro hl2
    refine br_of (fun hc2 => ?_) (fun hc2 => ?_)
    · have hc2 : q < (E.length : Int) := of_decide_eq_true hc2
      rw [ixD_drop (e := enTy) p0 hc2, fs_cons] at p2
      have r1 := nnE (E.drop (q + 1).toNat)
      exact ⟨p0, hc2, p0, hc2, fun _ => ⟨by unfold inK; omega, by unfold inK; omega, ⟨by omega, trivial, by omega, by omega⟩, by omega⟩⟩
    · have hc2 : ¬ q < (E.length : Int) := of_decide_eq_false hc2
      rw [drop_all hc2] at p2
      have p2 : c = fs UpY.costN L + fs (fun e : EnD => (e.2.1.size : Int)) E := by rw [← g2, ← p2]; show c = c + 0; omega
      rw [p2]; exact h
def c_rover : Ct
  | [.v (.c (.p 0 0))], [.cells 87 [.k (.int .i64 q1), .k (.int .i64 q2), .o 1, .o 2, .k (.int .i64 nx)], .sl 36 (.pair (.sl .str) (.pair (.int .i64) (.pair (.int .i64) (.pair (.pair (.int .i64) (.pair (.int .i64) (.pair (.int .i64) .unit))) (.pair (.sl .u8) (.pair .str (.pair (.sl (.pair .str (.pair (.sl .u8) .unit))) (.pair .bool .unit)))))))) L, .sl 119 (.pair (.int .i64) (.pair .str (.pair (.int .i64) .unit))) E], Q => (UpY.mk q1 q2 L E nx).Ok ∧ Q (.bool (UpY.mk q1 q2 L E nx).over) [.cells 87 [.k (.int .i64 q1), .k (.int .i64 q2), .o 1, .o 2, .k (.int .i64 nx)], .sl 36 noTy L, .sl 119 enTy E]
  | _, _, _ => False
noncomputable def XR356 : Vx := { P := Tryz.prog, ct := (52, c_rused) :: XR355.ct, ty := tyTab, hold := [], ro := [83, 85, 123, 84, 90, 81] }
theorem XR356_ok : CtOk Inv Tryz.prog XR356.ct := CtOk.cons w_rused (XR355_ok)
def vc_rover : (Int) → (Int) → (Int) → (List NoD) → (List EnD) → (SV → List HO → Prop) → Prop :=
 fun q1 q2 nx L E Q => UpY.Ok (UpY.mk q1 q2 L E nx) ∧ (inK .i64 (L.length : Int) → inK .i64 (UpY.usedB (UpY.mk q1 q2 L E nx)) → br (decide ((L.length : Int) > q1)) (Q (.v (.c (.k (.bool true)))) (rfs 87 36 119 q1 q2 nx L E)) (Q (.v (.c (.k 
 (.bool (decide (UpY.usedB (UpY.mk q1 q2 L E nx) > q2)))))) (rfs 87 36 119 q1 q2 nx L E)))
theorem vc_rover_eq (q1 : Int) (q2 : Int) (nx : Int) (L : List NoD) (E : List EnD) (Q : SV → List HO → Prop) : vFun XR356 ⟨[], []⟩ Tryz.f53 [.v (.c (.p 0 0))] [.cells 87 [.k (.int .i64 q1), .k (.int .i64 q2), .o 1, .o 2, .k (.int .i64 nx)], .sl 36 noTy L, .sl 119 enTy E] Q = vc_rover q1 q2 nx L E Q := by kernel_rfl
theorem w_rover : ∀ args H Q, c_rover args H Q → Wp Inv Tryz.prog 53 args H Q := by
  intro args H Q h
  unfold c_rover at h
  split at h
  rotate_left
  · exact h.elim
  rename_i q1 q2 nx L E
  refine Wp.enter (X := XR356) XR356_ok ⟨[], []⟩ (fn := Tryz.f53) (by kernel_rfl) ?_
  have hv := vc_rover_eq q1 q2 nx L E Q
  rw [show vFun _ _ _ _ _ _ = _ from hv]
  unfold vc_rover
  obtain ⟨hp, h⟩ := h
  refine ⟨hp, ?_⟩
  unfold UpY.over at h
  repeat' (first | refine br_of (fun h1 => ?_) (fun h1 => ?_) | intro _)
  all_goals (simp only [h1, Bool.true_or, Bool.false_or] at h; exact h)
end Go.Proofs

namespace Go.Lm
open Go Go.RowKit
section
variable {Y : UpY}
def goodN (n : NoD) : Prop := n.1 = [] ∧ ((n.2.2.1 = 1 ∨ n.2.2.2.2.2.2.2.1 = false) ∧ mayN n = true)
theorem dirE_setN {r : Int} {f : NoD → NoD} (hf : ∀ n, (f n).2.1 = n.2.1) (hk : ∀ n, (f n).2.2.1 = n.2.2.1) (x : Int) : ({ Y with L := setN Y.L r f } : UpY).dirE x = Y.dirE x := by
  unfold UpY.dirE
  rw [at_setN hf]
  cases Y.at x with
  | none => rfl
  | some n =>
    simp only [Option.map_some]
    cases isI r n <;> simp [hk]
theorem atE_setN {r : Int} {f : NoD → NoD} (hf : ∀ n, (f n).2.1 = n.2.1) (x : Int) : ({ Y with L := setN Y.L r f } : UpY).atE x = Y.atE x := by
  unfold UpY.atE
  rw [at_setN hf]
  cases Y.at x <;> rfl
theorem setN_mem {r : Int} {f : NoD → NoD} {L : List NoD} {n : NoD} (h : n ∈ setN L r f) : ∃ n0 ∈ L, (n0.2.1 = r ∧ n = f n0) ∨ n = n0 := by
  unfold setN at h
  obtain ⟨n0, h0, rfl⟩ := List.mem_map.1 h
  refine ⟨n0, h0, ?_⟩
  cases q : isI r n0 with
  | true => exact .inl ⟨by simpa [isI] using q, rfl⟩
  | false => exact .inr rfl
theorem UpY.Wf.setN (w : Y.Wf) {r : Int} {f : NoD → NoD} (hf : ∀ n, (f n).2.1 = n.2.1) (hk : ∀ n, (f n).2.2.1 = n.2.2.1) (hg : ∀ n ∈ Y.L, n.2.1 = r → goodN (f n)) : ({ Y with L := Lm.setN Y.L r f } : UpY).Wf where
  nd := by
    show ((Lm.setN Y.L r f).map (·.2.1)).Nodup
    rw [setN_inos hf]; exact w.nd
  lo := fun n hn => by
    obtain ⟨n0, h0, ⟨_, rfl⟩ | rfl⟩ := setN_mem hn
    · rw [hf]; exact w.lo n0 h0
    · exact w.lo n h0
  root := by rw [dirE_setN hf hk]; exact w.root
  nm := fun n hn => by
    obtain ⟨n0, h0, ⟨h1, rfl⟩ | rfl⟩ := setN_mem hn
    · exact hg n0 h0 h1
    · exact w.nm n h0
  ne := w.ne
  dir := fun e he => by rw [dirE_setN hf hk]; exact w.dir e he
  ref := fun e he => by rw [atE_setN hf]; exact w.ref e he
  has := fun n hn h1 => by
    obtain ⟨n0, h0, ⟨_, rfl⟩ | rfl⟩ := setN_mem hn
    · rw [hf] at h1 ⊢; exact w.has n0 h0 h1
    · exact w.has n h0 h1
  one := fun e he h => by
    rw [dirE_setN hf hk] at h; exact w.one e he h
  dep := by
    obtain ⟨d, hd⟩ := w.dep
    exact ⟨d, fun e he h => by rw [dirE_setN hf hk] at h; exact hd e he h⟩
theorem mayN_setA {n : NoD} {a : AtD} (hn : mayN n = true) (hk : n.2.2.1 ≠ 4) (ha : mayA a = true) : mayN (n.setA a) = true := by
  unfold mayN at hn ⊢
  rw [if_neg hk] at hn
  rw [if_neg (show ¬ (n.setA a).2.2.1 = 4 from hk)]
  unfold mayT NoD.setO NoD.setA at *
  simp only at hn ⊢
  have ha : may3 a.1 a.2.1 a.2.2.1 = true := ha
  by_cases h1 : n.2.2.1 = 1
  · simp only [h1, if_true, Bool.and_eq_true] at hn ⊢
    exact ⟨⟨hn.1.1, ha⟩, hn.2⟩
  · by_cases h2 : n.2.2.1 = 2
    · simp only [h2, show ¬ (2 : Int) = 1 by decide, if_true, if_false, Bool.and_eq_true] at hn ⊢
      exact ⟨⟨hn.1.1, ha⟩, hn.2⟩
    · by_cases h3 : n.2.2.1 = 3
      · simp only [h3, show ¬ (3 : Int) = 1 by decide, show ¬ (3 : Int) = 2 by decide, if_true, if_false, Bool.and_eq_true] at hn ⊢
        exact ⟨⟨hn.1.1, ha⟩, hn.2⟩
      · simp only [h1, h2, h3, if_false] at hn
        cases hn
theorem mayN_setX {n : NoD} {x : List XaD} (hn : mayN n = true) (hk : n.2.2.1 ≠ 4) (hx : xattrsB x = true) : mayN (n.setX x) = true := by
  unfold mayN at hn ⊢
  rw [if_neg hk] at hn
  rw [if_neg (show ¬ (n.setX x).2.2.1 = 4 from hk)]
  unfold mayT NoD.setO NoD.setX at *
  simp only at hn ⊢
  by_cases h1 : n.2.2.1 = 1
  · simp only [h1, if_true, Bool.and_eq_true] at hn ⊢
    exact ⟨hn.1, hx⟩
  · by_cases h2 : n.2.2.1 = 2
    · simp only [h2, show ¬ (2 : Int) = 1 by decide, if_true, if_false, Bool.and_eq_true] at hn ⊢
      exact ⟨hn.1, hx⟩
    · by_cases h3 : n.2.2.1 = 3
      · simp only [h3, show ¬ (3 : Int) = 1 by decide, show ¬ (3 : Int) = 2 by decide, if_true, if_false, Bool.and_eq_true] at hn ⊢
        exact ⟨hn.1, hx⟩
      · simp only [h1, h2, h3, if_false] at hn
        cases hn
theorem mayN_setD {n : NoD} {d : List UInt8} (hn : mayN n = true) (hk : n.2.2.1 = 2) (hd : (d.length : Int) ≤ 4096) : mayN (n.setD d) = true := by
  unfold mayN at hn ⊢
  rw [if_neg (by rw [hk]; decide)] at hn
  rw [if_neg (show ¬ (n.setD d).2.2.1 = 4 by show ¬ n.2.2.1 = 4; rw [hk]; decide)]
  unfold mayT NoD.setO NoD.setD at *
  simp only [hk] at hn ⊢
  simp only [show ¬ (2 : Int) = 1 by decide, if_false, if_true, Bool.and_eq_true, decide_eq_true_eq] at hn ⊢
  exact ⟨⟨⟨⟨hd, hn.1.1.1.2⟩, hn.1.1.2⟩, hn.1.2⟩, hn.2⟩
structure UpY.OkN (Y : UpY) (n : Nat) : Prop where
  wf : Y.Wf
  en : Y.E.length ≤ n
  nb : Y.nx ≤ n + 2
theorem UpY.OkN.ok {n : Nat} (h : Y.OkN n) (hn : n ≤ 1000000) : Y.Ok := ⟨h.wf, by have := h.en; omega, by have := h.nb; omega⟩
theorem UpY.OkN.le {n m : Nat} (h : Y.OkN n) (hn : n ≤ m) : Y.OkN m := ⟨h.wf, by have := h.en; omega, by have := h.nb; omega⟩
theorem new_okN (a b : Int) : (UpY.new a b).OkN 0 := ⟨new_wf a b, Nat.le_refl _, by show (2 : Int) ≤ _; omega⟩
theorem UpY.OkN.setN {n : Nat} (h : Y.OkN n) {r : Int} {f : NoD → NoD} (hf : ∀ n, (f n).2.1 = n.2.1) (hk : ∀ n, (f n).2.2.1 = n.2.2.1) (hg : ∀ n ∈ Y.L, n.2.1 = r → goodN (f n)) : ({ Y with L := Lm.setN Y.L r f } : UpY).OkN n := ⟨h.wf.setN hf hk hg, h.en, h.nb⟩
theorem okN_setAttr {n : Nat} (h : Y.OkN n) (r : Int) (a : AtD) : (Y.setAttrY r a).OkN n := by
  unfold UpY.setAttrY
  split
  · rename_i h0
    refine h.setN (fun _ => rfl) (fun _ => rfl) fun y hy hr => ?_
    have hat : Y.at r = some y := by rw [← hr]; exact at_of_mem h.wf hy
    unfold UpY.setAttrE at h0
    rw [hat] at h0
    simp only at h0
    split at h0
    · cases h0
    · rename_i h1
      obtain ⟨g1, g2, g3⟩ := h.wf.nm y hy
      refine ⟨g1, g2, mayN_setA g3 (fun q => h1 (.inl q)) ?_⟩
      cases hm : mayA a with
      | true => rfl
      | false => exact absurd (.inr hm) h1
  · exact h
theorem okN_setXattrs {n : Nat} (h : Y.OkN n) (r : Int) (x : List XaD) : (Y.setXattrsY r x).OkN n := by
  unfold UpY.setXattrsY
  split
  · rename_i h0
    refine h.setN (fun _ => rfl) (fun _ => rfl) fun y hy hr => ?_
    have hat : Y.at r = some y := by rw [← hr]; exact at_of_mem h.wf hy
    unfold UpY.setXattrsE at h0
    rw [hat] at h0
    simp only at h0
    split at h0
    · cases h0
    · rename_i h1
      obtain ⟨g1, g2, g3⟩ := h.wf.nm y hy
      refine ⟨g1, g2, mayN_setX g3 (fun q => h1 (.inl q)) ?_⟩
      cases hm : xattrsB x with
      | true => rfl
      | false => exact absurd (.inr hm) h1
  · exact h
theorem okN_setOpaque {n : Nat} (h : Y.OkN n) (r : Int) (q : Bool) : (Y.setOpaqueY r q).OkN n := by
  unfold UpY.setOpaqueY
  split
  · rename_i h0
    refine h.setN (fun _ => rfl) (fun _ => rfl) fun y hy hr => ?_
    have hat : Y.at r = some y := by rw [← hr]; exact at_of_mem h.wf hy
    obtain ⟨y', hy', hk⟩ := dirE_zero.1 h0
    rw [hat] at hy'
    obtain rfl := Option.some.inj hy'
    obtain ⟨g1, g2, g3⟩ := h.wf.nm y hy
    exact ⟨g1, .inl hk, g3⟩
  · exact h
theorem fileE_zero {r : Int} : Y.fileE r = 0 ↔ ∃ y, Y.at r = some y ∧ y.2.2.1 = 2 := by
  unfold UpY.fileE
  cases Y.at r with
  | none => simp
  | some y =>
    simp only [Option.some.injEq, exists_eq_left']
    split
    · simp_all
    · split <;> simp_all
theorem okN_resize {n : Nat} (h : Y.OkN n) (r k : Int) : (Y.resizeY r k).OkN n := by
  unfold UpY.resizeY
  split
  · rename_i h0
    unfold UpY.resizeE at h0
    split at h0
    · rename_i hf
      obtain ⟨y', hy', hk⟩ := fileE_zero.1 hf
      split at h0
      · cases h0
      · split at h0
        · cases h0
        · refine h.setN (f := fun n => n.setD (sizeL n.2.2.2.2.1 k)) (fun _ => rfl) (fun _ => rfl) fun y hy hr => ?_
          have hat : Y.at r = some y := by rw [← hr]; exact at_of_mem h.wf hy
          rw [hat] at hy'
          obtain rfl := Option.some.inj hy'
          obtain ⟨g1, g2, g3⟩ := h.wf.nm y hy
          exact ⟨g1, g2, mayN_setD g3 hk (by rw [sizeL_len]; omega)⟩
    · rename_i hf; exact absurd h0 hf
  · exact h
theorem writeL_len {d : List UInt8} {off : Int} {b : List UInt8} (h0 : 0 ≤ off) : ((writeL d off b).length : Int) = max (d.length : Int) (off + b.length) := by
  unfold writeL
  rw [copyL_length _ _ _ (by rw [sizeL_len]; omega), sizeL_len]
  omega
theorem okN_write {n : Nat} (h : Y.OkN n) (r off : Int) (b : List UInt8) : (Y.writeY r off b).OkN n := by
  unfold UpY.writeY
  split
  · rename_i h0
    have h0 := h0.1
    unfold UpY.writeE at h0
    split at h0
    · rename_i hf
      obtain ⟨y', hy', hk⟩ := fileE_zero.1 hf
      split at h0
      · cases h0
      · split at h0
        · cases h0
        · refine h.setN (f := fun n => n.setD (writeL n.2.2.2.2.1 off b)) (fun _ => rfl) (fun _ => rfl) fun y hy hr => ?_
          have hat : Y.at r = some y := by rw [← hr]; exact at_of_mem h.wf hy
          rw [hat] at hy'
          obtain rfl := Option.some.inj hy'
          obtain ⟨g1, g2, g3⟩ := h.wf.nm y hy
          have := (mayN_lens g3).1
          exact ⟨g1, g2, mayN_setD g3 hk (by rw [writeL_len (by omega)]; omega)⟩
    · rename_i hf; exact absurd h0 hf
  · exact h
theorem freshE_zero {d : Int} {s : ByteArray} (h : Y.freshE d s = 0) : Y.dirE d = 0 ∧ validN s = 0 ∧ Y.ent d s = none := by
  unfold UpY.freshE at h
  split at h
  · rename_i h1
    split at h
    · rename_i h2
      cases hx : Y.ent d s with
      | none => exact ⟨h1, h2, rfl⟩
      | some e => rw [hx] at h; cases h
    · rename_i h2; exact absurd h h2
  · rename_i h1; exact absurd h h1
theorem ne_app {E : List EnD} (h : (E.map fun e => (e.1, e.2.1)).Nodup) {d : Int} {s : ByteArray} {r : Int} (hn : ∀ e ∈ E, ¬ (e.1 = d ∧ e.2.1 = s)) : ((E ++ [(d, s, r, ())]).map fun e => (e.1, e.2.1)).Nodup := by
  rw [List.map_append]
  refine List.nodup_append.2 ⟨h, by simp, fun a ha b hb => ?_⟩
  have hb : b = (d, s) := by simpa using hb
  subst hb
  obtain ⟨e, he, rfl⟩ := List.mem_map.1 ha
  exact fun q => hn e he ⟨congrArg Prod.fst q, congrArg Prod.snd q⟩
theorem atE_zero {r : Int} : Y.atE r = 0 ↔ ∃ y, Y.at r = some y := by
  unfold UpY.atE
  cases Y.at r <;> simp
theorem UpY.Wf.make (w : Y.Wf) {d : Int} {s : ByteArray} {x : NoD} (hd : Y.dirE d = 0) (hs : validN s = 0) (hn : Y.ent d s = none) (hm : mayN x = true) : ({ Y with L := Y.L ++ [Y.newN x], E := Y.E ++ [(d, s, Y.nx, ())], nx := Y.nx + 1 } : UpY).Wf := by
  have hnx := nx_none w
  have hp := nx_pos w
  have old : ∀ {z y}, Y.at z = some y → ({ Y with L := Y.L ++ [Y.newN x], E := Y.E ++ [(d, s, Y.nx, ())], nx := Y.nx + 1 } : UpY).at z = some y := fun h => at_app_old h _ _
  have dold : ∀ {z}, Y.dirE z = 0 → ({ Y with L := Y.L ++ [Y.newN x], E := Y.E ++ [(d, s, Y.nx, ())], nx := Y.nx + 1 } : UpY).dirE z = 0 := fun h => by
    obtain ⟨y, hy, hk⟩ := dirE_zero.1 h
    exact dirE_zero.2 ⟨y, old hy, hk⟩
  have dback : ∀ {e}, e ∈ Y.E → ({ Y with L := Y.L ++ [Y.newN x], E := Y.E ++ [(d, s, Y.nx, ())], nx := Y.nx + 1 } : UpY).dirE e.2.2.1 = 0 → Y.dirE e.2.2.1 = 0 := fun he h => by
    obtain ⟨y, hy⟩ := at_ref w he
    obtain ⟨y', hy', hk⟩ := dirE_zero.1 h
    rw [old hy] at hy'
    obtain rfl := Option.some.inj hy'
    exact dirE_zero.2 ⟨y, hy, hk⟩
  have noref : ∀ e ∈ Y.E, e.2.2.1 ≠ Y.nx := fun e he q => by
    obtain ⟨y1, h1⟩ := at_ref w he
    rw [q, hnx] at h1; cases h1
  have nodir : ∀ e ∈ Y.E, e.1 ≠ Y.nx := fun e he q => by
    obtain ⟨y1, h1, _⟩ := at_dir w he
    rw [q, hnx] at h1; cases h1
  have hdn : d ≠ Y.nx := fun q => by
    obtain ⟨y, hy, _⟩ := dirE_zero.1 hd
    rw [q, hnx] at hy; cases hy
  refine ⟨?_, ?_, dold w.root, ?_, ne_app w.ne (ent_none.1 hn), ?_, ?_, ?_, ?_, ?_⟩
  · show ((Y.L ++ [Y.newN x]).map (·.2.1)).Nodup
    rw [List.map_append]
    refine List.nodup_append.2 ⟨w.nd, by simp, fun a ha b hb => ?_⟩
    have hb : b = Y.nx := List.mem_singleton.1 hb
    obtain ⟨n, hn, rfl⟩ := List.mem_map.1 ha
    have := (w.lo n hn).2
    omega
  · intro n hn
    show 1 ≤ n.2.1 ∧ n.2.1 < Y.nx + 1
    rcases List.mem_append.1 hn with hn | hn
    · have := w.lo n hn; omega
    · have : n = Y.newN x := by simpa using hn
      subst this
      show 1 ≤ Y.nx ∧ Y.nx < Y.nx + 1
      omega
  · intro n hn
    rcases List.mem_append.1 hn with hn | hn
    · exact w.nm n hn
    · have : n = Y.newN x := by simpa using hn
      subst this
      exact ⟨rfl, .inr rfl, hm⟩
  · intro e he
    rcases List.mem_append.1 he with he | he
    · exact ⟨dold (w.dir e he).1, (w.dir e he).2⟩
    · have : e = (d, s, Y.nx, ()) := by simpa using he
      subst this
      exact ⟨dold hd, hs⟩
  · intro e he
    rcases List.mem_append.1 he with he | he
    · obtain ⟨h1, h2⟩ := w.ref e he
      obtain ⟨y, hy⟩ := atE_zero.1 h2
      exact ⟨h1, atE_zero.2 ⟨y, old hy⟩⟩
    · have : e = (d, s, Y.nx, ()) := by simpa using he
      subst this
      exact ⟨by show Y.nx ≠ 1; omega, atE_zero.2 ⟨_, at_app_new hnx rfl _ _⟩⟩
  · intro n hn h1
    show (Y.E ++ [(d, s, Y.nx, ())]).any (toR n.2.1) = true
    rw [List.any_append]
    rcases List.mem_append.1 hn with hn | hn
    · rw [w.has n hn h1]; rfl
    · have : n = Y.newN x := by simpa using hn
      subst this
      have : toR (Y.newN x).2.1 (d, s, Y.nx, ()) = true := by unfold toR; exact beq_self_eq_true _
      simp [this]
  · intro e he h
    show (Y.E ++ [(d, s, Y.nx, ())]).countP (toR e.2.2.1) = 1
    rw [cnt_app]
    rcases List.mem_append.1 he with he | he
    · rw [if_neg (Ne.symm (noref e he)), w.one e he (dback he h)]
    · have : e = (d, s, Y.nx, ()) := by simpa using he
      subst this
      rw [if_pos rfl, List.countP_eq_zero.2 fun e he => by simpa [toR] using noref e he]
  · obtain ⟨dp, hdp⟩ := w.dep
    refine ⟨fun z => if z = Y.nx then dp d + 1 else dp z, fun e he h => ?_⟩
    rcases List.mem_append.1 he with he | he
    · simp only [if_neg (nodir e he), if_neg (noref e he)]
      exact hdp e he (dback he h)
    · have : e = (d, s, Y.nx, ()) := by simpa using he
      subst this
      simp only [if_neg hdn, if_pos]
      omega
theorem okN_make {n : Nat} (h : Y.OkN n) (d : Int) (s : ByteArray) (x : NoD) : (Y.makeY d s x).OkN (n + 1) := by
  unfold UpY.makeY
  split
  · rename_i h0
    unfold UpY.makeE at h0
    split at h0
    · rename_i hf
      obtain ⟨h1, h2, h3⟩ := freshE_zero hf
      split at h0
      · rename_i hm
        refine ⟨h.wf.make h1 h2 h3 hm, ?_, ?_⟩
        · show (Y.E ++ [_]).length ≤ _
          have := h.en
          simp; omega
        · show Y.nx + 1 ≤ _
          have := h.nb
          omega
      · cases h0
    · rename_i hf; exact absurd h0 hf
  · exact h.le (Nat.le_succ n)
theorem UpY.Wf.link (w : Y.Wf) {d r : Int} {s : ByteArray} {y : NoD} (hd : Y.dirE d = 0) (hs : validN s = 0) (hn : Y.ent d s = none) (hy : Y.at r = some y) (hk : y.2.2.1 ≠ 1) : ({ Y with E := Y.E ++ [(d, s, r, ())] } : UpY).Wf := by
  have hnd : Y.dirE r ≠ 0 := fun q => by
    obtain ⟨y', hy', hk'⟩ := dirE_zero.1 q
    rw [hy] at hy'
    obtain rfl := Option.some.inj hy'
    exact hk hk'
  have hr1 : r ≠ 1 := fun q => hnd (by rw [q]; exact w.root)
  refine ⟨w.nd, w.lo, w.root, w.nm, ne_app w.ne (ent_none.1 hn), fun e he => ?_, fun e he => ?_, fun n hn h1 => ?_, fun e he h => ?_, ?_⟩
  · rcases List.mem_append.1 he with he | he
    · exact w.dir e he
    · have : e = (d, s, r, ()) := by simpa using he
      subst this
      exact ⟨hd, hs⟩
  · rcases List.mem_append.1 he with he | he
    · exact w.ref e he
    · have : e = (d, s, r, ()) := by simpa using he
      subst this
      exact ⟨hr1, atE_zero.2 ⟨y, hy⟩⟩
  · show (Y.E ++ [(d, s, r, ())]).any (toR n.2.1) = true
    rw [List.any_append, w.has n hn h1]; rfl
  · have h : Y.dirE e.2.2.1 = 0 := h
    show (Y.E ++ [(d, s, r, ())]).countP (toR e.2.2.1) = 1
    rcases List.mem_append.1 he with he | he
    · rw [cnt_app, if_neg (fun q => hnd (by rw [q]; exact h)), w.one e he h]
    · have : e = (d, s, r, ()) := by simpa using he
      subst this
      exact absurd h hnd
  · obtain ⟨dp, hdp⟩ := w.dep
    refine ⟨dp, fun e he h => ?_⟩
    have h : Y.dirE e.2.2.1 = 0 := h
    rcases List.mem_append.1 he with he | he
    · exact hdp e he h
    · have : e = (d, s, r, ()) := by simpa using he
      subst this
      exact absurd h hnd
theorem linkE_zero {d r : Int} {s : ByteArray} (h : Y.linkE d s r = 0) : ∃ y, Y.at r = some y ∧ y.2.2.1 ≠ 1 ∧ Y.freshE d s = 0 := by
  unfold UpY.linkE at h
  split at h
  · rename_i y _ h1 _
    split at h
    · rename_i hf
      split at h
      · cases h
      · rename_i hk; exact ⟨y, h1, hk, hf⟩
    · rename_i hf; exact absurd h hf
  · cases h
theorem okN_link {n : Nat} (h : Y.OkN n) (d : Int) (s : ByteArray) (r : Int) : (Y.linkY d s r).OkN (n + 1) := by
  unfold UpY.linkY
  split
  · rename_i h0
    obtain ⟨y, hy, hk, hf⟩ := linkE_zero h0
    obtain ⟨h1, h2, h3⟩ := freshE_zero hf
    refine ⟨h.wf.link h1 h2 h3 hy hk, ?_, ?_⟩
    · show (Y.E ++ [_]).length ≤ _
      have := h.en
      simp; omega
    · show Y.nx ≤ _
      have := h.nb
      omega
  · exact h.le (Nat.le_succ n)
theorem upOf_eq (w : Y.Wf) {e : EnD} (he : e ∈ Y.E) (hd : Y.dirE e.2.2.1 = 0) : Y.upOf e.2.2.1 = e.1 := by
  obtain ⟨e', he', hei, hup⟩ := upOf_some (Y := Y) (d := e.2.2.1) (List.any_eq_true.2 ⟨e, he, by unfold toR; exact beq_self_eq_true _⟩)
  have : e' = e := cnt_one (w.one e he hd) he' he (by unfold toR; rw [hei]; exact beq_self_eq_true _) (by unfold toR; exact beq_self_eq_true _)
  rw [hup, this]
theorem UpY.Wf.move (w : Y.Wf) {d to : Int} {s now : ByteArray} {e : EnD} (he : Y.ent d s = some e) (hto : Y.dirE to = 0) (hs : validN now = 0) (hn : Y.ent to now = none) (hb : Y.below e.2.2.1 to = false) : ({ Y with E := (Y.E.filter fun e => !isE d s e) ++ [(to, now, e.2.2.1, ())] } : UpY).Wf := by
  obtain ⟨he1, he2, he3⟩ := ent_mem he
  have cnt : ∀ z, ((Y.E.filter fun e => !isE d s e) ++ [(to, now, e.2.2.1, ())]).countP (toR z) = Y.E.countP (toR z) := fun z => by
    rw [cnt_app]; exact cnt_del w he z
  have sub : ∀ {e'}, e' ∈ (Y.E.filter fun e => !isE d s e) → e' ∈ Y.E := fun h => (List.mem_filter.1 h).1
  refine ⟨w.nd, w.lo, w.root, w.nm, ne_app ((List.filter_sublist.map _).nodup w.ne) fun e' h' => ent_none.1 hn e' (sub h'), fun e' h' => ?_, fun e' h' => ?_, fun n hn h1 => ?_, fun e' h' h => ?_, ?_⟩
  · rcases List.mem_append.1 h' with h' | h'
    · exact w.dir e' (sub h')
    · have : e' = (to, now, e.2.2.1, ()) := by simpa using h'
      subst this
      exact ⟨hto, hs⟩
  · rcases List.mem_append.1 h' with h' | h'
    · exact w.ref e' (sub h')
    · have : e' = (to, now, e.2.2.1, ()) := by simpa using h'
      subst this
      exact w.ref e he1
  · have h2 := any_cnt.1 (w.has n hn h1)
    rw [← cnt n.2.1] at h2
    exact any_cnt.2 h2
  · have h : Y.dirE e'.2.2.1 = 0 := h
    show ((Y.E.filter fun e => !isE d s e) ++ [(to, now, e.2.2.1, ())]).countP (toR e'.2.2.1) = 1
    rw [cnt]
    rcases List.mem_append.1 h' with h' | h'
    · exact w.one e' (sub h') h
    · have : e' = (to, now, e.2.2.1, ()) := by simpa using h'
      subst this
      exact w.one e he1 h
  · obtain ⟨dp, hdp⟩ := w.dep
    refine ⟨fun z => if Y.below e.2.2.1 z = true then dp z + dp to + 1 else dp z, fun e' h' h => ?_⟩
    have h : Y.dirE e'.2.2.1 = 0 := h
    rcases List.mem_append.1 h' with h' | h'
    · have h1 := hdp e' (sub h') h
      have hne : e'.2.2.1 ≠ e.2.2.1 := fun q => by
        have h3 := w.one e' (sub h') h
        have : e' = e := cnt_one h3 (sub h') he1 (by unfold toR; exact beq_self_eq_true _) (by unfold toR; rw [q]; exact beq_self_eq_true _)
        have h5 := (List.mem_filter.1 h').2
        rw [this] at h5
        unfold isE at h5
        simp [he2, he3] at h5
      have h4 : Y.below e.2.2.1 e'.2.2.1 = Y.below e.2.2.1 e'.1 := by
        rw [below_up hne (w.ref e' (sub h')).1, upOf_eq w (sub h') h]
      simp only [h4]
      split <;> omega
    · have : e' = (to, now, e.2.2.1, ()) := by simpa using h'
      subst this
      simp only [hb, Bool.false_eq_true, if_false, below_here, if_true]
      omega
theorem moveE_zero {d to : Int} {s now : ByteArray} (h : Y.moveE d s to now = 0) : ∃ e, Y.ent d s = some e ∧ Y.freshE to now = 0 ∧ Y.below e.2.2.1 to = false := by
  unfold UpY.moveE at h
  split at h
  · rename_i h1; exact absurd h h1
  · split at h
    · rename_i h1; exact absurd h h1
    · split at h
      · rename_i h1; exact absurd h h1
      · split at h
        · cases h
        · rename_i e he
          split at h
          · rename_i h1; exact absurd h h1
          · rename_i h1
            split at h
            · cases h
            · rename_i h2
              exact ⟨e, he, by simpa using h1, by simpa using h2⟩
theorem okN_move {n : Nat} (h : Y.OkN n) (d : Int) (s : ByteArray) (to : Int) (now : ByteArray) : (Y.moveY d s to now).OkN n := by
  unfold UpY.moveY
  split
  · rename_i h0
    obtain ⟨e, he, hf, hb⟩ := moveE_zero h0
    obtain ⟨h1, h2, h3⟩ := freshE_zero hf
    rw [he]
    refine ⟨h.wf.move he h1 h2 h3 hb, ?_, h.nb⟩
    show ((Y.E.filter fun e => !isE d s e) ++ [_]).length ≤ _
    obtain ⟨E1, E2, g1, g2⟩ := del_split h.wf he
    have := h.en
    rw [g1] at this
    rw [g2]
    simp at this ⊢; omega
  · exact h
theorem at_gone {E' : List EnD} {z : Int} {y : NoD} (h : ({ Y with L := Y.L.filter fun n => isI 1 n || E'.any (toR n.2.1), E := E' } : UpY).at z = some y) (w : Y.Wf) : Y.at z = some y := by
  obtain ⟨h1, h2⟩ := at_mem h
  rw [← h2]
  exact at_of_mem w (List.mem_filter.1 h1).1
theorem goneE_sub {d : Int} {s : ByteArray} {r : Int} {e : EnD} (h : e ∈ Y.goneE d s r) : e ∈ Y.E := by
  unfold UpY.goneE at h
  simp only at h
  split at h
  · exact (List.mem_filter.1 h).1
  · exact (List.mem_filter.1 (List.mem_filter.1 h).1).1
theorem goneE_sl (d : Int) (s : ByteArray) (r : Int) : (Y.goneE d s r).Sublist Y.E := by
  unfold UpY.goneE
  simp only
  split
  · exact List.filter_sublist
  · exact List.filter_sublist.trans List.filter_sublist
theorem UpY.Wf.remove (w : Y.Wf) {d : Int} {s : ByteArray} {e : EnD} (he : Y.ent d s = some e) (hw : Y.whites e.2.2.1 = true) : ({ Y with L := Y.goneL d s e.2.2.1, E := Y.goneE d s e.2.2.1 } : UpY).Wf := by
  obtain ⟨he1, he2, he3⟩ := ent_mem he
  have sub : ∀ {e'}, e' ∈ Y.goneE d s e.2.2.1 → e' ∈ Y.E := goneE_sub
  have keep : ∀ {z y}, Y.at z = some y → (z = 1 ∨ (Y.goneE d s e.2.2.1).any (toR z) = true) → ({ Y with L := Y.goneL d s e.2.2.1, E := Y.goneE d s e.2.2.1 } : UpY).at z = some y := fun h1 h2 => at_less h1 h2
  have back : ∀ {z}, ({ Y with L := Y.goneL d s e.2.2.1, E := Y.goneE d s e.2.2.1 } : UpY).dirE z = 0 → Y.dirE z = 0 := fun h => by
    obtain ⟨y, hy, hk⟩ := dirE_zero.1 h
    exact dirE_zero.2 ⟨y, at_gone hy w, hk⟩
  have toSelf : ∀ {e'}, e' ∈ Y.goneE d s e.2.2.1 → (Y.goneE d s e.2.2.1).any (toR e'.2.2.1) = true := fun h => List.any_eq_true.2 ⟨_, h, by unfold toR; exact beq_self_eq_true _⟩
  -- a directory that still has something in it is still there
  have hdir : ∀ {e'}, e' ∈ Y.goneE d s e.2.2.1 → e'.1 = 1 ∨ (Y.goneE d s e.2.2.1).any (toR e'.1) = true := fun {e'} h' => by
    by_cases h1 : e'.1 = 1
    · exact .inl h1
    right
    obtain ⟨y, hy, hk⟩ := at_dir w (sub h')
    have hh := w.has y (at_mem hy).1 (by rw [(at_mem hy).2]; exact h1)
    rw [(at_mem hy).2] at hh
    obtain ⟨ep, hep, hpr⟩ := List.any_eq_true.1 hh
    have hpr' : ep.2.2.1 = e'.1 := by simpa [toR] using hpr
    have hdp : Y.dirE ep.2.2.1 = 0 := by rw [hpr']; exact dirE_zero.2 ⟨y, hy, hk⟩
    have notX : ofD e.2.2.1 ep = false := by
      cases hq : ofD e.2.2.1 ep with
      | false => rfl
      | true =>
        have := List.all_eq_true.1 hw ep hep
        rw [hq] at this
        have h4 : Y.kindOf ep.2.2.1 = 4 := by simpa using this
        unfold UpY.kindOf at h4
        rw [hpr', hy] at h4
        simp only at h4
        rw [hk] at h4; cases h4
    unfold UpY.goneE at h' ⊢
    simp only at h' ⊢
    by_cases hx : ep = e
    · subst hx
      have c0 := cnt_del w he ep.2.2.1
      rw [if_pos rfl, w.one ep hep hdp] at c0
      have hno : ((Y.E.filter fun e => !isE d s e).any (toR ep.2.2.1)) = false := by
        cases hq : (Y.E.filter fun e => !isE d s e).any (toR ep.2.2.1) with
        | false => rfl
        | true => have := any_cnt.1 hq; omega
      rw [if_neg (by rw [hno]; decide)] at h'
      have := (List.mem_filter.1 h').2
      unfold ofD at this
      rw [hpr'] at this
      simp at this
    · have hin : ep ∈ Y.E.filter fun e => !isE d s e := by
        refine List.mem_filter.2 ⟨hep, ?_⟩
        cases hq : isE d s ep with
        | false => rfl
        | true =>
          obtain ⟨E1, E2, g1, g2⟩ := del_split w he
          have : ep ∈ Y.E.filter fun e => !isE d s e := by
            rw [g2]
            rw [g1] at hep
            rcases List.mem_append.1 hep with h | h
            · exact List.mem_append_left _ h
            · rcases List.mem_cons.1 h with h | h
              · exact absurd h hx
              · exact List.mem_append_right _ h
          have := (List.mem_filter.1 this).2
          rw [hq] at this; exact this
      split
      · exact List.any_eq_true.2 ⟨ep, hin, hpr⟩
      · exact List.any_eq_true.2 ⟨ep, List.mem_filter.2 ⟨hin, by rw [notX]; rfl⟩, hpr⟩
  refine ⟨(List.filter_sublist.map _).nodup w.nd, fun n hn => w.lo n (List.mem_filter.1 hn).1, ?_, fun n hn => w.nm n (List.mem_filter.1 hn).1, ((goneE_sl d s e.2.2.1).map _).nodup w.ne, fun e' h' => ?_, fun e' h' => ?_, fun n hn h1 => ?_, fun e' h' h => ?_, ?_⟩
  · obtain ⟨y, hy, hk⟩ := dirE_zero.1 w.root
    exact dirE_zero.2 ⟨y, keep hy (.inl rfl), hk⟩
  · obtain ⟨y, hy, hk⟩ := at_dir w (sub h')
    exact ⟨dirE_zero.2 ⟨y, keep hy (hdir h'), hk⟩, (w.dir e' (sub h')).2⟩
  · obtain ⟨y, hy⟩ := at_ref w (sub h')
    exact ⟨(w.ref e' (sub h')).1, atE_zero.2 ⟨y, keep hy (.inr (toSelf h'))⟩⟩
  · have h2 := (List.mem_filter.1 hn).2
    have : isI 1 n = false := by simpa [isI] using h1
    rw [this] at h2
    simpa using h2
  · have h1 := w.one e' (sub h') (back h)
    have h2 : (Y.goneE d s e.2.2.1).countP (toR e'.2.2.1) ≤ Y.E.countP (toR e'.2.2.1) := (goneE_sl d s e.2.2.1).countP_le
    have h3 := any_cnt.1 (toSelf h')
    show (Y.goneE d s e.2.2.1).countP (toR e'.2.2.1) = 1
    omega
  · obtain ⟨dp, hdp⟩ := w.dep
    exact ⟨dp, fun e' h' h => hdp e' (sub h') (back h)⟩
theorem removeE_zero {d : Int} {s : ByteArray} (h : Y.removeE d s = 0) : ∃ e, Y.ent d s = some e ∧ Y.dirE d = 0 ∧ Y.whites e.2.2.1 = true := by
  unfold UpY.removeE at h
  split at h
  · rename_i h1
    unfold UpY.lookE at h1
    split at h1
    · rename_i hd
      cases he : Y.ent d s with
      | none => rw [he] at h1; cases h1
      | some e =>
        rw [he] at h
        simp only at h
        split at h
        · rename_i hw; exact ⟨e, rfl, hd, hw⟩
        · cases h
    · rename_i hd; exact absurd h1 hd
  · rename_i h1; exact absurd h h1
theorem okN_remove {n : Nat} (h : Y.OkN n) (d : Int) (s : ByteArray) : (Y.removeY d s).OkN n := by
  unfold UpY.removeY
  split
  · rename_i h0
    obtain ⟨e, he, _, hw⟩ := removeE_zero h0
    rw [he]
    refine ⟨h.wf.remove he hw, ?_, h.nb⟩
    have := (goneE_sl (Y := Y) d s e.2.2.1).length_le
    have := h.en
    show (Y.goneE d s e.2.2.1).length ≤ n
    omega
  · exact h
theorem qs_make (d : Int) (s : ByteArray) (x : NoD) : (Y.makeY d s x).q1 = Y.q1 ∧ (Y.makeY d s x).q2 = Y.q2 := by unfold UpY.makeY; split <;> exact ⟨rfl, rfl⟩
theorem qs_link (d : Int) (s : ByteArray) (r : Int) : (Y.linkY d s r).q1 = Y.q1 ∧ (Y.linkY d s r).q2 = Y.q2 := by unfold UpY.linkY; split <;> exact ⟨rfl, rfl⟩
theorem qs_remove (d : Int) (s : ByteArray) : (Y.removeY d s).q1 = Y.q1 ∧ (Y.removeY d s).q2 = Y.q2 := by
  unfold UpY.removeY
  split
  · split <;> exact ⟨rfl, rfl⟩
  · exact ⟨rfl, rfl⟩
theorem qs_move (d : Int) (s : ByteArray) (to : Int) (now : ByteArray) : (Y.moveY d s to now).q1 = Y.q1 ∧ (Y.moveY d s to now).q2 = Y.q2 := by
  unfold UpY.moveY
  split
  · split <;> exact ⟨rfl, rfl⟩
  · exact ⟨rfl, rfl⟩
theorem qs_write (r off : Int) (b : List UInt8) : (Y.writeY r off b).q1 = Y.q1 ∧ (Y.writeY r off b).q2 = Y.q2 := by unfold UpY.writeY; split <;> exact ⟨rfl, rfl⟩
theorem qs_resize (r k : Int) : (Y.resizeY r k).q1 = Y.q1 ∧ (Y.resizeY r k).q2 = Y.q2 := by unfold UpY.resizeY; split <;> exact ⟨rfl, rfl⟩
theorem qs_setattr (r : Int) (a : AtD) : (Y.setAttrY r a).q1 = Y.q1 ∧ (Y.setAttrY r a).q2 = Y.q2 := by unfold UpY.setAttrY; split <;> exact ⟨rfl, rfl⟩
theorem qs_setx (r : Int) (x : List XaD) : (Y.setXattrsY r x).q1 = Y.q1 ∧ (Y.setXattrsY r x).q2 = Y.q2 := by unfold UpY.setXattrsY; split <;> exact ⟨rfl, rfl⟩
theorem qs_setopq (r : Int) (q : Bool) : (Y.setOpaqueY r q).q1 = Y.q1 ∧ (Y.setOpaqueY r q).q2 = Y.q2 := by unfold UpY.setOpaqueY; split <;> exact ⟨rfl, rfl⟩
end
end Go.Lm

namespace Go.Lm
open Go Go.RowKit
section
variable {α : Type}
theorem idxI_split {p : α → Bool} : ∀ {aa : List α} {y : α} {bs : List α} {k : Int}, (∀ a ∈ aa, p a = false) → p y = true → idxI p (aa ++ y :: bs) k = k + aa.length
  | [], y, bs, k, _, hy => by simp [idxI, hy]
  | a :: aa, y, bs, k, h, hy => by
    show (if p a then k else idxI p (aa ++ y :: bs) (k + 1)) = _
    rw [h a (by simp)]
    simp only [Bool.false_eq_true, if_false]
    rw [idxI_split (fun x hx => h x (by simp [hx])) hy]
    simp only [List.length_cons]; omega
theorem find_split {p : α → Bool} {l : List α} {y : α} (h : l.find? p = some y) : ∃ aa bs, l = aa ++ y :: bs ∧ (∀ a ∈ aa, p a = false) ∧ p y = true ∧ (idxI p l 0).toNat = aa.length := by
  obtain ⟨hp, aa, bs, rfl, ha⟩ := List.find?_eq_some_iff_append.1 h
  have ha' : ∀ a ∈ aa, p a = false := fun a h => by simpa using ha a h
  refine ⟨aa, bs, rfl, ha', hp, ?_⟩
  rw [idxI_split ha' hp]; omega
theorem cut_split {aa bs : List α} {y : α} : (aa ++ y :: bs).take aa.length ++ (aa ++ y :: bs).drop (aa.length + 1) = aa ++ bs := by
  rw [List.take_left' rfl]
  congr 1
  rw [List.drop_append]
  simp
theorem cut_at {l : List α} {i : Nat} (h : i < l.length) : l = l.take i ++ l[i] :: l.drop (i + 1) := by
  rw [← List.drop_eq_getElem_cons h, List.take_append_drop]
end
theorem setI {L : List NoD} (nd : (L.map (·.2.1)).Nodup) {r : Int} {y : NoD} (hy : L.find? (isI r) = some y) (f : NoD → NoD) : L.set (idxI (isI r) L 0).toNat (f y) = setN L r f := by
  obtain ⟨aa, bs, rfl, ha, hp, hi⟩ := find_split hy
  rw [hi, List.set_append_right _ _ (Nat.le_refl _), Nat.sub_self, List.set_cons_zero]
  unfold setN
  rw [List.map_append, List.map_cons, hp]
  have hyr : y.2.1 = r := by simpa [isI] using hp
  rw [List.map_append, List.map_cons] at nd
  have n1 := (List.nodup_cons.1 (List.nodup_append.1 nd).2.1).1
  have e1 : (aa.map fun n => bif isI r n then f n else n) = aa := by
    conv => rhs; rw [← List.map_id aa]
    exact List.map_congr_left fun n hn => by rw [ha n hn]; rfl
  have e2 : (bs.map fun n => bif isI r n then f n else n) = bs := by
    conv => rhs; rw [← List.map_id bs]
    exact List.map_congr_left fun n hn => by
      have : isI r n = false := by
        cases q : isI r n with
        | false => rfl
        | true => exact absurd (List.mem_map.2 ⟨n, hn, by rw [hyr]; simpa [isI] using q⟩) n1
      rw [this]; rfl
  rw [e1, e2]; rfl
theorem cutI {L : List NoD} (nd : (L.map (·.2.1)).Nodup) {r : Int} {y : NoD} (hy : L.find? (isI r) = some y) : L.take (idxI (isI r) L 0).toNat ++ L.drop ((idxI (isI r) L 0).toNat + 1) = L.filter fun n => !isI r n := by
  obtain ⟨aa, bs, rfl, ha, hp, hi⟩ := find_split hy
  rw [hi, cut_split, List.filter_append, List.filter_cons, hp]
  have hyr : y.2.1 = r := by simpa [isI] using hp
  rw [List.map_append, List.map_cons] at nd
  have n1 := (List.nodup_cons.1 (List.nodup_append.1 nd).2.1).1
  simp only [Bool.not_true, Bool.false_eq_true, if_false]
  rw [List.filter_eq_self.2 fun n hn => by rw [ha n hn]; rfl, List.filter_eq_self.2 fun n hn => by
    have : isI r n = false := by
      cases q : isI r n with
      | false => rfl
      | true => exact absurd (List.mem_map.2 ⟨n, hn, by rw [hyr]; simpa [isI] using q⟩) n1
    rw [this]; rfl]
theorem cutE {Y : UpY} (w : Y.Wf) {d : Int} {s : ByteArray} {e : EnD} (he : Y.ent d s = some e) : Y.E.take (idxI (isE d s) Y.E 0).toNat ++ Y.E.drop ((idxI (isE d s) Y.E 0).toNat + 1) = Y.E.filter fun e => !isE d s e := by
  obtain ⟨aa, bs, h1, ha, hp, hi⟩ := find_split (show Y.E.find? (isE d s) = some e from he)
  rw [hi]
  have hn := w.ne
  rw [h1] at hn ⊢
  rw [cut_split, List.filter_append, List.filter_cons, hp]
  rw [List.map_append, List.map_cons] at hn
  have n1 := (List.nodup_cons.1 (List.nodup_append.1 hn).2.1).1
  simp only [Bool.not_true, Bool.false_eq_true, if_false]
  have hpe : e.1 = d ∧ e.2.1 = s := by simpa [isE] using hp
  rw [List.filter_eq_self.2 fun n hn => by rw [ha n hn]; rfl, List.filter_eq_self.2 fun n hn => by
    have : isE d s n = false := by
      cases q : isE d s n with
      | false => rfl
      | true =>
        have q' : n.1 = d ∧ n.2.1 = s := by simpa [isE] using q
        exact absurd (List.mem_map.2 ⟨n, hn, by rw [q'.1, q'.2, hpe.1, hpe.2]⟩) n1
    rw [this]; rfl]
def stays (E : List EnD) (n : NoD) : Bool := isI 1 n || E.any (toR n.2.1)
structure GoneOk (L : List NoD) (E : List EnD) : Prop where
  nd : (L.map (·.2.1)).Nodup
  has : ∀ n ∈ L, n.2.1 ≠ 1 → E.any (toR n.2.1) = true
  ref : ∀ e ∈ E, e.2.2.1 ≠ 1 ∧ ∃ n ∈ L, n.2.1 = e.2.2.1
theorem UpY.Wf.goneOk {Y : UpY} (w : Y.Wf) : GoneOk Y.L Y.E := ⟨w.nd, w.has, fun e he => by
  obtain ⟨y, hy⟩ := at_ref w he
  exact ⟨(w.ref e he).1, y, (at_mem hy).1, (at_mem hy).2⟩⟩
theorem GoneOk.less {L : List NoD} {E E' : List EnD} (h : GoneOk L E) (hE : ∀ e ∈ E', e ∈ E) : GoneOk (L.filter (stays E')) E' := ⟨(List.filter_sublist.map _).nodup h.nd, fun n hn h1 => by
    have := (List.mem_filter.1 hn).2
    unfold stays at this
    have q : isI 1 n = false := by simpa [isI] using h1
    rw [q] at this
    simpa using this, fun e he => by
    obtain ⟨h1, n, h2, h3⟩ := h.ref e (hE e he)
    refine ⟨h1, n, List.mem_filter.2 ⟨h2, ?_⟩, h3⟩
    unfold stays
    rw [Bool.or_eq_true]
    exact .inr (List.any_eq_true.2 ⟨e, he, by unfold toR; rw [h3]; exact beq_self_eq_true _⟩)⟩
theorem GoneOk.full {L : List NoD} {E : List EnD} (h : GoneOk L E) : L.filter (stays E) = L := List.filter_eq_self.2 fun n hn => by
  unfold stays
  by_cases q : n.2.1 = 1
  · simp [isI, q]
  · rw [h.has n hn q]; simp
theorem stays_twice {L : List NoD} {E E' : List EnD} (hE : ∀ e ∈ E', e ∈ E) : (L.filter (stays E)).filter (stays E') = L.filter (stays E') := by
  rw [List.filter_filter]
  refine List.filter_congr fun n _ => ?_
  unfold stays
  cases q : isI 1 n with
  | true => simp
  | false =>
    simp only [Bool.false_or]
    cases q2 : E'.any (toR n.2.1) with
    | false => rfl
    | true =>
      obtain ⟨e, he, h1⟩ := List.any_eq_true.1 q2
      rw [List.any_eq_true.2 ⟨e, hE e he, h1⟩]; rfl
theorem any_cut {A B : List EnD} {e : EnD} {z : Int} (h : z ≠ e.2.2.1) : (A ++ B).any (toR z) = (A ++ e :: B).any (toR z) := by
  have : toR z e = false := by unfold toR; simpa using Ne.symm h
  simp [List.any_append, List.any_cons, this]
theorem GoneOk.keep {L : List NoD} {A B : List EnD} {e : EnD} (h : GoneOk L (A ++ e :: B)) (hk : (A ++ B).any (toR e.2.2.1) = true) : L.filter (stays (A ++ B)) = L := by
  rw [show stays (A ++ B) = stays (A ++ e :: B) from ?_]
  · exact h.full
  · funext n
    unfold stays
    congr 1
    by_cases q : n.2.1 = e.2.2.1
    · rw [q, hk]
      simp [toR]
    · exact any_cut q
theorem GoneOk.drop {L : List NoD} {A B : List EnD} {e : EnD} (h : GoneOk L (A ++ e :: B)) (hk : (A ++ B).any (toR e.2.2.1) = false) : L.filter (stays (A ++ B)) = L.filter fun n => !isI e.2.2.1 n := by
  have hr := (h.ref e (by simp)).1
  refine List.filter_congr fun n hn => ?_
  by_cases q : n.2.1 = e.2.2.1
  · have h1 : isI e.2.2.1 n = true := by simpa [isI] using q
    have h2 : isI 1 n = false := by rw [← q] at hr; simpa [isI] using hr
    unfold stays
    rw [h1, h2, q, hk]; rfl
  · have h1 : isI e.2.2.1 n = false := by simpa [isI] using q
    rw [h1]
    unfold stays
    by_cases q1 : n.2.1 = 1
    · simp [isI, q1]
    · have := h.has n hn q1
      rw [← any_cut q] at this
      rw [this]; simp
def goneX (E : List EnD) (r : Int) : List EnD := if E.any (toR r) then E else E.filter fun e => !ofD r e
theorem goneL_cut {Y : UpY} {d : Int} {s : ByteArray} {r : Int} : Y.goneL d s r = Y.L.filter (stays (Y.goneE d s r)) := rfl
theorem whites_list {Y : UpY} (w : Y.Wf) (r : Int) : Y.whites r = (Y.listD r).all fun x => x.2.1 == 4 := by
  unfold UpY.listD
  by_cases hd : Y.dirE r = 0
  · rw [if_pos hd]
    have h1 := (fold_insX Y.xe (Y.E.filter (ofD r)) [] List.Pairwise.nil).1
    rw [List.append_nil] at h1
    rw [Bool.eq_iff_iff, List.all_eq_true]
    unfold UpY.whites
    rw [List.all_eq_true]
    constructor
    · intro h x hx
      obtain ⟨e, he, rfl⟩ := List.mem_map.1 (h1.mem_iff.1 hx)
      obtain ⟨h2, h3⟩ := List.mem_filter.1 he
      have := h e h2
      rw [h3] at this
      exact this
    · intro h e he
      cases q : ofD r e with
      | false => rfl
      | true =>
        have := h _ (h1.mem_iff.2 (List.mem_map.2 ⟨e, List.mem_filter.2 ⟨he, q⟩, rfl⟩))
        simpa [UpY.xe] using this
  · rw [if_neg hd]
    unfold UpY.whites
    rw [List.all_eq_true.2]
    · rfl
    · intro e he
      cases q : ofD r e with
      | false => rfl
      | true =>
        have q' : e.1 = r := by simpa [ofD] using q
        exact absurd (by rw [← q']; exact (w.dir e he).1) hd
theorem whites_leaf {Y : UpY} (w : Y.Wf) {r : Int} (h : Y.whites r = true) : ∀ e ∈ Y.E, e.1 = r → ∀ e2 ∈ Y.E, e2.1 ≠ e.2.2.1 := fun e he hr e2 he2 q => by
  have h1 := List.all_eq_true.1 h e he
  have h2 : ofD r e = true := by simpa [ofD] using hr
  rw [h2] at h1
  have h3 : Y.kindOf e.2.2.1 = 4 := by simpa using h1
  obtain ⟨y, hy, hk⟩ := at_dir w he2
  rw [q] at hy
  unfold UpY.kindOf at h3
  rw [hy] at h3
  simp only at h3
  rw [hk] at h3; cases h3
def goneI (E : List EnD) (i : Int) : List EnD := E.take i.toNat ++ E.drop (i.toNat + 1)
structure Gone0Ok (L : List NoD) (E : List EnD) (i : Int) : Prop where
  ok : GoneOk L E
  l1 : L.length ≤ 1000002
  l2 : E.length ≤ 1000000
  lo : 0 ≤ i
  hi : i < (E.length : Int)
  leaf : ∀ e2 ∈ E, e2.1 ≠ (ixD enTy E i).2.2.1
structure GoneROk (L : List NoD) (E : List EnD) (i : Int) : Prop where
  ok : GoneOk L E
  l1 : L.length ≤ 1000002
  l2 : E.length ≤ 1000000
  lo : 0 ≤ i
  hi : i < (E.length : Int)
  leaf : ∀ e ∈ E, e.1 = (ixD enTy E i).2.2.1 → ∀ e2 ∈ E, e2.1 ≠ e.2.2.1
theorem cutD {E : List EnD} {i : Int} (h0 : 0 ≤ i) (h1 : i < (E.length : Int)) : ∃ A B, E = A ++ ixD enTy E i :: B ∧ goneI E i = A ++ B := by
  refine ⟨E.take i.toNat, E.drop (i.toNat + 1), ?_, rfl⟩
  rw [ixD_get (e := enTy) h0 h1]
  exact cut_at _
theorem cutV {α : Type} {E : List α} {i : Int} (h0 : 0 ≤ i) : [] ++ List.take (Int.toNat (boundV (some i) (E.length : Int)) - 0) (List.drop 0 E) ++ List.take (Int.toNat (boundV none (E.length : Int)) - Int.toNat (boundV (some (i + 1)) 0)) (List.drop (Int.toNat (boundV (some (i + 1)) 0)) E) = E.take i.toNat ++ E.drop (i.toNat + 1) := by
  simp only [boundV, List.nil_append, Nat.sub_zero, List.drop_zero]
  rw [List.take_of_length_le (l := List.drop (i + 1).toNat E) (by simp), show (i + 1).toNat = i.toNat + 1 by omega]
theorem insX_at {x : XeD} : ∀ {l : List XeD} {k : Nat}, l.Pairwise leX → k ≤ l.length → (∀ j (h : j < l.length), k ≤ j → sLt x.1 (l[j]).1 = true) → (∀ h : k - 1 < l.length, 0 < k → sLt x.1 (l[k - 1]).1 = false) → insX x l = l.take k ++ x :: l.drop k
  | [], k, _, _, _, _ => by simp [insX]
  | y :: l, 0, _, _, h, _ => by
    have := h 0 (by simp) (Nat.le_refl 0)
    simp only [List.getElem_cons_zero] at this
    simp [insX, this]
  | y :: l, k + 1, hs, hk, h, hn => by
    obtain ⟨h1, h2⟩ := List.pairwise_cons.1 hs
    simp only [List.length_cons] at hk
    have hy : sLt x.1 y.1 = false := by
      have h3 := hn (by simp only [List.length_cons]; omega) (by omega)
      have hle : leX y ((y :: l)[k + 1 - 1]'(by simp only [List.length_cons]; omega)) := by
        rcases List.mem_cons.1 (List.getElem_mem (l := y :: l) (n := k + 1 - 1) (by simp only [List.length_cons]; omega)) with e | e
        · rw [e]; exact List.le_refl _
        · exact h1 _ e
      rw [sLt_iff, decide_eq_false_iff_not] at h3 ⊢
      exact fun q => h3 (Std.lt_of_lt_of_le q hle)
    show (if sLt x.1 y.1 then x :: y :: l else y :: insX x l) = _
    rw [hy]
    simp only [Bool.false_eq_true, if_false]
    rw [insX_at (k := k) h2 (by omega) (fun j hj hkj => by
      have := h (j + 1) (by simp only [List.length_cons]; omega) (by omega)
      simpa using this) (fun hl h0 => by
      have := hn (by simp only [List.length_cons]; omega) (by omega)
      have e : k + 1 - 1 = (k - 1) + 1 := by omega
      simp only [e, List.getElem_cons_succ] at this
      exact this)]
    rfl
theorem sGt_eq (a b : ByteArray) : (!(sLt a b || sEq a b)) = sLt b a := by
  rw [sLt_iff, sLt_iff, sEq_dec, Bool.eq_iff_iff]
  simp only [Bool.not_eq_true', Bool.or_eq_false_iff, decide_eq_false_iff_not, decide_eq_true_eq]
  constructor
  · rintro ⟨h1, h2⟩
    have h3 : b.data.toList ≤ a.data.toList := List.not_lt.1 h1
    refine Std.lt_of_le_of_ne h3 fun e => h2 ?_
    rw [← ofBytes_eq a, ← ofBytes_eq b, e]
  · intro h
    refine ⟨fun h1 => Std.lt_irrefl (Std.lt_trans h h1), fun e => ?_⟩
    rw [e] at h
    exact Std.lt_irrefl h
theorem insV {α : Type} {l : List α} {x : α} {n : Int} (h0 : 0 ≤ n) : [] ++ List.take (Int.toNat (boundV (some n) (l.length : Int)) - 0) (List.drop 0 l) ++ [x] ++ ([] ++ List.take (Int.toNat (boundV none (l.length : Int)) - Int.toNat (boundV (some n) 0)) (List.drop (Int.toNat (boundV (some n) 0)) l)) = l.take n.toNat ++ x :: l.drop n.toNat := by
  simp only [boundV, List.nil_append, Nat.sub_zero, List.drop_zero]
  rw [List.take_of_length_le (l := List.drop n.toNat l) (by simp)]
  simp
theorem foldX (Y : UpY) (r : Int) (l : List EnD) : ((l.filter (ofD r)).foldl (fun out e => insX (Y.xe e) out) []).length ≤ l.length ∧ ((l.filter (ofD r)).foldl (fun out e => insX (Y.xe e) out) []).Pairwise leX := by
  obtain ⟨h1, h2⟩ := fold_insX Y.xe (l.filter (ofD r)) [] List.Pairwise.nil
  refine ⟨?_, h2⟩
  have := h1.length_eq
  rw [List.append_nil, List.length_map] at this
  rw [this]
  exact List.length_filter_le ..
theorem mayT_A (a : AtD) : mayT ([], (0 : Int), (1 : Int), a, [], ByteArray.mk #[], [], false, ()) = mayA a := by
  unfold mayT
  rw [if_pos rfl]
  have h1 : noB (ByteArray.mk #[]) = true := by decide +kernel
  have h2 : xattrsB [] = true := by decide +kernel
  simp only [h1, h2]
  simp [mayA]
end Go.Lm

namespace Go.Proofs
open Go Go.Lm Go.RowKit
set_option maxRecDepth 1000000
def c_rlink : Ct
  | [.v (.c (.p 0 0)), .v (.c (.k (.int .i64 d))), .v (.c (.k (.string s))), .v (.c (.k (.int .i64 r)))], [.cells 87 [.k (.int .i64 q1), .k (.int .i64 q2), .o 1, .o 2, .k (.int .i64 nx)], .sl 36 (.pair (.sl .str) (.pair (.int .i64) (.pair (.int .i64) (.pair (.pair (.int .i64) (.pair (.int .i64) (.pair (.int .i64) .unit))) (.pair (.sl .u8) (.pair .str (.pair (.sl (.pair .str (.pair (.sl .u8) .unit))) (.pair .bool .unit)))))))) L, .sl 119 (.pair (.int .i64) (.pair .str (.pair (.int .i64) .unit))) E], Q => ((UpY.mk q1 q2 L E nx).OkN 1000000) ∧ Q (.c (.k (.int .i64 ((UpY.mk q1 q2 L E nx).linkE d s r)))) (rfo 87 36 119 q1 q2 ((UpY.mk q1 q2 L E nx).linkY d s r).nx ((UpY.mk q1 q2 L E nx).linkY d s r).L ((UpY.mk q1 q2 L E nx).linkY d s r).E)
  | _, _, _ => False
noncomputable def XR457 : Vx := { P := Tryz.prog, ct := (53, c_rover) :: XR356.ct, ty := tyTab, hold := [], ro := [83, 85, 123, 84, 90, 81] }
theorem XR457_ok : CtOk Inv Tryz.prog XR457.ct := CtOk.cons w_rover (XR356_ok)
def vc_rlink : (Int) → (ByteArray) → (Int) → (Int) → (Int) → (Int) → (List NoD) → (List EnD) → (SV → List HO → Prop) → Prop :=
 fun d s r q1 q2 nx L E Q => inK .i64 d → ByteArray.size s ≤ 9223372036854775807 → inK .i64 r → vq q1 ∧ vq q2 ∧ vq nx ∧ L = L ∧ E = E ∧ (inK .i64 (idxI (isI r) L (0 : Int)) → vq q1 ∧ vq q2 ∧ vq nx ∧ L = L ∧ E = E ∧ (inK .i64 (idxI (isI d) L 
 (0 : Int)) → br (decide (idxI (isI d) L (0 : Int) < (0 : Int))) (Q (.v (.c (.k (.int .i64 1)))) (rfs 87 36 119 q1 q2 nx L E)) (br (decide (idxI (isI r) L (0 : Int) < (0 : Int))) (Q (.v (.c (.k (.int .i64 1)))) (rfs 87 36 119 q1 q2 nx L E)) 
 (vq q1 ∧ vq q2 ∧ vq nx ∧ L = L ∧ E = E ∧ (inK .i64 (UpY.freshE (UpY.mk q1 q2 L E nx) d s) → br (UpY.freshE (UpY.mk q1 q2 L E nx) d s != 0) (Q (.v (.c (.k (.int .i64 (UpY.freshE (UpY.mk q1 q2 L E nx) d s))))) (rfs 87 36 119 q1 q2 nx L E)) (0 
 ≤ idxI (isI r) L (0 : Int) ∧ idxI (isI r) L (0 : Int) < (L.length : Int) ∧ 0 ≤ idxI (isI r) L (0 : Int) ∧ idxI (isI r) L (0 : Int) < (L.length : Int) ∧ (Ty.ok noTy (ixD noTy L (idxI (isI r) L (0 : Int))) → br ((ixD noTy L (idxI (isI r) L (0 
 : Int))).2.2.1 == 1) (Q (.v (.c (.k (.int .i64 25)))) (rfs 87 36 119 q1 q2 nx L E)) ((List.length E + List.length [(d, s, r, ())]) * 32 ≤ 140737488355328 ∧ List.length E + List.length [(d, s, r, ())] ≤ 9223372036854775807 ∧ Q (.v (.c (.k 
 (.int .i64 0)))) [.cells 87 [.k (.int .i64 q1), .k (.int .i64 q2), .o 1, .o 3, .k (.int .i64 nx)], .sl 36 noTy L, .gone, .sl 119 enTy (E ++ [(d, s, r, ())])]))))))))
theorem vc_rlink_eq (d : Int) (s : ByteArray) (r : Int) (q1 : Int) (q2 : Int) (nx : Int) (L : List NoD) (E : List EnD) (Q : SV → List HO → Prop) : vFun XR457 ⟨[], []⟩ Tryz.f36 [.v (.c (.p 0 0)), .int d, .str s, .int r] [.cells 87 [.k (.int .i64 q1), .k (.int .i64 q2), .o 1, .o 2, .k (.int .i64 nx)], .sl 36 noTy L, .sl 119 enTy E] Q = vc_rlink d s r q1 q2 nx L E Q := by kernel_rfl
theorem w_rlink : ∀ args H Q, c_rlink args H Q → Wp Inv Tryz.prog 36 args H Q := by
  intro args H Q h
  unfold c_rlink at h
  split at h
  rotate_left
  · exact h.elim
  rename_i d s r q1 q2 nx L E
  refine Wp.rfN (tU := 87) (tN := 36) (tE := 119) ?_
  refine Wp.enter (X := XR457) XR457_ok ⟨[], []⟩ (fn := Tryz.f36) (by kernel_rfl) ?_
  refine Eq.mpr (vc_rlink_eq d s r q1 q2 nx L E _) ?_
  unfold vc_rlink
  obtain ⟨hp, hq⟩ := h
  have stay : ∀ z : Int, (UpY.mk q1 q2 L E nx).linkE d s r = z → z ≠ 0 → Q (.int z) (rfo 87 36 119 q1 q2 nx L E) := fun z e hz => by
    have hY : (UpY.mk q1 q2 L E nx).linkY d s r = (UpY.mk q1 q2 L E nx) := if_neg (by rw [e]; exact hz)
    rw [hY, e] at hq; exact hq
  have hen := hp.en
  have w := hp.wf
  intro _ _ _
  refine ⟨rfl, rfl, rfl, rfl, rfl, fun _ => ⟨rfl, rfl, rfl, rfl, rfl, fun _ => ?_⟩⟩
  rcases atI_cases q1 q2 L E nx d with ⟨hi, hy⟩ | ⟨y, hy, h0, h1, hx⟩
  · refine br_of (fun _ => ⟨q1, q2, nx, L, E, 1, 2, ⟨by decide, by decide, by decide, rfl, rfl, rfl⟩, stay 1 ?_ (by decide)⟩) (fun h2 => absurd hi (of_decide_eq_false h2))
    unfold UpY.linkE
    rw [hy]
    cases (UpY.mk q1 q2 L E nx).at r <;> rfl
  refine br_of (fun h2 => absurd (of_decide_eq_true h2) (by omega)) (fun _ => ?_)
  rcases atI_cases q1 q2 L E nx r with ⟨gi, gy⟩ | ⟨yr, gy, g0, g1, gx⟩
  · refine br_of (fun _ => ⟨q1, q2, nx, L, E, 1, 2, ⟨by decide, by decide, by decide, rfl, rfl, rfl⟩, stay 1 ?_ (by decide)⟩) (fun h2 => absurd gi (of_decide_eq_false h2))
    unfold UpY.linkE
    rw [gy]
  have hlk : (UpY.mk q1 q2 L E nx).linkE d s r = if (UpY.mk q1 q2 L E nx).freshE d s = 0 then (if yr.2.2.1 = 1 then 25 else 0) else (UpY.mk q1 q2 L E nx).freshE d s := by unfold UpY.linkE; rw [hy, gy]
  refine br_of (fun h2 => absurd (of_decide_eq_true h2) (by omega)) (fun _ => ⟨rfl, rfl, rfl, rfl, rfl, fun _ => br_of (fun h3 => ⟨q1, q2, nx, L, E, 1, 2, ⟨by decide, by decide, by decide, rfl, rfl, rfl⟩, stay _ ?_ ?_⟩) (fun h3 => ⟨g0, g1, g0, g1, fun _ => ?_⟩)⟩)
  · rw [hlk, if_neg (by simpa using h3)]
  · simpa using h3
  have h3 : (UpY.mk q1 q2 L E nx).freshE d s = 0 := by simpa using h3
  rw [if_pos h3] at hlk
  rw [gx]
  refine br_of (fun h4 => ⟨q1, q2, nx, L, E, 1, 2, ⟨by decide, by decide, by decide, rfl, rfl, rfl⟩, stay 25 ?_ (by decide)⟩) (fun h4 => ?_)
  · rw [hlk, if_pos (eq_of_beq h4)]
  have e0 : (UpY.mk q1 q2 L E nx).linkE d s r = 0 := by rw [hlk, if_neg (by simpa using h4)]
  have hY : (UpY.mk q1 q2 L E nx).linkY d s r = UpY.mk q1 q2 L (E ++ [(d, s, r, ())]) nx := if_pos e0
  rw [hY, e0] at hq
  simp only at hen
  refine ⟨?_, ?_, q1, q2, nx, L, _, 1, 3, ⟨by decide, by decide, by decide, rfl, rfl, rfl⟩, hq⟩
  all_goals (simp only [List.length_singleton]; omega)
def c_rmake : Ct
  | [.v (.c (.p 0 0)), .v (.c (.k (.int .i64 d))), .v (.c (.k (.string s))), .v (.agg cx)], [.cells 87 [.k (.int .i64 q1), .k (.int .i64 q2), .o 1, .o 2, .k (.int .i64 nx)], .sl 36 (.pair (.sl .str) (.pair (.int .i64) (.pair (.int .i64) (.pair (.pair (.int .i64) (.pair (.int .i64) (.pair (.int .i64) .unit))) (.pair (.sl .u8) (.pair .str (.pair (.sl (.pair .str (.pair (.sl .u8) .unit))) (.pair .bool .unit)))))))) L, .sl 119 (.pair (.int .i64) (.pair .str (.pair (.int .i64) .unit))) E], Q => (match (noTy).of cx with
    | some (x, []) => ((UpY.mk q1 q2 L E nx).OkN 1000000) ∧ Q (.tup [.c (.k (.int .i64 ((UpY.mk q1 q2 L E nx).makeR d s x))), .c (.k (.int .i64 ((UpY.mk q1 q2 L E nx).makeE d s x)))]) (rfo 87 36 119 q1 q2 ((UpY.mk q1 q2 L E nx).makeY d s x).nx ((UpY.mk q1 q2 L E nx).makeY d s x).L ((UpY.mk q1 q2 L E nx).makeY d s x).E)
    | _ => False)
  | _, _, _ => False
noncomputable def XR458 : Vx := { P := Tryz.prog, ct := (36, c_rlink) :: XR457.ct, ty := tyTab, hold := [], ro := [83, 85, 123, 84, 90, 81] }
theorem XR458_ok : CtOk Inv Tryz.prog XR458.ct := CtOk.cons w_rlink (XR457_ok)
def vc_rmake : (Int) → (ByteArray) → ((noTy).den) → (Int) → (Int) → (Int) → (List NoD) → (List EnD) → (SV → List HO → Prop) → Prop :=
 fun d s x q1 q2 nx L E Q => inK .i64 d → ByteArray.size s ≤ 9223372036854775807 → List.length x.1 ≤ 9223372036854775807 → inK .i64 x.2.1 → inK .i64 x.2.2.1 → inK .i64 x.2.2.2.1.1 → inK .i64 x.2.2.2.1.2.1 → inK .i64 x.2.2.2.1.2.2.1 → 
 List.length x.2.2.2.2.1 ≤ 9223372036854775807 → ByteArray.size x.2.2.2.2.2.1 ≤ 9223372036854775807 → List.length x.2.2.2.2.2.2.1 ≤ 9223372036854775807 → vq q1 ∧ vq q2 ∧ vq nx ∧ L = L ∧ E = E ∧ (inK .i64 (UpY.freshE (UpY.mk q1 q2 L E nx) d 
 s) → br (UpY.freshE (UpY.mk q1 q2 L E nx) d s != 0) (Q (.tup [.c (.k (.int .i64 0)), .c (.k (.int .i64 (UpY.freshE (UpY.mk q1 q2 L E nx) d s)))]) (rfs 87 36 119 q1 q2 nx L E)) (br (!mayN x) (Q (.tup [.c (.k (.int .i64 0)), .c (.k (.int .i64 
 1))]) (rfs 87 36 119 q1 q2 nx L E)) (inK .i64 (nx + 1) ∧ (List.length L + List.length [(([] : List ByteArray), nx, x.2.2.1, x.2.2.2.1, x.2.2.2.2.1, x.2.2.2.2.2.1, x.2.2.2.2.2.2.1, false, ())]) * 136 ≤ (140737488355328 : Nat) ∧ List.length L 
 + List.length [(([] : List ByteArray), nx, x.2.2.1, x.2.2.2.1, x.2.2.2.2.1, x.2.2.2.2.2.1, x.2.2.2.2.2.2.1, false, ())] ≤ 9223372036854775807 ∧ (List.length E + List.length [(d, s, nx, ())]) * 32 ≤ 140737488355328 ∧ List.length E + 
 List.length [(d, s, nx, ())] ≤ 9223372036854775807 ∧ Q (.tup [.c (.k (.int .i64 nx)), .c (.k (.int .i64 0))]) [.cells 87 [.k (.int .i64 q1), .k (.int .i64 q2), .o 3, .o 4, .k (.int .i64 (nx + 1))], .gone, .gone, .sl 36 noTy (L ++ [(([] : 
 List ByteArray), nx, x.2.2.1, x.2.2.2.1, x.2.2.2.2.1, x.2.2.2.2.2.1, x.2.2.2.2.2.2.1, false, ())]), .sl 119 enTy (E ++ [(d, s, nx, ())])])))
theorem vc_rmake_eq (d : Int) (s : ByteArray) (x : (noTy).den) (q1 : Int) (q2 : Int) (nx : Int) (L : List NoD) (E : List EnD) (Q : SV → List HO → Prop) : vFun XR458 ⟨[], []⟩ Tryz.f35 [.v (.c (.p 0 0)), .int d, .str s, .v (.agg (Ty.cells noTy x))] [.cells 87 [.k (.int .i64 q1), .k (.int .i64 q2), .o 1, .o 2, .k (.int .i64 nx)], .sl 36 noTy L, .sl 119 enTy E] Q = vc_rmake d s x q1 q2 nx L E Q := by kernel_rfl
theorem w_rmake : ∀ args H Q, c_rmake args H Q → Wp Inv Tryz.prog 35 args H Q := by
  intro args H Q h
  unfold c_rmake at h
  split at h
  rotate_left
  · exact h.elim
  rename_i d s cx q1 q2 nx L E
  split at h
  rotate_left
  · exact h.elim
  rename_i x hx
  refine Wp.said (args' := [.v (.c (.p 0 0)), .int d, .str s, .v (.agg (Ty.cells noTy x))]) (fun E g => RelVs.cons1 (fun _ h => h) (RelVs.cons1 (fun _ h => h) (RelVs.cons1 (fun _ h => h) (RelVs.cons1 (of_row hx) (fun _ h => h))))) ?_
  clear hx
  refine Wp.rfN (tU := 87) (tN := 36) (tE := 119) ?_
  refine Wp.enter (X := XR458) XR458_ok ⟨[], []⟩ (fn := Tryz.f35) (by kernel_rfl) ?_
  refine Eq.mpr (vc_rmake_eq d s x q1 q2 nx L E _) ?_
  unfold vc_rmake
  obtain ⟨hp, hq⟩ := h
  have stay : ∀ z : Int, (UpY.mk q1 q2 L E nx).makeE d s x = z → z ≠ 0 → Q (.tup [.c (.k (.int .i64 0)), .c (.k (.int .i64 z))]) (rfo 87 36 119 q1 q2 nx L E) := fun z e hz => by
    have hY : (UpY.mk q1 q2 L E nx).makeY d s x = (UpY.mk q1 q2 L E nx) := if_neg (by rw [e]; exact hz)
    have hR : (UpY.mk q1 q2 L E nx).makeR d s x = 0 := if_neg (by rw [e]; exact hz)
    rw [hY, hR, e] at hq; exact hq
  have hen := hp.en
  have hnb := hp.nb
  have hll := (usedB_le (hp.ok (Nat.le_refl _))).1
  have hnp := nx_pos hp.wf
  intro _ _ _ _ _ _ _ _ _ _ _
  refine ⟨rfl, rfl, rfl, rfl, rfl, fun _ => br_of (fun h3 => ⟨q1, q2, nx, L, E, 1, 2, ⟨by decide, by decide, by decide, rfl, rfl, rfl⟩, stay _ ?_ ?_⟩) (fun h3 => br_of (fun h4 => ⟨q1, q2, nx, L, E, 1, 2, ⟨by decide, by decide, by decide, rfl, rfl, rfl⟩, stay 1 ?_ (by decide)⟩) (fun h4 => ?_))⟩
  · unfold UpY.makeE
    rw [if_neg (by simpa using h3)]
  · simpa using h3
  · unfold UpY.makeE
    rw [if_pos (by simpa using h3), if_neg (by simpa using h4)]
  have e0 : (UpY.mk q1 q2 L E nx).makeE d s x = 0 := by unfold UpY.makeE; rw [if_pos (by simpa using h3), if_pos (by simpa using h4)]
  have hY : (UpY.mk q1 q2 L E nx).makeY d s x = UpY.mk q1 q2 (L ++ [(UpY.mk q1 q2 L E nx).newN x]) (E ++ [(d, s, nx, ())]) (nx + 1) := if_pos e0
  have hR : (UpY.mk q1 q2 L E nx).makeR d s x = nx := if_pos e0
  rw [hY, hR, e0] at hq
  simp only at hen hnb hll hnp
  refine ⟨by unfold inK; omega, ?_, ?_, ?_, ?_, q1, q2, nx + 1, _, _, 3, 4, ⟨by decide, by decide, by decide, rfl, rfl, rfl⟩, hq⟩
  all_goals (simp only [List.length_singleton]; omega)
end Go.Proofs

namespace Go.Proofs
open Go Go.Lm Go.RowKit
set_option maxRecDepth 1000000
def c_rgone0 : Ct
  | [.v (.c (.p 0 0)), .v (.c (.k (.int .i64 i)))], [.cells 87 [.k (.int .i64 q1), .k (.int .i64 q2), .o 1, .o 2, .k (.int .i64 nx)], .sl 36 (.pair (.sl .str) (.pair (.int .i64) (.pair (.int .i64) (.pair (.pair (.int .i64) (.pair (.int .i64) (.pair (.int .i64) .unit))) (.pair (.sl .u8) (.pair .str (.pair (.sl (.pair .str (.pair (.sl .u8) .unit))) (.pair .bool .unit)))))))) L, .sl 119 (.pair (.int .i64) (.pair .str (.pair (.int .i64) .unit))) E], Q => Gone0Ok L E i ∧ Q (.tup []) (rfo 87 36 119 q1 q2 nx (L.filter (stays (goneI E i))) (goneI E i))
  | _, _, _ => False
noncomputable def XR559 : Vx := { P := Tryz.prog, ct := (35, c_rmake) :: XR458.ct, ty := tyTab, hold := [], ro := [83, 85, 123, 84, 90, 81] }
theorem XR559_ok : CtOk Inv Tryz.prog XR559.ct := CtOk.cons w_rmake (XR458_ok)
def vc_rgone0 : (Int) → (Int) → (Int) → (Int) → (List NoD) → (List EnD) → (SV → List HO → Prop) → Prop :=
 fun i q1 q2 nx L E Q => inK .i64 i → 0 ≤ i ∧ i < (E.length : Int) ∧ 0 ≤ i ∧ i < (E.length : Int) ∧ (Ty.ok enTy (ixD enTy E i) → 0 ≤ boundV none 0 ∧ boundV none 0 ≤ boundV (some i) (E.length : Int) ∧ boundV (some i) (E.length : Int) ≤ 
 (E.length : Int) ∧ inK .i64 (i + 1) ∧ 0 ≤ boundV (some (i + 1)) 0 ∧ boundV (some (i + 1)) 0 ≤ boundV none (E.length : Int) ∧ boundV none (E.length : Int) ≤ (E.length : Int) ∧ 0 ≤ boundV none 0 ∧ boundV none 0 ≤ boundV (some i) (E.length : 
 Int) ∧ boundV (some i) (E.length : Int) ≤ (E.length : Int) ∧ (0 + List.length (List.take (Int.toNat (boundV (some i) (E.length : Int)) - 0) (List.drop 0 E))) * 32 ≤ 140737488355328 ∧ 0 + List.length (List.take (Int.toNat (boundV (some i) 
 (E.length : Int)) - 0) (List.drop 0 E)) ≤ 9223372036854775807 ∧ 0 ≤ boundV (some (i + 1)) 0 ∧ boundV (some (i + 1)) 0 ≤ boundV none (E.length : Int) ∧ boundV none (E.length : Int) ≤ (E.length : Int) ∧ (List.length ([] ++ List.take 
 (Int.toNat (boundV (some i) (E.length : Int)) - 0) (List.drop 0 E)) + List.length (List.take (Int.toNat (boundV none (E.length : Int)) - Int.toNat (boundV (some (i + 1)) 0)) (List.drop (Int.toNat (boundV (some (i + 1)) 0)) E))) * 32 ≤ 
 140737488355328 ∧ List.length ([] ++ List.take (Int.toNat (boundV (some i) (E.length : Int)) - 0) (List.drop 0 E)) + List.length (List.take (Int.toNat (boundV none (E.length : Int)) - Int.toNat (boundV (some (i + 1)) 0)) (List.drop 
 (Int.toNat (boundV (some (i + 1)) 0)) E)) ≤ 9223372036854775807 ∧ vq q1 ∧ vq q2 ∧ vq nx ∧ L = L ∧ [] ++ List.take (Int.toNat (boundV (some i) (E.length : Int)) - 0) (List.drop 0 E) ++ List.take (Int.toNat (boundV none (E.length : Int)) - 
 Int.toNat (boundV (some (i + 1)) 0)) (List.drop (Int.toNat (boundV (some (i + 1)) 0)) E) = [] ++ List.take (Int.toNat (boundV (some i) (E.length : Int)) - 0) (List.drop 0 E) ++ List.take (Int.toNat (boundV none (E.length : Int)) - Int.toNat 
 (boundV (some (i + 1)) 0)) (List.drop (Int.toNat (boundV (some (i + 1)) 0)) E) ∧ (inK .i64 (UpY.links (UpY.mk q1 q2 L ([] ++ List.take (Int.toNat (boundV (some i) (E.length : Int)) - 0) (List.drop 0 E) ++ List.take (Int.toNat (boundV none 
 (E.length : Int)) - Int.toNat (boundV (some (i + 1)) 0)) (List.drop (Int.toNat (boundV (some (i + 1)) 0)) E)) nx) (ixD enTy E i).2.2.1) → br (decide (UpY.links (UpY.mk q1 q2 L ([] ++ List.take (Int.toNat (boundV (some i) (E.length : Int)) - 
 0) (List.drop 0 E) ++ List.take (Int.toNat (boundV none (E.length : Int)) - Int.toNat (boundV (some (i + 1)) 0)) (List.drop (Int.toNat (boundV (some (i + 1)) 0)) E)) nx) (ixD enTy E i).2.2.1 > 0)) (Q (SV.tup []) [.cells 87 [.k (.int .i64 
 q1), .k (.int .i64 q2), .o 1, .o 3, .k (.int .i64 nx)], .sl 36 noTy L, .sl 119 enTy E, .sl 119 enTy ([] ++ List.take (Int.toNat (boundV (some i) (E.length : Int)) - 0) (List.drop 0 E) ++ List.take (Int.toNat (boundV none (E.length : Int)) - 
 Int.toNat (boundV (some (i + 1)) 0)) (List.drop (Int.toNat (boundV (some (i + 1)) 0)) E))]) (vq q1 ∧ vq q2 ∧ vq nx ∧ L = L ∧ [] ++ List.take (Int.toNat (boundV (some i) (E.length : Int)) - 0) (List.drop 0 E) ++ List.take (Int.toNat (boundV 
 none (E.length : Int)) - Int.toNat (boundV (some (i + 1)) 0)) (List.drop (Int.toNat (boundV (some (i + 1)) 0)) E) = [] ++ List.take (Int.toNat (boundV (some i) (E.length : Int)) - 0) (List.drop 0 E) ++ List.take (Int.toNat (boundV none 
 (E.length : Int)) - Int.toNat (boundV (some (i + 1)) 0)) (List.drop (Int.toNat (boundV (some (i + 1)) 0)) E) ∧ (inK .i64 (idxI (isI (ixD enTy E i).2.2.1) L (0 : Int)) → 0 ≤ boundV none 0 ∧ boundV none 0 ≤ boundV (some (idxI (isI (ixD enTy E 
 i).2.2.1) L (0 : Int))) (L.length : Int) ∧ boundV (some (idxI (isI (ixD enTy E i).2.2.1) L (0 : Int))) (L.length : Int) ≤ (L.length : Int) ∧ inK .i64 (idxI (isI (ixD enTy E i).2.2.1) L (0 : Int) + 1) ∧ 0 ≤ boundV (some (idxI (isI (ixD enTy 
 E i).2.2.1) L (0 : Int) + 1)) (0 : Int) ∧ boundV (some (idxI (isI (ixD enTy E i).2.2.1) L (0 : Int) + 1)) 0 ≤ boundV none (L.length : Int) ∧ boundV none (L.length : Int) ≤ (L.length : Int) ∧ 0 ≤ boundV none 0 ∧ boundV none 0 ≤ boundV (some 
 (idxI (isI (ixD enTy E i).2.2.1) L (0 : Int))) (L.length : Int) ∧ boundV (some (idxI (isI (ixD enTy E i).2.2.1) L (0 : Int))) (L.length : Int) ≤ (L.length : Int) ∧ (0 + List.length (List.take (Int.toNat (boundV (some (idxI (isI (ixD enTy E 
 i).2.2.1) L (0 : Int))) (L.length : Int)) - 0) (List.drop 0 L))) * 136 ≤ (140737488355328 : Nat) ∧ 0 + List.length (List.take (Int.toNat (boundV (some (idxI (isI (ixD enTy E i).2.2.1) L (0 : Int))) (L.length : Int)) - 0) (List.drop 0 L)) ≤ 
 9223372036854775807 ∧ 0 ≤ boundV (some (idxI (isI (ixD enTy E i).2.2.1) L (0 : Int) + 1)) (0 : Int) ∧ boundV (some (idxI (isI (ixD enTy E i).2.2.1) L (0 : Int) + 1)) 0 ≤ boundV none (L.length : Int) ∧ boundV none (L.length : Int) ≤ 
 (L.length : Int) ∧ (List.length ([] ++ List.take (Int.toNat (boundV (some (idxI (isI (ixD enTy E i).2.2.1) L (0 : Int))) (L.length : Int)) - 0) (List.drop 0 L)) + List.length (List.take (Int.toNat (boundV none (L.length : Int)) - Int.toNat 
 (boundV (some (idxI (isI (ixD enTy E i).2.2.1) L (0 : Int) + 1)) (0 : Int))) (List.drop (Int.toNat (boundV (some (idxI (isI (ixD enTy E i).2.2.1) L (0 : Int) + 1)) (0 : Int))) L))) * 136 ≤ (140737488355328 : Nat) ∧ List.length ([] ++ 
 List.take (Int.toNat (boundV (some (idxI (isI (ixD enTy E i).2.2.1) L (0 : Int))) (L.length : Int)) - 0) (List.drop 0 L)) + List.length (List.take (Int.toNat (boundV none (L.length : Int)) - Int.toNat (boundV (some (idxI (isI (ixD enTy E 
 i).2.2.1) L (0 : Int) + 1)) (0 : Int))) (List.drop (Int.toNat (boundV (some (idxI (isI (ixD enTy E i).2.2.1) L (0 : Int) + 1)) (0 : Int))) L)) ≤ 9223372036854775807 ∧ LoopP (fun i_1 again => LoopP (fun i_2 again => List.length 
 i_1.2.1.2.2.2.1 ≤ 9223372036854775807 → br (decide (i_2.1.2.1 < (↑(List.length i_1.2.1.2.2.2.1) : Int))) (0 ≤ i_2.1.2.1 ∧ i_2.1.2.1 < (↑(List.length i_1.2.1.2.2.2.1) : Int) ∧ 0 ≤ i_2.1.2.1 ∧ i_2.1.2.1 < (↑(List.length i_1.2.1.2.2.2.1) : 
 Int) ∧ (Ty.ok enTy (ixD enTy i_1.2.1.2.2.2.1 i_2.1.2.1) → br ((ixD enTy i_1.2.1.2.2.2.1 i_2.1.2.1).1 == (ixD enTy E i).2.2.1) (inK .i64 (i_2.1.2.1 + 1) ∧ again ((i_2.1.2.1, i_2.1.2.1 + 1, ()), ())) (inK .i64 (i_2.1.2.1 + 1) ∧ again 
 ((i_2.1.1, i_2.1.2.1 + 1, ()), ())))) (br (decide (i_2.1.1 < 0)) (Q (SV.tup []) [.cells 87 [.k (.int .i64 i_1.2.1.1), .k (.int .i64 i_1.2.1.2.1), .o 3, .o 4, .k (.int .i64 i_1.2.1.2.2.2.2.1)], .sl 36 noTy L, .sl 119 enTy E, .sl 36 noTy 
 i_1.2.1.2.2.1, .sl 119 enTy i_1.2.1.2.2.2.1]) False)) (((-1 : Int), (0 : Int), ()), ())) ((), (q1, q2, [] ++ List.take (Int.toNat (boundV (some (idxI (isI (ixD enTy E i).2.2.1) L (0 : Int))) (L.length : Int)) - 0) (List.drop 0 L) ++ 
 List.take (Int.toNat (boundV none (L.length : Int)) - Int.toNat (boundV (some (idxI (isI (ixD enTy E i).2.2.1) L (0 : Int) + 1)) (0 : Int))) (List.drop (Int.toNat (boundV (some (idxI (isI (ixD enTy E i).2.2.1) L (0 : Int) + 1)) (0 : Int))) 
 L), [] ++ List.take (Int.toNat (boundV (some i) (E.length : Int)) - 0) (List.drop 0 E) ++ List.take (Int.toNat (boundV none (E.length : Int)) - Int.toNat (boundV (some (i + 1)) 0)) (List.drop (Int.toNat (boundV (some (i + 1)) 0)) E), nx, 
 ()), ())))))
theorem vc_rgone0_eq (i : Int) (q1 : Int) (q2 : Int) (nx : Int) (L : List NoD) (E : List EnD) (Q : SV → List HO → Prop) : vFun XR559 ⟨[(6, ⟨[], [(0, .cells 87 [.int .i64, .int .i64, .own 36 noTy, .own 119 enTy, .int .i64])]⟩), (8, ⟨[(6, .int .i64),(7, .int .i64)], []⟩)], []⟩ Tryz.f87 [.v (.c (.p 0 0)), .int i] [.cells 87 [.k (.int .i64 q1), .k (.int .i64 q2), .o 1, .o 2, .k (.int .i64 nx)], .sl 36 noTy L, .sl 119 enTy E] Q = vc_rgone0 i q1 q2 nx L E Q := by kernel_rfl
theorem w_rgone0 : ∀ args H Q, c_rgone0 args H Q → Wp Inv Tryz.prog 87 args H Q := by
  intro args H Q h
  unfold c_rgone0 at h
  split at h
  rotate_left
  · exact h.elim
  rename_i i q1 q2 nx L E
  refine Wp.rfN (tU := 87) (tN := 36) (tE := 119) ?_
  refine Wp.enter (X := XR559) XR559_ok ⟨[(6, ⟨[], [(0, .cells 87 [.int .i64, .int .i64, .own 36 noTy, .own 119 enTy, .int .i64])]⟩), (8, ⟨[(6, .int .i64),(7, .int .i64)], []⟩)], []⟩ (fn := Tryz.f87) (by kernel_rfl) ?_
  refine Eq.mpr (vc_rgone0_eq i q1 q2 nx L E _) ?_
  unfold vc_rgone0
  obtain ⟨hp, hq⟩ := h
  have hG := hp.ok
  have hl1 := hp.l1
  have hl2 := hp.l2
  have h0 := hp.lo
  have h1 := hp.hi
  have hleaf := hp.leaf
  have hmem : ixD enTy E i ∈ E := ixD_mem (e := enTy) h0 h1
  obtain ⟨hr1, n0, hn0, hn1⟩ := hG.ref _ hmem
  obtain ⟨A, B, hE, hAB⟩ := cutD (E := E) h0 h1
  have hcut : [] ++ List.take (Int.toNat (boundV (some i) (List.length E : Int)) - 0) (List.drop 0 E) ++ List.take (Int.toNat (boundV none (List.length E : Int)) - Int.toNat (boundV (some (i + 1)) 0)) (List.drop (Int.toNat (boundV (some (i + 1)) 0)) E) = A ++ B := by rw [← hAB]; exact cutV h0
  rw [hAB] at hq
  clear hp
  generalize ixD enTy E i = e at hmem hr1 hn1 hE hleaf hq ⊢
  intro _
  refine ⟨h0, h1, h0, h1, fun _ => ?_⟩
  simp only [hcut]
  repeat (refine ⟨by (first | exact True.intro | rfl | omega | (unfold inK; omega) | (simp only [boundV]; omega) | (simp only [boundV, List.length_append, List.length_take, List.length_drop, List.length_nil]; omega) | (simp only [boundV, List.length_append, List.length_take, List.length_drop, List.length_cons, List.length_nil]; omega)), ?_⟩)
  have hlk : (UpY.mk q1 q2 L (A ++ B) nx).links e.2.2.1 = ((A ++ B).countP (toR e.2.2.1) : Int) := if_neg hr1
  rw [hlk]
  intro _
  have hsub : ∀ x ∈ A ++ B, x ∈ E := fun x hx => by
    rw [hE]
    rcases List.mem_append.1 hx with h | h
    · exact List.mem_append_left _ h
    · exact List.mem_append_right _ (List.mem_cons_of_mem _ h)
  have hlen : (A ++ B).length ≤ E.length := by rw [hE]; simp
  refine br_of (fun h2 => ?_) (fun h2 => ?_)
  · have hk : (A ++ B).any (toR e.2.2.1) = true := any_cnt.2 (by have := of_decide_eq_true h2; omega)
    rw [GoneOk.keep (by rw [← hE]; exact hG) hk] at hq
    exact ⟨q1, q2, nx, L, A ++ B, 1, 3, ⟨by decide, by decide, by decide, rfl, rfl, rfl⟩, hq⟩
  have hk : (A ++ B).any (toR e.2.2.1) = false := by
    cases q : (A ++ B).any (toR e.2.2.1) with
    | false => rfl
    | true =>
      have := any_cnt.1 q
      have := of_decide_eq_false h2
      omega
  rw [GoneOk.drop (by rw [← hE]; exact hG) hk] at hq
  rcases atI_cases q1 q2 L E nx e.2.2.1 with ⟨gi, gy⟩ | ⟨y, gy, g0, g1, gx⟩
  · exact absurd hn1 (at_none.1 gy n0 hn0)
  have hcutL : [] ++ List.take (Int.toNat (boundV (some (idxI (isI e.2.2.1) L 0)) (List.length L : Int)) - 0) (List.drop 0 L) ++ List.take (Int.toNat (boundV none (List.length L : Int)) - Int.toNat (boundV (some ((idxI (isI e.2.2.1) L 0) + 1)) 0)) (List.drop (Int.toNat (boundV (some ((idxI (isI e.2.2.1) L 0) + 1)) 0)) L) = L.filter fun n => !isI e.2.2.1 n := by rw [← cutI hG.nd gy]; exact cutV g0
  repeat (refine ⟨by (first | exact True.intro | rfl | omega | (unfold inK; omega) | (simp only [boundV]; omega) | (simp only [boundV, List.length_append, List.length_take, List.length_drop, List.length_nil]; omega) | (simp only [boundV, List.length_append, List.length_take, List.length_drop, List.length_cons, List.length_nil]; omega)), ?_⟩)
  intro _
  simp only [hcutL]
  repeat (refine ⟨by (first | exact True.intro | rfl | omega | (unfold inK; omega) | (simp only [boundV]; omega) | (simp only [boundV, List.length_append, List.length_take, List.length_drop, List.length_nil]; omega) | (simp only [boundV, List.length_append, List.length_take, List.length_drop, List.length_cons, List.length_nil]; omega)), ?_⟩)
  
  refine LoopP.intro (fun j => j.2.1 = (q1, q2, (L.filter fun n => !isI e.2.2.1 n), A ++ B, nx, ())) (fun _ => 0) rfl ?_
  rintro ⟨u, s, v⟩ hj
  simp only at hj
  subst hj
  simp only
  refine LoopP.intro (fun k => k.1.1 = -1 ∧ 0 ≤ k.1.2.1) (fun k => (A ++ B).length - k.1.2.1.toNat) ⟨rfl, Int.le_refl _⟩ ?_
  rintro ⟨⟨p, k, _⟩, _⟩ ⟨k1, k2⟩
  simp only at k1 k2 ⊢
  subst k1
  intro hl
  refine br_of (fun hc => ?_) (fun hc => ?_)
  · have hc : k < ((A ++ B).length : Int) := of_decide_eq_true hc
    refine ⟨k2, hc, k2, hc, fun _ => br_of (fun h5 => ?_) (fun h5 => ⟨by unfold inK; omega, ⟨rfl, by omega⟩, by omega⟩)⟩
    exact absurd (eq_of_beq h5) (hleaf _ (hsub _ (ixD_mem (e := enTy) k2 hc)))
  · exact br_of (fun _ => ⟨q1, q2, nx, _, _, 3, 4, ⟨by decide, by decide, by decide, rfl, rfl, rfl⟩, hq⟩) (fun h6 => absurd (of_decide_eq_false h6) (by omega))
def c_rgone : Ct
  | [.v (.c (.p 0 0)), .v (.c (.k (.int .i64 i)))], [.cells 87 [.k (.int .i64 q1), .k (.int .i64 q2), .o 1, .o 2, .k (.int .i64 nx)], .sl 36 (.pair (.sl .str) (.pair (.int .i64) (.pair (.int .i64) (.pair (.pair (.int .i64) (.pair (.int .i64) (.pair (.int .i64) .unit))) (.pair (.sl .u8) (.pair .str (.pair (.sl (.pair .str (.pair (.sl .u8) .unit))) (.pair .bool .unit)))))))) L, .sl 119 (.pair (.int .i64) (.pair .str (.pair (.int .i64) .unit))) E], Q => GoneROk L E i ∧ Q (.tup []) (rfo 87 36 119 q1 q2 nx (L.filter (stays (goneX (goneI E i) (ixD enTy E i).2.2.1))) (goneX (goneI E i) (ixD enTy E i).2.2.1))
  | _, _, _ => False
noncomputable def XR560 : Vx := { P := Tryz.prog, ct := (87, c_rgone0) :: XR559.ct, ty := tyTab, hold := [], ro := [83, 85, 123, 84, 90, 81] }
theorem XR560_ok : CtOk Inv Tryz.prog XR560.ct := CtOk.cons w_rgone0 (XR559_ok)
def vc_rgone : (Int) → (Int) → (Int) → (Int) → (List NoD) → (List EnD) → (SV → List HO → Prop) → Prop :=
 fun i q1 q2 nx L E Q => inK .i64 i → 0 ≤ i ∧ i < (E.length : Int) ∧ 0 ≤ i ∧ i < (E.length : Int) ∧ (Ty.ok enTy (ixD enTy E i) → 0 ≤ boundV none 0 ∧ boundV none 0 ≤ boundV (some i) (E.length : Int) ∧ boundV (some i) (E.length : Int) ≤ 
 (E.length : Int) ∧ inK .i64 (i + 1) ∧ 0 ≤ boundV (some (i + 1)) 0 ∧ boundV (some (i + 1)) 0 ≤ boundV none (E.length : Int) ∧ boundV none (E.length : Int) ≤ (E.length : Int) ∧ 0 ≤ boundV none 0 ∧ boundV none 0 ≤ boundV (some i) (E.length : 
 Int) ∧ boundV (some i) (E.length : Int) ≤ (E.length : Int) ∧ (0 + List.length (List.take (Int.toNat (boundV (some i) (E.length : Int)) - 0) (List.drop 0 E))) * 32 ≤ 140737488355328 ∧ 0 + List.length (List.take (Int.toNat (boundV (some i) 
 (E.length : Int)) - 0) (List.drop 0 E)) ≤ 9223372036854775807 ∧ 0 ≤ boundV (some (i + 1)) 0 ∧ boundV (some (i + 1)) 0 ≤ boundV none (E.length : Int) ∧ boundV none (E.length : Int) ≤ (E.length : Int) ∧ (List.length ([] ++ List.take 
 (Int.toNat (boundV (some i) (E.length : Int)) - 0) (List.drop 0 E)) + List.length (List.take (Int.toNat (boundV none (E.length : Int)) - Int.toNat (boundV (some (i + 1)) 0)) (List.drop (Int.toNat (boundV (some (i + 1)) 0)) E))) * 32 ≤ 
 140737488355328 ∧ List.length ([] ++ List.take (Int.toNat (boundV (some i) (E.length : Int)) - 0) (List.drop 0 E)) + List.length (List.take (Int.toNat (boundV none (E.length : Int)) - Int.toNat (boundV (some (i + 1)) 0)) (List.drop 
 (Int.toNat (boundV (some (i + 1)) 0)) E)) ≤ 9223372036854775807 ∧ vq q1 ∧ vq q2 ∧ vq nx ∧ L = L ∧ [] ++ List.take (Int.toNat (boundV (some i) (E.length : Int)) - 0) (List.drop 0 E) ++ List.take (Int.toNat (boundV none (E.length : Int)) - 
 Int.toNat (boundV (some (i + 1)) 0)) (List.drop (Int.toNat (boundV (some (i + 1)) 0)) E) = [] ++ List.take (Int.toNat (boundV (some i) (E.length : Int)) - 0) (List.drop 0 E) ++ List.take (Int.toNat (boundV none (E.length : Int)) - Int.toNat 
 (boundV (some (i + 1)) 0)) (List.drop (Int.toNat (boundV (some (i + 1)) 0)) E) ∧ (inK .i64 (UpY.links (UpY.mk q1 q2 L ([] ++ List.take (Int.toNat (boundV (some i) (E.length : Int)) - 0) (List.drop 0 E) ++ List.take (Int.toNat (boundV none 
 (E.length : Int)) - Int.toNat (boundV (some (i + 1)) 0)) (List.drop (Int.toNat (boundV (some (i + 1)) 0)) E)) nx) (ixD enTy E i).2.2.1) → br (decide (UpY.links (UpY.mk q1 q2 L ([] ++ List.take (Int.toNat (boundV (some i) (E.length : Int)) - 
 0) (List.drop 0 E) ++ List.take (Int.toNat (boundV none (E.length : Int)) - Int.toNat (boundV (some (i + 1)) 0)) (List.drop (Int.toNat (boundV (some (i + 1)) 0)) E)) nx) (ixD enTy E i).2.2.1 > 0)) (Q (SV.tup []) [.cells 87 [.k (.int .i64 
 q1), .k (.int .i64 q2), .o 1, .o 3, .k (.int .i64 nx)], .sl 36 noTy L, .sl 119 enTy E, .sl 119 enTy ([] ++ List.take (Int.toNat (boundV (some i) (E.length : Int)) - 0) (List.drop 0 E) ++ List.take (Int.toNat (boundV none (E.length : Int)) - 
 Int.toNat (boundV (some (i + 1)) 0)) (List.drop (Int.toNat (boundV (some (i + 1)) 0)) E))]) (vq q1 ∧ vq q2 ∧ vq nx ∧ L = L ∧ [] ++ List.take (Int.toNat (boundV (some i) (E.length : Int)) - 0) (List.drop 0 E) ++ List.take (Int.toNat (boundV 
 none (E.length : Int)) - Int.toNat (boundV (some (i + 1)) 0)) (List.drop (Int.toNat (boundV (some (i + 1)) 0)) E) = [] ++ List.take (Int.toNat (boundV (some i) (E.length : Int)) - 0) (List.drop 0 E) ++ List.take (Int.toNat (boundV none 
 (E.length : Int)) - Int.toNat (boundV (some (i + 1)) 0)) (List.drop (Int.toNat (boundV (some (i + 1)) 0)) E) ∧ (inK .i64 (idxI (isI (ixD enTy E i).2.2.1) L (0 : Int)) → 0 ≤ boundV none 0 ∧ boundV none 0 ≤ boundV (some (idxI (isI (ixD enTy E 
 i).2.2.1) L (0 : Int))) (L.length : Int) ∧ boundV (some (idxI (isI (ixD enTy E i).2.2.1) L (0 : Int))) (L.length : Int) ≤ (L.length : Int) ∧ inK .i64 (idxI (isI (ixD enTy E i).2.2.1) L (0 : Int) + 1) ∧ 0 ≤ boundV (some (idxI (isI (ixD enTy 
 E i).2.2.1) L (0 : Int) + 1)) (0 : Int) ∧ boundV (some (idxI (isI (ixD enTy E i).2.2.1) L (0 : Int) + 1)) 0 ≤ boundV none (L.length : Int) ∧ boundV none (L.length : Int) ≤ (L.length : Int) ∧ 0 ≤ boundV none 0 ∧ boundV none 0 ≤ boundV (some 
 (idxI (isI (ixD enTy E i).2.2.1) L (0 : Int))) (L.length : Int) ∧ boundV (some (idxI (isI (ixD enTy E i).2.2.1) L (0 : Int))) (L.length : Int) ≤ (L.length : Int) ∧ (0 + List.length (List.take (Int.toNat (boundV (some (idxI (isI (ixD enTy E 
 i).2.2.1) L (0 : Int))) (L.length : Int)) - 0) (List.drop 0 L))) * 136 ≤ (140737488355328 : Nat) ∧ 0 + List.length (List.take (Int.toNat (boundV (some (idxI (isI (ixD enTy E i).2.2.1) L (0 : Int))) (L.length : Int)) - 0) (List.drop 0 L)) ≤ 
 9223372036854775807 ∧ 0 ≤ boundV (some (idxI (isI (ixD enTy E i).2.2.1) L (0 : Int) + 1)) (0 : Int) ∧ boundV (some (idxI (isI (ixD enTy E i).2.2.1) L (0 : Int) + 1)) 0 ≤ boundV none (L.length : Int) ∧ boundV none (L.length : Int) ≤ 
 (L.length : Int) ∧ (List.length ([] ++ List.take (Int.toNat (boundV (some (idxI (isI (ixD enTy E i).2.2.1) L (0 : Int))) (L.length : Int)) - 0) (List.drop 0 L)) + List.length (List.take (Int.toNat (boundV none (L.length : Int)) - Int.toNat 
 (boundV (some (idxI (isI (ixD enTy E i).2.2.1) L (0 : Int) + 1)) (0 : Int))) (List.drop (Int.toNat (boundV (some (idxI (isI (ixD enTy E i).2.2.1) L (0 : Int) + 1)) (0 : Int))) L))) * 136 ≤ (140737488355328 : Nat) ∧ List.length ([] ++ 
 List.take (Int.toNat (boundV (some (idxI (isI (ixD enTy E i).2.2.1) L (0 : Int))) (L.length : Int)) - 0) (List.drop 0 L)) + List.length (List.take (Int.toNat (boundV none (L.length : Int)) - Int.toNat (boundV (some (idxI (isI (ixD enTy E 
 i).2.2.1) L (0 : Int) + 1)) (0 : Int))) (List.drop (Int.toNat (boundV (some (idxI (isI (ixD enTy E i).2.2.1) L (0 : Int) + 1)) (0 : Int))) L)) ≤ 9223372036854775807 ∧ LoopP (fun i_1 again => LoopP (fun i_2 again_1 => List.length 
 i_1.2.1.2.2.2.1 ≤ 9223372036854775807 → br (decide (i_2.1.2.1 < (↑(List.length i_1.2.1.2.2.2.1) : Int))) (0 ≤ i_2.1.2.1 ∧ i_2.1.2.1 < (↑(List.length i_1.2.1.2.2.2.1) : Int) ∧ 0 ≤ i_2.1.2.1 ∧ i_2.1.2.1 < (↑(List.length i_1.2.1.2.2.2.1) : 
 Int) ∧ (Ty.ok enTy (ixD enTy i_1.2.1.2.2.2.1 i_2.1.2.1) → br ((ixD enTy i_1.2.1.2.2.2.1 i_2.1.2.1).1 == (ixD enTy E i).2.2.1) (inK .i64 (i_2.1.2.1 + 1) ∧ again_1 ((i_2.1.2.1, i_2.1.2.1 + 1, ()), ())) (inK .i64 (i_2.1.2.1 + 1) ∧ again_1 
 ((i_2.1.1, i_2.1.2.1 + 1, ()), ())))) (br (decide (i_2.1.1 < 0)) (Q (SV.tup []) [.cells 87 [.k (.int .i64 i_1.2.1.1), .k (.int .i64 i_1.2.1.2.1), .o 3, .o 4, .k (.int .i64 i_1.2.1.2.2.2.2.1)], .sl 36 noTy L, .sl 119 enTy E, .sl 36 noTy 
 i_1.2.1.2.2.1, .sl 119 enTy i_1.2.1.2.2.2.1]) (Gone0Ok i_1.2.1.2.2.1 i_1.2.1.2.2.2.1 i_2.1.1 ∧ again ((), (i_1.2.1.1, i_1.2.1.2.1, List.filter (stays (goneI i_1.2.1.2.2.2.1 i_2.1.1)) i_1.2.1.2.2.1, goneI i_1.2.1.2.2.2.1 i_2.1.1, 
 i_1.2.1.2.2.2.2), ())))) (((-1 : Int), (0 : Int), ()), ())) ((), (q1, q2, [] ++ List.take (Int.toNat (boundV (some (idxI (isI (ixD enTy E i).2.2.1) L (0 : Int))) (L.length : Int)) - 0) (List.drop 0 L) ++ List.take (Int.toNat (boundV none 
 (L.length : Int)) - Int.toNat (boundV (some (idxI (isI (ixD enTy E i).2.2.1) L (0 : Int) + 1)) (0 : Int))) (List.drop (Int.toNat (boundV (some (idxI (isI (ixD enTy E i).2.2.1) L (0 : Int) + 1)) (0 : Int))) L), [] ++ List.take (Int.toNat 
 (boundV (some i) (E.length : Int)) - 0) (List.drop 0 E) ++ List.take (Int.toNat (boundV none (E.length : Int)) - Int.toNat (boundV (some (i + 1)) 0)) (List.drop (Int.toNat (boundV (some (i + 1)) 0)) E), nx, ()), ())))))
theorem vc_rgone_eq (i : Int) (q1 : Int) (q2 : Int) (nx : Int) (L : List NoD) (E : List EnD) (Q : SV → List HO → Prop) : vFun XR560 ⟨[(6, ⟨[], [(0, .cells 87 [.int .i64, .int .i64, .own 36 noTy, .own 119 enTy, .int .i64])]⟩), (8, ⟨[(6, .int .i64),(7, .int .i64)], []⟩)], []⟩ Tryz.f87 [.v (.c (.p 0 0)), .int i] [.cells 87 [.k (.int .i64 q1), .k (.int .i64 q2), .o 1, .o 2, .k (.int .i64 nx)], .sl 36 noTy L, .sl 119 enTy E] Q = vc_rgone i q1 q2 nx L E Q := by kernel_rfl
theorem w_rgone : ∀ args H Q, c_rgone args H Q → Wp Inv Tryz.prog 87 args H Q := by
  intro args H Q h
  unfold c_rgone at h
  split at h
  rotate_left
  · exact h.elim
  rename_i i q1 q2 nx L E
  refine Wp.rfN (tU := 87) (tN := 36) (tE := 119) ?_
  refine Wp.enter (X := XR560) XR560_ok ⟨[(6, ⟨[], [(0, .cells 87 [.int .i64, .int .i64, .own 36 noTy, .own 119 enTy, .int .i64])]⟩), (8, ⟨[(6, .int .i64),(7, .int .i64)], []⟩)], []⟩ (fn := Tryz.f87) (by kernel_rfl) ?_
  refine Eq.mpr (vc_rgone_eq i q1 q2 nx L E _) ?_
  unfold vc_rgone
  obtain ⟨hp, hq⟩ := h
  have hG := hp.ok
  have hl1 := hp.l1
  have hl2 := hp.l2
  have h0 := hp.lo
  have h1 := hp.hi
  have hleaf := hp.leaf
  have hmem : ixD enTy E i ∈ E := ixD_mem (e := enTy) h0 h1
  obtain ⟨hr1, n0, hn0, hn1⟩ := hG.ref _ hmem
  obtain ⟨A, B, hE, hAB⟩ := cutD (E := E) h0 h1
  have hcut : [] ++ List.take (Int.toNat (boundV (some i) (List.length E : Int)) - 0) (List.drop 0 E) ++ List.take (Int.toNat (boundV none (List.length E : Int)) - Int.toNat (boundV (some (i + 1)) 0)) (List.drop (Int.toNat (boundV (some (i + 1)) 0)) E) = A ++ B := by rw [← hAB]; exact cutV h0
  rw [hAB] at hq
  clear hp
  generalize ixD enTy E i = e at hmem hr1 hn1 hE hleaf hq ⊢
  intro _
  refine ⟨h0, h1, h0, h1, fun _ => ?_⟩
  simp only [hcut]
  repeat (refine ⟨by (first | exact True.intro | rfl | omega | (unfold inK; omega) | (simp only [boundV]; omega) | (simp only [boundV, List.length_append, List.length_take, List.length_drop, List.length_nil]; omega) | (simp only [boundV, List.length_append, List.length_take, List.length_drop, List.length_cons, List.length_nil]; omega)), ?_⟩)
  have hlk : (UpY.mk q1 q2 L (A ++ B) nx).links e.2.2.1 = ((A ++ B).countP (toR e.2.2.1) : Int) := if_neg hr1
  rw [hlk]
  intro _
  have hsub : ∀ x ∈ A ++ B, x ∈ E := fun x hx => by
    rw [hE]
    rcases List.mem_append.1 hx with h | h
    · exact List.mem_append_left _ h
    · exact List.mem_append_right _ (List.mem_cons_of_mem _ h)
  have hlen : (A ++ B).length ≤ E.length := by rw [hE]; simp
  refine br_of (fun h2 => ?_) (fun h2 => ?_)
  · have hk : (A ++ B).any (toR e.2.2.1) = true := any_cnt.2 (by have := of_decide_eq_true h2; omega)
    rw [show goneX (A ++ B) e.2.2.1 = A ++ B from if_pos hk] at hq
    rw [GoneOk.keep (by rw [← hE]; exact hG) hk] at hq
    exact ⟨q1, q2, nx, L, A ++ B, 1, 3, ⟨by decide, by decide, by decide, rfl, rfl, rfl⟩, hq⟩
  have hk : (A ++ B).any (toR e.2.2.1) = false := by
    cases q : (A ++ B).any (toR e.2.2.1) with
    | false => rfl
    | true =>
      have := any_cnt.1 q
      have := of_decide_eq_false h2
      omega
  rw [show goneX (A ++ B) e.2.2.1 = (A ++ B).filter fun e' => !ofD e.2.2.1 e' from if_neg (by rw [hk]; decide)] at hq
  rcases atI_cases q1 q2 L E nx e.2.2.1 with ⟨gi, gy⟩ | ⟨y, gy, g0, g1, gx⟩
  · exact absurd hn1 (at_none.1 gy n0 hn0)
  have hcutL : [] ++ List.take (Int.toNat (boundV (some (idxI (isI e.2.2.1) L 0)) (List.length L : Int)) - 0) (List.drop 0 L) ++ List.take (Int.toNat (boundV none (List.length L : Int)) - Int.toNat (boundV (some ((idxI (isI e.2.2.1) L 0) + 1)) 0)) (List.drop (Int.toNat (boundV (some ((idxI (isI e.2.2.1) L 0) + 1)) 0)) L) = L.filter fun n => !isI e.2.2.1 n := by rw [← cutI hG.nd gy]; exact cutV g0
  repeat (refine ⟨by (first | exact True.intro | rfl | omega | (unfold inK; omega) | (simp only [boundV]; omega) | (simp only [boundV, List.length_append, List.length_take, List.length_drop, List.length_nil]; omega) | (simp only [boundV, List.length_append, List.length_take, List.length_drop, List.length_cons, List.length_nil]; omega)), ?_⟩)
  intro _
  simp only [hcutL]
  repeat (refine ⟨by (first | exact True.intro | rfl | omega | (unfold inK; omega) | (simp only [boundV]; omega) | (simp only [boundV, List.length_append, List.length_take, List.length_drop, List.length_nil]; omega) | (simp only [boundV, List.length_append, List.length_take, List.length_drop, List.length_cons, List.length_nil]; omega)), ?_⟩)
  
  have hst := GoneOk.drop (L := L) (A := A) (B := B) (e := e) (by rw [← hE]; exact hG) hk
  refine LoopP.intro (fun j => ∃ Ek : List EnD, j.2.1 = (q1, q2, L.filter (stays Ek), Ek, nx, ()) ∧ (∀ x ∈ Ek, x ∈ A ++ B) ∧ Ek.length ≤ E.length ∧ (Ek.filter fun e' => !ofD e.2.2.1 e') = (A ++ B).filter fun e' => !ofD e.2.2.1 e') (fun j => j.2.1.2.2.2.1.length) ⟨A ++ B, by rw [hst], fun _ h => h, hlen, rfl⟩ ?_
  rintro ⟨u, s, v⟩ ⟨Ek, hj, j1, j2, j3⟩
  simp only at hj
  subst hj
  simp only
  refine LoopP.intro (fun k => 0 ≤ k.1.2.1 ∧ ((k.1.1 = -1 ∧ (Ek.take k.1.2.1.toNat).any (ofD e.2.2.1) = false) ∨ (0 ≤ k.1.1 ∧ k.1.1 < (Ek.length : Int) ∧ ofD e.2.2.1 (ixD enTy Ek k.1.1) = true))) (fun k => Ek.length - k.1.2.1.toNat) ⟨Int.le_refl _, .inl ⟨rfl, by simp⟩⟩ ?_
  rintro ⟨⟨p, k, _⟩, _⟩ ⟨k2, k1⟩
  simp only at k1 k2 ⊢
  intro hl
  refine br_of (fun hc => ?_) (fun hc => ?_)
  · have hc : k < (Ek.length : Int) := of_decide_eq_true hc
    refine ⟨k2, hc, k2, hc, fun _ => br_of (fun h5 => ⟨by unfold inK; omega, ⟨by omega, .inr ⟨k2, hc, h5⟩⟩, by omega⟩) (fun h5 => ⟨by unfold inK; omega, ⟨by omega, ?_⟩, by omega⟩)⟩
    rcases k1 with ⟨k1, k3⟩ | k1
    · refine .inl ⟨k1, ?_⟩
      rw [ixD_take (e := enTy) k2 hc, List.any_append, k3]
      simp only [List.any_cons, List.any_nil, Bool.or_false, Bool.false_or]
      exact h5
    · exact .inr k1
  have hc : ¬ k < (Ek.length : Int) := of_decide_eq_false hc
  rw [take_allI hc] at k1
  refine br_of (fun h6 => ?_) (fun h6 => ?_)
  · have h6 : p < 0 := of_decide_eq_true h6
    rcases k1 with ⟨_, k3⟩ | k1
    · have e3 : (Ek.filter fun e' => !ofD e.2.2.1 e') = Ek := List.filter_eq_self.2 fun x hx => by
        have := List.any_eq_false.1 k3 x hx
        simpa using this
      rw [← j3, e3] at hq
      exact ⟨q1, q2, nx, _, _, 3, 4, ⟨by decide, by decide, by decide, rfl, rfl, rfl⟩, hq⟩
    · omega
  have h6 : ¬ p < 0 := of_decide_eq_false h6
  rcases k1 with ⟨k1, _⟩ | ⟨p0, p1, p2⟩
  · omega
  obtain ⟨A2, B2, hE2, hAB2⟩ := cutD (E := Ek) p0 p1
  have hpm : ixD enTy Ek p ∈ Ek := ixD_mem (e := enTy) p0 p1
  have hpe : (ixD enTy Ek p).1 = e.2.2.1 := by simpa [ofD] using p2
  have jE : ∀ x ∈ Ek, x ∈ E := fun x hx => hsub x (j1 x hx)
  have hsub2 : ∀ x ∈ goneI Ek p, x ∈ Ek := fun x hx => by
    rw [hAB2] at hx
    rw [hE2]
    rcases List.mem_append.1 hx with h | h
    · exact List.mem_append_left _ h
    · exact List.mem_append_right _ (List.mem_cons_of_mem _ h)
  have hl3 : (L.filter (stays Ek)).length ≤ L.length := List.length_filter_le ..
  have hl4 : (goneI Ek p).length + 1 = Ek.length := by
    rw [hAB2]
    conv => rhs; rw [hE2]
    simp; omega
  refine ⟨⟨hG.less jE, by omega, by omega, p0, p1, fun e2 h2 => hleaf _ (jE _ hpm) hpe e2 (jE _ h2)⟩, ⟨goneI Ek p, ?_, fun x hx => j1 x (hsub2 x hx), by omega, ?_⟩, by omega⟩
  · rw [stays_twice hsub2]
  · rw [← j3, hAB2]
    conv => rhs; rw [hE2]
    rw [List.filter_append, List.filter_append, List.filter_cons, p2]
    rfl
end Go.Proofs

namespace Go.Proofs
open Go Go.Lm Go.RowKit
set_option maxRecDepth 1000000
def c_rlist : Ct
  | [.v (.c (.p 0 0)), .v (.c (.k (.int .i64 ref)))], [.cells 87 [.k (.int .i64 q1), .k (.int .i64 q2), .o 1, .o 2, .k (.int .i64 nx)], .sl 36 (.pair (.sl .str) (.pair (.int .i64) (.pair (.int .i64) (.pair (.pair (.int .i64) (.pair (.int .i64) (.pair (.int .i64) .unit))) (.pair (.sl .u8) (.pair .str (.pair (.sl (.pair .str (.pair (.sl .u8) .unit))) (.pair .bool .unit)))))))) L, .sl 119 (.pair (.int .i64) (.pair .str (.pair (.int .i64) .unit))) E], Q => (UpY.mk q1 q2 L E nx).Ok ∧ Q (.tup [.c (.o 3), .c (.k (.int .i64 ((UpY.mk q1 q2 L E nx).dirE ref)))]) [.cells 87 [.k (.int .i64 q1), .k (.int .i64 q2), .o 1, .o 2, .k (.int .i64 nx)], .sl 36 noTy L, .sl 119 enTy E, .sl 54 xeTy ((UpY.mk q1 q2 L E nx).listD ref)]
  | _, _, _ => False
noncomputable def XR661 : Vx := { P := Tryz.prog, ct := [(87, c_rgone), (35, c_rmake), (36, c_rlink), (53, c_rover), (52, c_rused), (89, c_rwithin), (95, c_rstat), (49, c_rread), (205, c_rlook), (102, c_ropaque), (99, c_rxattrs), (98, c_rtarget), (81, c_rfresh), (82, c_rmay), (122, c_validR), (92, c_mayR), (94, c_xattrsR), (124, c_nul), (90, c_rfile), (84, c_rdir), (123, c_rlinks), (85, c_rin), (83, c_rat), (96, c_list), (126, c_sorted), (127, c_keys), (9, c_newu), (31, c_over), (21, c_used), (17, c_remove), (59, c_let), (59, c_letz), (38, c_move), (32, c_link), (23, c_make), (25, c_xattrs), (24, c_read), (16, c_write), (41, c_resize), (45, c_setx), (47, c_setopq), (43, c_setattr), (88, c_within), (68, c_fresh), (69, c_good), (93, c_mayx), (113, c_bindex), (125, c_sindex), (70, c_attrs), (114, c_sclone), (112, c_valid), (55, c_bclone), (57, c_sized), (91, c_may), (101, c_opq), (97, c_target), (22, c_look), (33, c_stat), (67, c_entry), (56, c_file), (58, c_dir), (71, c_at)], ty := tyTab, hold := [], ro := [83, 85, 123, 84, 90, 81] }
theorem XR661_ok : CtOk Inv Tryz.prog XR661.ct := CtOk.cons w_rgone (CtOk.cons w_rmake (CtOk.cons w_rlink (CtOk.cons w_rover (CtOk.cons w_rused (CtOk.cons w_rwithin (CtOk.cons w_rstat (CtOk.cons w_rread (CtOk.cons w_rlook (CtOk.cons w_ropaque (CtOk.cons w_rxattrs (CtOk.cons w_rtarget (CtOk.cons w_rfresh (CtOk.cons w_rmay (CtOk.cons w_validR (CtOk.cons w_mayR (CtOk.cons w_xattrsR (CtOk.cons w_nul (CtOk.cons w_rfile (CtOk.cons w_rdir (CtOk.cons w_rlinks (CtOk.cons w_rin (CtOk.cons w_rat (CtOk.cons w_list (CtOk.cons w_sorted (CtOk.cons w_keys (CtOk.cons w_newu (CtOk.cons w_over (CtOk.cons w_used (CtOk.cons w_remove (CtOk.cons w_let (CtOk.cons w_letz (CtOk.cons w_move (CtOk.cons w_link (CtOk.cons w_make (CtOk.cons w_xattrs (CtOk.cons w_read (CtOk.cons w_write (CtOk.cons w_resize (CtOk.cons w_setx (CtOk.cons w_setopq (CtOk.cons w_setattr (CtOk.cons w_within (CtOk.cons w_fresh (CtOk.cons w_good (CtOk.cons w_mayx (CtOk.cons w_bindex (CtOk.cons w_sindex (CtOk.cons w_attrs (CtOk.cons w_sclone (CtOk.cons w_valid (CtOk.cons w_bclone (CtOk.cons w_sized (CtOk.cons w_may (CtOk.cons w_opq (CtOk.cons w_target (CtOk.cons w_look (CtOk.cons w_stat (CtOk.cons w_entry (CtOk.cons w_file (CtOk.cons w_dir (CtOk.cons w_at (CtOk.nil _ _))))))))))))))))))))))))))))))))))))))))))))))))))))))))))))))
def vc_rlist : (Int) → (Int) → (Int) → (Int) → (List NoD) → (List EnD) → (SV → List HO → Prop) → Prop :=
 fun ref q1 q2 nx L E Q => inK .i64 ref → vq q1 ∧ vq q2 ∧ vq nx ∧ L = L ∧ E = E ∧ (inK .i64 (UpY.dirE (UpY.mk q1 q2 L E nx) ref) → br (UpY.dirE (UpY.mk q1 q2 L E nx) ref != 0) (Q (.tup [.c (.k (.slice none 0 0)), .c (.k (.int .i64 (UpY.dirE 
 (UpY.mk q1 q2 L E nx) ref)))]) (rfs 87 36 119 q1 q2 nx L E)) (LoopP (fun i again => List.length E ≤ 9223372036854775807 → br (decide (i.1.1 < (E.length : Int))) (0 ≤ i.1.1 ∧ i.1.1 < (E.length : Int) ∧ 0 ≤ i.1.1 ∧ i.1.1 < (E.length : Int) ∧ 
 (Ty.ok enTy (ixD enTy E i.1.1) → br ((ixD enTy E i.1.1).1 != ref) (inK .i64 (i.1.1 + 1) ∧ again ((i.1.1 + 1, i.1.2), ())) (List.length i.1.2.1 ≤ 9223372036854775807 → LoopP (fun i_1 again_1 => br (decide (i_1.1.1 > 0)) (inK .i64 (i_1.1.1 - 
 1) ∧ 0 ≤ i_1.1.1 - 1 ∧ i_1.1.1 - 1 < (↑(List.length i.1.2.1) : Int) ∧ 0 ≤ i_1.1.1 - 1 ∧ i_1.1.1 - 1 < (↑(List.length i.1.2.1) : Int) ∧ (Ty.ok xeTy (ixD xeTy i.1.2.1 (i_1.1.1 - 1)) → br (!(sLt (ixD xeTy i.1.2.1 (i_1.1.1 - 1)).1 (ixD enTy E 
 i.1.1).2.1 || sEq (ixD xeTy i.1.2.1 (i_1.1.1 - 1)).1 (ixD enTy E i.1.1).2.1)) (inK .i64 (i_1.1.1 - 1) ∧ again_1 ((i_1.1.1 - 1, ()), ())) (0 ≤ boundV (some i_1.1.1) (0 : Int) ∧ boundV (some i_1.1.1) 0 ≤ boundV none (↑(List.length i.1.2.1) : 
 Int) ∧ boundV none (↑(List.length i.1.2.1) : Int) ≤ (↑(List.length i.1.2.1) : Int) ∧ 0 ≤ boundV (some i_1.1.1) (0 : Int) ∧ boundV (some i_1.1.1) 0 ≤ boundV none (↑(List.length i.1.2.1) : Int) ∧ boundV none (↑(List.length i.1.2.1) : Int) ≤ 
 (↑(List.length i.1.2.1) : Int) ∧ (0 + List.length (List.take (Int.toNat (boundV none (↑(List.length i.1.2.1) : Int)) - Int.toNat (boundV (some i_1.1.1) (0 : Int))) (List.drop (Int.toNat (boundV (some i_1.1.1) (0 : Int))) i.1.2.1))) * 32 ≤ 
 140737488355328 ∧ 0 + List.length (List.take (Int.toNat (boundV none (↑(List.length i.1.2.1) : Int)) - Int.toNat (boundV (some i_1.1.1) (0 : Int))) (List.drop (Int.toNat (boundV (some i_1.1.1) (0 : Int))) i.1.2.1)) ≤ 9223372036854775807 ∧ 0 
 ≤ boundV none 0 ∧ boundV none 0 ≤ boundV (some i_1.1.1) (↑(List.length i.1.2.1) : Int) ∧ boundV (some i_1.1.1) (↑(List.length i.1.2.1) : Int) ≤ (↑(List.length i.1.2.1) : Int) ∧ 0 ≤ boundV none 0 ∧ boundV none 0 ≤ boundV (some i_1.1.1) 
 (↑(List.length i.1.2.1) : Int) ∧ boundV (some i_1.1.1) (↑(List.length i.1.2.1) : Int) ≤ (↑(List.length i.1.2.1) : Int) ∧ (0 + List.length (List.take (Int.toNat (boundV (some i_1.1.1) (↑(List.length i.1.2.1) : Int)) - 0) (List.drop 0 
 i.1.2.1))) * 32 ≤ 140737488355328 ∧ 0 + List.length (List.take (Int.toNat (boundV (some i_1.1.1) (↑(List.length i.1.2.1) : Int)) - 0) (List.drop 0 i.1.2.1)) ≤ 9223372036854775807 ∧ vq q1 ∧ vq q2 ∧ vq nx ∧ L = L ∧ E = E ∧ (inK .i64 (idxI 
 (isI (ixD enTy E i.1.1).2.2.1) L (0 : Int)) → 0 ≤ idxI (isI (ixD enTy E i.1.1).2.2.1) L (0 : Int) ∧ idxI (isI (ixD enTy E i.1.1).2.2.1) L (0 : Int) < (L.length : Int) ∧ 0 ≤ idxI (isI (ixD enTy E i.1.1).2.2.1) L (0 : Int) ∧ idxI (isI (ixD 
 enTy E i.1.1).2.2.1) L (0 : Int) < (L.length : Int) ∧ (Ty.ok noTy (ixD noTy L (idxI (isI (ixD enTy E i.1.1).2.2.1) L (0 : Int))) → (List.length ([] ++ List.take (Int.toNat (boundV (some i_1.1.1) (↑(List.length i.1.2.1) : Int)) - 0) 
 (List.drop 0 i.1.2.1)) + List.length [((ixD enTy E i.1.1).2.1, (ixD noTy L (idxI (isI (ixD enTy E i.1.1).2.2.1) L (0 : Int))).2.2.1, (ixD enTy E i.1.1).2.2)]) * 32 ≤ 140737488355328 ∧ List.length ([] ++ List.take (Int.toNat (boundV (some 
 i_1.1.1) (↑(List.length i.1.2.1) : Int)) - 0) (List.drop 0 i.1.2.1)) + List.length [((ixD enTy E i.1.1).2.1, (ixD noTy L (idxI (isI (ixD enTy E i.1.1).2.2.1) L (0 : Int))).2.2.1, (ixD enTy E i.1.1).2.2)] ≤ 9223372036854775807 ∧ (List.length 
 ([] ++ List.take (Int.toNat (boundV (some i_1.1.1) (↑(List.length i.1.2.1) : Int)) - 0) (List.drop 0 i.1.2.1) ++ [((ixD enTy E i.1.1).2.1, (ixD noTy L (idxI (isI (ixD enTy E i.1.1).2.2.1) L (0 : Int))).2.2.1, (ixD enTy E i.1.1).2.2)]) + 
 List.length ([] ++ List.take (Int.toNat (boundV none (↑(List.length i.1.2.1) : Int)) - Int.toNat (boundV (some i_1.1.1) (0 : Int))) (List.drop (Int.toNat (boundV (some i_1.1.1) (0 : Int))) i.1.2.1))) * 32 ≤ 140737488355328 ∧ List.length ([] 
 ++ List.take (Int.toNat (boundV (some i_1.1.1) (↑(List.length i.1.2.1) : Int)) - 0) (List.drop 0 i.1.2.1) ++ [((ixD enTy E i.1.1).2.1, (ixD noTy L (idxI (isI (ixD enTy E i.1.1).2.2.1) L (0 : Int))).2.2.1, (ixD enTy E i.1.1).2.2)]) + 
 List.length ([] ++ List.take (Int.toNat (boundV none (↑(List.length i.1.2.1) : Int)) - Int.toNat (boundV (some i_1.1.1) (0 : Int))) (List.drop (Int.toNat (boundV (some i_1.1.1) (0 : Int))) i.1.2.1)) ≤ 9223372036854775807 ∧ inK .i64 (i.1.1 + 
 1) ∧ again ((i.1.1 + 1, [] ++ List.take (Int.toNat (boundV (some i_1.1.1) (↑(List.length i.1.2.1) : Int)) - 0) (List.drop 0 i.1.2.1) ++ [((ixD enTy E i.1.1).2.1, (ixD noTy L (idxI (isI (ixD enTy E i.1.1).2.2.1) L (0 : Int))).2.2.1, (ixD 
 enTy E i.1.1).2.2)] ++ ([] ++ List.take (Int.toNat (boundV none (↑(List.length i.1.2.1) : Int)) - Int.toNat (boundV (some i_1.1.1) (0 : Int))) (List.drop (Int.toNat (boundV (some i_1.1.1) (0 : Int))) i.1.2.1)), ()), ())))))) (0 ≤ boundV 
 (some i_1.1.1) (0 : Int) ∧ boundV (some i_1.1.1) 0 ≤ boundV none (↑(List.length i.1.2.1) : Int) ∧ boundV none (↑(List.length i.1.2.1) : Int) ≤ (↑(List.length i.1.2.1) : Int) ∧ 0 ≤ boundV (some i_1.1.1) (0 : Int) ∧ boundV (some i_1.1.1) 0 ≤ 
 boundV none (↑(List.length i.1.2.1) : Int) ∧ boundV none (↑(List.length i.1.2.1) : Int) ≤ (↑(List.length i.1.2.1) : Int) ∧ (0 + List.length (List.take (Int.toNat (boundV none (↑(List.length i.1.2.1) : Int)) - Int.toNat (boundV (some 
 i_1.1.1) (0 : Int))) (List.drop (Int.toNat (boundV (some i_1.1.1) (0 : Int))) i.1.2.1))) * 32 ≤ 140737488355328 ∧ 0 + List.length (List.take (Int.toNat (boundV none (↑(List.length i.1.2.1) : Int)) - Int.toNat (boundV (some i_1.1.1) (0 : 
 Int))) (List.drop (Int.toNat (boundV (some i_1.1.1) (0 : Int))) i.1.2.1)) ≤ 9223372036854775807 ∧ 0 ≤ boundV none 0 ∧ boundV none 0 ≤ boundV (some i_1.1.1) (↑(List.length i.1.2.1) : Int) ∧ boundV (some i_1.1.1) (↑(List.length i.1.2.1) : 
 Int) ≤ (↑(List.length i.1.2.1) : Int) ∧ 0 ≤ boundV none 0 ∧ boundV none 0 ≤ boundV (some i_1.1.1) (↑(List.length i.1.2.1) : Int) ∧ boundV (some i_1.1.1) (↑(List.length i.1.2.1) : Int) ≤ (↑(List.length i.1.2.1) : Int) ∧ (0 + List.length 
 (List.take (Int.toNat (boundV (some i_1.1.1) (↑(List.length i.1.2.1) : Int)) - 0) (List.drop 0 i.1.2.1))) * 32 ≤ 140737488355328 ∧ 0 + List.length (List.take (Int.toNat (boundV (some i_1.1.1) (↑(List.length i.1.2.1) : Int)) - 0) (List.drop 
 0 i.1.2.1)) ≤ 9223372036854775807 ∧ vq q1 ∧ vq q2 ∧ vq nx ∧ L = L ∧ E = E ∧ (inK .i64 (idxI (isI (ixD enTy E i.1.1).2.2.1) L (0 : Int)) → 0 ≤ idxI (isI (ixD enTy E i.1.1).2.2.1) L (0 : Int) ∧ idxI (isI (ixD enTy E i.1.1).2.2.1) L (0 : Int) 
 < (L.length : Int) ∧ 0 ≤ idxI (isI (ixD enTy E i.1.1).2.2.1) L (0 : Int) ∧ idxI (isI (ixD enTy E i.1.1).2.2.1) L (0 : Int) < (L.length : Int) ∧ (Ty.ok noTy (ixD noTy L (idxI (isI (ixD enTy E i.1.1).2.2.1) L (0 : Int))) → (List.length ([] ++ 
 List.take (Int.toNat (boundV (some i_1.1.1) (↑(List.length i.1.2.1) : Int)) - 0) (List.drop 0 i.1.2.1)) + List.length [((ixD enTy E i.1.1).2.1, (ixD noTy L (idxI (isI (ixD enTy E i.1.1).2.2.1) L (0 : Int))).2.2.1, (ixD enTy E i.1.1).2.2)]) 
 * 32 ≤ 140737488355328 ∧ List.length ([] ++ List.take (Int.toNat (boundV (some i_1.1.1) (↑(List.length i.1.2.1) : Int)) - 0) (List.drop 0 i.1.2.1)) + List.length [((ixD enTy E i.1.1).2.1, (ixD noTy L (idxI (isI (ixD enTy E i.1.1).2.2.1) L 
 (0 : Int))).2.2.1, (ixD enTy E i.1.1).2.2)] ≤ 9223372036854775807 ∧ (List.length ([] ++ List.take (Int.toNat (boundV (some i_1.1.1) (↑(List.length i.1.2.1) : Int)) - 0) (List.drop 0 i.1.2.1) ++ [((ixD enTy E i.1.1).2.1, (ixD noTy L (idxI 
 (isI (ixD enTy E i.1.1).2.2.1) L (0 : Int))).2.2.1, (ixD enTy E i.1.1).2.2)]) + List.length ([] ++ List.take (Int.toNat (boundV none (↑(List.length i.1.2.1) : Int)) - Int.toNat (boundV (some i_1.1.1) (0 : Int))) (List.drop (Int.toNat 
 (boundV (some i_1.1.1) (0 : Int))) i.1.2.1))) * 32 ≤ 140737488355328 ∧ List.length ([] ++ List.take (Int.toNat (boundV (some i_1.1.1) (↑(List.length i.1.2.1) : Int)) - 0) (List.drop 0 i.1.2.1) ++ [((ixD enTy E i.1.1).2.1, (ixD noTy L (idxI 
 (isI (ixD enTy E i.1.1).2.2.1) L (0 : Int))).2.2.1, (ixD enTy E i.1.1).2.2)]) + List.length ([] ++ List.take (Int.toNat (boundV none (↑(List.length i.1.2.1) : Int)) - Int.toNat (boundV (some i_1.1.1) (0 : Int))) (List.drop (Int.toNat 
 (boundV (some i_1.1.1) (0 : Int))) i.1.2.1)) ≤ 9223372036854775807 ∧ inK .i64 (i.1.1 + 1) ∧ again ((i.1.1 + 1, [] ++ List.take (Int.toNat (boundV (some i_1.1.1) (↑(List.length i.1.2.1) : Int)) - 0) (List.drop 0 i.1.2.1) ++ [((ixD enTy E 
 i.1.1).2.1, (ixD noTy L (idxI (isI (ixD enTy E i.1.1).2.2.1) L (0 : Int))).2.2.1, (ixD enTy E i.1.1).2.2)] ++ ([] ++ List.take (Int.toNat (boundV none (↑(List.length i.1.2.1) : Int)) - Int.toNat (boundV (some i_1.1.1) (0 : Int))) (List.drop 
 (Int.toNat (boundV (some i_1.1.1) (0 : Int))) i.1.2.1)), ()), ()))))) (((↑(List.length i.1.2.1) : Int), ()), ())))) (Q (SV.tup [S1.c (.o 3), .c (.k (.int .i64 0))]) [.cells 87 [.k (.int .i64 q1), .k (.int .i64 q2), .o 1, .o 2, .k (.int .i64 
 nx)], .sl 36 noTy L, .sl 119 enTy E, .sl 54 xeTy i.1.2.1])) (((0 : Int), [], ()), ())))
theorem vc_rlist_eq (ref : Int) (q1 : Int) (q2 : Int) (nx : Int) (L : List NoD) (E : List EnD) (Q : SV → List HO → Prop) : vFun XR661 ⟨[(7, ⟨[(8, .int .i64), (7, .own 54 xeTy)], []⟩), (12, ⟨[(10, .int .i64)], []⟩)], []⟩ Tryz.f86 [.v (.c (.p 0 0)), .int ref] [.cells 87 [.k (.int .i64 q1), .k (.int .i64 q2), .o 1, .o 2, .k (.int .i64 nx)], .sl 36 noTy L, .sl 119 enTy E] Q = vc_rlist ref q1 q2 nx L E Q := by kernel_rfl
theorem w_rlist : ∀ args H Q, c_rlist args H Q → Wp Inv Tryz.prog 86 args H Q := by
  intro args H Q h
  unfold c_rlist at h
  split at h
  rotate_left
  · exact h.elim
  rename_i ref q1 q2 nx L E
  refine Wp.ownNil2 (t := 54) (e := xeTy) ?_
  refine Wp.enter (X := XR661) XR661_ok ⟨[(7, ⟨[(8, .int .i64), (7, .own 54 xeTy)], []⟩), (12, ⟨[(10, .int .i64)], []⟩)], []⟩ (fn := Tryz.f86) (by kernel_rfl) ?_
  refine Eq.mpr (vc_rlist_eq ref q1 q2 nx L E _) ?_
  unfold vc_rlist
  obtain ⟨hp, hq⟩ := h
  have w := hp.wf
  have hen := hp.en
  simp only at hen
  intro _
  refine ⟨rfl, rfl, rfl, rfl, rfl, fun _ => br_of (fun hd => .inr ⟨_, rfl, ?_⟩) (fun hd => ?_)⟩
  · have hd : ¬ (UpY.mk q1 q2 L E nx).dirE ref = 0 := by simpa using hd
    have hl : (UpY.mk q1 q2 L E nx).listD ref = [] := if_neg hd
    rw [hl] at hq
    exact hq
  have hd : (UpY.mk q1 q2 L E nx).dirE ref = 0 := by simpa using hd
  have hl : (UpY.mk q1 q2 L E nx).listD ref = (E.filter (ofD ref)).foldl (fun out e => insX ((UpY.mk q1 q2 L E nx).xe e) out) [] := if_pos hd
  rw [hl, hd] at hq
  refine LoopP.intro (fun i => 0 ≤ i.1.1 ∧ i.1.2.1 = ((E.take i.1.1.toNat).filter (ofD ref)).foldl (fun out e => insX ((UpY.mk q1 q2 L E nx).xe e) out) []) (fun i => E.length - i.1.1.toNat) ⟨Int.le_refl _, by simp⟩ ?_
  rintro ⟨⟨k, out, _⟩, _⟩ ⟨k0, ho⟩
  simp only at k0 ho ⊢
  intro hl2
  refine br_of (fun hc => ?_) (fun hc => ?_)
  rotate_left
  · have hc : ¬ k < (E.length : Int) := of_decide_eq_false hc
    rw [take_allI hc] at ho
    subst ho
    exact .inl hq
  have hc : k < (E.length : Int) := of_decide_eq_true hc
  have hem : ixD enTy E k ∈ E := ixD_mem (e := enTy) k0 hc
  have htk : E.take (k + 1).toNat = E.take k.toNat ++ [ixD enTy E k] := ixD_take (e := enTy) k0 hc
  obtain ⟨yr, hyr⟩ := at_ref w hem
  obtain ⟨fl, fs⟩ := foldX (UpY.mk q1 q2 L E nx) ref (E.take k.toNat)
  rw [← ho] at fl fs
  have hol : out.length ≤ E.length := by
    rw [List.length_take] at fl
    omega
  generalize ixD enTy E k = e at hem htk hyr ⊢
  refine ⟨k0, hc, k0, hc, fun _ => br_of (fun h2 => ?_) (fun h2 => fun _ => ?_)⟩
  · have h2 : ofD ref e = false := by simpa [ofD] using h2
    refine ⟨by unfold inK; omega, ⟨by omega, ?_⟩, by omega⟩
    rw [htk, List.filter_append, List.filter_cons, h2, if_neg (by decide), List.filter_nil, List.append_nil]
    exact ho
  have h2 : ofD ref e = true := by simpa [ofD] using h2
  rcases atI_cases q1 q2 L E nx e.2.2.1 with ⟨gi, gy⟩ | ⟨y, gy, g0, g1, gx⟩
  · rw [hyr] at gy; cases gy
  refine LoopP.intro (fun j => 0 ≤ j.1.1 ∧ j.1.1 ≤ (out.length : Int) ∧ ∀ m (h : m < out.length), j.1.1 ≤ (m : Int) → sLt e.2.1 (out[m]).1 = true) (fun j => j.1.1.toNat) ⟨by simp only; omega, by simp only; omega, fun m h h' => by simp only at h'; omega⟩ ?_
  rintro ⟨⟨n, _⟩, _⟩ ⟨n0, n1, n2⟩
  simp only at n0 n1 n2 ⊢
  refine br_of (fun h3 => ?_) (fun h3 => ?_)
  · have h3 : n > 0 := of_decide_eq_true h3
    have hn1 : (n - 1).toNat = n.toNat - 1 := by omega
    have hix : ixD xeTy out (n - 1) = out[n.toNat - 1]'(by omega) := by
      rw [ixD_get (e := xeTy) (by omega) (by omega)]
      congr 1
    refine ⟨by unfold inK; omega, by omega, by omega, by omega, by omega, fun _ => br_of (fun h5 => ?_) (fun h5 => ?_)⟩
    · rw [sGt_eq, hix] at h5
      refine ⟨by unfold inK; omega, ⟨by omega, by omega, fun m h h' => ?_⟩, by omega⟩
      by_cases q : m = n.toNat - 1
      · subst q; exact h5
      · exact n2 m h (by omega)
    have hlow : ∀ h : n.toNat - 1 < out.length, 0 < n.toNat → sLt e.2.1 (out[n.toNat - 1]).1 = false := fun _ _ => by
      rw [sGt_eq, hix] at h5
      exact h5
    have hx : insX ((UpY.mk q1 q2 L E nx).xe e) out = out.take n.toNat ++ (UpY.mk q1 q2 L E nx).xe e :: out.drop n.toNat := insX_at fs (by omega) (fun m h h' => n2 m h (by omega)) hlow
    repeat (refine ⟨by (first | exact True.intro | rfl | omega | (unfold inK; omega) | (simp only [boundV]; omega) | (simp only [boundV, List.length_append, List.length_take, List.length_drop, List.length_nil]; omega) | (simp only [boundV, List.length_append, List.length_take, List.length_drop, List.length_cons, List.length_nil]; omega)), ?_⟩)
    intro _
    refine ⟨g0, g1, g0, g1, fun _ => ?_⟩
    rw [gx]
    repeat (refine ⟨by (first | exact True.intro | rfl | omega | (unfold inK; omega) | (simp only [boundV]; omega) | (simp only [boundV, List.length_append, List.length_take, List.length_drop, List.length_nil]; omega) | (simp only [boundV, List.length_append, List.length_take, List.length_drop, List.length_cons, List.length_nil]; omega)), ?_⟩)
    refine ⟨⟨by omega, ?_⟩, by omega⟩
    rw [htk, List.filter_append, List.filter_cons, h2, if_pos rfl, List.filter_nil, List.foldl_append, ← ho]
    show _ = insX ((UpY.mk q1 q2 L E nx).xe e) out
    rw [hx]
    have hxe : (UpY.mk q1 q2 L E nx).xe e = (e.2.1, y.2.2.1, e.2.2) := by
      unfold UpY.xe UpY.kindOf
      rw [gy]
    rw [hxe]
    exact insV n0
  · have h3 : ¬ n > 0 := of_decide_eq_false h3
    have hlow : ∀ h : n.toNat - 1 < out.length, 0 < n.toNat → sLt e.2.1 (out[n.toNat - 1]).1 = false := fun _ h => by omega
    have hx : insX ((UpY.mk q1 q2 L E nx).xe e) out = out.take n.toNat ++ (UpY.mk q1 q2 L E nx).xe e :: out.drop n.toNat := insX_at fs (by omega) (fun m h h' => n2 m h (by omega)) hlow
    repeat (refine ⟨by (first | exact True.intro | rfl | omega | (unfold inK; omega) | (simp only [boundV]; omega) | (simp only [boundV, List.length_append, List.length_take, List.length_drop, List.length_nil]; omega) | (simp only [boundV, List.length_append, List.length_take, List.length_drop, List.length_cons, List.length_nil]; omega)), ?_⟩)
    intro _
    refine ⟨g0, g1, g0, g1, fun _ => ?_⟩
    rw [gx]
    repeat (refine ⟨by (first | exact True.intro | rfl | omega | (unfold inK; omega) | (simp only [boundV]; omega) | (simp only [boundV, List.length_append, List.length_take, List.length_drop, List.length_nil]; omega) | (simp only [boundV, List.length_append, List.length_take, List.length_drop, List.length_cons, List.length_nil]; omega)), ?_⟩)
    refine ⟨⟨by omega, ?_⟩, by omega⟩
    rw [htk, List.filter_append, List.filter_cons, h2, if_pos rfl, List.filter_nil, List.foldl_append, ← ho]
    show _ = insX ((UpY.mk q1 q2 L E nx).xe e) out
    rw [hx]
    have hxe : (UpY.mk q1 q2 L E nx).xe e = (e.2.1, y.2.2.1, e.2.2) := by
      unfold UpY.xe UpY.kindOf
      rw [gy]
    rw [hxe]
    exact insV n0
end Go.Proofs

namespace Go.Proofs
open Go Go.Lm Go.RowKit
set_option maxRecDepth 1000000
def c_rsetattr : Ct
  | [.v (.c (.p 0 0)), .v (.c (.k (.int .i64 ref))), .v (.agg ca)], [.cells 87 [.k (.int .i64 q1), .k (.int .i64 q2), .o 1, .o 2, .k (.int .i64 nx)], .sl 36 (.pair (.sl .str) (.pair (.int .i64) (.pair (.int .i64) (.pair (.pair (.int .i64) (.pair (.int .i64) (.pair (.int .i64) .unit))) (.pair (.sl .u8) (.pair .str (.pair (.sl (.pair .str (.pair (.sl .u8) .unit))) (.pair .bool .unit)))))))) L, .sl 119 (.pair (.int .i64) (.pair .str (.pair (.int .i64) .unit))) E], Q => (match (atTy).of ca with
    | some (a, []) => ((UpY.mk q1 q2 L E nx).OkN 1000000) ∧ Q (.c (.k (.int .i64 ((UpY.mk q1 q2 L E nx).setAttrE ref a)))) (rfo 87 36 119 q1 q2 ((UpY.mk q1 q2 L E nx).setAttrY ref a).nx ((UpY.mk q1 q2 L E nx).setAttrY ref a).L ((UpY.mk q1 q2 L E nx).setAttrY ref a).E)
    | _ => False)
  | _, _, _ => False
noncomputable def XR762 : Vx := { P := Tryz.prog, ct := (86, c_rlist) :: XR661.ct, ty := tyTab, hold := [], ro := [83, 85, 123, 84, 90, 81] }
theorem XR762_ok : CtOk Inv Tryz.prog XR762.ct := CtOk.cons w_rlist (XR661_ok)
def vc_rsetattr : (Int) → ((atTy).den) → (Int) → (Int) → (Int) → (List NoD) → (List EnD) → (SV → List HO → Prop) → Prop :=
 fun ref a q1 q2 nx L E Q => inK .i64 ref → inK .i64 a.1 → inK .i64 a.2.1 → inK .i64 a.2.2.1 → vq q1 ∧ vq q2 ∧ vq nx ∧ L = L ∧ E = E ∧ (inK .i64 (idxI (isI ref) L (0 : Int)) → br (decide (idxI (isI ref) L (0 : Int) < (0 : Int))) (Q (.v (.c 
 (.k (.int .i64 1)))) (rfs 87 36 119 q1 q2 nx L E)) (0 ≤ idxI (isI ref) L (0 : Int) ∧ idxI (isI ref) L (0 : Int) < (L.length : Int) ∧ 0 ≤ idxI (isI ref) L (0 : Int) ∧ idxI (isI ref) L (0 : Int) < (L.length : Int) ∧ (Ty.ok noTy (ixD noTy L 
 (idxI (isI ref) L (0 : Int))) → br ((ixD noTy L (idxI (isI ref) L (0 : Int))).2.2.1 == 4) (Q (.v (.c (.k (.int .i64 1)))) (rfs 87 36 119 q1 q2 nx L E)) (br (!mayT ([], (0 : Int), (1 : Int), a, [], ByteArray.mk #[], [], false, ())) (Q (.v 
 (.c (.k (.int .i64 1)))) (rfs 87 36 119 q1 q2 nx L E)) (0 ≤ idxI (isI ref) L (0 : Int) ∧ idxI (isI ref) L (0 : Int) < (L.length : Int) ∧ 0 ≤ idxI (isI ref) L (0 : Int) ∧ idxI (isI ref) L (0 : Int) < (L.length : Int) ∧ Q (.v (.c (.k (.int 
 .i64 0)))) [.cells 87 [.k (.int .i64 q1), .k (.int .i64 q2), .o 1, .o 2, .k (.int .i64 nx)], .sl 36 noTy (List.set L (Int.toNat (idxI (isI ref) L (0 : Int))) ((ixD noTy L (idxI (isI ref) L (0 : Int))).1, (ixD noTy L (idxI (isI ref) L (0 : 
 Int))).2.1, (ixD noTy L (idxI (isI ref) L (0 : Int))).2.2.1, a, (ixD noTy L (idxI (isI ref) L (0 : Int))).2.2.2.2)), .sl 119 enTy E])))))
theorem vc_rsetattr_eq (ref : Int) (a : (atTy).den) (q1 : Int) (q2 : Int) (nx : Int) (L : List NoD) (E : List EnD) (Q : SV → List HO → Prop) : vFun XR762 ⟨[], []⟩ Tryz.f44 [.v (.c (.p 0 0)), .int ref, .v (.agg (Ty.cells atTy a))] [.cells 87 [.k (.int .i64 q1), .k (.int .i64 q2), .o 1, .o 2, .k (.int .i64 nx)], .sl 36 noTy L, .sl 119 enTy E] Q = vc_rsetattr ref a q1 q2 nx L E Q := by kernel_rfl
theorem w_rsetattr : ∀ args H Q, c_rsetattr args H Q → Wp Inv Tryz.prog 44 args H Q := by
  intro args H Q h
  unfold c_rsetattr at h
  split at h
  rotate_left
  · exact h.elim
  rename_i ref ca q1 q2 nx L E
  split at h
  rotate_left
  · exact h.elim
  rename_i a ha
  refine Wp.said (args' := [.v (.c (.p 0 0)), .int ref, .v (.agg (Ty.cells atTy a))]) (fun E g => RelVs.cons1 (fun _ h => h) (RelVs.cons1 (fun _ h => h) (RelVs.cons1 (of_row ha) (fun _ h => h)))) ?_
  clear ha
  refine Wp.rfN (tU := 87) (tN := 36) (tE := 119) ?_
  refine Wp.enter (X := XR762) XR762_ok ⟨[], []⟩ (fn := Tryz.f44) (by kernel_rfl) ?_
  refine Eq.mpr (vc_rsetattr_eq ref a q1 q2 nx L E _) ?_
  unfold vc_rsetattr
  obtain ⟨hp, hq⟩ := h
  have stay : ∀ z : Int, (UpY.mk q1 q2 L E nx).setAttrE ref a = z → z ≠ 0 → Q (.int z) (rfo 87 36 119 q1 q2 nx L E) := fun z e hz => by
    have hY : (UpY.mk q1 q2 L E nx).setAttrY ref a = (UpY.mk q1 q2 L E nx) := if_neg (by rw [e]; exact hz)
    rw [hY, e] at hq; exact hq
  rw [mayT_A]
  intro _ _ _ _
  refine ⟨rfl, rfl, rfl, rfl, rfl, fun _ => ?_⟩
  rcases atI_cases q1 q2 L E nx ref with ⟨gi, gy⟩ | ⟨y, gy, g0, g1, gx⟩
  · refine br_of (fun _ => ⟨q1, q2, nx, L, E, 1, 2, ⟨by decide, by decide, by decide, rfl, rfl, rfl⟩, stay 1 ?_ (by decide)⟩) (fun h2 => absurd gi (of_decide_eq_false h2))
    unfold UpY.setAttrE
    rw [gy]
  have hE0 : (UpY.mk q1 q2 L E nx).setAttrE ref a = if y.2.2.1 = 4 ∨ mayA a = false then 1 else 0 := by unfold UpY.setAttrE; rw [gy]
  refine br_of (fun h2 => absurd (of_decide_eq_true h2) (by omega)) (fun _ => ⟨g0, g1, g0, g1, fun _ => ?_⟩)
  rw [gx]
  refine br_of (fun h3 => ⟨q1, q2, nx, L, E, 1, 2, ⟨by decide, by decide, by decide, rfl, rfl, rfl⟩, stay 1 ?_ (by decide)⟩) (fun h3 => br_of (fun h4 => ⟨q1, q2, nx, L, E, 1, 2, ⟨by decide, by decide, by decide, rfl, rfl, rfl⟩, stay 1 ?_ (by decide)⟩) (fun h4 => ?_))
  · rw [hE0, if_pos (.inl (eq_of_beq h3))]
  · rw [hE0, if_pos (.inr (by simpa using h4))]
  have e0 : (UpY.mk q1 q2 L E nx).setAttrE ref a = 0 := by
    rw [hE0, if_neg]
    rintro (q | q)
    · rw [q] at h3; cases h3
    · rw [q] at h4; cases h4
  have hY : (UpY.mk q1 q2 L E nx).setAttrY ref a = UpY.mk q1 q2 (setN L ref (·.setA a)) E nx := if_pos e0
  rw [hY, e0, show (UpY.mk q1 q2 (setN L ref (·.setA a)) E nx).L = L.set (idxI (isI ref) L 0).toNat (((·.setA a)) y) from (setI hp.wf.nd gy (·.setA a)).symm] at hq
  exact ⟨g0, g1, g0, g1, q1, q2, nx, _, E, 1, 2, ⟨by decide, by decide, by decide, rfl, rfl, rfl⟩, hq⟩
def c_rsetx : Ct
  | [.v (.c (.p 0 0)), .v (.c (.k (.int .i64 ref))), .v (.c cx)], [.cells 87 [.k (.int .i64 q1), .k (.int .i64 q2), .o 1, .o 2, .k (.int .i64 nx)], .sl 36 (.pair (.sl .str) (.pair (.int .i64) (.pair (.int .i64) (.pair (.pair (.int .i64) (.pair (.int .i64) (.pair (.int .i64) .unit))) (.pair (.sl .u8) (.pair .str (.pair (.sl (.pair .str (.pair (.sl .u8) .unit))) (.pair .bool .unit)))))))) L, .sl 119 (.pair (.int .i64) (.pair .str (.pair (.int .i64) .unit))) E], Q => (match (Ty.sl xaTy).of [cx] with
    | some (x, []) => ((UpY.mk q1 q2 L E nx).OkN 1000000) ∧ Q (.c (.k (.int .i64 ((UpY.mk q1 q2 L E nx).setXattrsE ref x)))) (rfo 87 36 119 q1 q2 ((UpY.mk q1 q2 L E nx).setXattrsY ref x).nx ((UpY.mk q1 q2 L E nx).setXattrsY ref x).L ((UpY.mk q1 q2 L E nx).setXattrsY ref x).E)
    | _ => False)
  | _, _, _ => False
noncomputable def XR763 : Vx := { P := Tryz.prog, ct := (44, c_rsetattr) :: XR762.ct, ty := tyTab, hold := [], ro := [83, 85, 123, 84, 90, 81] }
theorem XR763_ok : CtOk Inv Tryz.prog XR763.ct := CtOk.cons w_rsetattr (XR762_ok)
def vc_rsetx : (Int) → (List (xaTy).den) → (Int) → (Int) → (Int) → (List NoD) → (List EnD) → (SV → List HO → Prop) → Prop :=
 fun ref x q1 q2 nx L E Q => inK .i64 ref → List.length x ≤ 9223372036854775807 → vq q1 ∧ vq q2 ∧ vq nx ∧ L = L ∧ E = E ∧ (inK .i64 (idxI (isI ref) L (0 : Int)) → br (decide (idxI (isI ref) L (0 : Int) < (0 : Int))) (Q (.v (.c (.k (.int .i64 
 1)))) (rfs 87 36 119 q1 q2 nx L E)) (0 ≤ idxI (isI ref) L (0 : Int) ∧ idxI (isI ref) L (0 : Int) < (L.length : Int) ∧ 0 ≤ idxI (isI ref) L (0 : Int) ∧ idxI (isI ref) L (0 : Int) < (L.length : Int) ∧ (Ty.ok noTy (ixD noTy L (idxI (isI ref) L 
 (0 : Int))) → br ((ixD noTy L (idxI (isI ref) L (0 : Int))).2.2.1 == 4) (Q (.v (.c (.k (.int .i64 1)))) (rfs 87 36 119 q1 q2 nx L E)) (br (!xattrsB x) (Q (.v (.c (.k (.int .i64 1)))) (rfs 87 36 119 q1 q2 nx L E)) ((0 + List.length x) * 40 ≤ 
 (140737488355328 : Nat) ∧ 0 + List.length x ≤ 9223372036854775807 ∧ 0 ≤ idxI (isI ref) L (0 : Int) ∧ idxI (isI ref) L (0 : Int) < (L.length : Int) ∧ 0 ≤ idxI (isI ref) L (0 : Int) ∧ idxI (isI ref) L (0 : Int) < (L.length : Int) ∧ Q (.v (.c 
 (.k (.int .i64 0)))) [.cells 87 [.k (.int .i64 q1), .k (.int .i64 q2), .o 1, .o 2, .k (.int .i64 nx)], .sl 36 noTy (List.set L (Int.toNat (idxI (isI ref) L (0 : Int))) ((ixD noTy L (idxI (isI ref) L (0 : Int))).1, (ixD noTy L (idxI (isI 
 ref) L (0 : Int))).2.1, (ixD noTy L (idxI (isI ref) L (0 : Int))).2.2.1, (ixD noTy L (idxI (isI ref) L (0 : Int))).2.2.2.1, (ixD noTy L (idxI (isI ref) L (0 : Int))).2.2.2.2.1, (ixD noTy L (idxI (isI ref) L (0 : Int))).2.2.2.2.2.1, [] ++ x, 
 (ixD noTy L (idxI (isI ref) L (0 : Int))).2.2.2.2.2.2.2)), .sl 119 enTy E])))))
theorem vc_rsetx_eq (ref : Int) (x : List (xaTy).den) (q1 : Int) (q2 : Int) (nx : Int) (L : List NoD) (E : List EnD) (Q : SV → List HO → Prop) : vFun XR763 ⟨[], []⟩ Tryz.f46 [.v (.c (.p 0 0)), .int ref, .c (.d xaTy x)] [.cells 87 [.k (.int .i64 q1), .k (.int .i64 q2), .o 1, .o 2, .k (.int .i64 nx)], .sl 36 noTy L, .sl 119 enTy E] Q = vc_rsetx ref x q1 q2 nx L E Q := by kernel_rfl
theorem w_rsetx : ∀ args H Q, c_rsetx args H Q → Wp Inv Tryz.prog 46 args H Q := by
  intro args H Q h
  unfold c_rsetx at h
  split at h
  rotate_left
  · exact h.elim
  rename_i ref cx q1 q2 nx L E
  split at h
  rotate_left
  · exact h.elim
  rename_i x hx
  refine Wp.said (args' := [.v (.c (.p 0 0)), .int ref, .c (.d xaTy x)]) (fun E g => RelVs.cons1 (fun _ h => h) (RelVs.cons1 (fun _ h => h) (RelVs.cons1 (of_list hx) (fun _ h => h)))) ?_
  clear hx
  refine Wp.rfN (tU := 87) (tN := 36) (tE := 119) ?_
  refine Wp.enter (X := XR763) XR763_ok ⟨[], []⟩ (fn := Tryz.f46) (by kernel_rfl) ?_
  refine Eq.mpr (vc_rsetx_eq ref x q1 q2 nx L E _) ?_
  unfold vc_rsetx
  obtain ⟨hp, hq⟩ := h
  have stay : ∀ z : Int, (UpY.mk q1 q2 L E nx).setXattrsE ref x = z → z ≠ 0 → Q (.int z) (rfo 87 36 119 q1 q2 nx L E) := fun z e hz => by
    have hY : (UpY.mk q1 q2 L E nx).setXattrsY ref x = (UpY.mk q1 q2 L E nx) := if_neg (by rw [e]; exact hz)
    rw [hY, e] at hq; exact hq
  intro _ _
  refine ⟨rfl, rfl, rfl, rfl, rfl, fun _ => ?_⟩
  rcases atI_cases q1 q2 L E nx ref with ⟨gi, gy⟩ | ⟨y, gy, g0, g1, gx⟩
  · refine br_of (fun _ => ⟨q1, q2, nx, L, E, 1, 2, ⟨by decide, by decide, by decide, rfl, rfl, rfl⟩, stay 1 ?_ (by decide)⟩) (fun h2 => absurd gi (of_decide_eq_false h2))
    unfold UpY.setXattrsE
    rw [gy]
  have hE0 : (UpY.mk q1 q2 L E nx).setXattrsE ref x = if y.2.2.1 = 4 ∨ xattrsB x = false then 1 else 0 := by unfold UpY.setXattrsE; rw [gy]
  refine br_of (fun h2 => absurd (of_decide_eq_true h2) (by omega)) (fun _ => ⟨g0, g1, g0, g1, fun _ => ?_⟩)
  rw [gx]
  refine br_of (fun h3 => ⟨q1, q2, nx, L, E, 1, 2, ⟨by decide, by decide, by decide, rfl, rfl, rfl⟩, stay 1 ?_ (by decide)⟩) (fun h3 => br_of (fun h4 => ⟨q1, q2, nx, L, E, 1, 2, ⟨by decide, by decide, by decide, rfl, rfl, rfl⟩, stay 1 ?_ (by decide)⟩) (fun h4 => ?_))
  · rw [hE0, if_pos (.inl (eq_of_beq h3))]
  · rw [hE0, if_pos (.inr (by simpa using h4))]
  have e0 : (UpY.mk q1 q2 L E nx).setXattrsE ref x = 0 := by
    rw [hE0, if_neg]
    rintro (q | q)
    · rw [q] at h3; cases h3
    · rw [q] at h4; cases h4
  have hY : (UpY.mk q1 q2 L E nx).setXattrsY ref x = UpY.mk q1 q2 (setN L ref (·.setX x)) E nx := if_pos e0
  rw [hY, e0, show (UpY.mk q1 q2 (setN L ref (·.setX x)) E nx).L = L.set (idxI (isI ref) L 0).toNat (((·.setX x)) y) from (setI hp.wf.nd gy (·.setX x)).symm] at hq
  have hxl := xattrsB_len (l := x) (by simpa using h4)
  exact ⟨by omega, by omega, g0, g1, g0, g1, q1, q2, nx, _, E, 1, 2, ⟨by decide, by decide, by decide, rfl, rfl, rfl⟩, hq⟩
def c_rsetopq : Ct
  | [.v (.c (.p 0 0)), .v (.c (.k (.int .i64 ref))), .v (.c (.k (.bool on)))], [.cells 87 [.k (.int .i64 q1), .k (.int .i64 q2), .o 1, .o 2, .k (.int .i64 nx)], .sl 36 (.pair (.sl .str) (.pair (.int .i64) (.pair (.int .i64) (.pair (.pair (.int .i64) (.pair (.int .i64) (.pair (.int .i64) .unit))) (.pair (.sl .u8) (.pair .str (.pair (.sl (.pair .str (.pair (.sl .u8) .unit))) (.pair .bool .unit)))))))) L, .sl 119 (.pair (.int .i64) (.pair .str (.pair (.int .i64) .unit))) E], Q => ((UpY.mk q1 q2 L E nx).OkN 1000000) ∧ Q (.c (.k (.int .i64 ((UpY.mk q1 q2 L E nx).dirE ref)))) (rfo 87 36 119 q1 q2 ((UpY.mk q1 q2 L E nx).setOpaqueY ref on).nx ((UpY.mk q1 q2 L E nx).setOpaqueY ref on).L ((UpY.mk q1 q2 L E nx).setOpaqueY ref on).E)
  | _, _, _ => False
noncomputable def XR764 : Vx := { P := Tryz.prog, ct := (46, c_rsetx) :: XR763.ct, ty := tyTab, hold := [], ro := [83, 85, 123, 84, 90, 81] }
theorem XR764_ok : CtOk Inv Tryz.prog XR764.ct := CtOk.cons w_rsetx (XR763_ok)
def vc_rsetopq : (Int) → (Bool) → (Int) → (Int) → (Int) → (List NoD) → (List EnD) → (SV → List HO → Prop) → Prop :=
 fun ref on q1 q2 nx L E Q => inK .i64 ref → vq q1 ∧ vq q2 ∧ vq nx ∧ L = L ∧ E = E ∧ (inK .i64 (UpY.dirE (UpY.mk q1 q2 L E nx) ref) → br (UpY.dirE (UpY.mk q1 q2 L E nx) ref == 0) (vq q1 ∧ vq q2 ∧ vq nx ∧ L = L ∧ E = E ∧ (inK .i64 (idxI (isI 
 ref) L (0 : Int)) → 0 ≤ idxI (isI ref) L (0 : Int) ∧ idxI (isI ref) L (0 : Int) < (L.length : Int) ∧ 0 ≤ idxI (isI ref) L (0 : Int) ∧ idxI (isI ref) L (0 : Int) < (L.length : Int) ∧ Q (.v (.c (.k (.int .i64 (UpY.dirE (UpY.mk q1 q2 L E nx) 
 ref))))) [.cells 87 [.k (.int .i64 q1), .k (.int .i64 q2), .o 1, .o 2, .k (.int .i64 nx)], .sl 36 noTy (List.set L (Int.toNat (idxI (isI ref) L (0 : Int))) ((ixD noTy L (idxI (isI ref) L (0 : Int))).1, (ixD noTy L (idxI (isI ref) L (0 : 
 Int))).2.1, (ixD noTy L (idxI (isI ref) L (0 : Int))).2.2.1, (ixD noTy L (idxI (isI ref) L (0 : Int))).2.2.2.1, (ixD noTy L (idxI (isI ref) L (0 : Int))).2.2.2.2.1, (ixD noTy L (idxI (isI ref) L (0 : Int))).2.2.2.2.2.1, (ixD noTy L (idxI 
 (isI ref) L (0 : Int))).2.2.2.2.2.2.1, on, ())), .sl 119 enTy E])) (Q (.v (.c (.k (.int .i64 (UpY.dirE (UpY.mk q1 q2 L E nx) ref))))) (rfs 87 36 119 q1 q2 nx L E)))
theorem vc_rsetopq_eq (ref : Int) (on : Bool) (q1 : Int) (q2 : Int) (nx : Int) (L : List NoD) (E : List EnD) (Q : SV → List HO → Prop) : vFun XR764 ⟨[], []⟩ Tryz.f48 [.v (.c (.p 0 0)), .int ref, .bool on] [.cells 87 [.k (.int .i64 q1), .k (.int .i64 q2), .o 1, .o 2, .k (.int .i64 nx)], .sl 36 noTy L, .sl 119 enTy E] Q = vc_rsetopq ref on q1 q2 nx L E Q := by kernel_rfl
theorem w_rsetopq : ∀ args H Q, c_rsetopq args H Q → Wp Inv Tryz.prog 48 args H Q := by
  intro args H Q h
  unfold c_rsetopq at h
  split at h
  rotate_left
  · exact h.elim
  rename_i ref on q1 q2 nx L E
  refine Wp.rfN (tU := 87) (tN := 36) (tE := 119) ?_
  refine Wp.enter (X := XR764) XR764_ok ⟨[], []⟩ (fn := Tryz.f48) (by kernel_rfl) ?_
  refine Eq.mpr (vc_rsetopq_eq ref on q1 q2 nx L E _) ?_
  unfold vc_rsetopq
  obtain ⟨hp, hq⟩ := h
  intro _
  refine ⟨rfl, rfl, rfl, rfl, rfl, fun _ => br_of (fun h1 => ⟨rfl, rfl, rfl, rfl, rfl, fun _ => ?_⟩) (fun h1 => ?_)⟩
  rotate_left
  · have hY : (UpY.mk q1 q2 L E nx).setOpaqueY ref on = (UpY.mk q1 q2 L E nx) := if_neg (by simpa using h1)
    rw [hY] at hq
    exact ⟨q1, q2, nx, L, E, 1, 2, ⟨by decide, by decide, by decide, rfl, rfl, rfl⟩, hq⟩
  have e0 : (UpY.mk q1 q2 L E nx).dirE ref = 0 := by simpa using h1
  obtain ⟨y0, hy0, hk⟩ := dirE_zero.1 e0
  rcases atI_cases q1 q2 L E nx ref with ⟨gi, gy⟩ | ⟨y, gy, g0, g1, gx⟩
  · rw [hy0] at gy; cases gy
  rw [gx]
  have hY : (UpY.mk q1 q2 L E nx).setOpaqueY ref on = UpY.mk q1 q2 (setN L ref (·.setO on)) E nx := if_pos e0
  rw [hY, show (UpY.mk q1 q2 (setN L ref (·.setO on)) E nx).L = L.set (idxI (isI ref) L 0).toNat (((·.setO on)) y) from (setI hp.wf.nd gy (·.setO on)).symm] at hq
  exact ⟨g0, g1, g0, g1, q1, q2, nx, _, E, 1, 2, ⟨by decide, by decide, by decide, rfl, rfl, rfl⟩, hq⟩
def c_rresize : Ct
  | [.v (.c (.p 0 0)), .v (.c (.k (.int .i64 ref))), .v (.c (.k (.int .i64 k)))], [.cells 87 [.k (.int .i64 q1), .k (.int .i64 q2), .o 1, .o 2, .k (.int .i64 nx)], .sl 36 (.pair (.sl .str) (.pair (.int .i64) (.pair (.int .i64) (.pair (.pair (.int .i64) (.pair (.int .i64) (.pair (.int .i64) .unit))) (.pair (.sl .u8) (.pair .str (.pair (.sl (.pair .str (.pair (.sl .u8) .unit))) (.pair .bool .unit)))))))) L, .sl 119 (.pair (.int .i64) (.pair .str (.pair (.int .i64) .unit))) E], Q => ((UpY.mk q1 q2 L E nx).OkN 1000000) ∧ Q (.c (.k (.int .i64 ((UpY.mk q1 q2 L E nx).resizeE ref k)))) (rfo 87 36 119 q1 q2 ((UpY.mk q1 q2 L E nx).resizeY ref k).nx ((UpY.mk q1 q2 L E nx).resizeY ref k).L ((UpY.mk q1 q2 L E nx).resizeY ref k).E)
  | _, _, _ => False
noncomputable def XR765 : Vx := { P := Tryz.prog, ct := (48, c_rsetopq) :: XR764.ct, ty := tyTab, hold := [], ro := [83, 85, 123, 84, 90, 81] }
theorem XR765_ok : CtOk Inv Tryz.prog XR765.ct := CtOk.cons w_rsetopq (XR764_ok)
def vc_rresize : (Int) → (Int) → (Int) → (Int) → (Int) → (List NoD) → (List EnD) → (SV → List HO → Prop) → Prop :=
 fun ref k q1 q2 nx L E Q => inK .i64 ref → inK .i64 k → vq q1 ∧ vq q2 ∧ vq nx ∧ L = L ∧ E = E ∧ (inK .i64 (UpY.fileI (UpY.mk q1 q2 L E nx) ref) → inK .i64 (UpY.fileE (UpY.mk q1 q2 L E nx) ref) → br (UpY.fileE (UpY.mk q1 q2 L E nx) ref != 0) 
 (Q (.v (.c (.k (.int .i64 (UpY.fileE (UpY.mk q1 q2 L E nx) ref))))) (rfs 87 36 119 q1 q2 nx L E)) (br (decide (k < 0)) (Q (.v (.c (.k (.int .i64 1)))) (rfs 87 36 119 q1 q2 nx L E)) (br (decide (k > 4096)) (Q (.v (.c (.k (.int .i64 3)))) 
 (rfs 87 36 119 q1 q2 nx L E)) (k = k ∧ 0 ≤ k ∧ k ≤ 140737488355328 ∧ 0 ≤ UpY.fileI (UpY.mk q1 q2 L E nx) ref ∧ UpY.fileI (UpY.mk q1 q2 L E nx) ref < (L.length : Int) ∧ 0 ≤ UpY.fileI (UpY.mk q1 q2 L E nx) ref ∧ UpY.fileI (UpY.mk q1 q2 L E 
 nx) ref < (L.length : Int) ∧ (Ty.ok noTy (ixD noTy L (UpY.fileI (UpY.mk q1 q2 L E nx) ref)) → 0 ≤ UpY.fileI (UpY.mk q1 q2 L E nx) ref ∧ UpY.fileI (UpY.mk q1 q2 L E nx) ref < (L.length : Int) ∧ 0 ≤ UpY.fileI (UpY.mk q1 q2 L E nx) ref ∧ 
 UpY.fileI (UpY.mk q1 q2 L E nx) ref < (L.length : Int) ∧ Q (.v (.c (.k (.int .i64 0)))) [.cells 87 [.k (.int .i64 q1), .k (.int .i64 q2), .o 1, .o 2, .k (.int .i64 nx)], .sl 36 noTy (List.set L (Int.toNat (UpY.fileI (UpY.mk q1 q2 L E nx) 
 ref)) ((ixD noTy L (UpY.fileI (UpY.mk q1 q2 L E nx) ref)).1, (ixD noTy L (UpY.fileI (UpY.mk q1 q2 L E nx) ref)).2.1, (ixD noTy L (UpY.fileI (UpY.mk q1 q2 L E nx) ref)).2.2.1, (ixD noTy L (UpY.fileI (UpY.mk q1 q2 L E nx) ref)).2.2.2.1, copyL 
 (List.replicate (Int.toNat k) (0 : Ty.den Ty.u8)) (0 : Nat) (ixD noTy L (UpY.fileI (UpY.mk q1 q2 L E nx) ref)).2.2.2.2.1, (ixD noTy L (UpY.fileI (UpY.mk q1 q2 L E nx) ref)).2.2.2.2.2)), .sl 119 enTy E])))))
theorem vc_rresize_eq (ref : Int) (k : Int) (q1 : Int) (q2 : Int) (nx : Int) (L : List NoD) (E : List EnD) (Q : SV → List HO → Prop) : vFun XR765 ⟨[], []⟩ Tryz.f42 [.v (.c (.p 0 0)), .int ref, .int k] [.cells 87 [.k (.int .i64 q1), .k (.int .i64 q2), .o 1, .o 2, .k (.int .i64 nx)], .sl 36 noTy L, .sl 119 enTy E] Q = vc_rresize ref k q1 q2 nx L E Q := by kernel_rfl
theorem w_rresize : ∀ args H Q, c_rresize args H Q → Wp Inv Tryz.prog 42 args H Q := by
  intro args H Q h
  unfold c_rresize at h
  split at h
  rotate_left
  · exact h.elim
  rename_i ref k q1 q2 nx L E
  refine Wp.rfN (tU := 87) (tN := 36) (tE := 119) ?_
  refine Wp.enter (X := XR765) XR765_ok ⟨[], []⟩ (fn := Tryz.f42) (by kernel_rfl) ?_
  refine Eq.mpr (vc_rresize_eq ref k q1 q2 nx L E _) ?_
  unfold vc_rresize
  obtain ⟨hp, hq⟩ := h
  have stay : ∀ z : Int, (UpY.mk q1 q2 L E nx).resizeE ref k = z → z ≠ 0 → Q (.int z) (rfo 87 36 119 q1 q2 nx L E) := fun z e hz => by
    have hY : (UpY.mk q1 q2 L E nx).resizeY ref k = (UpY.mk q1 q2 L E nx) := if_neg (by rw [e]; exact hz)
    rw [hY, e] at hq; exact hq
  intro _ _
  refine ⟨rfl, rfl, rfl, rfl, rfl, fun _ => fun _ => br_of (fun h1 => ⟨q1, q2, nx, L, E, 1, 2, ⟨by decide, by decide, by decide, rfl, rfl, rfl⟩, stay _ ?_ ?_⟩) (fun h1 => ?_)⟩
  · unfold UpY.resizeE
    rw [if_neg (by simpa using h1)]
  · simpa using h1
  have h1 : (UpY.mk q1 q2 L E nx).fileE ref = 0 := by simpa using h1
  have hw : (UpY.mk q1 q2 L E nx).resizeE ref k = if k < 0 then 1 else if k > 4096 then 3 else 0 := if_pos h1
  refine br_of (fun h3 => ⟨q1, q2, nx, L, E, 1, 2, ⟨by decide, by decide, by decide, rfl, rfl, rfl⟩, stay 1 ?_ (by decide)⟩) (fun h3 => br_of (fun h4 => ⟨q1, q2, nx, L, E, 1, 2, ⟨by decide, by decide, by decide, rfl, rfl, rfl⟩, stay 3 ?_ (by decide)⟩) (fun h4 => ?_))
  · rw [hw, if_pos (of_decide_eq_true h3)]
  · rw [hw, if_neg (of_decide_eq_false h3), if_pos (of_decide_eq_true h4)]
  have h3 : ¬ k < 0 := of_decide_eq_false h3
  have h4 : ¬ k > 4096 := of_decide_eq_false h4
  have e0 : (UpY.mk q1 q2 L E nx).resizeE ref k = 0 := by rw [hw, if_neg h3, if_neg h4]
  obtain ⟨y0, hy0, hk⟩ := fileE_zero.1 h1
  rcases atI_cases q1 q2 L E nx ref with ⟨gi, gy⟩ | ⟨y, gy, g0, g1, gx⟩
  · rw [hy0] at gy; cases gy
  have hf : (UpY.mk q1 q2 L E nx).fileI ref = idxI (isI ref) L 0 := if_pos h1
  rw [hf, gx]
  have hY : (UpY.mk q1 q2 L E nx).resizeY ref k = UpY.mk q1 q2 (setN L ref (fun n => n.setD (sizeL n.2.2.2.2.1 k))) E nx := if_pos e0
  rw [hY, e0, show (UpY.mk q1 q2 (setN L ref (fun n => n.setD (sizeL n.2.2.2.2.1 k))) E nx).L = L.set (idxI (isI ref) L 0).toNat (((fun n => n.setD (sizeL n.2.2.2.2.1 k))) y) from (setI hp.wf.nd gy (fun n => n.setD (sizeL n.2.2.2.2.1 k))).symm] at hq
  exact ⟨rfl, by omega, by omega, g0, g1, g0, g1, fun _ => ⟨g0, g1, g0, g1, q1, q2, nx, _, E, 1, 2, ⟨by decide, by decide, by decide, rfl, rfl, rfl⟩, hq⟩⟩
def c_rwrite : Ct
  | [.v (.c (.p 0 0)), .v (.c (.k (.int .i64 ref))), .v (.c (.k (.int .i64 off))), .v (.c cb)], [.cells 87 [.k (.int .i64 q1), .k (.int .i64 q2), .o 1, .o 2, .k (.int .i64 nx)], .sl 36 (.pair (.sl .str) (.pair (.int .i64) (.pair (.int .i64) (.pair (.pair (.int .i64) (.pair (.int .i64) (.pair (.int .i64) .unit))) (.pair (.sl .u8) (.pair .str (.pair (.sl (.pair .str (.pair (.sl .u8) .unit))) (.pair .bool .unit)))))))) L, .sl 119 (.pair (.int .i64) (.pair .str (.pair (.int .i64) .unit))) E], Q => (match (Ty.sl Ty.u8).of [cb] with
    | some (b, []) => ((UpY.mk q1 q2 L E nx).OkN 1000000) ∧ Q (.c (.k (.int .i64 ((UpY.mk q1 q2 L E nx).writeE ref off b)))) (rfo 87 36 119 q1 q2 ((UpY.mk q1 q2 L E nx).writeY ref off b).nx ((UpY.mk q1 q2 L E nx).writeY ref off b).L ((UpY.mk q1 q2 L E nx).writeY ref off b).E)
    | _ => False)
  | _, _, _ => False
noncomputable def XR766 : Vx := { P := Tryz.prog, ct := (42, c_rresize) :: XR765.ct, ty := tyTab, hold := [], ro := [83, 85, 123, 84, 90, 81] }
theorem XR766_ok : CtOk Inv Tryz.prog XR766.ct := CtOk.cons w_rresize (XR765_ok)
def vc_rwrite : (Int) → (Int) → (List (Ty.u8).den) → (Int) → (Int) → (Int) → (List NoD) → (List EnD) → (SV → List HO → Prop) → Prop :=
 fun ref off b q1 q2 nx L E Q => inK .i64 ref → inK .i64 off → List.length b ≤ 9223372036854775807 → vq q1 ∧ vq q2 ∧ vq nx ∧ L = L ∧ E = E ∧ (inK .i64 (UpY.fileI (UpY.mk q1 q2 L E nx) ref) → inK .i64 (UpY.fileE (UpY.mk q1 q2 L E nx) ref) → 
 br (UpY.fileE (UpY.mk q1 q2 L E nx) ref != 0) (Q (.v (.c (.k (.int .i64 (UpY.fileE (UpY.mk q1 q2 L E nx) ref))))) (rfs 87 36 119 q1 q2 nx L E)) (br (decide (off < 0)) (Q (.v (.c (.k (.int .i64 1)))) (rfs 87 36 119 q1 q2 nx L E)) (br (decide 
 (off > 4096)) (Q (.v (.c (.k (.int .i64 3)))) (rfs 87 36 119 q1 q2 nx L E)) (List.length b ≤ 9223372036854775807 → inK .i64 (4096 - off) ∧ br (decide ((b.length : Int) > 4096 - off)) (Q (.v (.c (.k (.int .i64 3)))) (rfs 87 36 119 q1 q2 nx L 
 E)) (List.length b ≤ 9223372036854775807 → br ((b.length : Int) == 0) (Q (.v (.c (.k (.int .i64 0)))) (rfs 87 36 119 q1 q2 nx L E)) (0 ≤ UpY.fileI (UpY.mk q1 q2 L E nx) ref ∧ UpY.fileI (UpY.mk q1 q2 L E nx) ref < (L.length : Int) ∧ 0 ≤ 
 UpY.fileI (UpY.mk q1 q2 L E nx) ref ∧ UpY.fileI (UpY.mk q1 q2 L E nx) ref < (L.length : Int) ∧ (Ty.ok noTy (ixD noTy L (UpY.fileI (UpY.mk q1 q2 L E nx) ref)) → List.length (ixD noTy L (UpY.fileI (UpY.mk q1 q2 L E nx) ref)).2.2.2.2.1 ≤ 
 9223372036854775807 → List.length b ≤ 9223372036854775807 → inK .i64 (off + (b.length : Int)) ∧ ((if false = true then min (↑(List.length (ixD noTy L (UpY.fileI (UpY.mk q1 q2 L E nx) ref)).2.2.2.2.1) : Int) (off + (b.length : Int)) else max 
 (↑(List.length (ixD noTy L (UpY.fileI (UpY.mk q1 q2 L E nx) ref)).2.2.2.2.1) : Int) (off + (b.length : Int))) = if false = true then min (↑(List.length (ixD noTy L (UpY.fileI (UpY.mk q1 q2 L E nx) ref)).2.2.2.2.1) : Int) (off + (b.length : 
 Int)) else max (↑(List.length (ixD noTy L (UpY.fileI (UpY.mk q1 q2 L E nx) ref)).2.2.2.2.1) : Int) (off + (b.length : Int))) ∧ (0 ≤ if false = true then min (↑(List.length (ixD noTy L (UpY.fileI (UpY.mk q1 q2 L E nx) ref)).2.2.2.2.1) : Int) 
 (off + (b.length : Int)) else max (↑(List.length (ixD noTy L (UpY.fileI (UpY.mk q1 q2 L E nx) ref)).2.2.2.2.1) : Int) (off + (b.length : Int))) ∧ (if false = true then min (↑(List.length (ixD noTy L (UpY.fileI (UpY.mk q1 q2 L E nx) 
 ref)).2.2.2.2.1) : Int) (off + (b.length : Int)) else max (↑(List.length (ixD noTy L (UpY.fileI (UpY.mk q1 q2 L E nx) ref)).2.2.2.2.1) : Int) (off + (b.length : Int))) ≤ 140737488355328 ∧ 0 ≤ UpY.fileI (UpY.mk q1 q2 L E nx) ref ∧ UpY.fileI 
 (UpY.mk q1 q2 L E nx) ref < (L.length : Int) ∧ 0 ≤ UpY.fileI (UpY.mk q1 q2 L E nx) ref ∧ UpY.fileI (UpY.mk q1 q2 L E nx) ref < (L.length : Int) ∧ (Ty.ok noTy (ixD noTy L (UpY.fileI (UpY.mk q1 q2 L E nx) ref)) → 0 ≤ boundV (some off) 0 ∧ 
 boundV (some off) 0 ≤ boundV none (↑(List.length (copyL (List.replicate (Int.toNat (if false = true then min (↑(List.length (ixD noTy L (UpY.fileI (UpY.mk q1 q2 L E nx) ref)).2.2.2.2.1) : Int) (off + (b.length : Int)) else max 
 (↑(List.length (ixD noTy L (UpY.fileI (UpY.mk q1 q2 L E nx) ref)).2.2.2.2.1) : Int) (off + (b.length : Int)))) (0 : Ty.den Ty.u8)) (0 : Nat) (ixD noTy L (UpY.fileI (UpY.mk q1 q2 L E nx) ref)).2.2.2.2.1)) : Int) ∧ boundV none (↑(List.length 
 (copyL (List.replicate (Int.toNat (if false = true then min (↑(List.length (ixD noTy L (UpY.fileI (UpY.mk q1 q2 L E nx) ref)).2.2.2.2.1) : Int) (off + (b.length : Int)) else max (↑(List.length (ixD noTy L (UpY.fileI (UpY.mk q1 q2 L E nx) 
 ref)).2.2.2.2.1) : Int) (off + (b.length : Int)))) (0 : Ty.den Ty.u8)) (0 : Nat) (ixD noTy L (UpY.fileI (UpY.mk q1 q2 L E nx) ref)).2.2.2.2.1)) : Int) ≤ (↑(List.length (copyL (List.replicate (Int.toNat (if false = true then min 
 (↑(List.length (ixD noTy L (UpY.fileI (UpY.mk q1 q2 L E nx) ref)).2.2.2.2.1) : Int) (off + (b.length : Int)) else max (↑(List.length (ixD noTy L (UpY.fileI (UpY.mk q1 q2 L E nx) ref)).2.2.2.2.1) : Int) (off + (b.length : Int)))) (0 : Ty.den 
 Ty.u8)) (0 : Nat) (ixD noTy L (UpY.fileI (UpY.mk q1 q2 L E nx) ref)).2.2.2.2.1)) : Int) ∧ 0 ≤ boundV (some off) 0 ∧ boundV (some off) 0 ≤ (↑(List.length (copyL (List.replicate (Int.toNat (if false = true then min (↑(List.length (ixD noTy L 
 (UpY.fileI (UpY.mk q1 q2 L E nx) ref)).2.2.2.2.1) : Int) (off + (b.length : Int)) else max (↑(List.length (ixD noTy L (UpY.fileI (UpY.mk q1 q2 L E nx) ref)).2.2.2.2.1) : Int) (off + (b.length : Int)))) (0 : Ty.den Ty.u8)) (0 : Nat) (ixD 
 noTy L (UpY.fileI (UpY.mk q1 q2 L E nx) ref)).2.2.2.2.1)) : Int) ∧ boundV none (↑(List.length (copyL (List.replicate (Int.toNat (if false = true then min (↑(List.length (ixD noTy L (UpY.fileI (UpY.mk q1 q2 L E nx) ref)).2.2.2.2.1) : Int) 
 (off + (b.length : Int)) else max (↑(List.length (ixD noTy L (UpY.fileI (UpY.mk q1 q2 L E nx) ref)).2.2.2.2.1) : Int) (off + (b.length : Int)))) (0 : Ty.den Ty.u8)) (0 : Nat) (ixD noTy L (UpY.fileI (UpY.mk q1 q2 L E nx) ref)).2.2.2.2.1)) : 
 Int) = (↑(List.length (copyL (List.replicate (Int.toNat (if false = true then min (↑(List.length (ixD noTy L (UpY.fileI (UpY.mk q1 q2 L E nx) ref)).2.2.2.2.1) : Int) (off + (b.length : Int)) else max (↑(List.length (ixD noTy L (UpY.fileI 
 (UpY.mk q1 q2 L E nx) ref)).2.2.2.2.1) : Int) (off + (b.length : Int)))) (0 : Ty.den Ty.u8)) (0 : Nat) (ixD noTy L (UpY.fileI (UpY.mk q1 q2 L E nx) ref)).2.2.2.2.1)) : Int) ∧ 0 ≤ UpY.fileI (UpY.mk q1 q2 L E nx) ref ∧ UpY.fileI (UpY.mk q1 q2 
 L E nx) ref < (L.length : Int) ∧ 0 ≤ UpY.fileI (UpY.mk q1 q2 L E nx) ref ∧ UpY.fileI (UpY.mk q1 q2 L E nx) ref < (L.length : Int) ∧ Q (.v (.c (.k (.int .i64 0)))) [.cells 87 [.k (.int .i64 q1), .k (.int .i64 q2), .o 1, .o 2, .k (.int .i64 
 nx)], .sl 36 noTy (List.set L (Int.toNat (UpY.fileI (UpY.mk q1 q2 L E nx) ref)) ((ixD noTy L (UpY.fileI (UpY.mk q1 q2 L E nx) ref)).1, (ixD noTy L (UpY.fileI (UpY.mk q1 q2 L E nx) ref)).2.1, (ixD noTy L (UpY.fileI (UpY.mk q1 q2 L E nx) 
 ref)).2.2.1, (ixD noTy L (UpY.fileI (UpY.mk q1 q2 L E nx) ref)).2.2.2.1, copyL (copyL (List.replicate (Int.toNat (if false = true then min (↑(List.length (ixD noTy L (UpY.fileI (UpY.mk q1 q2 L E nx) ref)).2.2.2.2.1) : Int) (off + (b.length 
 : Int)) else max (↑(List.length (ixD noTy L (UpY.fileI (UpY.mk q1 q2 L E nx) ref)).2.2.2.2.1) : Int) (off + (b.length : Int)))) (0 : Ty.den Ty.u8)) (0 : Nat) (ixD noTy L (UpY.fileI (UpY.mk q1 q2 L E nx) ref)).2.2.2.2.1) (Int.toNat (boundV 
 (some off) 0)) b, (ixD noTy L (UpY.fileI (UpY.mk q1 q2 L E nx) ref)).2.2.2.2.2)), .sl 119 enTy E]))))))))
theorem vc_rwrite_eq (ref : Int) (off : Int) (b : List (Ty.u8).den) (q1 : Int) (q2 : Int) (nx : Int) (L : List NoD) (E : List EnD) (Q : SV → List HO → Prop) : vFun XR766 ⟨[], []⟩ Tryz.f40 [.v (.c (.p 0 0)), .int ref, .int off, .c (.d Ty.u8 b)] [.cells 87 [.k (.int .i64 q1), .k (.int .i64 q2), .o 1, .o 2, .k (.int .i64 nx)], .sl 36 noTy L, .sl 119 enTy E] Q = vc_rwrite ref off b q1 q2 nx L E Q := by kernel_rfl
theorem w_rwrite : ∀ args H Q, c_rwrite args H Q → Wp Inv Tryz.prog 40 args H Q := by
  intro args H Q h
  unfold c_rwrite at h
  split at h
  rotate_left
  · exact h.elim
  rename_i ref off cb q1 q2 nx L E
  split at h
  rotate_left
  · exact h.elim
  rename_i b hb
  refine Wp.said (args' := [.v (.c (.p 0 0)), .int ref, .int off, .c (.d Ty.u8 b)]) (fun E g => RelVs.cons1 (fun _ h => h) (RelVs.cons1 (fun _ h => h) (RelVs.cons1 (fun _ h => h) (RelVs.cons1 (of_list hb) (fun _ h => h))))) ?_
  clear hb
  refine Wp.rfN (tU := 87) (tN := 36) (tE := 119) ?_
  refine Wp.enter (X := XR766) XR766_ok ⟨[], []⟩ (fn := Tryz.f40) (by kernel_rfl) ?_
  refine Eq.mpr (vc_rwrite_eq ref off b q1 q2 nx L E _) ?_
  unfold vc_rwrite
  obtain ⟨hp, hq⟩ := h
  have stay : ∀ z : Int, (UpY.mk q1 q2 L E nx).writeE ref off b = z → z ≠ 0 ∨ b = [] → Q (.int z) (rfo 87 36 119 q1 q2 nx L E) := fun z e hx => by
    have hY : (UpY.mk q1 q2 L E nx).writeY ref off b = (UpY.mk q1 q2 L E nx) := if_neg (by
      rw [e]
      rintro ⟨h1, h2⟩
      rcases hx with hx | hx
      · exact hx h1
      · exact h2 hx)
    rw [hY, e] at hq; exact hq
  intro _ _ _
  refine ⟨rfl, rfl, rfl, rfl, rfl, fun _ => fun _ => br_of (fun h1 => ⟨q1, q2, nx, L, E, 1, 2, ⟨by decide, by decide, by decide, rfl, rfl, rfl⟩, stay _ ?_ ?_⟩) (fun h1 => ?_)⟩
  · unfold UpY.writeE
    rw [if_neg (by simpa using h1)]
  · exact .inl (by simpa using h1)
  have h1 : (UpY.mk q1 q2 L E nx).fileE ref = 0 := by simpa using h1
  have hw : (UpY.mk q1 q2 L E nx).writeE ref off b = if off < 0 then 1 else if off > 4096 ∨ (b.length : Int) > 4096 - off then 3 else 0 := if_pos h1
  refine br_of (fun h3 => ⟨q1, q2, nx, L, E, 1, 2, ⟨by decide, by decide, by decide, rfl, rfl, rfl⟩, stay 1 ?_ (.inl (by decide))⟩) (fun h3 => br_of (fun h4 => ⟨q1, q2, nx, L, E, 1, 2, ⟨by decide, by decide, by decide, rfl, rfl, rfl⟩, stay 3 ?_ (.inl (by decide))⟩) (fun h4 => fun _ => ?_))
  · rw [hw, if_pos (of_decide_eq_true h3)]
  · rw [hw, if_neg (of_decide_eq_false h3), if_pos (.inl (of_decide_eq_true h4))]
  have h3 : ¬ off < 0 := of_decide_eq_false h3
  have h4 : ¬ off > 4096 := of_decide_eq_false h4
  refine ⟨by unfold inK; omega, br_of (fun h5 => ⟨q1, q2, nx, L, E, 1, 2, ⟨by decide, by decide, by decide, rfl, rfl, rfl⟩, stay 3 ?_ (.inl (by decide))⟩) (fun h5 => fun _ => br_of (fun h6 => ⟨q1, q2, nx, L, E, 1, 2, ⟨by decide, by decide, by decide, rfl, rfl, rfl⟩, stay 0 ?_ (.inr ?_)⟩) (fun h6 => ?_))⟩
  · rw [hw, if_neg h3, if_pos (.inr (of_decide_eq_true h5))]
  · rw [hw, if_neg h3, if_neg (by rintro (q | q); exact h4 q; exact of_decide_eq_false h5 q)]
  · have h6 : (b.length : Int) = 0 := by simpa using h6
    exact List.eq_nil_of_length_eq_zero (by omega)
  have h5 : ¬ (b.length : Int) > 4096 - off := of_decide_eq_false h5
  have hb : b ≠ [] := fun e => by subst e; simp at h6
  have e0 : (UpY.mk q1 q2 L E nx).writeE ref off b = 0 := by rw [hw, if_neg h3, if_neg (by rintro (q | q); exact h4 q; exact h5 q)]
  obtain ⟨y0, hy0, hk⟩ := fileE_zero.1 h1
  rcases atI_cases q1 q2 L E nx ref with ⟨gi, gy⟩ | ⟨y, gy, g0, g1, gx⟩
  · rw [hy0] at gy; cases gy
  have hlen := (mayN_lens (hp.wf.nm y (at_mem gy).1).2.2).1
  have hf : (UpY.mk q1 q2 L E nx).fileI ref = idxI (isI ref) L 0 := if_pos h1
  have hs := sizeL_len y.2.2.2.2.1 (max (y.2.2.2.2.1.length : Int) (off + b.length))
  unfold sizeL at hs
  have hY : (UpY.mk q1 q2 L E nx).writeY ref off b = UpY.mk q1 q2 (setN L ref (fun n => n.setD (writeL n.2.2.2.2.1 off b))) E nx := if_pos ⟨e0, hb⟩
  rw [hY, e0, show (UpY.mk q1 q2 (setN L ref (fun n => n.setD (writeL n.2.2.2.2.1 off b))) E nx).L = L.set (idxI (isI ref) L 0).toNat (((fun n => n.setD (writeL n.2.2.2.2.1 off b))) y) from (setI hp.wf.nd gy (fun n => n.setD (writeL n.2.2.2.2.1 off b))).symm] at hq
  simp only [hf, gx, Bool.false_eq_true, if_false]
  refine ⟨g0, g1, g0, g1, fun _ _ _ => ?_⟩
  repeat (refine ⟨by (first | exact True.intro | rfl | omega | (unfold inK; omega) | (simp only [boundV]; omega) | (simp only [boundV, List.length_append, List.length_take, List.length_drop, List.length_nil]; omega) | (simp only [boundV, List.length_append, List.length_take, List.length_drop, List.length_cons, List.length_nil]; omega)), ?_⟩)
  intro _
  refine ⟨?_, ?_, ?_, ?_, ?_, ?_, g0, g1, g0, g1, q1, q2, nx, _, E, 1, 2, ⟨by decide, by decide, by decide, rfl, rfl, rfl⟩, hq⟩
  all_goals (first | trivial | (simp only [boundV]; omega) | (simp only [boundV, hs]; omega))
def c_rmove : Ct
  | [.v (.c (.p 0 0)), .v (.c (.k (.int .i64 d))), .v (.c (.k (.string s))), .v (.c (.k (.int .i64 to))), .v (.c (.k (.string now)))], [.cells 87 [.k (.int .i64 q1), .k (.int .i64 q2), .o 1, .o 2, .k (.int .i64 nx)], .sl 36 (.pair (.sl .str) (.pair (.int .i64) (.pair (.int .i64) (.pair (.pair (.int .i64) (.pair (.int .i64) (.pair (.int .i64) .unit))) (.pair (.sl .u8) (.pair .str (.pair (.sl (.pair .str (.pair (.sl .u8) .unit))) (.pair .bool .unit)))))))) L, .sl 119 (.pair (.int .i64) (.pair .str (.pair (.int .i64) .unit))) E], Q => ((UpY.mk q1 q2 L E nx).OkN 1000000) ∧ Q (.c (.k (.int .i64 ((UpY.mk q1 q2 L E nx).moveE d s to now)))) (rfo 87 36 119 q1 q2 ((UpY.mk q1 q2 L E nx).moveY d s to now).nx ((UpY.mk q1 q2 L E nx).moveY d s to now).L ((UpY.mk q1 q2 L E nx).moveY d s to now).E)
  | _, _, _ => False
noncomputable def XR767 : Vx := { P := Tryz.prog, ct := (40, c_rwrite) :: XR766.ct, ty := tyTab, hold := [], ro := [83, 85, 123, 84, 90, 81] }
theorem XR767_ok : CtOk Inv Tryz.prog XR767.ct := CtOk.cons w_rwrite (XR766_ok)
def vc_rmove : (Int) → (ByteArray) → (Int) → (ByteArray) → (Int) → (Int) → (Int) → (List NoD) → (List EnD) → (SV → List HO → Prop) → Prop :=
 fun d s to now q1 q2 nx L E Q => inK .i64 d → ByteArray.size s ≤ 9223372036854775807 → inK .i64 to → ByteArray.size now ≤ 9223372036854775807 → vq q1 ∧ vq q2 ∧ vq nx ∧ L = L ∧ E = E ∧ (inK .i64 (idxI (isI d) L (0 : Int)) → br (decide (idxI 
 (isI d) L (0 : Int) < (0 : Int))) (Q (.v (.c (.k (.int .i64 1)))) (rfs 87 36 119 q1 q2 nx L E)) (vq q1 ∧ vq q2 ∧ vq nx ∧ L = L ∧ E = E ∧ (inK .i64 (idxI (isI to) L (0 : Int)) → br (decide (idxI (isI to) L (0 : Int) < (0 : Int))) (Q (.v (.c 
 (.k (.int .i64 1)))) (rfs 87 36 119 q1 q2 nx L E)) (vq q1 ∧ vq q2 ∧ vq nx ∧ L = L ∧ E = E ∧ (inK .i64 (UpY.dirE (UpY.mk q1 q2 L E nx) d) → br (UpY.dirE (UpY.mk q1 q2 L E nx) d != 0) (Q (.v (.c (.k (.int .i64 (UpY.dirE (UpY.mk q1 q2 L E nx) 
 d))))) (rfs 87 36 119 q1 q2 nx L E)) (vq q1 ∧ vq q2 ∧ vq nx ∧ L = L ∧ E = E ∧ (inK .i64 (UpY.dirE (UpY.mk q1 q2 L E nx) to) → br (UpY.dirE (UpY.mk q1 q2 L E nx) to != 0) (Q (.v (.c (.k (.int .i64 (UpY.dirE (UpY.mk q1 q2 L E nx) to))))) (rfs 
 87 36 119 q1 q2 nx L E)) (vq q1 ∧ vq q2 ∧ vq nx ∧ L = L ∧ E = E ∧ (inK .i64 (idxI (isE d s) E (0 : Int)) → br (decide (idxI (isE d s) E (0 : Int) < (0 : Int))) (Q (.v (.c (.k (.int .i64 20)))) (rfs 87 36 119 q1 q2 nx L E)) (vq q1 ∧ vq q2 ∧ 
 vq nx ∧ L = L ∧ E = E ∧ (inK .i64 (UpY.freshE (UpY.mk q1 q2 L E nx) to now) → br (UpY.freshE (UpY.mk q1 q2 L E nx) to now != 0) (Q (.v (.c (.k (.int .i64 (UpY.freshE (UpY.mk q1 q2 L E nx) to now))))) (rfs 87 36 119 q1 q2 nx L E)) (0 ≤ idxI 
 (isE d s) E (0 : Int) ∧ idxI (isE d s) E (0 : Int) < (E.length : Int) ∧ 0 ≤ idxI (isE d s) E (0 : Int) ∧ idxI (isE d s) E (0 : Int) < (E.length : Int) ∧ (Ty.ok enTy (ixD enTy E (idxI (isE d s) E (0 : Int))) → UpY.Wf (UpY.mk q1 q2 L E nx) ∧ 
 UpY.dirE (UpY.mk q1 q2 L E nx) to = (0 : Int) ∧ br (UpY.below (UpY.mk q1 q2 L E nx) (ixD enTy E (idxI (isE d s) E (0 : Int))).2.2.1 to) (Q (.v (.c (.k (.int .i64 30)))) (rfs 87 36 119 q1 q2 nx L E)) (0 ≤ boundV none 0 ∧ boundV none 0 ≤ 
 boundV (some (idxI (isE d s) E (0 : Int))) (E.length : Int) ∧ boundV (some (idxI (isE d s) E (0 : Int))) (E.length : Int) ≤ (E.length : Int) ∧ inK .i64 (idxI (isE d s) E (0 : Int) + 1) ∧ 0 ≤ boundV (some (idxI (isE d s) E (0 : Int) + 1)) (0 
 : Int) ∧ boundV (some (idxI (isE d s) E (0 : Int) + 1)) 0 ≤ boundV none (E.length : Int) ∧ boundV none (E.length : Int) ≤ (E.length : Int) ∧ 0 ≤ boundV none 0 ∧ boundV none 0 ≤ boundV (some (idxI (isE d s) E (0 : Int))) (E.length : Int) ∧ 
 boundV (some (idxI (isE d s) E (0 : Int))) (E.length : Int) ≤ (E.length : Int) ∧ (0 + List.length (List.take (Int.toNat (boundV (some (idxI (isE d s) E (0 : Int))) (E.length : Int)) - 0) (List.drop 0 E))) * 32 ≤ 140737488355328 ∧ 0 + 
 List.length (List.take (Int.toNat (boundV (some (idxI (isE d s) E (0 : Int))) (E.length : Int)) - 0) (List.drop 0 E)) ≤ 9223372036854775807 ∧ 0 ≤ boundV (some (idxI (isE d s) E (0 : Int) + 1)) (0 : Int) ∧ boundV (some (idxI (isE d s) E (0 : 
 Int) + 1)) 0 ≤ boundV none (E.length : Int) ∧ boundV none (E.length : Int) ≤ (E.length : Int) ∧ (List.length ([] ++ List.take (Int.toNat (boundV (some (idxI (isE d s) E (0 : Int))) (E.length : Int)) - 0) (List.drop 0 E)) + List.length 
 (List.take (Int.toNat (boundV none (E.length : Int)) - Int.toNat (boundV (some (idxI (isE d s) E (0 : Int) + 1)) (0 : Int))) (List.drop (Int.toNat (boundV (some (idxI (isE d s) E (0 : Int) + 1)) (0 : Int))) E))) * 32 ≤ 140737488355328 ∧ 
 List.length ([] ++ List.take (Int.toNat (boundV (some (idxI (isE d s) E (0 : Int))) (E.length : Int)) - 0) (List.drop 0 E)) + List.length (List.take (Int.toNat (boundV none (E.length : Int)) - Int.toNat (boundV (some (idxI (isE d s) E (0 : 
 Int) + 1)) (0 : Int))) (List.drop (Int.toNat (boundV (some (idxI (isE d s) E (0 : Int) + 1)) (0 : Int))) E)) ≤ 9223372036854775807 ∧ (List.length ([] ++ List.take (Int.toNat (boundV (some (idxI (isE d s) E (0 : Int))) (E.length : Int)) - 0) 
 (List.drop 0 E) ++ List.take (Int.toNat (boundV none (E.length : Int)) - Int.toNat (boundV (some (idxI (isE d s) E (0 : Int) + 1)) (0 : Int))) (List.drop (Int.toNat (boundV (some (idxI (isE d s) E (0 : Int) + 1)) (0 : Int))) E)) + 
 List.length [(to, now, (ixD enTy E (idxI (isE d s) E (0 : Int))).2.2)]) * 32 ≤ 140737488355328 ∧ List.length ([] ++ List.take (Int.toNat (boundV (some (idxI (isE d s) E (0 : Int))) (E.length : Int)) - 0) (List.drop 0 E) ++ List.take 
 (Int.toNat (boundV none (E.length : Int)) - Int.toNat (boundV (some (idxI (isE d s) E (0 : Int) + 1)) (0 : Int))) (List.drop (Int.toNat (boundV (some (idxI (isE d s) E (0 : Int) + 1)) (0 : Int))) E)) + List.length [(to, now, (ixD enTy E 
 (idxI (isE d s) E (0 : Int))).2.2)] ≤ 9223372036854775807 ∧ Q (.v (.c (.k (.int .i64 0)))) [.cells 87 [.k (.int .i64 q1), .k (.int .i64 q2), .o 1, .o 3, .k (.int .i64 nx)], .sl 36 noTy L, .sl 119 enTy E, .sl 119 enTy ([] ++ List.take 
 (Int.toNat (boundV (some (idxI (isE d s) E (0 : Int))) (E.length : Int)) - 0) (List.drop 0 E) ++ List.take (Int.toNat (boundV none (E.length : Int)) - Int.toNat (boundV (some (idxI (isE d s) E (0 : Int) + 1)) (0 : Int))) (List.drop 
 (Int.toNat (boundV (some (idxI (isE d s) E (0 : Int) + 1)) (0 : Int))) E) ++ [(to, now, (ixD enTy E (idxI (isE d s) E (0 : Int))).2.2)])]))))))))))))))
theorem vc_rmove_eq (d : Int) (s : ByteArray) (to : Int) (now : ByteArray) (q1 : Int) (q2 : Int) (nx : Int) (L : List NoD) (E : List EnD) (Q : SV → List HO → Prop) : vFun XR767 ⟨[], []⟩ Tryz.f39 [.v (.c (.p 0 0)), .int d, .str s, .int to, .str now] [.cells 87 [.k (.int .i64 q1), .k (.int .i64 q2), .o 1, .o 2, .k (.int .i64 nx)], .sl 36 noTy L, .sl 119 enTy E] Q = vc_rmove d s to now q1 q2 nx L E Q := by kernel_rfl
theorem w_rmove : ∀ args H Q, c_rmove args H Q → Wp Inv Tryz.prog 39 args H Q := by
  intro args H Q h
  unfold c_rmove at h
  split at h
  rotate_left
  · exact h.elim
  rename_i d s to now q1 q2 nx L E
  refine Wp.rfN (tU := 87) (tN := 36) (tE := 119) ?_
  refine Wp.enter (X := XR767) XR767_ok ⟨[], []⟩ (fn := Tryz.f39) (by kernel_rfl) ?_
  refine Eq.mpr (vc_rmove_eq d s to now q1 q2 nx L E _) ?_
  unfold vc_rmove
  obtain ⟨hp, hq⟩ := h
  have stay : ∀ z : Int, (UpY.mk q1 q2 L E nx).moveE d s to now = z → z ≠ 0 → Q (.int z) (rfo 87 36 119 q1 q2 nx L E) := fun z e hz => by
    have hY : (UpY.mk q1 q2 L E nx).moveY d s to now = (UpY.mk q1 q2 L E nx) := if_neg (by rw [e]; exact hz)
    rw [hY, e] at hq; exact hq
  have hen := hp.en
  have w := hp.wf
  simp only at hen
  intro _ _ _ _
  refine ⟨rfl, rfl, rfl, rfl, rfl, fun _ => ?_⟩
  rcases atI_cases q1 q2 L E nx d with ⟨gi, gy⟩ | ⟨yd, gy, g0, g1, gx⟩
  · refine br_of (fun _ => ⟨q1, q2, nx, L, E, 1, 2, ⟨by decide, by decide, by decide, rfl, rfl, rfl⟩, stay 1 ?_ (by decide)⟩) (fun h2 => absurd gi (of_decide_eq_false h2))
    unfold UpY.moveE UpY.atE
    rw [dirE_none gy]
    cases (UpY.mk q1 q2 L E nx).at to <;> rfl
  refine br_of (fun h2 => absurd (of_decide_eq_true h2) (by omega)) (fun _ => ⟨rfl, rfl, rfl, rfl, rfl, fun _ => ?_⟩)
  rcases atI_cases q1 q2 L E nx to with ⟨ti, ty⟩ | ⟨yt, ty, t0, t1, tx⟩
  · refine br_of (fun _ => ⟨q1, q2, nx, L, E, 1, 2, ⟨by decide, by decide, by decide, rfl, rfl, rfl⟩, stay 1 ?_ (by decide)⟩) (fun h2 => absurd ti (of_decide_eq_false h2))
    unfold UpY.moveE UpY.atE
    rw [ty]; rfl
  have hat : (UpY.mk q1 q2 L E nx).atE to = 0 := atE_zero.2 ⟨yt, ty⟩
  have hmv : (UpY.mk q1 q2 L E nx).moveE d s to now = if (UpY.mk q1 q2 L E nx).dirE d ≠ 0 then (UpY.mk q1 q2 L E nx).dirE d else if (UpY.mk q1 q2 L E nx).dirE to ≠ 0 then (UpY.mk q1 q2 L E nx).dirE to else match (UpY.mk q1 q2 L E nx).ent d s with
      | none => 20
      | some e => if (UpY.mk q1 q2 L E nx).freshE to now ≠ 0 then (UpY.mk q1 q2 L E nx).freshE to now else if (UpY.mk q1 q2 L E nx).below e.2.2.1 to then 30 else 0 := by
    unfold UpY.moveE
    rw [if_neg (by rw [hat]; decide)]
    cases (UpY.mk q1 q2 L E nx).ent d s <;> rfl
  refine br_of (fun h2 => absurd (of_decide_eq_true h2) (by omega)) (fun _ => ⟨rfl, rfl, rfl, rfl, rfl, fun _ => br_of (fun h3 => ⟨q1, q2, nx, L, E, 1, 2, ⟨by decide, by decide, by decide, rfl, rfl, rfl⟩, stay _ ?_ ?_⟩) (fun h3 => ⟨rfl, rfl, rfl, rfl, rfl, fun _ => br_of (fun h4 => ⟨q1, q2, nx, L, E, 1, 2, ⟨by decide, by decide, by decide, rfl, rfl, rfl⟩, stay _ ?_ ?_⟩) (fun h4 => ⟨rfl, rfl, rfl, rfl, rfl, fun _ => ?_⟩)⟩)⟩)
  · rw [hmv, if_pos (by simpa using h3)]
  · simpa using h3
  · rw [hmv, if_neg (by simpa using h3), if_pos (by simpa using h4)]
  · simpa using h4
  have h4 : (UpY.mk q1 q2 L E nx).dirE to = 0 := by simpa using h4
  rw [if_neg (by simpa using h3), if_neg (by rw [h4]; decide)] at hmv
  rcases inI_cases q1 q2 L E nx d s with ⟨ei, ey⟩ | ⟨e, ey, e0, e1, ex⟩
  · rw [ey] at hmv
    exact br_of (fun _ => ⟨q1, q2, nx, L, E, 1, 2, ⟨by decide, by decide, by decide, rfl, rfl, rfl⟩, stay 20 hmv (by decide)⟩) (fun h2 => absurd ei (of_decide_eq_false h2))
  rw [ey] at hmv
  simp only at hmv
  refine br_of (fun h2 => absurd (of_decide_eq_true h2) (by omega)) (fun _ => ⟨rfl, rfl, rfl, rfl, rfl, fun _ => br_of (fun h5 => ⟨q1, q2, nx, L, E, 1, 2, ⟨by decide, by decide, by decide, rfl, rfl, rfl⟩, stay _ ?_ ?_⟩) (fun h5 => ⟨e0, e1, e0, e1, fun _ => ⟨w, h4, ?_⟩⟩)⟩)
  · rw [hmv, if_pos (by simpa using h5)]
  · simpa using h5
  rw [if_neg (by simpa using h5)] at hmv
  rw [ex]
  refine br_of (fun h6 => ⟨q1, q2, nx, L, E, 1, 2, ⟨by decide, by decide, by decide, rfl, rfl, rfl⟩, stay 30 ?_ (by decide)⟩) (fun h6 => ?_)
  · rw [hmv, if_pos h6]
  rw [if_neg (by rw [h6]; decide)] at hmv
  have hY : (UpY.mk q1 q2 L E nx).moveY d s to now = UpY.mk q1 q2 L ((E.filter fun e => !isE d s e) ++ [(to, now, e.2.2.1, ())]) nx := by
    unfold UpY.moveY
    rw [if_pos hmv, ey]
  rw [hY, hmv] at hq
  have hcut : [] ++ List.take (Int.toNat (boundV (some (idxI (isE d s) E 0)) (List.length E : Int)) - 0) (List.drop 0 E) ++ List.take (Int.toNat (boundV none (List.length E : Int)) - Int.toNat (boundV (some ((idxI (isE d s) E 0) + 1)) 0)) (List.drop (Int.toNat (boundV (some ((idxI (isE d s) E 0) + 1)) 0)) E) = E.filter fun e => !isE d s e := by rw [← cutE w ey]; exact cutV e0
  have hfl : (E.filter fun e => !isE d s e).length ≤ E.length := List.length_filter_le ..
  simp only [hcut]
  iterate 19 (refine ⟨by (first | exact True.intro | rfl | omega | (unfold inK; omega) | (simp only [boundV]; omega) | (simp only [boundV, List.length_append, List.length_take, List.length_drop, List.length_nil]; omega) | (simp only [boundV, List.length_append, List.length_take, List.length_drop, List.length_cons, List.length_nil]; omega)), ?_⟩)
  exact ⟨q1, q2, nx, L, _, 1, 3, ⟨by decide, by decide, by decide, rfl, rfl, rfl⟩, hq⟩
end Go.Proofs

namespace Go.Proofs
open Go Go.Lm Go.RowKit
set_option maxRecDepth 1000000
def c_rremove : Ct
  | [.v (.c (.p 0 0)), .v (.c (.k (.int .i64 d))), .v (.c (.k (.string s)))], [.cells 87 [.k (.int .i64 q1), .k (.int .i64 q2), .o 1, .o 2, .k (.int .i64 nx)], .sl 36 (.pair (.sl .str) (.pair (.int .i64) (.pair (.int .i64) (.pair (.pair (.int .i64) (.pair (.int .i64) (.pair (.int .i64) .unit))) (.pair (.sl .u8) (.pair .str (.pair (.sl (.pair .str (.pair (.sl .u8) .unit))) (.pair .bool .unit)))))))) L, .sl 119 (.pair (.int .i64) (.pair .str (.pair (.int .i64) .unit))) E], Q => ((UpY.mk q1 q2 L E nx).OkN 1000000) ∧ Q (.c (.k (.int .i64 ((UpY.mk q1 q2 L E nx).removeE d s)))) (rfo 87 36 119 q1 q2 ((UpY.mk q1 q2 L E nx).removeY d s).nx ((UpY.mk q1 q2 L E nx).removeY d s).L ((UpY.mk q1 q2 L E nx).removeY d s).E)
  | _, _, _ => False
noncomputable def XR868 : Vx := { P := Tryz.prog, ct := (39, c_rmove) :: XR767.ct, ty := tyTab, hold := [], ro := [83, 85, 123, 84, 90, 81] }
theorem XR868_ok : CtOk Inv Tryz.prog XR868.ct := CtOk.cons w_rmove (XR767_ok)
def vc_rremove : (Int) → (ByteArray) → (Int) → (Int) → (Int) → (List NoD) → (List EnD) → (SV → List HO → Prop) → Prop :=
 fun d s q1 q2 nx L E Q => inK .i64 d → ByteArray.size s ≤ 9223372036854775807 → vq q1 ∧ vq q2 ∧ vq nx ∧ L = L ∧ E = E ∧ (inK .i64 (UpY.dirE (UpY.mk q1 q2 L E nx) d) → br (UpY.dirE (UpY.mk q1 q2 L E nx) d != 0) (Q (.v (.c (.k (.int .i64 
 (UpY.dirE (UpY.mk q1 q2 L E nx) d))))) (rfs 87 36 119 q1 q2 nx L E)) (vq q1 ∧ vq q2 ∧ vq nx ∧ L = L ∧ E = E ∧ (inK .i64 (idxI (isE d s) E (0 : Int)) → br (decide (idxI (isE d s) E (0 : Int) < (0 : Int))) (Q (.v (.c (.k (.int .i64 20)))) 
 (rfs 87 36 119 q1 q2 nx L E)) (0 ≤ idxI (isE d s) E (0 : Int) ∧ idxI (isE d s) E (0 : Int) < (E.length : Int) ∧ 0 ≤ idxI (isE d s) E (0 : Int) ∧ idxI (isE d s) E (0 : Int) < (E.length : Int) ∧ (Ty.ok enTy (ixD enTy E (idxI (isE d s) E (0 : 
 Int))) → UpY.Ok (UpY.mk q1 q2 L E nx) ∧ (inK .i64 (UpY.dirE (UpY.mk q1 q2 L E nx) (ixD enTy E (idxI (isE d s) E (0 : Int))).2.2.1) → LoopP (fun i again => List.length (UpY.listD (UpY.mk q1 q2 L E nx) (ixD enTy E (idxI (isE d s) E (0 : 
 Int))).2.2.1) ≤ 9223372036854775807 → br (decide (i.1.1 < (↑(List.length (UpY.listD (UpY.mk q1 q2 L E nx) (ixD enTy E (idxI (isE d s) E (0 : Int))).2.2.1)) : Int))) (0 ≤ i.1.1 ∧ i.1.1 < (↑(List.length (UpY.listD (UpY.mk q1 q2 L E nx) (ixD 
 enTy E (idxI (isE d s) E (0 : Int))).2.2.1)) : Int) ∧ 0 ≤ i.1.1 ∧ i.1.1 < (↑(List.length (UpY.listD (UpY.mk q1 q2 L E nx) (ixD enTy E (idxI (isE d s) E (0 : Int))).2.2.1)) : Int) ∧ (Ty.ok xeTy (ixD xeTy (UpY.listD (UpY.mk q1 q2 L E nx) (ixD 
 enTy E (idxI (isE d s) E (0 : Int))).2.2.1) i.1.1) → br ((ixD xeTy (UpY.listD (UpY.mk q1 q2 L E nx) (ixD enTy E (idxI (isE d s) E (0 : Int))).2.2.1) i.1.1).2.1 != 4) (Q (.v (.c (.k (.int .i64 26)))) (rfs 87 36 119 q1 q2 nx L E)) (inK .i64 
 (i.1.1 + 1) ∧ again ((i.1.1 + 1, ()), ())))) (GoneROk L E (idxI (isE d s) E (0 : Int)) ∧ Q (.v (.c (.k (.int .i64 0)))) [.cells 87 [.k (.int .i64 q1), .k (.int .i64 q2), .o 3, .o 4, .k (.int .i64 nx)], .gone, .gone, .sl 36 noTy (List.filter 
 (stays (goneX (goneI E (idxI (isE d s) E (0 : Int))) (ixD enTy E (idxI (isE d s) E (0 : Int))).2.2.1)) L), .sl 119 enTy (goneX (goneI E (idxI (isE d s) E (0 : Int))) (ixD enTy E (idxI (isE d s) E (0 : Int))).2.2.1)])) (((0 : Int), ()), 
 ())))))))
theorem vc_rremove_eq (d : Int) (s : ByteArray) (q1 : Int) (q2 : Int) (nx : Int) (L : List NoD) (E : List EnD) (Q : SV → List HO → Prop) : vFun XR868 ⟨[(10, ⟨[(11, .int .i64)], []⟩)], []⟩ Tryz.f37 [.v (.c (.p 0 0)), .int d, .str s] [.cells 87 [.k (.int .i64 q1), .k (.int .i64 q2), .o 1, .o 2, .k (.int .i64 nx)], .sl 36 noTy L, .sl 119 enTy E] Q = vc_rremove d s q1 q2 nx L E Q := by kernel_rfl
theorem w_rremove : ∀ args H Q, c_rremove args H Q → Wp Inv Tryz.prog 37 args H Q := by
  intro args H Q h
  unfold c_rremove at h
  split at h
  rotate_left
  · exact h.elim
  rename_i d s q1 q2 nx L E
  refine Wp.rfN (tU := 87) (tN := 36) (tE := 119) ?_
  refine Wp.enter (X := XR868) XR868_ok ⟨[(10, ⟨[(11, .int .i64)], []⟩)], []⟩ (fn := Tryz.f37) (by kernel_rfl) ?_
  refine Eq.mpr (vc_rremove_eq d s q1 q2 nx L E _) ?_
  unfold vc_rremove
  obtain ⟨hp, hq⟩ := h
  have stay : ∀ z : Int, (UpY.mk q1 q2 L E nx).removeE d s = z → z ≠ 0 → Q (.int z) (rfo 87 36 119 q1 q2 nx L E) := fun z e hz => by
    have hY : (UpY.mk q1 q2 L E nx).removeY d s = (UpY.mk q1 q2 L E nx) := if_neg (by rw [e]; exact hz)
    rw [hY, e] at hq; exact hq
  have hen := hp.en
  have w := hp.wf
  have hll := (usedB_le (hp.ok (Nat.le_refl _))).1
  have hnb := hp.nb
  simp only at hen hll hnb
  intro _ _
  refine ⟨rfl, rfl, rfl, rfl, rfl, fun _ => br_of (fun h1 => ⟨q1, q2, nx, L, E, 1, 2, ⟨by decide, by decide, by decide, rfl, rfl, rfl⟩, stay _ ?_ ?_⟩) (fun h1 => ⟨rfl, rfl, rfl, rfl, rfl, fun _ => ?_⟩)⟩
  · have h1 : ¬ (UpY.mk q1 q2 L E nx).dirE d = 0 := by simpa using h1
    have hl : (UpY.mk q1 q2 L E nx).lookE d s = (UpY.mk q1 q2 L E nx).dirE d := if_neg h1
    unfold UpY.removeE
    rw [hl, if_neg h1]
  · simpa using h1
  have h1 : (UpY.mk q1 q2 L E nx).dirE d = 0 := by simpa using h1
  rcases inI_cases q1 q2 L E nx d s with ⟨ei, ey⟩ | ⟨e, ey, e0, e1, ex⟩
  · refine br_of (fun _ => ⟨q1, q2, nx, L, E, 1, 2, ⟨by decide, by decide, by decide, rfl, rfl, rfl⟩, stay 20 ?_ (by decide)⟩) (fun h2 => absurd ei (of_decide_eq_false h2))
    have hl : (UpY.mk q1 q2 L E nx).lookE d s = 20 := by unfold UpY.lookE; rw [if_pos h1, ey]
    unfold UpY.removeE
    rw [hl]; rfl
  have hl : (UpY.mk q1 q2 L E nx).lookE d s = 0 := by unfold UpY.lookE; rw [if_pos h1, ey]
  have hrm : (UpY.mk q1 q2 L E nx).removeE d s = if (UpY.mk q1 q2 L E nx).whites e.2.2.1 then 0 else 26 := by unfold UpY.removeE; rw [if_pos hl, ey]
  have hcut : goneI E (idxI (isE d s) E 0) = E.filter fun e => !isE d s e := cutE w ey
  refine br_of (fun h2 => absurd (of_decide_eq_true h2) (by omega)) (fun _ => ⟨e0, e1, e0, e1, fun _ => ⟨hp.ok (Nat.le_refl _), fun _ => ?_⟩⟩)
  have hWL := whites_list w e.2.2.1
  rw [ex]
  refine LoopP.intro (fun i => 0 ≤ i.1.1 ∧ (((UpY.mk q1 q2 L E nx).listD e.2.2.1).take i.1.1.toNat).all (fun x => x.2.1 == 4) = true) (fun i => ((UpY.mk q1 q2 L E nx).listD e.2.2.1).length - i.1.1.toNat) ⟨Int.le_refl _, by simp⟩ ?_
  rintro ⟨⟨k, _⟩, _⟩ ⟨k0, k1⟩
  simp only at k0 k1 ⊢
  generalize hLD : (UpY.mk q1 q2 L E nx).listD e.2.2.1 = LD at k1 hWL ⊢
  intro _
  refine br_of (fun hc => ?_) (fun hc => ?_)
  · have hc : k < (LD.length : Int) := of_decide_eq_true hc
    refine ⟨k0, hc, k0, hc, fun _ => br_of (fun h3 => ⟨q1, q2, nx, L, E, 1, 2, ⟨by decide, by decide, by decide, rfl, rfl, rfl⟩, stay 26 ?_ (by decide)⟩) (fun h3 => ⟨by unfold inK; omega, ⟨by omega, ?_⟩, by omega⟩)⟩
    · rw [hrm, hWL, if_neg]
      intro h
      have := List.all_eq_true.1 h _ (ixD_mem (e := xeTy) k0 hc)
      simp only [bne_iff_ne] at h3
      exact h3 (eq_of_beq this)
    · rw [ixD_take (e := xeTy) k0 hc, List.all_append, k1]
      simp only [List.all_cons, List.all_nil, Bool.and_true, Bool.true_and]
      simpa [bne] using h3
  have hc : ¬ k < (LD.length : Int) := of_decide_eq_false hc
  rw [take_allI hc] at k1
  have hw : (UpY.mk q1 q2 L E nx).whites e.2.2.1 = true := by rw [hWL]; exact k1
  have r0 : (UpY.mk q1 q2 L E nx).removeE d s = 0 := by rw [hrm, if_pos hw]
  have hY : (UpY.mk q1 q2 L E nx).removeY d s = UpY.mk q1 q2 ((UpY.mk q1 q2 L E nx).goneL d s e.2.2.1) ((UpY.mk q1 q2 L E nx).goneE d s e.2.2.1) nx := by
    unfold UpY.removeY
    rw [if_pos r0, ey]
  have hge : (UpY.mk q1 q2 L E nx).goneE d s e.2.2.1 = goneX (goneI E (idxI (isE d s) E 0)) e.2.2.1 := by rw [hcut]; rfl
  rw [hY, r0] at hq
  simp only [goneL_cut, hge] at hq
  refine ⟨⟨w.goneOk, by omega, hen, e0, e1, ?_⟩, q1, q2, nx, _, _, 3, 4, ⟨by decide, by decide, by decide, rfl, rfl, rfl⟩, hq⟩
  rw [ex]
  exact whites_leaf w hw
end Go.Proofs

