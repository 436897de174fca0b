/- Texts of mine, laid together: Mcl LmYl LmYm LmVzd W5 W5b W6. -/
import Derived.Test.YthlmnlajmakfnaaGreatQ8
import Derived.Shelf.SlMaps.Clone
import Derived.Test.YthlmnlajmakfnaaGreatQ5
import Derived.Test.YthlmnlajmakfnaaGreatQ3
import Derived.Test.YthlmnlajmakfnaaGreatProg
import Derived.Test.YthlmnlajmakfnaaGreatChecked
set_option linter.unusedVariables false
namespace Go.Proofs
open Go Go.RowKit Go.Maps Go.Shelf
set_option maxRecDepth 1000000
def Tryz.mclA_ren : Go.Shelf.Ren := ⟨fun | 5 => 54 | 7 => 103 | n => n, fun | 20 => 20 | 23 => 79 | 25 => 9 | 3 => 3 | 4 => 4 | n => n, fun | n => n⟩
theorem Tryz.mclA : Go.Proofs.SlLaysW.n5 Tryz.prog Tryz.mclA_ren := {
  mixed := by kernel_rfl
  f5 := ⟨"maps.Clone[map[string]int,string,int]", by kernel_rfl, Tryz.func54.trans (congrArg some (by kernel_rfl))⟩
  f7 := Tryz.func103.trans (congrArg some (by kernel_rfl))
  t4 := Tryz.underlying4
  a4 := Tryz.isAgg4
  z4 := Tryz.sizeOf4
  v4 := Tryz.zeroValue4
  t20 := Tryz.underlying20
  a20 := Tryz.isAgg20
  z20 := Tryz.sizeOf20
  v20 := Tryz.zeroValue20
  t23 := Tryz.underlying79
  a23 := Tryz.isAgg79
  z23 := Tryz.sizeOf79
  v23 := Tryz.zeroValue79 }
theorem mclC (b : Nat) (es : Array MapEntry) (clock : Nat) (w : World) (hb : w.heap[b]? = some (.map es clock)) : Calls Tryz.prog 54 #[.map (some b)] w fun e w' => e = .returned (.map (some w.heap.size)) ∧ w' = w.alloc (.map es clock) := AnyW.maps_Clone Tryz.mclA b es clock w hb
theorem mclN (w : World) : Calls Tryz.prog 54 #[.map none] w fun e w' => e = .returned (.map none) ∧ w' = w := AnyW.maps_Clone_nil Tryz.mclA w
end Go.Proofs

namespace Go.Lm
open Go Go.RowKit
section
variable {Y : UpY}
end
end Go.Lm

namespace Go.Lm
open Go Go.RowKit
structure ClnOk (L L' left : List (Int × LNode)) (Y : UpY) : Prop where
  keys : (L'.map (·.1) ++ left.map (·.1)).Perm (L.map (·.1))
  nodes : ∀ r n, getK L' r = some n → ∃ y, Y.at r = some y ∧ RepN Y r n y
  left : ∀ p ∈ left, getK L p.1 = some p.2
theorem ClnOk.start {L : List (Int × LNode)} {Y : UpY} (hr : RepY L Y) (w : Y.Wf) : ClnOk L [] L Y := { keys := List.Perm.refl _, nodes := fun r n h => (by cases h), left := fun p hp => getK_of_mem (hr.nodup w) hp }
theorem ClnOk.done {L L' : List (Int × LNode)} {Y : UpY} (h : ClnOk L L' [] Y) (hr : RepY L Y) : RepY L' Y := ⟨by
  have := h.keys
  rw [List.map_nil, List.append_nil] at this
  exact this.trans hr.keys, h.nodes⟩
theorem ClnOk.len {L L' left : List (Int × LNode)} {Y : UpY} (h : ClnOk L L' left Y) : L'.length ≤ L.length := by
  have := h.keys.length_eq
  rw [List.length_append, List.length_map, List.length_map, List.length_map] at this
  omega
theorem ClnOk.no {L L' left rest : List (Int × LNode)} {Y : UpY} {x : Int} {y : LNode} (h : ClnOk L L' left Y) (hr : RepY L Y) (w : Y.Wf) (hp : left.Perm ((x, y) :: rest)) : getK L' x = none := by
  have hn : (L'.map (·.1) ++ left.map (·.1)).Nodup := h.keys.nodup_iff.2 (hr.nodup w)
  refine getK_none.2 fun p hq e => ?_
  have hx : x ∈ left.map (·.1) := List.mem_map.2 ⟨(x, y), hp.mem_iff.2 (by simp), rfl⟩
  exact (List.nodup_append.1 hn).2.2 _ (List.mem_map.2 ⟨p, hq, rfl⟩) _ hx e
theorem ClnOk.step {L L' left rest : List (Int × LNode)} {Y : UpY} {x : Int} {y n : LNode} (h : ClnOk L L' left Y) (hr : RepY L Y) (hp : left.Perm ((x, y) :: rest))
    (hn : n.kind = y.kind ∧ n.mode = y.mode ∧ n.uid = y.uid ∧ n.gid = y.gid ∧ n.data = y.data ∧ n.target = y.target ∧ n.xattrs.map xaT = y.xattrs.map xaT ∧ n.opq = y.opq ∧ n.ents = y.ents ∧ n.links = y.links ∧ n.up = y.up) : ClnOk L ((x, n) :: L') rest Y := by
  refine ⟨?_, fun r m hm => ?_, fun p hq => h.left p (hp.mem_iff.2 (List.mem_cons_of_mem _ hq))⟩
  · have h1 := h.keys
    have h2 := (hp.map (·.1)).append_left (L'.map (·.1))
    refine List.Perm.trans ?_ (h2.symm.trans h1)
    rw [List.map_cons, List.map_cons, List.cons_append]
    exact List.perm_middle.symm
  · rw [getK_cons'] at hm
    by_cases e : x = r
    · rw [if_pos e] at hm
      obtain rfl := Option.some.inj hm
      subst e
      have hg := h.left (x, y) (hp.mem_iff.2 (by simp))
      obtain ⟨z, hz, hN⟩ := hr.nodes x y hg
      obtain ⟨a1, a2, a3, a4, a5, a6, a7, a8, a9, a10, a11⟩ := hn
      exact ⟨z, hz, ⟨a1.trans hN.kind, a2.trans hN.mode, a3.trans hN.uid, a4.trans hN.gid, a5.trans hN.data, a6.trans hN.target, a7.trans hN.xattrs, a8.trans hN.opq, by rw [a9]; exact hN.ents, a10.trans hN.links, fun hk e he he2 => by rw [a11]; exact hN.up (by rw [← a1]; exact hk) e he he2⟩⟩
    · rw [if_neg e] at hm
      exact h.nodes r m hm
end Go.Lm

namespace Go.Lm
open Go Go.RowKit
section
variable {P : Program} {I : Base → Prop} {f : FuncId} {Q : SV → List HO → Prop} {T : UTy} {q1 q2 nx : Int} {mb : Nat} {L : List (Int × LNode)} {hz : Hp} {z : Option LNode}
theorem ents_mapVs (g : World) : ∀ {es : List (ByteArray × Int)}, (∀ p ∈ es, inK .i64 p.2) → MapVs g .str (.int .i64) (entsV es) es
  | [], _ => rfl
  | p :: es, h => ⟨p.2, es, rfl, ⟨[.int .i64 p.2], ⟨rfl, inK_wf.1 (h p (by simp))⟩, rfl⟩, ents_mapVs g fun q hq => h q (by simp [hq])⟩
theorem Wp.mapsClone {v : Value} {r : Int} {m : LNode} (hkT : kk2 P T)
    (hC : ∀ (b : Nat) (es : Array MapEntry) (clock : Nat) (w : World), w.heap[b]? = some (.map es clock) → Calls P f #[.map (some b)] w fun e w' => e = .returned (.map (some w.heap.size)) ∧ w' = w.alloc (.map es clock))
    (hN : ∀ w : World, Calls P f #[.map none] w fun e w' => e = .returned (.map none) ∧ w' = w)
    (hg : getK L r = some m) (hv : m.vi = v)
    (qn : v = .map none → m.kind ≠ 1 → m.ents = [] → Q (.c (.k (.map none))) [.ab (.fz T q1 q2 mb nx L z hz)])
    (qs : v ≠ .map none → Q (.c (.m 1)) [.ab (.fz T q1 q2 mb nx L z hz), .map T.kS .str (.int .i64) m.ents]) :
    Wp I P f [.v (.c (.kl 0 v))] [.ab (.fz T q1 q2 mb nx L z hz)] Q := by
  intro W hW g w E F vs S hvs
  obtain ⟨a, rfl, hE0, rfl, hone⟩ := relVs_one hvs
  subst hv
  obtain ⟨h0, be, se, ow, k1, k2, ap, rfl, ⟨v0, hE, u, P', hv0, hkk, hin, hfz⟩, s3⟩ := S.sl
  obtain ⟨h1, hsub, hup⟩ : ∃ h1 : Hp, h1.sub k1 ∧ (upA P' T u q1 q2 mb nx L).sat g h1 := by
    cases z with
    | none => exact ⟨k1, fun _ _ h => h, hfz.2⟩
    | some zn =>
      obtain ⟨_, h1, ap1, e1, s1, _⟩ := hfz
      exact ⟨h1, by rw [e1]; exact fun _ _ h => Hp.join_left h, s1⟩
  have hup' := upA_re (kk2_ok.1 hkk) (kk2_ok.1 hkT) hup
  have hmap := (up_maps hup').2 r m hg
  have hpure : m.kind = 1 → ∃ b, m.vi = .map (some b) := by
    obtain ⟨h', i, s'⟩ := sats_mem (A := nodeA P T m) (List.mem_cons_of_mem _ (List.mem_cons_of_mem _ (List.mem_map.2 ⟨(r, m), getK_mem hg, rfl⟩))) hup'
    obtain ⟨h'', i2, _, s2⟩ := sats_mem (A := pureA (m.target.size ≤ maxLen ∧ (m.kind = 1 → ∃ b, m.vi = .map (some b)))) (by simp [nodeL]) s'
    exact s2
  rcases hmap with ⟨hno, hents⟩ | ⟨b, es, clock, e1, e2, rep⟩
  · have hk : m.kind ≠ 1 := fun hk => by
      obtain ⟨b, hb⟩ := hpure hk
      rw [hno] at hb; cases hb
    have hen : m.ents = [] := by
      unfold entsV at hents
      exact List.map_eq_nil_iff.1 hents
    rw [hno]
    refine (hN w).mono fun e w' ⟨he, hw⟩ => ?_
    subst hw
    exact ⟨_, he, E, g, _, _, EnvLe.refl E, Mono.refl g, S, (show RelV E g (.c (.k (.map none))) _ from ⟨rfl, rfl⟩), qn hno hk hen⟩
  · have hb : w.heap[b]? = some (.map es clock) := (ow b _ (Hp.join_left (hsub _ _ e2))).2.1
    rw [e1]
    refine (hC b es clock w hb).mono fun e w' ⟨he, hw⟩ => ?_
    have hnew : New w w.heap.size (.map es clock) w' := ⟨hw, rfl⟩
    have H1 := S.sl.new hnew
    refine ⟨_, he, E ++ [ptr w.heap.size 0], g, .c (.m 1), _, EnvLe.app _ _, Mono.refl g, Sat.push (o := .map T.kS .str (.int .i64) m.ents) S.len ?_, ?_, qs (by rw [e1]; intro h; cases h)⟩
    · refine H1.weak fun hh ⟨p1, p2, ap3, q3, sr, sF⟩ => ⟨p1, p2, ap3, q3, ⟨w.heap.size, entsV m.ents, by rw [← S.len]; simp, ents_mapVs g fun p hp => (hin.nodes r m hg).ents p hp, P, ?_, es, clock, sr, rep⟩, sF⟩
      have := kk2_ok.1 hkT
      simp only [Bool.and_eq_true] at this
      exact this.2
    · refine ⟨w.heap.size, ?_, rfl⟩
      rw [show (1 : Nat) = E.length from S.len.symm]; simp
end
end Go.Lm

namespace Go.Proofs
open Go Go.Lm Go.RowKit
set_option maxRecDepth 1000000
def c_mclone : Ct
  | [.v (.c (.kl 0 v))], [.ab (.fz ⟨84, 81, 3, 9⟩ q1 q2 mb nx L z hz)], Q => ∃ r m, getK L r = some m ∧ m.vi = v ∧ (v = .map none → m.kind ≠ 1 → m.ents = [] → Q (.c (.k (.map none))) [.ab (.fz ⟨84, 81, 3, 9⟩ q1 q2 mb nx L z hz)]) ∧ (v ≠ .map none → Q (.c (.m 1)) [.ab (.fz ⟨84, 81, 3, 9⟩ q1 q2 mb nx L z hz), .map 9 .str (.int .i64) m.ents])
  | _, _, _ => False
theorem w_mclone : ∀ args H Q, c_mclone args H Q → Wp Inv Tryz.prog 54 args H Q := by
  intro args H Q h
  unfold c_mclone at h
  split at h
  · obtain ⟨r, m, h1, h2, h3, h4⟩ := h
    exact Wp.mapsClone (T := ⟨84, 81, 3, 9⟩) ⟨Tryz.underlying3, Tryz.underlying9⟩ mclC mclN h1 h2 h3 h4
  · exact h.elim
def c_clone0 : Ct
  | [.v (.c (.p 0 0))], [.up ⟨84, 81, 3, 9⟩ q1 q2 mb nx L], Q => ∃ Y : UpY, (q1 = Y.q1 ∧ q2 = Y.q2 ∧ nx = Y.nx ∧ RepY L Y) ∧ Y.Ok ∧ ∀ hz, Q (.c (.p 1 0)) [.ab (.fz ⟨84, 81, 3, 9⟩ q1 q2 mb nx L none hz), .ab (.upr ⟨84, 81, 3, 9⟩ Y)]
  | _, _, _ => False
noncomputable def XW582 : Vx := { P := Tryz.prog, ct := (54, c_mclone) :: (3, c_lsteps) :: XW381.ct, ty := tyTab, hold := [100, 26], um := some ⟨84, 81, 3, 9⟩ }
theorem XW582_ok : CtOk Inv Tryz.prog XW582.ct := CtOk.cons w_mclone (CtOk.cons w_lsteps (XW381_ok))
def vc_clone0 : (Int) → (Int) → (Nat) → (Int) → (List (Int × LNode)) → (SV → List HO → Prop) → Prop :=
 fun q1 q2 mb nx L Q => inK .i64 q1 → inK .i64 q2 → inK .i64 nx → inK .i64 q1 → inK .i64 q2 → inK .i64 nx → ∀ (mb_1 : Nat), inK .i64 q1 → inK .i64 q2 → inK .i64 nx → Value.map (some mb) = Value.map (some mb) ∧ ∀ (hz : Hp), LoopT (PUnit × 
 (Int × Int × Nat × Int × List (Int × LNode) × Option LNode × Hp) × (Nat × List (Int × LNode)) × (Hp × Value × List (Int × LNode) × Option (Int × LNode)) × PUnit) (fun i again => i.2.1.2.2.2.2.2.2 = i.2.2.2.1.1 ∧ ∃ M, ((3 : TypeId) = (UTy.mk 
 (84 : TypeId) (81 : TypeId) (3 : TypeId) (9 : TypeId)).kI ∧ i.2.1.2.2.2.2.2.1 = none ∧ i.2.2.2.1.2.1 = Value.map (some i.2.1.2.2.1) ∧ M = i.2.1.2.2.2.2.1) ∧ (i.2.2.2.1.2.2.1 = [] → Q (SV.v (S1.c (.p 1 0))) [.ab (.fz ⟨84, 81, 3, 9⟩ i.2.1.1 
 i.2.1.2.1 i.2.1.2.2.1 i.2.1.2.2.2.1 i.2.1.2.2.2.2.1 i.2.1.2.2.2.2.2.1 i.2.1.2.2.2.2.2.2), .cells 84 [.k (.int .i64 q1), .k (.int .i64 q2), Cl.kl (2 : Nat) (Value.map (some mb_1)), .k (.int .i64 nx)], HO.ab (AbK.um (UTy.mk (84 : TypeId) (81 
 : TypeId) (3 : TypeId) (9 : TypeId)) i.2.2.1.1 i.2.2.1.2)]) ∧ ∀ (x : Kk.den Kk.int) (y : Kk.uv Kk.int) (left' : List (Kk.den Kk.int × Kk.uv Kk.int)), List.Perm i.2.2.2.1.2.2.1 ((x, y) :: left') → (-9223372036854775808 : Int) ≤ x ∧ x ≤ 
 9223372036854775807 → ∃ M x_1 y_1, i.2.1.2.2.2.2.2.2 = i.2.2.2.1.1 ∧ ((3 : TypeId) = (UTy.mk (84 : TypeId) (81 : TypeId) (3 : TypeId) (9 : TypeId)).kI ∧ i.2.1.2.2.2.2.2.1 = none ∧ i.2.2.2.1.2.1 = Value.map (some i.2.1.2.2.1) ∧ M = 
 i.2.1.2.2.2.2.1) ∧ some (x, y) = some (x_1, y_1) ∧ ((-9223372036854775808 : Int) ≤ x_1 ∧ x_1 ≤ 9223372036854775807 → ∃ m, ((∃ r, getK i.2.1.2.2.2.2.1 r = some m) ∨ i.2.1.2.2.2.2.2.1 = some m) ∧ m.blk = y_1.blk ∧ (NodeOk m → ∃ m_1, ((∃ r, 
 getK i.2.1.2.2.2.2.1 r = some m_1) ∨ i.2.1.2.2.2.2.2.1 = some m_1) ∧ m_1.blk = y_1.blk ∧ (NodeOk m_1 → ∃ r m_2, getK i.2.1.2.2.2.2.1 r = some m_2 ∧ m_2.vi = m_1.vi ∧ (m_1.vi = Value.map none → m_2.kind ≠ 1 → m_2.ents = [] → ∃ m_3, ((∃ r, 
 getK i.2.1.2.2.2.2.1 r = some m_3) ∨ i.2.1.2.2.2.2.2.1 = some m_3) ∧ m_3.blk = y_1.blk ∧ (NodeOk m_3 → List.length m_3.data ≤ 140737488355328 ∧ m.kind ≠ 1 ∧ ∀ (bk : Nat) (vd vx : Value), Value.map (some mb_1) = Value.map (some i.2.2.1.1) ∧ 
 getK i.2.2.1.2 x_1 = none ∧ List.length i.2.2.1.2 < 9223372036854775807 ∧ again ((), i.2.1, (i.2.2.1.1, (x_1, LNode.mk bk m.kind m.mode m.uid m.gid vd m_3.data m.target vx (List.map xaO (List.map xaT m.xattrs)) m.opq (Value.map none) [] 
 m.up m.links) :: i.2.2.1.2), (i.2.2.2.1.1, i.2.2.2.1.2.1, left', some (x, y)), ()))) ∧ (m_1.vi ≠ Value.map none → ∃ m_3, ((∃ r, getK i.2.1.2.2.2.2.1 r = some m_3) ∨ i.2.1.2.2.2.2.2.1 = some m_3) ∧ m_3.blk = y_1.blk ∧ (NodeOk m_3 → 
 List.length m_3.data ≤ 140737488355328 ∧ ∀ (bk : Nat) (vd vx : Value) (ib : Nat), Value.map (some mb_1) = Value.map (some i.2.2.1.1) ∧ getK i.2.2.1.2 x_1 = none ∧ List.length i.2.2.1.2 < 9223372036854775807 ∧ again ((), i.2.1, (i.2.2.1.1, 
 (x_1, LNode.mk bk m.kind m.mode m.uid m.gid vd m_3.data m.target vx (List.map xaO (List.map xaT m.xattrs)) m.opq (Value.map (some ib)) m_2.ents m.up m.links) :: i.2.2.1.2), (i.2.2.2.1.1, i.2.2.2.1.2.1, left', some (x, y)), ()))))))) ((), 
 (q1, q2, mb, nx, L, none, hz), (mb_1, []), (hz, Value.map (some mb), L, none), ())
theorem vc_clone0_eq (q1 : Int) (q2 : Int) (mb : Nat) (nx : Int) (L : List (Int × LNode)) (Q : SV → List HO → Prop) : vFun XW582 ⟨[(4, ⟨[], [(0, .ab (.fz ⟨84, 81, 3, 9⟩)), (1, .ab (.um ⟨84, 81, 3, 9⟩)), (3, .ab (.mit .int 3 0))]⟩)], []⟩ Tryz.f14 [.v (.c (.p 0 0))] [.up ⟨84, 81, 3, 9⟩ q1 q2 mb nx L] Q = vc_clone0 q1 q2 mb nx L Q := by kernel_rfl
theorem w_clone0 : ∀ args H Q, c_clone0 args H Q → Wp Inv Tryz.prog 14 args H Q := by
  intro args H Q h
  unfold c_clone0 at h
  split at h
  rotate_left
  · exact h.elim
  rename_i q1 q2 mb nx L
  refine (fun hh => Wp.sel (Wp.upNew (T := ⟨84, 81, 3, 9⟩) (p := 1) (l := 2) hh)) ?_
  refine Wp.enter (X := XW582) XW582_ok ⟨[(4, ⟨[], [(0, .ab (.fz ⟨84, 81, 3, 9⟩)), (1, .ab (.um ⟨84, 81, 3, 9⟩)), (3, .ab (.mit .int 3 0))]⟩)], []⟩ (fn := Tryz.f14) (by kernel_rfl) ?_
  refine Eq.mpr (vc_clone0_eq q1 q2 mb nx L _) ?_
  unfold vc_clone0
  obtain ⟨Y, ⟨rfl, rfl, rfl, hr⟩, hp, hq⟩ := h
  have w := hp.wf
  have hlen := hr.len w
  have hnb := hp.nb
  intro _ _ _ _ _ _ mb1 _ _ _
  refine ⟨rfl, fun hz => ?_⟩
  refine LoopP.intro (fun i => i.2.1 = (Y.q1, Y.q2, mb, Y.nx, L, none, hz) ∧ i.2.2.1.1 = mb1 ∧ ClnOk L i.2.2.1.2 i.2.2.2.1.2.2.1 Y ∧ i.2.2.2.1.1 = hz ∧ i.2.2.2.1.2.1 = Value.map (some mb)) (fun i => i.2.2.2.1.2.2.1.length) ⟨rfl, rfl, ClnOk.start hr w, rfl, rfl⟩ ?_
  rintro ⟨_, u, ⟨mb2, L2⟩, ⟨hz2, v, left, cur⟩, _⟩ ⟨h1, h2, h3, h4, h5⟩
  simp only at h1 h2 h3 h4 h5
  subst h1 h2 h4 h5
  simp only
  have hl2 := h3.len
  refine ⟨trivial, _, ⟨trivial, trivial, trivial, rfl⟩, fun h0 => ?_, fun x y left' hp3 _ => ⟨_, x, y, trivial, ⟨trivial, trivial, trivial, rfl⟩, rfl, fun _ => ?_⟩⟩
  · subst h0
    have hrn := h3.done hr
    exact ⟨Y.q1, Y.q2, mb2, Y.nx, L2, Y, by decide, rfl, rfl, ⟨rfl, rfl, rfl, rfl, hrn⟩, [0, 1], rfl, by simp, by simp, hq hz2⟩
  have hg := h3.left (x, y) (hp3.mem_iff.2 (by simp))
  have hno := h3.no hr w hp3
  have hdl : y.data.length ≤ 4096 := by
    obtain ⟨yy, hyy, hN⟩ := hr.nodes x y hg
    have := (mayN_lens (w.nm yy (at_mem hyy).1).2.2).1
    rw [← hN.data] at this
    exact this
  have dec : left'.length < left.length := by have := hp3.length_eq; simp at this; omega
  have cst : ∀ n : LNode, n.kind = y.kind ∧ n.mode = y.mode ∧ n.uid = y.uid ∧ n.gid = y.gid ∧ n.data = y.data ∧ n.target = y.target ∧ n.xattrs.map xaT = y.xattrs.map xaT ∧ n.opq = y.opq ∧ n.ents = y.ents ∧ n.links = y.links ∧ n.up = y.up → ClnOk L ((x, n) :: L2) left' Y := fun n hn => h3.step hr hp3 hn
  refine ⟨y, .inl ⟨_, hg⟩, rfl, fun _ => ⟨y, .inl ⟨_, hg⟩, rfl, fun _ => ⟨_, y, hg, rfl, fun hv hk he => ?_, fun hv => ?_⟩⟩⟩
  · refine ⟨y, .inl ⟨_, hg⟩, rfl, fun _ => ⟨by omega, hk, fun bk vd vx => ⟨(by first | exact True.intro | rfl), hno, by omega, ⟨(by first | exact True.intro | rfl), (by first | exact True.intro | rfl), cst _ ⟨rfl, rfl, rfl, rfl, rfl, rfl, xaO_xaT _, rfl, he.symm, rfl, rfl⟩, (by first | exact True.intro | rfl), (by first | exact True.intro | rfl)⟩, dec⟩⟩⟩
  · refine ⟨y, .inl ⟨_, hg⟩, rfl, fun _ => ⟨by omega, fun bk vd vx ib => ⟨(by first | exact True.intro | rfl), hno, by omega, ⟨(by first | exact True.intro | rfl), (by first | exact True.intro | rfl), cst _ ⟨rfl, rfl, rfl, rfl, rfl, rfl, xaO_xaT _, rfl, rfl, rfl, rfl⟩, (by first | exact True.intro | rfl), (by first | exact True.intro | rfl)⟩, dec⟩⟩⟩
def c_clone : Ct
  | [.v (.c (.p 0 0))], [.ab (.upr ⟨84, 81, 3, 9⟩ Y)], Q => Y.Ok ∧ Q (.c (.p 1 0)) [.ab (.upr ⟨84, 81, 3, 9⟩ Y), .ab (.upr ⟨84, 81, 3, 9⟩ Y)]
  | _, _, _ => False
theorem w_clone : ∀ args H Q, c_clone args H Q → Wp Inv Tryz.prog 14 args H Q := by
  intro args H Q h
  unfold c_clone at h
  split at h
  · rename_i Y
    refine Wp.uprO fun mb L hr => w_clone0 _ _ _ ?_
    unfold c_clone0
    exact ⟨Y, ⟨rfl, rfl, rfl, hr⟩, h.1, fun hz => ⟨_, _, Y, rfl, ⟨rfl, rfl, rfl, rfl, hr⟩, h.2⟩⟩
  · exact h.elim
end Go.Proofs

namespace Go.Proofs
open Go Go.Lm Go.RowKit
set_option maxRecDepth 1000000
def c_rclone0 : Ct
  | [.v (.c (.p 0 0))], [.cells 87 [.k (.int .i64 q1), .k (.int .i64 q2), .o 1, .o 2, .k (.int .i64 nx)], .sl 36 (.pair (.sl .str) (.pair (.int .i64) (.pair (.int .i64) (.pair (.pair (.int .i64) (.pair (.int .i64) (.pair (.int .i64) .unit))) (.pair (.sl .u8) (.pair .str (.pair (.sl (.pair .str (.pair (.sl .u8) .unit))) (.pair .bool .unit)))))))) L, .sl 119 (.pair (.int .i64) (.pair .str (.pair (.int .i64) .unit))) E], Q => (UpY.mk q1 q2 L E nx).OkN 1000000 ∧ Q (.c (.p 3 0)) [.cells 87 [.k (.int .i64 q1), .k (.int .i64 q2), .o 1, .o 2, .k (.int .i64 nx)], .sl 36 noTy L, .sl 119 enTy E, .cells 87 [.k (.int .i64 q1), .k (.int .i64 q2), .o 4, .o 5, .k (.int .i64 nx)], .sl 36 noTy L, .sl 119 enTy E]
  | _, _, _ => False
noncomputable def XW5b83 : Vx := { P := Tryz.prog, ct := (14, c_clone) :: XW582.ct, ty := tyTab, hold := [100, 26] }
theorem XW5b83_ok : CtOk Inv Tryz.prog XW5b83.ct := CtOk.cons w_clone (XW582_ok)
def vc_rclone0 : (Int) → (Int) → (Int) → (List NoD) → (List EnD) → (SV → List HO → Prop) → Prop :=
 fun q1 q2 nx L E Q => (((0 + List.length L) * 136 ≤ (140737488355328 : Nat) ∧ 0 + List.length L ≤ 9223372036854775807 ∧ (0 + List.length E) * 32 ≤ 140737488355328 ∧ 0 + List.length E ≤ 9223372036854775807 ∧ Q (SV.v (S1.c (.p 3 0))) [.cells 
 87 [.k (.int .i64 q1), .k (.int .i64 q2), .o 1, .o 2, .k (.int .i64 nx)], .sl 36 noTy L, .sl 119 enTy E, .cells 87 [.k (.int .i64 q1), .k (.int .i64 q2), .o 4, .o 5, .k (.int .i64 nx)], .sl 36 noTy ([] ++ L), .sl 119 enTy ([] ++ E)]) ∧ (0 + 
 List.length L) * 136 ≤ (140737488355328 : Nat) ∧ 0 + List.length L ≤ 9223372036854775807 ∧ (0 + List.length E) * 32 ≤ 140737488355328 ∧ 0 + List.length E ≤ 9223372036854775807 ∧ Q (SV.v (S1.c (.p 3 0))) [.cells 87 [.k (.int .i64 q1), .k 
 (.int .i64 q2), .o 1, .o 2, .k (.int .i64 nx)], .sl 36 noTy L, .sl 119 enTy E, .cells 87 [.k (.int .i64 q1), .k (.int .i64 q2), .o 4, .o 5, .k (.int .i64 nx)], .sl 36 noTy ([] ++ L), .sl 119 enTy ([] ++ E)]) ∧ (0 + List.length L) * 136 ≤ 
 (140737488355328 : Nat) ∧ 0 + List.length L ≤ 9223372036854775807 ∧ (0 + List.length E) * 32 ≤ 140737488355328 ∧ 0 + List.length E ≤ 9223372036854775807 ∧ Q (SV.v (S1.c (.p 3 0))) [.cells 87 [.k (.int .i64 q1), .k (.int .i64 q2), .o 1, .o 
 2, .k (.int .i64 nx)], .sl 36 noTy L, .sl 119 enTy E, .cells 87 [.k (.int .i64 q1), .k (.int .i64 q2), .o 4, .o 5, .k (.int .i64 nx)], .sl 36 noTy ([] ++ L), .sl 119 enTy ([] ++ E)]
theorem vc_rclone0_eq (q1 : Int) (q2 : Int) (nx : Int) (L : List NoD) (E : List EnD) (Q : SV → List HO → Prop) : vFun XW5b83 ⟨[], []⟩ Tryz.f15 [.v (.c (.p 0 0))] [.cells 87 [.k (.int .i64 q1), .k (.int .i64 q2), .o 1, .o 2, .k (.int .i64 nx)], .sl 36 noTy L, .sl 119 enTy E] Q = vc_rclone0 q1 q2 nx L E Q := by kernel_rfl
theorem w_rclone0 : ∀ args H Q, c_rclone0 args H Q → Wp Inv Tryz.prog 15 args H Q := by
  intro args H Q h
  unfold c_rclone0 at h
  split at h
  rotate_left
  · exact h.elim
  rename_i q1 q2 nx L E
  refine Wp.enter (X := XW5b83) XW5b83_ok ⟨[], []⟩ (fn := Tryz.f15) (by kernel_rfl) ?_
  have hv := vc_rclone0_eq q1 q2 nx L E Q
  rw [show vFun _ _ _ _ _ _ = _ from hv]
  unfold vc_rclone0
  obtain ⟨hp, hq⟩ := h
  have hen := hp.en
  have hnb := hp.nb
  have hll := (usedB_le (hp.ok (Nat.le_refl _))).1
  simp only at hen hnb hll
  repeat' (first | exact hq | omega | apply And.intro)
def c_rclone : Ct
  | [.v (.c (.p 0 0))], [.ab (.rf 87 36 119 Y)], Q => Y.OkN 1000000 ∧ Q (.c (.p 1 0)) [.ab (.rf 87 36 119 Y), .ab (.rf 87 36 119 Y)]
  | _, _, _ => False
theorem w_rclone : ∀ args H Q, c_rclone args H Q → Wp Inv Tryz.prog 15 args H Q := by
  intro args H Q h
  unfold c_rclone at h
  split at h
  · rename_i Y
    refine Wp.rfC (w_rclone0 _ _ _ ?_)
    unfold rfo0 c_rclone0
    exact ⟨h.1, rfl, h.2⟩
  · exact h.elim
end Go.Proofs

namespace Go.Proofs
open Go Go.Lm Go.RowKit
set_option maxRecDepth 1000000
def c_lplays : Ct
  | [.v (.agg cq), .v (.c cl)], [], Q => (match (quTy).of cq with
    | some (q, []) => (match (Ty.sl opTy).of [cl] with
    | some (l, []) => Q (.bool true) []
    | _ => False)
    | _ => False)
  | _, _, _ => False
noncomputable def XW684 : Vx := { P := Tryz.prog, ct := (15, c_rclone) :: XW5b83.ct, ty := tyTab, hold := [100, 26] }
theorem XW684_ok : CtOk Inv Tryz.prog XW684.ct := CtOk.cons w_rclone (XW5b83_ok)
def vc_lplays : ((quTy).den) → (List (opTy).den) → (SV → List HO → Prop) → Prop :=
 fun q l Q => inK .i64 q.1 → inK .i64 q.2.1 → List.length l ≤ 9223372036854775807 → LoopP (fun i again => List.length l ≤ 9223372036854775807 → br (decide (i.1.1 < (l.length : Int))) (br (decide (i.1.1 < 40)) (0 ≤ i.1.1 ∧ i.1.1 < (l.length : 
 Int) ∧ (Ty.ok opTy (ixD opTy l i.1.1) → (14 : Int) ≠ (0 : Int) ∧ (inK .i64 (kindI (ixD opTy l i.1.1).1 (14 : Int)) → br (kindI (ixD opTy l i.1.1).1 (14 : Int) == 13) (UpY.Ok i.1.2.1 ∧ (List.length l ≤ 9223372036854775807 → inK .i64 
 ((l.length : Int) - 1) ∧ (0 : Int) ≤ (l.length : Int) - 1 ∧ (l.length : Int) - 1 < (l.length : Int) ∧ (Ty.ok opTy (ixD opTy l ((l.length : Int) - 1)) → UpY.OkN i.2.1 (1000000 : Nat) ∧ i.2.1 = i.1.2.1 ∧ UpY.OkN i.1.2.1 (1000000 : Nat) ∧ 
 [UInt8.ofNat 103, UInt8.ofNat 111, UInt8.ofNat 110, UInt8.ofNat 101] ≠ [] ∧ UpY.Ok (UpY.doD i.1.2.1 (clipO (ixD opTy l ((l.length : Int) - 1)))) ∧ (inK .i64 (UpY.writeE (UpY.doD i.1.2.1 (clipO (ixD opTy l ((l.length : Int) - 1)))) (2 : Int) 
 (0 : Int) [UInt8.ofNat 103, UInt8.ofNat 111, UInt8.ofNat 110, UInt8.ofNat 101]) → UpY.Ok (UpY.writeY (UpY.doD i.1.2.1 (clipO (ixD opTy l ((l.length : Int) - 1)))) (2 : Int) (0 : Int) [UInt8.ofNat 103, UInt8.ofNat 111, UInt8.ofNat 110, 
 UInt8.ofNat 101]) ∧ (inK .i64 (UpY.removeE (UpY.writeY (UpY.doD i.1.2.1 (clipO (ixD opTy l ((l.length : Int) - 1)))) (2 : Int) (0 : Int) [UInt8.ofNat 103, UInt8.ofNat 111, UInt8.ofNat 110, UInt8.ofNat 101]) (1 : Int) (ByteArray.mk #[(97 : 
 UInt8)])) → inK .i64 (i.1.1 + 1) ∧ again ((i.1.1 + 1, i.1.2), i.2)))))) (0 ≤ i.1.1 ∧ i.1.1 < (l.length : Int) ∧ (Ty.ok opTy (ixD opTy l i.1.1) → (14 : Int) ≠ (0 : Int) ∧ (inK .i64 (kindI (ixD opTy l i.1.1).1 (14 : Int)) → i.2.1 = i.1.2.1 ∧ 
 UpY.OkN i.1.2.1 (1000000 : Nat) ∧ inK .i64 (i.1.1 + 1) ∧ again ((i.1.1 + 1, UpY.doD i.1.2.1 (clipO (kindI (ixD opTy l i.1.1).1 (14 : Int), (ixD opTy l i.1.1).2)), ()), UpY.doD i.1.2.1 (clipO (kindI (ixD opTy l i.1.1).1 (14 : Int), (ixD opTy 
 l i.1.1).2)), ()))))))) (i.2.1 = i.1.2.1 ∧ UpY.OkN i.1.2.1 (1000000 : Nat) ∧ Q (.v (.c (.k (.bool true)))) [])) (i.2.1 = i.1.2.1 ∧ UpY.OkN i.1.2.1 (1000000 : Nat) ∧ Q (.v (.c (.k (.bool true)))) [])) (((0 : Int), UpY.new q.1 q.2.1, ()), 
 UpY.new q.1 q.2.1, ())
theorem vc_lplays_eq (q : (quTy).den) (l : List (opTy).den) (Q : SV → List HO → Prop) : vFun XW684 ⟨[(8, ⟨[(8, .int .i64), (6, .pa (.upr ⟨84, 81, 3, 9⟩))], [(2, .ab (.rf 87 36 119))]⟩)], []⟩ Tryz.f4 [.v (.agg (Ty.cells quTy q)), .c (.d opTy l)] [] Q = vc_lplays q l Q := by kernel_rfl
theorem w_lplays : ∀ args H Q, c_lplays args H Q → Wp Inv Tryz.prog 4 args H Q := by
  intro args H Q h
  unfold c_lplays at h
  split at h
  rotate_left
  · exact h.elim
  rename_i cq cl
  split at h
  rotate_left
  · exact h.elim
  rename_i q hq
  split at h
  rotate_left
  · exact h.elim
  rename_i l hl
  refine Wp.said (args' := [.v (.agg (Ty.cells quTy q)), .c (.d opTy l)]) (fun E g => RelVs.cons1 (of_row hq) (RelVs.cons1 (of_list hl) (fun _ h => h))) ?_
  clear hq hl
  refine Wp.enter (X := XW684) XW684_ok ⟨[(8, ⟨[(8, .int .i64), (6, .pa (.upr ⟨84, 81, 3, 9⟩))], [(2, .ab (.rf 87 36 119))]⟩)], []⟩ (fn := Tryz.f4) (by kernel_rfl) ?_
  have hv := vc_lplays_eq q l Q
  rw [show vFun _ _ _ _ _ _ = _ from hv]
  unfold vc_lplays
  clear hv
  intro _ _ _
  refine LoopP.intro (fun i => 0 ≤ i.1.1 ∧ i.1.1 ≤ 40 ∧ i.2.1 = i.1.2.1 ∧ i.1.2.1.OkN i.1.1.toNat) (fun i => l.length - i.1.1.toNat) ⟨Int.le_refl _, by show (0 : Int) ≤ 40; omega, rfl, new_okN _ _⟩ ?_
  rintro ⟨⟨k, y, _⟩, z, _⟩ ⟨k0, k1, hz, hn⟩
  simp only at k0 k1 hz hn ⊢
  rw [hz]
  intro _
  have hn1 : y.OkN 1000000 := hn.le (by omega)
  refine br_of (fun hc => br_of (fun hd => ?_) (fun _ => ⟨(by first | exact True.intro | rfl), hn1, h⟩)) (fun _ => ⟨(by first | exact True.intro | rfl), hn1, h⟩)
  have hc := of_decide_eq_true hc
  have hd := of_decide_eq_true hd
  refine ⟨k0, hc, fun _ => ⟨by decide, fun _ => br_of (fun _ => ?_) (fun _ => ?_)⟩⟩
  · have o1 := okN_do hn (clipO (ixD opTy l ((l.length : Int) - 1)))
    have o2 := okN_write o1 2 0 [UInt8.ofNat 103, UInt8.ofNat 111, UInt8.ofNat 110, UInt8.ofNat 101]
    refine ⟨hn1.ok (Nat.le_refl _), fun _ => ⟨by unfold inK; omega, by omega, by omega, fun _ => ⟨hn1, (by first | exact True.intro | rfl), hn1, by simp, o1.ok (by omega), fun _ => ⟨o2.ok (by omega), fun _ => ⟨by unfold inK; omega, ⟨by omega, by omega, (by first | exact True.intro | rfl), ?_⟩, by omega⟩⟩⟩⟩⟩
    rw [show (k + 1).toNat = k.toNat + 1 by omega]
    exact hn.le (Nat.le_succ _)
  · have hn2 := okN_do hn (clipO (kindI (ixD opTy l k).1 14, (ixD opTy l k).2))
    refine ⟨k0, hc, fun _ => ⟨by decide, fun _ => ⟨(by first | exact True.intro | rfl), hn1, by unfold inK; omega, ⟨by omega, by omega, (by first | exact True.intro | rfl), ?_⟩, by omega⟩⟩⟩
    rw [show (k + 1).toNat = k.toNat + 1 by omega]
    exact hn2
theorem plays_any (q : quTy.den) (l : List OpD) (cs : Array Value) (v : Value) (W : World) (h0 : quTy.rep.rel W cs.toList q) (h1 : IsD opTy W v l) : Ret Tryz.prog 4 #[.agg cs, v] W fun v w' => v = .bool true ∧ Le W w' :=
  Wp.run trivial (w_lplays [.v (.agg (quTy.cells q)), .v (.c (.d opTy l))] [] _ (by
    have e : (Ty.sl opTy).of [.d opTy l] = some (l, []) := by kernel_rfl
    have e2 : quTy.of (quTy.cells q) = some (q, []) := by kernel_rfl
    unfold c_lplays
    simp only [e2, e])) ⟨.agg cs, [v], rfl, ⟨cs.toList, (rel_cells [] W quTy h0).1, rfl⟩, v, [], rfl, h1, rfl⟩
end Go.Proofs

