/- Texts of mine, laid together: LmVza LmYa LmYb LmYc U1. -/
import Derived.Test.YthlmnlajmakfnaaGreatQ3
import Derived.Test.YthlmnlajmakfnaaGreatProg
import Derived.Test.YthlmnlajmakfnaaGreatChecked
set_option linter.unusedVariables false
namespace Go.Lm
open Go Go.RowKit
section
variable {P : Program} {I : Base → Prop} {f : FuncId} {args : List SV} {H : List HO} {Q Q' : SV → List HO → Prop} {W : Base} {E : Env} {g w : World} {F : List Atom}
theorem Wp.fin (h : Wp I P f args H Q') (k : ∀ (W : Base) (E : Env) (g w : World) (F : List Atom) (H' : List HO) (sv : SV), Sat W E g w H' F → Q' sv H' → ∃ g' H'', Mono g g' ∧ Sat W E g' w H'' F ∧ Q sv H'') : Wp I P f args H Q := fun W hW g w E F vs hs hv =>
 (h W hW g w E F vs hs hv).mono fun v w' ⟨E1, g1, sv, H1, e1, m1, s1, r1, q1⟩ => by
  obtain ⟨g2, H2, m2, s2, q2⟩ := k W E1 g1 w' F H1 sv s1 q1
  exact ⟨E1, g2, sv, H2, e1, m1.trans m2, s2, r1.mono (EnvLe.refl _) m2, q2⟩
theorem Wp.beg {H0 : List HO} (h : ∀ (W : Base) (E : Env) (g w : World) (F : List Atom), Sat W E g w H0 F → ∃ E' H1, EnvLe E E' ∧ Sat W E' g w H1 F ∧ Wp I P f args H1 Q) : Wp I P f args H0 Q := fun W hW g w E F vs hs hv => by
 obtain ⟨E1, H1, e1, s1, k⟩ := h W E g w F hs
 have hv1 : RelVs E1 g args vs := by
  have key : ∀ {l : List SV} {us : List Value}, RelVs E g l us → RelVs E1 g l us := by
   intro l
   induction l with
   | nil => intro us h; exact h
   | cons c l ih =>
    rintro us ⟨u, r, e, h1, h2⟩
    exact ⟨u, r, e, h1.mono e1 (Mono.refl g), ih h2⟩
  exact key hv
 exact (k W hW g w E1 F vs s1 hv1).mono fun v w' ⟨E2, g2, sv, H2, e2, m2, q⟩ => ⟨E2, g2, sv, H2, e1.trans e2, m2, q⟩
theorem Wp.sel (h : Wp I P f args H fun sv H' => ∃ ls : List Nat, ls.take H.length = List.range H.length ∧ ls.Nodup ∧ (∀ l ∈ ls, l < H'.length) ∧ Q (sv.ren (idxN ls)) (ls.map fun l => (nthH H' l).ren (idxN ls))) : Wp I P f args H Q := fun W hW g w E F vs hs hv =>
 (h W hW g w E F vs hs hv).mono fun v w' ⟨E1, g1, sv, H1, e1, m1, s1, r1, ls, h1, hn, hlt, q⟩ => by
  have hr1 : RenOk (idxN ls) E1 (ls.map fun l => (E1[l]?).getD undef) := fun l l' v h1 h2 => by
   have := idxN_get h1
   rw [List.getElem?_map, this]
   simp [h2]
  have hsat : Sat W (ls.map fun l => (E1[l]?).getD undef) g1 w' (ls.map fun l => (nthH H1 l).ren (idxN ls)) F := by
   refine ⟨s1.sl.weak fun h0 x => ?_, by simp⟩
   have x1 := sats.takeAll (ob := nthH H1) hn (fun l hl => by
    have hl' := hlt l hl
    rw [List.getElem?_eq_getElem hl', nthH_get (List.getElem?_eq_getElem hl')]) x
   have x2 := sats.shed x1
   exact sats.selRen hr1 (k := 0) (fun i l hi => by rw [Nat.zero_add]; exact idxN_mem hn hi) x2
  refine ⟨_, g1, _, _, fun k u hk => ?_, m1, hsat, r1.ren hr1, q⟩
  have hk0 : k < H.length := by
   have := (List.getElem?_eq_some_iff.1 hk).1
   rw [hs.len] at this; exact this
  have : ls[k]? = some k := by
   have h2 : (ls.take H.length)[k]? = some k := by rw [h1]; simp [hk0]
   rw [List.getElem?_take, if_pos hk0] at h2
   exact h2
  rw [List.getElem?_map, this]
  simp [e1 k u hk]
theorem Wp.ownNil {t : TypeId} {e : Ty} (h : Wp I P f args H fun sv H' => Q sv H' ∨ (sv = .c (.k (.slice none 0 0)) ∧ Q (.c (.o H'.length)) (H' ++ [.sl t e []]))) : Wp I P f args H Q := fun W hW g w E F vs hs hv =>
 (h W hW g w E F vs hs hv).mono fun v w' ⟨E1, g1, sv, H1, e1, m1, s1, r1, q⟩ => by
  rcases q with q | ⟨rfl, q⟩
  ·exact ⟨E1, g1, sv, H1, e1, m1, s1, r1, q⟩
  ·have hv0 : v = .slice none 0 0 := r1.1
   subst hv0
   letI := e.rep
   have H2 := SL.slNil e.den t s1.sl
   refine ⟨E1 ++ [.slice none 0 0], g1, .c (.o H1.length), H1 ++ [.sl t e []], e1.trans (EnvLe.app _ _), m1, Sat.push (o := .sl t e []) (v := .slice none 0 0) s1.len (H2.weak fun _ ⟨k1, k2, ap, q, x1, x2⟩ => ⟨k1, k2, ap, q, ⟨_, by rw [← s1.len]; simp, x1⟩, x2⟩), ⟨by rw [← s1.len]; simp, none, 0, 0, rfl⟩, q⟩
theorem Wp.ownNil2 {t : TypeId} {e : Ty} (h : Wp I P f args H fun sv H' => Q sv H' ∨ ∃ x : Int, sv = .tup [.c (.k (.slice none 0 0)), .c (.k (.int .i64 x))] ∧ Q (.tup [.c (.o H'.length), .c (.k (.int .i64 x))]) (H' ++ [.sl t e []])) : Wp I P f args H Q := fun W hW g w E F vs hs hv =>
 (h W hW g w E F vs hs hv).mono fun v w' ⟨E1, g1, sv, H1, e1, m1, s1, r1, q⟩ => by
  rcases q with q | ⟨x, rfl, q⟩
  ·exact ⟨E1, g1, sv, H1, e1, m1, s1, r1, q⟩
  ·obtain ⟨us, ⟨u1, us1, rfl, ⟨hu1, _⟩, u2, us2, rfl, hu2, hnil⟩, rfl⟩ := r1
   obtain rfl : us2 = [] := hnil
   subst hu1
   letI := e.rep
   have H2 := SL.slNil e.den t s1.sl
   refine ⟨E1 ++ [.slice none 0 0], g1, .tup [.c (.o H1.length), .c (.k (.int .i64 x))], H1 ++ [.sl t e []], e1.trans (EnvLe.app _ _), m1, Sat.push (o := .sl t e []) (v := .slice none 0 0) s1.len (H2.weak fun _ ⟨k1, k2, ap, q, x1, x2⟩ => ⟨k1, k2, ap, q, ⟨_, by rw [← s1.len]; simp, x1⟩, x2⟩), ⟨_, ⟨_, _, rfl, ⟨by rw [← s1.len]; simp, none, 0, 0, rfl⟩, _, _, rfl, hu2, rfl⟩, rfl⟩, q⟩
def UpIs (T : UTy) (Y : UpY) : HO → Prop
 | .up T' q1 q2 _ nx L => T' = T ∧ q1 = Y.q1 ∧ q2 = Y.q2 ∧ nx = Y.nx ∧ RepY L Y
 | .ab (.fz T' q1 q2 _ nx L _ _) => T' = T ∧ q1 = Y.q1 ∧ q2 = Y.q2 ∧ nx = Y.nx ∧ RepY L Y
 | .ab (.pw T' q1 q2 _ nx L r m _ xs) => T' = T ∧ q1 = Y.q1 ∧ q2 = Y.q2 ∧ nx = Y.nx ∧ ∀ vd, RepY (setK L r { m with vd := vd, data := xs }) Y
 | _ => False
theorem upIs_sat {l : Nat} {v : Value} {T : UTy} {Y : UpY} {o : HO} {R : List Atom} (hE : E[l]? = some v) (h : UpIs T Y o) (S : SL W g w (atomO E l o :: R)) : ∃ g', Mono g g' ∧ SL W g' w (atomO E l (.ab (.upr T Y)) :: R) := by
 have up : ∀ {P : Program} {u mb : Nat} {L : List (Int × LNode)} {g : World}, v = ptr u 0 → kk2 P T → UpIn Y.q1 Y.q2 Y.nx L → RepY L Y → SL W g w (upA P T u Y.q1 Y.q2 mb Y.nx L :: R) → SL W g w (atomO E l (.ab (.upr T Y)) :: R) := fun {P u mb L g} hv hk hin hr H => by
  subst hv
  exact H.weak fun _ ⟨k1, k2, ap, q, s1, s2⟩ => ⟨k1, k2, ap, q, ⟨_, hE, u, P, mb, L, rfl, hk, hin, hr, s1⟩, s2⟩
 cases o with
 | up T' q1 q2 mb nx L =>
  obtain ⟨rfl, rfl, rfl, rfl, hr⟩ := h
  refine ⟨g, Mono.refl g, ?_⟩
  obtain ⟨k, be, se, ow, h1, h2, ap, q, ⟨u, P', s1, hk, hin, s3⟩, s4⟩ := S
  rw [hE] at s1
  exact up (Option.some.inj s1) (kk2_ok.2 hk) hin hr ⟨k, be, se, ow, h1, h2, ap, q, s3, s4⟩
 | ab a =>
  cases a with
  | fz T' q1 q2 mb nx L z hz =>
   obtain ⟨rfl, rfl, rfl, rfl, hr⟩ := h
   refine ⟨g, Mono.refl g, ?_⟩
   obtain ⟨k, be, se, ow, h1, h2, ap, q, ⟨v', s1, u, P', hv, hk, hin, s3⟩, s4⟩ := S
   rw [hE] at s1
   obtain rfl := Option.some.inj s1
   have H1 : SL W g w (fzA P' T' u Y.q1 Y.q2 mb Y.nx L hz z :: R) := ⟨k, be, se, ow, h1, h2, ap, q, s3, s4⟩
   have H2 := H1.fzO.2
   refine up hv hk hin hr (H2.under fun _ s => ?_)
   exact sats.shed s
  | pw T' q1 q2 mb nx L r m e xs =>
   obtain ⟨rfl, rfl, rfl, rfl, hr⟩ := h
   obtain ⟨k, be, se, ow, h1, h2, ap, q, ⟨v', s1, u, P', hv, hk, hin, s3⟩, s4⟩ := S
   rw [hE] at s1
   obtain rfl := Option.some.inj s1
   have H1 : SL W g w (pwA P' T' u Y.q1 Y.q2 mb Y.nx L r m e xs :: R) := ⟨k, be, se, ow, h1, h2, ap, q, s3, s4⟩
   obtain ⟨⟨m0, l1, l2⟩, H2⟩ := SL.openE H1
   obtain ⟨⟨hout, hb, hni⟩, H3⟩ := SL.pure H2
   obtain ⟨g1, m1, H4, hi⟩ := SL.slHold0 (α := UInt8) H3
   obtain ⟨i2, H5⟩ := SL.isv H4
   obtain ⟨i3, H6⟩ := SL.pure H5
   have H7 : SL W g1 w (nodeA P' T' { m with data := xs } :: restA P' T' u Y.q1 Y.q2 mb Y.nx L l1 l2 :: R) := SL.nodeI (n := { m with data := xs }) hi i2 i3.1 i3.2 H6
   have H8 := SL.upJoin (m := m0) (m' := { m with data := xs }) hout hb.symm H7
   refine ⟨g1, m1, up hv hk ?_ (hr m.vd) H8⟩
   exact upIn_set hin ⟨hni.kind, hni.mode, hni.uid, hni.gid, hni.up, hni.links, hni.ents⟩
  | _ => exact h.elim
 | _ => exact h.elim
theorem Wp.uprO {T : UTy} {Y : UpY} (h : ∀ mb L, RepY L Y → Wp I P f args (.up T Y.q1 Y.q2 mb Y.nx L :: H) fun sv H' => ∃ o R Y', H' = o :: R ∧ UpIs T Y' o ∧ Q sv (.ab (.upr T Y') :: R)) : Wp I P f args (.ab (.upr T Y) :: H) Q := by
 refine Wp.beg fun W E g w F S => ?_
 have hl := S.len
 obtain ⟨v, hE⟩ : ∃ v, E[0]? = some v := ⟨E[0]'(by rw [hl]; simp), List.getElem?_eq_getElem _⟩
 obtain ⟨k, be, se, ow, h1, h2, ap, q, ⟨v', s1, u, P', mb, L, hv, hk, hin, hr, s3⟩, s4⟩ := S.sl
 refine ⟨E, .up T Y.q1 Y.q2 mb Y.nx L :: H, EnvLe.refl E, ⟨⟨k, be, se, ow, h1, h2, ap, q, ⟨u, P', by rw [s1, hv], kk2_ok.1 hk, hin, s3⟩, s4⟩, hl⟩, ?_⟩
 refine (h mb L hr).fin fun W E g w F H' sv S ⟨o, R, Y', e, hu, hq⟩ => ?_
 subst e
 obtain ⟨v, hE⟩ : ∃ v, E[0]? = some v := ⟨E[0]'(by rw [S.len]; simp), List.getElem?_eq_getElem _⟩
 obtain ⟨g', m', S'⟩ := upIs_sat hE hu S.sl
 exact ⟨g', .ab (.upr T Y') :: R, m', ⟨S', S.len⟩, hq⟩
theorem Wp.upNew {T : UTy} {p l : Nat} (h : Wp I P f args H fun sv H' => ∃ q1 q2 mb nx L Y, p ≠ l ∧ H'[p]? = some (.cells T.U [.k (.int .i64 q1), .k (.int .i64 q2), .kl l (.map (some mb)), .k (.int .i64 nx)]) ∧ H'[l]? = some (.ab (.um T mb L)) ∧ UpIs T Y (.up T q1 q2 mb nx L) ∧ Q sv ((H'.set l .gone).set p (.ab (.upr T Y)))) : Wp I P f args H Q := by
 refine h.fin fun W E g w F H' sv S ⟨q1, q2, mb, nx, L, Y, hne, hp, hl, hu, hq⟩ => ⟨g, _, Mono.refl g, ?_, hq⟩
 obtain ⟨_, rfl, rfl, rfl, hr⟩ := hu
 have hpl := (List.getElem?_eq_some_iff.1 hp).1
 obtain ⟨v, hE⟩ : ∃ v, E[p]? = some v := ⟨E[p]'(by rw [S.len]; exact hpl), List.getElem?_eq_getElem _⟩
 have H1 := S.sl
 have x0 : ∃ k, Below W.n W.w w ∧ True := ⟨0, S.sl.below, trivial⟩
 refine ⟨?_, by rw [S.len]; simp⟩
 refine H1.weak fun k s => ?_
 have s1 := sats.take1 hl s
 have hp' : (H'.set l .gone)[p]? = some (.cells T.U [.k (.int .i64 Y.q1), .k (.int .i64 Y.q2), .kl l (.map (some mb)), .k (.int .i64 Y.nx)]) := by rw [List.getElem?_set_ne (Ne.symm hne)]; exact hp
 obtain ⟨k1, k2, ap, e, sum, s2⟩ := s1
 have s3 := sats.take1 hp' s2
 obtain ⟨k3, k4, ap2, e2, scell, s4⟩ := s3
 subst e2
 have a2 := Hp.apart_join.1 ap
 -- the two together
 obtain ⟨bb, us, hEb, hrel, hblk⟩ := scell
 obtain ⟨_, u1, rfl, ⟨rfl, i1⟩, _, u2, rfl, ⟨rfl, i2⟩, _, u3, rfl, ⟨_, rfl, _⟩, _, u4, rfl, ⟨rfl, i3⟩, hnil⟩ := hrel
 obtain rfl : u4 = [] := hnil
 obtain ⟨_, _, P', sp⟩ := sum
 obtain ⟨m1, m2, ap3, e3, ⟨hk, hin⟩, su⟩ := sp
 have su' : sats g (mapA P' T.kI mb (ptrsV L) :: L.map fun p => nodeA P' T p.2) k1 := by
  rw [e3]
  have := sats.app (a := []) (l := mapA P' T.kI mb (ptrsV L) :: L.map fun p => nodeA P' T p.2) ap3 trivial su
  exact this
 have hup : (atomO E p (.ab (.upr T Y))).sat g (k1.join k3) := by
  refine ⟨_, hEb, bb, P', mb, L, rfl, hk, ⟨i1, i2, i3, hin⟩, hr, ?_⟩
  rw [Hp.join_comm a2.1]
  exact ⟨k3, k1, a2.1.symm, rfl, hblk, su'⟩
 have s5 : sats g (atomO E p (.ab (.upr T Y)) :: (atomsO E 0 ((H'.set l .gone).set p .gone) ++ F)) k := by
  refine ⟨k1.join k3, k4, ?_, by rw [e, Hp.join_assoc], hup, s4⟩
  exact (Hp.apart_join.2 ⟨a2.2.symm, ap2.symm⟩).symm
 have s6 := sats.put1 (l := p) (H := (H'.set l .gone).set p .gone) (by simp [hpl]) s5
 have : ((H'.set l .gone).set p .gone).set p (.ab (.upr T Y)) = (H'.set l .gone).set p (.ab (.upr T Y)) := List.set_set ..
 rw [this] at s6
 exact s6
theorem Wp.zomb {T : UTy} {q1 q2 nx : Int} {mb : Nat} {L : List (Int × LNode)} {z : LNode} {hz : Hp}
  (h : Wp I P f args [.up T q1 q2 mb nx L] fun sv H' => ∃ o L', H' = [o] ∧ (o = .up T q1 q2 mb nx L' ∨ ∃ z' hz', o = .ab (.fz T q1 q2 mb nx L' z' hz')) ∧ Q sv [.ab (.fz T q1 q2 mb nx L' (some z) hz)]) : Wp I P f args [.ab (.fz T q1 q2 mb nx L (some z) hz)] Q := by
 intro W hW g w E F vs S hv
 obtain ⟨k, be, se, ow, h1, h2, ap, q, ⟨v', s1, u, P', hv', hk, hin, hzi, hu, apz, e2, su, sz⟩, s4⟩ := S.sl
 subst e2
 have a2 := Hp.apart_join.1 ap.symm
 let A : Atom := ⟨fun g hh => hh = hz ∧ (nodeA P' T z).sat g hh, fun m ⟨e, s⟩ => ⟨e, Atom.mono _ m s⟩⟩
 have S1 : Sat W E g w [.up T q1 q2 mb nx L] (A :: F) := by
  refine ⟨⟨k, be, se, ow, hu, hz.join h2, Hp.apart_join.2 ⟨apz, a2.1.symm⟩, by rw [q, Hp.join_assoc], ⟨u, P', by rw [s1, hv'], kk2_ok.1 hk, hin, su⟩, hz, h2, a2.2.symm, rfl, ⟨rfl, sz⟩, s4⟩, S.len⟩
 refine (h W hW g w E (A :: F) vs S1 hv).mono fun v w' ⟨E1, g1, sv, H1, e1, m1, S2, r1, o, L', hH, ho, hq⟩ => ?_
 subst hH
 refine ⟨E1, g1, sv, [.ab (.fz T q1 q2 mb nx L' (some z) hz)], e1, m1, ⟨?_, S2.len⟩, r1, hq⟩
 refine S2.sl.weak fun kk s => ?_
 obtain ⟨p1, p2, ap2, e3, so, p3, p4, ap3, e4, ⟨rfl, sn⟩, sF⟩ := s
 subst e4
 have a3 := Hp.apart_join.1 ap2
 have hE1 : E1[0]? = some v' := e1 0 v' s1
 rcases ho with rfl | ⟨z', hz', rfl⟩
 ·obtain ⟨u2, P2, s5, hk2, hin2, su2⟩ := so
  rw [hE1] at s5
  refine ⟨p1.join p3, p4, (Hp.apart_join.2 ⟨a3.2.symm, ap3.symm⟩).symm, by rw [e3, Hp.join_assoc], ⟨v', hE1, u2, P', Option.some.inj s5, hk, hin2, hzi, p1, a3.1, rfl, upA_re hk2 (kk2_ok.1 hk) su2, sn⟩, sF⟩
 ·obtain ⟨v2, s5, u2, P2, hv2, hk2, hin2, su2⟩ := so
  rw [hE1] at s5
  obtain rfl := Option.some.inj s5
  cases z' with
  | none =>
   obtain ⟨_, su3⟩ := su2
   exact ⟨p1.join p3, p4, (Hp.apart_join.2 ⟨a3.2.symm, ap3.symm⟩).symm, by rw [e3, Hp.join_assoc], ⟨v', hE1, u2, P', hv2, hk, hin2, hzi, p1, a3.1, rfl, upA_re (kk2_ok.1 hk2) (kk2_ok.1 hk) su3, sn⟩, sF⟩
  | some zz =>
   obtain ⟨_, p5, apq, e6, su3, _⟩ := su2
   subst e6
   have a4 := Hp.apart_join.1 a3.1.symm
   have a5 := Hp.apart_join.1 a3.2.symm
   refine ⟨p5.join p3, hz'.join p4, ?_, ?_, ⟨v', hE1, u2, P', hv2, hk, hin2, hzi, p5, a4.1.symm, rfl, upA_re (kk2_ok.1 hk2) (kk2_ok.1 hk) su3, sn⟩, ?_⟩
   ·refine (Hp.apart_join.2 ⟨?_, ?_⟩)
    ·exact (Hp.apart_join.2 ⟨apq.symm, a4.2.symm⟩).symm
    ·exact (Hp.apart_join.2 ⟨a5.1, ap3.symm⟩).symm
   ·rw [e3, Hp.join_assoc, Hp.join_assoc]
    congr 1
    rw [← Hp.join_assoc, ← Hp.join_assoc, Hp.join_comm a4.2.symm]
   ·exact sats.wider a5.2.symm sF
end
end Go.Lm

namespace Go.Lm
open Go Go.RowKit
abbrev AtD := Int × Int × Int × Unit
abbrev StD := Int × AtD × Int × Int × Unit
abbrev XeD := ByteArray × Int × Int × Unit
abbrev atTy : Ty := .pair (.int .i64) (.pair (.int .i64) (.pair (.int .i64) .unit))
abbrev stTy : Ty := .pair (.int .i64) (.pair atTy (.pair (.int .i64) (.pair (.int .i64) .unit)))
abbrev xeTy : Ty := .pair .str (.pair (.int .i64) (.pair (.int .i64) .unit))
theorem sEq_iff {a b : ByteArray} : sEq a b = true ↔ a = b := by
 unfold sEq
 rw [beq_iff_eq, Lib.toList_data, Lib.toList_data]
 constructor
 ·intro h
  obtain ⟨x⟩ := a
  obtain ⟨y⟩ := b
  have : x = y := Array.ext' h
  rw [this]
 ·intro h; rw [h]
def NoD.setA (n : NoD) (a : AtD) : NoD := (n.1, n.2.1, n.2.2.1, a, n.2.2.2.2)
def NoD.setD (n : NoD) (d : List UInt8) : NoD := (n.1, n.2.1, n.2.2.1, n.2.2.2.1, d, n.2.2.2.2.2)
def NoD.setX (n : NoD) (x : List XaD) : NoD := (n.1, n.2.1, n.2.2.1, n.2.2.2.1, n.2.2.2.2.1, n.2.2.2.2.2.1, x, n.2.2.2.2.2.2.2)
def NoD.setO (n : NoD) (q : Bool) : NoD := (n.1, n.2.1, n.2.2.1, n.2.2.2.1, n.2.2.2.2.1, n.2.2.2.2.2.1, n.2.2.2.2.2.2.1, q, ())
def setN (L : List NoD) (r : Int) (f : NoD → NoD) : List NoD := L.map fun n => bif isI r n then f n else n
def mayN (x : NoD) : Bool := if x.2.2.1 = 4 then !badM (x.setO false) else mayT (x.setO false)
def mayA (a : AtD) : Bool := may3 a.1 a.2.1 a.2.2.1
def sizeL (d : List UInt8) (n : Int) : List UInt8 := copyL (List.replicate n.toNat 0) 0 d
def writeL (d : List UInt8) (off : Int) (b : List UInt8) : List UInt8 := copyL (sizeL d (max (d.length : Int) (off + b.length))) off.toNat b
namespace UpY
variable (Y : UpY)
def dirE (r : Int) : Int := match Y.at r with
 | none => 1
 | some n => if n.2.2.1 = 1 then 0 else 24
def fileE (r : Int) : Int := match Y.at r with
 | none => 1
 | some n => if n.2.2.1 = 1 then 25 else if n.2.2.1 = 2 then 0 else 1
def atE (r : Int) : Int := match Y.at r with
 | none => 1
 | some _ => 0
def kindOf (r : Int) : Int := match Y.at r with
 | none => 0
 | some n => n.2.2.1
def statD (r : Int) : StD := match Y.at r with
 | none => (0, (0, 0, 0, ()), 0, 0, ())
 | some n => (n.2.2.1, n.2.2.2.1, Y.links r, (n.2.2.2.2.1.length : Int) + n.2.2.2.2.2.1.size + (Y.E.countP (ofD r) : Nat), ())
def lookE (d : Int) (s : ByteArray) : Int := if Y.dirE d = 0 then (match Y.ent d s with
 | none => 20
 | some _ => 0) else Y.dirE d
def lookD (d : Int) (s : ByteArray) : XeD := if Y.dirE d = 0 then (match Y.ent d s with
 | none => (⟨#[]⟩, 0, 0, ())
 | some e => (s, Y.kindOf e.2.2.1, e.2.2.1, ())) else (⟨#[]⟩, 0, 0, ())
def targetE (r : Int) : Int := match Y.at r with
 | none => 1
 | some n => if n.2.2.1 = 3 then 0 else 1
def targetD (r : Int) : ByteArray := match Y.at r with
 | none => ⟨#[]⟩
 | some n => if n.2.2.1 = 3 then n.2.2.2.2.2.1 else ⟨#[]⟩
def xattrsD (r : Int) : List XaD := match Y.at r with
 | none => []
 | some n => n.2.2.2.2.2.2.1
def opqD (r : Int) : Bool := match Y.at r with
 | none => false
 | some n => n.2.2.2.2.2.2.2.1
def readE (r off k : Int) : Int := if Y.fileE r = 0 then (if off < 0 ∨ k < 0 then 1 else 0) else Y.fileE r
def readD (r off k : Int) : List UInt8 := if Y.readE r off k = 0 then (match Y.at r with
 | none => []
 | some n => if off ≥ n.2.2.2.2.1.length then [] else (n.2.2.2.2.1.drop off.toNat).take (min k ((n.2.2.2.2.1.length : Int) - off)).toNat) else []
def freshE (d : Int) (s : ByteArray) : Int := if Y.dirE d = 0 then (if validN s = 0 then (match Y.ent d s with
 | none => 0
 | some _ => 21) else validN s) else Y.dirE d
def setAttrE (r : Int) (a : AtD) : Int := match Y.at r with
 | none => 1
 | some n => if n.2.2.1 = 4 ∨ mayA a = false then 1 else 0
def setAttrY (r : Int) (a : AtD) : UpY := if Y.setAttrE r a = 0 then { Y with L := setN Y.L r (·.setA a) } else Y
def setXattrsE (r : Int) (x : List XaD) : Int := match Y.at r with
 | none => 1
 | some n => if n.2.2.1 = 4 ∨ xattrsB x = false then 1 else 0
def setXattrsY (r : Int) (x : List XaD) : UpY := if Y.setXattrsE r x = 0 then { Y with L := setN Y.L r (·.setX x) } else Y
def setOpaqueY (r : Int) (q : Bool) : UpY := if Y.dirE r = 0 then { Y with L := setN Y.L r (·.setO q) } else Y
def resizeE (r k : Int) : Int := if Y.fileE r = 0 then (if k < 0 then 1 else if k > 4096 then 3 else 0) else Y.fileE r
def resizeY (r k : Int) : UpY := if Y.resizeE r k = 0 then { Y with L := setN Y.L r fun n => n.setD (sizeL n.2.2.2.2.1 k) } else Y
def writeE (r off : Int) (b : List UInt8) : Int := if Y.fileE r = 0 then (if off < 0 then 1 else if off > 4096 ∨ (b.length : Int) > 4096 - off then 3 else 0) else Y.fileE r
def writeY (r off : Int) (b : List UInt8) : UpY := if Y.writeE r off b = 0 ∧ b ≠ [] then { Y with L := setN Y.L r fun n => n.setD (writeL n.2.2.2.2.1 off b) } else Y
def makeE (d : Int) (s : ByteArray) (n : NoD) : Int := if Y.freshE d s = 0 then (if mayN n then 0 else 1) else Y.freshE d s
def makeR (d : Int) (s : ByteArray) (n : NoD) : Int := if Y.makeE d s n = 0 then Y.nx else 0
def newN (n : NoD) : NoD := ([], Y.nx, n.2.2.1, n.2.2.2.1, n.2.2.2.2.1, n.2.2.2.2.2.1, n.2.2.2.2.2.2.1, false, ())
def makeY (d : Int) (s : ByteArray) (n : NoD) : UpY := if Y.makeE d s n = 0 then { Y with L := Y.L ++ [Y.newN n], E := Y.E ++ [(d, s, Y.nx, ())], nx := Y.nx + 1 } else Y
def linkE (d : Int) (s : ByteArray) (r : Int) : Int := match Y.at r, Y.at d with
 | some n, some _ => if Y.freshE d s = 0 then (if n.2.2.1 = 1 then 25 else 0) else Y.freshE d s
 | _, _ => 1
def linkY (d : Int) (s : ByteArray) (r : Int) : UpY := if Y.linkE d s r = 0 then { Y with E := Y.E ++ [(d, s, r, ())] } else Y
def whites (r : Int) : Bool := Y.E.all fun e => !ofD r e || Y.kindOf e.2.2.1 == 4
def removeE (d : Int) (s : ByteArray) : Int := if Y.lookE d s = 0 then (match Y.ent d s with
 | none => 0
 | some e => if Y.whites e.2.2.1 then 0 else 26) else Y.lookE d s
def goneE (d : Int) (s : ByteArray) (r : Int) : List EnD := let E1 := Y.E.filter fun e => !isE d s e
 if E1.any (toR r) then E1 else E1.filter fun e => !ofD r e
def goneL (d : Int) (s : ByteArray) (r : Int) : List NoD := Y.L.filter fun n => isI 1 n || (Y.goneE d s r).any (toR n.2.1)
def removeY (d : Int) (s : ByteArray) : UpY := if Y.removeE d s = 0 then (match Y.ent d s with
 | none => Y
 | some e => { Y with L := Y.goneL d s e.2.2.1, E := Y.goneE d s e.2.2.1 }) else Y
def upOf (r : Int) : Int := match Y.E.find? (toR r) with
 | none => 0
 | some e => e.1
def inside (top : Int) : Nat → Int → Bool
 | 0, d => d == top
 | k + 1, d => d == top || (d != 1 && inside top k (Y.upOf d))
open Classical in
noncomputable def below (top d : Int) : Bool := decide (∃ k, Y.inside top k d = true)
noncomputable def moveE (d : Int) (s : ByteArray) (to : Int) (now : ByteArray) : Int := if Y.atE to ≠ 0 then Y.atE to else if Y.dirE d ≠ 0 then Y.dirE d else if Y.dirE to ≠ 0 then Y.dirE to else match Y.ent d s with
 | none => 20
 | some e => if Y.freshE to now ≠ 0 then Y.freshE to now else if Y.below e.2.2.1 to then 30 else 0
noncomputable def moveY (d : Int) (s : ByteArray) (to : Int) (now : ByteArray) : UpY := if Y.moveE d s to now = 0 then (match Y.ent d s with
 | none => Y
 | some e => { Y with E := (Y.E.filter fun e => !isE d s e) ++ [(to, now, e.2.2.1, ())] }) else Y
def costX (l : List XaD) : Int := (l.map fun x => (x.1.size : Int) + x.2.1.length).sum
def costN (n : NoD) : Int := 64 + n.2.2.2.2.1.length + n.2.2.2.2.2.1.size + costX n.2.2.2.2.2.2.1
def usedB : Int := (Y.L.map costN).sum + (Y.E.map fun e => (e.2.1.size : Int)).sum
def over : Bool := decide ((Y.L.length : Int) > Y.q1) || decide (Y.usedB > Y.q2)
end UpY
structure UpY.Wf (Y : UpY) : Prop where
 nd : (Y.L.map (·.2.1)).Nodup
 lo : ∀ n ∈ Y.L, 1 ≤ n.2.1 ∧ n.2.1 < Y.nx
 root : Y.dirE 1 = 0
 nm : ∀ n ∈ Y.L, n.1 = [] ∧ ((n.2.2.1 = 1 ∨ n.2.2.2.2.2.2.2.1 = false) ∧ mayN n = true)
 ne : (Y.E.map fun e => (e.1, e.2.1)).Nodup
 dir : ∀ e ∈ Y.E, Y.dirE e.1 = 0 ∧ validN e.2.1 = 0
 ref : ∀ e ∈ Y.E, e.2.2.1 ≠ 1 ∧ Y.atE e.2.2.1 = 0
 has : ∀ n ∈ Y.L, n.2.1 ≠ 1 → Y.E.any (toR n.2.1) = true
 one : ∀ e ∈ Y.E, Y.dirE e.2.2.1 = 0 → Y.E.countP (toR e.2.2.1) = 1
 dep : ∃ d : Int → Nat, ∀ e ∈ Y.E, Y.dirE e.2.2.1 = 0 → d e.1 < d e.2.2.1
section
variable {L : List (Int × LNode)} {Y : UpY}
theorem at_mem {r : Int} {y : NoD} (h : Y.at r = some y) : y ∈ Y.L ∧ y.2.1 = r := by
 unfold UpY.at at h
 refine ⟨List.mem_of_find?_eq_some h, ?_⟩
 have := List.find?_some h
 simpa [isI] using this
theorem at_none {r : Int} : Y.at r = none ↔ ∀ n ∈ Y.L, n.2.1 ≠ r := by
 unfold UpY.at
 rw [List.find?_eq_none]
 simp [isI]
theorem RepY.no (h : RepY L Y) {r : Int} (hr : getK L r = none) : Y.at r = none := by
 rw [at_none]
 intro n hn e
 have : r ∈ L.map (·.1) := h.keys.mem_iff.2 (List.mem_map.2 ⟨n, hn, e⟩)
 obtain ⟨p, hp, e2⟩ := List.mem_map.1 this
 exact getK_none.1 hr p hp e2
theorem RepY.get (h : RepY L Y) {r : Int} {y : NoD} (hr : Y.at r = some y) : ∃ m, getK L r = some m ∧ RepN Y r m y := by
 cases hg : getK L r with
 | none => rw [h.no hg] at hr; cases hr
 | some m =>
  obtain ⟨y', h1, h2⟩ := h.nodes r m hg
  rw [hr] at h1
  cases h1
  exact ⟨m, rfl, h2⟩
theorem RepY.both (h : RepY L Y) (r : Int) : (getK L r = none ∧ Y.at r = none) ∨ ∃ m y, getK L r = some m ∧ Y.at r = some y ∧ RepN Y r m y := by
 cases hg : getK L r with
 | none => exact .inl ⟨rfl, h.no hg⟩
 | some m =>
  obtain ⟨y, h1, h2⟩ := h.nodes r m hg
  exact .inr ⟨m, y, rfl, h1, h2⟩
theorem ents_nodup (w : Y.Wf) {r : Int} {m : LNode} {y : NoD} (h : RepN Y r m y) : (m.ents.map (·.1)).Nodup := by
 refine (h.ents.map (·.1)).nodup_iff.2 ?_
 rw [List.map_map]
 have e : ((fun x : ByteArray × Int => x.1) ∘ fun e : EnD => (e.2.1, e.2.2.1)) = fun e : EnD => e.2.1 := rfl
 rw [e]
 have h1 : ((Y.E.filter (ofD r)).map fun e => (e.1, e.2.1)).Nodup := ((List.filter_sublist (l := Y.E)).map _).nodup w.ne
 refine List.Pairwise.of_map (S := (· ≠ ·)) (fun s : ByteArray => (r, s)) (fun a b h e => h (by rw [e])) ?_
 rw [List.map_map]
 refine (List.map_congr_left fun e he => ?_) ▸ h1
 have : e.1 = r := by
  have := (List.mem_filter.1 he).2
  simpa [ofD] using this
 show (e.1, e.2.1) = (r, e.2.1)
 rw [this]
theorem ent_mem {d : Int} {s : ByteArray} {e : EnD} (h : Y.ent d s = some e) : e ∈ Y.E ∧ e.1 = d ∧ e.2.1 = s := by
 unfold UpY.ent at h
 refine ⟨List.mem_of_find?_eq_some h, ?_⟩
 have := List.find?_some h
 simpa [isE] using this
theorem ent_none {d : Int} {s : ByteArray} : Y.ent d s = none ↔ ∀ e ∈ Y.E, ¬ (e.1 = d ∧ e.2.1 = s) := by
 unfold UpY.ent
 rw [List.find?_eq_none]
 simp [isE]
theorem ents_mem {r : Int} {m : LNode} {y : NoD} (h : RepN Y r m y) {s : ByteArray} {x : Int} : (s, x) ∈ m.ents ↔ ∃ e ∈ Y.E, e.1 = r ∧ e.2.1 = s ∧ e.2.2.1 = x := by
 rw [h.ents.mem_iff, List.mem_map]
 constructor
 ·rintro ⟨e, he, h1⟩
  obtain ⟨h2, h3⟩ := List.mem_filter.1 he
  cases h1
  exact ⟨e, h2, by simpa [ofD] using h3, rfl, rfl⟩
 ·rintro ⟨e, he, h1, rfl, rfl⟩
  exact ⟨e, List.mem_filter.2 ⟨he, by simp [ofD, h1]⟩, rfl⟩
theorem ent_get (w : Y.Wf) {r : Int} {m : LNode} {y : NoD} (h : RepN Y r m y) (s : ByteArray) : getK m.ents s = (Y.ent r s).map fun e => e.2.2.1 := by
 cases he : Y.ent r s with
 | none =>
  have := ent_none.1 he
  refine getK_none.2 fun p hp e => ?_
  obtain ⟨e', h1, h2, h3, _⟩ := (ents_mem h (s := p.1) (x := p.2)).1 hp
  exact this e' h1 ⟨h2, h3.trans e⟩
 | some e =>
  obtain ⟨h1, h2, h3⟩ := ent_mem he
  exact getK_of_mem (ents_nodup w h) ((ents_mem h).2 ⟨e, h1, h2, h3, rfl⟩)
theorem ents_len {r : Int} {m : LNode} {y : NoD} (h : RepN Y r m y) : m.ents.length = Y.E.countP (ofD r) := by
 rw [h.ents.length_eq, List.length_map, List.countP_eq_length_filter]
theorem dirE_some {r : Int} {y : NoD} (h : Y.at r = some y) : Y.dirE r = if y.2.2.1 = 1 then 0 else 24 := by unfold UpY.dirE; rw [h]
theorem dirE_none {r : Int} (h : Y.at r = none) : Y.dirE r = 1 := by unfold UpY.dirE; rw [h]
theorem fileE_some {r : Int} {y : NoD} (h : Y.at r = some y) : Y.fileE r = if y.2.2.1 = 1 then 25 else if y.2.2.1 = 2 then 0 else 1 := by unfold UpY.fileE; rw [h]
theorem fileE_none {r : Int} (h : Y.at r = none) : Y.fileE r = 1 := by unfold UpY.fileE; rw [h]
theorem below_true {top d : Int} : Y.below top d = true ↔ ∃ k, Y.inside top k d = true := by
 unfold UpY.below
 exact @decide_eq_true_iff _ (Classical.propDecidable _)
theorem below_here (d : Int) : Y.below d d = true := below_true.2 ⟨0, by simp [UpY.inside]⟩
theorem below_root {top : Int} (h : top ≠ 1) : Y.below top 1 = false := by
 cases hb : Y.below top 1 with
 | false => rfl
 | true =>
  obtain ⟨k, hk⟩ := below_true.1 hb
  exfalso
  cases k <;> simp [UpY.inside, Ne.symm h] at hk
theorem below_up {top d : Int} (h1 : d ≠ top) (h2 : d ≠ 1) : Y.below top d = Y.below top (Y.upOf d) := by
 rw [Bool.eq_iff_iff, below_true, below_true]
 constructor
 ·rintro ⟨k, hk⟩
  cases k with
  | zero => simp [UpY.inside, h1] at hk
  | succ k =>
   simp only [UpY.inside] at hk
   have e1 : (d == top) = false := by simpa using h1
   have e2 : (d != 1) = true := by simpa using h2
   rw [e1, e2] at hk
   exact ⟨k, by simpa using hk⟩
 ·rintro ⟨k, hk⟩
  refine ⟨k + 1, ?_⟩
  simp only [UpY.inside]
  have e2 : (d != 1) = true := by simpa using h2
  rw [e2, hk]; simp
theorem upOf_some {d : Int} (h : Y.E.any (toR d) = true) : ∃ e ∈ Y.E, e.2.2.1 = d ∧ Y.upOf d = e.1 := by
 unfold UpY.upOf
 cases hf : Y.E.find? (toR d) with
 | none =>
  rw [List.find?_eq_none] at hf
  obtain ⟨e, he, h1⟩ := List.any_eq_true.1 h
  exact absurd h1 (hf e he)
 | some e => exact ⟨e, List.mem_of_find?_eq_some hf, by have := List.find?_some hf; simpa [toR] using this, rfl⟩
theorem dirE_zero {r : Int} : Y.dirE r = 0 ↔ ∃ y, Y.at r = some y ∧ y.2.2.1 = 1 := by
 unfold UpY.dirE
 cases Y.at r with
 | none => simp
 | some y =>
  simp only [Option.some.injEq, exists_eq_left']
  split <;> simp_all
structure UpY.Ok (Y : UpY) : Prop where
 wf : Y.Wf
 en : Y.E.length ≤ 1099511627776
 nb : Y.nx ≤ 1099511627776
theorem noB_zero {s : ByteArray} (h : noB s = true) : s.size = 0 := by
 unfold noB at h
 rw [sEq_iff] at h
 rw [h]; rfl
theorem mayN_lens {n : NoD} (h : mayN n = true) : n.2.2.2.2.1.length ≤ 4096 ∧ n.2.2.2.2.2.1.size ≤ 200 ∧ n.2.2.2.2.2.2.1.length ≤ 8 := by
 have hx : ∀ {l : List XaD}, xattrsB l = true → l.length ≤ 8 := fun {l} h => by
  unfold xattrsB at h
  simp only [Bool.and_eq_true, decide_eq_true_eq] at h
  omega
 unfold mayN at h
 split at h
 ·rename_i hk
  unfold badM NoD.setO at h
  simp only [hk] at h
  simp only [beq_self_eq_true, Bool.true_and, Bool.not_eq_true', Bool.or_eq_false_iff, decide_eq_false_iff_not, Bool.not_eq_false'] at h
  obtain ⟨⟨⟨⟨_, h1⟩, h2⟩, h3⟩, _⟩ := h
  have h2' := noB_zero (s := n.2.2.2.2.2.1) h2
  simp only [Nat.lt_irrefl, gt_iff_lt] at h1 h3
  omega
 ·unfold mayT NoD.setO at h
  simp only at h
  split at h
  ·simp only [Bool.and_eq_true] at h
   have h1 := eq_of_beq h.1.1.1.1
   have h2 := noB_zero h.1.1.1.2
   have h3 := hx h.2
   omega
  ·split at h
   ·simp only [Bool.and_eq_true, decide_eq_true_eq] at h
    have h1 := h.1.1.1.1
    have h2 := noB_zero h.1.1.1.2
    have h3 := hx h.2
    omega
   ·split at h
    ·simp only [Bool.and_eq_true] at h
     have h1 := eq_of_beq h.1.1.1.1
     have h2 := h.1.1.1.2
     have h3 := hx h.2
     unfold plainS withinI at h2
     simp only [Bool.and_eq_true, decide_eq_true_eq] at h2
     omega
    ·cases h
end
end Go.Lm

namespace Go.Lm
open Go Go.RowKit
section
variable {L : List (Int × LNode)} {Y : UpY}
theorem RepN.to {Y' : UpY} {r : Int} {m : LNode} {y : NoD} (h : RepN Y r m y) (e : Y'.E = Y.E) : RepN Y' r m y := ⟨h.kind, h.mode, h.uid, h.gid, h.data, h.target, h.xattrs, h.opq, by rw [e]; exact h.ents, by rw [h.links]; unfold UpY.links; rw [e], by rw [e]; exact h.up⟩
theorem find_map_same {α : Type} {p : α → Bool} {g : α → α} (h : ∀ x, p (g x) = p x) : ∀ l : List α, (l.map g).find? p = (l.find? p).map g
 | [] => rfl
 | x :: l => by
  simp only [List.map_cons, List.find?_cons, h]
  cases p x with
  | true => rfl
  | false => exact find_map_same h l
theorem at_setN {r : Int} {f : NoD → NoD} (hf : ∀ n, (f n).2.1 = n.2.1) (x : Int) : ({ Y with L := setN Y.L r f } : UpY).at x = (Y.at x).map fun n => bif isI r n then f n else n := by
 unfold UpY.at setN
 refine find_map_same (fun n => ?_) Y.L
 unfold isI
 cases n.2.1 == r <;> simp [hf]
theorem at_setN_eq {r : Int} {f : NoD → NoD} {y : NoD} (hf : ∀ n, (f n).2.1 = n.2.1) (h : Y.at r = some y) : ({ Y with L := setN Y.L r f } : UpY).at r = some (f y) := by
 rw [at_setN hf, h]
 have := (at_mem h).2
 simp [isI, this]
theorem at_setN_ne {r x : Int} {f : NoD → NoD} (hf : ∀ n, (f n).2.1 = n.2.1) (h : x ≠ r) : ({ Y with L := setN Y.L r f } : UpY).at x = Y.at x := by
 rw [at_setN hf]
 cases hy : Y.at x with
 | none => rfl
 | some y =>
  have := (at_mem hy).2
  have e : isI r y = false := by unfold isI; rw [this]; simpa using h
  simp [e]
theorem setN_inos {r : Int} {f : NoD → NoD} (hf : ∀ n, (f n).2.1 = n.2.1) (l : List NoD) : (setN l r f).map (·.2.1) = l.map (·.2.1) := by
 unfold setN
 rw [List.map_map]
 refine List.map_congr_left fun n _ => ?_
 show (bif isI r n then f n else n).2.1 = n.2.1
 cases isI r n <;> simp [hf]
theorem setK_keys {α : Type} (L : List (Int × α)) (r : Int) (m : α) : (setK L r m).map (·.1) = L.map (·.1) := by
 unfold setK
 rw [List.map_map]
 refine List.map_congr_left fun p _ => ?_
 simp only [Function.comp]
 split <;> rfl
theorem getK_setK_self {α : Type} {L : List (Int × α)} {r : Int} {m m' : α} (h : getK L r = some m) : getK (setK L r m') r = some m' := by
 induction L with
 | nil => cases h
 | cons p L ih =>
  have e : setK (p :: L) r m' = (if p.1 = r then (p.1, m') else p) :: setK L r m' := rfl
  rw [e, getK_cons']
  rw [getK_cons'] at h
  by_cases hp : p.1 = r
  ·simp [hp]
  ·rw [if_neg hp] at h ⊢
   simp [hp, ih h]
theorem getK_setK_other {α : Type} {L : List (Int × α)} {r x : Int} {m' : α} (h : x ≠ r) : getK (setK L r m') x = getK L x := by
 induction L with
 | nil => rfl
 | cons p L ih =>
  have e : setK (p :: L) r m' = (if p.1 = r then (p.1, m') else p) :: setK L r m' := rfl
  rw [e, getK_cons', getK_cons']
  by_cases hp : p.1 = r
  ·rw [if_pos hp]
   have : ¬ p.1 = x := fun q => h (q.symm.trans hp)
   simp only [this, if_false]
   exact ih
  ·rw [if_neg hp]
   by_cases hx : p.1 = x
   ·simp [hx]
   ·simp only [hx, if_false]
    exact ih
theorem RepY.setN (hr : RepY L Y) {r : Int} {m m' : LNode} {y : NoD} {f : NoD → NoD} (hf : ∀ n, (f n).2.1 = n.2.1) (hg : getK L r = some m) (hy : Y.at r = some y) (h : RepN Y r m' (f y)) : RepY (setK L r m') { Y with L := Lm.setN Y.L r f } := by
 refine ⟨?_, fun x n hn => ?_⟩
 ·rw [setK_keys]
  show (L.map (·.1)).Perm ((Lm.setN Y.L r f).map (·.2.1))
  rw [setN_inos hf]
  exact hr.keys
 ·by_cases e : x = r
  ·subst e
   rw [getK_setK_self hg] at hn
   obtain rfl := Option.some.inj hn
   exact ⟨f y, at_setN_eq hf hy, h.to rfl⟩
  ·rw [getK_setK_other e] at hn
   obtain ⟨y', h1, h2⟩ := hr.nodes x n hn
   exact ⟨y', by rw [at_setN_ne hf e]; exact h1, h2.to rfl⟩
theorem xaO_xaT (l : List XaD) : (l.map xaO).map xaT = l := by
 rw [List.map_map]
 conv => rhs; rw [← List.map_id l]
 exact List.map_congr_left fun _ _ => rfl
theorem xattrsB_len {l : List XaD} (h : xattrsB l = true) : l.length ≤ 8 := by
 unfold xattrsB at h
 simp only [Bool.and_eq_true, decide_eq_true_eq] at h
 omega
theorem xattrsGo_all : ∀ {l : List XaD} {last : ByteArray}, xattrsGo l last = true → ∀ x ∈ l, x.2.1.length ≤ 200 ∧ x.1.size ≤ 40
 | [], _, _, x, h => by cases h
 | y :: r, last, h, x, hx => by
  unfold xattrsGo at h
  split at h
  ·cases h
  ·rename_i hb
   rcases List.mem_cons.1 hx with rfl | hx
   ·unfold badX plainS withinI at hb
    simp only [Bool.or_eq_true, Bool.not_eq_true', Bool.and_eq_false_iff, decide_eq_true_eq, decide_eq_false_iff_not] at hb
    refine ⟨?_, ?_⟩ <;> (apply Decidable.byContradiction; intro hc; apply hb; first | (exact .inr (by omega)) | (exact .inl (.inl (.inl (.inr (by omega))))))
   ·exact xattrsGo_all h x hx
theorem xattrsB_all {l : List XaD} (h : xattrsB l = true) : ∀ x ∈ l, x.2.1.length ≤ 200 ∧ x.1.size ≤ 40 := by
 unfold xattrsB at h
 simp only [Bool.and_eq_true] at h
 exact xattrsGo_all h.1
theorem mayN_xattrs {n : NoD} (h : mayN n = true) : ∀ x ∈ n.2.2.2.2.2.2.1, x.2.1.length ≤ 200 ∧ x.1.size ≤ 40 := by
 unfold mayN at h
 split at h
 ·rename_i hk
  unfold badM NoD.setO at h
  simp only [hk] at h
  simp only [beq_self_eq_true, Bool.true_and, Bool.not_eq_true', Bool.or_eq_false_iff, decide_eq_false_iff_not, Bool.not_eq_false'] at h
  have h3 := h.1.2
  have : n.2.2.2.2.2.2.1 = [] := List.eq_nil_of_length_eq_zero (by simp only [gt_iff_lt] at h3; omega)
  rw [this]
  exact fun _ h => by cases h
 ·unfold mayT NoD.setO at h
  simp only at h
  split at h
  ·simp only [Bool.and_eq_true] at h
   exact xattrsB_all h.2
  ·split at h
   ·simp only [Bool.and_eq_true] at h
    exact xattrsB_all h.2
   ·split at h
    ·simp only [Bool.and_eq_true] at h
     exact xattrsB_all h.2
    ·cases h
theorem sizeL_len (d : List UInt8) (n : Int) : (sizeL d n).length = n.toNat := by
 unfold sizeL
 rw [copyL_length _ _ _ (by simp)]; simp
end
end Go.Lm

namespace Go.Lm
open Go Go.RowKit
section
variable {L : List (Int × LNode)} {Y : UpY}
def entsOf (E : List EnD) (r : Int) : List (ByteArray × Int) := (E.filter (ofD r)).map fun e => (e.2.1, e.2.2.1)
theorem entsOf_app (E F : List EnD) (r : Int) : entsOf (E ++ F) r = entsOf E r ++ entsOf F r := by
 unfold entsOf
 rw [List.filter_append, List.map_append]
theorem entsOf_ne (d : Int) (s : ByteArray) (x r : Int) (h : d ≠ r) : entsOf [(d, s, x, ())] r = [] := by
 unfold entsOf
 have : ofD r (d, s, x, ()) = false := by simpa [ofD] using h
 simp [this]
theorem entsOf_eq (s : ByteArray) (x r : Int) : entsOf [(r, s, x, ())] r = [(s, x)] := by
 unfold entsOf
 have : ofD r (r, s, x, ()) = true := by simp [ofD]
 simp [this]
theorem entsOf_del_ne (E : List EnD) (d r : Int) (s : ByteArray) (h : d ≠ r) : entsOf (E.filter fun e => !isE d s e) r = entsOf E r := by
 unfold entsOf
 congr 1
 rw [List.filter_filter]
 refine List.filter_congr fun e _ => ?_
 unfold ofD isE
 by_cases h1 : e.1 = r
 ·have : ¬ e.1 = d := fun q => h (q.symm.trans h1)
  simp only [h1, beq_self_eq_true, Bool.true_and]
  have e2 : (r == d) = false := by simpa using Ne.symm h
  rw [e2]; rfl
 ·simp [h1]
theorem entsOf_del_eq (E : List EnD) (d : Int) (s : ByteArray) : entsOf (E.filter fun e => !isE d s e) d = delK (entsOf E d) s := by
 unfold entsOf delK
 rw [List.filter_map]
 congr 1
 rw [List.filter_filter, List.filter_filter]
 refine List.filter_congr fun e _ => ?_
 unfold ofD isE
 by_cases h1 : e.1 = d <;> by_cases h2 : e.2.1 = s <;> simp [h1, h2]
theorem delK_perm {l l' : List (ByteArray × Int)} {s : ByteArray} (h : l.Perm l') : (delK l s).Perm (delK l' s) := h.filter _
theorem putK_perm {l l' : List (ByteArray × Int)} {s : ByteArray} {x : Int} (h : l.Perm l') (hn : getK l s = none) : (putK l s x).Perm (l' ++ [(s, x)]) := by
 unfold putK
 rw [delK_none hn]
 refine (h.cons _).trans ?_
 exact (List.perm_append_singleton _ _).symm
theorem cnt_app (E : List EnD) (d : Int) (s : ByteArray) (x r : Int) : (E ++ [(d, s, x, ())]).countP (toR r) = E.countP (toR r) + if x = r then 1 else 0 := by
 rw [List.countP_append]
 congr 1
 unfold toR
 by_cases h : x = r <;> simp [h]
theorem del_split (w : Y.Wf) {d : Int} {s : ByteArray} {e : EnD} (h : Y.ent d s = some e) : ∃ E1 E2, Y.E = E1 ++ e :: E2 ∧ (Y.E.filter fun e => !isE d s e) = E1 ++ E2 := by
 obtain ⟨h1, h2, h3⟩ := ent_mem h
 obtain ⟨E1, E2, he⟩ := List.append_of_mem h1
 refine ⟨E1, E2, he, ?_⟩
 have hn := w.ne
 rw [he, List.map_append, List.map_cons] at hn
 have n1 := List.nodup_append.1 hn
 have keep : ∀ l : List EnD, (∀ x ∈ l, (x.1, x.2.1) ≠ (e.1, e.2.1)) → l.filter (fun e => !isE d s e) = l := fun l hl => List.filter_eq_self.2 fun x hx => by
  have := hl x hx
  unfold isE
  by_cases a : x.1 = d
  ·by_cases b : x.2.1 = s
   ·exact absurd (by rw [a, b, h2, h3]) this
   ·simp [b]
  ·simp [a]
 rw [he, List.filter_append, List.filter_cons]
 have hee : isE d s e = true := by unfold isE; simp [h2, h3]
 simp only [hee, Bool.not_true, Bool.false_eq_true, if_false]
 rw [keep E1 fun x hx q => n1.2.2 _ (List.mem_map.2 ⟨x, hx, rfl⟩) (e.1, e.2.1) (by simp) q, keep E2 fun x hx q => (List.nodup_cons.1 n1.2.1).1 (q ▸ List.mem_map.2 ⟨x, hx, rfl⟩)]
theorem cnt_del (w : Y.Wf) {d : Int} {s : ByteArray} {e : EnD} (h : Y.ent d s = some e) (r : Int) : (Y.E.filter fun e => !isE d s e).countP (toR r) + (if e.2.2.1 = r then 1 else 0) = Y.E.countP (toR r) := by
 obtain ⟨E1, E2, h1, h2⟩ := del_split w h
 rw [h2, h1, List.countP_append, List.countP_append, List.countP_cons]
 unfold toR
 by_cases h : e.2.2.1 = r <;> simp [h] <;> omega
theorem RepN.turn {Y' : UpY} {r : Int} {m m' : LNode} {y : NoD} (h : RepN Y r m y) (hm : m' = { m with ents := m'.ents, up := m'.up, links := m'.links }) (he : m'.ents.Perm (entsOf Y'.E r)) (hl : m'.links = Y'.links r) (hu : m.kind = 1 → ∀ e ∈ Y'.E, e.2.2.1 = r → m'.up = e.1) : RepN Y' r m' y := by
 rw [hm]
 exact ⟨h.kind, h.mode, h.uid, h.gid, h.data, h.target, h.xattrs, h.opq, he, hl, hu⟩
theorem at_app_old {n : NoD} {r : Int} {y : NoD} (h : Y.at r = some y) (E : List EnD) (nx : Int) : ({ Y with L := Y.L ++ [n], E := E, nx := nx } : UpY).at r = some y := by
 show (Y.L ++ [n]).find? (isI r) = some y
 rw [List.find?_append]
 have : Y.L.find? (isI r) = some y := h
 rw [this]; rfl
theorem at_app_new {n : NoD} {r : Int} (h : Y.at r = none) (hn : n.2.1 = r) (E : List EnD) (nx : Int) : ({ Y with L := Y.L ++ [n], E := E, nx := nx } : UpY).at r = some n := by
 show (Y.L ++ [n]).find? (isI r) = some n
 rw [List.find?_append]
 have : Y.L.find? (isI r) = none := h
 rw [this]
 simp [isI, hn]
theorem nx_none (w : Y.Wf) : Y.at Y.nx = none := at_none.2 fun n hn e => by
 have := (w.lo n hn).2
 omega
theorem RepY.nx_no (hr : RepY L Y) (w : Y.Wf) : getK L Y.nx = none := by
 rcases hr.both Y.nx with ⟨h, _⟩ | ⟨m, y, _, h, _⟩
 ·exact h
 ·rw [nx_none w] at h; cases h
theorem at_dir (w : Y.Wf) {e : EnD} (he : e ∈ Y.E) : ∃ y, Y.at e.1 = some y ∧ y.2.2.1 = 1 := dirE_zero.1 (w.dir e he).1
theorem at_ref (w : Y.Wf) {e : EnD} (he : e ∈ Y.E) : ∃ y, Y.at e.2.2.1 = some y := by
 have := (w.ref e he).2
 unfold UpY.atE at this
 cases hy : Y.at e.2.2.1 with
 | none => rw [hy] at this; cases this
 | some y => exact ⟨y, rfl⟩
theorem nodup_len : ∀ (n : Nat) (l : List Int), l.Nodup → (∀ x ∈ l, 1 ≤ x ∧ x ≤ n) → l.length ≤ n
 | 0, l, _, h => by
  cases l with
  | nil => simp
  | cons x l => have := h x (by simp); omega
 | n + 1, l, hn, h => by
  have h1 := nodup_len n (l.filter fun x => decide (x ≠ ((n + 1 : Nat) : Int))) (List.filter_sublist.nodup hn) fun x hx => by
   obtain ⟨hx1, hx2⟩ := List.mem_filter.1 hx
   have := h x hx1
   have : x ≠ ((n + 1 : Nat) : Int) := by simpa using hx2
   omega
  have h2 : l.count ((n + 1 : Nat) : Int) ≤ 1 := List.nodup_iff_count.1 hn _
  have h3 : l.length = (l.filter fun x => decide (x ≠ ((n + 1 : Nat) : Int))).length + l.count ((n + 1 : Nat) : Int) := by
   clear h1 h2 hn h
   induction l with
   | nil => rfl
   | cons y l ih =>
    by_cases e : y = ((n + 1 : Nat) : Int)
    ·subst e
     rw [List.filter_cons, List.count_cons]
     simp only [ne_eq, not_true_eq_false, decide_false, Bool.false_eq_true, if_false, beq_self_eq_true, if_true, List.length_cons]
     rw [ih]
     simp only [ne_eq]
     omega
    ·rw [List.filter_cons, List.count_cons]
     have e2 : (y == ((n + 1 : Nat) : Int)) = false := by simpa using e
     simp only [ne_eq, e, not_false_eq_true, decide_true, if_true, e2, Bool.false_eq_true, if_false, List.length_cons]
     rw [ih]
     simp only [ne_eq]
     omega
  omega
theorem RepY.len (hr : RepY L Y) (w : Y.Wf) : (L.length : Int) < Y.nx := by
 have h1 : L.length = (Y.L.map (·.2.1)).length := by rw [← hr.keys.length_eq, List.length_map]
 obtain ⟨y1, hy1, _⟩ := dirE_zero.1 w.root
 have hp := w.lo y1 (at_mem hy1).1
 have h2 := nodup_len (Y.nx - 1).toNat (Y.L.map (·.2.1)) w.nd fun x hx => by
  obtain ⟨n, hn, rfl⟩ := List.mem_map.1 hx
  have := w.lo n hn
  omega
 omega
theorem nx_pos (w : Y.Wf) : 1 < Y.nx := by
 obtain ⟨y1, hy1, _⟩ := dirE_zero.1 w.root
 have := w.lo y1 (at_mem hy1).1
 omega
theorem getK_cons_ne' {α : Type} {L : List (Int × α)} {r x : Int} {n m : α} (h : x ≠ r) (hg : getK L r = some m) : getK ((x, n) :: L) r = some m := by
 rw [getK_cons', if_neg h]; exact hg
theorem freshE_some {d : Int} {s : ByteArray} {y : NoD} (h : Y.at d = some y) (hk : y.2.2.1 = 1) (hv : validN s = 0) : Y.freshE d s = match Y.ent d s with
  | none => 0
  | some _ => 21 := by
 unfold UpY.freshE
 rw [dirE_some h, if_pos hk, if_pos rfl, if_pos hv]
 try (cases Y.ent d s <;> rfl)
theorem freshE_bad {d : Int} {s : ByteArray} {y : NoD} (h : Y.at d = some y) (hk : y.2.2.1 = 1) (hv : validN s ≠ 0) : Y.freshE d s = validN s := by
 unfold UpY.freshE
 rw [dirE_some h, if_pos hk, if_pos rfl, if_neg hv]
theorem freshE_no {d : Int} {s : ByteArray} (h : Y.dirE d ≠ 0) : Y.freshE d s = Y.dirE d := by
 unfold UpY.freshE
 rw [if_neg h]
theorem RepY.make (hr : RepY L Y) (w : Y.Wf) {d : Int} {s : ByteArray} {m nd : LNode} {y : NoD} {x : NoD} (hg : getK L d = some m) (hy : Y.at d = some y) (hN : RepN Y d m y) (hent : getK m.ents s = none)
  (hnd : nd.kind = x.2.2.1 ∧ nd.mode = x.2.2.2.1.1 ∧ nd.uid = x.2.2.2.1.2.1 ∧ nd.gid = x.2.2.2.1.2.2.1 ∧ nd.data = x.2.2.2.2.1 ∧ nd.target = x.2.2.2.2.2.1 ∧ nd.xattrs.map xaT = x.2.2.2.2.2.2.1 ∧ nd.opq = false ∧ nd.ents = [] ∧ nd.links = 1 ∧ (nd.kind = 1 → nd.up = d)) :
  RepY (setK ((Y.nx, nd) :: L) d { m with ents := putK m.ents s Y.nx }) { Y with L := Y.L ++ [Y.newN x], E := Y.E ++ [(d, s, Y.nx, ())], nx := Y.nx + 1 } := by
 have hnx := nx_none w
 have hdn : d ≠ Y.nx := fun e => by rw [e, hnx] at hy; cases hy
 have hno : getK L Y.nx = none := hr.nx_no w
 have hn1 : Y.nx ≠ 1 := fun e => by
  obtain ⟨y1, h1, _⟩ := dirE_zero.1 w.root
  rw [← e, hnx] at h1; cases h1
 have old : ∀ {z : Int} {mz : LNode} {yz : NoD}, z ≠ Y.nx → RepN Y z mz yz → ∀ (m' : LNode), m' = { mz with ents := m'.ents, up := m'.up, links := m'.links } → m'.links = mz.links → m'.up = mz.up → m'.ents.Perm (entsOf (Y.E ++ [(d, s, Y.nx, ())]) z) → RepN { Y with L := Y.L ++ [Y.newN x], E := Y.E ++ [(d, s, Y.nx, ())], nx := Y.nx + 1 } z m' yz := fun {z mz yz} hz hN m' hm hl hu he => by
  refine hN.turn hm he ?_ ?_
  ·rw [hl, hN.links]
   unfold UpY.links
   have := cnt_app Y.E d s Y.nx z
   rw [if_neg (Ne.symm hz)] at this
   show _ = if z = 1 then (1 : Int) else ((Y.E ++ [(d, s, Y.nx, ())]).countP (toR z) : Int)
   rw [this]; rfl
  ·intro hk e he hez
   rw [hu]
   rcases List.mem_append.1 he with he | he
   ·exact hN.up hk e he hez
   ·have : e = (d, s, Y.nx, ()) := by simpa using he
    subst this
    exact absurd hez (Ne.symm hz)
 refine ⟨?_, fun z n hn => ?_⟩
 ·rw [setK_keys]
  show (Y.nx :: L.map (·.1)).Perm ((Y.L ++ [Y.newN x]).map (·.2.1))
  rw [List.map_append]
  exact (hr.keys.cons _).trans (List.perm_append_singleton _ _).symm
 ·by_cases hz : z = d
  ·subst hz
   have hg' : getK ((Y.nx, nd) :: L) z = some m := by rw [getK_cons', if_neg (Ne.symm hdn)]; exact hg
   rw [getK_setK_self hg'] at hn
   obtain rfl := Option.some.inj hn
   refine ⟨y, at_app_old hy _ _, old hdn hN _ rfl rfl rfl ?_⟩
   rw [entsOf_app, entsOf_eq]
   exact putK_perm hN.ents hent
  ·rw [getK_setK_other hz, getK_cons'] at hn
   by_cases hzn : Y.nx = z
   ·rw [if_pos hzn] at hn
    obtain rfl := Option.some.inj hn
    subst hzn
    obtain ⟨a1, a2, a3, a4, a5, a6, a7, a8, a9, a10, a11⟩ := hnd
    have nodir : ∀ e ∈ Y.E, e.1 ≠ Y.nx := fun e he q => by
     obtain ⟨y1, h1, _⟩ := at_dir w he
     rw [q, hnx] at h1; cases h1
    have noref : ∀ e ∈ Y.E, e.2.2.1 ≠ Y.nx := fun e he q => by
     obtain ⟨y1, h1⟩ := at_ref w he
     rw [q, hnx] at h1; cases h1
    refine ⟨Y.newN x, at_app_new hnx rfl _ _, a1, a2, a3, a4, a5, a6, a7, a8, ?_, ?_, fun hk e he hez => ?_⟩
    ·rw [a9]
     show List.Perm [] (entsOf (Y.E ++ [(d, s, Y.nx, ())]) Y.nx)
     rw [entsOf_app, entsOf_ne _ _ _ _ hdn, List.append_nil]
     unfold entsOf
     rw [List.filter_eq_nil_iff.2 fun e he => by simpa [ofD] using nodir e he]
     exact List.Perm.refl _
    ·rw [a10]
     unfold UpY.links
     rw [if_neg hn1]
     show (1 : Int) = ((Y.E ++ [(d, s, Y.nx, ())]).countP (toR Y.nx) : Int)
     rw [cnt_app, if_pos rfl, List.countP_eq_zero.2 fun e he => by simpa [toR] using noref e he]; rfl
    ·rw [a11 hk]
     rcases List.mem_append.1 he with he | he
     ·exact absurd hez (noref e he)
     ·have : e = (d, s, Y.nx, ()) := by simpa using he
      rw [this]
   ·rw [if_neg hzn] at hn
    obtain ⟨yz, h1, h2⟩ := hr.nodes z n hn
    refine ⟨yz, at_app_old h1 _ _, old (Ne.symm hzn) h2 _ rfl rfl rfl ?_⟩
    rw [entsOf_app, entsOf_ne _ _ _ _ (Ne.symm hz), List.append_nil]
    exact h2.ents
theorem RepY.link (hr : RepY L Y) {d r : Int} {s : ByteArray} {m n : LNode} {y yr : NoD} (hg : getK L d = some m) (hy : Y.at d = some y) (hN : RepN Y d m y) (hent : getK m.ents s = none) (hgr : getK L r = some n) (hyr : Y.at r = some yr) (hNr : RepN Y r n yr) (hk : n.kind ≠ 1) (hdr : d ≠ r) (hr1 : r ≠ 1) :
  RepY (setK (setK L d { m with ents := putK m.ents s r }) r { n with links := n.links + 1 }) { Y with E := Y.E ++ [(d, s, r, ())] } := by
 have old : ∀ {z : Int} {mz : LNode} {yz : NoD}, z ≠ r → RepN Y z mz yz → ∀ (m' : LNode), m' = { mz with ents := m'.ents, up := m'.up, links := m'.links } → m'.links = mz.links → m'.up = mz.up → m'.ents.Perm (entsOf (Y.E ++ [(d, s, r, ())]) z) → RepN { Y with E := Y.E ++ [(d, s, r, ())] } z m' yz := fun {z mz yz} hz hN m' hm hl hu he => by
  refine hN.turn hm he ?_ ?_
  ·rw [hl, hN.links]
   unfold UpY.links
   have := cnt_app Y.E d s r z
   rw [if_neg (Ne.symm hz)] at this
   show _ = if z = 1 then (1 : Int) else ((Y.E ++ [(d, s, r, ())]).countP (toR z) : Int)
   rw [this]; rfl
  ·intro hk e he hez
   rw [hu]
   rcases List.mem_append.1 he with he | he
   ·exact hN.up hk e he hez
   ·have : e = (d, s, r, ()) := by simpa using he
    subst this
    exact absurd hez (Ne.symm hz)
 refine ⟨by rw [setK_keys, setK_keys]; exact hr.keys, fun z n' hn => ?_⟩
 by_cases hz : z = r
 ·subst hz
  rw [getK_setK_self (m := n) (by rw [getK_setK_other (Ne.symm hdr)]; exact hgr)] at hn
  obtain rfl := Option.some.inj hn
  refine ⟨yr, hyr, hNr.turn rfl ?_ ?_ fun h => absurd h hk⟩
  ·show n.ents.Perm (entsOf (Y.E ++ [(d, s, z, ())]) z)
   rw [entsOf_app, entsOf_ne _ _ _ _ hdr, List.append_nil]
   exact hNr.ents
  ·show n.links + 1 = _
   rw [hNr.links]
   unfold UpY.links
   rw [if_neg hr1, if_neg hr1]
   show _ = ((Y.E ++ [(d, s, z, ())]).countP (toR z) : Int)
   rw [cnt_app, if_pos rfl]; rfl
 ·rw [getK_setK_other hz] at hn
  by_cases hd : z = d
  ·subst hd
   rw [getK_setK_self hg] at hn
   obtain rfl := Option.some.inj hn
   refine ⟨y, hy, old hz hN _ rfl rfl rfl ?_⟩
   rw [entsOf_app, entsOf_eq]
   exact putK_perm hN.ents hent
  ·rw [getK_setK_other hd] at hn
   obtain ⟨yz, h1, h2⟩ := hr.nodes z n' hn
   refine ⟨yz, h1, old hz h2 _ rfl rfl rfl ?_⟩
   rw [entsOf_app, entsOf_ne _ _ _ _ (Ne.symm hd), List.append_nil]
   exact h2.ents
theorem RepY.move (hr : RepY L Y) (w : Y.Wf) {d to : Int} {s now : ByteArray} {e : EnD} (he : Y.ent d s = some e) {L' : List (Int × LNode)} (hk : L'.map (·.1) = L.map (·.1))
  (h : ∀ z n', getK L' z = some n' → ∃ n, getK L z = some n ∧ n' = { n with ents := n'.ents, up := n'.up } ∧ (z ≠ e.2.2.1 → n'.up = n.up) ∧ (z = e.2.2.1 → n.kind = 1 → n'.up = to) ∧ n'.ents.Perm (if z = to then putK (if z = d then delK n.ents s else n.ents) now e.2.2.1 else if z = d then delK n.ents s else n.ents))
  (hto : ∀ n, getK L to = some n → getK (if to = d then delK n.ents s else n.ents) now = none) :
  RepY L' { Y with E := (Y.E.filter fun e => !isE d s e) ++ [(to, now, e.2.2.1, ())] } := by
 refine ⟨by rw [hk]; exact hr.keys, fun z n' hn => ?_⟩
 obtain ⟨n, hg, hm, hu1, hu2, hp⟩ := h z n' hn
 obtain ⟨y, hy, hN⟩ := hr.nodes z n hg
 have hcnt : ((Y.E.filter fun e => !isE d s e) ++ [(to, now, e.2.2.1, ())]).countP (toR z) = Y.E.countP (toR z) := by
  rw [cnt_app]; exact cnt_del w he z
 refine ⟨y, hy, hN.turn ?_ (hp.trans ?_) ?_ ?_⟩
 ·rw [hm]
 ·show (if z = to then _ else _ : List (ByteArray × Int)).Perm (entsOf ((Y.E.filter fun e => !isE d s e) ++ [(to, now, e.2.2.1, ())]) z)
  rw [entsOf_app]
  have base : (if z = d then delK n.ents s else n.ents).Perm (entsOf (Y.E.filter fun e => !isE d s e) z) := by
   by_cases hzd : z = d
   ·subst hzd
    rw [if_pos rfl, entsOf_del_eq]
    exact delK_perm hN.ents
   ·rw [if_neg hzd, entsOf_del_ne _ _ _ _ (Ne.symm hzd)]
    exact hN.ents
  by_cases hzt : z = to
  ·subst hzt
   rw [if_pos rfl, entsOf_eq]
   exact putK_perm base (hto n hg)
  ·rw [if_neg hzt, entsOf_ne _ _ _ _ (Ne.symm hzt), List.append_nil]
   exact base
 ·rw [hm]
  show n.links = _
  rw [hN.links]
  unfold UpY.links
  show _ = if z = 1 then (1 : Int) else (((Y.E.filter fun e => !isE d s e) ++ [(to, now, e.2.2.1, ())]).countP (toR z) : Int)
  rw [hcnt]
 ·intro hkd e' he' hez
  rcases List.mem_append.1 he' with he' | he'
  ·have he1 := (List.mem_filter.1 he').1
   by_cases hze : z = e.2.2.1
   ·-- the directory's one entry is the one that went
    exfalso
    obtain ⟨e1, _, _⟩ := ent_mem he
    have hd1 : Y.dirE e.2.2.1 = 0 := dirE_zero.2 ⟨y, by rw [← hze]; exact hy, by rw [← hN.kind]; exact hkd⟩
    have h1 := w.one e e1 hd1
    have h2 := cnt_del w he e.2.2.1
    rw [if_pos rfl, h1] at h2
    have h3 : (Y.E.filter fun e => !isE d s e).countP (toR e.2.2.1) = 0 := by omega
    rw [List.countP_eq_zero] at h3
    exact h3 e' he' (by simp [toR, hez, hze])
   ·rw [hu1 hze]
    exact hN.up hkd e' he1 hez
  ·have : e' = (to, now, e.2.2.1, ()) := by simpa using he'
   subst this
   exact hu2 hez.symm hkd
theorem getK_delK_no {l : List (ByteArray × Int)} {s x : ByteArray} (h : getK l x = none) : getK (delK l s) x = none := getK_none.2 fun p hp => getK_none.1 h p (List.mem_filter.1 hp).1
theorem RepY.moved (hr : RepY L Y) (w : Y.Wf) {d to : Int} {s now : ByteArray} {e : EnD} {m t n : LNode} (he : Y.ent d s = some e) (hg : getK L d = some m) (ht : getK L to = some t) (hn : getK L e.2.2.1 = some n) (h0 : getK t.ents now = none) (hx1 : e.2.2.1 ≠ d) (hx2 : e.2.2.1 ≠ to) :
  ∃ m6, getK (setK L d { m with ents := delK m.ents s }) to = some m6 ∧ m6.blk = t.blk ∧ m6.kind = t.kind ∧ m6.ents.length ≤ t.ents.length ∧
   getK (setK (setK L d { m with ents := delK m.ents s }) to { m6 with ents := putK m6.ents now e.2.2.1 }) e.2.2.1 = some n ∧
   RepY (if n.kind = 1 then setK (setK (setK L d { m with ents := delK m.ents s }) to { m6 with ents := putK m6.ents now e.2.2.1 }) e.2.2.1 { n with up := to } else setK (setK L d { m with ents := delK m.ents s }) to { m6 with ents := putK m6.ents now e.2.2.1 }) { Y with E := (Y.E.filter fun e => !isE d s e) ++ [(to, now, e.2.2.1, ())] } := by
 have hm6 : ∃ m6, getK (setK L d { m with ents := delK m.ents s }) to = some m6 ∧ m6 = (if to = d then { m with ents := delK m.ents s } else t) := by
  by_cases htd : to = d
  ·subst htd
   exact ⟨_, getK_setK_self hg, by rw [if_pos rfl]⟩
  ·exact ⟨t, by rw [getK_setK_other htd]; exact ht, by rw [if_neg htd]⟩
 obtain ⟨m6, h6, e6⟩ := hm6
 have hmt : to = d → m = t := fun q => by
  subst q
  rw [hg] at ht
  exact Option.some.inj ht
 have h6e : m6.ents = if to = d then delK t.ents s else t.ents := by
  rw [e6]
  by_cases htd : to = d
  ·rw [if_pos htd, if_pos htd, hmt htd]
  ·rw [if_neg htd, if_neg htd]
 have h6s : m6 = { t with ents := m6.ents } := by
  rw [e6]
  by_cases htd : to = d
  ·rw [if_pos htd, hmt htd]
  ·rw [if_neg htd]
 have hxn : getK (setK (setK L d { m with ents := delK m.ents s }) to { m6 with ents := putK m6.ents now e.2.2.1 }) e.2.2.1 = some n := by
  rw [getK_setK_other hx2, getK_setK_other hx1]; exact hn
 refine ⟨m6, h6, by rw [h6s], by rw [h6s], ?_, hxn, ?_⟩
 ·rw [h6e]
  split
  ·exact List.length_filter_le ..
  ·exact Nat.le_refl _
 refine hr.move w he ?_ (fun z n' hz => ?_) fun q hq => ?_
 ·split
  ·rw [setK_keys, setK_keys, setK_keys]
  ·rw [setK_keys, setK_keys]
 ·-- each node
  have two : ∀ n'', getK (setK (setK L d { m with ents := delK m.ents s }) to { m6 with ents := putK m6.ents now e.2.2.1 }) z = some n'' → ∃ q, getK L z = some q ∧ n'' = { q with ents := n''.ents } ∧ n''.ents.Perm (if z = to then putK (if z = d then delK q.ents s else q.ents) now e.2.2.1 else if z = d then delK q.ents s else q.ents) := fun n'' hz => by
   by_cases hzt : z = to
   ·subst hzt
    rw [getK_setK_self h6] at hz
    obtain rfl := Option.some.inj hz
    refine ⟨t, ht, by simp only; rw [h6s], ?_⟩
    simp only [if_true]
    rw [h6e]
   ·rw [getK_setK_other hzt] at hz
    by_cases hzd : z = d
    ·subst hzd
     rw [getK_setK_self hg] at hz
     obtain rfl := Option.some.inj hz
     exact ⟨m, hg, rfl, by rw [if_neg hzt, if_pos rfl]⟩
    ·rw [getK_setK_other hzd] at hz
     exact ⟨n'', hz, rfl, by rw [if_neg hzt, if_neg hzd]⟩
  by_cases hk : n.kind = 1
  ·rw [if_pos hk] at hz
   by_cases hzx : z = e.2.2.1
   ·subst hzx
    rw [getK_setK_self hxn] at hz
    obtain rfl := Option.some.inj hz
    exact ⟨n, hn, rfl, fun q => absurd rfl q, fun _ _ => rfl, by rw [if_neg hx2, if_neg hx1]⟩
   ·rw [getK_setK_other hzx] at hz
    obtain ⟨q, h1, h2, h3⟩ := two n' hz
    exact ⟨q, h1, by rw [h2], fun _ => by rw [h2], fun h => absurd h hzx, h3⟩
  ·rw [if_neg hk] at hz
   obtain ⟨q, h1, h2, h3⟩ := two n' hz
   refine ⟨q, h1, by rw [h2], fun _ => by rw [h2], fun h hk2 => ?_, h3⟩
   subst h
   rw [hn] at h1
   obtain rfl := Option.some.inj h1
   exact absurd hk2 hk
 ·rw [ht] at hq
  obtain rfl := Option.some.inj hq
  split
  ·exact getK_delK_no h0
  ·exact h0
end
end Go.Lm

namespace Go.Proofs
open Go Go.Lm Go.RowKit
set_option maxRecDepth 1000000
abbrev quTy : Ty := .pair (.int .i64) (.pair (.int .i64) .unit)
abbrev Inv (_ : Base) : Prop := True
def tyTab : List (Nat × Ty) := [(36, noTy), (71, xaTy), (9, .str), (5, .u8), (54, xeTy), (119, enTy), (3, .int .i64)]
theorem beq_no {a b : Int} (h : (a != b) = true) : (a == b) = false := by simpa [bne] using h
theorem beq_yes {a b : Int} (h : (a != b) = false) : (a == b) = true := by simpa [bne] using h
theorem only {P : LNode → Prop} {L : List (Int × LNode)} {r : Int} {m : LNode} (h : getK L r = some m) (k : P m) : ∀ m', getK L r = some m' → P m' := fun m' h' => by
 rw [h] at h'
 obtain rfl := Option.some.inj h'
 exact k
theorem no_some {P : Prop} {L : List (Int × LNode)} {r : Int} {m : LNode} (h : getK L r = some m) : getK L r = none → P := fun h' => by rw [h] at h'; cases h'
def c_at : Ct
 | [.v (.c (.p 0 0)), .v (.c (.k (.int .i64 ref)))], [.up ⟨84, 81, 3, 9⟩ q1 q2 mb nx L], Q => (getK L ref = none → Q (.tup [.c (.k (.pointer none)), .c (.k (.int .i64 1))]) [.up ⟨84, 81, 3, 9⟩ q1 q2 mb nx L]) ∧ (∀ m, getK L ref = some m → NodeOk m → Q (.tup [.c (.kl 0 (.pointer (some ⟨m.blk, 0, none⟩))), .c (.k (.int .i64 0))]) [.up ⟨84, 81, 3, 9⟩ q1 q2 mb nx L])
 | _, _, _ => False
noncomputable def XU11 : Vx := { P := Tryz.prog, ct := [], ty := tyTab, hold := [] }
theorem XU11_ok : CtOk Inv Tryz.prog XU11.ct := CtOk.nil _ _
def vc_at : (Int) → (Int) → (Int) → (Nat) → (Int) → (List (Int × LNode)) → (SV → List HO → Prop) → Prop :=
 fun ref q1 q2 mb nx L Q => inK .i64 ref → inK .i64 q1 → inK .i64 q2 → inK .i64 nx → Value.map (some mb) = Value.map (some mb) ∧ (getK L ref = none → Q (.tup [.c (.k (.pointer none)), .c (.k (.int .i64 1))]) [.up ⟨84, 81, 3, 9⟩ q1 q2 mb nx 
 L]) ∧ ∀ (m : LNode), getK L ref = some m → NodeOk m → Q (SV.tup [S1.c (Cl.kl (0 : Nat) (Value.pointer (some (Addr.mk m.blk (0 : Nat) none)))), .c (.k (.int .i64 0))]) [.up ⟨84, 81, 3, 9⟩ q1 q2 mb nx L]
theorem vc_at_eq (ref : Int) (q1 : Int) (q2 : Int) (mb : Nat) (nx : Int) (L : List (Int × LNode)) (Q : SV → List HO → Prop) : vFun XU11 ⟨[], []⟩ Tryz.f71 [.v (.c (.p 0 0)), .int ref] [.up ⟨84, 81, 3, 9⟩ q1 q2 mb nx L] Q = vc_at ref q1 q2 mb nx L Q := by kernel_rfl
theorem w_at : ∀ args H Q, c_at args H Q → Wp Inv Tryz.prog 71 args H Q := by
 intro args H Q h
 unfold c_at at h
 split at h
 rotate_left
 ·exact h.elim
 rename_i ref q1 q2 mb nx L
 refine Wp.enter (X := XU11) XU11_ok ⟨[], []⟩ (fn := Tryz.f71) (by kernel_rfl) ?_
 have hv := vc_at_eq ref q1 q2 mb nx L Q
 rw [show vFun _ _ _ _ _ _ = _ from hv]
 unfold vc_at
 intro _ _ _ _
 exact ⟨rfl, h.1, h.2⟩
def c_dir : Ct
 | [.v (.c (.p 0 0)), .v (.c (.k (.int .i64 ref)))], [.up ⟨84, 81, 3, 9⟩ q1 q2 mb nx L], Q => (getK L ref = none → Q (.tup [.c (.k (.pointer none)), .c (.k (.int .i64 1))]) [.up ⟨84, 81, 3, 9⟩ q1 q2 mb nx L]) ∧ (∀ m, getK L ref = some m → NodeOk m → br (m.kind == 1) (Q (.tup [.c (.kl 0 (.pointer (some ⟨m.blk, 0, none⟩))), .c (.k (.int .i64 0))]) [.up ⟨84, 81, 3, 9⟩ q1 q2 mb nx L]) (Q (.tup [.c (.kl 0 (.pointer (some ⟨m.blk, 0, none⟩))), .c (.k (.int .i64 24))]) [.up ⟨84, 81, 3, 9⟩ q1 q2 mb nx L]))
 | _, _, _ => False
noncomputable def XU12 : Vx := { P := Tryz.prog, ct := (71, c_at) :: XU11.ct, ty := tyTab, hold := [] }
theorem XU12_ok : CtOk Inv Tryz.prog XU12.ct := CtOk.cons w_at (XU11_ok)
def vc_dir : (Int) → (Int) → (Int) → (Nat) → (Int) → (List (Int × LNode)) → (SV → List HO → Prop) → Prop :=
 fun ref q1 q2 mb nx L Q => inK .i64 ref → (getK L ref = none → inK .i64 1 → Q (.tup [.c (.k (.pointer none)), .c (.k (.int .i64 1))]) [.up ⟨84, 81, 3, 9⟩ q1 q2 mb nx L]) ∧ ∀ (m : LNode), getK L ref = some m → NodeOk m → inK .i64 0 → ∃ r 
 m_1, getK L r = some m_1 ∧ m_1.blk = m.blk ∧ (NodeOk m_1 → br (m_1.kind != 1) (Q (SV.tup [S1.c (Cl.kl (0 : Nat) (Value.pointer (some (Addr.mk m.blk (0 : Nat) none)))), .c (.k (.int .i64 24))]) [.up ⟨84, 81, 3, 9⟩ q1 q2 mb nx L]) (Q (SV.tup 
 [S1.c (Cl.kl (0 : Nat) (Value.pointer (some (Addr.mk m.blk (0 : Nat) none)))), .c (.k (.int .i64 0))]) [.up ⟨84, 81, 3, 9⟩ q1 q2 mb nx L]))
theorem vc_dir_eq (ref : Int) (q1 : Int) (q2 : Int) (mb : Nat) (nx : Int) (L : List (Int × LNode)) (Q : SV → List HO → Prop) : vFun XU12 ⟨[], []⟩ Tryz.f58 [.v (.c (.p 0 0)), .int ref] [.up ⟨84, 81, 3, 9⟩ q1 q2 mb nx L] Q = vc_dir ref q1 q2 mb nx L Q := by kernel_rfl
theorem w_dir : ∀ args H Q, c_dir args H Q → Wp Inv Tryz.prog 58 args H Q := by
 intro args H Q h
 unfold c_dir at h
 split at h
 rotate_left
 ·exact h.elim
 rename_i ref q1 q2 mb nx L
 refine Wp.enter (X := XU12) XU12_ok ⟨[], []⟩ (fn := Tryz.f58) (by kernel_rfl) ?_
 have hv := vc_dir_eq ref q1 q2 mb nx L Q
 rw [show vFun _ _ _ _ _ _ = _ from hv]
 unfold vc_dir
 intro _
 refine ⟨fun hn _ => h.1 hn, fun m hg hm _ => ⟨_, m, hg, rfl, fun _ => ?_⟩⟩
 have h2 := h.2 m hg hm
 refine br_of (fun hc => ?_) (fun hc => ?_)
 ·rw [beq_no hc] at h2; exact h2
 ·rw [beq_yes hc] at h2; exact h2
def c_file : Ct
 | [.v (.c (.p 0 0)), .v (.c (.k (.int .i64 ref)))], [.up ⟨84, 81, 3, 9⟩ q1 q2 mb nx L], Q => (getK L ref = none → Q (.tup [.c (.k (.pointer none)), .c (.k (.int .i64 1))]) [.up ⟨84, 81, 3, 9⟩ q1 q2 mb nx L]) ∧ (∀ m, getK L ref = some m → NodeOk m → br (m.kind == 1) (Q (.tup [.c (.kl 0 (.pointer (some ⟨m.blk, 0, none⟩))), .c (.k (.int .i64 25))]) [.up ⟨84, 81, 3, 9⟩ q1 q2 mb nx L]) (br (m.kind == 2) (Q (.tup [.c (.kl 0 (.pointer (some ⟨m.blk, 0, none⟩))), .c (.k (.int .i64 0))]) [.up ⟨84, 81, 3, 9⟩ q1 q2 mb nx L]) (Q (.tup [.c (.kl 0 (.pointer (some ⟨m.blk, 0, none⟩))), .c (.k (.int .i64 1))]) [.up ⟨84, 81, 3, 9⟩ q1 q2 mb nx L])))
 | _, _, _ => False
noncomputable def XU13 : Vx := { P := Tryz.prog, ct := (58, c_dir) :: XU12.ct, ty := tyTab, hold := [] }
theorem XU13_ok : CtOk Inv Tryz.prog XU13.ct := CtOk.cons w_dir (XU12_ok)
def vc_file : (Int) → (Int) → (Int) → (Nat) → (Int) → (List (Int × LNode)) → (SV → List HO → Prop) → Prop :=
 fun ref q1 q2 mb nx L Q => inK .i64 ref → (getK L ref = none → inK .i64 1 → Q (.tup [.c (.k (.pointer none)), .c (.k (.int .i64 1))]) [.up ⟨84, 81, 3, 9⟩ q1 q2 mb nx L]) ∧ ∀ (m : LNode), getK L ref = some m → NodeOk m → inK .i64 0 → ∃ r 
 m_1, getK L r = some m_1 ∧ m_1.blk = m.blk ∧ (NodeOk m_1 → br (m_1.kind == 1) (Q (SV.tup [S1.c (Cl.kl (0 : Nat) (Value.pointer (some (Addr.mk m.blk (0 : Nat) none)))), .c (.k (.int .i64 25))]) [.up ⟨84, 81, 3, 9⟩ q1 q2 mb nx L]) (∃ r m_2, 
 getK L r = some m_2 ∧ m_2.blk = m.blk ∧ (NodeOk m_2 → br (m_2.kind != 2) (Q (SV.tup [S1.c (Cl.kl (0 : Nat) (Value.pointer (some (Addr.mk m.blk (0 : Nat) none)))), .c (.k (.int .i64 1))]) [.up ⟨84, 81, 3, 9⟩ q1 q2 mb nx L]) (Q (SV.tup [S1.c 
 (Cl.kl (0 : Nat) (Value.pointer (some (Addr.mk m.blk (0 : Nat) none)))), .c (.k (.int .i64 0))]) [.up ⟨84, 81, 3, 9⟩ q1 q2 mb nx L]))))
theorem vc_file_eq (ref : Int) (q1 : Int) (q2 : Int) (mb : Nat) (nx : Int) (L : List (Int × LNode)) (Q : SV → List HO → Prop) : vFun XU13 ⟨[], []⟩ Tryz.f56 [.v (.c (.p 0 0)), .int ref] [.up ⟨84, 81, 3, 9⟩ q1 q2 mb nx L] Q = vc_file ref q1 q2 mb nx L Q := by kernel_rfl
theorem w_file : ∀ args H Q, c_file args H Q → Wp Inv Tryz.prog 56 args H Q := by
 intro args H Q h
 unfold c_file at h
 split at h
 rotate_left
 ·exact h.elim
 rename_i ref q1 q2 mb nx L
 refine Wp.enter (X := XU13) XU13_ok ⟨[], []⟩ (fn := Tryz.f56) (by kernel_rfl) ?_
 have hv := vc_file_eq ref q1 q2 mb nx L Q
 rw [show vFun _ _ _ _ _ _ = _ from hv]
 unfold vc_file
 intro _
 refine ⟨fun hn _ => h.1 hn, fun m hg hm _ => ⟨_, m, hg, rfl, fun _ => ?_⟩⟩
 have h2 := h.2 m hg hm
 refine br_of (fun hc => ?_) (fun hc => ⟨_, m, hg, rfl, fun _ => ?_⟩)
 ·rw [hc] at h2; exact h2
 ·rw [hc] at h2
  refine br_of (fun hd => ?_) (fun hd => ?_)
  ·rw [beq_no hd] at h2; exact h2
  ·rw [beq_yes hd] at h2; exact h2
def c_entry : Ct
 | [.v (.c (.p 0 0)), .v (.c (.k (.string s))), .v (.c (.k (.int .i64 ref)))], [.up ⟨84, 81, 3, 9⟩ q1 q2 mb nx L], Q => ∃ m, getK L ref = some m ∧ Q (.v (.agg [.k (.string s), .k (.int .i64 m.kind), .k (.int .i64 ref)])) [.up ⟨84, 81, 3, 9⟩ q1 q2 mb nx L]
 | _, _, _ => False
noncomputable def XU14 : Vx := { P := Tryz.prog, ct := (56, c_file) :: XU13.ct, ty := tyTab, hold := [] }
theorem XU14_ok : CtOk Inv Tryz.prog XU14.ct := CtOk.cons w_file (XU13_ok)
def vc_entry : (ByteArray) → (Int) → (Int) → (Int) → (Nat) → (Int) → (List (Int × LNode)) → (SV → List HO → Prop) → Prop :=
 fun s ref q1 q2 mb nx L Q => ByteArray.size s ≤ 9223372036854775807 → inK .i64 ref → inK .i64 q1 → inK .i64 q2 → inK .i64 nx → Value.map (some mb) = Value.map (some mb) ∧ (getK L ref = none → False) ∧ ∀ (m : LNode), getK L ref = some m → 
 NodeOk m → ∃ r m_1, getK L r = some m_1 ∧ m_1.blk = m.blk ∧ (NodeOk m_1 → Q (SV.v (S1.agg [.k (.string s), .k (.int .i64 m_1.kind), .k (.int .i64 ref)])) [.up ⟨84, 81, 3, 9⟩ q1 q2 mb nx L])
theorem vc_entry_eq (s : ByteArray) (ref : Int) (q1 : Int) (q2 : Int) (mb : Nat) (nx : Int) (L : List (Int × LNode)) (Q : SV → List HO → Prop) : vFun XU14 ⟨[], []⟩ Tryz.f67 [.v (.c (.p 0 0)), .str s, .int ref] [.up ⟨84, 81, 3, 9⟩ q1 q2 mb nx L] Q = vc_entry s ref q1 q2 mb nx L Q := by kernel_rfl
theorem w_entry : ∀ args H Q, c_entry args H Q → Wp Inv Tryz.prog 67 args H Q := by
 intro args H Q h
 unfold c_entry at h
 split at h
 rotate_left
 ·exact h.elim
 rename_i s ref q1 q2 mb nx L
 refine Wp.enter (X := XU14) XU14_ok ⟨[], []⟩ (fn := Tryz.f67) (by kernel_rfl) ?_
 have hv := vc_entry_eq s ref q1 q2 mb nx L Q
 rw [show vFun _ _ _ _ _ _ = _ from hv]
 unfold vc_entry
 intro _ _ _ _ _
 obtain ⟨m, hg, hq⟩ := h
 refine ⟨rfl, fun hn => (by rw [hg] at hn; cases hn), fun m' hg' _ => ⟨_, m', hg', rfl, fun _ => ?_⟩⟩
 rw [hg] at hg'
 obtain rfl := Option.some.inj hg'
 exact hq
def c_stat0 : Ct
 | [.v (.c (.p 0 0)), .v (.c (.k (.int .i64 ref)))], [.up ⟨84, 81, 3, 9⟩ q1 q2 mb nx L], Q => ∃ Y : UpY, (q1 = Y.q1 ∧ q2 = Y.q2 ∧ nx = Y.nx ∧ RepY L Y) ∧ (Y.Ok) ∧ ∀ o, UpIs ⟨84, 81, 3, 9⟩ (Y) o → Q (.tup [.agg (stTy.cells (Y.statD ref)), .c (.k (.int .i64 (Y.atE ref)))]) [o]
 | _, _, _ => False
noncomputable def XU15 : Vx := { P := Tryz.prog, ct := (67, c_entry) :: XU14.ct, ty := tyTab, hold := [] }
theorem XU15_ok : CtOk Inv Tryz.prog XU15.ct := CtOk.cons w_entry (XU14_ok)
def vc_stat0 : (Int) → (Int) → (Int) → (Nat) → (Int) → (List (Int × LNode)) → (SV → List HO → Prop) → Prop :=
 fun ref q1 q2 mb nx L Q => inK .i64 ref → (getK L ref = none → inK .i64 1 → Q (SV.tup [S1.agg [.k (.int .i64 0), .k (.int .i64 0), .k (.int .i64 0), .k (.int .i64 0), .k (.int .i64 0), .k (.int .i64 0)], .c (.k (.int .i64 1))]) [.up ⟨84, 
 81, 3, 9⟩ q1 q2 mb nx L]) ∧ ∀ (m : LNode), getK L ref = some m → NodeOk m → inK .i64 0 → ∃ r m_1, getK L r = some m_1 ∧ m_1.blk = m.blk ∧ (NodeOk m_1 → ∃ r m_2, getK L r = some m_2 ∧ m_2.blk = m.blk ∧ (NodeOk m_2 → ∃ r m_3, getK L r = some 
 m_3 ∧ m_3.blk = m.blk ∧ (NodeOk m_3 → ∃ r m_4, getK L r = some m_4 ∧ m_4.blk = m.blk ∧ (NodeOk m_4 → List.length m_4.data ≤ 9223372036854775807 → ∃ r m_5, getK L r = some m_5 ∧ m_5.blk = m.blk ∧ (NodeOk m_5 → inK .i64 ((↑(List.length 
 m_4.data) : Int) + (↑(ByteArray.size m_5.target) : Int)) ∧ ∃ r m_6, getK L r = some m_6 ∧ m_6.blk = m.blk ∧ (NodeOk m_6 → ∃ r m, getK L r = some m ∧ m.vi = m_6.vi ∧ (NodeOk m → inK .i64 ((↑(List.length m_4.data) : Int) + (↑(ByteArray.size 
 m_5.target) : Int) + (↑(List.length m.ents) : Int)) ∧ Q (SV.tup [S1.agg [.k (.int .i64 m_1.kind), .k (.int .i64 m_2.mode), .k (.int .i64 m_2.uid), .k (.int .i64 m_2.gid), .k (.int .i64 m_3.links), .k (.int .i64 ((↑(List.length m_4.data) : 
 Int) + (↑(ByteArray.size m_5.target) : Int) + (↑(List.length m.ents) : Int)))], .c (.k (.int .i64 0))]) [.up ⟨84, 81, 3, 9⟩ q1 q2 mb nx L])))))))
theorem vc_stat0_eq (ref : Int) (q1 : Int) (q2 : Int) (mb : Nat) (nx : Int) (L : List (Int × LNode)) (Q : SV → List HO → Prop) : vFun XU15 ⟨[], []⟩ Tryz.f33 [.v (.c (.p 0 0)), .int ref] [.up ⟨84, 81, 3, 9⟩ q1 q2 mb nx L] Q = vc_stat0 ref q1 q2 mb nx L Q := by kernel_rfl
theorem w_stat0 : ∀ args H Q, c_stat0 args H Q → Wp Inv Tryz.prog 33 args H Q := by
 intro args H Q h
 unfold c_stat0 at h
 split at h
 rotate_left
 ·exact h.elim
 rename_i ref q1 q2 mb nx L
 refine Wp.enter (X := XU15) XU15_ok ⟨[], []⟩ (fn := Tryz.f33) (by kernel_rfl) ?_
 have hv := vc_stat0_eq ref q1 q2 mb nx L Q
 rw [show vFun _ _ _ _ _ _ = _ from hv]
 unfold vc_stat0
 obtain ⟨Y, ⟨rfl, rfl, rfl, hr⟩, hp, hq⟩ := h
 intro _
 rcases hr.both ref with ⟨hn, hy⟩ | ⟨m, y, hg, hy, hN⟩
 ·refine ⟨fun _ _ => ?_, fun m hg => ?_⟩
  ·refine Eq.mp (congrArg (fun z => Q z _) ?_) (hq _ ⟨rfl, rfl, rfl, rfl, hr⟩)
   simp only [UpY.statD, UpY.atE, hy]; rfl
  ·rw [hn] at hg; cases hg
 ·have hl := mayN_lens (hp.wf.nm y (at_mem hy).1).2.2
  have hen := hp.en
  have hel := ents_len hN
  have hcp : Y.E.countP (ofD ref) ≤ Y.E.length := List.countP_le_length
  refine ⟨no_some hg, only hg fun _ _ => ⟨_, m, hg, rfl, fun _ => ⟨_, m, hg, rfl, fun _ => ⟨_, m, hg, rfl, fun _ => ⟨_, m, hg, rfl, fun _ _ => ⟨_, m, hg, rfl, fun _ => ⟨?_, _, m, hg, rfl, fun _ => ⟨_, m, hg, rfl, fun _ => ⟨?_, ?_⟩⟩⟩⟩⟩⟩⟩⟩⟩
  ·rw [hN.data, hN.target]; unfold inK; omega
  ·rw [hN.data, hN.target, hel]; unfold inK; omega
  ·refine Eq.mp (congrArg (fun z => Q z _) ?_) (hq _ ⟨rfl, rfl, rfl, rfl, hr⟩)
   simp only [UpY.statD, UpY.atE, hy]
   rw [hN.kind, hN.mode, hN.uid, hN.gid, hN.links, hN.data, hN.target, hel]; rfl
def c_stat : Ct
 | [.v (.c (.p 0 0)), .v (.c (.k (.int .i64 ref)))], [.ab (.upr ⟨84, 81, 3, 9⟩ Y)], Q => (Y.Ok) ∧ Q (.tup [.agg (stTy.cells (Y.statD ref)), .c (.k (.int .i64 (Y.atE ref)))]) [.ab (.upr ⟨84, 81, 3, 9⟩ (Y))]
 | _, _, _ => False
theorem w_stat : ∀ args H Q, c_stat args H Q → Wp Inv Tryz.prog 33 args H Q := by
 intro args H Q h
 unfold c_stat at h
 split at h
 ·rename_i ref Y
  refine Wp.uprO fun mb L hr => w_stat0 _ _ _ ?_
  unfold c_stat0
  exact ⟨Y, ⟨rfl, rfl, rfl, hr⟩, h.1, fun o ho => ⟨o, _, _, rfl, ho, h.2⟩⟩
 ·exact h.elim
def c_look0 : Ct
 | [.v (.c (.p 0 0)), .v (.c (.k (.int .i64 ref))), .v (.c (.k (.string s)))], [.up ⟨84, 81, 3, 9⟩ q1 q2 mb nx L], Q => ∃ Y : UpY, (q1 = Y.q1 ∧ q2 = Y.q2 ∧ nx = Y.nx ∧ RepY L Y) ∧ (Y.Ok) ∧ ∀ o, UpIs ⟨84, 81, 3, 9⟩ (Y) o → Q (.tup [.agg (xeTy.cells (Y.lookD ref s)), .c (.k (.int .i64 (Y.lookE ref s)))]) [o]
 | _, _, _ => False
noncomputable def XU16 : Vx := { P := Tryz.prog, ct := (33, c_stat) :: XU15.ct, ty := tyTab, hold := [] }
theorem XU16_ok : CtOk Inv Tryz.prog XU16.ct := CtOk.cons w_stat (XU15_ok)
def vc_look0 : (Int) → (ByteArray) → (Int) → (Int) → (Nat) → (Int) → (List (Int × LNode)) → (SV → List HO → Prop) → Prop :=
 fun ref s q1 q2 mb nx L Q => inK .i64 ref → ByteArray.size s ≤ 9223372036854775807 → (getK L ref = none → inK .i64 1 → Q (SV.tup [S1.agg [.k (.string (ByteArray.mk #[])), .k (.int .i64 0), .k (.int .i64 0)], .c (.k (.int .i64 1))]) [.up 
 ⟨84, 81, 3, 9⟩ q1 q2 mb nx L]) ∧ ∀ (m : LNode), getK L ref = some m → NodeOk m → br (m.kind == 1) (inK .i64 0 → ∃ r m_1, getK L r = some m_1 ∧ m_1.blk = m.blk ∧ (NodeOk m_1 → ∃ r m, getK L r = some m ∧ m.vi = m_1.vi ∧ (getK m.ents s = none 
 → Q (SV.tup [S1.agg [.k (.string (ByteArray.mk #[])), .k (.int .i64 0), .k (.int .i64 0)], .c (.k (.int .i64 20))]) [.up ⟨84, 81, 3, 9⟩ q1 q2 mb nx L]) ∧ ∀ (x : Int), getK m.ents s = some x → inK .i64 x → ∃ m, getK L x = some m ∧ 
 (ByteArray.size s ≤ 9223372036854775807 → inK .i64 m.kind → inK .i64 x → Q (SV.tup [S1.agg [.k (.string s), .k (.int .i64 m.kind), .k (.int .i64 x)], .c (.k (.int .i64 0))]) [.up ⟨84, 81, 3, 9⟩ q1 q2 mb nx L]))) (inK .i64 24 → Q (SV.tup 
 [S1.agg [.k (.string (ByteArray.mk #[])), .k (.int .i64 0), .k (.int .i64 0)], .c (.k (.int .i64 24))]) [.up ⟨84, 81, 3, 9⟩ q1 q2 mb nx L])
theorem vc_look0_eq (ref : Int) (s : ByteArray) (q1 : Int) (q2 : Int) (mb : Nat) (nx : Int) (L : List (Int × LNode)) (Q : SV → List HO → Prop) : vFun XU16 ⟨[], []⟩ Tryz.f22 [.v (.c (.p 0 0)), .int ref, .str s] [.up ⟨84, 81, 3, 9⟩ q1 q2 mb nx L] Q = vc_look0 ref s q1 q2 mb nx L Q := by kernel_rfl
theorem w_look0 : ∀ args H Q, c_look0 args H Q → Wp Inv Tryz.prog 22 args H Q := by
 intro args H Q h
 unfold c_look0 at h
 split at h
 rotate_left
 ·exact h.elim
 rename_i ref s q1 q2 mb nx L
 refine Wp.enter (X := XU16) XU16_ok ⟨[], []⟩ (fn := Tryz.f22) (by kernel_rfl) ?_
 have hv := vc_look0_eq ref s q1 q2 mb nx L Q
 rw [show vFun _ _ _ _ _ _ = _ from hv]
 unfold vc_look0
 obtain ⟨Y, ⟨rfl, rfl, rfl, hr⟩, hp, hq⟩ := h
 intro _ _
 have fin : ∀ z, SV.tup [.agg (xeTy.cells (Y.lookD ref s)), .c (.k (.int .i64 (Y.lookE ref s)))] = z → Q z [.up ⟨84, 81, 3, 9⟩ Y.q1 Y.q2 mb Y.nx L] := fun z e => e ▸ hq _ ⟨rfl, rfl, rfl, rfl, hr⟩
 rcases hr.both ref with ⟨hn, hy⟩ | ⟨m, y, hg, hy, hN⟩
 ·refine ⟨fun _ _ => fin _ ?_, fun m hg => ?_⟩
  ·simp only [UpY.lookD, UpY.lookE, dirE_none hy]; rfl
  ·rw [hn] at hg; cases hg
 ·have hg2 := ent_get hp.wf hN s
  refine ⟨no_some hg, only hg fun _ => br_of (fun hc => fun _ => ⟨_, m, hg, rfl, fun _ => ⟨_, m, hg, rfl, fun h0 => ?_, fun x hx _ => ?_⟩⟩) (fun hc => fun _ => fin _ ?_)⟩
  ·have hk : y.2.2.1 = 1 := by rw [← hN.kind]; exact eq_of_beq hc
   rw [hg2, Option.map_eq_none_iff] at h0
   refine fin _ ?_
   simp only [UpY.lookD, UpY.lookE, dirE_some hy, hk, h0]; rfl
  ·have hk : y.2.2.1 = 1 := by rw [← hN.kind]; exact eq_of_beq hc
   rw [hg2] at hx
   obtain ⟨e, he, rfl⟩ := Option.map_eq_some_iff.1 hx
   obtain ⟨he1, _⟩ := ent_mem he
   rcases hr.both e.2.2.1 with ⟨_, hy2⟩ | ⟨m2, y2, hg3, hy2, hN2⟩
   ·have := (hp.wf.ref e he1).2
    unfold UpY.atE at this
    rw [hy2] at this
    cases this
   ·refine ⟨m2, hg3, fun _ _ _ => fin _ ?_⟩
    simp only [UpY.lookD, UpY.lookE, UpY.kindOf, dirE_some hy, hk, he, hy2]
    rw [hN2.kind]; rfl
  ·have hk : ¬ y.2.2.1 = 1 := by rw [← hN.kind]; simpa using hc
   simp only [UpY.lookD, UpY.lookE, dirE_some hy, hk, if_false]; rfl
def c_look : Ct
 | [.v (.c (.p 0 0)), .v (.c (.k (.int .i64 ref))), .v (.c (.k (.string s)))], [.ab (.upr ⟨84, 81, 3, 9⟩ Y)], Q => (Y.Ok) ∧ Q (.tup [.agg (xeTy.cells (Y.lookD ref s)), .c (.k (.int .i64 (Y.lookE ref s)))]) [.ab (.upr ⟨84, 81, 3, 9⟩ (Y))]
 | _, _, _ => False
theorem w_look : ∀ args H Q, c_look args H Q → Wp Inv Tryz.prog 22 args H Q := by
 intro args H Q h
 unfold c_look at h
 split at h
 ·rename_i ref s Y
  refine Wp.uprO fun mb L hr => w_look0 _ _ _ ?_
  unfold c_look0
  exact ⟨Y, ⟨rfl, rfl, rfl, hr⟩, h.1, fun o ho => ⟨o, _, _, rfl, ho, h.2⟩⟩
 ·exact h.elim
def c_target0 : Ct
 | [.v (.c (.p 0 0)), .v (.c (.k (.int .i64 ref)))], [.up ⟨84, 81, 3, 9⟩ q1 q2 mb nx L], Q => ∃ Y : UpY, (q1 = Y.q1 ∧ q2 = Y.q2 ∧ nx = Y.nx ∧ RepY L Y) ∧ (Y.Ok) ∧ ∀ o, UpIs ⟨84, 81, 3, 9⟩ (Y) o → Q (.tup [.c (.k (.string (Y.targetD ref))), .c (.k (.int .i64 (Y.targetE ref)))]) [o]
 | _, _, _ => False
noncomputable def XU17 : Vx := { P := Tryz.prog, ct := (22, c_look) :: XU16.ct, ty := tyTab, hold := [] }
theorem XU17_ok : CtOk Inv Tryz.prog XU17.ct := CtOk.cons w_look (XU16_ok)
def vc_target0 : (Int) → (Int) → (Int) → (Nat) → (Int) → (List (Int × LNode)) → (SV → List HO → Prop) → Prop :=
 fun ref q1 q2 mb nx L Q => inK .i64 ref → (getK L ref = none → inK .i64 1 → Q (.tup [.c (.k (.string (ByteArray.mk #[]))), .c (.k (.int .i64 1))]) [.up ⟨84, 81, 3, 9⟩ q1 q2 mb nx L]) ∧ ∀ (m : LNode), getK L ref = some m → NodeOk m → inK 
 .i64 0 → ∃ r m_1, getK L r = some m_1 ∧ m_1.blk = m.blk ∧ (NodeOk m_1 → br (m_1.kind != 3) (Q (.tup [.c (.k (.string (ByteArray.mk #[]))), .c (.k (.int .i64 1))]) [.up ⟨84, 81, 3, 9⟩ q1 q2 mb nx L]) (∃ r m_2, getK L r = some m_2 ∧ m_2.blk = 
 m.blk ∧ (NodeOk m_2 → Q (.tup [.c (.k (.string m_2.target)), .c (.k (.int .i64 0))]) [.up ⟨84, 81, 3, 9⟩ q1 q2 mb nx L])))
theorem vc_target0_eq (ref : Int) (q1 : Int) (q2 : Int) (mb : Nat) (nx : Int) (L : List (Int × LNode)) (Q : SV → List HO → Prop) : vFun XU17 ⟨[], []⟩ Tryz.f97 [.v (.c (.p 0 0)), .int ref] [.up ⟨84, 81, 3, 9⟩ q1 q2 mb nx L] Q = vc_target0 ref q1 q2 mb nx L Q := by kernel_rfl
theorem w_target0 : ∀ args H Q, c_target0 args H Q → Wp Inv Tryz.prog 97 args H Q := by
 intro args H Q h
 unfold c_target0 at h
 split at h
 rotate_left
 ·exact h.elim
 rename_i ref q1 q2 mb nx L
 refine Wp.enter (X := XU17) XU17_ok ⟨[], []⟩ (fn := Tryz.f97) (by kernel_rfl) ?_
 have hv := vc_target0_eq ref q1 q2 mb nx L Q
 rw [show vFun _ _ _ _ _ _ = _ from hv]
 unfold vc_target0
 obtain ⟨Y, ⟨rfl, rfl, rfl, hr⟩, hp, hq⟩ := h
 intro _
 have fin : ∀ z, SV.tup [.c (.k (.string (Y.targetD ref))), .c (.k (.int .i64 (Y.targetE ref)))] = z → Q z [.up ⟨84, 81, 3, 9⟩ Y.q1 Y.q2 mb Y.nx L] := fun z e => e ▸ hq _ ⟨rfl, rfl, rfl, rfl, hr⟩
 rcases hr.both ref with ⟨hn, hy⟩ | ⟨m, y, hg, hy, hN⟩
 ·refine ⟨fun _ _ => fin _ ?_, fun m hg => ?_⟩
  ·simp only [UpY.targetD, UpY.targetE, hy]
  ·rw [hn] at hg; cases hg
 ·refine ⟨no_some hg, only hg fun _ _ => ⟨_, m, hg, rfl, fun _ => br_of (fun hc => fin _ ?_) (fun hc => ⟨_, m, hg, rfl, fun _ => fin _ ?_⟩)⟩⟩
  ·have hk : ¬ y.2.2.1 = 3 := by rw [← hN.kind]; simpa using hc
   simp only [UpY.targetD, UpY.targetE, hy, hk, if_false]
  ·have hk : y.2.2.1 = 3 := by rw [← hN.kind]; simpa using hc
   simp only [UpY.targetD, UpY.targetE, hy, hk, if_true, hN.target]
def c_target : Ct
 | [.v (.c (.p 0 0)), .v (.c (.k (.int .i64 ref)))], [.ab (.upr ⟨84, 81, 3, 9⟩ Y)], Q => (Y.Ok) ∧ Q (.tup [.c (.k (.string (Y.targetD ref))), .c (.k (.int .i64 (Y.targetE ref)))]) [.ab (.upr ⟨84, 81, 3, 9⟩ (Y))]
 | _, _, _ => False
theorem w_target : ∀ args H Q, c_target args H Q → Wp Inv Tryz.prog 97 args H Q := by
 intro args H Q h
 unfold c_target at h
 split at h
 ·rename_i ref Y
  refine Wp.uprO fun mb L hr => w_target0 _ _ _ ?_
  unfold c_target0
  exact ⟨Y, ⟨rfl, rfl, rfl, hr⟩, h.1, fun o ho => ⟨o, _, _, rfl, ho, h.2⟩⟩
 ·exact h.elim
def c_opq0 : Ct
 | [.v (.c (.p 0 0)), .v (.c (.k (.int .i64 ref)))], [.up ⟨84, 81, 3, 9⟩ q1 q2 mb nx L], Q => ∃ Y : UpY, (q1 = Y.q1 ∧ q2 = Y.q2 ∧ nx = Y.nx ∧ RepY L Y) ∧ (True) ∧ ∀ o, UpIs ⟨84, 81, 3, 9⟩ (Y) o → Q (.bool (Y.opqD ref)) [o]
 | _, _, _ => False
noncomputable def XU18 : Vx := { P := Tryz.prog, ct := (97, c_target) :: XU17.ct, ty := tyTab, hold := [] }
theorem XU18_ok : CtOk Inv Tryz.prog XU18.ct := CtOk.cons w_target (XU17_ok)
def vc_opq0 : (Int) → (Int) → (Int) → (Nat) → (Int) → (List (Int × LNode)) → (SV → List HO → Prop) → Prop :=
 fun ref q1 q2 mb nx L Q => inK .i64 ref → (getK L ref = none → inK .i64 1 → Q (.v (.c (.k (.bool false)))) [.up ⟨84, 81, 3, 9⟩ q1 q2 mb nx L]) ∧ ∀ (m : LNode), getK L ref = some m → NodeOk m → inK .i64 0 → ∃ r m_1, getK L r = some m_1 ∧ 
 m_1.blk = m.blk ∧ (NodeOk m_1 → Q (.v (.c (.k (.bool m_1.opq)))) [.up ⟨84, 81, 3, 9⟩ q1 q2 mb nx L])
theorem vc_opq0_eq (ref : Int) (q1 : Int) (q2 : Int) (mb : Nat) (nx : Int) (L : List (Int × LNode)) (Q : SV → List HO → Prop) : vFun XU18 ⟨[], []⟩ Tryz.f101 [.v (.c (.p 0 0)), .int ref] [.up ⟨84, 81, 3, 9⟩ q1 q2 mb nx L] Q = vc_opq0 ref q1 q2 mb nx L Q := by kernel_rfl
theorem w_opq0 : ∀ args H Q, c_opq0 args H Q → Wp Inv Tryz.prog 101 args H Q := by
 intro args H Q h
 unfold c_opq0 at h
 split at h
 rotate_left
 ·exact h.elim
 rename_i ref q1 q2 mb nx L
 refine Wp.enter (X := XU18) XU18_ok ⟨[], []⟩ (fn := Tryz.f101) (by kernel_rfl) ?_
 have hv := vc_opq0_eq ref q1 q2 mb nx L Q
 rw [show vFun _ _ _ _ _ _ = _ from hv]
 unfold vc_opq0
 obtain ⟨Y, ⟨rfl, rfl, rfl, hr⟩, hp, hq⟩ := h
 intro _
 rcases hr.both ref with ⟨hn, hy⟩ | ⟨m, y, hg, hy, hN⟩
 ·refine ⟨fun _ _ => ?_, fun m hg => ?_⟩
  ·refine Eq.mp (congrArg (fun z => Q (.bool z) _) ?_) (hq _ ⟨rfl, rfl, rfl, rfl, hr⟩)
   simp only [UpY.opqD, hy]
  ·rw [hn] at hg; cases hg
 ·refine ⟨no_some hg, only hg fun _ _ => ⟨_, m, hg, rfl, fun _ => ?_⟩⟩
  refine Eq.mp (congrArg (fun z => Q (.bool z) _) ?_) (hq _ ⟨rfl, rfl, rfl, rfl, hr⟩)
  simp only [UpY.opqD, hy, hN.opq]
def c_opq : Ct
 | [.v (.c (.p 0 0)), .v (.c (.k (.int .i64 ref)))], [.ab (.upr ⟨84, 81, 3, 9⟩ Y)], Q => (True) ∧ Q (.bool (Y.opqD ref)) [.ab (.upr ⟨84, 81, 3, 9⟩ (Y))]
 | _, _, _ => False
theorem w_opq : ∀ args H Q, c_opq args H Q → Wp Inv Tryz.prog 101 args H Q := by
 intro args H Q h
 unfold c_opq at h
 split at h
 ·rename_i ref Y
  refine Wp.uprO fun mb L hr => w_opq0 _ _ _ ?_
  unfold c_opq0
  exact ⟨Y, ⟨rfl, rfl, rfl, hr⟩, h.1, fun o ho => ⟨o, _, _, rfl, ho, h.2⟩⟩
 ·exact h.elim
end Go.Proofs

