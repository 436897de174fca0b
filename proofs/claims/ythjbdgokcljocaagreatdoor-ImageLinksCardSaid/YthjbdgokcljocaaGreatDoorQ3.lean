/- Texts of mine, laid together: LmVv LmVw LmVx LmVy LmVyb LmVz LmWa LmVza LmYa LmZb LmVzf LmVzc LmZw I1 I2 LmZa I3 LmZ0 LmZc I4 I5 LmZd LmZx I6 LmZg Grow LmZy LmZe I7 I8 LmZh. -/
import Derived.Test.YthjbdgokcljocaaGreatDoorQ2
import Derived.RangeFuncSeq
import Derived.RangeFuncRecord
import Derived.RangeFuncLeaves
import Derived.RangeFuncIn
import Derived.Lib.Bytealg
import Derived.Lib.Bytes
import Derived.Test.YthjbdgokcljocaaGreatDoorProg
import Derived.Test.YthjbdgokcljocaaGreatDoorChecked
import Derived.Test.YthjbdgokcljocaaGreatDoorQ1
import Derived.Shelf.Spec.SlicesGrow
set_option linter.unusedVariables false
open Array renaming getElem?_eq_some_iff → aQ, getD_eq_getD_getElem? → cj, length_toList → dw
open Bool renaming and_eq_true → ao, not_eq_true' → bG, false_eq_true → dP, or_eq_true → iD, eq_iff_iff → iE, false_or → jE
open Int renaming toNat → aA, toNat_natCast → bm, le_refl → bp, tdiv → gr, natCast_nonneg → jD, eq_ofNat_of_zero_le → mB, toNat_of_nonneg → nG
open Go.IntKind renaming signed → eI, bits → ij, max → ku
open List renaming flatten → ae, length_append → af, getElem?_eq_getElem → ak, length_cons → aq, replicate → au, getElem?_eq_some_iff → av, length_singleton → ay, length_take → aD, mem_cons_of_mem → aG, append_assoc → aH, eq_nil_of_length_eq_zero → aK, length_nil → aL, mem_map → aM, getD_eq_getElem?_getD → aP, mem_singleton → aR, mem_cons_self → aS, length_replicate → aT, getElem?_append_left → aU, take_of_length_le → aV, length_drop → aW, mem_cons → aX, mem_append → aY, getElem?_append_right → aZ, append_nil → a7, all_eq_true → bo, flatten_cons → bF, mem_append_left → bH, length_map → bL, drop_eq_getElem_cons → bO, range → bP, take_append_drop → bY, take_succ_eq_append_getElem → bZ, map_cons → cg, getElem?_map → cz, getElem_mem → df, mem_range → dm, getElem?_eq_none → dy, drop_append_of_le_length → dz, getElem?_take → dO, cons_append → eB, nodup_cons → eD, flatten_append → eT, drop_eq_nil_of_le → eZ, mem_of_getElem? → fc, take_length → ff, nodup_append → fm, drop_left → fB, mem_filter → fQ, take_take → fR, map_congr_left → gH, length_set → gJ, drop_drop → iC, mem_append_right → ja, find?_eq_none → jC, flatMap_cons → kq, filter_eq_self → kr, take_append_of_le_length → lV, filter_cons → lW, mem_of_find?_eq_some → pI, drop_take → pJ
open Nat renaming eq_of_beq_eq_true → ai, le_refl → az, zero_add → cd, zero_le → cr, le_of_ble_eq_true → cK, min_eq_left → eP, lt_or_ge → eQ, blt → gx, zero_lt_succ → iL, add_zero → j4, lt_trichotomy → ko, mod_eq_of_lt → lU, sub_self → pq
open Option renaming getD → gl, isSome_iff_exists → lT
open Option.some renaming inj → aj, injEq → km
open Go.Proofs.Tryz renaming prog → ck, underlying3 → o5
open UInt8 renaming ofNat → ax, toNat → cF
noncomputable section
namespace Go.Lm
open Go Go.RowKit
section
variable {W:cV} {F:List Atom} {E E':Env} {g w:World}
theorem tf {l:Nat} {v:Value} (h:E[l]?=some v):l< E.length:=(av.1 h).1
mutual
theorem cv.J2:∀ {c:Cl} {u:Value},cv E g c u->∀ l∈c.labels,l< E.length
 | .k _,_,_,_,h=>by cases h
 | .d _ _,_,_,_,h=>by cases h
 | .de _ _ _ _,_,_,_,h=>by cases h
 | .JY,_,_,_,h=>by cases h
 | .p _ _,_,⟨_,h1,_⟩,_,h=>by rw [aR.1 h];exact tf h1
 | .o _,_,⟨h1,_⟩,_,h=>by rw [aR.1 h];exact tf h1
 | .os _ _ _ _,_,⟨_,h1,_⟩,_,h=>by rw [aR.1 h];exact tf h1
 | .oe _ _ _ _,_,⟨_,h1,_⟩,_,h=>by rw [aR.1 h];exact tf h1
 | .m _,_,⟨_,h1,_⟩,_,h=>by rw [aR.1 h];exact tf h1
 | .sc _ _ _,_,⟨_,_,h1,_⟩,_,h=>by rw [aR.1 h];exact tf h1
 | .kl _ _,_,⟨⟨_,h1⟩,_⟩,_,h=>by rw [aR.1 h];exact tf h1
 | .fn _ _,_,⟨_,h1,_⟩,l,h=>bB.J2 h1 l h
 | .DP _ _,_,⟨_,h1,_⟩,l,h=>cv.J2 h1 l h
theorem bB.J2:∀ {cs:List Cl} {us:List Value},bB E g cs us->∀ l∈Cl.nM cs,l< E.length
 | [],_,_,_,h=>by cases h
 | _::_,_,⟨_,_,_,h1,h2⟩,l,h=>by
  rcases aY.1 h with h| h;exact cv.J2 h1 l h;exact bB.J2 h2 l h
end
mutual
theorem cv.jG:∀ {c:Cl} {u:Value},(∀ l∈c.labels,E'[l]?=E[l]?)->cv E g c u->cv E' g c u
 | .k _,_,_,h=>h
 | .d _ _,_,_,h=>h
 | .de _ _ _ _,_,_,h=>h
 | .JY,_,_,h=>h
 | .p l _,_,k,⟨b,h1,h2⟩=>⟨b,by rw [k l (aR.2 rfl)];exact h1,h2⟩
 | .o l,_,k,⟨h1,h2⟩=>⟨by rw [k l (aR.2 rfl)];exact h1,h2⟩
 | .os l _ _ _,_,k,⟨v,h1,h2⟩=>⟨v,by rw [k l (aR.2 rfl)];exact h1,h2⟩
 | .oe l _ _ _,_,k,⟨v,h1,h2⟩=>⟨v,by rw [k l (aR.2 rfl)];exact h1,h2⟩
 | .m l,_,k,⟨b,h1,h2⟩=>⟨b,by rw [k l (aR.2 rfl)];exact h1,h2⟩
 | .sc l _ _,_,k,⟨b,c,h1,h2⟩=>⟨b,c,by rw [k l (aR.2 rfl)];exact h1,h2⟩
 | .kl l _,_,k,⟨⟨x,h1⟩,h2⟩=>⟨⟨x,by rw [k l (aR.2 rfl)];exact h1⟩,h2⟩
 | .fn _ _,_,k,⟨us,h1,h2⟩=>⟨us,bB.jG k h1,h2⟩
 | .DP _ _,_,k,⟨v,h1,h2⟩=>⟨v,cv.jG k h1,h2⟩
theorem bB.jG:∀ {cs:List Cl} {us:List Value},(∀ l∈Cl.nM cs,E'[l]?=E[l]?)->bB E g cs us->bB E' g cs us
 | [],_,_,h=>h
 | _::_,_,k,⟨u,r,e,h1,h2⟩=>⟨u,r,e,cv.jG (λl hl=>k l (bH _ hl)) h1,bB.jG (λl hl=>k l (ja _ hl)) h2⟩
end
theorem gw.J2:∀ {x:S1} {u:Value},gw E g x u->∀ l∈x.labels,l< E.length
 | .c _,_,h,l,hl=>cv.J2 h l hl
 | .agg _,_,⟨_,h,_⟩,l,hl=>bB.J2 h l hl
theorem gw.jG:∀ {x:S1} {u:Value},(∀ l∈x.labels,E'[l]?=E[l]?)->gw E g x u->gw E' g x u
 | .c _,_,k,h=>cv.jG k h
 | .agg _,_,k,⟨us,h,e⟩=>⟨us,bB.jG k h,e⟩
theorem ic.J2:∀ {x:List S1} {us:List Value},ic E g x us->∀ l∈x.flatMap S1.labels,l< E.length
 | [],_,_,_,h=>by cases h
 | _::_,_,⟨_,_,_,h1,h2⟩,l,h=>by
  rw [kq] at h;rcases aY.1 h with h| h;exact h1.J2 l h;exact h2.J2 l h
theorem ic.jG:∀ {x:List S1} {us:List Value},(∀ l∈x.flatMap S1.labels,E'[l]?=E[l]?)->ic E g x us->ic E' g x us
 | [],_,_,h=>h
 | _::_,_,k,⟨u,r,e,h1,h2⟩=>⟨u,r,e,h1.jG λl hl=>k l (by rw [kq];exact bH _ hl),h2.jG λl hl=>k l (by rw [kq];exact ja _ hl)⟩
theorem dq.J2:∀ {x:SV} {u:Value},dq E g x u->∀ l∈x.labels,l< E.length
 | .v _,_,h,l,hl=>gw.J2 h l hl
 | .cZ _,_,⟨_,h,_⟩,l,hl=>ic.J2 h l hl
 | .any,_,_,_,hl=>by cases hl
 | .arr _ _,_,_,_,hl=>by cases hl
theorem dq.jG:∀ {x:SV} {u:Value},(∀ l∈x.labels,E'[l]?=E[l]?)->dq E g x u->dq E' g x u
 | .v _,_,k,h=>gw.jG k h
 | .cZ _,_,k,⟨us,h,e⟩=>⟨us,ic.jG k h,e⟩
 | .any,_,_,_=>trivial
 | .arr _ _,_,_,h=>h
theorem cJ.J2 {l:Nat}:∀ {o:HO} {h:Hp},(cJ E l o).sat g h->∀ k∈o.labels,k< E.length
 | .cells _ _,_,⟨_,_,_,h2,_⟩,k,hk=>bB.J2 h2 k hk
 | .sl _ _ _,_,_,_,hk=>by cases hk
 | .held _ _ _,_,_,_,hk=>by cases hk
 | .map ..,_,_,_,hk=>by cases hk
 | .abs _,_,_,_,hk=>by cases hk
 | .ab _,_,_,_,hk=>by cases hk
 | .gone,_,_,_,hk=>by cases hk
 | .qk _ n,_,⟨_,_,_,h2,_⟩,k,hk=>by
  rw [aR.1 hk];exact (av.1 h2).1
theorem cJ.jG {l l':Nat}:∀ {o:HO} {h:Hp},(∀ k∈o.labels,E'[k]?=E[k]?)->E'[l']?=E[l]?->(cJ E l o).sat g h->(cJ E' l' o).sat g h
 | .cells _ _,_,k,kl,⟨b,us,h1,h2,h3⟩=>⟨b,us,by rw [kl];exact h1,bB.jG k h2,h3⟩
 | .sl _ _ _,_,_,kl,⟨v,h1,h2⟩=>⟨v,by rw [kl];exact h1,h2⟩
 | .held _ _ _,_,_,kl,⟨v,h1,h2⟩=>⟨v,by rw [kl];exact h1,h2⟩
 | .map ..,_,_,kl,⟨b,m,h1,h2⟩=>⟨b,m,by rw [kl];exact h1,h2⟩
 | .abs _,_,_,kl,⟨v,h1,h2⟩=>⟨v,by rw [kl];exact h1,h2⟩
 | .ab _,_,_,kl,⟨v,h1,h2⟩=>⟨v,by rw [kl];exact h1,h2⟩
 | .gone,_,_,_,h=>h
 | .qk _ n,_,k,kl,⟨v,vn,h1,h2,h3⟩=>⟨v,vn,by rw [kl];exact h1,by rw [k n (aR.2 rfl)];exact h2,h3⟩
end
section
variable {n:Nat} {W:cV} {F:List Atom} {b:Bs} {E E':Env} {g g' w w':World} {s s':Ov} {a a':Act}
theorem jg {p:Nat->Bool}:∀ {l:Am} {t:Nat},gh (l.filter λq=>p q.1) t=bif p t then gh l t else none
 | [],t=>by cases p t<;>rfl
 | (k,v)::r,t=>by
  rw [lW];by_cases e:k=t
  .subst e;cases hp:p k with
   | true=>simp [gh]
   | false=>
    have:=jg (p:=p) (l:=r) (t:=k);rw [hp] at this;simpa using this
  .have ih:=jg (p:=p) (l:=r) (t:=t);split
   .simp only [gh,ix e,cond_false];exact ih
   .simp only [gh,ix e,cond_false];exact ih
theorem UN {ks:List Nat} (t:Nat):(pO ks b s).slot (uF ks b s) t=b.slot s t:=by
 unfold Bs.slot pO uF;simp only;rw [jg (p:=λk=>ir k ks),jg (p:=λk=> !ir k ks),mj];cases ir t ks with
 | true=>simp only [cond_true,Bool.not_true,cond_false];split<;>rename_i h<;>first| exact h.symm| (rw [h])
 | false=>simp only [cond_false,Bool.not_false,cond_true];rfl
theorem BR {ks:List Nat} (h:∀ l,s.n<=l->b.obj s l= .gone) {s2 s3:Ov} (h3:s3.h=s2.h++s.h) (l:Nat):(pO ks b s).obj s2 l=b.obj s3 l:=by
 unfold Bs.obj;rw [h3,nU];show (match gG s2.h l with| some o=>o| none=>lN (b.heap s) l)=_
 cases gG s2.h l with
 | some o=>rfl
 | none=>exact yM h l
theorem FJ {ks:List Nat} (h:∀ l,s.n<=l->b.obj s l= .gone) {s2 s3:Ov} (h3:s3.h=s2.h++s.h) (hn:s3.n=s2.n):(pO ks b s).heap s2=b.heap s3:=by
 unfold Bs.heap;rw [hn];exact gH λl _=>BR h h3 l
theorem dr.ahL (S:dr n W F b E g w s a) (ks:List Nat):dr n W F (pO ks b s) E g w (uF ks b s) a:=by
 refine ⟨S.size,S.defers,λt v hv=>S.fr t v (by rw [<-UN (ks:=ks)];exact hv),?_,λl hl=>?_⟩;rw [FJ (s2:=uF ks b s) (s3:=s) S.top rfl rfl];exact S.sat
 .rw [BR (s2:=uF ks b s) (s3:=s) S.top rfl];exact S.top l hl
theorem Vm {ks:List Nat} {t:Nat}:gh (ks.map λk=>(k,SV.any)) t=bif ir t ks then some .any else none:=by
 induction ks with
 | nil=>rfl
 | cons k r ih=>
  simp only [cg,gh,ir];by_cases e:k=t;subst e;simp
  .have e':¬t=k:=λq=>e q.symm;rw [ix e,ix e',ih];rfl
theorem dr.out {ks:List Nat} (top:∀ l,s.n<=l->b.obj s l= .gone) (S:dr n W F (pO ks b s) E' g' w' s' a'):dr n W F b E' g' w' (o9 ks s s') a':=by
 refine ⟨S.size,S.defers,λt v hv=>?_,?_,λl hl=>?_⟩
 .have hv:(match gh (s'.f++(ks.map (λk=>(k,SV.any))++s.f)) t with
   | some v=>some v
   | none=>gh b.f t)=some v:=hv
  rw [mj,mj,Vm] at hv;cases h1:gh s'.f t with
  | some u=>
   rw [h1] at hv;refine S.fr t v ?_;unfold Bs.slot;rw [h1];exact hv
  | none=>
   rw [h1] at hv;cases hm:ir t ks with
   | true=>
    rw [hm] at hv;obtain rfl:SV.any=v:=aj hv;trivial
   | false=>
    rw [hm] at hv;refine S.fr t v ?_;unfold Bs.slot;rw [h1];show gh ((s.f++b.f).filter λp=> !ir p.1 ks) t=some v;rw [jg (p:=λk=> !ir k ks),hm,mj];exact hv
 .rw [<-FJ (s2:=s') (s3:=o9 ks s s') top rfl rfl];exact S.sat
 .rw [<-BR (s2:=s') (s3:=o9 ks s s') top rfl];exact S.top l hl
structure Old (n0:Nat) (b1:Bs):Prop where
 slot:∀ t v,gh b1.f t=some v->∀ l∈v.labels,l< n0
 obj:∀ k,∀ l∈(lN b1.h k).labels,l< n0
 len:b1.h.length=n0
theorem dr.vW (S:dr n W F b E g w s a) (ks:List Nat):Old s.n (pO ks b s):=by
 refine ⟨λt v hv l hl=>?_,λk l hl=>?_,dQ⟩
 .rw [<-S.len];have hv:gh ((s.f++b.f).filter λp=> !ir p.1 ks) t=some v:=hv;rw [jg (p:=λk=> !ir k ks)] at hv;cases hm:ir t ks with
  | true=>rw [hm] at hv;cases hv
  | false=>
   rw [hm,Bool.not_false,cond_true,mj] at hv;exact (S.fr t v hv).J2 l hl
 .have hl:l∈(lN (b.heap s) k).labels:=hl;rw [yM S.top] at hl;rw [<-S.len];by_cases hk:k< s.n
  .have vY:k< E.length:=by rw [S.len];exact hk
   obtain ⟨h,_,_,_,h1,_,_,_,s1,_⟩:=S.pick (ak vY);exact cJ.J2 s1 l hl
  .rw [S.top k (by omega)] at hl;cases hl
theorem uD {F:Fence} {n:Nat} {P:Program} {Q:Exit->Act->World->Prop} {c:Code} {ι:Type} (I:ι->Act->World->Prop) (μ:ι->Nat) (i₀:ι) (h₀:I i₀ a w)
  (round:∀ i a w,I i a w->c.wpIn F n P (Exit.then (λa' w'=>∃ i',I i' a' w'/\μ i'< μ i) Q) a w):(Code.loop c).wpIn F n P Q a w:=by
 intro b kk cs hro hb hr;have key:∀ k i a w,μ i=k->I i a w->
   ∃ e a' w',Q e a' w'/\ArrivesIn (Machine.fenced P F) P (lone (b.atR a (.code c:: .inLoop c::kk)) cs w) b kk cs e a' w':=by
  intro k
  induction k using Nat.strongRecOn with
  | _ k ih=>
   intro i a w hk hi;obtain ⟨e,a₁,w₁,hq,Nb⟩:=round i a w hi b (.inLoop c::kk) cs hro hb hr;cases e with
   | normal=>
    obtain ⟨i',hI,eJ⟩:=hq;obtain ⟨e₂,a₂,w₂,hq₂,ad1⟩:=ih (μ i') (by omega) i' a₁ w₁ rfl hI;exact ⟨e₂,a₂,w₂,hq₂,.of_steps (StepsIn.trans Nb (.one (fenced_calm hb hr rfl) stepR_inLoop)) ad1⟩
   | exit id=>exact ⟨_,a₁,w₁,hq,.pass (x:=.inLoop c) rfl (λ_ _=>.inl (by simp)) Nb⟩
   | goto l=>exact ⟨_,a₁,w₁,hq,.pass (x:=.inLoop c) rfl (λ_ _=>.inl (by simp)) Nb⟩
   | ret=>exact ⟨_,a₁,w₁,hq,.pass (x:=.inLoop c) rfl (λ_ _=>.inl (by simp)) Nb⟩
   | panic ch=>exact ⟨_,a₁,w₁,hq,.pass (x:=.inLoop c) rfl (λ_ _=>.inl (by simp)) Nb⟩
   | outgrown=>exact ⟨_,a₁,w₁,hq,.pass (x:=.inLoop c) rfl (λ_ _=>.inl (by simp)) Nb⟩
 obtain ⟨e,a',w',hq,Nb⟩:=key _ i₀ a w rfl h₀;exact ⟨e,a',w',hq,.of_steps (.one (fenced_calm hb hr rfl) stepR_loop) Nb⟩
end
section
variable {n n0:Nat} {W:cV} {F:List Atom} {b:Bs} {E E2 E3:Env} {g w:World} {s s':Ov} {a:Act}
def Mov:HO->Prop
 | .sl .. | .ab _=>True
 | _=>False
theorem Mov.sat {E2 E3:Env} {g:World} {l i:Nat} {v:Value} {hh:Hp}:∀ {o:HO},Mov o->E2[l]?=some v->E3[i]?=some v->(cJ E2 l o).sat g hh->(cJ E3 i o).sat g hh
 | .sl ..,_,h1,h2,⟨z,z1,z2⟩=>by
  rw [h1] at z1;obtain rfl:=aj z1;exact ⟨_,h2,z2⟩
 | .ab _,_,h1,h2,⟨z,z1,z2⟩=>by
  rw [h1] at z1;obtain rfl:=aj z1;exact ⟨_,h2,z2⟩
 | .cells ..,h,_,_,_| .held ..,h,_,_,_| .map ..,h,_,_,_| .abs _,h,_,_,_| .gone,h,_,_,_| .qk ..,h,_,_,_=>h.elim
def agP (E2:Env) (b:Bs) (s':Ov) (q:Option Nat×Value) (o:HO):Prop:=
 (∃ l o',q.1=some l/\E2[l]?=some q.2/\b.obj s' l=o'/\o=o'/\Mov o')\/(q.1=none/\q.2= .slice none 0 0/\∃ t e,o= .sl t e [])
def lj (E2:Env) (b:Bs) (s':Ov):List (Option Nat×Value)->List HO->Prop
 | [],os=>os= []
 | q::qs,os=>∃ o r,os=o::r/\agP E2 b s' q o/\lj E2 b s' qs r
theorem lj.app:∀ {q1 q2:List (Option Nat×Value)} {o1 o2:List HO},lj E2 b s' q1 o1->lj E2 b s' q2 o2->lj E2 b s' (q1++q2) (o1++o2)
 | [],_,_,_,h,k=>by rw [show _= [] from h];exact k
 | _::_,_,_,_,⟨o,r,e,h1,h2⟩,k=>by rw [e];exact ⟨o,_,rfl,h1,h2.app k⟩
theorem lj.len:∀ {q:List (Option Nat×Value)} {o:List HO},lj E2 b s' q o->q.length=o.length
 | [],_,h=>by rw [show _= [] from h];rfl
 | _::_,_,⟨o,r,e,_,h⟩=>by rw [e,aq,aq,h.len]
theorem lj.get:∀ {q:List (Option Nat×Value)} {o:List HO} {i:Nat} {x:Option Nat×Value} {y:HO},lj E2 b s' q o->q[i]?=some x->o[i]?=some y->agP E2 b s' x y
 | [],_,_,_,_,_,h,_=>by simp at h
 | _::_,_,0,x,y,⟨o,r,e,h1,_⟩,h,k=>by
  subst e;obtain rfl:_=x:=by simpa using h
  obtain rfl:o=y:=by simpa using k
  exact h1
 | _::_,_,i+1,x,y,⟨o,r,e,_,h2⟩,h,k=>by
  subst e;exact h2.get (i:=i) (by simpa using h) (by simpa using k)
def Kept (n0:Nat) (E2 E3:Env):Prop:=∀ l,l< n0->E3[l]?=E2[l]?
def At (E3:Env) (m:Nat) (qs:List (Option Nat×Value)):Prop:=∀ j q,qs[j]?=some q->E3[m+j]?=some q.2
theorem At.left {m:Nat} {p q:List (Option Nat×Value)} (h:At E3 m (p++q)):At E3 m p:=λj x hx=>h j x (by rw [aU (av.1 hx).1];exact hx)
theorem At.right {m:Nat} {p q:List (Option Nat×Value)} (h:At E3 m (p++q)):At E3 (m+p.length) q:=λj x hx=>by
 have:=h (p.length+j) x (by rw [aZ (by omega)];simpa using hx);rw [show m+p.length+j=m+(p.length+j) by omega];exact this
abbrev Ap (qs:List (Option Nat×Value)):List Nat:=qs.filterMap (·.1)
theorem ae7 (S:dr n W F b E2 g w s' a) (hb:b.h.length=n0):∀ {h:Sh} {c:Cl} {x:h.den} {u:List Nat} {v0:Value},h.rd b s' c=some (x,u)->cv E2 g c v0->
  ∃ qs,Ap qs=u/\(∀ m,lj E2 b s' qs (h.mk x m).2)/\∀ m E3,Kept n0 E2 E3->At E3 m qs->∀ v,cv E2 g c v->cv E3 g (h.mk x m).1 v:=by
 intro h c x u v0 hr r0;cases h with
 | int k=>
  dsimp only [Sh.rd] at hr;split at hr
  .split at hr
   .rename_i hk;obtain rfl:=IntKind.eq_of_beq hk;cases hr;exact ⟨[],rfl,λm=>rfl,λm E3 _ _ v h=>h⟩
   .cases hr
  .cases hr
 | bool=>
  dsimp only [Sh.rd] at hr;split at hr
  .cases hr;exact ⟨[],rfl,λm=>rfl,λm E3 _ _ v h=>h⟩
  .cases hr
 | str=>
  dsimp only [Sh.rd] at hr;split at hr
  .cases hr;exact ⟨[],rfl,λm=>rfl,λm E3 _ _ v h=>h⟩
  .cases hr
 | d e=>
  dsimp only [Sh.rd] at hr;split at hr
  .split at hr
   .rename_i y hy;obtain ⟨q,e1⟩:=eA hy;subst q;cases hr;subst e1;exact ⟨[],rfl,λm=>rfl,λm E3 _ _ v h=>h⟩
   .cases hr
  .cases hr;exact ⟨[],rfl,λm=>rfl,λm E3 _ _ v h=>by
    obtain ⟨rfl,_⟩:=h;exact (@dx e.den e.rep g _ _).2 (.inl ⟨rfl,rfl⟩)⟩
  .split at hr
   .rename_i eu;split at hr
    .rename_i y hy;obtain ⟨q,e1⟩:=eA hy;subst q;cases hr;subst e1;exact ⟨[],rfl,λm=>rfl,λm E3 _ _ v h=>lR S h.1 eu⟩
    .cases hr
   .cases hr
  .cases hr
 | own t e=>
  dsimp only [Sh.rd] at hr;split at hr
  .cases hr;refine ⟨[(none,.slice none 0 0)],rfl,λm=>⟨_,[],rfl,.inr ⟨rfl,rfl,t,e,rfl⟩,rfl⟩,λm E3 _ uA v h=>?_⟩;obtain ⟨rfl,_⟩:=h;exact ⟨by have:=uA 0 _ rfl;simpa using this,none,0,0,rfl⟩
  .rename_i l;split at hr
   .rename_i t' e' xs eu;split at hr
    .rename_i ht;obtain rfl:=ai ht;split at hr
     .rename_i y hy;obtain ⟨q,e1⟩:=eA hy;subst q;cases hr;subst e1;refine ⟨[(some l,v0)],rfl,λm=>⟨_,[],rfl,.inl ⟨l,_,rfl,r0.1,eu,rfl,trivial⟩,rfl⟩,λm E3 _ uA v h=>?_⟩;have:v=v0:=by
       have h1:=h.1;rw [r0.1] at h1;exact (aj h1).symm
      subst this;exact ⟨by have:=uA 0 _ rfl;simpa using this,h.2⟩
     .cases hr
    .cases hr
   .cases hr
  .cases hr
 | p l off=>
  dsimp only [Sh.rd] at hr;split at hr
  .split at hr
   .rename_i hq;simp only [ao] at hq;obtain ⟨⟨h1,h2⟩,h3⟩:=hq;obtain rfl:=ai h1;obtain rfl:=ai h2;cases hr;refine ⟨[],rfl,λm=>rfl,λm E3 hk _ v h=>h.jG λl hl=>?_⟩;rw [aR.1 hl];exact hk _ (by rw [<-hb];simpa using h3)
   .cases hr
  .cases hr
 | m l=>
  dsimp only [Sh.rd] at hr;split at hr
  .split at hr
   .rename_i hq;simp only [ao] at hq;obtain ⟨h1,h3⟩:=hq;obtain rfl:=ai h1;cases hr;refine ⟨[],rfl,λm=>rfl,λm E3 hk _ v h=>h.jG λl hl=>?_⟩;rw [aR.1 hl];exact hk _ (by rw [<-hb];simpa using h3)
   .cases hr
  .cases hr
 | pa t=>
  dsimp only [Sh.rd] at hr;split at hr
  .rename_i l;split at hr
   .rename_i k eu;split at hr
    .rename_i y hy;cases hr;have hk:=Wu.afa hy;obtain ⟨bb,hE,hv⟩:=r0;have SS:v0=ptr bb 0:=hv;subst SS;refine ⟨[(some l,ptr bb 0)],rfl,λm=>⟨_,[],rfl,.inl ⟨l,_,rfl,hE,eu,by rw [hk],trivial⟩,rfl⟩,λm E3 _ uA v h=>?_⟩;obtain ⟨b2,h1,h2⟩:=h;rw [hE] at h1;have e:ptr bb 0=ptr b2 0:=aj h1;refine ⟨b2,?_,h2⟩;have:=uA 0 _ rfl;rw [<-e];simpa using this
    .cases hr
   .cases hr
  .cases hr
 | Jw c0=>
  dsimp only [Sh.rd] at hr;split at hr
  .rename_i hq;simp only [ao] at hq;obtain rfl:=Cl.HN hq.1;cases hr;refine ⟨[],rfl,λm=>rfl,λm E3 hk _ v h=>h.jG λl hl=>?_⟩;have:=bo.1 hq.2 l hl;exact hk _ (by rw [<-hb];simpa using this)
  .cases hr
 | dp e=>
  dsimp only [Sh.rd] at hr;split at hr
  .split at hr
   .rename_i hq;simp only [ao,decide_eq_true_eq] at hq;obtain ⟨rfl,h2⟩:=hq;obtain rfl:=ai h2;split at hr
    .rename_i y hy;obtain ⟨q,e1⟩:=eA hy;subst q;cases hr;subst e1;exact ⟨[],rfl,λm=>rfl,λm E3 _ _ v h=>h⟩
    .cases hr
   .cases hr
  .cases hr
theorem wv {p q:List (Option Nat×Value)}:Ap (p++q)=Ap p++Ap q:=by simp [Ap]
theorem XR (S:dr n W F b E2 g w s' a) (hb:b.h.length=n0):∀ {l:List Sh} {cs:List Cl} {x:Oa.den l} {u:List Nat} {us0:List Value},Oa.rd b s' l cs=some (x,u)->bB E2 g cs us0->
  ∃ qs,Ap qs=u/\(∀ m,lj E2 b s' qs (Oa.mk l x m).2)/\∀ m E3,Kept n0 E2 E3->At E3 m qs->∀ us,bB E2 g cs us->bB E3 g (Oa.mk l x m).1 us
 | [],[],x,u,us0,hr,r=>by
  cases hr;exact ⟨[],rfl,λm=>rfl,λm E3 _ _ us h=>h⟩
 | h::l,c::cs,x,u,us0,hr,⟨v0,r0,e0,h1,h2⟩=>by
  unfold Oa.rd at hr;split at hr
  .rename_i x1 u1 hx;split at hr
   .rename_i y u2 hy;cases hr;obtain ⟨q1,e1,n1,k1⟩:=ae7 S hb hx h1;obtain ⟨q2,e2,n2,k2⟩:=XR S hb hy h2;refine ⟨q1++q2,by rw [wv,e1,e2],λm=>(n1 m).app (n2 _),λm E3 hk uA us Wn=>?_⟩;obtain ⟨v,r,rfl,g1,g2⟩:=Wn;refine ⟨v,r,rfl,k1 m E3 hk uA.left v g1,k2 _ E3 hk ?_ r g2⟩;rw [<-(n1 m).len];exact uA.right
   .cases hr
  .cases hr
 | [],_::_,_,_,_,hr,_=>by cases hr
 | _::_,[],_,_,_,hr,_=>by cases hr
theorem ahR (S:dr n W F b E2 g w s' a) (hb:b.h.length=n0) {h:Oe} {x:h.den} {u:List Nat} {l:Nat} (hl:l< n0) (hs:n0<=s'.n) (hr:h.rd b s' (b.obj s' l)=some (x,u)):
  ∃ qs,Ap qs=u/\(∀ m,lj E2 b s' qs (h.mk x m).2)/\∀ m E3,Kept n0 E2 E3->At E3 m qs->∀ hh,(cJ E2 l (b.obj s' l)).sat g hh->(cJ E3 l (h.mk x m).1).sat g hh:=by
 have xe:l< E2.length:=by rw [S.len];omega
 obtain ⟨_,_,_,_,hh0,_,_,_,sat0,_⟩:=S.pick (ak xe);cases h with
 | cells t cs=>
  dsimp only [Oe.rd] at hr;split at hr
  .rename_i t' c eu;rw [eu] at sat0 ⊢;split at hr
   .rename_i ht;obtain rfl:=ai ht;obtain ⟨b0,us0,_,r0,_⟩:=sat0;obtain ⟨qs,e1,n1,k1⟩:=XR S hb hr r0;exact ⟨qs,e1,n1,λm E3 hk uA hh ⟨b1,us,h1,h2,h3⟩=>⟨b1,us,by rw [hk l hl];exact h1,k1 m E3 hk uA us h2,h3⟩⟩
   .cases hr
  .cases hr
 | sl t e=>
  dsimp only [Oe.rd] at hr;split at hr
  .rename_i t' e' xs eu;split at hr
   .rename_i ht;obtain rfl:=ai ht;split at hr
    .rename_i y hy;obtain ⟨q,e1⟩:=eA hy;subst q;cases hr;subst e1;rw [eu];exact ⟨[],rfl,λm=>rfl,λm E3 hk _ hh ⟨v,h1,h2⟩=>⟨v,by rw [hk l hl];exact h1,h2⟩⟩
    .cases hr
   .cases hr
  .cases hr
 | map t k e=>
  dsimp only [Oe.rd] at hr;split at hr
  .rename_i t' k' e' xs eu;split at hr
   .rename_i ht;obtain rfl:=ai ht;split at hr
    .rename_i y hy;obtain ⟨p,q,e1⟩:=aaF hy;subst p;subst q;cases hr;subst e1;rw [eu];exact ⟨[],rfl,λm=>rfl,λm E3 hk _ hh ⟨bb,mm,h1,h2⟩=>⟨bb,mm,by rw [hk l hl];exact h1,h2⟩⟩
    .cases hr
   .cases hr
  .cases hr
 | ab t=>
  dsimp only [Oe.rd] at hr;split at hr
  .rename_i k eu;split at hr
   .rename_i y hy;cases hr;rw [eu,Wu.afa hy];exact ⟨[],rfl,λm=>rfl,λm E3 hk _ hh ⟨v,h1,h2⟩=>⟨v,by rw [hk l hl];exact h1,h2⟩⟩
   .cases hr
  .cases hr
 | abs=>
  dsimp only [Oe.rd] at hr;split at hr
  .rename_i a0 eu;cases hr;rw [eu];exact ⟨[],rfl,λm=>rfl,λm E3 hk _ hh ⟨v,h1,h2⟩=>⟨v,by rw [hk l hl];exact h1,h2⟩⟩
  .cases hr
theorem LL (S:dr n W F b E2 g w s' a) (hb:b.h.length=n0):∀ {l:List (Nat×Sh)} {x:r7 l} {u:List Nat},AJ b s' l=some (x,u)->
  ∃ qs,Ap qs=u/\(∀ m,lj E2 b s' qs (jz l x m).2)/\∀ m E3,Kept n0 E2 E3->At E3 m qs->∀ t v,gh (jz l x m).1 t=some v->dq E3 g v (a.tmps.getD t undef)
 | [],x,u,hr=>by
  cases hr;exact ⟨[],rfl,λm=>rfl,λm E3 _ _ t v h=>by cases h⟩
 | p::l,x,u,hr=>by
  unfold AJ at hr;split at hr
  .rename_i c hc;split at hr
   .rename_i x1 u1 hx;split at hr
    .rename_i y u2 hy;cases hr;obtain ⟨q1,e1,n1,k1⟩:=ae7 S hb hx (S.fr _ _ hc);obtain ⟨q2,e2,n2,k2⟩:=LL S hb hy;refine ⟨q1++q2,by rw [wv,e1,e2],λm=>(n1 m).app (n2 _),λm E3 hk uA t v hv=>?_⟩;have hv:(bif Nat.beq p.1 t then some (SV.c (p.2.mk x1 m).1) else gh (jz l y (m+(p.2.mk x1 m).2.length)).1 t)=some v:=hv;by_cases e:p.1=t
     .subst e;have hbq:Nat.beq p.1 p.1=true:=by simp
      rw [hbq] at hv;obtain rfl:=aj hv;exact k1 m E3 hk uA.left _ (S.fr _ _ hc)
     .rw [ix e] at hv;refine k2 _ E3 hk ?_ t v hv;rw [<-(n1 m).len];exact uA.right
    .cases hr
   .cases hr
  .cases hr
theorem Sm (S:dr n W F b E2 g w s' a) (hb:b.h.length=n0) (hs:n0<=s'.n):∀ {l:List (Nat×Oe)} {x:wO l} {u:List Nat},(∀ p∈l,p.1< n0)->IN b s' l=some (x,u)->
  ∃ qs,Ap qs=u/\(∀ m,lj E2 b s' qs (mi l x m).2)/\(∀ m E3,Kept n0 E2 E3->At E3 m qs->∀ k o,gG (mi l x m).1 k=some o->∀ hh,(cJ E2 k (b.obj s' k)).sat g hh->(cJ E3 k o).sat g hh)/\∀ m k,gG (mi l x m).1 k=none↔k ∉ l.map (·.1)
 | [],x,u,_,hr=>by
  cases hr;exact ⟨[],rfl,λm=>rfl,(λm E3 _ _ t v h=>by cases h),λm k=>by simp [mi,gG]⟩
 | p::l,x,u,hl,hr=>by
  unfold IN at hr;split at hr
  .rename_i x1 u1 hx;split at hr
   .rename_i y u2 hy;cases hr;obtain ⟨q1,e1,n1,k1⟩:=ahR S hb (hl p (by simp)) hs hx;obtain ⟨q2,e2,n2,k2,k3⟩:=Sm S hb hs (λq hq=>hl q (aG _ hq)) hy;have look:∀ m k,gG (mi (p::l) (x1,y) m).1 k=(bif Nat.beq p.1 k then some (p.2.mk x1 m).1 else gG (mi l y (m+(p.2.mk x1 m).2.length)).1 k):=λm k=>rfl;refine ⟨q1++q2,by rw [wv,e1,e2],λm=>(n1 m).app (n2 _),λm E3 hk uA k o ho hh sat=>?_,λm k=>?_⟩
    .rw [look] at ho;by_cases e:p.1=k
     .subst e;have hbq:Nat.beq p.1 p.1=true:=by simp
      rw [hbq] at ho;obtain rfl:=aj ho;exact k1 m E3 hk uA.left hh sat
     .rw [ix e] at ho;refine k2 _ E3 hk ?_ k o ho hh sat
      rw [<-(n1 m).len];exact uA.right
    .rw [look];by_cases e:p.1=k
     .subst e;simp
     .have e':¬k=p.1:=λq=>e q.symm;rw [ix e,cond_false,k3];simp [e']
   .cases hr
  .cases hr
theorem bt.ahK {ob:Nat->HO} {X:List Atom} {sel:List (Option Nat)}:∀ {H3:List HO} {k:Nat} {h:Hp},sel.length=H3.length->
  (∀ i l o,sel[i]?=some (some l)->H3[i]?=some o->∀ h,(cJ E2 l (ob l)).sat g h->(cJ E3 (k+i) o).sat g h)->(∀ i o,sel[i]?=some none->H3[i]?=some o->(cJ E3 (k+i) o).sat g λ_=>none)->
  bt g (XW E2 ob (sel.filterMap id)++X) h->bt g (bh E3 k H3++X) h:=by
 induction sel with
 | nil=>
  intro H3 k h hl _ _ s;obtain rfl:=aK hl.symm;exact s
 | cons q sel ih=>
  intro H3 k h hl h1 h2 s;obtain ⟨o,H4,rfl⟩:∃ o H4,H3=o::H4:=by
   cases H3 with
   | nil=>cases hl
   | cons o H4=>exact ⟨o,H4,rfl⟩
  have h1':∀ i l o,sel[i]?=some (some l)->H4[i]?=some o->∀ h,(cJ E2 l (ob l)).sat g h->(cJ E3 (k+1+i) o).sat g h:=λi l o' a1 a2 hh sat=>by
   have:=h1 (i+1) l o' (by simpa using a1) (by simpa using a2) hh sat
   rw [show k+1+i=k+(i+1) by omega];exact this
  have h2':∀ i o,sel[i]?=some none->H4[i]?=some o->(cJ E3 (k+1+i) o).sat g λ_=>none:=λi o' a1 a2=>by
   have:=h2 (i+1) o' (by simpa using a1) (by simpa using a2);rw [show k+1+i=k+(i+1) by omega];exact this
  cases q with
  | none=>exact ⟨λ_=>none,h,λ_=>.inl rfl,by funext b;rfl,h2 0 o rfl rfl,ih (by simpa using hl) h1' h2' s⟩
  | some l=>
   have s:bt g (cJ E2 l (ob l)::(XW E2 ob (sel.filterMap id)++X)) h:=s;obtain ⟨p1,p2,ap,e,s1,s2⟩:=s;exact ⟨p1,p2,ap,e,h1 0 l o rfl rfl p1 s1,ih (by simpa using hl) h1' h2' s2⟩
end
section
variable {n n0:Nat} {W:cV} {F:List Atom} {b:Bs} {E E2:Env} {g w:World} {s':Ov} {a:Act}
theorem Hs:∀ {l:List HO} {k i:Nat} {o:HO},l[i]?=some o->gG (Ht k l) (k+i)=some o
 | [],_,_,_,h=>by simp at h
 | x::r,k,0,o,h=>by
  obtain rfl:x=o:=by simpa using h
  simp [Ht,gG]
 | x::r,k,i+1,o,h=>by
  have:=Hs (l:=r) (k:=k+1) (i:=i) (by simpa using h);rw [show k+(i+1)=k+1+i by omega];simp only [Ht,gG];rw [ix (show ¬k=k+1+i by omega)];exact this
theorem vZ:∀ {l:List HO} {k j:Nat},j< k\/k+l.length<=j->gG (Ht k l) j=none
 | [],_,_,_=>rfl
 | x::r,k,j,h=>by
  simp only [Ht,gG];rw [ix (show ¬k=j by simp at h;omega)];exact vZ (by simp at h;omega)
theorem CL:∀ {us:List Nat} {j:Nat},gG (us.map λl=>(l,HO.gone)) j=if j∈us then some .gone else none
 | [],_=>by simp [gG]
 | u::r,j=>by
  simp only [cg,gG];by_cases e:u=j;subst e;simp
  .have e':¬j=u:=λq=>e q.symm;rw [ix e,cond_false,CL];simp [e']
theorem CG {an:xG} {ks us0:List Nat} {k:an.den->Prop} (S:dr n W F b E2 g w s' a) (he:bz E E2) (hl:E.length=n0) (vW:Old n0 b) (hb:∀ t∈ks,gh b.f t=none) (hv:PC an ks n0 us0 b s' k):
  ∃ i,k i/\∃ E3,bz E E3/\dr n W F b E3 g w (lq an us0 n0 i) a:=by
 unfold PC at hv;split at hv
 .rename_i x u y v hx hy;obtain ⟨hm,hv⟩:=dc hv;unfold afj at hm;simp only [ao] at hm;obtain ⟨⟨⟨⟨m1,m2⟩,m3⟩,m4⟩,m5⟩:=hm;have hEl:E.length<=E2.length:=by
   rcases eQ E2.length E.length with h| h
   .have:=he _ _ (ak h);rw [dy (az _)] at this;cases this
   .exact h
  have hs:n0<=s'.n:=by rw [<-S.len,<-hl];exact hEl
  have zZ:∀ j∈an.yL.map (·.1),j< n0/\j ∉ us0:=λj hj=>by
   have:=bo.1 m3 j hj;simp only [ao,bG] at this;refine ⟨by simpa using this.1,λh=>?_⟩;rw [gB.2 h] at this;cases this.2
  obtain ⟨q1,e1,n1,k1⟩:=LL S vW.len hx;obtain ⟨q2,e2,n2,k2,k3⟩:=Sm S vW.len hs (λp hp=>(zZ p.1 (List.mem_map_of_mem hp)).1) hy;refine ⟨(x,y),hv,?_⟩;generalize hqs:q1++q2=qs;let E3:Env:=E++qs.map (·.2);have kept:Kept n0 E2 E3:=λl h=>by
   have h1:l< E.length:=by omega
   show (E++qs.map (·.2))[l]?=_;rw [aU h1,ak h1];exact (he _ _ (ak h1)).symm
  have uA:At E3 n0 qs:=λj q hq=>by
   show (E++qs.map (·.2))[n0+j]?=_;rw [aZ (by omega),cz,show n0+j - E.length=j by omega,hq];rfl
  have uw:lj E2 b s' qs (oF an n0 (x,y)):=by
   rw [<-hqs];exact (n1 n0).app (n2 _)
  have aoD:At E3 n0 q1:=by rw [<-hqs] at uA;exact uA.left
  have aoC:At E3 (n0+(jz an.jK x n0).2.length) q2:=by
   rw [<-hqs] at uA
   rw [<-(n1 n0).len];exact uA.right
  have eu:∀ j,b.obj (lq an us0 n0 (x,y)) j=match gG (Ht n0 (oF an n0 (x,y))) j with
    | some o=>o
    | none=>match gG (mi an.yL y (n0+(jz an.jK x n0).2.length)).1 j with
     | some o=>o
     | none=>if j∈us0 then .gone else lN b.h j:=λj=>by
   unfold Bs.obj lq;simp only;rw [nU,nU,CL];cases gG (Ht n0 (oF an n0 (x,y))) j with
   | some o=>rfl
   | none=>
    cases gG (mi an.yL y (n0+(jz an.jK x n0).2.length)).1 j with
    | some o=>rfl
    | none=>by_cases h:j∈us0<;>simp [h]
  have hold:∀ j,j< n0->j ∉ us0->j ∉ an.yL.map (·.1)->b.obj s' j=lN b.h j:=λj h1 h2 h3=>by
   unfold Bs.obj;rw [vG];intro hj;obtain ⟨p,hp,e⟩:=aM.1 hj;have:=bo.1 m5 p hp;simp only [iD] at this;rw [e] at this;rcases this with (h| h)| h
   .have:n0<=j:=by simpa using h
    omega
   .exact h3 (gB.1 h)
   .exact h2 (gB.1 h)
  refine ⟨E3,bz.app E _,S.size,S.defers,λt sv ht=>?_,⟨?_,?_⟩,λl xe=>?_⟩
  .-- the frame
   unfold Bs.slot lq at ht;simp only at ht;cases h1:gh (jz an.jK x n0).1 t with
   | some u'=>
    rw [h1] at ht;obtain rfl:=aj ht;exact k1 n0 E3 kept aoD t _ h1
   | none=>
    rw [h1] at ht;have ht:gh b.f t=some sv:=ht;have htk:t ∉ ks:=λh=>by rw [hb t h] at ht;cases ht
    have DS:b.slot s' t=some sv:=by
     unfold Bs.slot;have:gh s'.f t=none:=by
      cases h2:gh s'.f t with
      | none=>rfl
      | some z=>
       exfalso
       have key:∀ {L:Am},gh L t=some z->∃ p∈L,p.1=t:=by
        intro L
        induction L with
        | nil=>intro h;cases h
        | cons q L ih=>
         intro h;by_cases e:q.1=t;exact ⟨q,by simp,e⟩
         .obtain ⟨q0,q3⟩:=q;simp only [gh] at h;rw [ix e] at h;obtain ⟨p,hp,e⟩:=ih h;exact ⟨p,aG _ hp,e⟩
       obtain ⟨p,hp,e⟩:=key h2;have:=bo.1 m4 p hp;rw [e] at this;exact htk (gB.1 this)
     rw [this];exact ht
    exact (S.fr t sv DS).jG λl hlm=>kept l (vW.slot t sv ht l hlm)
  .-- what is owned
   refine S.sat.sl.cE λh sat=>?_;let sel:List (Option Nat):=(bP n0).map (λl=>if l∈us0 then none else some l)++qs.map (·.1)
   have ale:sel.filterMap id=((bP n0).filter λl=>decide (l ∉ us0))++Ap qs:=by
    show List.filterMap id (_++_)=_;rw [List.filterMap_append,List.filterMap_map,List.filterMap_map];congr 1;have key:∀ L:List Nat,L.filterMap (id ∘ λl=>if l∈us0 then none else some l)=L.filter λl=>decide (l ∉ us0):=by
     intro L
     induction L with
     | nil=>rfl
     | cons l L ih=>
      rw [List.filterMap_cons,lW,ih];by_cases hm:l∈us0<;>simp [hm]
    exact key _
   have alb:Ap qs=u++v:=by rw [<-hqs,wv,e1,e2]
   have hnd:=jQ.1 m1;rw [fm] at hnd;have yS:∀ l∈Ap qs,l< s'.n:=λl hl=>by
    obtain ⟨q,hq,e⟩:=List.mem_filterMap.1 hl;obtain ⟨j,hj⟩:=List.getElem?_of_mem hq;have hlen:=uw.len;have CZ:j< (oF an n0 (x,y)).length:=by rw [<-hlen];exact (av.1 hj).1
    rcases uw.get hj (ak CZ) with ⟨l',o',p1,p2,_⟩| ⟨p1,_⟩
    .rw [e] at p1;obtain rfl:=aj p1;exact S.lt p2
    .rw [e] at p1;cases p1
   have hls:(sel.filterMap id).Nodup:=by
    rw [ale,fm];refine ⟨List.nodup_range.filter _,by rw [alb];exact hnd.1,λp hp q hq e=>?_⟩;subst e;obtain ⟨hp1,hp2⟩:=fQ.1 hp;rw [alb] at hq;have:=bo.1 m2 p hq;simp only [iD] at this;rcases this with h| h
    .have h1:n0<=p:=by simpa using h
     have h2:=dm.1 hp1;omega
    .have h1:=gB.1 h;simp [h1] at hp2
   have s1:=bt.qw (ob:=b.obj s') hls (λl hlm=>by
    rw [ale] at hlm;rcases aY.1 hlm with h| h
    .have:=dm.1 (fQ.1 h).1;exact eM (by omega)
    .exact eM (yS l h)) sat
   have s2:=bt.XU s1;refine bt.ahK (E2:=E2) (E3:=E3) (sel:=sel) (ob:=b.obj s') (k:=0) ?_ (λi l o hi ho hh xb=>?_) (λi o hi ho=>?_) s2
   .show ((bP n0).map _++qs.map λq:Option Nat×Value=>q.1).length=_;rw [dQ];show _=n0+(oF an n0 (x,y)).length;rw [af,bL,bL,List.length_range,uw.len]
   .rw [cd];have ais:i< (lq an us0 n0 (x,y)).n:=by
     have:=(av.1 ho).1;rw [dQ] at this;exact this
    rw [eM ais] at ho;obtain rfl:=aj ho;by_cases DV:i< n0
    .have hi2:((bP n0).map (λl=>if l∈us0 then none else some l))[i]?=some (some l):=by
      rw [aU (by simpa using DV)] at hi;exact hi
     rw [cz,List.getElem?_range DV] at hi2;by_cases hu:i∈us0;simp [hu] at hi2
     .simp [hu] at hi2;subst hi2;rw [eu,vZ (.inl DV)];simp only;cases ho2:gG (mi an.yL y (n0+(jz an.jK x n0).2.length)).1 i with
      | some o=>exact k2 _ E3 kept aoC i o ho2 hh xb
      | none=>
       have hnk:=(k3 _ i).1 ho2;simp only [hu,if_false];rw [hold i DV hu hnk] at xb
       exact cJ.jG (λj hj=>kept j (vW.obj i j hj)) (kept i DV) xb
    .have VB:(qs.map λq:Option Nat×Value=>q.1)[i - n0]?=some (some l):=by
      rw [aZ (by simp;omega)] at hi;simpa using hi
     rw [cz] at VB;cases hq:qs[i - n0]? with
     | none=>rw [hq] at VB;cases VB
     | some q=>
      rw [hq] at VB;have hq1:q.1=some l:=by simpa using VB
      have CZ:i - n0< (oF an n0 (x,y)).length:=by rw [<-uw.len];exact (av.1 hq).1
      have kJ:=uw.get hq (ak CZ);rw [eu];have hz:=Hs (k:=n0) (ak CZ);rw [show n0+(i - n0)=i by omega] at hz;rw [hz];simp only;rcases kJ with ⟨l',o',p1,p2,p3,p4,pm⟩| ⟨p1,_⟩
      .rw [hq1] at p1;obtain rfl:=aj p1;rw [p3] at xb
       rw [p4];have:=uA _ q hq;rw [show n0+(i - n0)=i by omega] at this;exact pm.sat p2 this xb
      .rw [hq1] at p1;cases p1
   .rw [cd];have ais:i< (lq an us0 n0 (x,y)).n:=by
     have:=(av.1 ho).1;rw [dQ] at this;exact this
    rw [eM ais] at ho;obtain rfl:=aj ho;by_cases DV:i< n0
    .have hi2:((bP n0).map (λl=>if l∈us0 then none else some l))[i]?=some none:=by
      rw [aU (by simpa using DV)] at hi;exact hi
     rw [cz,List.getElem?_range DV] at hi2;by_cases hu:i∈us0
     .rw [eu,vZ (.inl DV)];simp only;rw [(k3 _ i).2 λh=>(zZ i h).2 hu];simp only [hu,if_true];trivial
     .simp [hu] at hi2
    .have VB:(qs.map λq:Option Nat×Value=>q.1)[i - n0]?=some none:=by
      rw [aZ (by simp;omega)] at hi;simpa using hi
     rw [cz] at VB;cases hq:qs[i - n0]? with
     | none=>rw [hq] at VB;cases VB
     | some q=>
      rw [hq] at VB;have hq1:q.1=none:=by simpa using VB
      have CZ:i - n0< (oF an n0 (x,y)).length:=by rw [<-uw.len];exact (av.1 hq).1
      have kJ:=uw.get hq (ak CZ);rw [eu];have hz:=Hs (k:=n0) (ak CZ);rw [show n0+(i - n0)=i by omega] at hz;rw [hz];simp only;rcases kJ with ⟨l',o',p1,_⟩| ⟨_,p2,t,e',p4⟩;rw [hq1] at p1;cases p1
      .rw [p4];have:=uA _ q hq;rw [show n0+(i - n0)=i by omega,p2] at this;exact ⟨_,this,[],trivial,by simp,.inl ⟨rfl,rfl⟩⟩
  .rw [dQ];show (E++qs.map (·.2)).length=n0+(oF an n0 (x,y)).length;rw [af,bL,hl,uw.len]
  .rw [eu];have xe:n0+(oF an n0 (x,y)).length<=l:=xe;rw [vZ (.inr xe)];simp only;rw [(k3 _ l).2 λh=>by have:=(zZ l h).1;omega];simp only;split
   .rfl
   .exact nT (by rw [vW.len];omega)
 .exact hv.elim
end
def Ex.out:Ex->Exit
 | .normal=>.normal
 | .exit i=>.exit i
 | .ret=>.ret
def amu (n:Nat) (W:cV) (F:List Atom) (b:Bs) (E:Env) (g:World) (Q:Ex->Ov->Prop) (e:Exit) (a':Act) (w':World):Prop:=∃ E' g' s' ex,bz E E'/\bA g g'/\dr n W F b E' g' w' s' a'/\e=ex.out/\Q ex s'
section
variable {X:Vx} {n:Nat} {an:Eo} {W:cV} {F:List Atom}
theorem Ov.force_eq {s:Ov} {K:Ov->Prop} (h:s.force K):K s:=by
 have:=fC _ (fC _ h);exact this
theorem Bs.force_eq {b:Bs} {K:Bs->Prop} (h:b.force K):K b:=by
 have:=fC _ (fC _ h);exact this
theorem ve {ks:List Nat} {b:Bs} {s:Ov} {t:Nat} (h:t∈ks):gh (pO ks b s).f t=none:=by
 show gh ((s.f++b.f).filter λp=> !ir p.1 ks) t=none;rw [jg (p:=λk=> !ir k ks),gB.2 h];rfl
theorem BD {ro:Option Nat} {m:Nat} (jH:js W X.P X.ct):∀ (c:Code) {b:Bs} {s:Ov} {E:Env} {g w:World} {a:Act} {Q:Ex->Ov->Prop},dr n W F b E g w s a->lB X n an c b s Q->c.wpIn (DY ro) m X.P (amu n W F b E g Q) a w:=by
 intro c
 induction c with
 | skip=>
  intro b s E g w a Q S h;exact wpIn_skip ⟨E,g,s,.normal,bz.refl E,bA.refl g,S,rfl,h⟩
 | region id ops draw=>
  intro b s E g w a Q S h;exact OE jH S (Ov.force_eq h) λa' w' ⟨E',g',s',l1,l2,S',k⟩=>⟨E',g',s',.normal,l1,l2,S',rfl,k⟩
 | seq x y ihx ihy=>
  intro b s E g w a Q S h;unfold lB at h;split at h
  .refine wpIn_seq (wpIn_mono (ihx S h) ?_);rintro e a1 w1 ⟨E1,g1,s1,ex,l1,l2,S1,rfl,hq⟩;cases ex with
   | normal=>exact wpIn_mono (ihy S1 hq) λe a2 w2 ⟨E2,g2,s2,ex,m1,m2,S2,he,hq⟩=>⟨E2,g2,s2,ex,l1.trans m1,l2.trans m2,S2,he,hq⟩
   | exit i=>exact ⟨E1,g1,s1,.exit i,l1,l2,S1,rfl,hq⟩
   | ret=>exact ⟨E1,g1,s1,.ret,l1,l2,S1,rfl,hq⟩
  .rename_i la _;have h:=fC _ (Ov.force_eq h);generalize hks:nH x++la.jK.map (·.1)=ks at h;have h:=Bs.force_eq h;obtain ⟨J,hA,hB⟩:=h;refine wpIn_seq (wpIn_mono (ihx (S.ahL ks) hA) ?_);rintro e a1 w1 ⟨E1,g1,s1,ex,l1,l2,S1,rfl,hq⟩;cases ex with
   | normal=>
    obtain ⟨i,hi,E3,l3,S3⟩:=CG S1 l1 S.len (S.vW ks) (λt ht=>ve ht) hq;refine wpIn_mono (ihy S3 (hB i hi)) ?_;rintro e a2 w2 ⟨E2,g2,s2,ex,m1,m2,S2,he,hq⟩;exact ⟨E2,g2,_,ex,l3.trans m1,l2.trans m2,S2.out S.top,he,hq⟩
   | exit i=>exact ⟨E1,g1,_,.exit i,l1,l2,S1.out S.top,rfl,hq⟩
   | ret=>exact ⟨E1,g1,_,.ret,l1,l2,S1.out S.top,rfl,hq⟩
 | cond c x y ihx ihy=>
  intro b s E g w a Q S h;unfold lB at h;split at h
  .rename_i v hv;obtain ⟨hc,_⟩:=S.fg hv;have told:∀ q,a.eval c= .bool q->dr n W F b E g w (s.told c q) a:=λq hq=>by
    cases c with
    | tmp t=>exact S.told (d:=t) (by rw [show a.tmps.getD t undef= .bool q from hq];exact gm q)
    | const _=>exact S
    | global _=>exact S
    | func _=>exact S
   rcases tn h with ⟨e,h⟩| ⟨e,h⟩<;>subst e;exact wpIn_cond_true hc (ihx (told _ hc) h);exact wpIn_cond_false hc (ihy (told _ hc) h)
  .cases h
 | block id c ih=>
  intro b s E g w a Q S h;unfold lB at h;refine wpIn_block (wpIn_mono (ih S h) ?_);rintro e a1 w1 ⟨E1,g1,s1,ex,l1,l2,S1,rfl,hq⟩;cases ex with
  | normal=>exact ⟨E1,g1,s1,.normal,l1,l2,S1,rfl,hq⟩
  | exit i=>
   show (if i=id then _ else _)
   simp only at hq;split
   .rename_i e;subst e;rw [if_pos (by simp)] at hq;exact ⟨E1,g1,s1,.normal,l1,l2,S1,rfl,hq⟩
   .rename_i e;rw [if_neg (by simpa using e)] at hq;exact ⟨E1,g1,s1,.exit i,l1,l2,S1,rfl,hq⟩
  | ret=>exact ⟨E1,g1,s1,.ret,l1,l2,S1,rfl,hq⟩
 | loop c ih=>
  intro b s E g w a Q S h;unfold lB at h;split at h
  .rename_i k0 _;refine uD (λk a' w'=>∃ s' E' g',bz E E'/\bA g g'/\dr n W F b E' g' w' s' a'/\ahu (λs q=>lB X n an c b s q) Q k s') (λk=>k) k0 ⟨s,E,g,bz.refl E,bA.refl g,S,h⟩ ?_;rintro k a1 w1 ⟨s1,E1,g1,l1,l2,S1,hu⟩;cases k with
   | zero=>exact hu.elim
   | succ k=>
    refine wpIn_mono (ih S1 (Ov.force_eq hu)) ?_;rintro e a2 w2 ⟨E2,g2,s2,ex,m1,m2,S2,rfl,hq⟩;cases ex with
    | normal=>exact ⟨k,⟨s2,E2,g2,l1.trans m1,l2.trans m2,S2,hq⟩,Nat.lt_succ_self k⟩
    | exit i=>exact ⟨E2,g2,s2,.exit i,l1.trans m1,l2.trans m2,S2,rfl,hq⟩
    | ret=>exact ⟨E2,g2,s2,.ret,l1.trans m1,l2.trans m2,S2,rfl,hq⟩
  .cases h
  .rename_i la _ _;have h:=fC _ (Ov.force_eq h);generalize hks:nH c++la.jK.map (·.1)=ks at h;have h:=Bs.force_eq h;have S:=GV X.cloH S;generalize Dg X.cloH b s=s at h S;obtain ⟨i0,h0,E0,l0,S0⟩:=CG (S.ahL ks) (bz.refl E) S.len (S.vW ks) (λt ht=>ve ht) h;obtain ⟨I,μ,hI0,hI⟩:=h0;refine uD (λi a' w'=>I i/\∃ E' g',bz E E'/\bA g g'/\dr n W F (pO ks b s) E' g' w' (lq la (CC la b s) s.n i) a') μ i0 ⟨hI0,E0,g,l0,bA.refl g,S0⟩ ?_;rintro i a1 w1 ⟨hi,E1,g1,l1,l2,S1⟩;refine wpIn_mono (ih S1 (hI i hi)) ?_;rintro e a2 w2 ⟨E2,g2,s2,ex,m1,m2,S2,rfl,hq⟩;cases ex with
   | normal=>
    obtain ⟨i',⟨h1,h2⟩,E3,l3,S3⟩:=CG S2 (l1.trans m1) S.len (S.vW ks) (λt ht=>ve ht) hq;exact ⟨i',⟨h1,E3,g2,l3,l2.trans m2,S3⟩,h2⟩
   | exit i=>
    obtain ⟨g3,m3,S3⟩:=GX X.sfh (S2.out S.top);exact ⟨E2,g3,_,.exit i,l1.trans m1,(l2.trans m2).trans m3,S3,rfl,hq⟩
   | ret=>
    obtain ⟨g3,m3,S3⟩:=GX X.sfh (S2.out S.top);exact ⟨E2,g3,_,.ret,l1.trans m1,(l2.trans m2).trans m3,S3,rfl,hq⟩
 | exit id=>
  intro b s E g w a Q S h;exact wpIn_exit ⟨E,g,s,.exit id,bz.refl E,bA.refl g,S,rfl,h⟩
 | ret=>
  intro b s E g w a Q S h;exact wpIn_ret ⟨E,g,s,.ret,bz.refl E,bA.refl g,S,rfl,h⟩
 | rangeFunc f ps x y ih1 ih2=>intro b s E g w a Q S h;exact h.elim
 | scope c ih=>intro b s E g w a Q S h;exact h.elim
 | label l=>intro b s E g w a Q S h;exact h.elim
 | goto l=>intro b s E g w a Q S h;exact h.elim
 | refuse l=>intro b s E g w a Q S h;exact h.elim
end
def MJ (D:Nat):Deferred:= {target:=.collected D,args:= #[]}
def Qz (D:Nat):Atom:=obj D (.deferred (some []))
def cV.v8 (W:cV) (Ds:List Nat):cV:= {W with ds:=Ds.map MJ++W.ds}
theorem SL.base {W W':cV} (hw:W'.w=W.w) (hg:W'.g=W.g) {g w:World} {l:List Atom} (h:SL W g w l):SL W' g w l:=by
 obtain ⟨h0,h1,h2,h3,h4⟩:=h;refine ⟨h0,?_,⟨h2.uo,?_⟩,?_,h4⟩
 .unfold cV.n;rw [hw];exact h1
 .rw [hw,hg];exact h2.agr
 .unfold cV.n;rw [hw];exact h3
theorem Sat.base {W W':cV} (hw:W'.w=W.w) (hg:W'.g=W.g) {E:Env} {g w:World} {H:List HO} {F:List Atom} (h:Sat W E g w H F):Sat W' E g w H F:=⟨h.sl.base hw hg,h.len⟩
theorem WpW.base {W W':cV} (hw:W'.w=W.w) (hg:W'.g=W.g) {P:Program} {f:FuncId} {args:List SV} {H:List HO} {Q:SV->List HO->Prop} (h:WpW W P f args H Q):WpW W' P f args H Q:=λg w E F vs hs hv=>(h g w E F vs (hs.base hw.symm hg.symm) hv).mono λ_ _ ⟨E1,g1,sv,H1,a1,a2,a3,a4,a5⟩=>⟨E1,g1,sv,H1,a1,a2,a3.base hw hg,a4,a5⟩
theorem js.base {W W':cV} (hw:W'.w=W.w) (hg:W'.g=W.g) {P:Program} {L:List (Nat×Ct)} (h:js W P L):js W' P L:=λp hp args H Q hc=>(h p hp args H Q hc).base hw hg
theorem SL.alZ {g:World} {a b:Atom} {A F:List Atom} {W:cV} {w:World} (H:SL W g w (A++a::b::F)):SL W g w (A++F):=((H.cE λh x=>bt.pc x).drop.cE λh x=>bt.pc x).drop
def Ue (n:Nat) (W:cV) (F:List Atom) (b:Bs) (E:Env) (g:World) (Q:Ex->Ov->Prop) (e:Exit) (a':Act) (w':World):Prop:=∃ Ds E' g' s' ex,bz E E'/\bA g g'/\dr n (W.v8 Ds) (Ds.map Qz++F) b E' g' w' s' a'/\e=ex.out/\Q ex s'
def FE (sz:Nat):Value->Nat->Nat->Value
 | .slice a _ _,i,k=>jx sz (.slice a (i+k) (i+k)) (i:Int) ((i+k:Nat):Int)
 | v,_,_=>v
def uE:Value->Nat
 | .slice _ n _=>n
 | _=>0
def aeZ (P:Program) (f:Nat) (e:Ty):Prop:=∀ (l b1 b2:Nat) (v0:Value) (q:Int) (J:Nat->World->Prop) (w:World),1<=q->q<=1000000000->(∃ (p:Option Addr) (n c:Nat),v0= .slice p n c/\n<=1000000000000/\n<=c/\(p=none->n=0))->
 (∀ k w,J k w->w.cell? ⟨b1,0,none⟩=some v0/\w.cell? ⟨b2,0,none⟩=some (.int .i64 q))->(∀ k w,J k w->J k w.drew)->
 (∀ k w,J k w->k*q.toNat< uE v0->YieldAt (DY none) 0 P l #[FE e.size v0 (k*q.toNat) (min q.toNat (uE v0 - k*q.toNat))] w λx w'=>x= .returned (.bool true)/\J (k+1) w')->J 0 w->
 CallsIn (DY none) 1 P f #[.func (.yield l) #[] #[],ptr b1 0,ptr b2 0] w λx w'=>(∃ v,x= .returned v)/\∃ k,J k w'/\uE v0<=k*q.toNat
def xI (P:Program) (L:List (Nat×Ty)):Prop:=∀ p∈L,aeZ P p.1 p.2
theorem xI.nil (P:Program):xI P []:=λ_ h=>by cases h
section
variable {X:Vx} {n:Nat} {an:Eo} {W:cV} {F:List Atom}
theorem Gp:∀ {l:List (Nat×Ty)} {f:Nat} {e:Ty},Gq l f=some e->(f,e)∈l
 | (k,v)::s,f,e,h=>by
  unfold Gq at h;cases hb:Nat.beq k f with
  | true=>
   rw [hb] at h;obtain rfl:=ai hb;obtain rfl:=aj h;exact aS
  | false=>rw [hb] at h;exact aG _ (Gp h)
theorem adI {e:Ty} {g:World} {v:Value} {xs:List e.den} {i k:Nat} (h:oa e g v xs) (hk:i+k<=xs.length):oa e g (FE e.size v i k) ((xs.drop i).take k):=by
 obtain ⟨a,cp,rfl,h2⟩:=SP h hk;have h3:=ll (l:=(i:Int)) (h:=((i+k:Nat):Int)) h2 (by omega) (by omega) (by rw [aD];omega);have e1:((xs.take (i+k)).drop (i:Int).toNat).take (((i+k:Nat):Int).toNat - (i:Int).toNat)=(xs.drop i).take k:=by
  rw [bm,bm,pJ,fR];congr 1;omega
 rw [e1] at h3;exact h3
theorem Uz {m:Nat} {t p f:Nat} {ps:Array Tmp} {assign body:Code} (hps:ps.toList= [p]) {e:Ty} (hch:aeZ X.P f e) (jH:js W X.P X.ct) (hp:gx p n=true) (hf:qV X.P f=true)
  {b:Bs} {s:Ov} {E:Env} {g w:World} {a:Act} {Q:Ov->Prop} {xs:List e.den} {q:Int} {la:xG} (hla:la.jK= []) {b1 b2:Nat} {v0:Value} {t1 t2:TypeId}
  (hg:a.eval (.tmp t)= .func (.func f) #[] #[ptr b1 0,ptr b2 0]) (yR:oa e g v0 xs)
  (S:dr n W (obj b2 (.cells #[.int .i64 q] t2 (0,0))::obj b1 (.cells #[v0] t1 (0,0))::F) b E g w s a) (h:OH X n an p assign body e xs q la b s Q):
  (Code.rangeFunc (.tmp t) ps assign body).wpIn (DY none) m X.P (Ue n W F b E g λe s'=>match e with| .normal=>Q s'| _=>False) a w:=by
 have hps:ps= #[p]:=by rw [<-Array.toArray_toList (xs:=ps),hps]
 subst hps;unfold OH at h;have h:=Ov.force_eq h;have h:=Bs.force_eq h;obtain ⟨⟨q1,q2⟩,aiB,h⟩:=h;have top:=S.top;have hold:=S.vW [];have Sx:=S.ahL [];have hn0:=S.len;generalize Wn:CC la b s=us0 at h;generalize hb1:pO [] b s=bb at h Sx hold;obtain ⟨i0,hL,E0,lE0,S0⟩:=CG Sx (bz.refl E) hn0 hold (λt ht=>by cases ht) h;obtain ⟨I,μ,hI0,hI⟩:=hL;have slot0:∀ i t,bb.slot (lq la us0 s.n i) t=gh bb.f t:=λi t=>by
  obtain ⟨sl,ob⟩:=la;cases hla;rfl
 have hsx:(uF [] b s).f= []:=by unfold uF;simp [ir]
 refine wpIn_rangeFunc ?_;intro fn _;obtain ⟨rec,PV⟩:∃ rec:LoopState->Option Code->Loop,rec=λst pe=> {state:=st,pending:=pe,fn,tmps:=a.tmps,params:= #[p],assign,body,defers:=w.heap.size}:=⟨_,rfl⟩;have rR:∀ st pe,(rec st pe).state=st:=λ_ _=>by rw [PV]
 have AA:∀ st pe,(rec st pe).pending=pe:=λ_ _=>by rw [PV]
 have aft:∀ st pe st',{rec st pe with state:=st'}=rec st' pe:=λ_ _ _=>by rw [PV]
 have Y9:∀ st pe st' pe',{rec st pe with state:=st',pending:=pe'}=rec st' pe':=λ_ _ _ _=>by rw [PV]
 obtain ⟨W1,hW1⟩:∃ W1,(w.alloc (.deferred (some []))).alloc (.loop (rec .ready none))=W1:=⟨_,rfl⟩;obtain ⟨l,hl⟩:∃ l,w.heap.size+1=l:=⟨_,rfl⟩;obtain ⟨FF,hFF⟩:∃ FF,FF=λ(st:LoopState)=>obj l (.loop (rec st none))::obj w.heap.size (.deferred (some []))::obj b2 (.cells #[.int .i64 q] t2 (0,0))::obj b1 (.cells #[v0] t1 (0,0))::F:=⟨_,rfl⟩;have key:∀ {st st':LoopState} {W0:cV} {E':Env} {g' w':World} {H:List HO},Sat W0 E' g' w' H (FF st)->w'.heap[l]?=some (.loop (rec st none))/\Sat W0 E' g' (w'.putObj l (.loop (rec st' none))) H (FF st'):=λ{st st' W0 E' g' w' H} T=>by
  rw [hFF] at T ⊢;have H1:=T.sl.cE λh x=>bt.pc x;have u:qo w' l (.loop (rec st' none)) (w'.putObj l (.loop (rec st' none))):=⟨rfl,(aQ.1 H1.Eh.2.1).1⟩;exact ⟨H1.Eh.2.1,(H1.zF u).cE λh x=>bt.toEnd x,T.len⟩
 have cellsJ:∀ {st:LoopState} {W0:cV} {E':Env} {g' w':World} {H:List HO},Sat W0 E' g' w' H (FF st)->w'.cell? ⟨b1,0,none⟩=some v0/\w'.cell? ⟨b2,0,none⟩=some (.int .i64 q):=λ{st W0 E' g' w' H} T=>by
  rw [hFF] at T;have H1:=((T.sl.cE λh x=>bt.pc x).drop.cE λh x=>bt.pc x).drop.cE λh x=>bt.pc x;have c2:=H1.Eh.2.1;have c1:=(H1.drop.cE λh x=>bt.pc x).Eh.2.1;exact ⟨by simp [World.cell?,c1],by simp [World.cell?,c2]⟩
 have S1:Sat W E0 g W1 (bb.heap (lq la us0 s.n i0)) (FF .ready):=by
  rw [hFF];refine ⟨?_,S0.sat.len⟩;have H1:SL W g (w.alloc (.deferred (some []))) (obj w.heap.size (.deferred (some []))::(bh E0 0 (bb.heap (lq la us0 s.n i0))++_)):=S0.sat.sl.new ⟨rfl,rfl⟩;have H2:SL W g W1 (obj l (.loop (rec .ready none))::_):=H1.new ⟨hW1.symm,by rw [<-hl];simp⟩;refine H2.cE λh x=>?_;obtain ⟨h1,h2,ap,e1,x1,x2⟩:=x;exact bt.toEnd ⟨h1,h2,ap,e1,x1,bt.toEnd x2⟩
 let J:Nat->World->Prop:=λk w'=>∃ i E' g',I (k,i)/\bz E E'/\bA g g'/\dr n W (FF .ready) bb E' g' w' (lq la us0 s.n i) a;have J0:J 0 W1:=⟨i0,E0,g,hI0,lE0,bA.refl g,S0.size,S0.defers,S0.fr,S1,S0.top⟩;have hD:∀ {w':World},(∃ i,∃ E' g',dr n W (FF .ready) bb E' g' w' (lq la us0 s.n i) a)->True:=λ_=>trivial;obtain ⟨pa,cp,SS,hcp,hpa,hlen⟩:∃ (pa:Option Addr) (cp:Nat),v0= .slice pa xs.length cp/\xs.length<=cp/\(pa=none->xs.length=0)/\xs.length<=9223372036854775807:=by
  have:=lP yR;rcases (@dx e.den e.rep g _ _).1 yR with ⟨rfl,rfl⟩| ⟨ad,cp,rfl,hc,J3,h3⟩;exact ⟨none,0,rfl,az _,λ_=>rfl,by simp⟩;exact ⟨some ad,cp,rfl,by omega,(λe=>by cases e),this⟩
 have DS:uE v0=xs.length:=by rw [SS];rfl
 have law:=hch l b1 b2 v0 q J W1 q1 q2 ⟨pa,_,cp,SS,aiB,hcp,hpa⟩ (λk w' ⟨i,E',g',_,_,_,S'⟩=>cellsJ S'.sat) (λk w' ⟨i,E',g',x1,x2,x3,S'⟩=>⟨i,E',g',x1,x2,x3,S'.le (Le.drew w')⟩) ?_ J0
 .refine ⟨l,[MJ w.heap.size],W1,{target:=.fn (.func f) #[ptr b1 0,ptr b2 0],args:= #[.func (.yield l) #[] #[]]},W1,f,#[.func (.yield l) #[] #[],ptr b1 0,ptr b2 0],W1,?_,?_,λ_ _=>trivial,?_,λq=>(by cases q),(callsIn_wide (n:=m - 1)).2 ((callsIn_wide (n:=1)).1 (law.mono ?_))⟩
  .rw [<-hW1,PV,<-hl];exact run_enterLoop_outer _ _ _ _ _
  .simp only [resolve,hg];simp [go_sem]
  .unfold qV at hf;split at hf
   .rename_i fn hfn;simp only [ao,bG] at hf;have h1:¬fn.name= "runtime.NumGoroutine" :=by simpa using hf.1
    have h2:¬fn.body=none:=λe=>by rw [e] at hf;cases hf.2
    simp [invoke,callFunc,hfn,h1,h2,go_sem]
   .cases hf
  .rintro x w2 ⟨⟨v,rfl⟩,k,⟨i,E',g',hi,l1,l2,S'⟩,hk⟩;obtain ⟨hrl,hT⟩:=key (st':=.exhausted) S'.sat
   have M8:=run_endLoop (P:=X.P) hrl (by rw [rR];simp);rw [aft,AA] at M8;refine ⟨none,_,M8,?_⟩;rw [DS] at hk;have hq0:=hI (k,i) hi;have hqq:Q (o9 [] s (lq la us0 s.n i)):=by
    have hb:gx (k*q.toNat) xs.length=false:=by
     cases hx:gx (k*q.toNat) xs.length with
     | false=>rfl
     | true=>have:=cK hx;omega
    simp only [hb] at hq0;exact hq0
   clear hq0;have S3:dr n W (obj w.heap.size (.deferred (some []))::F) bb E' g' _ (lq la us0 s.n i) a:=⟨S'.size,S'.defers,S'.fr,⟨by
    rw [hFF] at hT;have H1:=(hT.sl.cE λh x=>bt.pc x).drop;have H2:SL W g' _ ((bh E' 0 (bb.heap (lq la us0 s.n i))++ [obj w.heap.size (.deferred (some []))])++obj b2 (.cells #[.int .i64 q] t2 (0,0))::obj b1 (.cells #[v0] t1 (0,0))::F):=H1.cast (by simp);exact H2.alZ.cast (by simp),S'.sat.len⟩,S'.top⟩
   subst hb1;have S4:=S3.out top;exact ⟨[w.heap.size],E',g',_,.normal,l1,l2,⟨S4.size,by show [MJ w.heap.size]++a.defers=_;rw [S4.defers];rfl,S4.fr,Sat.base (W:=W) (W':=W.v8 [w.heap.size]) rfl rfl S4.sat,S4.top⟩,rfl,hqq⟩
 .rintro k w' ⟨i,E',g',hi,l1,l2,S'⟩ eJ;rw [DS] at eJ ⊢;have hq:=hI (k,i) hi;have hb:gx (k*q.toNat) xs.length=true:=Nat.ble_eq_true_of_le eJ;simp only [hb] at hq;obtain ⟨vk,hvk⟩:∃ vk,FE e.size v0 (k*q.toNat) (min q.toNat (xs.length - k*q.toNat))=vk:=⟨_,rfl⟩;have hd:oa e g' vk ((xs.drop (k*q.toNat)).take q.toNat):=by
   have:=adI (i:=k*q.toNat) (k:=min q.toNat (xs.length - k*q.toNat)) yR (by omega);rw [hvk] at this;have e1:(xs.drop (k*q.toNat)).take (min q.toNat (xs.length - k*q.toNat))=(xs.drop (k*q.toNat)).take q.toNat:=by
    rw [<-aW,<-fR,ff]
   rw [e1] at this;exact this.mono l2
  obtain ⟨hrl,_⟩:=key (st':=.ready) S'.sat
  have hy:=run_yield (P:=X.P) (args:= #[vk]) hrl (by rw [PV];rfl);rw [hvk];rw [PV] at hy;have Sp:=S'.put (d:=some p) (v:=.v (.c (.d e ((xs.drop (k*q.toNat)).take q.toNat)))) (u:=vk) hp hd;have Sr:dr n {W with ds:=[]} (FF .ready) bb E' g' w' ((lq la us0 s.n i).put (some p) (.c (.d e ((xs.drop (k*q.toNat)).take q.toNat)))) {tmps:=a.tmps.setIfInBounds p vk,defers:=[]}:=⟨Sp.size,rfl,Sp.fr,Sat.base (W:=W) (W':= {W with ds:=[]}) rfl rfl Sp.sat,Sp.top⟩;have alK:js {W with ds:=[]} X.P X.ct:=js.base (W:=W) (W':= {W with ds:=[]}) rfl rfl jH;refine ⟨fn,a.tmps.setIfInBounds p vk,assign,body,(by simpa using hy),roundIn_of_wpIn trivial ?_⟩;refine wpIn_mono (BD (ro:=some l) (m:=0) alK assign Sr hq) ?_;rintro ex a1 w1 ⟨E1,g1,s1,x1,m1,m2,T1,rfl,hq1⟩;cases x1 with
  | exit _=>exact hq1.elim
  | ret=>exact hq1.elim
  | normal=>
   obtain ⟨anG,hT1⟩:=key (st':=.busy) T1.sat
   have alN:=run_beginRound (P:=X.P) anG (rR _ _);rw [aft] at alN;refine ⟨_,alN,?_⟩;have T2:dr n {W with ds:=[]} (FF .busy) bb E1 g1 (w1.putObj l (.loop (rec .busy none))) s1 a1:=⟨T1.size,T1.defers,T1.fr,hT1,T1.top⟩;refine wpIn_mono (BD (ro:=some l) (m:=0) alK body T2 hq1) ?_;rintro ex a3 w3 ⟨E3,g3,s3,x3,m3,m4,T3,rfl,hq3⟩;cases x3 with
   | exit _=>exact hq3.elim
   | ret=>exact hq3.elim
   | normal=>
    obtain ⟨anF,hT3⟩:=key (st':=.ready) T3.sat
    have M8:=run_endRound (P:=X.P) none anF;simp only [Y9,Option.isNone_none,if_true] at M8;refine ⟨_,_,M8,rfl,?_⟩;have T4:dr n W (FF .ready) bb E3 g3 (w3.putObj l (.loop (rec .ready none))) {s3 with f:=[]} a:=⟨S'.size,S'.defers,λt sv ht=>(Sx.fr t sv (by unfold Bs.slot;rw [hsx];exact ht)).mono ((l1.trans m1).trans m3) ((l2.trans m2).trans m4),Sat.base (W:= {W with ds:=[]}) (W':=W) rfl rfl hT3,T3.top⟩;obtain ⟨i',⟨pH,_⟩,E4,lE4,T5⟩:=CG T4 ((l1.trans m1).trans m3) hn0 hold (λt ht=>by cases ht) hq3;exact ⟨i',E4,g3,pH,lE4,(l2.trans m2).trans m4,T5⟩
theorem OF {m:Nat} {t p:Nat} {ps:Array Tmp} {assign body:Code} (hps:ps.toList= [p]) (hch:xI X.P X.chk) (jH:js W X.P X.ct) {b:Bs} {s:Ov} {E:Env} {g w:World} {a:Act} {Q:Ov->Prop} (S:dr n W F b E g w s a) (h:Hy X n an t p assign body b s Q):
  (Code.rangeFunc (.tmp t) ps assign body).wpIn (DY none) m X.P (Ue n W F b E g λe s'=>match e with| .normal=>Q s'| _=>False) a w:=by
 unfold Hy at h;split at h
 .rename_i f l1 l2 hv;split at h
  .rename_i e t1 e' xs' t2 q la he ho1 ho2 hl;split at h
   .rename_i xs hx hla;obtain ⟨hc,h⟩:=dc h;simp only [ao,bG] at hc;obtain ⟨gD,_,hp,hf⟩:=hc;have gD:l1≠l2:=λe=>by subst e;simp at gD
    obtain ⟨us,Wn,ha⟩:=S.fr t _ hv;obtain ⟨_,us1,rfl,⟨b1,hE1,rfl⟩,Wn⟩:=Wn;obtain ⟨_,us2,rfl,⟨b2,hE2,rfl⟩,Wn⟩:=Wn;obtain rfl:us2= []:=Wn;obtain ⟨ws1,r1,_,H1⟩:=oV S hE1 ho1;obtain ⟨v0,ws1',rfl,SS,hn1⟩:=r1;obtain rfl:ws1'= []:=hn1;have S1:=S.alU hE1 (bA.refl g) H1;have anS:b.obj (s.dU l1 .gone) l2= .cells t2 [.k (.int .i64 q)]:=by rw [jq,if_neg gD];exact ho2
    obtain ⟨ws2,r2,_,H2⟩:=oV S1 hE2 anS;obtain ⟨vq,ws2',rfl,hvq,hn2⟩:=r2;obtain rfl:ws2'= []:=hn2;obtain ⟨rfl,_⟩:vq= .int .i64 q/\True:=⟨hvq.1,trivial⟩;have S2:=S1.alU hE2 (bA.refl g) H2;obtain ⟨qe,yR⟩:=eA hx;subst qe;subst yR;exact Uz hps (hch _ (Gp he)) jH hp hf hla ha SS S2 h
   .cases h
  .cases h
 .cases h
theorem Uy {m:Nat} (hch:xI X.P X.chk):∀ (c:Code) {W:cV} {F:List Atom} {b:Bs} {s:Ov} {E:Env} {g w:World} {a:Act} {Q:Ex->Ov->Prop},js W X.P X.ct->dr n W F b E g w s a->oh X n an c b s Q->c.wpIn (DY none) m X.P (Ue n W F b E g Q) a w:=by
 intro c;have plain:∀ {c:Code} {W:cV} {F:List Atom} {b:Bs} {s:Ov} {E:Env} {g w:World} {a:Act} {Q:Ex->Ov->Prop},js W X.P X.ct->dr n W F b E g w s a->lB X n an c b s Q->c.wpIn (DY none) m X.P (Ue n W F b E g Q) a w:=λjH S h=>wpIn_mono (BD jH _ S h) λe a' w' ⟨E',g',s',ex,l1,l2,S',he,hq⟩=>⟨[],E',g',s',ex,l1,l2,S',he,hq⟩
 induction c with
 | seq x y ihx ihy=>
  intro W F b s E g w a Q jH S h;unfold oh at h;split at h;exact plain jH S h
  .dsimp only at h;split at h
   .refine wpIn_seq (wpIn_mono (ihx jH S h) ?_);rintro e a1 w1 ⟨Ds,E1,g1,s1,ex,l1,l2,S1,rfl,hq⟩;cases ex with
    | normal=>
     refine wpIn_mono (ihy (js.base (W:=W) (W':=W.v8 Ds) rfl rfl jH) S1 hq) ?_;rintro e a2 w2 ⟨Ds2,E2,g2,s2,ex,m1,m2,S2,he,hq⟩;refine ⟨Ds2++Ds,E2,g2,s2,ex,l1.trans m1,l2.trans m2,?_,he,hq⟩;have e1:(W.v8 Ds).v8 Ds2=W.v8 (Ds2++Ds):=by unfold cV.v8;simp
     have e2:Ds2.map Qz++(Ds.map Qz++F)=(Ds2++Ds).map Qz++F:=by simp
     rw [e1,e2] at S2;exact S2
    | exit i=>exact ⟨Ds,E1,g1,s1,.exit i,l1,l2,S1,rfl,hq⟩
    | ret=>exact ⟨Ds,E1,g1,s1,.ret,l1,l2,S1,rfl,hq⟩
   .cases h
 | block id c ih=>
  intro W F b s E g w a Q jH S h;unfold oh at h;split at h;exact plain jH S h
  .dsimp only at h;refine wpIn_block (wpIn_mono (ih jH S h) ?_);rintro e a1 w1 ⟨Ds,E1,g1,s1,ex,l1,l2,S1,rfl,hq⟩;cases ex with
   | normal=>exact ⟨Ds,E1,g1,s1,.normal,l1,l2,S1,rfl,hq⟩
   | exit i=>
    show (if i=id then _ else _)
    simp only at hq;split
    .rename_i e;subst e;rw [if_pos (by simp)] at hq;exact ⟨Ds,E1,g1,s1,.normal,l1,l2,S1,rfl,hq⟩
    .rename_i e;rw [if_neg (by simpa using e)] at hq;exact ⟨Ds,E1,g1,s1,.exit i,l1,l2,S1,rfl,hq⟩
   | ret=>exact ⟨Ds,E1,g1,s1,.ret,l1,l2,S1,rfl,hq⟩
 | rangeFunc f ps x y ih1 ih2=>
  intro W F b s E g w a Q jH S h;unfold oh at h;split at h;exact plain jH S h
  .dsimp only at h;split at h
   .rename_i t p hps _;exact wpIn_mono (OF hps hch jH S h) λe a' w' ⟨Ds,E',g',s',ex,l1,l2,S',he,hq⟩=>by
     cases ex with
     | normal=>exact ⟨Ds,E',g',s',.normal,l1,l2,S',he,hq⟩
     | exit i=>exact hq.elim
     | ret=>exact hq.elim
   .cases h
 | skip=>intro W F b s E g w a Q jH S h;exact plain jH S h
 | region id ops draw=>intro W F b s E g w a Q jH S h;exact plain jH S h
 | exit id=>intro W F b s E g w a Q jH S h;exact plain jH S h
 | ret=>intro W F b s E g w a Q jH S h;exact plain jH S h
 | cond c x y ihx ihy=>
  intro W F b s E g w a Q jH S h;unfold oh at h;split at h;exact plain jH S h;cases h
 | loop c ih=>
  intro W F b s E g w a Q jH S h;unfold oh at h;split at h;exact plain jH S h;cases h
 | scope c ih=>
  intro W F b s E g w a Q jH S h;unfold oh at h;split at h;exact plain jH S h;cases h
 | label l=>intro W F b s E g w a Q jH S h;exact plain jH S h
 | goto l=>intro W F b s E g w a Q jH S h;exact plain jH S h
 | refuse l=>intro W F b s E g w a Q jH S h;exact plain jH S h
theorem wW {P:Program} {fn:Func} {R:Ending->World->Prop} {tmps:Array Value}:∀ (Ds:List Nat) {g w:World} {l:List Atom},SL W g w (Ds.map Qz++l)->
  (∀ w',SL W g w' l->∃ v,(results fn tmps).run P w'= .ok v w'/\R (.returned v) w')->LeavesInM (DY none) 0 P fn tmps R (Ds.map MJ) .returning w
 | [],g,w,l,H,h=>h w H
 | D::Ds,g,w,l,H,h=>by
  have H:SL W g w (obj D (.deferred (some []))::(Ds.map Qz++l)):=H;have hD:=H.Eh.2.1;refine ⟨(λe=>by cases e),.inl ⟨D,_,rfl,run_takeDeferred hD,?_⟩⟩;have u:qo w D (.deferred none) (w.putObj D (.deferred none)):=⟨rfl,(aQ.1 hD).1⟩;exact wW Ds (H.zF u).drop h
end
section
variable {P:Program} {X:Vx} {n:Nat} {W:cV} {F:List Atom} {b:Bs} {E:Env} {g w:World} {s:Ov} {a:Act}
theorem PI {t:TypeId} {bb:Nat} {off:Nat} {u:Value} (h:(Instr.loadAt t (ptr bb off)).run P w= .ok u w):∃ q,ptr bb off= .pointer (some q)/\(loadVar t q).run P w= .ok u w:=by
 refine ⟨_,rfl,?_⟩;simpa [Instr.loadAt,Instr.sureAddr,ptr] using h
def OY (tmps:Array Value):ResultVar->Sem Value
 | .tmp t=>pure (tmps.getD t undef)
 | .cell a t=>do loadVar t (<-asAddr (tmps.getD a undef))
theorem sa (S:dr n W F b E g w s a):∀ {rs:List ResultVar} {l:List S1},lF P b s rs=some l->
  ∃ us,ic E g l us/\(rs.mapM (OY a.tmps)).run P w= .ok us w
 | [],l,h=>by
  obtain rfl: []=l:=aj h;exact ⟨[],rfl,by simp⟩
 | .tmp t::r,l,h=>by
  unfold lF at h;split at h
  .rename_i v hv;split at h
   .rename_i q hq;obtain rfl:v::q=l:=aj h;obtain ⟨us,h1,h2⟩:=sa S hq;refine ⟨_::us,⟨_,us,rfl,S.fr t _ hv,h1⟩,?_⟩;rw [List.mapM_cons];simp [OY,h2]
   .cases h
  .cases h
 | .cell t ty::r,l,h=>by
  unfold lF at h;split at h
  .rename_i lb off hv;split at h
   .rename_i ht cs eu;split at h
    .rename_i v hp;split at h
     .rename_i q hq;obtain rfl:v::q=l:=aj h;obtain ⟨us,h1,h2⟩:=sa S hq;obtain ⟨bb,hE,hx⟩:=S.fr t _ hv;obtain ⟨xK,k1,k2,_⟩:=oV S hE eu;obtain ⟨u,h3,h4⟩:=CM k2 k1 hp;obtain ⟨qa,h5,h6⟩:=PI h3;refine ⟨u::us,⟨u,us,rfl,h4,h1⟩,?_⟩;rw [List.mapM_cons];simp [OY,Sem.run_bind,h2,hx,h5,asAddr,h6]
     .cases h
    .cases h
   .cases h
  .cases h
theorem adn {l:List S1} {us:List Value} (h:ic E g l us):dq E g (pack l) (if h:us.toArray.size=1 then us.toArray[0] else .tuple us.toArray):=by
 unfold pack;split
 .obtain ⟨u,r,rfl,h1,h2⟩:=h;obtain rfl:r= []:=h2;exact h1
 .rename_i h0;have:¬us.toArray.size=1:=λe=>by
   have hl:=h.length;simp at e;rw [e] at hl
   match l,hl,h0 with
   | [v],_,h0=>exact h0 v rfl
  rw [dif_neg this];exact ⟨us,h,rfl⟩
theorem OX (S:dr n W F b E g w s a) {fn:Func} {l:List S1} (h:lF P b s fn.results.toList=some l):∃ v,(results fn a.tmps).run P w= .ok v w/\dq E g (pack l) v:=by
 obtain ⟨us,h1,h2⟩:=sa S h;refine ⟨_,?_,adn h1⟩;have e:results fn a.tmps=(do
   let vs <-fn.results.mapM (OY a.tmps)
   pure (if h:vs.size=1 then vs[0] else .tuple vs)):=by
  unfold results;congr 1
 rw [e,Array.mapM_eq_mapM_toList];simp [h2]
theorem ad8 (S:dr n W F b E g w s a) {fn:Func} {k:SV->Prop} (h:aiK P b s fn.results.toList k):∃ r v,(results fn a.tmps).run P w= .ok v w/\dq E g r v/\k r:=by
 have e:results fn a.tmps=(do
   let vs <-fn.results.mapM (OY a.tmps)
   pure (if h:vs.size=1 then vs[0] else .tuple vs)):=by
  unfold results;congr 1
 have vW:∀ {rs:List ResultVar},fn.results.toList=rs->(match lF P b s rs with| some l=>k (pack l)| none=>False)->∃ r v,(results fn a.tmps).run P w= .ok v w/\dq E g r v/\k r:=λ{rs} hr h=>by
  split at h
  .rename_i l hl;obtain ⟨v,h1,h2⟩:=OX S (l:=l) (by rw [hr];exact hl);exact ⟨_,v,h1,h2,h⟩
  .cases h
 unfold aiK at h;split at h
 .rename_i t hr;split at h
  .rename_i q l hv;refine ⟨.arr q l,a.tmps.getD t undef,?_,S.fr t _ hv,h⟩;rw [e,Array.mapM_eq_mapM_toList,hr];simp [OY]
  .exact vW hr h
 .rename_i t ty hr;split at h
  .rename_i c hv;obtain ⟨u,sv,h1,h2,h3⟩:=xW S (S.fr t _ hv) h;refine ⟨sv,u,?_,h2,h3⟩;obtain ⟨q,hq,h5⟩:∃ q,a.tmps.getD t undef= .pointer (some q)/\(loadVar ty q).run P w= .ok u w:=by
    cases hx:a.tmps.getD t undef with
    | pointer p=>cases p with
     | some q=>exact ⟨q,rfl,by simpa [hx,Instr.loadAt,Instr.sureAddr] using h1⟩
     | none=>simp [hx,Instr.loadAt,Instr.sureAddr] at h1
    | _=>simp [hx,Instr.loadAt,Instr.sureAddr] at h1
   rw [e,Array.mapM_eq_mapM_toList,hr];simp [OY,hq,h5,asAddr]
  .cases h
 .exact vW rfl h
theorem acU {E0:Env} {g0:World} {fn:Func} {Q:SV->List HO->Prop} (S:dr n W F b E g w s a) (he:bz E0 E) (m:bA g0 g) {c:Bool} (h:acV P c fn E0.length b s Q):
  ∃ v,(results fn a.tmps).run P w= .ok v w/\∃ E' g' sv H',bz E0 E'/\bA g0 g'/\Sat W E' g' w H' F/\dq E' g' sv v/\Q sv H':=by
 unfold acV ae4 at h;have S:=GV c S;generalize Dg c b s=s at h S;obtain ⟨l,v,hr,hv,h⟩:=ad8 S h;have h:=fC _ h;generalize hrl:(sg (b.obj s) 1000 (l.labels++(bP E0.length).flatMap λi=>(b.obj s i).labels) []).filter (λl=>Nat.ble E0.length l)=rl at h;generalize hls:bP E0.length++rl=ls at h;obtain ⟨hc,h⟩:=dc h;rw [ao,jQ] at hc;obtain ⟨hn,eJ⟩:=hc;have CX:∀ l∈ls,l< s.n:=λl hl=>by have:=bo.1 eJ l hl;simpa using this
 have vX:mM (iw ls) E (ls.map λl=>(E[l]?).getD undef):=λl l' v h1 h2=>by
  have:=oL h1;rw [cz,this];simp [h2]
 have xb:Sat W (ls.map λl=>(E[l]?).getD undef) g w (ls.map λl=>(b.obj s l).fw (iw ls)) F:=by
  refine ⟨S.sat.sl.cE λh0 x=>?_,by simp⟩;have x1:=bt.qw (ob:=b.obj s) hn (λl hl=>eM (CX l hl)) x;have x2:=bt.XU x1;exact bt.xT vX (k:=0) (λi l hi=>by rw [cd];exact qj hn hi) x2
 refine ⟨v,hr,_,g,_,_,λk u hk=>?_,m,xb,hv.fw vX,h⟩;have S5:k< E0.length:=tf hk;have:ls[k]?=some k:=by
  rw [<-hls,aU (by simpa using S5)];simp [S5]
 rw [cz,this];simp [he k u hk]
theorem BJ:∀ {args:List SV} {k t:Nat} {v:SV},gh (ou k args) t=some v->k<=t/\args[t - k]?=some v
 | [],_,_,_,h=>by cases h
 | x::r,k,t,v,h=>by
  simp only [ou,gh] at h;by_cases e:k=t
  .subst e;have hb:Nat.beq k k=true:=by simp
   rw [hb] at h;obtain rfl:=aj h;exact ⟨az _,by simp⟩
  .rw [ix e] at h;obtain ⟨h1,h2⟩:=BJ h;refine ⟨by omega,?_⟩;rw [show t - k=(t - (k+1))+1 by omega];simpa using h2
theorem FW:∀ {l:List SV} {us:List Value},bE E g l us->us.length=l.length
 | [],_,h=>by rw [show _= [] from h];rfl
 | _::_,_,⟨_,_,e,_,h⟩=>by rw [e,aq,aq,FW h]
theorem FX:∀ {l:List SV} {us:List Value} {i:Nat} {c:SV},bE E g l us->l[i]?=some c->∃ u,us[i]?=some u/\dq E g c u
 | [],_,_,_,_,h=>by simp at h
 | x::l,_,0,c,⟨u,r,e,h1,_⟩,h=>by
  obtain rfl:x=c:=by simpa using h
  exact ⟨u,by rw [e];rfl,h1⟩
 | x::l,_,i+1,c,⟨u,r,e,_,h2⟩,h=>by
  obtain ⟨v,h3,h4⟩:=FX (i:=i) h2 (by simpa using h);exact ⟨v,by rw [e];simpa using h3,h4⟩
theorem Wp.Sl {I:cV->Prop} {f:FuncId} {args:List SV} {H:List HO} {Q:SV->List HO->Prop} {sv:SV} (h:∀ (E:Env) (g w:World) (vs:List Value),bA g w->bE E g args vs->Ho P f vs.toArray w λv w'=>dq E g sv v/\Le w w') (hq:Q sv H):Wp I P f args H Q:=by
 intro W _ g w E F vs hs hv;exact (h E g w vs hs.m hv).mono λv w' ⟨r,l⟩=>⟨E,g,sv,H,bz.refl E,bA.refl g,hs.le l,r,hq⟩
theorem Wp.said {I:cV->Prop} {f:FuncId} {args args':List SV} {H:List HO} {Q:SV->List HO->Prop} (h:∀ (E:Env) (g:World) (us:List Value),bE E g args us->bE E g args' us) (k:Wp I P f args' H Q):Wp I P f args H Q:=λW hW g w E F vs hs hv=>k W hW g w E F vs hs (h E g vs hv)
theorem bE.dd {g:World} {c c':SV} {l l':List SV} (h1:∀ u,dq E g c u->dq E g c' u) (h2:∀ us,bE E g l us->bE E g l' us):∀ us,bE E g (c::l) us->bE E g (c'::l') us:=λ_ ⟨u,r,e,a,b⟩=>⟨u,r,e,h1 u a,h2 r b⟩
theorem IM {g:World} {e:Ty} {l:List Cl} {x:e.den} (h:e.of l=some (x,[])):∀ u,dq E g (.v (.agg l)) u->dq E g (.v (.agg (e.cells x))) u:=λu ⟨us,h1,h2⟩=>by
 obtain ⟨u1,u2,e1,h3,h4⟩:=of_cells e h h1;obtain rfl:u2= []:=h4;rw [a7] at e1;subst e1;exact ⟨us,(eW E g e h3).1,h2⟩
theorem dR {g:World} {e:Ty} {c:Cl} {x:List e.den} (h:(Ty.sl e).of [c]=some (x,[])):∀ u,dq E g (.v (.c c)) u->dq E g (.v (.c (.d e x))) u:=λu r=>by
 have r1:bB E g [c] [u]:=⟨u,[],rfl,r,rfl⟩;obtain ⟨u1,u2,e1,h3,h4⟩:=of_cells (.sl e) h r1;obtain rfl:u2= []:=h4;rw [a7] at e1;subst e1;obtain ⟨u',r',e2,h5,h6⟩:=(eW E g (.sl e) h3).1;obtain rfl:u=u':=(List.cons.inj e2).1;exact h5
theorem aw {c:Bool} {p q:Prop} (h1:c=true->p) (h2:c=false->q):br c p q:=by
 cases c;exact h2 rfl;exact h1 rfl
theorem Wp.enter {I:cV->Prop} (jH:iG I X.P X.ct) {f:FuncId} {fn:Func} (an:Eo) (hf:X.P.funcs[f]?=some fn) {args:List SV} {H:List HO} {Q:SV->List HO->Prop} (h:acT X an fn args H Q) (hch:xI X.P X.chk:=by exact xI.nil _):Wp I X.P f args H Q:=by
 intro W0 hW;replace jH:js {W0 with ds:=[]} X.P X.ct:=js.base (W:=W0) (W':= {W0 with ds:=[]}) rfl rfl (jH.at hW);refine WpW.base (W:= {W0 with ds:=[]}) (W':=W0) rfl rfl ?_;have VC:({W0 with ds:=[]}:cV).ds= []:=rfl;revert jH VC;generalize ({W0 with ds:=[]}:cV)=W;intro jH VC g w E F vs xb DQ;unfold acT at h;split at h;cases h
 .rename_i c hb;obtain ⟨hl,h⟩:=dc h;have xe:vs.length<=fn.ntmps:=by rw [FW DQ];exact cK hl
  have adQ:∀ l,({f:=ou 0 args,h:=H}:Bs).obj {f:=[],h:=[],n:=H.length} l=lN H l:=λl=>rfl;have S:dr fn.ntmps W F {f:=ou 0 args,h:=H} E g w {f:=[],h:=[],n:=H.length} {tmps:=vs.toArray++Array.replicate (fn.ntmps - vs.toArray.size) undef,defers:=[]}:=by
   refine ⟨by simp;omega,VC.symm,λt v ht=>?_,?_,λl hl=>?_⟩
   .obtain ⟨_,h2⟩:=BJ (k:=0) ht;obtain ⟨u,h3,h4⟩:=FX DQ h2;simp only [Nat.sub_zero] at h3;have h5:t< vs.length:=(av.1 h3).1;have:(vs.toArray++Array.replicate (fn.ntmps - vs.toArray.size) undef).getD t undef=u:=by
     simp [cj,Array.getElem?_append,h5];rw [ak h5] at h3;exact aj h3
    rw [this];exact h4
   .have:({f:=ou 0 args,h:=H}:Bs).heap {f:=[],h:=[],n:=H.length}=H:=by
     apply List.ext_getElem?;intro k;by_cases hk:k< H.length;rw [eM (s:= {f:=[],h:=[],n:=H.length}) hk,adQ,ak hk,mD (ak hk)];rw [dy (by rw [dQ];show H.length<=k;omega),dy (by omega)]
    rw [this];exact xb
   .rw [adQ];exact nT hl
  have h:=GH DQ h;refine (callsIn_wide (n:=0)).1 (callsIn_of_wp_marks hf hb trivial (wpIn_mono (Uy (m:=0) hch c jH S h) ?_));rintro e a' w' ⟨Ds,E',g',s',ex,l1,l2,S',rfl,hq⟩;have hlen:E.length=H.length:=xb.len;have fin:∀ {Q':SV->List HO->Prop},acV X.P X.clo fn E.length {f:=ou 0 args,h:=H} s' Q'->LeavesInM (DY none) 0 X.P fn a'.tmps (λe w1=>∃ v,e= .returned v/\∃ E1 g1 sv H1,bz E E1/\bA g g1/\Sat W E1 g1 w1 H1 F/\dq E1 g1 sv v/\Q' sv H1) a'.defers .returning w':=λ{Q'} hq=>by
   have hd:a'.defers=Ds.map MJ:=by rw [S'.defers];unfold cV.v8;simp [VC]
   rw [hd];have H0:SL W g' w' (Ds.map Qz++(bh E' 0 (Bs.heap {f:=ou 0 args,h:=H} s')++F)):=(SL.base (W:=W.v8 Ds) (W':=W) rfl rfl S'.sat.sl).cE λh x=>bt.comm x;refine wW Ds H0 λw1 H1=>?_;have S1:dr fn.ntmps W F {f:=ou 0 args,h:=H} E' g' w1 s' {a' with defers:=W.ds}:=⟨S'.size,rfl,S'.fr,⟨H1,S'.sat.len⟩,S'.top⟩;obtain ⟨v,hr,hv⟩:=acU S1 l1 l2 hq;exact ⟨v,hr,v,rfl,hv⟩
  cases ex with
  | normal=>
   simp only at hq;rw [<-hlen] at hq;exact fin hq
  | exit i=>exact hq.elim
  | ret=>
   simp only at hq;rw [<-hlen] at hq;exact fin hq
theorem Wp.Qe {I:cV->Prop} (jH:iG I X.P X.ct) {f:FuncId} {fn:Func} (an:Eo) (hf:X.P.funcs[f]?=some fn) {args:List SV} {H:List HO} {Q:SV->List HO->Prop} {V:(SV->List HO->Prop)->Prop} (e:∀ Q,acT X an fn args H Q=V Q) (h:V Q) (hch:xI X.P X.chk:=by exact xI.nil _):Wp I X.P f args H Q:=Wp.enter jH an hf ((e Q).mpr h) hch
end
def gS (x a b:Int):Bool:=decide (a<=x)&& decide (x<=b)
def Ss (s:ByteArray):Int:=Lib.indexByte s.data.toList 0
def oE (s:ByteArray) (m:Int):Bool:=gS (s.size:Int) 1 m&& decide (Ss s< 0)
theorem gU (s:ByteArray):s.size=s.data.toList.length:=by
 cases s with
 | mk d=>simp [ByteArray.size]
theorem Jg (l:List UInt8) (c:UInt8): -1<=Lib.indexByte l c/\Lib.indexByte l c< max 1 (l.length:Int):=by
 induction l with
 | nil=>simp [Lib.indexByte];omega
 | cons b r ih=>
  unfold Lib.indexByte;by_cases hb:(b==c)=true;rw [if_pos hb];simp;omega
  .rw [if_neg hb];by_cases hm:(Lib.indexByte r c== -1)=true
   .simp only [hm,if_true,aq];omega
   .simp only [hm];simp at hm;simp only [aq];have:r≠ []:=λe=>by subst e;simp [Lib.indexByte] at hm
    have:0< r.length:=List.length_pos_iff.2 this;simp;omega
def vD (s:ByteArray) (k:Nat):Bool:=(s.data.toList.drop k).any (· ==0)
theorem Vc {s:ByteArray} {k:Int} (h0:0<=k) (h1:k< s.size):vD s k.toNat=(((iV s k).toNat:Int)==0|| vD s (k+1).toNat):=by
 have eJ:k.toNat< s.data.toList.length:=by rw [<-gU];omega
 unfold vD;rw [bO eJ,List.any_cons,show k.toNat+1=(k+1).toNat by omega];have e:s.data.toList[k.toNat]=iV s k:=by
  have h2:k.toNat< s.size:=by omega
  have hb:s[k.toNat]?=some s[k.toNat]:=by simp [h2]
  unfold iV;rw [hb];show s.data.toList[k.toNat]=s[k.toNat];simp [ByteArray.getElem_eq_getElem_data]
 rw [e];congr 1;rw [iE];simp only [beq_iff_eq];constructor;intro h;rw [h];rfl;intro h;exact UInt8.toNat_inj.1 (by show (iV s k).toNat=0;omega)
theorem YD {s:ByteArray} {k:Int} (h:¬k< s.size) (h0:0<=k):vD s k.toNat=false:=by
 unfold vD;rw [eZ (by rw [<-gU];omega)];rfl
abbrev uT:=ByteArray×List UInt8×Unit
def leB (a b:ByteArray):Bool:=lD a b|| kR a b
def vV (x:uT) (last:ByteArray):Bool:= !oE x.1 40|| leB x.1 last|| decide ((x.2.1.length:Int)>200)
def fG:List uT->ByteArray->Bool
 | [],_=>true
 | x::r,last=>if vV x last then false else fG r x.1
def dI (l:List uT):Bool:=fG l ⟨#[]⟩&& decide ((l.length:Int)<=8)
theorem eK {e:Ty} {l:List e.den} {k:Int} (h0:0<=k) (h1:k< l.length):l.drop k.toNat=aB e l k::l.drop (k+1).toNat:=by
 have eJ:k.toNat< l.length:=by omega
 rw [bO eJ,show k.toNat+1=(k+1).toNat by omega];congr 1;unfold aB;rw [aP,ak eJ];rfl
theorem eN {α:Type} {l:List α} {k:Int} (h:¬k< l.length):l.drop k.toNat= []:=eZ (by omega)
theorem A4 (a b:UInt8) (x y:List UInt8):Op.bytesLess (a::x) (b::y)=(decide (a< b)|| (a==b&& Op.bytesLess x y)):=rfl
theorem rh:∀ x:List UInt8,Op.bytesLess x x=false
 | []=>rfl
 | a::x=>by rw [A4,rh x];simp
theorem ahx (a b:UInt8):a< b\/a=b\/b< a:=by
 rcases UInt8.lt_or_le a b with h| h;exact .inl h
 .rcases UInt8.lt_or_eq_of_le h with h| h
  .exact .inr (.inr h)
  .exact .inr (.inl h.symm)
theorem QA:∀ x y:List UInt8,Op.bytesLess x y=true\/x=y\/Op.bytesLess y x=true
 | [],[]=>.inr (.inl rfl)
 | [],_::_=>.inl rfl
 | _::_,[]=>.inr (.inr rfl)
 | a::x,b::y=>by
  rw [A4,A4];rcases ahx a b with h| h| h;exact .inl (by simp [h])
  .subst h;rcases QA x y with k| k| k
   .exact .inl (by simp [k])
   .exact .inr (.inl (by rw [k]))
   .exact .inr (.inr (by simp [k]))
  .exact .inr (.inr (by simp [h]))
theorem Dz:∀ {x y z:List UInt8},Op.bytesLess x y=true->Op.bytesLess y z=true->Op.bytesLess x z=true
 | _,[],_,h,_=>by simp [Op.bytesLess] at h
 | _,_::_,[],_,k=>by simp [Op.bytesLess] at k
 | [],_::_,_::_,_,_=>rfl
 | a::x,b::y,c::z,h,k=>by
  rw [A4] at*;simp only [iD,ao,decide_eq_true_eq,beq_iff_eq] at*;rcases h with h| ⟨rfl,h⟩
  .rcases k with k| ⟨rfl,k⟩
   .exact .inl (UInt8.lt_trans h k)
   .exact .inl h
  .rcases k with k| ⟨rfl,k⟩
   .exact .inl k
   .exact .inr ⟨rfl,Dz h k⟩
theorem tp {x y:List UInt8} (h:Op.bytesLess x y=true):Op.bytesLess y x=false:=by
 cases k:Op.bytesLess y x with
 | false=>rfl
 | true=>have:=Dz h k;rw [rh] at this;cases this
theorem Jb (a b:ByteArray):leB a b= !lD b a:=by
 unfold leB lD kR;rcases QA a.toList b.toList with h| h| h;rw [h,tp h];rfl;rw [h,rh];simp
 .rw [h,tp h];have:(a.toList==b.toList)=false:=by
   apply beq_eq_false_iff_ne.2;intro e;rw [e,rh] at h;cases h
  rw [this];rfl
theorem ahZ {a:ByteArray} (h:1<=(a.size:Int)):lD ⟨#[]⟩ a=true:=by
 unfold lD;have h0:(⟨#[]⟩:ByteArray).toList= []:=by rw [Lib.toList_data]
 rw [h0];rw [gU] at h;rw [Lib.toList_data];cases h2:a.data.toList with
 | nil=>rw [h2] at h;simp at h
 | cons x r=>rfl
theorem tZ:∀ l:List UInt8,decide (Lib.indexByte l 0< 0)= !l.any (· ==0)
 | []=>rfl
 | b::r=>by
  have ih:=tZ r;have ge:=Lib.indexByte_ge r 0;unfold Lib.indexByte;by_cases hb:b=0;subst hb;simp
  .have h1:(b==0)=false:=by simpa using hb
   rw [h1];simp only [dP,if_false,List.any_cons,h1,jE];rw [<-ih];by_cases hm:Lib.indexByte r 0= -1;simp [hm]
   .have:(Lib.indexByte r 0== -1)=false:=by simpa using hm
    simp only [this,dP,if_false];have h2:¬Lib.indexByte r 0< 0:=by omega
    have h3:¬Lib.indexByte r 0+1< 0:=by omega
    simp [h2,h3]
theorem Sq (s:ByteArray):decide (Ss s< 0)= !vD s 0:=by
 unfold Ss vD;rw [tZ];simp
theorem aaw (x:uT) (last:ByteArray):vV x last=(decide ((x.1.size:Int)< 1)|| decide ((x.1.size:Int)>40)|| vD x.1 0|| decide ((x.2.1.length:Int)>200)|| !lD last x.1):=by
 unfold vV oE gS;rw [Sq,Jb];rw [iE];simp only [iD,bG,Bool.and_eq_false_iff,decide_eq_false_iff_not,decide_eq_true_eq,Bool.not_eq_false'];constructor
 .rintro ((h| h)| h)
  .rcases h with (h| h)| h
   .exact .inl (.inl (.inl (.inl (by omega))))
   .exact .inl (.inl (.inl (.inr (by omega))))
   .exact .inl (.inl (.inr h))
  .exact .inr h
  .exact .inl (.inr h)
 .rintro ((((h| h)| h)| h)| h)
  .exact .inl (.inl (.inl (.inl (by omega))))
  .exact .inl (.inl (.inl (.inr (by omega))))
  .exact .inl (.inl (.inr h))
  .exact .inr h
  .exact .inl (.inr h)
def sM (l:List uT) (k:Int):ByteArray:=if k>0 then (@List.getD uT l (k - 1).toNat (⟨#[]⟩,[],())).1 else ⟨#[]⟩
def noB (s:ByteArray):Bool:=kR s ⟨#[]⟩
def Ax (m u g:Int):Bool:=gS m 0 511&& gS u 0 65535&& gS g 0 65535
def iF (x:bx):Bool:=
 if x.2.2.1=1 then ((x.2.2.2.2.1.length:Int)==0)&& noB x.2.2.2.2.2.1&& !x.2.2.2.2.2.2.2.1&& Ax x.2.2.2.1.1 x.2.2.2.1.2.1 x.2.2.2.1.2.2.1&& dI x.2.2.2.2.2.2.1
 else if x.2.2.1=2 then decide ((x.2.2.2.2.1.length:Int)<=4096)&& noB x.2.2.2.2.2.1&& !x.2.2.2.2.2.2.2.1&& Ax x.2.2.2.1.1 x.2.2.2.1.2.1 x.2.2.2.1.2.2.1&& dI x.2.2.2.2.2.2.1
 else if x.2.2.1=3 then ((x.2.2.2.2.1.length:Int)==0)&& oE x.2.2.2.2.2.1 200&& !x.2.2.2.2.2.2.2.1&& Ax x.2.2.2.1.1 x.2.2.2.1.2.1 x.2.2.2.1.2.2.1&& dI x.2.2.2.2.2.2.1
 else false
def CV {α:Type} (p:α->Bool):List α->Int->Int
 | [],_=> -1
 | x::r,k=>if p x then k else CV p r (k+1)
theorem MY {α:Type} {p:α->Bool}:∀ {l:List α} {k:Int},0<=k->decide (CV p l k≥0)=l.any p
 | [],_,_=>rfl
 | x::r,k,h=>by
  unfold CV;rw [List.any_cons];cases hp:p x with
  | true=>simp [h]
  | false=>simpa using MY (l:=r) (p:=p) (k:=k+1) (by omega)
def ajk (x:bx):Bool:=x.2.2.1==4&& (!(x.2.2.2.1.1==0&& (x.2.2.2.1.2.1==0&& x.2.2.2.1.2.2.1==0))|| decide ((x.2.2.2.2.1.length:Int)>0)|| !kR x.2.2.2.2.2.1 ⟨#[]⟩|| decide ((x.2.2.2.2.2.2.1.length:Int)>0)|| x.2.2.2.2.2.2.2.1)
def PD (x:bx):Bool:=if x.2.2.1=4 then !ajk x else iF (x.1,x.2.1,x.2.2.1,x.2.2.2.1,x.2.2.2.2.1,x.2.2.2.2.2.1,x.2.2.2.2.2.2.1,(if x.2.2.1=1 then false else x.2.2.2.2.2.2.2.1),())
def OZ (x:bx):Bool:=
 if decide (x.2.2.1< 1)|| (decide (x.2.2.1>3)|| x.2.2.2.2.2.2.2.1) then false
 else if decide (x.2.2.2.1.1< 0)|| (decide (x.2.2.2.1.1>511)|| (decide (x.2.2.2.1.2.1< 0)|| (decide (x.2.2.2.1.2.1>65535)|| (decide (x.2.2.2.1.2.2.1< 0)|| decide (x.2.2.2.1.2.2.1>65535))))) then false
 else if (x.2.2.1 !=2&& decide ((x.2.2.2.2.1.length:Int)>0))|| decide ((x.2.2.2.2.1.length:Int)>4096) then false
 else if (x.2.2.1 !=3&& !kR x.2.2.2.2.2.1 ⟨#[]⟩)|| (x.2.2.1==3&& (kR x.2.2.2.2.2.1 ⟨#[]⟩|| (decide ((x.2.2.2.2.2.1.size:Int)>200)|| vD x.2.2.2.2.2.1 0))) then false
 else dI x.2.2.2.2.2.2.1
theorem YF (s:ByteArray):kR s ⟨#[]⟩= !decide (1<=(s.size:Int)):=by
 unfold kR;have h1:(⟨#[]⟩:ByteArray).toList= []:=by rw [Lib.toList_data]
 rw [h1,Lib.toList_data,gU];cases s.data.toList with
 | nil=>rfl
 | cons x r=>
  have:decide (1<=((x::r).length:Int))=true:=by simp;omega
  rw [this];rfl
theorem YN (m u g:Int):Ax m u g= !(decide (m< 0)|| (decide (m>511)|| (decide (u< 0)|| (decide (u>65535)|| (decide (g< 0)|| decide (g>65535)))))):=by
 unfold Ax gS;rw [iE];simp only [ao,decide_eq_true_eq,bG,Bool.or_eq_false_iff,decide_eq_false_iff_not];omega
theorem U3 (x:bx):OZ x=iF x:=by
 obtain ⟨path,ino,kind,⟨m,u,g,un⟩,data,target,xs,opq,un2⟩:=x;unfold OZ iF noB oE;simp only;rw [Sq,YF,YN];unfold gS;generalize (decide (m< 0)|| (decide (m>511)|| (decide (u< 0)|| (decide (u>65535)|| (decide (g< 0)|| decide (g>65535))))))=M;generalize vD target 0=N;generalize dI xs=X;generalize target.size=ts;generalize data.length=dl;have D:(decide ((dl:Int)>0)=false/\decide ((dl:Int)>4096)=false/\decide ((dl:Int)<=4096)=true/\((dl:Int)==0)=true)\/(decide ((dl:Int)>0)=true/\decide ((dl:Int)>4096)=false/\decide ((dl:Int)<=4096)=true/\((dl:Int)==0)=false)\/
   (decide ((dl:Int)>0)=true/\decide ((dl:Int)>4096)=true/\decide ((dl:Int)<=4096)=false/\((dl:Int)==0)=false):=by
  simp only [decide_eq_true_eq,decide_eq_false_iff_not,beq_iff_eq,beq_eq_false_iff_ne];omega
 have T:(decide (1<=(ts:Int))=false/\decide ((ts:Int)>200)=false/\decide ((ts:Int)<=200)=true)\/(decide (1<=(ts:Int))=true/\decide ((ts:Int)>200)=false/\decide ((ts:Int)<=200)=true)\/(decide (1<=(ts:Int))=true/\decide ((ts:Int)>200)=true/\decide ((ts:Int)<=200)=false):=by
  simp only [decide_eq_true_eq,decide_eq_false_iff_not];omega
 by_cases k1:kind=1
 .subst k1;rcases D with ⟨d1,d2,d3,d4⟩| ⟨d1,d2,d3,d4⟩| ⟨d1,d2,d3,d4⟩<;>rcases T with ⟨t1,t2,t3⟩| ⟨t1,t2,t3⟩| ⟨t1,t2,t3⟩<;>simp only [d1,d2,d3,d4,t1,t2,t3]<;>cases opq<;>cases M<;>cases X<;>cases N<;>rfl
 .by_cases k2:kind=2
  .subst k2;rcases D with ⟨d1,d2,d3,d4⟩| ⟨d1,d2,d3,d4⟩| ⟨d1,d2,d3,d4⟩<;>rcases T with ⟨t1,t2,t3⟩| ⟨t1,t2,t3⟩| ⟨t1,t2,t3⟩<;>simp only [d1,d2,d3,d4,t1,t2,t3]<;>cases opq<;>cases M<;>cases X<;>cases N<;>rfl
  .by_cases k3:kind=3
   .subst k3;rcases D with ⟨d1,d2,d3,d4⟩| ⟨d1,d2,d3,d4⟩| ⟨d1,d2,d3,d4⟩<;>rcases T with ⟨t1,t2,t3⟩| ⟨t1,t2,t3⟩| ⟨t1,t2,t3⟩<;>simp only [d1,d2,d3,d4,t1,t2,t3]<;>cases opq<;>cases M<;>cases X<;>cases N<;>rfl
   .have h:(decide (kind< 1)|| (decide (kind>3)|| opq))=true:=by
     by_cases ha:kind< 1;simp [ha]
     .have:kind>3:=by omega
      simp [this]
    rw [h];simp [k1,k2,k3]
def NA (x:bx):bx:=(x.1.take 18,x.2.1,x.2.2.1,x.2.2.2.1,x.2.2.2.2.1.take 1500,x.2.2.2.2.2.1,x.2.2.2.2.2.2.1.take 10,x.2.2.2.2.2.2.2.1,())
theorem pN {e:Ty} {l:List e.den} {k:Int} (h0:0<=k) (h1:k< l.length):l.take (k+1).toNat=l.take k.toNat++ [aB e l k]:=by
 have eJ:k.toNat< l.length:=by omega
 rw [show (k+1).toNat=k.toNat+1 by omega,List.take_add_one,ak eJ];unfold aB;rw [aP,ak eJ];rfl
def kM (s:ByteArray) (k:Nat):Bool:=(s.data.toList.drop k).any λb=>b==0|| b==47
theorem TN {b:UInt8} {n:Nat} (h:n< 256):(b==ax n)=((b.toNat:Int)==(n:Int)):=by
 rw [iE];simp only [beq_iff_eq];constructor
 .intro e;subst e;have:(ax n).toNat=n:=UInt8.toNat_ofNat_of_lt' h;rw [this]
 .intro e;have e':b.toNat=n:=by omega
  exact UInt8.toNat_inj.1 (by rw [e',UInt8.toNat_ofNat_of_lt' h])
theorem drop_byte {s:ByteArray} {k:Int} (h0:0<=k) (h1:k< s.size):s.data.toList.drop k.toNat=iV s k::s.data.toList.drop (k+1).toNat:=by
 have eJ:k.toNat< s.data.toList.length:=by rw [<-gU];omega
 rw [bO eJ,show k.toNat+1=(k+1).toNat by omega];congr 1;have h2:k.toNat< s.size:=by omega
 have hb:s[k.toNat]?=some s[k.toNat]:=by simp [h2]
 unfold iV;rw [hb];show s.data.toList[k.toNat]=s[k.toNat];simp [ByteArray.getElem_eq_getElem_data]
theorem LN {s:ByteArray} {k:Int} (h0:0<=k) (h1:k< s.size):kM s k.toNat=(((iV s k).toNat:Int)==0|| (((iV s k).toNat:Int)==47|| kM s (k+1).toNat)):=by
 unfold kM;rw [drop_byte h0 h1,List.any_cons,show (0:UInt8)=ax 0 from rfl,show (47:UInt8)=ax 47 from rfl,TN (n:=0) (by omega),TN (n:=47) (by omega),Bool.or_assoc];rfl
theorem OL {s:ByteArray} {k:Int} (h:¬k< s.size) (h0:0<=k):kM s k.toNat=false:=by
 unfold kM;rw [eZ (by rw [<-gU];omega)];rfl
def Tf (s:ByteArray):Bool:=kR s ⟨#[]⟩|| (kR s ⟨#[46]⟩|| kR s ⟨#[46,46]⟩)
def dA (s:ByteArray):Int:=if (s.size:Int)>255 then 23 else if kM s 0|| Tf s then 22 else 0
def gy:List ByteArray->List ByteArray->Bool
 | [],[]=>true
 | x::a,y::b=>kR x y&& gy a b
 | _,_=>false
theorem xU:∀ {a b:List ByteArray},a.length≠b.length->gy a b=false
 | [],[],h=>absurd rfl h
 | _::a,_::b,h=>by
  unfold gy;rw [xU (a:=a) (b:=b) (by simpa using h),Bool.and_false]
 | [],_::_,_=>rfl
 | _::_,[],_=>rfl
def Ee (names:List ByteArray) (x:bx):Bool:=gy x.1 names
theorem Sg {k:Kk} {α:Type} {l:List (k.den×α)} {x:k.den} {v:α}:(k.put l x v).length<=l.length+1:=by
 unfold Kk.put qP;rw [aq];have:(@mJ k.den k.key _ l x).length<=l.length:=by
  unfold mJ;exact List.length_filter_le _ _
 omega
section
variable {P:Program} {I:cV->Prop} {f:FuncId} {args:List SV} {H:List HO} {Q Q':SV->List HO->Prop} {W:cV} {E:Env} {g w:World} {F:List Atom}
theorem Wp.fin (h:Wp I P f args H Q') (k:∀ (W:cV) (E:Env) (g w:World) (F:List Atom) (H':List HO) (sv:SV),Sat W E g w H' F->Q' sv H'->∃ g' H'',bA g g'/\Sat W E g' w H'' F/\Q sv H''):Wp I P f args H Q:=λW hW g w E F vs hs hv=>
 (h W hW g w E F vs hs hv).mono λv w' ⟨E1,g1,sv,H1,e1,m1,s1,r1,q1⟩=>by
  obtain ⟨g2,H2,m2,s2,q2⟩:=k W E1 g1 w' F H1 sv s1 q1;exact ⟨E1,g2,sv,H2,e1,m1.trans m2,s2,r1.mono (bz.refl _) m2,q2⟩
theorem Wp.mono (h:Wp I P f args H Q') (k:∀ sv H',Q' sv H'->Q sv H'):Wp I P f args H Q:=
 h.fin λ_ _ g _ _ H' sv s q=>⟨g,H',bA.refl g,s,k sv H' q⟩
theorem Wp.beg {H0:List HO} (h:∀ (W:cV) (E:Env) (g w:World) (F:List Atom),Sat W E g w H0 F->∃ E' H1,bz E E'/\Sat W E' g w H1 F/\Wp I P f args H1 Q):Wp I P f args H0 Q:=λW hW g w E F vs hs hv=>by
 obtain ⟨E1,H1,e1,s1,k⟩:=h W E g w F hs;have hv1:bE E1 g args vs:=by
  have key:∀ {l:List SV} {us:List Value},bE E g l us->bE E1 g l us:=by
   intro l
   induction l with
   | nil=>intro us h;exact h
   | cons c l ih=>
    rintro us ⟨u,r,e,h1,h2⟩;exact ⟨u,r,e,h1.mono e1 (bA.refl g),ih h2⟩
  exact key hv
 exact (k W hW g w E1 F vs s1 hv1).mono λv w' ⟨E2,g2,sv,H2,e2,m2,q⟩=>⟨E2,g2,sv,H2,e1.trans e2,m2,q⟩
theorem Wp.sel (h:Wp I P f args H λsv H'=>∃ ls:List Nat,ls.take H.length=bP H.length/\ls.Nodup/\(∀ l∈ls,l< H'.length)/\Q (sv.fw (iw ls)) (ls.map λl=>(lN H' l).fw (iw ls))):Wp I P f args H Q:=λW hW g w E F vs hs hv=>
 (h W hW g w E F vs hs hv).mono λv w' ⟨E1,g1,sv,H1,e1,m1,s1,r1,ls,h1,hn,eJ,q⟩=>by
  have vX:mM (iw ls) E1 (ls.map λl=>(E1[l]?).getD undef):=λl l' v h1 h2=>by
   have:=oL h1;rw [cz,this];simp [h2]
  have xb:Sat W (ls.map λl=>(E1[l]?).getD undef) g1 w' (ls.map λl=>(lN H1 l).fw (iw ls)) F:=by
   refine ⟨s1.sl.cE λh0 x=>?_,by simp⟩;have x1:=bt.qw (ob:=lN H1) hn (λl hl=>by
    have xe:=eJ l hl;rw [ak xe,mD (ak xe)]) x
   have x2:=bt.XU x1;exact bt.xT vX (k:=0) (λi l hi=>by rw [cd];exact qj hn hi) x2
  refine ⟨_,g1,_,_,λk u hk=>?_,m1,xb,r1.fw vX,q⟩;have S5:k< H.length:=by
   have:=(av.1 hk).1;rw [hs.len] at this;exact this
  have:ls[k]?=some k:=by
   have h2:(ls.take H.length)[k]?=some k:=by rw [h1];simp [S5]
   rw [dO,if_pos S5] at h2;exact h2
  rw [cz,this];simp [e1 k u hk]
theorem Wp.IK {t:TypeId} {e:Ty} (h:Wp I P f args H λsv H'=>Q sv H'\/(sv= .c (.k (.slice none 0 0))/\Q (.c (.o H'.length)) (H'++ [.sl t e []]))):Wp I P f args H Q:=λW hW g w E F vs hs hv=>
 (h W hW g w E F vs hs hv).mono λv w' ⟨E1,g1,sv,H1,e1,m1,s1,r1,q⟩=>by
  rcases q with q| ⟨rfl,q⟩;exact ⟨E1,g1,sv,H1,e1,m1,s1,r1,q⟩
  .have SS:v= .slice none 0 0:=r1.1;subst SS;letI:=e.rep;have H2:=SL.zI e.den t s1.sl;refine ⟨E1++ [.slice none 0 0],g1,.c (.o H1.length),H1++ [.sl t e []],e1.trans (bz.app _ _),m1,Sat.push (o:=.sl t e []) (v:=.slice none 0 0) s1.len (H2.cE λ_ ⟨k1,k2,ap,q,x1,x2⟩=>⟨k1,k2,ap,q,⟨_,by rw [<-s1.len];simp,x1⟩,x2⟩),⟨by rw [<-s1.len];simp,none,0,0,rfl⟩,q⟩
theorem Wp.adp {t:TypeId} {e:Ty} (h:Wp I P f args H λsv H'=>Q sv H'\/∃ x:Int,sv= .cZ [.c (.k (.slice none 0 0)),.c (.k (.int .i64 x))]/\Q (.cZ [.c (.o H'.length),.c (.k (.int .i64 x))]) (H'++ [.sl t e []])):Wp I P f args H Q:=λW hW g w E F vs hs hv=>
 (h W hW g w E F vs hs hv).mono λv w' ⟨E1,g1,sv,H1,e1,m1,s1,r1,q⟩=>by
  rcases q with q| ⟨x,rfl,q⟩;exact ⟨E1,g1,sv,H1,e1,m1,s1,r1,q⟩
  .obtain ⟨us,⟨u1,us1,rfl,⟨hu1,_⟩,u2,us2,rfl,hu2,Vz⟩,rfl⟩:=r1;obtain rfl:us2= []:=Vz;subst hu1;letI:=e.rep;have H2:=SL.zI e.den t s1.sl;refine ⟨E1++ [.slice none 0 0],g1,.cZ [.c (.o H1.length),.c (.k (.int .i64 x))],H1++ [.sl t e []],e1.trans (bz.app _ _),m1,Sat.push (o:=.sl t e []) (v:=.slice none 0 0) s1.len (H2.cE λ_ ⟨k1,k2,ap,q,x1,x2⟩=>⟨k1,k2,ap,q,⟨_,by rw [<-s1.len];simp,x1⟩,x2⟩),⟨_,⟨_,_,rfl,⟨by rw [<-s1.len];simp,none,0,0,rfl⟩,_,_,rfl,hu2,rfl⟩,rfl⟩,q⟩
end
abbrev AtD:=Int×Int×Int×Unit
abbrev XeD:=ByteArray×Int×Int×Unit
abbrev am9:Ty:=.pair .str (.pair (.int .i64) (.pair (.int .i64) .unit))
theorem jA {a b:ByteArray}:kR a b=true↔a=b:=by
 unfold kR;rw [beq_iff_eq,Lib.toList_data,Lib.toList_data];constructor
 .intro h;obtain ⟨x⟩:=a;obtain ⟨y⟩:=b;have:x=y:=Array.ext' h;rw [this]
 .intro h;rw [h]
def bx.wy (n:bx) (a:AtD):bx:=(n.1,n.2.1,n.2.2.1,a,n.2.2.2.2)
def bx.ac4 (n:bx) (x:List uT):bx:=(n.1,n.2.1,n.2.2.1,n.2.2.2.1,n.2.2.2.2.1,n.2.2.2.2.2.1,x,n.2.2.2.2.2.2.2)
def bx.dU (n:bx) (q:Bool):bx:=(n.1,n.2.1,n.2.2.1,n.2.2.2.1,n.2.2.2.2.1,n.2.2.2.2.2.1,n.2.2.2.2.2.2.1,q,())
def oY (L:List bx) (r:Int) (f:bx->bx):List bx:=L.map λn=>bif rQ r n then f n else n
def wT (x:bx):Bool:=if x.2.2.1=4 then !ajk (x.dU false) else iF (x.dU false)
def YM (a:AtD):Bool:=Ax a.1 a.2.1 a.2.2.1
namespace UpY
variable (Y:UpY)
def lA (r:Int):Int:=match Y.at r with
 | none=>1
 | some n=>if n.2.2.1=1 then 0 else 24
def atE (r:Int):Int:=match Y.at r with
 | none=>1
 | some _=>0
def kindOf (r:Int):Int:=match Y.at r with
 | none=>0
 | some n=>n.2.2.1
def mF (d:Int) (s:ByteArray):Int:=if Y.lA d=0 then (match Y.kK d s with
 | none=>20
 | some _=>0) else Y.lA d
def SB (d:Int) (s:ByteArray):XeD:=if Y.lA d=0 then (match Y.kK d s with
 | none=>(⟨#[]⟩,0,0,())
 | some e=>(s,Y.kindOf e.2.2.1,e.2.2.1,())) else (⟨#[]⟩,0,0,())
def qW (d:Int) (s:ByteArray):Int:=if Y.lA d=0 then (if dA s=0 then (match Y.kK d s with
 | none=>0
 | some _=>21) else dA s) else Y.lA d
def BQ (r:Int) (a:AtD):Int:=match Y.at r with
 | none=>1
 | some n=>if n.2.2.1=4\/YM a=false then 1 else 0
def gP (r:Int) (a:AtD):UpY:=if Y.BQ r a=0 then {Y with L:=oY Y.L r (·.wy a)} else Y
def vc (r:Int) (x:List uT):Int:=match Y.at r with
 | none=>1
 | some n=>if n.2.2.1=4\/dI x=false then 1 else 0
def ft (r:Int) (x:List uT):UpY:=if Y.vc r x=0 then {Y with L:=oY Y.L r (·.ac4 x)} else Y
def fJ (r:Int) (q:Bool):UpY:=if Y.lA r=0 then {Y with L:=oY Y.L r (·.dU q)} else Y
def MK (d:Int) (s:ByteArray) (n:bx):Int:=if Y.qW d s=0 then (if wT n then 0 else 1) else Y.qW d s
def SA (d:Int) (s:ByteArray) (n:bx):Int:=if Y.MK d s n=0 then Y.nx else 0
def qb (n:bx):bx:=([],Y.nx,n.2.2.1,n.2.2.2.1,n.2.2.2.2.1,n.2.2.2.2.2.1,n.2.2.2.2.2.2.1,false,())
def oG (d:Int) (s:ByteArray) (n:bx):UpY:=if Y.MK d s n=0 then {Y with L:=Y.L++ [Y.qb n],E:=Y.E++ [(d,s,Y.nx,())],nx:=Y.nx+1} else Y
def MP (d:Int) (s:ByteArray) (r:Int):Int:=match Y.at r,Y.at d with
 | some n,some _=>if Y.qW d s=0 then (if n.2.2.1=1 then 25 else 0) else Y.qW d s
 | _,_=>1
def rD (d:Int) (s:ByteArray) (r:Int):UpY:=if Y.MP d s r=0 then {Y with E:=Y.E++ [(d,s,r,())]} else Y
end UpY
structure UpY.Wf (Y:UpY):Prop where
 nd:(Y.L.map (·.2.1)).Nodup
 lo:∀ n∈Y.L,1<=n.2.1/\n.2.1< Y.nx
 root:Y.lA 1=0
 nm:∀ n∈Y.L,n.1= []/\((n.2.2.1=1\/n.2.2.2.2.2.2.2.1=false)/\wT n=true)
 ne:(Y.E.map λe=>(e.1,e.2.1)).Nodup
 dir:∀ e∈Y.E,Y.lA e.1=0/\dA e.2.1=0
 ref:∀ e∈Y.E,e.2.2.1≠1/\Y.atE e.2.2.1=0
 has:∀ n∈Y.L,n.2.1≠1->Y.E.any (UA n.2.1)=true
 one:∀ e∈Y.E,Y.lA e.2.2.1=0->Y.E.countP (UA e.2.2.1)=1
 dep:∃ d:Int->Nat,∀ e∈Y.E,Y.lA e.2.2.1=0->d e.1< d e.2.2.1
section
variable {L:List (Int×rJ)} {Y:UpY}
theorem at_mem {r:Int} {y:bx} (h:Y.at r=some y):y∈Y.L/\y.2.1=r:=by
 unfold UpY.at at h;refine ⟨pI h,?_⟩;have:=List.find?_some h;simpa [rQ] using this
theorem aeR {r:Int}:Y.at r=none↔∀ n∈Y.L,n.2.1≠r:=by
 unfold UpY.at
 rw [jC];simp [rQ]
theorem Tc {d:Int} {s:ByteArray} {e:Ub} (h:Y.kK d s=some e):e∈Y.E/\e.1=d/\e.2.1=s:=by
 unfold UpY.kK at h;refine ⟨pI h,?_⟩;have:=List.find?_some h;simpa [isE] using this
theorem xl {d:Int} {s:ByteArray}:Y.kK d s=none↔∀ e∈Y.E,¬(e.1=d/\e.2.1=s):=by
 unfold UpY.kK;rw [jC];simp [isE]
theorem iU {r:Int}:Y.lA r=0↔∃ y,Y.at r=some y/\y.2.2.1=1:=by
 unfold UpY.lA;cases Y.at r with
 | none=>simp
 | some y=>
  simp only [km,exists_eq_left'];split<;>simp_all
end
end Go.Lm

namespace Go.Lm
open Go Go.RowKit
def ZG (r:Int):Int:=di .xor .u32 (kO .u32 r 1) (IntKind.wrap .u32 (di .and .u32 r 1*3988292384))
def xo:Nat->Int->Int
 | 0,r=>r
 | n+1,r=>ZG (xo n r)
def GP (i:Nat):Int:=xo 8 (IntKind.wrap .u32 i)
def dN:List Int:=(bP 256).map GP
def ra (N n:Nat):List Int:=(bP N).map λj=>if j< n then GP j else 0
theorem Nw (N:Nat):au N (0:Int)=ra N 0:=by
 unfold ra;refine List.ext_getElem (by simp) λj h1 h2=>by simp
theorem Nx {N n:Nat} (_:n< N):(ra N n).set n (GP n)=ra N (n+1):=by
 unfold ra;refine List.ext_getElem (by simp) λj h1 h2=>?_;rw [List.getElem_set];simp only [List.getElem_map,List.getElem_range];split
 .rename_i e;subst e;rw [if_pos (by omega)]
 .rename_i e;by_cases hj:j< n
  .rw [if_pos hj,if_pos (by omega)]
  .rw [if_neg hj,if_neg (by omega)]
theorem Ny (N:Nat):ra N N=(bP N).map GP:=by
 unfold ra;refine gH λj h=>?_;rw [if_pos (dm.1 h)]
def xn (n:Nat):List Int:=ra 256 n
theorem Qi:au 256 (0:Int)=xn 0:=Nw 256
theorem GO (n:Nat):(xn n).length=256:=by unfold xn ra;rw [bL,List.length_range]
theorem Qj {n:Nat} (h:n< 256):(xn n).set n (GP n)=xn (n+1):=Nx h
theorem Qk:xn 256=dN:=Ny 256
def aef (T:List Int) (r:Int) (c:UInt8):Int:=di .xor .u32 (kO .u32 r 8) (T.getD (di .xor .u8 (IntKind.wrap .u8 r) (c.toNat:Int)).toNat 0)
def Th (T:List Int) (r:Int) (b:List UInt8):Int:=b.foldl (aef T) r
def Jx (r:Int):Int:=di .xor .u32 (ku .u32) r
def cw (T:List Int) (s:Int) (b:List UInt8):Int:=Jx (Th T (Jx s) b)
def nD (c e:Int):Int:=if c=0 then e else c
def bM:List UInt8->Int
 | []=>0
 | c::r=>(c.toNat:Int)+256*bM r
def aJ:Nat->Nat->List UInt8
 | 0,_=>[]
 | n+1,x=>ax (x % 256)::aJ n (x / 256)
theorem CN:∀ l:List UInt8,0<=bM l
 | []=>bp _
 | c::r=>by
  have:=CN r;show 0<=(c.toNat:Int)+256*bM r;omega
theorem YT:∀ l:List UInt8,bM l< 256 ^ l.length
 | []=>by show (0:Int)< 256 ^ 0;omega
 | c::r=>by
  have h1:=YT r;have h2:c.toNat< 256:=UInt8.toNat_lt c;show (c.toNat:Int)+256*bM r< 256 ^ (r.length+1);rw [Int.pow_succ];omega
theorem SD:∀ (l:List UInt8) (c:UInt8),bM (l++ [c])=bM l+(c.toNat:Int)*256 ^ l.length
 | [],c=>by show (c.toNat:Int)+256*0=0+(c.toNat:Int)*256 ^ 0;omega
 | d::r,c=>by
  show (d.toNat:Int)+256*bM (r++ [c])=(d.toNat:Int)+256*bM r+(c.toNat:Int)*256 ^ (r.length+1);rw [SD r c,Int.pow_succ,Int.mul_add,Int.add_assoc];congr 2;rw [Int.mul_comm (256 ^ r.length) 256,<-Int.mul_assoc,<-Int.mul_assoc,Int.mul_comm 256 (c.toNat:Int)]
theorem wrap64 {z:Int} (h0:0<=z) (h1:z< 9223372036854775808):IntKind.wrap .i64 z=z:=wrap64_in (by omega) (by omega)
theorem Yt {x:Int} {i:Int} {c:UInt8} (hi:0<=i) (VB:i<=3) (h0:0<=x) (hx:x< 256 ^ i.toNat):di .or .i64 x (Aq .i64 (c.toNat:Int) (8*i))=x+(c.toNat:Int)*256 ^ i.toNat:=by
 have hc:c.toNat< 256:=UInt8.toNat_lt c;obtain ⟨x,rfl⟩:=mB h0;obtain ⟨j,rfl⟩:=mB hi;have hj:j<=3:=by omega
 simp only [bm] at hx ⊢;have Gx:x< 256 ^ j:=Int.ofNat_lt.1 (by rw [Int.natCast_pow];exact hx);have key:∀ k:Nat,k=8*j->2 ^ k=256 ^ j:=λk hk=>by rw [hk,Nat.pow_mul]
 have hp:(256:Nat) ^ j<=16777216:=Nat.le_trans (Nat.pow_le_pow_right (by omega) hj) (by decide);have hcp:c.toNat*256 ^ j<=255*16777216:=Nat.mul_le_mul (by omega) hp;have hs:Aq .i64 (c.toNat:Int) (8*(j:Int))=((c.toNat*256 ^ j:Nat):Int):=by
  unfold Aq;have e1:min (8*(j:Int)).toNat IntKind.i64.bits=8*j:=by
   show min (8*(j:Int)).toNat 64=8*j;omega
  rw [e1];have e2:(c.toNat:Int)*2 ^ (8*j)=((c.toNat*256 ^ j:Nat):Int):=by
   rw [<-key (8*j) rfl,Int.natCast_mul,Int.natCast_pow];rfl
  rw [e2];exact wrap64 (by omega) (by omega)
 rw [hs];unfold di;simp only;have e3:(BitVec.ofInt IntKind.i64.bits (x:Int)||| BitVec.ofInt IntKind.i64.bits ((c.toNat*256 ^ j:Nat):Int)).toNat=x||| (c.toNat*256 ^ j):=by
  rw [BitVec.toNat_or];have b1:(BitVec.ofInt IntKind.i64.bits (x:Int)).toNat=x:=by
   rw [BitVec.ofInt_natCast,BitVec.toNat_ofNat];exact lU (by show x< 2 ^ 64;omega)
  have b2:(BitVec.ofInt IntKind.i64.bits ((c.toNat*256 ^ j:Nat):Int)).toNat=c.toNat*256 ^ j:=by
   rw [BitVec.ofInt_natCast,BitVec.toNat_ofNat];exact lU (by show c.toNat*256 ^ j< 2 ^ 64;omega)
  rw [b1,b2]
 have e4:x||| (c.toNat*256 ^ j)=x+c.toNat*256 ^ j:=by
  have h9:=Nat.shiftLeft_add_eq_or_of_lt (b:=x) (i:=8*j) (by rw [key _ rfl];exact Gx) c.toNat
  rw [Nat.shiftLeft_eq,key _ rfl] at h9;rw [Nat.or_comm,<-h9,Nat.add_comm]
 show IntKind.wrap .i64 ((BitVec.ofInt IntKind.i64.bits (x:Int)||| BitVec.ofInt IntKind.i64.bits ((c.toNat*256 ^ j:Nat):Int)).toNat:Int)=_;rw [e3,e4,wrap64 (by omega) (by omega)];rw [Int.natCast_add,Int.natCast_mul,Int.natCast_pow];rfl
theorem aC:∀ n x:Nat,(aJ n x).length=n
 | 0,_=>rfl
 | n+1,x=>by show (aJ n (x / 256)).length+1=n+1;rw [aC n]
theorem Gs:∀ n x:Nat,aJ (n+1) x=aJ n x++ [ax (x / 256 ^ n % 256)]
 | 0,x=>by show [ax (x % 256)]= [ax (x / 256 ^ 0 % 256)];rw [Nat.pow_zero,Nat.div_one]
 | n+1,x=>by
  show ax (x % 256)::aJ (n+1) (x / 256)=ax (x % 256)::(aJ n (x / 256)++_);rw [Gs n (x / 256),Nat.div_div_eq_div_mul,Nat.pow_succ,Nat.mul_comm 256]
theorem CO:∀ n x:Nat,x< 256 ^ n->bM (aJ n x)=x
 | 0,x,h=>by
  have:x=0:=by simpa using h
  subst this;rfl
 | n+1,x,h=>by
  show ((ax (x % 256)).toNat:Int)+256*bM (aJ n (x / 256))=x;rw [CO n (x / 256) (by rw [Nat.pow_succ] at h;omega),UInt8.toNat_ofNat',lU (by omega)];omega
theorem fdiv_pow (m j:Nat):Int.fdiv (m:Int) (2 ^ (8*j))=((m / 256 ^ j:Nat):Int):=by
 have e:(2:Int) ^ (8*j)=((256 ^ j:Nat):Int):=by
  rw [show (256:Nat) ^ j=2 ^ (8*j) by rw [Nat.pow_mul],Int.natCast_pow];rfl
 rw [e,Int.fdiv_eq_ediv_of_nonneg _ (jD _),Int.natCast_ediv]
theorem aeO {m:Int} {i:Int} (hm:0<=m) (hi:0<=i) (VB:i<=3):ax (IntKind.wrap .u8 (kO .i64 m (8*i))).toNat=ax (m.toNat / 256 ^ i.toNat % 256):=by
 obtain ⟨m,rfl⟩:=mB hm;obtain ⟨j,rfl⟩:=mB hi;have e1:kO .i64 (m:Int) (8*(j:Int))=((m / 256 ^ j:Nat):Int):=by
  unfold kO;have e0:min (8*(j:Int)).toNat IntKind.i64.bits=8*j:=by
   show min (8*(j:Int)).toNat 64=8*j;omega
  rw [e0];exact fdiv_pow m j
 rw [e1];have e2:IntKind.wrap .u8 ((m / 256 ^ j:Nat):Int)=((m / 256 ^ j % 256:Nat):Int):=by
  rw [Int.natCast_emod];rfl
 rw [e2,bm,bm,bm]
theorem XS {m n:Int} (hm:0<=m) (hn:1<=n) (hn4:n<=4) (h:m< 256 ^ n.toNat):kO .i64 m (8*n)=0:=by
 obtain ⟨m,rfl⟩:=mB hm;obtain ⟨j,rfl⟩:=mB (show 0<=n by omega);unfold kO;have e0:min (8*(j:Int)).toNat IntKind.i64.bits=8*j:=by
  show min (8*(j:Int)).toNat 64=8*j;omega
 rw [e0,fdiv_pow m j];simp only [bm] at h;have h':m< 256 ^ j:=Int.ofNat_lt.1 (by rw [Int.natCast_pow];exact h);rw [Nat.div_eq_of_lt h'];rfl
def jm (b:List UInt8) (n:Int):List UInt8:=if n>(b.length:Int) then [] else b.take n.toNat
def F5 (b:List UInt8) (n:Int):Int:=if n>(b.length:Int) then 2 else 0
def kT (b:List UInt8) (n:Int):List UInt8:=if n>(b.length:Int) then b else b.drop n.toNat
def acY (l:Nat) (d:Cl):Cl->Cl
 | .o k=>bif Nat.beq k l then d else .o k
 | c=>c
def RT (l:Nat) (d:Cl):List Cl->List Cl
 | []=>[]
 | c::r=>acY l d c::RT l d r
def ahC (l:Nat) (d:Cl):S1->S1
 | .c x=>.c (acY l d x)
 | .agg cs=>.agg (RT l d cs)
def XK (l:Nat) (d:Cl):List S1->List S1
 | []=>[]
 | c::r=>ahC l d c::XK l d r
def ahB (l:Nat) (d:Cl):SV->SV
 | .v x=>.v (ahC l d x)
 | .cZ xs=>.cZ (XK l d xs)
 | .any=>.any
 | .arr k l=>.arr k l
section
variable {E:Env} {g:World} {l:Nat} {d:Cl}
theorem Md (hd:∀ u,E[l]?=some u->cv E g d u) {c:Cl} {u:Value} (h:cv E g c u):cv E g (acY l d c) u:=by
 unfold acY;split
 .rename_i k;cases hb:Nat.beq k l with
  | true=>
   rw [ai hb] at h;exact hd u h.1
  | false=>exact h
 .exact h
theorem xY (hd:∀ u,E[l]?=some u->cv E g d u):∀ {cs:List Cl} {us:List Value},bB E g cs us->bB E g (RT l d cs) us
 | [],_,h=>h
 | _::_,_,⟨u,r,e,h1,h2⟩=>⟨u,r,e,Md hd h1,xY hd h2⟩
theorem Mc (hd:∀ u,E[l]?=some u->cv E g d u):∀ {x:S1} {u:Value},gw E g x u->gw E g (ahC l d x) u
 | .c _,_,h=>Md hd h
 | .agg _,_,⟨us,h1,h2⟩=>⟨us,xY hd h1,h2⟩
theorem FZ (hd:∀ u,E[l]?=some u->cv E g d u):∀ {cs:List S1} {us:List Value},ic E g cs us->ic E g (XK l d cs) us
 | [],_,h=>h
 | _::_,_,⟨u,r,e,h1,h2⟩=>⟨u,r,e,Mc hd h1,FZ hd h2⟩
theorem Ma (hd:∀ u,E[l]?=some u->cv E g d u):∀ {x:SV} {u:Value},dq E g x u->dq E g (ahB l d x) u
 | .v _,_,h=>Mc hd h
 | .cZ _,_,⟨us,h1,h2⟩=>⟨us,FZ hd h1,h2⟩
 | .any,_,h=>h
 | .arr _ _,_,h=>h
end
theorem Me {E:Env} {g:World} {e:Ty} {u:Value} (h:cv E g (.k (.slice none 0 0)) u):cv E g (.d e []) u:=by
 have hu:u= .slice none 0 0:=h.1;subst hu;letI:=e.rep;exact (dx (α:=e.den)).2 (.inl ⟨rfl,rfl⟩)
section
variable {P:Program} {I:cV->Prop} {f:FuncId} {args:List SV} {H:List HO} {Q Q':SV->List HO->Prop}
theorem Wp.res (h:Wp I P f args H λsv H'=>∃ JZ,(∀ E g v,dq E g sv v->dq E g JZ v)/\Q JZ H'):Wp I P f args H Q:=λW hW g w E F vs hs hv=>
 (h W hW g w E F vs hs hv).mono λv w' ⟨E1,g1,sv,H1,e1,m1,s1,r1,JZ,k,q⟩=>⟨E1,g1,JZ,H1,e1,m1,s1,k _ _ _ r1,q⟩
end
section
variable {P:Program} {I:cV->Prop} {f:FuncId} {args:List SV} {H:List HO} {Q Q':SV->List HO->Prop} {W:cV} {E:Env} {g w:World} {F:List Atom}
theorem Wp.xr {p:Nat} {t tt:TypeId} {e:Ty} (h:Wp I P f args H λsv H'=>∃ cs1 cs2,H'[p]?=some (.cells t (cs1++ .k (.slice none 0 0)::cs2))/\Q sv ((H'.set p (.cells t (cs1++ .o H'.length::cs2)))++ [.sl tt e []])):Wp I P f args H Q:=λW hW g w E F vs hs hv=>
 (h W hW g w E F vs hs hv).mono λv w' ⟨E1,g1,sv,H1,e1,m1,s1,r1,cs1,cs2,hp,hq⟩=>by
  have DU:=(av.1 hp).1;letI:=e.rep;have H2:=SL.zI e.den tt s1.sl;have hlen:E1.length=H1.length:=s1.len;have he:bz E1 (E1++ [Value.slice none 0 0]):=bz.app _ _;have S1:Sat W (E1++ [Value.slice none 0 0]) g1 w' (H1++ [.sl tt e []]) F:=Sat.push (o:=.sl tt e []) hlen (H2.cE λ_ ⟨k1,k2,ap,q,x1,x2⟩=>⟨k1,k2,ap,q,⟨_,by rw [<-hlen];simp,x1⟩,x2⟩);refine ⟨E1++ [.slice none 0 0],g1,sv,_,e1.trans he,m1,⟨?_,by simp [hlen]⟩,r1.mono he (bA.refl _),hq⟩;have Zc:(H1++ [HO.sl tt e []])[p]?=some (.cells t (cs1++ .k (.slice none 0 0)::cs2)):=by rw [aU DU];exact hp
  refine S1.sl.cE λk s=>?_;obtain ⟨k1,k2,ap,e2,⟨bb,us,hE,hrel,hblk⟩,s2⟩:=bt.r5 Zc s;obtain ⟨u1,u2,rfl,h1,⟨_,r,rfl,⟨rfl,_⟩,h3⟩⟩:=bB.split hrel;have hn:(E1++ [Value.slice none 0 0])[H1.length]?=some (.slice none 0 0):=by rw [<-hlen];simp
  have s3:bt g1 (cJ (E1++ [Value.slice none 0 0]) p (.cells t (cs1++ .o H1.length::cs2))::(bh (E1++ [Value.slice none 0 0]) 0 ((H1++ [HO.sl tt e []]).set p .gone)++F)) k:=⟨k1,k2,ap,e2,⟨bb,_,hE,h1.app ⟨_,r,rfl,⟨hn,none,0,0,rfl⟩,h3⟩,hblk⟩,s2⟩;have s4:=bt.D8 (l:=p) (by simp;omega) s3;rw [List.set_set,List.set_append_left _ _ DU] at s4;exact s4
end
theorem MG:∀ {H:List HO} {n l:Nat} {o:HO},l< n->lN (H.set n o) l=lN H l
 | [],_,_,_,_=>rfl
 | _::_,0,_,_,h=>by omega
 | _::_,_+1,0,_,_=>rfl
 | _::r,n+1,l+1,o,h=>MG (H:=r) (by omega)
theorem O2 (n m:Nat) (h:m<=n):(bP n).take m=bP m:=by
 rw [List.take_range,eP h]
section
variable {P:Program} {I:cV->Prop} {f:FuncId} {args:List SV} {H:List HO} {Q Q':SV->List HO->Prop}
abbrev Lx (n:Nat) (H:List HO):List HO:=(bP n).map λl=>(lN H l).fw (iw (bP n))
theorem XX {W:cV} {E:Env} {g w:World} {F:List Atom} {n:Nat} (s:Sat W E g w H F) (hn:n<=H.length):Sat W ((bP n).map λl=>(E[l]?).getD undef) g w (Lx n H) F:=by
 have vX:mM (iw (bP n)) E ((bP n).map λl=>(E[l]?).getD undef):=λl l' v h1 h2=>by
  have:=oL h1;rw [cz,this];simp [h2]
 refine ⟨s.sl.cE λh0 x=>?_,by simp⟩;have x1:=bt.qw (ob:=lN H) (ls:=bP n) List.nodup_range (λl hl=>by
  have xe:l< H.length:=by have:=dm.1 hl;omega
  rw [ak xe,mD (ak xe)]) x
 have x2:=bt.XU x1;exact bt.xT vX (k:=0) (λi l hi=>by rw [cd];exact qj List.nodup_range hi) x2
theorem Wp.akX (h:Wp I P f args H λsv H'=>Q sv H'\/(∃ JZ,(∀ E g v,dq E g sv v->dq E g JZ v)/\Q JZ H')\/∃ (n:Nat) (t:TypeId) (e:Ty) (xs:List e.den) (JZ:SV),H.length<=n/\H'[n]?=some (.sl t e xs)/\(∀ E g v,(∀ u,E[n]?=some u->cv [] g (.d e xs) u)->dq E g sv v->dq [] g JZ v)/\Q JZ (Lx n H')):Wp I P f args H Q:=λW hW g w E F vs hs hv=>
 (h W hW g w E F vs hs hv).mono λv w' ⟨E1,g1,sv,H1,e1,m1,s1,r1,q⟩=>by
  rcases q with q| ⟨JZ,k,q⟩| ⟨n,t,e,xs,JZ,hn,hl,k,q⟩;exact ⟨E1,g1,sv,H1,e1,m1,s1,r1,q⟩;exact ⟨E1,g1,JZ,H1,e1,m1,s1,k _ _ _ r1,q⟩
  .have eJ:=(av.1 hl).1;obtain ⟨u,hE⟩:∃ u,E1[n]?=some u:=⟨E1[n]'(by rw [s1.len];exact eJ),ak _⟩;letI:=e.rep;have H2:SL W g1 w' (py e t u xs::dD (bh E1 0 H1++F) n):=(s1.pick hl).cE λk ⟨h1,h2,ap,q,⟨u',x1,x2⟩,x3⟩=>⟨h1,h2,ap,q,by
    rw [hE] at x1;obtain rfl:=aj x1;exact x2,x3⟩
   obtain ⟨g2,m2,H3,hi⟩:=SL.qy (α:=e.den) H2;have S3:Sat W E1 g2 w' (H1.set n .gone) F:=Sat.back .gone s1.len hl (H3.cE λk s2=>⟨λ_=>none,k,λ_=>.inl rfl,rfl,trivial,s2⟩);have S4:=XX (n:=n) S3 (by rw [gJ];omega);have e4:Lx n (H1.set n .gone)=Lx n H1:=gH λl hl=>by rw [MG (dm.1 hl)]
   rw [e4] at S4;refine ⟨_,g2,JZ,_,λk u hk=>?_,m1.trans m2,S4,(k E1 g2 _ (λu' hu=>by
    rw [hE] at hu;obtain rfl:=aj hu;exact hi) (r1.mono (bz.refl _) m2)).mono (λ_ _ h=>by simp at h) (bA.refl _),q⟩
   have S5:k< H.length:=by
    have:=(av.1 hk).1;rw [hs.len] at this;exact this
   rw [cz,List.getElem?_range (by omega)];simp [e1 k u hk]
theorem Wp.IL {e:Ty} (h:Wp I P f args H λsv H'=>Q sv H'\/(sv= .c (.k (.slice none 0 0))/\Q (.c (.d e [])) H')\/∃ (n:Nat) (t:TypeId) (xs:List e.den),sv= .c (.o n)/\H.length<=n/\H'[n]?=some (.sl t e xs)/\Q (.c (.d e xs)) (Lx n H')):Wp I P f args H Q:=
 Wp.akX (h.mono λsv H' q=>by
  rcases q with q| ⟨rfl,q⟩| ⟨n,t,xs,rfl,h1,h2,q⟩;exact .inl q;exact .inr (.inl ⟨.c (.d e []),λE g v h=>(Me h:cv E g (.d e []) v),q⟩)
  .exact .inr (.inr ⟨n,t,e,xs,.c (.d e xs),h1,h2,λE g v hu hr=>hu v (show cv E g (.o n) v from hr).1,q⟩))
theorem FY {E E':Env} {g:World} {a b a' b':S1} (h1:∀ u,gw E g a u->gw E' g a' u) (h2:∀ u,gw E g b u->gw E' g b' u):∀ v,dq E g (.cZ [a,b]) v->dq E' g (.cZ [a',b']) v:=by
 rintro v ⟨us,⟨u,q,rfl,x1,⟨u2,q2,rfl,x2,x3⟩⟩,rfl⟩;exact ⟨_,⟨u,_,rfl,h1 u x1,u2,q2,rfl,h2 u2 x2,x3⟩,rfl⟩
theorem Wp.aff {e:Ty} (h:Wp I P f args H λsv H'=>Q sv H'\/(∃ x,sv= .cZ [.c (.k (.slice none 0 0)),.c (.k x)]/\Q (.cZ [.c (.d e []),.c (.k x)]) H')\/∃ (n:Nat) (t:TypeId) (xs:List e.den) (x:Value),sv= .cZ [.c (.o n),.c (.k x)]/\H.length<=n/\H'[n]?=some (.sl t e xs)/\Q (.cZ [.c (.d e xs),.c (.k x)]) (Lx n H')):Wp I P f args H Q:=
 Wp.akX (h.mono λsv H' q=>by
  rcases q with q| ⟨x,rfl,q⟩| ⟨n,t,xs,x,rfl,h1,h2,q⟩;exact .inl q;exact .inr (.inl ⟨.cZ [.c (.d e []),.c (.k x)],λE g=>FY (λu h=>(Me h:cv E g (.d e []) u)) λ_ h=>h,q⟩)
  .exact .inr (.inr ⟨n,t,e,xs,.cZ [.c (.d e xs),.c (.k x)],h1,h2,λE g v hu=>FY (E:=E) (E':=[]) (g:=g) (a:=.c (.o n)) (a':=.c (.d e xs)) (b:=.c (.k x)) (b':=.c (.k x)) (λu hr=>hu u (show cv E g (.o n) u from hr).1) (λ_ h=>h) v,q⟩))
theorem Wp.aav {p:Nat} {t tt:TypeId} {e:Ty} {cs1 cs2:List Cl} (hp:H[p]?=some (.cells t (cs1++ .k (.slice none 0 0)::cs2))) (h:Wp I P f args ((H.set p (.cells t (cs1++ .o H.length::cs2)))++ [.sl tt e []]) Q):Wp I P f args H Q:=Wp.beg λW E1 g1 w' F s1=>by
 have DU:=(av.1 hp).1;letI:=e.rep;have H2:=SL.zI e.den tt s1.sl;have hlen:E1.length=H.length:=s1.len;have he:bz E1 (E1++ [Value.slice none 0 0]):=bz.app _ _;have S1:Sat W (E1++ [Value.slice none 0 0]) g1 w' (H++ [.sl tt e []]) F:=Sat.push (o:=.sl tt e []) hlen (H2.cE λ_ ⟨k1,k2,ap,q,x1,x2⟩=>⟨k1,k2,ap,q,⟨_,by rw [<-hlen];simp,x1⟩,x2⟩);refine ⟨E1++ [.slice none 0 0],_,he,⟨?_,by simp [hlen]⟩,h⟩;have Zc:(H++ [HO.sl tt e []])[p]?=some (.cells t (cs1++ .k (.slice none 0 0)::cs2)):=by rw [aU DU];exact hp
 refine S1.sl.cE λk s=>?_;obtain ⟨k1,k2,ap,e2,⟨bb,us,hE,hrel,hblk⟩,s2⟩:=bt.r5 Zc s;obtain ⟨u1,u2,rfl,h1,⟨_,r,rfl,⟨rfl,_⟩,h3⟩⟩:=bB.split hrel;have hn:(E1++ [Value.slice none 0 0])[H.length]?=some (.slice none 0 0):=by rw [<-hlen];simp
 have s3:bt g1 (cJ (E1++ [Value.slice none 0 0]) p (.cells t (cs1++ .o H.length::cs2))::(bh (E1++ [Value.slice none 0 0]) 0 ((H++ [HO.sl tt e []]).set p .gone)++F)) k:=⟨k1,k2,ap,e2,⟨bb,_,hE,h1.app ⟨_,r,rfl,⟨hn,none,0,0,rfl⟩,h3⟩,hblk⟩,s2⟩;have s4:=bt.D8 (l:=p) (by simp;omega) s3;rw [List.set_set,List.set_append_left _ _ DU] at s4;exact s4
end
end Go.Lm

namespace Go.Proofs
open Go Go.Lm Go.RowKit
set_option maxRecDepth 1000000
abbrev Inv (_:cV):Prop:=True
def fq:List (Nat×Ty):=[(38,noTy),(96,dJ),(9,.str),(5,.u8),(44,am9),(3,.int .i64),(35,.sl .u8),(107,.int .u32)]
abbrev cM (f:FuncId) (c:Ct):Prop:=∀ args H Q,c args H Q->Wp Inv ck f args H Q
abbrev aeW (l:List SV->List SV):Prop:=∀ (E:Env) (g:World) (a b:List SV),(∀ us,bE E g a us->bE E g b us)->∀ us,bE E g (l a) us->bE E g (l b) us
theorem aeW.cons {l:List SV->List SV} (h:aeW l) (x:SV):aeW (λr=>l (x::r)):=λE g _ _ q=>h E g _ _ (bE.dd (λ_ h=>h) q)
def Oc (f:FuncId) (l:List SV->List SV) (c:Ct):Prop:=aeW l->∀ args H Q,c args H Q->Wp Inv ck f (l args) H Q
theorem fe {f:FuncId} {c:Ct} (h:Oc f (λr=>r) c):cM f c:=h λ_ _ _ _ q=>q
def cI (k:Int->Ct):Ct
 | .v (.c (.k (.int .i64 x)))::r,H,Q=>k x r H Q
 | _,_,_=>False
theorem nK {f:FuncId} {l:List SV->List SV} {k:Int->Ct} (h:∀ x:Int,Oc f (λr=>l (.v (.c (.k (.int .i64 x)))::r)) (k x)):Oc f l (cI k):=λhl args H Q q=>by
 unfold cI at q;split at q;exact h _ (hl.cons _) _ _ _ q;exact q.elim
def cB (k:Int->Ct):Ct
 | .v (.c (.k (.int .u8 x)))::r,H,Q=>k x r H Q
 | _,_,_=>False
theorem okB {f:FuncId} {l:List SV->List SV} {k:Int->Ct} (h:∀ x:Int,Oc f (λr=>l (.v (.c (.k (.int .u8 x)))::r)) (k x)):Oc f l (cB k):=λhl args H Q q=>by
 unfold cB at q;split at q;exact h _ (hl.cons _) _ _ _ q;exact q.elim
def cS (k:ByteArray->Ct):Ct
 | .v (.c (.k (.string x)))::r,H,Q=>k x r H Q
 | _,_,_=>False
theorem Yx {f:FuncId} {l:List SV->List SV} {k:ByteArray->Ct} (h:∀ x:ByteArray,Oc f (λr=>l (.v (.c (.k (.string x)))::r)) (k x)):Oc f l (cS k):=λhl args H Q q=>by
 unfold cS at q;split at q;exact h _ (hl.cons _) _ _ _ q;exact q.elim
def cT (k:List Int->Ct):Ct
 | .v (.c (.de (.int .u32) x 0 0))::r,H,Q=>k x r H Q
 | _,_,_=>False
theorem okT {f:FuncId} {l:List SV->List SV} {k:List Int->Ct} (h:∀ x:List Int,Oc f (λr=>l (.v (.c (.de (.int .u32) x 0 0))::r)) (k x)):Oc f l (cT k):=λhl args H Q q=>by
 unfold cT at q;split at q;exact h _ (hl.cons _) _ _ _ q;exact q.elim
def cP (k:Ct):Ct
 | .v (.c (.p 0 0))::r,H,Q=>k r H Q
 | _,_,_=>False
theorem rK {f:FuncId} {l:List SV->List SV} {k:Ct} (h:Oc f (λr=>l (.v (.c (.p 0 0))::r)) k):Oc f l (cP k):=λhl args H Q q=>by
 unfold cP at q;split at q;exact h (hl.cons _) _ _ _ q;exact q.elim
def cD (e:Ty) (k:List e.den->Ct):Ct
 | .v (.c c)::r,H,Q=>match (Ty.sl e).of [c] with
  | some (x,[])=>k x r H Q
  | _=>False
 | _,_,_=>False
theorem kC {f:FuncId} {l:List SV->List SV} {e:Ty} {k:List e.den->Ct} (h:∀ x,Oc f (λr=>l (.c (.d e x)::r)) (k x)):Oc f l (cD e k):=λhl args H Q q=>by
 unfold cD at q;split at q;rotate_left;exact q.elim;split at q;rotate_left;exact q.elim;rename_i hx;exact Wp.said (λE g=>hl E g _ _ (bE.dd (dR hx) (λ_ h=>h))) (h _ (hl.cons _) _ _ _ q)
def cN (e:Ty) (k:e.den->Ct):Ct
 | .v (.agg c)::r,H,Q=>match e.of c with
  | some (x,[])=>k x r H Q
  | _=>False
 | _,_,_=>False
theorem Va {f:FuncId} {l:List SV->List SV} {e:Ty} {k:e.den->Ct} (h:∀ x,Oc f (λr=>l (.v (.agg (Ty.cells e x))::r)) (k x)):Oc f l (cN e k):=λhl args H Q q=>by
 unfold cN at q;split at q;rotate_left;exact q.elim;split at q;rotate_left;exact q.elim;rename_i hx;exact Wp.said (λE g=>hl E g _ _ (bE.dd (IM hx) (λ_ h=>h))) (h _ (hl.cons _) _ _ _ q)
def c0 (k:(SV->List HO->Prop)->Prop):Ct
 | [],[],Q=>k Q
 | _,_,_=>False
theorem iB {f:FuncId} {l:List SV->List SV} {k:(SV->List HO->Prop)->Prop} (h:∀ Q,k Q->Wp Inv ck f (l []) [] Q):Oc f l (c0 k):=λhl args H Q q=>by
 unfold c0 at q;split at q;exact h _ q;exact q.elim
def cO (k:List HO->(SV->List HO->Prop)->Prop):Ct
 | [],H,Q=>k H Q
 | _,_,_=>False
theorem rM {f:FuncId} {l:List SV->List SV} {k:List HO->(SV->List HO->Prop)->Prop} (h:∀ H Q,k H Q->Wp Inv ck f (l []) H Q):Oc f l (cO k):=λhl args H Q q=>by
 unfold cO at q;split at q;exact h _ _ q;exact q.elim
def aaj:Ct:=c0 λQ=>Q (.arr .u32 dN) []
abbrev dE:=(SV->List HO->Prop)->Prop
structure XP where
 ct:List (Nat×Ct)
 ok:iG Inv ck ct
def XP.nil:XP:=⟨[],iG.nil _ _⟩
def XP.add (x:XP) {f:FuncId} {c:Ct} (w:cM f c):XP:=⟨(f,c)::x.ct,iG.cons w x.ok⟩
abbrev XP.v (x:XP) (ty:List (Nat×Ty)) (hold:List Nat:=[]) (ro:List Nat:=[]) (unr:List (Nat×Nat):=[]) (clo:Bool:=false) (cloH:Bool:=false) (pmT:List (Nat×Nat×Ty):=[]) (chk:List (Nat×Ty):=[]) (sfh:Bool:=false) (mkd:Bool:=false):Vx:= {P:=ck,ct:=x.ct,ty:=ty,hold:=hold,ro:=ro,unr:=unr,clo:=clo,cloH:=cloH,pmT:=pmT,chk:=chk,sfh:=sfh,mkd:=mkd}
theorem Wp.dL (x:XP) (ty:List (Nat×Ty)) {f:FuncId} (an:Eo) (fn:Func) {args:List SV} {H:List HO} {Q:SV->List HO->Prop} (V:dE) (h:V Q) (hold:List Nat:=[]) (ro:List Nat:=[]) (unr:List (Nat×Nat):=[]) (clo:Bool:=false) (cloH:Bool:=false) (pmT:List (Nat×Nat×Ty):=[]) (sfh:Bool:=false) (mkd:Bool:=false) (hf:Tryz.prog.funcs[f]?=some fn:=by kernel_rfl) (e:∀ Q,acT (x.v ty hold ro unr clo cloH pmT [] sfh mkd) an fn args H Q=V Q:=by intro _;kernel_rfl):Wp Inv ck f args H Q:=Wp.Qe (X:=x.v ty hold ro unr clo cloH pmT [] sfh mkd) x.ok an hf e h
def jr:=XP.nil
abbrev bc (y0:Int):=aA y0
abbrev eG (y0:List Int) (R:Prop):=List.length y0=bN/\R
abbrev cG (y0:Int) (R:Prop):=aI .i64 (y0+1)/\R
abbrev Ip (y0):=IntKind.wrap .u32 (di BinOp.and .u32 y0 a8*3988292384)
abbrev bu (R:Prop):=ah=ah/\R
abbrev oA:=(↑bN:Int)
def Ft:dE:=
 λQ=>ba (λi ag=>br (decide (i.1.1< 256)) (aI .u32 (IntKind.wrap .u32 i.1.1)->ba (λcu ag_1=>br (decide (cu.1.2.1< 8)) (ah<=a8/\(aI .u32 (kO .u32 cu.1.1 a8)->aI .u32 (di BinOp.and .u32 cu.1.1 
 a8)->aI .u32 (Ip cu.1.1)->aI .u32 (di BinOp.xor .u32 (kO .u32 cu.1.1 a8) (Ip cu.1.1))->cG cu.1.2.1 (ag_1 ((di BinOp.xor .u32 (kO .u32 cu.1.1 a8) (Ip cu.1.1),cu.1.2.1+1,()),())))) (bu (0 
 <=i.1.1/\i.1.1< oA/\i.1.1< (a6 i.2.1)/\0<=i.1.1/\i.1.1< (a6 i.2.1)/\cG i.1.1 (ag ((i.1.1+1,()),List.set i.2.1 (bc i.1.1) cu.1.1,()))))) ((IntKind.wrap .u32 i.1.1,ah,()),())) (bu (eG i.2.1 (bu 
 (bN=bN/\eG i.2.1 (bu (eG i.2.1 (Q (SV.arr .u32 i.2.1) [])))))))) ((ah,()),au bN (0:Ty.den (.int .u32)),())
theorem Be:cM 46 aaj:=fe<| iB λQ h=>by
 refine Wp.dL jr fq ⟨[(4,⟨[(4,.int .i64)],[(1,.sl 109 (.int .u32))]⟩),(8,⟨[(3,.int .u32),(9,.int .i64)],[]⟩)],[]⟩ Tryz.f46 Ft ?_;unfold Ft oA bu Ip cG eG bc ah a8 a6 bN;refine ba.intro (λi=>0<=i.1.1/\i.1.1<=256/\i.2.1=xn i.1.1.toNat) (λi=>256 - i.1.1.toNat) ⟨by simp,by simp,Qi⟩ ?_;rintro ⟨⟨i,_⟩,L,_⟩ ⟨h0,h1,h2⟩;simp only at h0 h1 h2 ⊢;subst h2;refine aw (λhc=>λ_=>?_) (λhc=>?_)
 .have hc:i< 256:=of_decide_eq_true hc;refine ba.intro (λj=>0<=j.1.2.1/\j.1.2.1<=8/\j.1.1=xo j.1.2.1.toNat (IntKind.wrap .u32 i)) (λj=>8 - j.1.2.1.toNat) ⟨by simp,by simp,rfl⟩ ?_;rintro ⟨⟨r,k,_⟩,_⟩ ⟨g0,g1,g2⟩;simp only at g0 g1 g2 ⊢;subst g2;refine aw (λhd=>⟨by omega,λ_ _ _ _=>⟨by unfold aI;have hd:k< 8:=of_decide_eq_true hd;omega,⟨by omega,by have hd:k< 8:=of_decide_eq_true hd;omega,?_⟩,by have hd:k< 8:=of_decide_eq_true hd;show 8 - (k+1).toNat< 8 - k.toNat;omega⟩⟩) (λhd=>?_)
  .show ZG (xo k.toNat _)=xo (k+1).toNat _;rw [show (k+1).toNat=k.toNat+1 by omega];rfl
  .have hd:¬k< 8:=of_decide_eq_false hd;have hl:(xn i.toNat).length=256:=GO _;refine ⟨trivial,h0,hc,by rw [hl];omega,h0,by rw [hl];omega,by unfold aI;omega,⟨by omega,by omega,?_⟩,by show 256 - (i+1).toNat< 256 - i.toNat;omega⟩;rw [show (i+1).toNat=i.toNat+1 by omega,show k.toNat=8 by omega];refine Eq.trans ?_ (Qj (by omega));unfold GP;rw [nG h0]
 .have hc:¬i< 256:=of_decide_eq_false hc;have e:i.toNat=256:=by omega
  rw [e];have hl:(xn 256).length=256:=GO _;refine ⟨trivial,hl,trivial,trivial,hl,trivial,hl,?_⟩;rw [Qk];exact h
def Hg:Ct
 | [.v (.c (.de (.int .u32) T 0 0)),.v (.c (.k (.int .u32 s))),.v (.c cb)],[],Q=>(match (Ty.sl Ty.u8).of [cb] with
  | some (b,[])=>T.length=256/\Q (.k (.int .u32 (cw T s b))) []
  | _=>False)
 | _,_,_=>False
def amr:=jr.add Be
abbrev Cw (y0) (y1:List (Ty.u8).den) (y2):=di BinOp.xor .u8 (IntKind.wrap .u8 y0) (↑(cF (aB Ty.u8 y1 y2)):Int)
abbrev Cv:=if eI .u32=true then (-1:Int) else ku .u32
abbrev dv (y0:List (Ty.u8).den):=List.length y0
abbrev yl (y0:List (Ty.u8).den) (y1):=(↑(cF (aB Ty.u8 y0 y1)):Int)
abbrev qC (y0:Int):=IntKind.wrap .u8 y0
def BA (T:List Int) (s:Int) (b:(List (Ty.u8).den)):dE:=λQ=>aI .u32 s->aN (dv b)->aI .u32 (di BinOp.xor .u32 Cv s)->aN (dv b)->ba (λi ag=>br (decide (i.1.1< (aF b))) (0<=i.1.1/\i.1.1< (aF b)/\(Ty.ok Ty.u8 (aB Ty.u8 b i.1.1)->ah<=iA/\ 
 (aI .u32 (kO .u32 i.1.2.1 iA)->aI .u8 (qC i.1.2.1)->aI .u8 (Cw i.1.2.1 b i.1.1)->bu (0<=di BinOp.xor .u8 (qC i.1.2.1) (yl b i.1.1)/\di BinOp.xor .u8 (qC i.1.2.1) (yl b i.1.1)< oA/\di 
 BinOp.xor .u8 (qC i.1.2.1) (yl b i.1.1)< (aF T)/\(Ty.ok (.int .u32) (aB (.int .u32) T (Cw i.1.2.1 b i.1.1))->aI .u32 (di BinOp.xor .u32 (kO .u32 i.1.2.1 iA) (aB (.int .u32) T (Cw i.1.2.1 b i.1.1)))->cG 
 i.1.1 (ag ((i.1.1+1,di BinOp.xor .u32 (kO .u32 i.1.2.1 iA) (aB (.int .u32) T (Cw i.1.2.1 b i.1.1)),()),()))))))) (aI .u32 (di BinOp.xor .u32 Cv i.1.2.1)->Q (.v (.c (.k (.int .u32 (di BinOp.xor .u32 Cv 
 i.1.2.1))))) [])) ((ah,di BinOp.xor .u32 Cv s,()),())
theorem Ut:cM 145 Hg:=by
 intro args H Q h;unfold Hg at h;split at h;rotate_left;cases h;rename_i T s cb;split at h;rotate_left;cases h;rename_i b hb;refine Wp.said (args':=[.v (.c (.de (.int .u32) T 0 0)),.k (.int .u32 s),.c (.d Ty.u8 b)]) (λE g=>bE.dd (λ_ h=>h) (bE.dd (λ_ h=>h) (bE.dd (dR hb) (λ_ h=>h)))) ?_;clear hb;refine Wp.dL amr fq ⟨[(4,⟨[(14,.int .i64),(7,.int .u32)],[]⟩)],[]⟩ Tryz.f145 (BA T s b) ?_;unfold BA oA qC yl bu dv Cv Cw cG ah iA aF aN bN;obtain ⟨hT,h⟩:=h;intro _ _ _ _;refine ba.intro (λi=>0<=i.1.1/\i.1.1<=b.length/\i.1.2.1=Th T (Jx s) (b.take i.1.1.toNat)) (λi=>b.length - i.1.1.toNat) ⟨by simp,by simp,by simp [Th];rfl⟩ ?_;rintro ⟨⟨i,r,_⟩,_⟩ ⟨h0,h1,h2⟩;simp only at h0 h1 h2 ⊢;subst h2;refine aw (λhc=>?_) (λhc=>?_)
 .have hc:i< (b.length:Int):=of_decide_eq_true hc;refine ⟨h0,hc,λ_=>⟨by omega,λ_ _ hx=>?_⟩⟩;obtain ⟨hx0,hx1⟩:=hx;refine ⟨trivial,hx0,by omega,by omega,λ_ _=>⟨by unfold aI;omega,⟨by omega,by omega,?_⟩,by omega⟩⟩;rw [show (i+1).toNat=i.toNat+1 by omega,bZ (by omega)];unfold Th;rw [List.foldl_append];have e:aB .u8 b i=b[i.toNat]'(by omega):=by
   unfold aB;rw [aP,ak (by omega)];rfl
  rw [e];rfl
 .have hc:¬i< (b.length:Int):=of_decide_eq_false hc;rw [aV (by omega)];exact λ_=>h
def aai:Ct:=cT λT=>cD .u8 λb=>c0 λQ=>T.length=256/\Q (.k (.int .u32 (cw T 0 b))) []
def amq:=amr.add Ut
abbrev cW (y0:List (Ty.u8).den) (R:Prop):=List.length y0<=9223372036854775807->R
def Fs (T:List Int) (b:(List (Ty.u8).den)):dE:=λQ=>cW b (eG T (aI .u32 (cw T ah b)->Q (.v (.c (.k (.int .u32 (cw T ah b))))) []))
theorem Xa:cM 95 aai:=fe<| okT λT=>kC λb=>iB λQ h=>by
 refine Wp.dL amq fq ⟨[],[]⟩ Tryz.f95 (Fs T b) ?_;unfold Fs eG cW ah bN;intro _;exact ⟨h.1,λ_=>h.2⟩
def TH:Ct:=cP<| cI λe=>cO λH Q=>match H with
 | [.cells 187 [.k (.int .i64 c),.d .u8 b]]=>Q .tH [.cells 187 [.k (.int .i64 (nD c e)),.d .u8 (b)]]
 | _=>False
def ajw:=amq.add Xa
abbrev aE (y0:Int):Value:=.int .i64 y0
def Li (e c:Int) (b:List UInt8):dE:=λQ=>aI .i64 e->br (c==0) (Q (SV.cZ []) [.cells 187 [.k (aE e),Cl.d Ty.u8 b]]) (Q (SV.cZ []) [.cells 187 [.k (aE c),Cl.d Ty.u8 b]])
theorem Q1:cM 138 TH:=fe<| rK<| nK λe=>rM λH Q h=>by
 split at h;rotate_left;cases h;rename_i c b;refine Wp.dL ajw fq ⟨[],[]⟩ Tryz.f138 (Li e c b) ?_;unfold Li aE;intro _;refine aw (λhc=>?_) (λhc=>?_)
 .have hc:c=0:=eq_of_beq hc;rw [nD,if_pos hc] at h;exact h
 .have hc:¬c=0:=λe0=>by rw [e0] at hc;cases hc
  rw [nD,if_neg hc] at h;exact h
def TG:Ct:=cP<| cI λe=>cO λH Q=>match H with
 | [.cells 174 [.k (.int .i64 c),.o 1],.sl 5 .u8 x]=>Q .tH [.cells 174 [.k (.int .i64 (nD c e)),.o 1],.sl 5 .u8 (x)]
 | _=>False
def aoM:=ajw.add Q1
abbrev Cn (y0:SV->List HO->Prop) (y1:Int) (y2:List UInt8):=y0 (SV.cZ []) [.cells 174 [.k (aE y1),.o 1],.sl 5 Ty.u8 y2]
def Lh (e c:Int) (x:List UInt8):dE:=λQ=>aI .i64 e->br (c==0) (Cn Q e x) (Cn Q c x)
theorem acK:cM 138 TG:=fe<| rK<| nK λe=>rM λH Q h=>by
 split at h;rotate_left;cases h;rename_i c x;refine Wp.dL aoM fq ⟨[],[]⟩ Tryz.f138 (Lh e c x) ?_;unfold Lh Cn aE;intro _;refine aw (λhc=>?_) (λhc=>?_)
 .have hc:c=0:=eq_of_beq hc;rw [nD,if_pos hc] at h;exact h
 .have hc:¬c=0:=λe0=>by rw [e0] at hc;cases hc
  rw [nD,if_neg hc] at h;exact h
def aac:Ct:=λargs H Q=>match H with
 | [.cells _ [_,.d _ _]]=>TH args H Q
 | [.cells _ [_,.o _],_]=>TG args H Q
 | _=>False
theorem ahm:cM 138 aac:=λargs H Q h=>by
 unfold aac at h;split at h;exact Q1 _ _ _ h;exact acK _ _ _ h;cases h
def aae:Ct:=cP<| cO λH Q=>match H with
 | [.cells 187 [.k (.int .i64 c),.d .u8 b]]=>Q (.int c) [.cells 187 [.k (.int .i64 (c)),.d .u8 (b)]]
 | _=>False
def ajv:=ajw.add ahm
abbrev gZ (y0:Int):SV:=.v (.c (.k (aE y0)))
def RC (c:Int) (b:List UInt8):dE:=λQ=>Q (gZ c) [.cells 187 [.k (aE c),Cl.d Ty.u8 b]]
theorem W8:cM 88 aae:=fe<| rK<| rM λH Q h=>by
 split at h;rotate_left;cases h;rename_i c b;refine Wp.dL ajv fq ⟨[],[]⟩ Tryz.f88 (RC c b) ?_;unfold RC gZ aE;exact h
def aad:Ct:=cP<| cO λH Q=>match H with
 | [.cells 174 [.k (.int .i64 c),.o 1],.sl 5 .u8 x]=>Q (.int c) [.cells 174 [.k (.int .i64 (c)),.o 1],.sl 5 .u8 (x)]
 | _=>False
def amn:=ajv.add W8
def RA (c:Int) (x:List UInt8):dE:=λQ=>Q (gZ c) [.cells 174 [.k (aE c),.o 1],.sl 5 Ty.u8 x]
theorem W7:cM 88 aad:=fe<| rK<| rM λH Q h=>by
 split at h;rotate_left;cases h;rename_i c x;refine Wp.dL amn fq ⟨[],[]⟩ Tryz.f88 (RA c x) ?_;unfold RA gZ aE;exact h
def aaf:Ct:=cP<| cO λH Q=>match H with
 | [.cells 174 [.k (.int .i64 c),.k (.slice none 0 0)]]=>Q (.int c) [.cells 174 [.k (.int .i64 c),.k (.slice none 0 0)]]
 | _=>False
def aoL:=amn.add W7
abbrev cA:Value:=.slice none 0 0
def RD (c:Int):dE:=λQ=>Q (gZ c) [.cells 174 [.k (aE c),.k cA]]
theorem ahn:cM 88 aaf:=fe<| rK<| rM λH Q h=>by
 split at h;rotate_left;cases h;rename_i c;refine Wp.dL aoL fq ⟨[],[]⟩ Tryz.f88 (RD c) ?_;unfold RD gZ cA aE;exact h
def afP:Ct:=λargs H Q=>match H with
 | [.cells _ [_,.d _ _]]=>aae args H Q
 | [.cells _ [_,.o _],_]=>aad args H Q
 | [.cells _ [_,.k _]]=>aaf args H Q
 | _=>False
theorem akE:cM 88 afP:=λargs H Q h=>by
 unfold afP at h;split at h;exact W8 _ _ _ h;exact W7 _ _ _ h;exact ahn _ _ _ h;cases h
def Qx:Ct
 | [.v (.c (.o 0))],[.sl 5 .u8 x],Q=>x.length<=140737488355328/\Q (.c (.d .u8 x)) [.sl 5 .u8 x]
 | _,_,_=>False
def aju:=ajv.add akE
abbrev cC:=(140737488355328:Nat)
abbrev gf:SV:=.v (.c (.k cA))
abbrev Iu (y0:List UInt8) (y1:SV->List HO->Prop):=(0+List.length y0)*1<=cC/\0+List.length y0<=9223372036854775807/\y1 (SV.v (S1.c (.o 1))) [.sl 5 Ty.u8 y0,.sl 5 Ty.u8 ([]++y0)]
abbrev lJ (y0:Bool):=if true=true then y0 else !y0
def RG (x:List UInt8):dE:=λQ=>∀ (c:Bool),(c=true->x= [])->br (lJ c) (Q gf [.sl 5 Ty.u8 x]) (Iu x Q)
theorem Xh:cM 38 Qx:=by
 intro args H Q h;unfold Qx at h;split at h;rotate_left;cases h;rename_i x;refine Wp.IL (e:=.u8) ?_;refine Wp.dL aju fq ⟨[],[]⟩ Tryz.f38 (RG x) ?_;unfold RG lJ Iu gf cC cA;obtain ⟨hl,h⟩:=h;refine λc hc=>aw (λhb=>.inr (.inl ⟨rfl,?_⟩)) (λhb=>⟨by omega,by omega,.inr (.inr ⟨1,5,x,rfl,az 1,rfl,h⟩)⟩);rw [hc hb] at h ⊢;exact h
def aao:Ct:=cD .u8 λx=>c0 λQ=>x.length<=140737488355328/\Q (.c (.d .u8 x)) []
def amp:=aju.add Xh
abbrev zP (y0:List (Ty.u8).den) (y1:SV->List HO->Prop):=(∀ (c:Bool),(c=true->y0= [])->br (if true=true then c else !c) (y1 (.v (.c (.k cA))) []) ((0+List.length y0)*1<=cC/\0+List.length y0<=9223372036854775807/\y1 (SV.v (S1.c (.o 0))) [.sl 5 Ty.u8 ([]++y0)]))
def RJ (x:(List (Ty.u8).den)):dE:=λQ=>cW x (zP x Q)
theorem Xi:cM 38 aao:=fe<| kC λx=>iB λQ h=>by
 refine Wp.IL (e:=.u8) ?_;refine Wp.dL amp fq ⟨[],[]⟩ Tryz.f38 (RJ x) ?_;unfold RJ zP cC cW cA;obtain ⟨hl,h⟩:=h;refine λ_ c hc=>aw (λhb=>.inr (.inl ⟨rfl,?_⟩)) (λhb=>⟨by omega,by omega,.inr (.inr ⟨0,5,x,rfl,az 0,rfl,h⟩)⟩);rw [hc hb] at h;exact h
def afS:Ct:=λargs H Q=>match H with
 | []=>aao args H Q
 | [_]=>Qx args H Q
 | _=>False
theorem akH:cM 38 afS:=λargs H Q h=>by
 unfold afS at h;split at h;exact Xi _ _ _ h;exact Xh _ _ _ h;cases h
def aiW:Ct:=cD .u8 λb=>c0 λQ=>b.length<=140737488355328/\Q (.c (.p 0 0)) [.cells 187 [.k (.int .i64 (0)),.d .u8 (b)]]
def agL:=aju.add akH
abbrev bn:Value:=.int .i64 0
def Rg (b:(List (Ty.u8).den)):dE:=λQ=>cW b (fp (dv b)/\(aN (dv b)->Q (SV.v (S1.c (.p 0 0))) [.cells 187 [.k bn,Cl.d Ty.u8 b]]))
theorem ag4:cM 97 aiW:=fe<| kC λb=>iB λQ h=>by
 refine Wp.dL agL fq ⟨[],[]⟩ Tryz.f97 (Rg b) ?_;unfold Rg dv cW bn fp aN;intro _;exact ⟨h.1,λ_=>h.2⟩
def ZV:Ct:=cP<| cI λn=>cO λH Q=>match H with
 | [.cells 187 [.k (.int .i64 c),.d .u8 b]]=>c=0/\0<=n/\b.length<=140737488355328/\Q (.c (.d .u8 (jm b n))) [.cells 187 [.k (.int .i64 (F5 b n)),.d .u8 (kT b n)]]
 | _=>False
def agK:=agL.add ag4
abbrev dj (y0:Int):=decide (y0< 0)
abbrev db (y0:List UInt8) (R:Prop):=aN (List.length y0)->R
abbrev ma (y0:Int) (y1:List UInt8):=List.take (bc y0) y1
abbrev vl (y0:Int) (y1:List UInt8):=List.length (ma y0 y1)
abbrev qD (y0:Int) (y1:List UInt8):=List.drop (bc y0) y1
def EO (n c:Int) (b:List UInt8):dE:=λQ=>aI .i64 n->br (dj n) (br (nD c a8 !=0) (Q gf [.cells 187 [.k (.int .i64 (nD c a8)),Cl.d Ty.u8 b]]) (0<=n/\n<=(aF b)/\fp (vl n b)/\(aN (vl n b)->0<=n/\n<=(aF b)/\Q (SV.v (S1.c 
 (Cl.d Ty.u8 (ma n b)))) [.cells 187 [.k (.int .i64 (nD c a8)),Cl.d Ty.u8 (qD n b)]]))) (db b (br (decide (n>(aF b))) (br (nD c du !=0) (Q gf [.cells 187 [.k (.int .i64 (nD c du)),Cl.d Ty.u8 b]]) (0<= 
 n/\n<=(aF b)/\fp (vl n b)/\(aN (vl n b)->0<=n/\n<=(aF b)/\Q (SV.v (S1.c (Cl.d Ty.u8 (ma n b)))) [.cells 187 [.k (.int .i64 (nD c du)),Cl.d Ty.u8 (qD n b)]]))) (br (c !=0) (Q gf [.cells 187 [.k 
 (aE c),Cl.d Ty.u8 b]]) (0<=n/\n<=(aF b)/\fp (vl n b)/\(aN (vl n b)->0<=n/\n<=(aF b)/\Q (SV.v (S1.c (Cl.d Ty.u8 (ma n b)))) [.cells 187 [.k (aE c),Cl.d Ty.u8 (qD n b)]])))))
theorem WG:cM 98 ZV:=fe<| rK<| nK λn=>rM λH Q h=>by
 split at h;rotate_left;cases h;rename_i c b;refine Wp.IL (e:=.u8) ?_;refine Wp.dL agK fq ⟨[],[]⟩ Tryz.f98 (EO n c b) ?_;unfold EO qD vl gf ma db dj cA bc aE a8 du aF fp aN;obtain ⟨rfl,h0,hb,h⟩:=h;unfold jm F5 kT at h;refine λ_=>aw (λhc=>?_) (λ_=>λ_=>aw (λhc=>?_) (λhc=>?_))
 .have hc:n< 0:=of_decide_eq_true hc;omega
 .have hc:n>(b.length:Int):=of_decide_eq_true hc;rw [if_pos hc,if_pos hc,if_pos hc] at h;exact aw (λ_=>.inr (.inl ⟨rfl,h⟩)) (λhd=>nomatch hd)
 .have hc:¬n>(b.length:Int):=of_decide_eq_false hc;rw [if_neg hc,if_neg hc,if_neg hc] at h;exact aw (λhd=>nomatch hd) (λ_=>⟨h0,by omega,by rw [aD];omega,λ_=>⟨h0,by omega,.inl h⟩⟩)
def aiV:Ct:=cP<| cI λn=>cO λH Q=>match H with
 | [.cells 187 [.k (.int .i64 c),.d .u8 b]]=>c=0/\1<=n/\n<=4/\n<=b.length/\b.length<=140737488355328/\Q (.int (bM (b.take n.toNat))) [.cells 187 [.k (.int .i64 (0)),.d .u8 (b.drop n.toNat)]]
 | _=>False
def agJ:=agK.add WG
abbrev bQ {A0:Type} (y0:List A0):=List.length y0
abbrev Iy (y0) (y1:Int) (y2):=Aq .i64 (↑(cF (aB Ty.u8 (jm y0 y1) y2)):Int) (iA*y2)
abbrev sA (y0:_->Prop) (y1:Int) (y2:List UInt8):=y0 ((),(nD y1 a8,y2,()),())
abbrev Cd (y0:Int) (R:Prop):=aI .i64 (iA*y0)/\ah<=iA*y0/\R
def Rf (n c:Int) (b:List UInt8):dE:=λQ=>aI .i64 n->cY (λk=>br (decide (n< 1)) (sA k c b) (br (decide (n>4)) (sA k c b) (k ((),(c,b,()),())))) λi=>i.2.1.1=ah/\0<=n/\fp (bQ i.2.1.2.1)/\(aN (List.length (jm i.2.1.2.1 
 n))->aN (List.length (jm i.2.1.2.1 n))->ba (λcu ag=>br (decide (cu.1.1< (a6 (jm i.2.1.2.1 n)))) (0<=cu.1.1/\cu.1.1< (a6 (jm i.2.1.2.1 n))/\(Ty.ok Ty.u8 (aB Ty.u8 (jm i.2.1.2.1 n) cu.1.1)->Cd 
 cu.1.1 (aI .i64 (Iy i.2.1.2.1 n cu.1.1)->aI .i64 (di BinOp.or .i64 cu.1.2.1 (Iy i.2.1.2.1 n cu.1.1))->cG cu.1.1 (ag ((cu.1.1+1,di BinOp.or .i64 cu.1.2.1 (Iy i.2.1.2.1 n cu.1.1),()),()))))) (Q (gZ 
 cu.1.2.1) [.cells 187 [.k (.int .i64 (F5 i.2.1.2.1 n)),Cl.d Ty.u8 (kT i.2.1.2.1 n)]])) ((ah,ah,()),()))
theorem ag3:cM 99 aiV:=fe<| rK<| nK λn=>rM λH Q h=>by
 split at h;rotate_left;cases h;rename_i c b;refine Wp.dL agJ fq ⟨[(6,⟨[(22,.int .i64),(5,.int .i64)],[]⟩)],[(4,⟨[],[(0,.cells 187 [.int .i64,.d .u8])]⟩)]⟩ Tryz.f99 (Rf n c b) ?_;unfold Rf Cd sA gZ Iy cG bQ aE ah a8 iA a6 fp aN;obtain ⟨rfl,h1,h4,hb,hl,h⟩:=h;intro _;refine cY.intro (λi=>i.2.1.1=0/\i.2.1.2.1=b) (aw (λhc=>?_) (λ_=>aw (λhc=>?_) (λ_=>⟨rfl,rfl⟩))) ?_
 .have hc:n< 1:=of_decide_eq_true hc;omega
 .have hc:n>4:=of_decide_eq_true hc;omega
 rintro ⟨_,⟨c,b',_⟩,_⟩ ⟨rfl,e⟩;simp only at e ⊢;subst e;have hn:¬n>(b'.length:Int):=by omega
 rw [show jm b' n=b'.take n.toNat by unfold jm;rw [if_neg hn],show F5 b' n=0 by unfold F5;rw [if_neg hn],show kT b' n=b'.drop n.toNat by unfold kT;rw [if_neg hn]];have hlen:(b'.take n.toNat).length=n.toNat:=by rw [aD];omega
 refine ⟨trivial,by omega,hl,λ_ _=>?_⟩;generalize hz:b'.take n.toNat=z at h hlen ⊢;refine ba.intro (λj=>0<=j.1.1/\j.1.1<=z.length/\j.1.2.1=bM (z.take j.1.1.toNat)) (λj=>z.length - j.1.1.toNat) ⟨by simp,by simp,rfl⟩ ?_;rintro ⟨⟨i,r,_⟩,_⟩ ⟨g0,g1,g2⟩;simp only at g0 g1 g2 ⊢;subst g2;refine aw (λhc=>?_) (λhc=>?_)
 .have hc:i< (z.length:Int):=of_decide_eq_true hc;refine ⟨g0,hc,λ_=>⟨by unfold aI;omega,by omega,λ_ _=>⟨by unfold aI;omega,⟨by omega,by omega,?_⟩,by omega⟩⟩⟩;have eJ:(z.take i.toNat).length=i.toNat:=by rw [aD];omega
  rw [Yt g0 (by omega) (CN _) (by have:=YT (z.take i.toNat);rw [eJ] at this;exact this)];rw [show (i+1).toNat=i.toNat+1 by omega,bZ (by omega),SD,eJ];have e:aB .u8 z i=z[i.toNat]'(by omega):=by
   unfold aB;rw [aP,ak (by omega)];rfl
  rw [e]
 .have hc:¬i< (z.length:Int):=of_decide_eq_false hc;rw [aV (by omega)];exact h
def aeu:Ct:=cP<| cO λH Q=>match H with
 | [.cells 187 [.k (.int .i64 c),.d .u8 b]]=>c=0/\Q (.int b.length) [.cells 187 [.k (.int .i64 (0)),.d .u8 (b)]]
 | _=>False
def agI:=agJ.add ag3
def KL (c:Int) (b:List UInt8):dE:=λQ=>br (c !=0) (Q (.v (.c (.k bn))) [.cells 187 [.k (aE c),Cl.d Ty.u8 b]]) (db b (Q (.v (.c (.k (.int .i64 (aF b))))) [.cells 187 [.k (aE c),Cl.d Ty.u8 b]]))
theorem acn:cM 100 aeu:=fe<| rK<| rM λH Q h=>by
 split at h;rotate_left;cases h;rename_i c b;refine Wp.dL agI fq ⟨[],[]⟩ Tryz.f100 (KL c b) ?_;unfold KL db bn aE aF aN;obtain ⟨rfl,h⟩:=h;exact aw (λhd=>nomatch hd) (λ_ _=>h)
def aet:Ct:=cP<| cO λH Q=>match H with
 | [.cells 187 [.k (.int .i64 c),.d .u8 b]]=>c=0/\(∃ z r,b=z::r/\z.toNat<=r.length/\b.length<=140737488355328/\Q (.str (gk (r.take z.toNat))) [.cells 187 [.k (.int .i64 (0)),.d .u8 (r.drop z.toNat)]])
 | _=>False
def agH:=agI.add acn
abbrev yj (y0:List UInt8):=bM (List.take bJ y0)
def KK (c:Int) (b:List UInt8):dE:=λQ=>c=ah/\a8<=a8/\a8<=cH/\a8<=(aF b)/\fp (List.length b)/\(aI .i64 (yj b)->bu (0<=bM (List.take bJ b)/\fp (List.length (List.drop 1 b))/\(aN (List.length (jm (List.drop 1 b) 
 (yj b)))->Q (.v (.c (.k (.string (gk (jm (List.drop 1 b) (yj b))))))) [.cells 187 [.k (.int .i64 (F5 (List.drop 1 b) (yj b))),Cl.d Ty.u8 (kT (List.drop 1 b) (yj b))]])))
theorem acm:cM 199 aet:=fe<| rK<| rM λH Q h=>by
 split at h;rotate_left;cases h;rename_i c b;refine Wp.dL agH fq ⟨[],[]⟩ Tryz.f199 (KK c b) ?_;unfold KK yj bu ah a8 cH aF fp aN bJ;obtain ⟨rfl,z,r,rfl,hz,hl,h⟩:=h;have e1:bM (List.take 1 (z::r))=(z.toNat:Int):=by show (z.toNat:Int)+256*0=_;omega
 rw [e1];have hn:¬(z.toNat:Int)>(r.length:Int):=by omega
 refine ⟨rfl,by omega,by omega,by simp only [aq];omega,hl,λ_=>⟨rfl,by omega,?_,λ_=>?_⟩⟩
 .have:(List.drop 1 (z::r)).length=r.length:=rfl;simp only [aq] at hl;omega
 .show Q (.str (gk (jm r _))) [.cells _ [.k (.int .i64 (F5 r _)),.d .u8 (kT r _)]];rw [show jm r (z.toNat:Int)=r.take z.toNat by unfold jm;rw [if_neg hn];rfl,show F5 r (z.toNat:Int)=0 by unfold F5;rw [if_neg hn],show kT r (z.toNat:Int)=r.drop z.toNat by unfold kT;rw [if_neg hn];rfl];exact h
def aiX:Ct:=cP<| cO λH Q=>match H with
 | [.cells 187 [.k (.int .i64 c),.d .u8 b]]=>c=0/\b= []/\Q (.int 0) [.cells 187 [.k (.int .i64 (0)),.d .u8 ([])]]
 | _=>False
def agG:=agH.add acm
def Rh (c:Int) (b:List UInt8):dE:=λQ=>List.length b<=9223372036854775807->br (decide ((aF b)>ah)) (Q (.v (.c (.k (.int .i64 (nD c du))))) [.cells 187 [.k (.int .i64 (nD c du)),Cl.d Ty.u8 b]]) (Q (gZ c) [.cells 187 [.k (aE c),Cl.d Ty.u8 
 b]])
theorem ag5:cM 227 aiX:=fe<| rK<| rM λH Q h=>by
 split at h;rotate_left;cases h;rename_i c b;refine Wp.dL agG fq ⟨[],[]⟩ Tryz.f227 (Rh c b) ?_;unfold Rh gZ aE ah du aF;obtain ⟨rfl,rfl,h⟩:=h;exact λ_=>aw (λhd=>nomatch hd) (λ_=>h)
def JE:Ct:=cP<| cI λm=>cI λn=>cO λH Q=>match H with
 | [.cells 174 [.k (.int .i64 c),.o 1],.sl 5 .u8 x]=>c=0/\(1<=n/\n<=4)/\(0<=m/\m< 256 ^ n.toNat)/\x.length<=100000000000/\Q .tH [.cells 174 [.k (.int .i64 (0)),.o 2],.gone,.sl 5 .u8 (x++aJ n.toNat m.toNat)]
 | _=>False
def aaU:=agG.add ag5
abbrev cn (y0:Int) (y1:Int) (R:Prop):=aI .i64 y0->aI .i64 y1->R
abbrev Co (y0:Int) (y1):=IntKind.wrap .u8 (kO .i64 y0 (iA*y1))
def KC (m n c:Int) (x:List UInt8):dE:=λQ=>cn m n (cY (λk=>br (decide (n< 1)) (sA k c x) (br (decide (n>4)) (sA k c x) (br (dj m) (sA k c x) (Cd n (aI .i64 (kO .i64 m (iA*n))->br (kO .i64 m (iA*n) !=0) (sA k c 
 x) (k ((),(c,x,()),()))))))) λi=>ba (λi ag=>br (decide (i.1.1< n)) (br (i.2.1.1==0) (Cd i.1.1 (aI .i64 (kO .i64 m (iA*i.1.1))->aI .u8 (Co m i.1.1)->(List.length i.2.1.2.1+List.length [ax 
 (aA (Co m i.1.1))])*1<=cC/\List.length i.2.1.2.1+List.length [ax (aA (Co m i.1.1))]<=9223372036854775807/\cG i.1.1 (ag ((i.1.1+1,()),(i.2.1.1,i.2.1.2.1++ [ax (aA (Co m 
 i.1.1))],()),())))) (Q (SV.cZ []) [.cells 174 [.k (aE i.2.1.1),.o 2],.gone,.sl 5 Ty.u8 i.2.1.2.1])) (Q (SV.cZ []) [.cells 174 [.k (aE i.2.1.1),.o 2],.gone,.sl 5 Ty.u8 i.2.1.2.1])) ((ah,()),i.2))
theorem Hv:cM 86 JE:=fe<| rK<| nK λm=>nK λn=>rM λH Q h=>by
 split at h;rotate_left;cases h;rename_i c x;refine Wp.dL aaU fq ⟨[(4,⟨[(6,.int .i64)],[(0,.cells 174 [.int .i64,.own 5 .u8])]⟩)],[(3,⟨[],[(0,.cells 174 [.int .i64,.own 5 .u8])]⟩)]⟩ Tryz.f86 (KC m n c x) ?_;unfold KC Cd Co sA dj cn cG cC aE ah a8 iA;obtain ⟨rfl,⟨h1,h4⟩,⟨m0,m1⟩,hl,h⟩:=h;intro _ _;refine cY.intro (λi=>i.2.1.1=0/\i.2.1.2.1=x) (aw (λhc=>?_) (λ_=>aw (λhc=>?_) (λ_=>aw (λhc=>?_) (λ_=>⟨by unfold aI;omega,by omega,λ_=>aw (λhc=>?_) (λ_=>⟨rfl,rfl⟩)⟩)))) ?_
 .have hc:n< 1:=of_decide_eq_true hc;omega
 .have hc:n>4:=of_decide_eq_true hc;omega
 .have hc:m< 0:=of_decide_eq_true hc;omega
 .rw [XS m0 h1 h4 m1] at hc;cases hc
 rintro ⟨_,⟨c,x',_⟩,_⟩ ⟨rfl,e⟩;simp only at e ⊢;subst e;refine ba.intro (λj=>0<=j.1.1/\j.1.1<=n/\j.2.1.1=0/\j.2.1.2.1=x'++aJ j.1.1.toNat m.toNat) (λj=>(n - j.1.1).toNat) ⟨by simp,by show (0:Int)<=n;omega,rfl,by simp [aJ]⟩ ?_;rintro ⟨⟨i,_⟩,⟨c,y,_⟩,_⟩ ⟨g0,g1,rfl,g3⟩;simp only at g0 g1 g3 ⊢;subst g3;refine aw (λhc=>aw (λ_=>?_) (λhd=>nomatch hd)) (λhc=>?_)
 .have hc:i< n:=of_decide_eq_true hc;have hy:(x'++aJ i.toNat m.toNat).length=x'.length+i.toNat:=by rw [af,aC]
  refine ⟨by unfold aI;omega,by omega,λ_ _=>⟨by rw [hy,ay];omega,by rw [hy,ay];omega,by unfold aI;omega,⟨by omega,by omega,trivial,?_⟩,by omega⟩⟩;rw [aeO m0 g0 (by omega),aH,<-Gs,show (i+1).toNat=i.toNat+1 by omega]
 .have hc:¬i< n:=of_decide_eq_false hc;rw [show i=n by omega];exact h
def zb:Ct:=cP<| cD .u8 λb=>cO λH Q=>match H with
 | [.cells 174 [.k (.int .i64 c),.o 1],.sl 5 .u8 x]=>c=0/\x.length<=100000000000/\b.length<=100000000/\Q .tH [.cells 174 [.k (.int .i64 (0)),.o 2],.gone,.sl 5 .u8 (x++b)]
 | _=>False
def amo:=aaU.add Hv
abbrev yz (y0:List UInt8) (y1:List (Ty.u8).den) (R:Prop):=(List.length y0+List.length y1)*1<=cC/\List.length y0+List.length y1<=9223372036854775807/\R
def Bf (b:(List (Ty.u8).den)) (c:Int) (x:List UInt8):dE:=λQ=>cW b (br (c==0) (yz x b (Q (SV.cZ []) [.cells 174 [.k (aE c),.o 2],.gone,.sl 5 Ty.u8 (x++b)])) (Cn Q c x))
theorem Eu:cM 92 zb:=fe<| rK<| kC λb=>rM λH Q h=>by
 split at h;rotate_left;cases h;rename_i c x;refine Wp.dL amo fq ⟨[],[]⟩ Tryz.f92 (Bf b c x) ?_;unfold Bf Cn yz cC cW aE;obtain ⟨rfl,h1,h2,h⟩:=h;exact λ_=>aw (λ_=>⟨by omega,by omega,h⟩) (λhd=>nomatch hd)
def JF:Ct
 | [.v (.c (.p 0 0)),.v (.c (.k (.int .i64 m))),.v (.c (.k (.int .i64 n)))],[.cells 174 [.k (.int .i64 c),.k (.slice none 0 0)]],Q=>JE [.v (.c (.p 0 0)),.v (.c (.k (.int .i64 m))),.v (.c (.k (.int .i64 n)))] [.cells 174 [.k (.int .i64 c),.o 1],.sl 5 .u8 []] Q
 | _,_,_=>False
theorem acb:cM 86 JF:=λargs H Q h=>by
 unfold JF at h;split at h;exact Wp.aav (p:=0) (t:=174) (tt:=5) (e:=.u8) (cs1:=[.k (.int .i64 _)]) (cs2:=[]) rfl (Hv _ _ _ h);cases h
def ZO:Ct:=λargs H Q=>match H with
 | [.cells _ [_,.k _]]=>JF args H Q
 | [.cells _ [_,.o _],_]=>JE args H Q
 | _=>False
theorem agX:cM 86 ZO:=λargs H Q h=>by
 unfold ZO at h;split at h;exact acb _ _ _ h;exact Hv _ _ _ h;cases h
def zc:Ct
 | [.v (.c (.p 0 0)),b],[.cells 174 [.k (.int .i64 c),.k (.slice none 0 0)]],Q=>zb [.v (.c (.p 0 0)),b] [.cells 174 [.k (.int .i64 c),.o 1],.sl 5 .u8 []] Q
 | _,_,_=>False
theorem Uf:cM 92 zc:=λargs H Q h=>by
 unfold zc at h;split at h;exact Wp.aav (p:=0) (t:=174) (tt:=5) (e:=.u8) (cs1:=[.k (.int .i64 _)]) (cs2:=[]) rfl (Eu _ _ _ h);cases h
def NG:Ct:=λargs H Q=>match H with
 | [.cells _ [_,.k _]]=>zc args H Q
 | [.cells _ [_,.o _],_]=>zb args H Q
 | _=>False
theorem Wz:cM 92 NG:=λargs H Q h=>by
 unfold NG at h;split at h;exact Uf _ _ _ h;exact Eu _ _ _ h;cases h
def aem:Ct:=cP<| cO λH Q=>match H with
 | [.cells 174 [.k (.int .i64 c),.o 1],.sl 5 .u8 x]=>c=0/\x.length<=100000000000/\Q (.c (.d .u8 x)) [.cells 174 [.k (.int .i64 (0)),.o 1],.sl 5 .u8 (x)]
 | _=>False
def agF:=(aaU.add agX).add Wz
def KD (c:Int) (x:List UInt8):dE:=λQ=>br (c !=0) (Q gf [.cells 174 [.k (aE c),.o 1],.sl 5 Ty.u8 x]) (fp (List.length x)/\(db x (Q (SV.v (S1.c (Cl.d Ty.u8 x))) [.cells 174 [.k (aE c),.o 1],.sl 5 Ty.u8 x])))
theorem acd:cM 87 aem:=fe<| rK<| rM λH Q h=>by
 split at h;rotate_left;cases h;rename_i c x;refine Wp.dL agF fq ⟨[],[]⟩ Tryz.f87 (KD c x) ?_;unfold KD gf db cA aE fp aN;obtain ⟨rfl,hl,h⟩:=h;exact aw (λhd=>nomatch hd) (λ_=>⟨by omega,λ_=>h⟩)
def aiS:Ct:=cP<| cO λH Q=>match H with
 | [.cells 174 [.k (.int .i64 c),.o 1],.sl 5 .u8 x]=>c=0/\x.length<=100000000000/\Q (.int x.length) [.cells 174 [.k (.int .i64 (0)),.o 1],.sl 5 .u8 (x)]
 | _=>False
def agE:=agF.add acd
def Q9 (c:Int) (x:List UInt8):dE:=λQ=>c=ah/\List.length x<=100000000000/\(db x (db x (Q (.v (.c (.k (.int .i64 (aF x))))) [.cells 174 [.k bn,.o 1],.sl 5 Ty.u8 x])))
theorem agY:cM 96 aiS:=fe<| rK<| rM λH Q h=>by
 split at h;rotate_left;cases h;rename_i c x;refine Wp.dL agE fq ⟨[],[]⟩ Tryz.f96 (Q9 c x) ?_;unfold Q9 db bn ah aF aN;obtain ⟨rfl,hl,h⟩:=h;exact ⟨rfl,hl,λ_ _=>h⟩
def ael:Ct:=cP<| cS λz=>cO λH Q=>match H with
 | [.cells 174 [.k (.int .i64 c),.o 1],.sl 5 .u8 x]=>c=0/\z.size<=255/\x.length<=1000000000/\Q .tH [.cells 174 [.k (.int .i64 (0)),.o 2],.gone,.sl 5 .u8 (x++ax z.size::z.data.toList)]
 | _=>False
def agD:=agE.add agY
abbrev iN (y0:ByteArray):=(↑(ByteArray.size y0):Int)
abbrev iQ (y0:ByteArray) (R:Prop):=ByteArray.size y0<=9223372036854775807->R
abbrev kg (y0:List UInt8) (R:Prop):=List.length y0<=100000000/\R
def KB (z:ByteArray) (c:Int) (x:List UInt8):dE:=λQ=>iQ z (br (decide ((iN z)>(255:Int))) (Q (SV.cZ []) [.cells 174 [.k (.int .i64 (nD c lp)),.o 1],.sl 5 Ty.u8 x]) (c=ah/\(a8<=a8/\a8<=cH)/\(ah<=(iN z)/\(iN z)< fa ^ 
 bJ)/\List.length x<=100000000000/\bu (List.length (x++aJ bJ (aA (iN z)))<=100000000000/\kg z.data.toList (Q (SV.cZ []) [.cells 174 [.k bn,.o 2],.gone,.sl 5 Ty.u8 (x++aJ bJ (aA (iN z)) 
 ++z.data.toList)]))))
theorem aca:cM 137 ael:=fe<| rK<| Yx λz=>rM λH Q h=>by
 split at h;rotate_left;cases h;rename_i c x;refine Wp.dL agD fq ⟨[],[]⟩ Tryz.f137 (KB z c x) ?_;unfold KB kg bu iQ iN bn ah a8 fa lp cH bJ;obtain ⟨rfl,hz,hl,h⟩:=h;have e1:aJ 1 ((z.size:Int)).toNat= [ax z.size]:=by
  show [ax (z.size % 256)]=_;rw [lU (by omega)]
 have e2:z.data.toList.length=z.size:=dw;refine λ_=>aw (λhc=>?_) (λ_=>⟨rfl,⟨by omega,by omega⟩,⟨by omega,by show (z.size:Int)< 256;omega⟩,by omega,rfl,?_,by omega,?_⟩)
 .have hc:(z.size:Int)>255:=of_decide_eq_true hc;omega
 .rw [e1,af,ay];omega
 .rw [e1,aH];exact h
end Go.Proofs

namespace Go.Lm
open Go
def mr:Nat->List UInt8->Nat->List UInt8
 | 0,out,_=>out
 | n+1,out,f=>mr n (out++ [out.getD f 0]) (f+1)
def D5:Nat->List UInt8->List UInt8->Option (List UInt8)
 | _,[],out=>some out
 | 0,_::_,_=>none
 | k+1,t::r,out=>
  if t.toNat< 128 then (if r.length< t.toNat+1 then none else D5 k (r.drop (t.toNat+1)) (out++r.take (t.toNat+1)))
  else match r with
   | []=>none
   | c::q=>if out.length<=c.toNat then none else D5 k q (mr (t.toNat - 125) out (out.length - c.toNat - 1))
theorem Lz (n:Nat) (out:List UInt8):D5 n [] out=some out:=by cases n<;>rfl
theorem tG:∀ {n m:Nat} {b out:List UInt8},b.length<=n->b.length<=m->D5 n b out=D5 m b out
 | n,m,[],out,_,_=>by rw [Lz,Lz]
 | 0,_,_::_,_,h,_=>by simp at h
 | _,0,_::_,_,_,h=>by simp at h
 | n+1,m+1,t::r,out,h1,h2=>by
  rw [aq] at h1 h2;unfold D5;split
  .split
   .rfl
   .exact tG (by rw [aW];omega) (by rw [aW];omega)
  .cases r with
   | nil=>rfl
   | cons c q=>
    simp only;rw [aq] at h1 h2;split;rfl;exact tG (by omega) (by omega)
def nJ (b out:List UInt8):Option (List UInt8):=D5 b.length b out
theorem wk (out:List UInt8):nJ [] out=some out:=rfl
theorem LA {t:UInt8} {r out:List UInt8} (ht:t.toNat< 128):nJ (t::r) out=if r.length< t.toNat+1 then none else nJ (r.drop (t.toNat+1)) (out++r.take (t.toNat+1)):=by
 unfold nJ;rw [aq]
 conv=>lhs;unfold D5
 rw [if_pos ht];split;rfl;exact tG (by rw [aW];omega) (az _)
theorem FD {t c:UInt8} {r out:List UInt8} (ht:¬t.toNat< 128):nJ (t::c::r) out=if out.length<=c.toNat then none else nJ r (mr (t.toNat - 125) out (out.length - c.toNat - 1)):=by
 unfold nJ;rw [aq]
 conv=>lhs;unfold D5
 rw [if_neg ht];simp only;split;rfl;exact tG (by rw [aq];omega) (az _)
theorem XG {t:UInt8} {out:List UInt8} (ht:¬t.toNat< 128):nJ [t] out=none:=by
 unfold nJ;rw [aq]
 conv=>lhs;unfold D5
 rw [if_neg ht]
theorem vR:∀ (n:Nat) (out:List UInt8) (f:Nat),(mr n out f).length=out.length+n
 | 0,_,_=>rfl
 | n+1,out,f=>by
  show (mr n (out++ [out.getD f 0]) (f+1)).length=_;rw [vR n,af,ay];omega
theorem RP {t:UInt8} {r out z:List UInt8} (ht:t.toNat< 128) (h:nJ (t::r) out=some z):t.toNat+1<=r.length/\nJ (r.drop (t.toNat+1)) (out++r.take (t.toNat+1))=some z:=by
 rw [LA ht] at h;split at h;cases h;exact ⟨by omega,h⟩
theorem Ly {t:UInt8} {r out z:List UInt8} (ht:¬t.toNat< 128) (h:nJ (t::r) out=some z):∃ c q,r=c::q/\c.toNat< out.length/\nJ q (mr (t.toNat - 125) out (out.length - c.toNat - 1))=some z:=by
 cases r with
 | nil=>rw [XG ht] at h;cases h
 | cons c q=>
  rw [FD ht] at h;split at h;cases h;exact ⟨c,q,rfl,by omega,h⟩
theorem wj:∀ {n:Nat} {b out z:List UInt8},b.length<=n->nJ b out=some z->out.length<=z.length
 | _,[],out,z,_,h=>by
  rw [wk] at h;cases h;exact az _
 | 0,_::_,_,_,h,_=>by simp at h
 | n+1,t::r,out,z,hn,h=>by
  rw [aq] at hn;by_cases ht:t.toNat< 128
  .obtain ⟨h1,h2⟩:=RP ht h;have:=wj (n:=n) (by rw [aW];omega) h2;rw [af] at this;omega
  .obtain ⟨c,q,rfl,h1,h2⟩:=Ly ht h;rw [aq] at hn;have:=wj (n:=n) (by omega) h2;rw [vR] at this;omega
structure DL (x pre:List UInt8):Prop where
 go:∀ r,nJ (x++r) []=nJ r pre
theorem DL.nil:DL [] []:=⟨λ_=>rfl⟩
theorem DL.done {x b:List UInt8} (h:DL x b):nJ x []=some b:=by
 have:=h.go []
 rwa [a7,wk] at this
theorem DL.run {x pre l:List UInt8} (h:DL x pre) (h0:0< l.length) (h1:l.length<=128):DL (x++(ax (l.length - 1)::l)) (pre++l):=⟨λr=>by
 have ht:(ax (l.length - 1)).toNat=l.length - 1:=by simp;omega
 rw [aH,h.go,eB,LA (by rw [ht];omega),ht,if_neg (by rw [af];omega)];rw [show l.length - 1+1=l.length by omega,fB,List.take_left]⟩
theorem GR {b:List UInt8}:∀ (n a f:Nat),f< a->a+n<=b.length->(∀ k,k< n->b[a+k]?=b[f+k]?)->mr n (b.take a) f=b.take (a+n)
 | 0,_,_,_,_,_=>rfl
 | n+1,a,f,hf,hl,hk=>by
  unfold mr;have h0:=hk 0 (by omega);rw [j4,j4] at h0;have e:(b.take a).getD f 0=b[a]'(by omega):=by
   rw [aP,dO,if_pos hf,<-h0,ak (by omega)];rfl
  rw [e];have e2:b.take a++ [b[a]'(by omega)]=b.take (a+1):=by rw [List.take_add_one,ak (by omega)];rfl
  rw [e2,GR n (a+1) (f+1) (by omega) (by omega) λk vY=>by
   have:=hk (k+1) (by omega)
   rwa [show a+(k+1)=a+1+k by omega,show f+(k+1)=f+1+k by omega] at this]
  congr 1;omega
theorem DL.copy {x b:List UInt8} {a n back:Nat} (h:DL x (b.take a)) (hn:3<=n) (hn2:n<=130) (hb:1<=back) (hb2:back<=a) (hb3:back<=256) (hl:a+n<=b.length) (hk:∀ k,k< n->b[a+k]?=b[a - back+k]?):
  DL (x++ [ax (n+125),ax (back - 1)]) (b.take (a+n)):=⟨λr=>by
 have ht:(ax (n+125)).toNat=n+125:=by simp;omega
 have hc:(ax (back - 1)).toNat=back - 1:=by simp;omega
 have hla:(b.take a).length=a:=by rw [aD];omega
 rw [aH,h.go];show nJ (ax (n+125)::ax (back - 1)::r) _=_;rw [FD (by rw [ht];omega),ht,hc,hla,if_neg (by omega),show n+125 - 125=n by omega,show a - (back - 1) - 1=a - back by omega];rw [GR n a (a - back) (by omega) hl hk]⟩
end Go.Lm

namespace Go.Proofs
open Go Go.Lm Go.RowKit
set_option maxRecDepth 1000000
def ZT:Ct
 | [.v (.c (.o 0)),.v (.c cl)],[.sl 5 .u8 x],Q=>(match (Ty.sl Ty.u8).of [cl] with
  | some (l,[])=>∃ pre:List UInt8,DL x pre/\x.length+2*l.length<=1000000000/\∀ y,DL y (pre++l)->y.length<=x.length+2*l.length->Q (.c (.o 1)) [.gone,.sl 5 .u8 y]
  | _=>False)
 | _,_,_=>False
def agC:=agD.add aca
abbrev fU {A0:Type} (y0:List A0) (R:Prop):=List.length y0<=9223372036854775807->R
abbrev yD {A0:Type} (y0:List A0):=aA (IntKind.wrap .u8 (min (a6 y0) 128 - 1))
abbrev Cj {A0:Type} (y0:List A0):=aA (min (a6 y0) bI)
abbrev O6 {A0:Type} (y0:List A0) (R:Prop):=0<=min (a6 y0) bI/\min (a6 y0) bI<=(a6 y0)/\R
def Re (l:(List (Ty.u8).den)) (x:List UInt8):dE:=λQ=>cW l (ba (λi ag=>fU i.1.2.1 (br (decide ((a6 i.1.2.1)>ah)) (aN (bQ i.1.2.1)->aI .i64 (min (a6 i.1.2.1) 128 - 1)/\(aI .u8 (IntKind.wrap .u8 (min (a6 i.1.2.1) 128 - 1))->O6 i.1.2.1 
 ((List.length i.1.1+List.length [ax (yD i.1.2.1)])*1<=cC/\List.length i.1.1+List.length [ax (yD i.1.2.1)]<=9223372036854775807/\(List.length (i.1.1++ [ax (yD i.1.2.1)])+List.length 
 (List.take (Cj i.1.2.1) i.1.2.1))*1<=cC/\List.length (i.1.1++ [ax (yD i.1.2.1)])+List.length (List.take (Cj i.1.2.1) i.1.2.1)<=9223372036854775807/\O6 i.1.2.1 (ag ((i.1.1++ [ax (yD 
 i.1.2.1)]++List.take (Cj i.1.2.1) i.1.2.1,List.drop (Cj i.1.2.1) i.1.2.1,()),()))))) (Q (SV.v (S1.c (.o 1))) [.gone,.sl 5 Ty.u8 i.1.1]))) ((x,l,()),()))
theorem ag1:cM 193 ZT:=by
 intro args H Q h;unfold ZT at h;split at h;rotate_left;cases h;rename_i cl x;split at h;rotate_left;cases h;rename_i l hl;refine Wp.said (args':=[.v (.c (.o 0)),.c (.d Ty.u8 l)]) (λE g=>bE.dd (λ_ h=>h) (bE.dd (dR hl) (λ_ h=>h))) ?_;clear hl;refine Wp.dL agC fq ⟨[(2,⟨[(0,.own 5 .u8),(1,.d .u8)],[]⟩)],[]⟩ Tryz.f193 (Re l x) ?_;unfold Re O6 Cj yD fU bQ cC cW ah bI a6 aN;obtain ⟨pre,he,hl,h⟩:=h;intro _;refine ba.intro (λi=>∃ p,DL i.1.1 p/\p++i.1.2.1=pre++l/\i.1.1.length+2*i.1.2.1.length<=x.length+2*l.length) (λi=>i.1.2.1.length) ⟨pre,he,rfl,az _⟩ ?_;rintro ⟨⟨y,r,_⟩,_⟩ ⟨p,h1,h2,h3⟩;simp only at h1 h2 h3 ⊢;refine λ_=>aw (λhc=>λ_=>?_) (λhc=>?_)
 .have hc:(r.length:Int)>0:=of_decide_eq_true hc;have e1:ax (IntKind.wrap .u8 (min (r.length:Int) 128 - 1)).toNat=ax ((r.take (min (r.length:Int) 128).toNat).length - 1):=by
   rw [aD];congr 1;have:IntKind.wrap .u8 (min (r.length:Int) 128 - 1)=min (r.length:Int) 128 - 1:=o8 (by simp [Lit.wf,IntKind.min,ku,eI,ij];omega);rw [this];omega
  have eJ:(r.take (min (r.length:Int) 128).toNat).length=(min (r.length:Int) 128).toNat:=by rw [aD];omega
  rw [e1];refine ⟨by unfold aI;omega,λ_=>⟨by omega,by omega,?_,?_,?_,?_,by omega,by omega,⟨p++r.take (min (r.length:Int) 128).toNat,?_,?_,?_⟩,?_⟩⟩;rw [ay];omega;rw [ay];omega;rw [af,ay,eJ];omega;rw [af,ay,eJ];omega
  .have:=h1.run (l:=r.take (min (r.length:Int) 128).toNat) (by rw [eJ];omega) (by rw [eJ];omega);rw [aH];exact this
  .rw [aH,bY];exact h2
  .rw [af,af,ay,eJ,aW];omega
  .show (r.drop _).length< r.length;rw [aW];omega
 .have hc:¬(r.length:Int)>0:=of_decide_eq_false hc;have:r= []:=aK (by omega);subst this;rw [a7] at h2;exact h y (h2▸h1) (by simpa using h3)
def ZP:Ct:=cD .u8 λb=>cI λm=>c0 λQ=>∃ z:List UInt8,nJ b []=some z/\z.length<=m/\m<=1000000/\Q (.cZ [.c (.d .u8 z),.c (.k (.int .i64 0))]) []
def agB:=agC.add ag1
abbrev fO (y0:List UInt8):=(↑(cF (aB Ty.u8 y0 ah)):Int)
abbrev rn:SV:=.cZ [.c (.k cA),.c (.k (.int .i64 1))]
abbrev sG:SV:=.cZ [.c (.k cA),.c (.k (.int .i64 2))]
abbrev nv:=SV.cZ [S1.c (.o 0),.c (.k bn)]
abbrev Ir {A1:Type} (y0) (y1:List A1) (y2) (y3):=aA (↑(cF (aB Ty.u8 y0 ((a6 y1) - (fO y2) - 1+y3))):Int)
abbrev sC (y0:SV->List HO->Prop):=y0 (.cZ [.c (.k cA),.c (.k (.int .i64 3))]) []
abbrev kV (y0:List UInt8) (R:Prop):=Ty.ok Ty.u8 (aB Ty.u8 y0 ah)->R
abbrev O7 {A0 A3:Type} (y0:List A0) (y1) (y2) (y3:List A3) (R:Prop):=ah<=(a6 y0) - (fO y1) - 1+y2/\(a6 y0) - (fO y1) - 1+y2< (a6 y3)/\R
def EJ (b:(List (Ty.u8).den)) (m:Int):dE:=λQ=>cW b (aI .i64 m->br (dj m) (Q rn []) (ba (λi ag=>fU i.1.1 (br (decide ((a6 i.1.1)>ah)) (ah<=ah/\ah< (a6 i.1.1)/\(kV i.1.1 (ah<=a8/\a8<=(a6 i.1.1)/\aI .i64 ((fO 
 i.1.1)+1)/\aI .i64 ((fO i.1.1)+1)/\cY (λk=>br (decide ((fO i.1.1)≥bI)) (aI .i64 ((fO i.1.1) - 125)/\k ((List.drop 1 i.1.1,(fO i.1.1),(fO i.1.1) - 125,a8,()),())) (k ((List.drop 1 i.1.1,(fO 
 i.1.1),(fO i.1.1)+1,(fO i.1.1)+1,()),()))) λcu=>cY (λk=>fU cu.1.1 (br (decide ((a6 cu.1.1)< cu.1.2.2.2.1)) (Q sG []) (br (decide (cu.1.2.1≥128)) (ah<=ah/\ah< (a6 cu.1.1)/\(kV 
 cu.1.1 (aN (bQ i.1.2.1)->br (decide ((fO cu.1.1)≥(a6 i.1.2.1))) (Q sG []) (k ((),()))))) (k ((),()))))) λgC=>fU i.1.2.1 (aI .i64 (m - (a6 i.1.2.1))/\br (decide (cu.1.2.2.1>m - (a6 i.1.2.1))) (sC Q) 
 (cY (λk=>br (decide (cu.1.2.1< 128)) (0<=cu.1.2.2.1/\cu.1.2.2.1<=(a6 cu.1.1)/\(List.length i.1.2.1+List.length (ma cu.1.2.2.1 cu.1.1))*1<=cC/\List.length i.1.2.1+List.length (ma cu.1.2.2.1 cu.1.1)<= 
 9223372036854775807/\k ((i.1.2.1++List.take (bc cu.1.2.2.1) cu.1.1,()),())) (aN (bQ i.1.2.1)->ah<=ah/\ah< (a6 cu.1.1)/\(kV cu.1.1 (aI .i64 ((a6 i.1.2.1) - (fO cu.1.1))/\aI .i64 ((a6 i.1.2.1) - 
 (fO cu.1.1) - 1)/\ba (λjT ag=>br (decide (jT.1.1< cu.1.2.2.1)) (aI .i64 ((a6 i.1.2.1) - (fO cu.1.1) - 1+jT.1.1)/\O7 i.1.2.1 cu.1.1 jT.1.1 jT.1.2.1 (O7 i.1.2.1 cu.1.1 jT.1.1 jT.1.2.1 (Ty.ok Ty.u8 
 (aB Ty.u8 jT.1.2.1 ((a6 i.1.2.1) - (fO cu.1.1) - 1+jT.1.1))->(List.length jT.1.2.1+List.length [ax (Ir jT.1.2.1 i.1.2.1 cu.1.1 jT.1.1)])*1<=cC/\List.length jT.1.2.1+List.length [ax (Ir 
 jT.1.2.1 i.1.2.1 cu.1.1 jT.1.1)]<=9223372036854775807/\cG jT.1.1 (ag ((jT.1.1+1,jT.1.2.1++ [ax (Ir jT.1.2.1 i.1.2.1 cu.1.1 jT.1.1)],()),()))))) (k (jT.1.2,()))) ((ah,i.1.2),()))))) λi=>0<= 
 cu.1.2.2.2.1/\cu.1.2.2.2.1<=(a6 cu.1.1)/\ag ((List.drop (bc cu.1.2.2.2.1) cu.1.1,i.1),())))))) (Q nv [.sl 5 Ty.u8 i.1.2.1]))) ((b,[],()),())))
theorem WA:cM 110 ZP:=fe<| kC λb=>nK λm=>iB λQ h=>by
 refine Wp.aff (e:=.u8) ?_;refine Wp.dL agB fq ⟨[(5,⟨[(0,.d .u8),(6,.own 5 .u8)],[]⟩),(19,⟨[(70,.int .i64),(6,.own 5 .u8)],[]⟩)],[(11,⟨[(0,.d .u8),(7,.int .i64),(8,.int .i64),(9,.int .i64)],[]⟩),(13,⟨[],[]⟩),(23,⟨[(6,.own 5 .u8)],[]⟩)]⟩ Tryz.f110 (EJ b m) ?_;unfold EJ O7 kV sC Ir nv ma sG dj rn cG fU bQ cC cW cA bn bc fO ah a8 bI a6 aN;obtain ⟨z,hz,hm,hm2,h⟩:=h;refine λ_ _=>aw (λhc=>?_) (λ_=>?_)
 .have hc:m< 0:=of_decide_eq_true hc;omega
 refine ba.intro (λi=>nJ i.1.1 i.1.2.1=some z) (λi=>i.1.1.length) hz ?_;rintro ⟨⟨r,out,_⟩,_⟩ h1;simp only at h1 ⊢;refine λ_=>aw (λhc=>?_) (λhc=>?_);rotate_left
 .have hc:¬(r.length:Int)>0:=of_decide_eq_false hc;have:r= []:=aK (by omega);subst this;rw [wk] at h1;obtain rfl:=aj h1;exact .inr (.inr ⟨0,5,out,.int .i64 0,rfl,cr _,rfl,h⟩)
 cases r with
 | nil=>simp at hc
 | cons t r=>
 have hlz:=wj (az _) h1;have ht:=UInt8.toNat_lt t;have e0:aB .u8 (t::r) 0=t:=rfl;rw [e0];refine ⟨bp _,by simp only [aq];omega,λ_=>⟨by omega,by simp only [aq];omega,by unfold aI;omega,by unfold aI;omega,?_⟩⟩;simp only [List.drop_one,List.tail_cons];refine cY.intro (λi=>i.1.1=r/\i.1.2.1=(t.toNat:Int)/\(t.toNat< 128->i.1.2.2.1=(t.toNat:Int)+1/\i.1.2.2.2.1=(t.toNat:Int)+1)/\(¬t.toNat< 128->i.1.2.2.1=(t.toNat:Int) - 125/\i.1.2.2.2.1=1)) (aw (λhd=>⟨by unfold aI;omega,rfl,rfl,λhq=>?_,λ_=>⟨rfl,rfl⟩⟩) (λhd=>⟨rfl,rfl,λ_=>⟨rfl,rfl⟩,λhq=>?_⟩)) ?_
 .have hd:(t.toNat:Int)≥128:=of_decide_eq_true hd;omega
 .have hd:¬(t.toNat:Int)≥128:=of_decide_eq_false hd;omega
 rintro ⟨⟨r',t',n,nd,_⟩,_⟩ ⟨g1,g2,g3,g4⟩;simp only at g1 g2 g3 g4 ⊢;subst g1 g2;have key:(t.toNat< 128/\n=(t.toNat:Int)+1/\nd=(t.toNat:Int)+1/\t.toNat+1<=r'.length/\out.length+(t.toNat+1)<=z.length/\nJ (r'.drop (t.toNat+1)) (out++r'.take (t.toNat+1))=some z)\/
   (¬t.toNat< 128/\n=(t.toNat:Int) - 125/\nd=1/\∃ c q,r'=c::q/\c.toNat< out.length/\out.length+(t.toNat - 125)<=z.length/\nJ q (mr (t.toNat - 125) out (out.length - c.toNat - 1))=some z):=by
  by_cases hq:t.toNat< 128
  .obtain ⟨k1,k2⟩:=RP hq h1;have:=wj (az _) k2;rw [af,aD] at this;exact .inl ⟨hq,(g3 hq).1,(g3 hq).2,k1,by omega,k2⟩
  .obtain ⟨c,q,k0,k1,k2⟩:=Ly hq h1;have:=wj (az _) k2;rw [vR] at this;exact .inr ⟨hq,(g4 hq).1,(g4 hq).2,c,q,k0,k1,this,k2⟩
 clear g3 g4 h1;refine cY.intro (λ_=>True) (λ_=>aw (λhd=>?_) (λ_=>aw (λhd=>⟨bp _,?_,λ_ _=>aw (λhf=>?_) (λ_=>trivial)⟩) (λ_=>trivial))) ?_
 .have hd:(r'.length:Int)< nd:=of_decide_eq_true hd;rcases key with ⟨_,_,k2,k3,_⟩| ⟨_,_,k2,c,q,k3,_⟩
  .omega
  .rw [k3,aq] at hd;omega
 .have hd:(t.toNat:Int)≥128:=of_decide_eq_true hd;rcases key with ⟨k1,_⟩| ⟨_,_,_,c,q,k3,_⟩
  .omega
  .rw [k3,aq];omega
 .have hd:(t.toNat:Int)≥128:=of_decide_eq_true hd;have hf:(cF (aB .u8 r' 0):Int)≥(out.length:Int):=of_decide_eq_true hf;rcases key with ⟨k1,_⟩| ⟨_,_,_,c,q,k3,k4,_⟩
  .omega
  .rw [k3] at hf;have e3:aB .u8 (c::q) 0=c:=rfl;rw [e3] at hf;omega
 rintro ⟨_,_⟩ _;refine λ_=>⟨by unfold aI;omega,aw (λhd=>?_) (λ_=>?_)⟩
 .have hd:n>m - (out.length:Int):=of_decide_eq_true hd;rcases key with ⟨_,_,_,_,k5,_⟩| ⟨_,_,_,_,_,_,_,k5,_⟩<;>omega
 refine cY.intro (λi=>0<=nd/\nd<=(r'.length:Int)/\nJ (r'.drop nd.toNat) i.1.1=some z) (aw (λhd=>?_) (λhd=>?_)) ?_
 .have hd:(t.toNat:Int)< 128:=of_decide_eq_true hd;rcases key with ⟨_,k1,k2,k3,k4,k5⟩| ⟨k0,_⟩
  .have e4:n.toNat=t.toNat+1:=by omega
   have e5:nd.toNat=t.toNat+1:=by omega
   rw [e4,e5];exact ⟨by omega,by omega,by rw [aD];omega,by rw [aD];omega,by omega,by omega,k5⟩
  .omega
 .have hd:¬(t.toNat:Int)< 128:=of_decide_eq_false hd;rcases key with ⟨k0,_⟩| ⟨_,k1,k2,c,q,k3,k4,k5,k6⟩
  .omega
  subst k3 k2;have e3:aB .u8 (c::q) 0=c:=rfl;rw [e3];refine λ_=>⟨bp _,by simp only [aq];omega,λ_=>⟨by unfold aI;omega,by unfold aI;omega,?_⟩⟩;refine ba.intro (λi=>0<=i.1.1/\i.1.1<=n/\i.1.2.1.length=out.length+i.1.1.toNat/\mr (n - i.1.1).toNat i.1.2.1 (out.length - c.toNat - 1+i.1.1.toNat)=mr (t.toNat - 125) out (out.length - c.toNat - 1)) (λi=>(n - i.1.1).toNat) ⟨by simp,by show (0:Int)<=n;omega,rfl,by show mr (n - 0).toNat out _=_;rw [show (n - 0).toNat=t.toNat - 125 by omega];rfl⟩ ?_;rintro ⟨⟨j,y,_⟩,_⟩ ⟨j0,j1,j2,j3⟩;simp only at j0 j1 j2 j3 ⊢;refine aw (λhf=>?_) (λhf=>?_)
  .have hf:j< n:=of_decide_eq_true hf;refine ⟨by unfold aI;omega,by omega,by rw [j2];omega,by omega,by rw [j2];omega,λ_=>⟨?_,?_,by unfold aI;omega,⟨by omega,by omega,?_,?_⟩,by omega⟩⟩
   .rw [ay];omega
   .rw [ay];omega
   .rw [af,ay];omega
   .rw [<-j3,show (n - j).toNat=(n - (j+1)).toNat+1 by omega];show _=mr _ (y++ [_]) _;have e6:ax ((cF (aB .u8 y ((out.length:Int) - (c.toNat:Int) - 1+j)):Int)).toNat=y.getD (out.length - c.toNat - 1+j.toNat) 0:=by
     rw [bm,UInt8.ofNat_toNat];unfold aB;rw [show ((out.length:Int) - (c.toNat:Int) - 1+j).toNat=out.length - c.toNat - 1+j.toNat by omega];rfl
    rw [e6,show out.length - c.toNat - 1+(j+1).toNat=out.length - c.toNat - 1+j.toNat+1 by omega]
  .have hf:¬j< n:=of_decide_eq_false hf;rw [show (n - j).toNat=0 by omega] at j3;refine ⟨by omega,by simp only [aq];omega,?_⟩;rw [<-j3] at k6;exact k6
 rintro ⟨⟨y,_⟩,_⟩ ⟨k1,k2,k3⟩;refine ⟨k1,k2,k3,?_⟩;show (r'.drop nd.toNat).length< (t::r').length;rw [aW,aq];omega
def ai4:Ct:=cD .u8 λb=>cI λa=>cI λo=>c0 λQ=>(0<=a/\a<=b.length)/\(0<=o/\o< a)/\b.length<=1000000/\∀ n:Int,0<=n->n<=130->a+n<=b.length->(∀ k,k< n.toNat->b[a.toNat+k]?=b[o.toNat+k]?)->(n< 3->a+n< b.length->b[a.toNat+n.toNat]?≠b[o.toNat+n.toNat]?)->Q (.int n) []
def agA:=agB.add WA
abbrev fW (y0) (y1:_->Prop):=aI .i64 (y0+1)/\y1 ((y0+1,()),())
abbrev fx:=((ah,()),())
def Rq (b:(List (Ty.u8).den)) (a o:Int):dE:=λQ=>cW b (cn a o (ba (λi ag=>br (decide (i.1.1< 130)) (aI .i64 (a+i.1.1)/\(aN (dv b)->br (decide (a+i.1.1< (aF b))) (aI .i64 (a+i.1.1)/\0<=a+i.1.1/\a+i.1.1< (aF b)/\(Ty.ok Ty.u8 (aB 
 Ty.u8 b (a+i.1.1))->aI .i64 (o+i.1.1)/\0<=o+i.1.1/\o+i.1.1< (aF b)/\(Ty.ok Ty.u8 (aB Ty.u8 b (o+i.1.1))->br ((↑(cF (aB Ty.u8 b (a+i.1.1))):Int)==(↑(cF (aB Ty.u8 b (o+i.1.1))):Int)) (fW 
 i.1.1 ag) (Q (gZ i.1.1) [])))) (Q (gZ i.1.1) []))) (Q (gZ i.1.1) [])) fx))
theorem ahc:cM 226 ai4:=fe<| kC λb=>nK λa=>nK λo=>iB λQ h=>by
 refine Wp.dL agA fq ⟨[(3,⟨[(7,.int .i64)],[]⟩)],[]⟩ Tryz.f226 (Rq b a o) ?_;unfold Rq fx gZ dv cn fW cW aE ah aF aN;obtain ⟨⟨a0,a1⟩,⟨o0,o1⟩,hl,h⟩:=h;intro _ _ _;refine ba.intro (λi=>0<=i.1.1/\i.1.1<=130/\a+i.1.1<=b.length/\∀ k,k< i.1.1.toNat->b[a.toNat+k]?=b[o.toNat+k]?) (λi=>(130 - i.1.1).toNat) ⟨by simp,by simp,by simpa using a1,λk hk=>by simp at hk⟩ ?_;rintro ⟨⟨i,_⟩,_⟩ ⟨h0,h1,h2,h3⟩;simp only at h0 h1 h2 h3 ⊢;refine aw (λhc=>⟨by unfold aI;omega,λ_=>aw (λhd=>?_) (λhd=>?_)⟩) (λhc=>?_)
 .have hc:i< 130:=of_decide_eq_true hc;have hd:a+i< (b.length:Int):=of_decide_eq_true hd;have ea:b[a.toNat+i.toNat]?=some (aB .u8 b (a+i)):=by
   unfold aB;rw [show (a+i).toNat=a.toNat+i.toNat by omega,aP,ak (by omega)];rfl
  have eo:b[o.toNat+i.toNat]?=some (aB .u8 b (o+i)):=by
   unfold aB;rw [show (o+i).toNat=o.toNat+i.toNat by omega,aP,ak (by omega)];rfl
  refine ⟨by unfold aI;omega,by omega,hd,λ_=>⟨by unfold aI;omega,by omega,by omega,λ_=>aw (λhe=>?_) (λhe=>?_)⟩⟩
  .have he:=eq_of_beq he;refine ⟨by unfold aI;omega,⟨by omega,by omega,by omega,λk hk=>?_⟩,by omega⟩;by_cases hq:k=i.toNat
   .subst hq;rw [ea,eo,UInt8.toNat_inj.1 (Int.ofNat.inj he)]
   .exact h3 k (by omega)
  .refine h i h0 h1 h2 h3 λ_ _ e=>?_;rw [ea,eo] at e;rw [aj e] at he;simp at he
 .have hd:¬a+i< (b.length:Int):=of_decide_eq_false hd;exact h i h0 h1 h2 h3 λ_ hq=>absurd hq hd
 .have hc:¬i< 130:=of_decide_eq_false hc;exact h i h0 h1 h2 h3 λhq=>by omega
end Go.Proofs

namespace Go.Lm
open Go
theorem ixG {e:Ty} {l:List e.den} {i:Int} (h0:0<=i) (h:i< l.length):aB e l i=l[i.toNat]'(by omega):=by
 unfold aB;rw [aP,ak (by omega)];rfl
theorem ixT {e:Ty} {l:List e.den} {i:Int} (h0:0<=i) (h:i< l.length):l.take (i+1).toNat=l.take i.toNat++ [aB e l i]:=by
 rw [ixG h0 h,show (i+1).toNat=i.toNat+1 by omega,bZ (by omega)]
theorem rO {e:Ty} {l:List e.den} {i:Int} (h0:0<=i) (h:i< l.length):aB e l i∈l:=by
 rw [ixG h0 h];exact df _
theorem ixR {e:Ty} {l:List e.den} {i:Int} (h0:0<=i) (h:i< l.length):l.drop i.toNat=aB e l i::l.drop (i+1).toNat:=by
 rw [ixG h0 h,show (i+1).toNat=i.toNat+1 by omega];exact bO (by omega)
def Jd (b:List UInt8) (x:Int):K3:=(b.getD x.toNat 0,b.getD (x.toNat+1) 0,b.getD (x.toNat+2) 0)
structure pG (b:List UInt8) (t:Int) (M:uC):Prop where
 len:M.length<=t
 all:∀ p∈M,p.2.2.length<=t/\∀ x∈p.2.2,0<=x/\x< t/\x+3<=b.length/\Jd b x=p.1
theorem pG.nil (b:List UInt8):pG b 0 []:=⟨by simp,λ_ h=>by cases h⟩
theorem pG.later {b:List UInt8} {t u:Int} {M:uC} (h:pG b t M) (hu:t<=u):pG b u M:=⟨by have:=h.len;omega,λp hp=>⟨by have:=(h.all p hp).1;omega,λx hx=>by have:=(h.all p hp).2 x hx;exact ⟨this.1,by omega,this.2.2⟩⟩⟩
theorem pG.find {b:List UInt8} {t:Int} {M:uC} {k:K3} {o:Option (Nat×Value)} {xs:List Int} (h:pG b t M) (h0:0<=t) (f:FindM M k o xs):xs.length<=t/\∀ x∈xs,0<=x/\x< t/\x+3<=b.length/\Jd b x=k:=by
 cases f with
 | «at» i v xs hi=>exact h.all _ (fc hi)
 | no _=>exact ⟨by simpa using h0,λ_ q=>by cases q⟩
theorem pG.put {b:List UInt8} {t:Int} {M:uC} {o:Option (Nat×Value)} {xs:List Int} {v:Value} (h:pG b t M) (h0:0<=t) (hl:t+3<=b.length) (f:FindM M (Jd b t) o xs):pG b (t+1) ((Jd b t,v,xs++ [t])::(Option.rec M (λval=>List.eraseIdx M val.fst) o:uC)):=by
 have e0:(Option.rec M (λval=>List.eraseIdx M val.fst) o:uC)=HY M o:=by cases o<;>rfl
 rw [e0];have hx:=h.find h0 f;have hm:(HY M o).length<=t/\∀ p∈HY M o,p∈M:=by
  cases o with
  | none=>exact ⟨h.len,λ_ q=>q⟩
  | some q=>
   refine ⟨?_,λp hp=>List.mem_of_mem_eraseIdx hp⟩;have:=h.len;have:(M.eraseIdx q.1).length<=M.length:=List.length_eraseIdx_le ..;show ((M.eraseIdx q.1).length:Int)<=t;omega
 refine ⟨by simp only [aq];omega,λp hp=>?_⟩;rcases aX.1 hp with rfl| hp
 .refine ⟨by simp only [af,ay];omega,λx q=>?_⟩;rcases aY.1 q with q| q
  .have:=hx.2 x q;exact ⟨this.1,by omega,this.2.2⟩
  .obtain rfl:=aR.1 q;exact ⟨h0,by omega,hl,rfl⟩
 .have:=h.all p (hm.2 p hp);exact ⟨by omega,λx q=>by have:=this.2 x q;exact ⟨this.1,by omega,this.2.2⟩⟩
theorem SK (b:List UInt8) (i:Int):((ax (aA (↑(cF (aB (kB (3:Nat)) [rowOf (List.drop (aA i) b) (3:Nat) (0:Nat)] (0:Int)).fst):Int)),ax (aA (↑(cF (aB (kB (3:Nat)) [rowOf (List.drop (aA i) b) (3:Nat) (0:Nat)] (0:Int)).snd.fst):Int)),ax (aA (↑(cF (aB (kB (3:Nat)) [rowOf (List.drop (aA i) b) (3:Nat) (0:Nat)] (0:Int)).snd.snd.fst):Int))):K3)=Jd b i:=by
 have e:∀ x:UInt8,ax (aA (x.toNat:Int))=x:=λx=>by rw [bm,UInt8.ofNat_toNat]
 have g:∀ k,(List.drop (aA i) b).getD k 0=b.getD (i.toNat+k) 0:=λk=>by rw [aP,aP,List.getElem?_drop]
 rw [e,e,e];unfold Jd;rw [<-g 1,<-g 2,<-j4 i.toNat,<-g 0];rfl
theorem QC {M:uC} {k:K3} {o:Option (Nat×Value)} {xs:List Int} (f:FindM M k o xs):(Option.rec M (λval=>List.set M val.fst (k,val.snd,xs)) o:uC)=M:=by
 cases f with
 | «at» i v xs hi=>exact wx hi
 | no _=>rfl
theorem Vp {b:List UInt8} {x y:Int} (h:Jd b x=Jd b y) (hx:x+3<=b.length) (hy:y+3<=b.length) (x0:0<=x) (y0:0<=y) {k:Nat} (hk:k< 3):b[x.toNat+k]?=b[y.toNat+k]?:=by
 unfold Jd at h;have g:∀ j,j< b.length->b[j]?=some (b.getD j 0):=λj hj=>by rw [aP,ak hj];rfl
 rw [g _ (by omega),g _ (by omega)];simp only [Prod.mk.injEq] at h;obtain ⟨h1,h2,h3⟩:=h
 match k,hk with
 | 0,_=>rw [j4,j4,h1]
 | 1,_=>rw [h2]
 | 2,_=>rw [h3]
structure aj1 (b:List UInt8) (a n back:Int):Prop where
 or:(n=0/\back=0)\/(3<=n/\n<=130/\1<=back/\back<=256/\back<=a/\a+n<=b.length/\∀ k,k< n.toNat->b[a.toNat+k]?=b[a.toNat - back.toNat+k]?)
end Go.Lm

namespace Go.Proofs
open Go Go.Lm Go.RowKit
set_option maxRecDepth 1000000
def ZW:Ct
 | [.v (.c (.m 0)),.v (.c cb),.v (.c (.k (.int .i64 a))),.v (.c (.k (.int .i64 t)))],[.ab (.ch 321 3 M)],Q=>(match (Ty.sl Ty.u8).of [cb] with
  | some (b,[])=>(0<=a/\a<=t/\t<=b.length)/\b.length<=1000000/\pG b a M/\∀ M',pG b t M'->Q .tH [.ab (.ch 321 3 M')]
  | _=>False)
 | _,_,_=>False
def agz:=agA.add ahc
abbrev U7 (y0:Int) (y1:List (Ty.u8).den):=(ax (aA (↑(cF (aB (kB eX) [rowOf (List.drop (aA y0) y1) eX bC] ah).1):Int)),ax (aA (↑(cF (aB (kB eX) [rowOf (List.drop (aA y0) y1) eX bC] ah).2.1):Int)),ax (aA (↑(cF (aB (kB eX) [rowOf (List.drop (aA y0) y1) eX bC] ah).2.2.1):Int)))
abbrev zL (y0:List Int) (y1:Int) (R:Prop):=(List.length y0+List.length [y1])*8<=cC/\List.length y0+List.length [y1]<=9223372036854775807/\R
abbrev l9 {A0:Type} (y0:List A0) (R:Prop):=List.length y0< 9223372036854775807/\R
abbrev yp (y0:uC):=AbK.ch (321:TypeId) (3:TypeId) y0
abbrev qE (y0) (y1:List (Ty.u8).den):=List.drop (bc y0) y1
def Rl (b:(List (Ty.u8).den)) (a t:Int) (M:uC):dE:=λQ=>cW b (cn a t (ba (λi ag=>br (decide (i.1.1< t)) (aI .i64 (i.1.1+3)/\(aN (dv b)->br (decide (i.1.1+3<=(aF b))) (0<=i.1.1/\i.1.1<=(aF b)/\3<=List.length (qE i.1.1 b)/\(Ty.ok (kB 
 eX) (aB (kB eX) [rowOf (qE i.1.1 b) eX bC] ah)->l9 i.2.1 (∀ (o:Option (Nat×Value)) (xs:List Int) (st:Nat),FindM i.2.1 (U7 i.1.1 b) o xs->zL xs i.1.1 ((↑st:Int)=(↑st:Int)/\∀ (v:Value), 
 cG i.1.1 (ag ((i.1.1+1,()),((U7 i.1.1 b),v,xs++ [i.1.1])::Option.rec i.2.1 (λval=>List.eraseIdx i.2.1 val.1) o,())))))) (Q (SV.cZ []) [HO.ab (yp i.2.1)]))) (Q (SV.cZ []) [HO.ab (yp i.2.1)])) ((a,()),M,())))
theorem ag7:cM 192 ZW:=by
 intro args H Q h;unfold ZW at h;split at h;rotate_left;cases h;rename_i cb a t M;split at h;rotate_left;cases h;rename_i b hb;refine Wp.said (args':=[.v (.c (.m 0)),.c (.d Ty.u8 b),.int a,.int t]) (λE g=>bE.dd (λ_ h=>h) (bE.dd (dR hb) (bE.dd (λ_ h=>h) (bE.dd (λ_ h=>h) (λ_ h=>h))))) ?_;clear hb;refine Wp.dL agz fq ⟨[(2,⟨[(8,.int .i64)],[(0,.ab (.ch 321 3))]⟩)],[]⟩ Tryz.f192 (Rl b a t M) ?_;unfold Rl qE yp dv l9 cn cG zL cC cW bc U7 ah aF aN bC eX;obtain ⟨⟨a0,a1,a2⟩,hl,hM,h⟩:=h;intro _ _ _;refine ba.intro (λi=>0<=i.1.1/\i.1.1<=t/\pG b i.1.1 i.2.1) (λi=>(t - i.1.1).toNat) ⟨a0,a1,hM⟩ ?_;rintro ⟨⟨i,_⟩,M1,_⟩ ⟨h0,h1,h2⟩;simp only at h0 h1 h2 ⊢;refine aw (λhc=>⟨by unfold aI;omega,λ_=>aw (λhd=>?_) (λ_=>?_)⟩) (λ_=>?_)
 .have hc:i< t:=of_decide_eq_true hc;have hd:i+3<=(b.length:Int):=of_decide_eq_true hd;rw [SK];refine ⟨h0,by omega,by rw [aW];omega,λ_=>⟨by have:=h2.len;omega,λo xs st hf=>?_⟩⟩;have:=h2.find h0 hf;exact ⟨by simp only [ay];omega,by simp only [ay];omega,trivial,λv=>⟨by unfold aI;omega,⟨by omega,by omega,h2.put h0 hd hf⟩,by omega⟩⟩
 .exact h M1 (h2.later h1)
 .exact h M1 (h2.later h1)
def Tw:Ct
 | [.v (.c (.m 0)),.v (.c cb),.v (.c (.k (.int .i64 a)))],[.ab (.ch 321 3 M)],Q=>(match (Ty.sl Ty.u8).of [cb] with
  | some (b,[])=>(0<=a/\a< b.length)/\b.length<=1000000/\pG b a M/\∀ n k,aj1 b a n k->Q (.cZ [.c (.k (.int .i64 n)),.c (.k (.int .i64 k))]) [.ab (.ch 321 3 M)]
  | _=>False)
 | _,_,_=>False
def agy:=agz.add ag7
abbrev Pb (y0:SV->List HO->Prop) (y1) (y2) (y3:uC) (y4:Int) (y5:List (Ty.u8).den) (y6:List Int) (y7:Option (Nat×Value)):=y0 (.cZ [.c (.k (aE y1)),.c (.k (aE y2))]) [HO.ab (AbK.ch (321:TypeId) (3:TypeId) (Option.rec y3 (λval=>List.set y3 val.1 ((U7 y4 y5),val.2,y6)) y7))]
abbrev oD (y0:Int) (y1:List (Ty.u8).den):=List.drop (bc y0) y1
abbrev yq:SV:=.cZ [.c (.k bn),.c (.k bn)]
abbrev qF (y0) (y1:List Int) (R:Prop):=0<=y0/\y0< (aF y1)/\0<=y0/\y0< (aF y1)/\R
def KX (b:(List (Ty.u8).den)) (a:Int) (M:uC):dE:=λQ=>cW b (aI .i64 a->br (dj a) (Q yq [HO.ab (yp M)]) (aI .i64 (a+3)/\(aN (dv b)->br (decide (a+3>(aF b))) (Q yq [HO.ab (yp M)]) (0<=a/\a<=(aF b)/\3<=List.length (oD a b)/\ 
 (Ty.ok (kB eX) (aB (kB eX) [rowOf (oD a b) eX bC] ah)->∀ (o:Option (Nat×Value)) (xs:List Int),FindM M (U7 a b) o xs->aN (List.length xs)->aI .i64 ((aF xs) - 1)/\ba (λi ag=>br (decide 
 (i.1.1≥0)) (qF i.1.1 xs (Ty.ok bw (aB bw xs i.1.1)->aI .i64 (a - aB bw xs i.1.1)/\br (decide (a - aB bw xs i.1.1>256)) (Pb Q i.1.2.1 i.1.2.2.1 M a b xs o) (qF i.1.1 xs (Ty.ok bw (aB bw xs i.1.1)->(0<=a/\ 
 a<=(aF b))/\(0<=aB bw xs i.1.1/\aB bw xs i.1.1< a)/\List.length b<=1000000/\∀ (n:Int),0<=n->n<=130->a+n<=(aF b)->(∀ (k:Nat),k< aA n->b[aA a+k]?=b[aA (aB bw xs i.1.1)+k]?)->(n 
 < 3->a+n< (aF b)->b[aA a+aA n]?≠b[aA (aB bw xs i.1.1)+aA n]?)->aI .i64 n->br (decide (n>i.1.2.1)) (qF i.1.1 xs (Ty.ok bw (aB bw xs i.1.1)->aI .i64 (a - aB bw xs i.1.1)/\aI 
 .i64 (i.1.1 - 1)/\ag ((i.1.1 - 1,n,a - aB bw xs i.1.1,()),()))) (aI .i64 (i.1.1 - 1)/\ag ((i.1.1 - 1,i.1.2),())))))) (Pb Q i.1.2.1 i.1.2.2.1 M a b xs o)) (((aF xs) - 1,ah,ah,()),()))))))
theorem acA:cM 191 Tw:=by
 intro args H Q h;unfold Tw at h;split at h;rotate_left;cases h;rename_i cb a M;split at h;rotate_left;cases h;rename_i b hb;refine Wp.said (args':=[.v (.c (.m 0)),.c (.d Ty.u8 b),.int a]) (λE g=>bE.dd (λ_ h=>h) (bE.dd (dR hb) (bE.dd (λ_ h=>h) (λ_ h=>h)))) ?_;clear hb;refine Wp.dL agy fq ⟨[(6,⟨[(9,.int .i64),(6,.int .i64),(7,.int .i64)],[]⟩)],[]⟩ Tryz.f191 (KX b a M) (clo:=true) ?_;unfold KX qF yp yq oD Pb dv dj cW bn bc U7 aE ah aF aN bC eX bw;obtain ⟨⟨a0,a1⟩,hl,hM,h⟩:=h;have hz:=h 0 0 ⟨.inl ⟨rfl,rfl⟩⟩;intro _ _;refine aw (λ_=>hz) (λ_=>⟨by unfold aI;omega,λ_=>aw (λ_=>hz) (λhc=>?_)⟩);have hc:¬a+3>(b.length:Int):=of_decide_eq_false hc;rw [SK];refine ⟨a0,by omega,by rw [aW];omega,λ_ o xs hf _=>?_⟩;have hb:=QC hf;have hx:=hM.find a0 hf;refine ⟨by unfold aI;omega,?_⟩;simp only [hb];refine ba.intro (λi=> -1<=i.1.1/\i.1.1< xs.length/\aj1 b a i.1.2.1 i.1.2.2.1) (λi=>(i.1.1+1).toNat) ⟨by show -1<=(xs.length:Int) - 1;omega,by show (xs.length:Int) - 1< _;omega,⟨.inl ⟨rfl,rfl⟩⟩⟩ ?_;rintro ⟨⟨i,n,k,_⟩,_⟩ ⟨h0,h1,h2⟩;simp only at h0 h1 h2 ⊢;refine aw (λhc=>?_) (λ_=>h n k h2);have hc:i≥0:=of_decide_eq_true hc;have hm:=hx.2 _ (rO (e:=.int .i64) hc h1);generalize aB (Ty.int IntKind.i64) xs i=x at hm ⊢;refine ⟨hc,h1,hc,h1,λ_=>⟨by unfold aI;omega,aw (λ_=>h n k h2) (λhd=>?_)⟩⟩;have hd:¬a - x>256:=of_decide_eq_false hd;obtain ⟨x0,x1,x2,x3⟩:=hm;refine ⟨hc,h1,hc,h1,λ_=>⟨⟨a0,by omega⟩,⟨x0,x1⟩,by omega,λm m0 m1 m2 m3 m4 _=>aw (λhe=>?_) (λ_=>⟨by unfold aI;omega,⟨by omega,by omega,h2⟩,by omega⟩)⟩⟩;have m5:3<=m:=by
  rcases Int.lt_or_le m 3 with q| q;exact absurd (Vp x3.symm (by omega) x2 a0 x0 (by omega)) (m4 q (by omega));exact q
 exact ⟨hc,h1,hc,h1,λ_=>⟨by unfold aI;omega,by unfold aI;omega,⟨by omega,by omega,⟨.inr ⟨m5,m1,by omega,by omega,by omega,m2,λq hq=>by rw [m3 q hq,show x.toNat=a.toNat - (a - x).toNat by omega]⟩⟩⟩,by omega⟩⟩
def aiZ:Ct:=cD .u8 λb=>c0 λQ=>b.length<=4096/\∀ y:List UInt8,DL y b->y.length<=2*b.length->Q (.cZ [.c (.d .u8 y),.c (.k (.int .i64 0))]) []
def agx:=agy.add acA
abbrev Ie (y0:Int):=aA (IntKind.wrap .u8 (y0+125))
abbrev Ib (y0:Int):=aA (IntKind.wrap .u8 (y0 - 1))
def Rj (b:(List (Ty.u8).den)):dE:=λQ=>cW b (aN (dv b)->br (decide ((aF b)>(4096:Int))) (sC Q) (ba (λi ag=>cW b (br (decide (i.1.1< (aF b))) ((0<=i.1.1/\i.1.1< (aF b))/\List.length b<=1000000/\pG b i.1.1 i.2.1/\∀ (n k: 
 Int),aj1 b i.1.1 n k->cn n k (br (n==0) (cG i.1.1 ((0<=i.1.1/\i.1.1<=i.1.1+1/\i.1.1+1<=(aF b))/\List.length b<=1000000/\pG b i.1.1 i.2.1/\∀ (M':uC),pG b (i.1.1+1) M'->cG i.1.1 (ag ((i.1.1+1, 
 i.1.2),M',())))) (0<=i.1.2.1/\i.1.2.1<=i.1.1/\i.1.1<=(aF b)/\∃ pre,DL i.1.2.2.1 pre/\List.length i.1.2.2.1+2*List.length (List.take (aA i.1.1 - aA i.1.2.1) (qE i.1.2.1 b))<=1000000000/\∀ (y:List 
 UInt8),DL y (pre++List.take (aA i.1.1 - aA i.1.2.1) (qE i.1.2.1 b))->List.length y<=List.length i.1.2.2.1+2*List.length (List.take (aA i.1.1 - aA i.1.2.1) (qE i.1.2.1 b))->aI .i64 (n+125)/\ 
 (aI .u8 (IntKind.wrap .u8 (n+125))->aI .i64 (k - 1)/\(aI .u8 (IntKind.wrap .u8 (k - 1))->(List.length y+List.length [ax (Ie n),ax (Ib k)])*1<=cC/\List.length y+List.length [ax (Ie 
 n),ax (Ib k)]<=9223372036854775807/\aI .i64 (i.1.1+n)/\(0<=i.1.1/\i.1.1<=i.1.1+n/\i.1.1+n<=(aF b))/\List.length b<=1000000/\pG b i.1.1 i.2.1/\∀ (M':uC),pG b (i.1.1+n) M'->aI .i64 (i.1.1+n)/\ 
 ag ((i.1.1+n,i.1.1+n,y++ [ax (Ie n),ax (Ib k)],()),M',())))))) (0<=i.1.2.1/\i.1.2.1<=(aF b)/\∃ pre,DL i.1.2.2.1 pre/\List.length i.1.2.2.1+2*List.length (qE i.1.2.1 b)<=1000000000/\∀ 
 (y:List UInt8),DL y (pre++List.drop (bc i.1.2.1) b)->List.length y<=List.length i.1.2.2.1+2*List.length (qE i.1.2.1 b)->Q nv [.sl 5 Ty.u8 y]))) ((ah,ah,[],()),[],())))
theorem ag6:cM 141 aiZ:=fe<| kC λb=>iB λQ h=>by
 refine Wp.aff (e:=.u8) ?_;refine Wp.dL agx fq ⟨[(8,⟨[(7,.int .i64),(6,.int .i64),(5,.own 5 .u8)],[(0,.ab (.ch 321 3))]⟩)],[]⟩ Tryz.f141 (Rj b) ?_;unfold Rj Ib Ie qE sC dv nv cn cG cC cW cA bn bc ah aF aN;obtain ⟨hl,h⟩:=h;refine λ_ _=>aw (λhc=>absurd (of_decide_eq_true hc) (by omega)) (λ_=>?_);refine ba.intro (λi=>0<=i.1.2.1/\i.1.2.1<=i.1.1/\i.1.1<=b.length/\pG b i.1.1 i.2.1/\DL i.1.2.2.1 (b.take i.1.2.1.toNat)/\i.1.2.2.1.length<=2*i.1.2.1.toNat) (λi=>b.length - i.1.1.toNat) ⟨by simp,by simp,by simp,pG.nil b,DL.nil,by simp⟩ ?_;rintro ⟨⟨a,f,x,_⟩,M,_⟩ ⟨h0,h1,h2,h3,h4,h5⟩;simp only at h0 h1 h2 h3 h4 h5 ⊢;refine λ_=>aw (λhc=>?_) (λhc=>?_)
 .have hc:a< (b.length:Int):=of_decide_eq_true hc;have ht:(b.drop f.toNat).take (a.toNat - f.toNat)=(b.take a.toNat).drop f.toNat:=by rw [pJ]
  have eJ:((b.drop f.toNat).take (a.toNat - f.toNat)).length=a.toNat - f.toNat:=by rw [aD,aW];omega
  have hj:b.take f.toNat++(b.drop f.toNat).take (a.toNat - f.toNat)=b.take a.toNat:=by
   rw [ht];have:=bY f.toNat (b.take a.toNat);rw [fR,eP (by omega)] at this;exact this
  refine ⟨⟨by omega,hc⟩,by omega,h3,λn k hcp _ _=>aw (λhn=>?_) (λhn=>?_)⟩;exact ⟨by unfold aI;omega,⟨by omega,by omega,by omega⟩,by omega,h3,λM' hM=>⟨by unfold aI;omega,⟨by omega,by omega,by omega,hM,h4,h5⟩,by omega⟩⟩
  .have hn:¬n=0:=by simpa using hn
   rcases hcp.or with ⟨q,_⟩| ⟨n0,n1,k0,k1,k2,n2,hk⟩;exact absurd q hn;refine ⟨h0,h1,h2,b.take f.toNat,h4,by rw [eJ];omega,λy hy hyl=>?_⟩;rw [hj] at hy;rw [eJ] at hyl;have w1:IntKind.wrap .u8 (n+125)=n+125:=o8 (by simp [Lit.wf,IntKind.min,ku,eI,ij];omega);have w2:IntKind.wrap .u8 (k - 1)=k - 1:=o8 (by simp [Lit.wf,IntKind.min,ku,eI,ij];omega);have e:=hy.copy (n:=n.toNat) (back:=k.toNat) (by omega) (by omega) (by omega) (by omega) (by omega) (by omega) hk;rw [w1,w2,show (n+125).toNat=n.toNat+125 by omega,show (k - 1).toNat=k.toNat - 1 by omega];refine ⟨by unfold aI;omega,λ_=>⟨by unfold aI;omega,λ_=>⟨by simp only [aq,aL];omega,by simp only [aq,aL];omega,by unfold aI;omega,⟨by omega,by omega,n2⟩,by omega,h3,λM' hM=>⟨by unfold aI;omega,⟨by omega,by omega,n2,hM,?_,?_⟩,by omega⟩⟩⟩⟩;rw [show (a+n).toNat=a.toNat+n.toNat by omega];exact e;simp only [af,aq,aL];omega
 .refine ⟨h0,by omega,b.take f.toNat,h4,by rw [aW];omega,λy hy hyl=>?_⟩;rw [bY] at hy;rw [aW] at hyl;exact .inr (.inr ⟨0,5,y,.int .i64 0,rfl,az _,rfl,h y hy (by omega)⟩)
end Go.Proofs

namespace Go.Lm
open Go
def GD (n:Int):Int:=IntKind.wrap .u8 n
def GC (n:Int):Int:=IntKind.wrap .u8 (kO .i64 n 8)
def DX (n:Int):Int:=di .xor .u8 (ku .u8) (di .xor .u8 (GD n) (GC n))
def VD (n:Int):List UInt8:=[ax (GD n).toNat,ax (GC n).toNat,ax (DX n).toNat]
theorem qU (n:Int):(VD n).length=3:=rfl
theorem J8 {n:Int}:0<=IntKind.wrap .u8 n/\IntKind.wrap .u8 n< 256:=by
 unfold IntKind.wrap;simp only [ij,eI];constructor;exact Int.emod_nonneg _ (by decide);exact Int.emod_lt_of_pos _ (by decide)
theorem afU {op:BinOp} {x y:Int}:0<=di op .u8 x y/\di op .u8 x y< 256:=by unfold di;exact J8
theorem Px {n:Int} (h0:0<=n) (h1:n< 256):((ax n.toNat).toNat:Int)=n:=by
 rw [UInt8.toNat_ofNat',lU (by omega)];omega
theorem ql (n:Int):((ax (GD n).toNat).toNat:Int)=GD n/\((ax (GC n).toNat).toNat:Int)=GC n/\((ax (DX n).toNat).toNat:Int)=DX n:=
 ⟨Px J8.1 J8.2,Px J8.1 J8.2,Px afU.1 afU.2⟩
theorem aix {n:Int} (h0:0<=n) (h1:n< 65536):di .or .i64 (GD n) (Aq .i64 (GC n) 8)=n:=by
 have e:=(ql n).2.1;have hw:GD n=n % 256:=by unfold GD IntKind.wrap;simp only [ij,eI];rfl
 have hs:kO .i64 n 8=n / 256:=by
  unfold kO;rw [Int.fdiv_eq_ediv_of_nonneg _ (by decide)];rfl
 have hb:GC n=n / 256:=by
  unfold GC;rw [hs];exact o8 (by simp [Lit.wf,IntKind.min,ku,eI,ij];omega)
 have:=Yt (x:=GD n) (i:=1) (c:=ax (GC n).toNat) (by decide) (by decide) (by rw [hw];omega) (by rw [hw];show n % 256< 256;omega);rw [e] at this;rw [show (8:Int)=8*1 by rfl,this,hw,hb];show n % 256+n / 256*256=n;omega
theorem acZ:∀ l:Fin 256,di .and .i64 (l.val:Int) 32768=0/\di .andNot .i64 (l.val:Int) 32768=l.val/\di .and .i64 ((l.val:Int)+32768) 32768=32768/\di .andNot .i64 ((l.val:Int)+32768) 32768=l.val:=by decide+kernel
theorem ahE {l:Nat} (h:l< 256):di .and .i64 (l:Int) 32768=0/\di .andNot .i64 (l:Int) 32768=l/\di .and .i64 ((l:Int)+32768) 32768=32768/\di .andNot .i64 ((l:Int)+32768) 32768=l:=acZ ⟨l,h⟩
def Av (T:List Int) (x:List UInt8) (m:Int):List UInt8:=VD (x.length+m)++if x= [] then [] else aJ 4 (cw T 0 x).toNat++x
theorem Ym (T:List Int):Av T [] 0=VD 0:=by unfold Av;rw [if_pos rfl,a7];rfl
theorem IJ {T:List Int} {x:List UInt8} {m:Int} (h:x≠ []):Av T x m=VD (x.length+m)++(aJ 4 (cw T 0 x).toNat++x):=by unfold Av;rw [if_neg h]
structure DK (T:List Int) (b x:List UInt8):Prop where
 or:(b= []/\x=VD 0)\/∃ (p:List UInt8) (m:Int),0< b.length/\b.length<=128/\0< p.length/\p.length<=b.length/\(m=0/\DL p b\/m=32768/\p=b)/\x=VD (p.length+m)++(aJ 4 (cw T 0 p).toNat++p)
theorem DK.len {T:List Int} {b x:List UInt8} (h:DK T b x):3<=x.length/\x.length<=b.length+7:=by
 rcases h.or with ⟨rfl,rfl⟩| ⟨p,m,_,_,h3,h4,_,rfl⟩;exact ⟨az 3,by decide⟩;rw [af,af,qU,aC];omega
theorem H8 {x y:List UInt8} {n:Int} (h:n=x.length):jm (x++y) n=x/\F5 (x++y) n=0/\kT (x++y) n=y:=by
 have hn:¬n>((x++y).length:Int):=by rw [af];omega
 have e:n.toNat=x.length:=by omega
 unfold jm F5 kT;rw [if_neg hn,if_neg hn,if_neg hn,e,List.take_left,fB];exact ⟨rfl,rfl,rfl⟩
theorem S7 (n:Int):(GD n==((ax (GD n).toNat).toNat:Int)&& (GC n==((ax (GC n).toNat).toNat:Int)&& (DX n==((ax (DX n).toNat).toNat:Int)&& true)))=true:=by
 rw [(ql n).1,(ql n).2.1,(ql n).2.2];simp
theorem ad0 {n:Int} (h0:0<=n) (h1:n< 65536):di .or .i64 ((aB .u8 (VD n) 0).toNat:Int) (Aq .i64 ((aB .u8 (VD n) 1).toNat:Int) 8)=n:=by
 show di .or .i64 ((ax (GD n).toNat).toNat:Int) (Aq .i64 ((ax (GC n).toNat).toNat:Int) 8)=n;rw [(ql n).1,(ql n).2.1];exact aix h0 h1
structure Cut (im:List UInt8) (a:Int) (p:List UInt8) (s:Int) (st:Bool) (nx:Int):Prop where
 at0:0<=a
 at1:a<=im.length
 or:(p= []/\s=0/\st=false/\nx=a+3/\∃ r,im.drop a.toNat=VD 0++r)\/(0< p.length/\p.length<=128/\nx=a+7+p.length/\(0<=s/\s<=4294967295)/\∃ r,im.drop a.toNat=VD (p.length+if st then 32768 else 0)++(aJ 4 s.toNat++(p++r)))
structure Wj (T:List Int) (im:List UInt8) (a:Int) (b:List UInt8) (nx:Int):Prop where
 at0:0<=a
 at1:a<=im.length
 ex:∃ x r,DK T b x/\im.drop a.toNat=x++r/\nx=a+x.length
structure aj0 (im:List UInt8) (a:Int) (p:List UInt8) (s:Int) (st:Bool) (nx e:Int):Prop where
 or:(a=im.length/\p= []/\s=0/\st=false/\nx=0/\e=2)\/(e=0/\Cut im a p s st nx)
structure FrE (T:List Int) (im:List UInt8) (a:Int) (b:List UInt8) (nx e:Int):Prop where
 or:(a=im.length/\b= []/\nx=0/\e=2)\/(e=0/\Wj T im a b nx)
theorem Cut.head {im:List UInt8} {a:Int} {p:List UInt8} {s:Int} {st:Bool} {nx:Int} (h:Cut im a p s st nx):p.length<=128/\(st=true->0< p.length)/\∃ q,im.drop a.toNat=VD (p.length+if st then 32768 else 0)++q/\((p= []/\s=0/\st=false/\nx=a+3)\/(0< p.length/\nx=a+7+p.length/\(0<=s/\s<=4294967295)/\∃ r,q=aJ 4 s.toNat++(p++r))):=by
 rcases h.or with ⟨rfl,rfl,rfl,h4,r,h5⟩| ⟨h1,h2,h3,h4,r,h5⟩;exact ⟨by simp,by simp,r,h5,.inl ⟨rfl,rfl,rfl,h4⟩⟩;exact ⟨h2,λ_=>h1,_,h5,.inr ⟨h1,h3,h4,r,rfl⟩⟩
theorem ahD {l:Nat} {st:Bool} (h:l< 256):(di .and .i64 ((l:Int)+if st then 32768 else 0) 32768 !=0)=st/\di .andNot .i64 ((l:Int)+if st then 32768 else 0) 32768=l:=by
 obtain ⟨a,b,c,d⟩:=ahE h;cases st;simp [a,b];simp [c,d]
theorem afn {s:Int} (h0:0<=s) (h1:s<=4294967295):IntKind.wrap .u32 (bM (aJ 4 s.toNat))=s:=by
 rw [CO 4 s.toNat (by omega),nG h0];exact o8 (by simp [Lit.wf,IntKind.min,ku,eI,ij];omega)
theorem Wj.cut {T:List Int} {im:List UInt8} {a:Int} {b:List UInt8} {nx:Int} (h:Wj T im a b nx) (hk:∀ p,0<=cw T 0 p/\cw T 0 p<=4294967295):∃ p s st,Cut im a p s st nx/\((p= []/\b= [])\/(0< p.length/\0< b.length/\b.length<=128/\s=cw T 0 p/\(st=true/\p=b\/st=false/\DL p b))):=by
 obtain ⟨a0,a1,x,r,hx,hd,hn⟩:=h;rcases hx.or with ⟨rfl,rfl⟩| ⟨p,m,b0,b1,p0,p1,hm,rfl⟩;exact ⟨[],0,false,⟨a0,a1,.inl ⟨rfl,rfl,rfl,hn,r,hd⟩⟩,.inl ⟨rfl,rfl⟩⟩
 .have hl:((VD (p.length+m)++(aJ 4 (cw T 0 p).toNat++p)).length:Int)=7+p.length:=by rw [af,af,qU,aC];omega
  rw [hl] at hn;rw [aH,aH] at hd;rcases hm with ⟨rfl,he⟩| ⟨rfl,rfl⟩;exact ⟨p,cw T 0 p,false,⟨a0,a1,.inr ⟨p0,by omega,by omega,hk p,r,hd⟩⟩,.inr ⟨p0,b0,b1,rfl,.inr ⟨rfl,he⟩⟩⟩;exact ⟨p,cw T 0 p,true,⟨a0,a1,.inr ⟨p0,by omega,by omega,hk p,r,hd⟩⟩,.inr ⟨p0,b0,b1,rfl,.inl ⟨rfl,rfl⟩⟩⟩
theorem amh {op:BinOp} {x y:Int}:0<=di op .u32 x y/\di op .u32 x y<=4294967295:=by
 unfold di IntKind.wrap;simp only [ij,eI];have:∀ z:Int,0<=z % 4294967296/\z % 4294967296<=4294967295:=λz=>by omega
 exact this _
theorem yY (T:List Int) (s:Int) (p:List UInt8):0<=cw T s p/\cw T s p<=4294967295:=by unfold cw Jx;exact amh
open Go Go.RowKit
def XL (l:Nat) (d:Cl):HO->HO
 | .cells t cs=>.cells t (RT l d cs)
 | o=>o
def uM (n0:Nat):List Nat->SV->List HO->(SV->List HO->Prop)->Prop
 | [],sv,H',k=>k sv H'
 | l::r,sv,H',k=>match Nat.ble n0 l,lN H' l with
  | true,.sl _ e xs=>uM n0 r (ahB l (.d e xs) sv) ((H'.set l .gone).map (XL l (.d e xs))) k
  | true,.held _ e xs=>uM n0 r (ahB l (.d e xs) sv) (H'.map (XL l (.d e xs))) k
  | _,_=>uM n0 r sv H' k
def tyS:Option Ty->S1->S1
 | some e,.c c=>match e.of [c] with
  | some (x,[])=>(match e.cells x with
   | [c']=>.c c'
   | _=>.c c)
  | _=>.c c
 | some e,.agg cs=>match e.of cs with
  | some (x,[])=>.agg (e.cells x)
  | _=>.agg cs
 | none,x=>x
def ahy:List (Option Ty)->List S1->List S1
 | t::ts,x::r=>tyS t x::ahy ts r
 | _,l=>l
def tyV:List (Option Ty)->SV->SV
 | [t],.v x=>.v (tyS t x)
 | ts,.cZ l=>.cZ (ahy ts l)
 | _,x=>x
section
variable {E:Env} {g:World}
theorem R5 {t:Option Ty} {x:S1} {u:Value} (h:gw E g x u):gw E g (tyS t x) u:=by
 unfold tyS;split
 .rename_i e c;split
  .rename_i x hx;split
   .rename_i c' hc;obtain ⟨u1,u2,e1,h1,h2⟩:=of_cells e hx (show bB E g [c] [u] from ⟨u,[],rfl,h,rfl⟩);obtain rfl:u2= []:=h2;rw [a7] at e1;subst e1;have h3:=(eW E g e h1).1;rw [hc] at h3;obtain ⟨u',r,e2,h4,h5⟩:=h3;obtain rfl:=(List.cons.inj e2).1;exact h4
   .exact h
  .exact h
 .rename_i e cs;split
  .rename_i x hx;obtain ⟨us,h1,rfl⟩:=h;obtain ⟨u1,u2,e1,h3,h2⟩:=of_cells e hx h1;obtain rfl:u2= []:=h2;rw [a7] at e1;subst e1;exact ⟨_,(eW E g e h3).1,rfl⟩
  .exact h
 .exact h
theorem Mb:∀ {ts:List (Option Ty)} {l:List S1} {us:List Value},ic E g l us->ic E g (ahy ts l) us
 | _::_,_::_,_,⟨u,r,e,h1,h2⟩=>⟨u,r,e,R5 h1,Mb h2⟩
 | [],[],_,h=>h
 | [],_::_,_,h=>h
 | _::_,[],_,h=>h
theorem adf {ts:List (Option Ty)} {x:SV} {u:Value} (h:dq E g x u):dq E g (tyV ts x) u:=by
 unfold tyV;split;exact R5 h
 .obtain ⟨us,h1,h2⟩:=h;exact ⟨us,Mb h1,h2⟩
 .exact h
theorem BU {f:HO->HO} {F:List Atom} (hf:∀ (k:Nat) (o:HO) (h:Hp),(cJ E k o).sat g h->(cJ E k (f o)).sat g h):∀ {H:List HO} {k:Nat} {h:Hp},bt g (bh E k H++F) h->bt g (bh E k (H.map f)++F) h
 | [],_,_,s=>s
 | _::_,_,_,⟨h1,h2,ap,e,s1,s2⟩=>⟨h1,h2,ap,e,hf _ _ _ s1,BU hf s2⟩
theorem Hk {l:Nat} {d:Cl} (hd:∀ u,E[l]?=some u->cv E g d u) {k:Nat} {o:HO} {h:Hp} (s:(cJ E k o).sat g h):(cJ E k (XL l d o)).sat g h:=by
 cases o with
 | cells t cs=>
  obtain ⟨b,us,h1,h2,h3⟩:=s;exact ⟨b,us,h1,xY hd h2,h3⟩
 | _=>exact s
end
section
variable {P:Program} {I:cV->Prop} {f:FuncId} {args:List SV} {H:List HO} {Q Q':SV->List HO->Prop}
theorem Wp.alr {n0:Nat} {ls:List Nat} (h:Wp I P f args H λsv H'=>uM n0 ls sv H' Q):Wp I P f args H Q:=λW hW g w E F vs hs hv=>
 (h W hW g w E F vs hs hv).mono λv w' ⟨E1,g1,sv,H1,e1,m1,s1,r1,q⟩=>by
  have key:∀ (ls:List Nat) (g1:World) (sv:SV) (H1:List HO),bA g g1->Sat W E1 g1 w' H1 F->dq E1 g1 sv v->uM n0 ls sv H1 Q->∃ g2 sv2 H2,bA g g2/\Sat W E1 g2 w' H2 F/\dq E1 g2 sv2 v/\Q sv2 H2:=by
   intro ls
   induction ls with
   | nil=>intro g1 sv H1 m1 s1 r1 q;exact ⟨g1,sv,H1,m1,s1,r1,q⟩
   | cons l ls ih=>
    intro g1 sv H1 m1 s1 r1 q;unfold uM at q;split at q
    .rename_i t e xs _ eu;have eJ:l< H1.length:=by
      rcases eQ l H1.length with z| z;exact z;rw [nT z] at eu;cases eu
     have hl:H1[l]?=some (.sl t e xs):=by
      rw [ak eJ,<-eu,mD (ak eJ)]
     obtain ⟨u,hE⟩:∃ u,E1[l]?=some u:=⟨E1[l]'(by rw [s1.len];exact eJ),ak _⟩;letI:=e.rep;have H2:SL W g1 w' (py e t u xs::dD (bh E1 0 H1++F) l):=(s1.pick hl).cE λk ⟨h1,h2,ap,q,⟨u',x1,x2⟩,x3⟩=>⟨h1,h2,ap,q,by
      rw [hE] at x1;obtain rfl:=aj x1;exact x2,x3⟩
     obtain ⟨g2,m2,H3,hi⟩:=SL.qy (α:=e.den) H2;have S3:Sat W E1 g2 w' (H1.set l .gone) F:=Sat.back .gone s1.len hl (H3.cE λk s2=>⟨λ_=>none,k,λ_=>.inl rfl,rfl,trivial,s2⟩);have hd:∀ u',E1[l]?=some u'->cv E1 g2 (.d e xs) u':=λu' hu=>by
      rw [hE] at hu;obtain rfl:=aj hu;exact hi
     have S4:Sat W E1 g2 w' ((H1.set l .gone).map (XL l (.d e xs))) F:=⟨S3.sl.cE λ_ x=>BU (λ_ _ _=>Hk hd) x,by rw [bL];exact S3.len⟩;exact ih g2 _ _ (m1.trans m2) S4 (Ma hd (r1.mono (bz.refl _) m2)) q
    .rename_i t e xs _ eu;have eJ:l< H1.length:=by
      rcases eQ l H1.length with z| z;exact z;rw [nT z] at eu;cases eu
     have hl:H1[l]?=some (.held t e xs):=by
      rw [ak eJ,<-eu,mD (ak eJ)]
     obtain ⟨_,_,_,_,h1,h2,_,_,⟨u,hE,hi⟩,_⟩:=s1.pick hl;have hd:∀ u',E1[l]?=some u'->cv E1 g1 (.d e xs) u':=λu' hu=>by
      rw [hE] at hu;obtain rfl:=aj hu;exact hi
     have S4:Sat W E1 g1 w' (H1.map (XL l (.d e xs))) F:=⟨s1.sl.cE λ_ x=>BU (λ_ _ _=>Hk hd) x,by rw [bL];exact s1.len⟩;exact ih g1 _ _ m1 S4 (Ma hd r1) q
    .exact ih g1 sv H1 m1 s1 r1 q
  obtain ⟨g2,sv2,H2,m2,s2,r2,q2⟩:=key ls g1 sv H1 m1 s1 r1 q;exact ⟨E1,g2,sv2,H2,e1,m2,s2,r2,q2⟩
theorem Wp.lY (ts:List (Option Ty)) (ls:List Nat) (h:Wp I P f args H λsv H'=>uM H.length ls sv H' λsv H'=>H.length<=H'.length/\Q ((tyV ts sv).fw (iw (bP H.length))) (Lx H.length H')):Wp I P f args H Q:=
 Wp.sel (Wp.res (Wp.alr (n0:=H.length) (ls:=ls) (h.mono λsv H' q=>by
  have key:∀ (ls:List Nat) (sv:SV) (H':List HO),uM H.length ls sv H' (λsv H'=>H.length<=H'.length/\Q ((tyV ts sv).fw (iw (bP H.length))) (Lx H.length H'))->uM H.length ls sv H' (λsv H'=>∃ JZ,(∀ E g v,dq E g sv v->dq E g JZ v)/\∃ ls:List Nat,ls.take H.length=bP H.length/\ls.Nodup/\(∀ l∈ls,l< H'.length)/\Q (JZ.fw (iw ls)) (ls.map λl=>(lN H' l).fw (iw ls))):=by
   intro ls
   induction ls with
   | nil=>exact λsv H' ⟨hl,q⟩=>⟨tyV ts sv,λE g v h=>adf h,bP H.length,by rw [O2 _ _ (az _)],List.nodup_range,λl xe=>by have:=dm.1 xe;omega,q⟩
   | cons l ls ih=>
    intro sv H' q;unfold uM at q ⊢;split at q;exact ih _ _ q;exact ih _ _ q;exact ih _ _ q
  exact key ls sv H' q)))
theorem Wp.afm (h:Wp I P f args H λsv H'=>Q sv (H'.map λ_=>HO.gone)):Wp I P f args H Q:=
 h.fin λW E g w F H' sv s q=>⟨g,_,bA.refl g,⟨s.sl.cE λ_ x=>by
  have key:∀ (H:List HO) (k:Nat) (h:Hp),bt g (bh E k H++F) h->bt g (bh E k (H.map λ_=>HO.gone)++F) h:=by
   intro H
   induction H with
   | nil=>exact λ_ _ s=>s
   | cons o H ih=>exact λk h ⟨h1,h2,ap,e,s1,s2⟩=>⟨h1,h2,ap,e,trivial,ih _ _ s2⟩
  exact key _ _ _ x,by rw [bL];exact s.len⟩,q⟩
end
end Go.Lm

namespace Go.Proofs
open Go Go.Lm Go.RowKit
set_option maxRecDepth 1000000
abbrev afL:Ty:=.pair (.sl .u8) (.pair (.int .u32) (.pair .bool (.pair (.int .i64) .unit)))
def aja:Ct:=cI λn=>c0 λQ=>Q (.v (.agg [.k (.int .u8 (GD n)),.k (.int .u8 (GC n)),.k (.int .u8 (DX n))])) []
def agw:=agx.add ag6
abbrev Pg (y0:Int):=di BinOp.xor .u8 (if eI .u8=true then (-1:Int) else ku .u8) (di BinOp.xor .u8 (IntKind.wrap .u8 y0) (IntKind.wrap .u8 (kO .i64 y0 iA)))
abbrev jL:=(↑eX:Int)
abbrev Ia (y0:Int):=IntKind.wrap .u8 (kO .i64 y0 iA)
def Rx (n:Int):dE:=λQ=>aI .i64 n->aI .u8 (qC n)->ah<=iA/\(aI .i64 (kO .i64 n iA)->aI .u8 (Ia n)->ah<=ah/\ah< jL/\ah<=a8/\a8< jL/\(aI .u8 (di BinOp.xor .u8 (qC n) (Ia n))->aI 
 .u8 (Pg n)->ah<=du/\du< jL/\Q (SV.v (S1.agg [.k (.int .u8 (qC n)),.k (.int .u8 (Ia n)),.k (.int .u8 (Pg n))])) []))
theorem ahi:cM 140 aja:=fe<| nK λn=>iB λQ h=>by
 refine Wp.dL agw fq ⟨[],[]⟩ Tryz.f140 (Rx n) (hold:=[92]) ?_;unfold Rx Ia qC jL Pg ah a8 du iA eX;exact λ_ _=>⟨by decide,λ_ _=>⟨by decide,by decide,by decide,by decide,λ_ _=>⟨by decide,by decide,h⟩⟩⟩
def G0:Ct
 | [.v (.c cx),.v (.c (.k (.int .i64 m))),.v (.c (.p 0 0)),.v (.c (.p 1 0))],[.cells 174 [.k (.int .i64 0),.k (.slice none 0 0)],.cells 84 [.de (.int .u32) T 0 0]],Q=>(match (Ty.sl Ty.u8).of [cx] with
  | some (x,[])=>T.length=256/\x.length<=128/\(0<=m/\m<=32768)/\((0<=cw T 0 x/\cw T 0 x<=4294967295)->Q (.cZ [.c (.d .u8 (Av T x m)),.c (.k (.int .i64 0))]) [.cells 174 [.k (.int .i64 0),.JY],.cells 84 [.de (.int .u32) T 0 0]])
  | _=>False)
 | _,_,_=>False
def agv:=agw.add ahi
abbrev Mt (y0:List (Ty.u8).den) (y1:Int) (y2:List Int):=[]++ [ax (aA (GD ((aF y0)+y1))),ax (aA (GC ((aF y0)+y1))),ax (aA (DX ((aF y0)+y1)))]++aJ cX (aA (cw y2 ah y0))++y0
abbrev Gb (y0:List (Ty.u8).den) (y1:Int):=[]++ [ax (aA (GD ((aF y0)+y1))),ax (aA (GC ((aF y0)+y1))),ax (aA (DX ((aF y0)+y1)))]
abbrev eU:=(9223372036854775807:Nat)
abbrev Iw (y0:List Int) (y1:List (Ty.u8).den) (R:Prop):=aI .u32 (cw y0 ah y1)->ah=ah/\(a8<=cH/\cH<=cH)/\(0<=cw y0 ah y1/\cw y0 ah y1< 256 ^ cX)/\R
abbrev kh:=(100000000000:Nat)
abbrev jc (y0:List (Ty.u8).den) (R:Prop):=List.length y0<=100000000/\R
def Bk (x:(List (Ty.u8).den)) (m:Int) (T:List Int):dE:=λQ=>cW x (aI .i64 m->aN (dv x)->aI .i64 ((aF x)+m)/\(aI .u8 (GD ((aF x)+m))->aI .u8 (GC ((aF x)+m))->aI .u8 (DX ((aF x)+m))->eX<=eU/\0<=cq none 0/\cq none 0< jL/\ 
 cq none 0<=cq none jL/\cq none jL<=jL/\bu (bC<=kh/\List.length [ax (aA (GD ((aF x)+m))),ax (aA (GC ((aF x)+m))),ax (aA (DX ((aF x)+ 
 m)))]<=100000000/\(aN (dv x)->br (decide ((aF x)>ah)) (eG T (Iw T x (List.length (Gb x m)<=100000000000/\bu (List.length ([]++ [ax (aA (GD ((aF x)+m))),ax (aA (GC 
 ((aF x)+m))),ax (aA (DX ((aF x)+m)))]++aJ cX (aA (cw T ah x)))<=100000000000/\jc x (bu (List.length (Mt x m T)<=100000000000/\(List.length (Mt x m T)<=9223372036854775807-> 
 aI .i64 0->Q (SV.cZ [S1.c (Cl.d Ty.u8 (Mt x m T)),.c (.k bn)]) [.cells 174 [.k bn,.o 2],.cells 84 [Cl.de (.int .u32) T ah bC],.sl 5 Ty.u8 (Mt x m T)]))))))) (bu (List.length (Gb x m)<=100000000000/\ 
 (List.length (Gb x m)<=9223372036854775807->aI .i64 0->Q (SV.cZ [S1.c (Cl.d Ty.u8 (Gb x m)),.c (.k bn)]) [.cells 174 [.k bn,.o 2],.cells 84 [Cl.de (.int .u32) T ah bC],.sl 5 Ty.u8 (Gb x m)])))))))
theorem Uj:cM 139 G0:=by
 intro args H Q h;unfold G0 at h;split at h;rotate_left;cases h;rename_i cx m T;split at h;rotate_left;cases h;rename_i x hx;refine Wp.said (args':=[.c (.d Ty.u8 x),.int m,.v (.c (.p 0 0)),.v (.c (.p 1 0))]) (λE g=>bE.dd (dR hx) (bE.dd (λ_ h=>h) (bE.dd (λ_ h=>h) (bE.dd (λ_ h=>h) (λ_ h=>h))))) ?_;clear hx;refine Wp.lY [some (.sl .u8),none] [] ?_;refine Wp.dL agv fq ⟨[],[]⟩ Tryz.f139 (Bk x m T) (hold:=[92]) ?_;unfold Bk jc jL kh bu Iw dv eG eU Gb Mt cW bn ah a8 cH aF aN bC bN eX cX;obtain ⟨hT,hx,⟨m0,m1⟩,h⟩:=h;intro _ _ _;refine ⟨by unfold aI;omega,λ_ _ _=>⟨by decide,by decide,by decide,by decide,by decide,rfl,by decide,by show 3<=100000000;omega,λ_=>aw (λhc=>⟨hT,λhk=>?_⟩) (λhc=>?_)⟩⟩
 .have hc:(x.length:Int)>0:=of_decide_eq_true hc;have gD:¬x= []:=λe=>by rw [e] at hc;simp at hc
  have hk:0<=cw T 0 x/\cw T 0 x<=4294967295:=hk;rw [IJ gD] at h;refine ⟨rfl,⟨by decide,by decide⟩,⟨hk.1,by have:=hk.2;show _< (4294967296:Int);omega⟩,by simp only [af,aq,aL];omega,rfl,by simp only [af,aC,aq,aL];omega,by omega,rfl,by simp only [af,aC,aq,aL];omega,λ_ _=>⟨by simp,?_⟩⟩;have h2:=h hk;rw [<-aH] at h2;exact h2
 .have hc:¬(x.length:Int)>0:=of_decide_eq_false hc;have he:x= []:=aK (by omega);subst he;have h2:=h (yY T 0 []);unfold Av at h2;rw [if_pos rfl,a7] at h2;exact ⟨rfl,by simp only [af,aq,aL];omega,λ_ _=>⟨by simp,h2⟩⟩
def al3:Ct:=cT λT=>cD .u8 λb=>c0 λQ=>T.length=256/\b.length<=128/\∀ x,DK T b x->Q (.cZ [.c (.d .u8 x),.c (.k (.int .i64 0))]) []
def agu:=agv.add Uj
abbrev kU:=(32768:Int)
def Xn (T:List Int) (b:(List (Ty.u8).den)):dE:=λQ=>cW b (aN (dv b)->br (decide ((aF b)>bI)) (sC Q) (aN (dv b)->br ((aF b)==0) (eG T (bC<=jf/\(ah<=ah/\ah<=kU)/\(0<=cw T ah []/\cw T ah []<= 
 4294967295->aN (List.length (Av T [] ah))->aI .i64 0->Q (SV.cZ [S1.c (Cl.d Ty.u8 (Av T [] ah)),.c (.k bn)]) []))) (List.length b<=4096/\∀ (y:List UInt8),DL y b->List.length y<=2*List.length b->db y (aI 
 .i64 0->db y (aN (dv b)->br (decide ((aF y)< (aF b))) (eG T (List.length y<=128/\(ah<=ah/\ah<=kU)/\(0<=cw T ah y/\cw T ah y<=4294967295->aN (List.length (Av T y ah))->aI 
 .i64 0->Q (SV.cZ [S1.c (Cl.d Ty.u8 (Av T y ah)),.c (.k bn)]) []))) (eG T (List.length b<=128/\(ah<=kU/\kU<=kU)/\(0<=cw T ah b/\cw T ah b<=4294967295->aN (List.length (Av T b 
 kU))->aI .i64 0->Q (SV.cZ [S1.c (Cl.d Ty.u8 (Av T b kU)),.c (.k bn)]) []))))))))
theorem aks:cM 89 al3:=fe<| okT λT=>kC λb=>iB λQ h=>by
 refine Wp.lY [some (.sl .u8),none] [] ?_;refine Wp.dL agu fq ⟨[],[]⟩ Tryz.f89 (Xn T b) (hold:=[92]) ?_;unfold Xn kU sC dv db eG cW cA bn ah bI aF aN bC jf bN;obtain ⟨hT,hb,h⟩:=h;refine λ_ _=>aw (λhc=>absurd (of_decide_eq_true hc) (by omega)) (λ_=>λ_=>aw (λhc=>?_) (λhc=>?_))
 .have hc:(b.length:Int)=0:=eq_of_beq hc;have he:b= []:=aK (by omega);subst he;refine ⟨hT,by decide,by decide,λ_ _ _=>⟨az _,?_⟩⟩;rw [Ym];exact h _ ⟨.inl ⟨rfl,rfl⟩⟩
 .have hc:¬(b.length:Int)=0:=by simpa using hc
  refine ⟨by omega,λy hy hyl _ _ _ _=>aw (λhd=>?_) (λhd=>?_)⟩
  .have hd:(y.length:Int)< b.length:=of_decide_eq_true hd;have hy0:y≠ []:=λe=>by
    subst e;have:=hy.done;rw [wk] at this;have:=aj this;subst this;simp at hd
   have:=List.length_pos_iff.2 hy0;refine ⟨hT,by omega,by decide,λ_ _ _=>⟨az _,?_⟩⟩;rw [IJ hy0];exact h _ ⟨.inr ⟨y,0,by omega,hb,by omega,by omega,.inl ⟨rfl,hy⟩,rfl⟩⟩
  .have hb0:b≠ []:=λe=>by rw [e] at hc;simp at hc
   refine ⟨hT,hb,by decide,λ_ _ _=>⟨az _,?_⟩⟩;rw [IJ hb0];exact h _ ⟨.inr ⟨b,32768,by omega,hb,by omega,az _,.inr ⟨rfl,rfl⟩,rfl⟩⟩
def ajc:Ct:=cD .u8 λb=>cI λa=>c0 λQ=>b.length<=100000000/\∃ p s st nx e,aj0 b a p s st nx e/\Q (.cZ [.agg (afL.cells (p,s,st,nx,())),.c (.k (.int .i64 e))]) []
def agt:=agu.add aks
abbrev zN (y0:SV->List HO->Prop):=y0 (SV.cZ [S1.agg [.k cA,.k (.int .u32 ah),.k (.bool false),.k bn],.c (.k (.int .i64 2))]) []
abbrev rA (y0:Int) (y1:List (Ty.u8).den):=jm (List.drop (bc y0) y1) lp
abbrev F8 (y0:Int) (y1:List (Ty.u8).den):=aB (kB eX) [rowOf (rA y0 y1) eX bC] ah
abbrev vA (y0:Int) (y1:List (Ty.u8).den):=kT (List.drop (bc y0) y1) lp
abbrev Ph (y0) (y1:Int) (y2:List (Ty.u8).den):=((GD y0==(↑(cF (F8 y1 y2).1):Int)&& (GC y0==(↑(cF (F8 y1 y2).2.1):Int)&& (DX y0==(↑(cF (F8 y1 y2).2.2.1):Int)&& true)),()),())
abbrev Iq (y0:Int) (y1:List (Ty.u8).den):=Aq .i64 (↑(cF (aB Ty.u8 (rA y0 y1) a8)):Int) iA
abbrev yc (y0:Int) (y1:List (Ty.u8).den):=List.drop 4 (vA y0 y1)
def Rz (b:(List (Ty.u8).den)) (a:Int):dE:=λQ=>cW b (aI .i64 a->br (dj a) (zN Q) (aN (dv b)->br (decide (a>(aF b))) (zN Q) (0<=a/\a<=(aF b)/\fp (List.length (oD a b))/\bu (ah<=lp/\fp (List.length (oD a b))/\(aN 
 (List.length (rA a b))->aI .i64 (F5 (oD a b) lp)->br (F5 (oD a b) lp !=0) (zN Q) (cY (λk=>ah<=ah/\ah< (a6 (rA a b))/\(Ty.ok Ty.u8 (aB Ty.u8 (rA a b) ah)->ah<=a8/\a8< 
 (a6 (rA a b))/\(Ty.ok Ty.u8 (aB Ty.u8 (rA a b) a8)->ah<=iA/\(aI .i64 (Iq a b)->aI .i64 (di BinOp.or .i64 (↑(cF (aB Ty.u8 (rA a b) ah)):Int) (Iq a b))->k ((di BinOp.or .i64 
 (↑(cF (aB Ty.u8 (rA a b) ah)):Int) (Iq a b),()),()))))) λi=>cY (λk=>(aI .u8 (GD i.1.1)->aI .u8 (GC i.1.1)->aI .u8 (DX i.1.1)->3<=List.length (rA a b)/\(Ty.ok (kB eX) (F8 a b)->k 
 (Ph i.1.1 a b)))/\3<=List.length (rA a b)/\(Ty.ok (kB eX) (F8 a b)->aI .u8 (GD i.1.1)->aI .u8 (GC i.1.1)->aI .u8 (DX i.1.1)->k (Ph i.1.1 a b))) λcu=>aI .i64 (di BinOp.and .i64 i.1.1 kU)->aI 
 .i64 (a+3)/\cY (λk=>aI .i64 (di BinOp.andNot .i64 i.1.1 kU)->k ((di BinOp.andNot .i64 i.1.1 kU,()),())) λgC=>cY (λk=>br (!cu.1.1) (zN Q) (br (decide (gC.1.1>128)) (zN Q) (br (gC.1.1== 
 0) (br (di BinOp.and .i64 i.1.1 kU !=0) (zN Q) (k ((),()))) (k ((),()))))) λjT=>cY (λk=>br (decide (gC.1.1>0)) (F5 (oD a b) lp=ah/\a8<=cH/\cH<=cH/\cH<=(a6 (vA a b))/\ 
 fp (List.length (vA a b))/\(aI .i64 (bM (List.take cX (vA a b)))->aI .u32 (IntKind.wrap .u32 (bM (List.take cX (vA a b))))->bu (0<=gC.1.1/\fp (List.length (yc a b))/\(List.length (jm (yc a 
 b) gC.1.1)<=9223372036854775807->aI .i64 (cH+gC.1.1)/\aI .i64 (a+3+(cH+gC.1.1))/\k ((),(F5 (yc a b) gC.1.1,kT (yc a b) gC.1.1,()),(jm (yc a b) gC.1.1,IntKind.wrap .u32 (bM (List.take 
 cX (vA a b))),di BinOp.and .i64 i.1.1 kU !=0,a+3+(cH+gC.1.1),()),()))))) (k ((),(F5 (oD a b) lp,kT (oD a b) lp,()),([],ah,di BinOp.and .i64 i.1.1 kU !=0,a+3,()),()))) fun 
 i=>aI .i64 i.2.1.1->br (i.2.1.1 !=0) (zN Q) (Q (SV.cZ [S1.agg [Cl.d Ty.u8 i.2.2.1.1,.k (.int .u32 i.2.2.1.2.1),.k (.bool i.2.2.1.2.2.1),.k (aE i.2.2.1.2.2.2.1)],.c (.k bn)]) [])))))))
theorem ahl:cM 109 ajc:=fe<| kC λb=>nK λa=>iB λQ h=>by
 refine Wp.lY [some afL,none] [] ?_;refine Wp.dL agt fq ⟨[],[(9,⟨[(8,.int .i64)],[]⟩),(10,⟨[(9,.bool)],[]⟩),(12,⟨[(8,.int .i64)],[]⟩),(14,⟨[],[]⟩),(18,⟨[],[(1,.cells 187 [.int .i64,.d .u8]),(2,.cells 197 [.d .u8,.int .u32,.bool,.int .i64])]⟩)]⟩ Tryz.f109 (Rz b a) (hold:=[92]) ?_;unfold Rz yc kU oD bu Iq dv Ph dj vA F8 rA zN cW cA bn bc aE ah a8 lp cH iA a6 aF fp aN bC eX cX;obtain ⟨hl,p,s,st,nx,e,hE,h⟩:=h;have ha:0<=a/\a<=(b.length:Int):=by
  rcases hE.or with ⟨h1,_⟩| ⟨_,hC⟩;omega;exact ⟨hC.at0,hC.at1⟩
 refine λ_ _=>aw (λhc=>?_) (λhc=>λ_=>aw (λhd=>?_) (λhd=>?_))
 .have hc:a< 0:=of_decide_eq_true hc;omega
 .have hd:a>b.length:=of_decide_eq_true hd;omega
 have hc:¬a< 0:=of_decide_eq_false hc;have hd:¬a>(b.length:Int):=of_decide_eq_false hd;have hz:(b.drop a.toNat).length=b.length - a.toNat:=aW;rcases hE.or with ⟨h1,rfl,rfl,rfl,rfl,rfl⟩| ⟨rfl,hC⟩
 .have e1:b.drop a.toNat= []:=List.drop_of_length_le (by omega);rw [e1];exact ⟨by omega,by omega,by decide,rfl,by decide,by decide,λ_ _=>aw (λ_=>⟨az _,h⟩) (λhq=>by cases hq)⟩
 obtain ⟨hp,rR,q,hdr,hq⟩:=hC.head;obtain ⟨n,hn⟩:∃ n:Int,n=p.length+if st then 32768 else 0:=⟨_,rfl⟩
 have hn0:0<=n/\n< 65536:=by cases st<;>simp at hn<;>omega
 have hsn:=ahD (st:=st) (show p.length< 256 by omega);rw [<-hn] at hdr hsn;have hql:q.length+3<=b.length:=by
  have:=congrArg List.length hdr;rw [af,qU] at this;omega
 obtain ⟨r1,r2,r3⟩:=H8 (x:=VD n) (y:=q) (n:=3) rfl;rw [hdr,r1,r2,r3];refine ⟨by omega,by omega,by rw [af,qU];omega,rfl,by decide,by rw [af,qU];omega,λ_ _=>aw (λhq=>by cases hq) (λ_=>?_)⟩;refine cY.intro (λi=>i.1.1=n) ⟨by decide,by rw [qU];decide,λ_=>⟨by decide,by rw [qU];decide,λ_=>⟨by decide,λ_ _=>ad0 hn0.1 hn0.2⟩⟩⟩ ?_;rintro ⟨⟨n',_⟩,_⟩ e;obtain rfl:n'=n:=e;simp only;refine cY.intro (λi=>i.1.1=true) ⟨λ_ _ _=>⟨az 3,λ_=>S7 _⟩,az 3,λ_ _ _ _=>S7 _⟩ ?_;rintro ⟨⟨g,_⟩,_⟩ e;obtain rfl:g=true:=e;simp only;rw [hsn.1];refine λ_=>⟨by unfold aI;omega,cY.intro (λi=>i.1.1=p.length) (λ_=>hsn.2) ?_⟩;rintro ⟨⟨l,_⟩,_⟩ e;obtain rfl:l=p.length:=e;simp only;refine cY.intro (λ_=>True) (aw (λhq=>by cases hq) (λ_=>aw (λhq=>absurd (of_decide_eq_true hq) (by omega)) (λ_=>aw (λhz=>aw (λhs=>?_) (λ_=>trivial)) (λ_=>trivial)))) ?_
 .have hz:(p.length:Int)=0:=eq_of_beq hz;have:=rR hs;omega
 intro _ _;refine cY.intro (λi=>i.2.1.1=0/\i.2.2.1=(p,s,st,nx,())) (aw (λhz=>?_) (λhz=>?_)) ?_
 .have hz:(p.length:Int)>0:=of_decide_eq_true hz;rcases hq with ⟨rfl,_⟩| ⟨p0,rfl,hs,r,rfl⟩
  .simp at hz
  have e4:List.take 4 (aJ 4 s.toNat++(p++r))=aJ 4 s.toNat:=List.take_left' (aC _ _);have e5:List.drop 4 (aJ 4 s.toNat++(p++r))=p++r:=List.drop_left' (aC _ _);obtain ⟨q1,q2,q3⟩:=H8 (x:=p) (y:=r) (n:=p.length) rfl;rw [af,aC] at hql;rw [e4,e5,q1,q2,q3,afn hs.1 hs.2];have hpr:(p++r).length=p.length+r.length:=af;refine ⟨trivial,by decide,by decide,by rw [af,aC];omega,by rw [af,aC];omega,λ_ _=>⟨trivial,by omega,by omega,λ_=>⟨by unfold aI;omega,by unfold aI;omega,rfl,?_⟩⟩⟩;rw [show a+3+(4+(p.length:Int))=a+7+p.length by omega]
 .have hz:¬(p.length:Int)>0:=of_decide_eq_false hz;rcases hq with ⟨rfl,rfl,rfl,rfl⟩| ⟨p0,_⟩
  .exact ⟨rfl,rfl⟩
  .omega
 rintro ⟨_,⟨c,y,_⟩,cc,_⟩ ⟨e1,e2⟩;simp only at e1 e2;subst e1 e2;exact λ_=>aw (λhq=>by cases hq) (λ_=>⟨az _,h⟩)
def aiU:Ct:=cD .u8 λb=>cI λa=>c0 λQ=>∃ p s st nx,b.length<=100000000/\Cut b a p s st nx/\Q (.cZ [.c (.k (.int .i64 nx)),.c (.k (.int .i64 0))]) []
def ags:=agt.add ahl
def Rc (b:(List (Ty.u8).den)) (a:Int):dE:=λQ=>cW b (aI .i64 a->jc b (∃ p s st nx e,aj0 b a p s st nx e/\(aN (bQ p)->aI .u32 s->cn nx e (Q (.cZ [.c (.k (aE nx)),.c (.k (aE e))]) []))))
theorem ag0:cM 62 aiU:=fe<| kC λb=>nK λa=>iB λQ h=>by
 refine Wp.dL ags fq ⟨[],[]⟩ Tryz.f62 (Rc b a) (hold:=[92]) ?_;unfold Rc jc cn bQ cW aE aN;obtain ⟨p,s,st,nx,hl,hC,h⟩:=h;exact λ_ _=>⟨hl,p,s,st,nx,0,⟨.inr ⟨rfl,hC⟩⟩,λ_ _ _ _=>h⟩
def aiT:Ct:=cT λT=>cD .u8 λb=>cI λa=>c0 λQ=>T.length=256/\b.length<=100000000/\∃ z nx e,FrE T b a z nx e/\Q (.cZ [.c (.d .u8 z),.c (.k (.int .i64 nx)),.c (.k (.int .i64 e))]) []
def agq:=ags.add ag0
abbrev O4 (y0:SV->List HO->Prop):=y0 (.cZ [.c (.k cA),.c (.k bn),.c (.k (.int .i64 2))]) []
def Ra (T:List Int) (b:(List (Ty.u8).den)) (a:Int):dE:=λQ=>cW b (aI .i64 a->jc b (∃ p s st nx e,aj0 b a p s st nx e/\(aN (bQ p)->aI .u32 s->cn nx e (br (e !=0) (Q (.cZ [.c (.k cA),.c (.k bn),.c (.k (aE e))]) []) (aN (bQ p)->br ((aF p)==0) 
 (Q (.cZ [.c (.k cA),.c (.k (aE nx)),.c (.k bn)]) []) (eG T (aI .u32 (cw T ah p)->br (cw T ah p !=s) (O4 Q) (br st (Q (SV.cZ [S1.c (Cl.d Ty.u8 p),.c (.k (aE nx)),.c (.k bn)]) []) (∃ z,nJ p []= 
 some z/\(aF z)<=bI/\bI<=(1000000:Int)/\(aN (bQ z)->aI .i64 0->aN (bQ z)->br ((aF z)==0) (O4 Q) (Q (SV.cZ [S1.c (Cl.d Ty.u8 z),.c (.k (aE nx)),.c (.k bn)]) [])))))))))))
theorem agZ:cM 63 aiT:=fe<| okT λT=>kC λb=>nK λa=>iB λQ h=>by
 refine Wp.lY [some (.sl .u8),none,none] [] ?_;refine Wp.dL agq fq ⟨[],[]⟩ Tryz.f63 (Ra T b a) (hold:=[92]) ?_;unfold Ra O4 jc cn eG bQ cW cA bn aE ah bI aF aN bN;obtain ⟨hT,hl,z,nx,e,hE,h⟩:=h;refine λ_ _=>⟨hl,?_⟩;rcases hE.or with ⟨h1,rfl,rfl,rfl⟩| ⟨rfl,hF⟩;exact ⟨[],0,false,0,2,⟨.inl ⟨h1,rfl,rfl,rfl,rfl,rfl⟩⟩,λ_ _ _ _=>aw (λ_=>⟨az _,h⟩) (λq=>by cases q)⟩;obtain ⟨p,s,st,hC,hk⟩:=hF.cut (yY T 0);refine ⟨p,s,st,nx,0,⟨.inr ⟨rfl,hC⟩⟩,λ_ _ _ _=>aw (λq=>by cases q) (λ_=>λ_=>aw (λhq=>?_) (λhq=>⟨hT,λ_=>aw (λhs=>?_) (λ_=>aw (λht=>?_) (λht=>?_))⟩))⟩
 .have hq:(p.length:Int)=0:=eq_of_beq hq;rcases hk with ⟨rfl,rfl⟩| ⟨p0,_⟩
  .exact ⟨az _,h⟩
  .omega
 all_goals
  have hq:¬(p.length:Int)=0:=by simpa using hq
  rcases hk with ⟨rfl,_⟩| ⟨p0,b0,b1,rfl,hk⟩;exact absurd rfl hq
 .simp at hs
 .rcases hk with ⟨_,rfl⟩| ⟨rfl,_⟩
  .exact ⟨az _,h⟩
  .cases ht
 .rcases hk with ⟨rfl,_⟩| ⟨_,he⟩
  .cases ht
  .exact ⟨z,he.done,by omega,by decide,λ_ _ _=>aw (λhz=>by have:(z.length:Int)=0:=eq_of_beq hz;omega) (λ_=>⟨az _,h⟩)⟩
end Go.Proofs

namespace Go.Lm
open Go Go.RowKit
section
variable {P:Program} {I:cV->Prop} {f:FuncId} {Q:SV->List HO->Prop} {tE:TypeId} {n:Int}
theorem Wp.aiE (h0:∀ w,Calls P f #[.slice none 0 0,.int .i64 0] w λe w'=>e= .returned (.slice none 0 0)/\w'=w)
  (h1:∀ (n:Nat) (w:World),0< n->n<=1000000000->Calls P f #[.slice none 0 0,.int .i64 n] w λe w'=>∃ (G:Nat) (cs:Array Value),e= .returned (.slice (some ⟨w.heap.size,0,none⟩) 0 G)/\w'=w.drew.alloc (.cells cs tE)/\cs.size=G/\G<=maxLen)
  (hn:0<=n/\n<=1000000000) (hq:Q (.c (.o 0)) [.sl tE .u8 []]):Wp I P f [.v (.c (.k (.slice none 0 0))),.v (.c (.k (.int .i64 n)))] [] Q:=by
 intro W hW g w E F vs S DQ;obtain ⟨_,_,rfl,⟨rfl,_⟩,_,_,rfl,⟨rfl,_⟩,hz⟩:=DQ;rw [show _= [] from hz];have hE:E= []:=aK S.len;subst hE;letI:=Ty.u8.rep;by_cases e0:n=0
 .subst e0;refine Calls.mono (h0 w) ?_;rintro e w' ⟨rfl,rfl⟩;refine ⟨_,rfl,[.slice none 0 0],g,.c (.o 0),_,bz.app [] _,bA.refl g,⟨?_,rfl⟩,⟨rfl,none,0,0,rfl⟩,hq⟩;have H:=SL.zI Ty.u8.den tE S.sl;exact H.cE λh ⟨k1,k2,ap,e,s1,s2⟩=>⟨k1,k2,ap,e,⟨_,rfl,s1⟩,s2⟩
 .obtain ⟨m,rfl⟩:∃ m:Nat,n=m:=⟨n.toNat,by omega⟩;refine Calls.mono (h1 m w (by omega) (by omega)) ?_;rintro e w' ⟨G,cs,rfl,rfl,hs,hG⟩;refine ⟨_,rfl,[.slice (some ⟨w.heap.size,0,none⟩) 0 G],g,.c (.o 0),_,bz.app [] _,bA.refl g,⟨?_,rfl⟩,⟨rfl,_,0,G,rfl⟩,hq⟩;have H:=SL.new (S.sl.le (Le.drew w)) (xF.mk' w.drew (.cells cs tE));have H2:=SL.wo (size:=1) (cap:=G) 0 H (cr _) hG (by rw [hs,Nat.mul_one]);have H3:SL W g (w.drew.alloc (.cells cs tE)) (BN (α:=Ty.u8.den) tE (.slice (some ⟨w.heap.size,0,none⟩) 0 G) []::(bh [] 0 []++F)):=SL.XQ (cs:=[]) trivial (by rw [Nat.zero_mul,List.take_zero] at H2;exact H2);exact H3.cE λh ⟨k1,k2,ap,e,s1,s2⟩=>⟨k1,k2,ap,e,⟨_,rfl,s1⟩,s2⟩
end
end Go.Lm

namespace Go.Proofs
open Go Go.Shelf Go.Lm
set_option maxRecDepth 1000000
def Tryz.VE:Go.Shelf.Ren:=⟨fun| 4=>142| n=>n,fun| 22=>35| 25=>5| 3=>3| 4=>4| 9=>9| 20=>20| 0=>0| n=>n,fun| n=>n⟩
theorem Tryz.afH:Go.Proofs.Lays8.n4 ck Tryz.VE:= {
 mixed:=by kernel_rfl
 f4:=⟨"slices.Grow[[]byte,byte]",by kernel_rfl,Tryz.func142.trans (congrArg some (by kernel_rfl))⟩
 t0:=Tryz.underlying0
 a0:=Tryz.isAgg0
 z0:=Tryz.sizeOf0
 v0:=Tryz.zeroValue0
 t3:=o5
 a3:=Tryz.isAgg3
 z3:=Tryz.sizeOf3
 v3:=Tryz.zeroValue3
 t4:=Tryz.underlying4
 a4:=Tryz.isAgg4
 z4:=Tryz.sizeOf4
 v4:=Tryz.zeroValue4
 t9:=Tryz.underlying9
 a9:=Tryz.isAgg9
 z9:=Tryz.sizeOf9
 v9:=Tryz.zeroValue9
 t20:=Tryz.underlying20
 a20:=Tryz.isAgg20
 z20:=Tryz.sizeOf20
 v20:=Tryz.zeroValue20
 t22:=Tryz.underlying35
 a22:=Tryz.isAgg35
 z22:=Tryz.sizeOf35
 v22:=Tryz.zeroValue35
}
theorem Tryz.alS (w:World):Calls ck 142 #[.slice none 0 0,.int .i64 0] w λe w'=>e= .returned (.slice none 0 0)/\w'=w:=Any8.slices_Grow_room Tryz.afH none 0 0 0 w (az _) (by decide) (by decide) (by decide)
theorem Tryz.alR (n:Nat) (w:World) (h0:0< n) (h1:n<=1000000000):Calls ck 142 #[.slice none 0 0,.int .i64 n] w λe w'=>∃ (G:Nat) (cs:Array Value),e= .returned (.slice (some ⟨w.heap.size,0,none⟩) 0 G)/\w'=w.drew.alloc (.cells cs 5)/\cs.size=G/\G<=maxLen:=by
 obtain ⟨i0,DV⟩:=lT.1 (show (Tryz.prog.info? 5).isSome=true by kernel_rfl);have Az:i0.zero=some (.int .u8 0):=by
  have:(Tryz.prog.info? 5).bind (·.zero)=some (.int .u8 0):=by kernel_rfl
  rw [DV] at this;exact this
 have hs0:i0.size=1:=by
  have:(Tryz.prog.info? 5).map (·.size)=some 1:=by kernel_rfl
  rw [DV] at this;exact aj this
 have hb0:i0.bytes=1:=by
  have:(Tryz.prog.info? 5).map (·.bytes)=some 1:=by kernel_rfl
  rw [DV] at this;exact aj this
 refine Calls.mono (Any8.slices_Grow_grow Tryz.afH i0 _ DV Az (by omega) none 0 0 n [] w (az _) (by omega) (by rw [hb0];omega) (by omega) (by simp) (λ_=>rfl) (λa q=>by cases q)) ?_;rintro e w' ⟨rfl,rfl⟩;rw [cd];refine ⟨_,_,rfl,rfl,?_,?_⟩
 .have:=grownCap_ge w n 0 5;simp [Builtin.zeroCells,Value.cells];show n+(grownCap w n 0 5 - n)=grownCap w n 0 5;omega
 .exact grownCap_le_maxLen w n 0 5 (by unfold maxLen;omega)
end Go.Proofs

namespace Go.Lm
open Go Go.RowKit
def jX (L:List HO) (v:Value):Atom:=⟨λg h=>∃ E:Env,E.length=L.length/\E[0]?=some v/\bt g (bh E 0 L) h,λm ⟨E,h1,h2,h3⟩=>⟨E,h1,h2,bt.mono m h3⟩⟩
def Ek (p n:Nat) (i:Nat):Option Nat:=some (if i=0 then p else n+(i - 1))
def MA (p:Nat) (L H:List HO):List HO:=H.set p ((lN L 0).fw (Ek p H.length))++L.tail.map (·.fw (Ek p H.length))
def Nf (p:Nat) (r:List Nat) (H:List HO):List HO:=(iJ H (p::r)).set p (.abs (jX ((p::r).map λl=>(lN H l).fw (iw (p::r)))))
section
variable {P:Program} {I:cV->Prop} {f:FuncId} {args:List SV} {H:List HO} {Q Q':SV->List HO->Prop}
theorem wz {E E':Env} {g:World} {r:Nat->Option Nat} (hr:mM r E E'):∀ {L:List HO} {k m:Nat} {h:Hp},(∀ i,r (k+i)=some (m+i))->bt g (bh E k L) h->bt g (bh E' m (L.map (·.fw r))) h
 | [],_,_,_,_,s=>s
 | o::L,k,m,_,hi,⟨h1,h2,ap,e,s1,s2⟩=>⟨h1,h2,ap,e,cJ.fw hr (hi 0) s1,wz hr (k:=k+1) (m:=m+1) (λi=>by have:=hi (i+1);rw [show k+1+i=k+(i+1) by omega,show m+1+i=m+(i+1) by omega];exact this) s2⟩
theorem Wp.Yw {p:Nat} {L:List HO} (hp:H[p]?=some (.abs (jX L))) (hL:0< L.length) (h:Wp I P f args (MA p L H) Q):Wp I P f args H Q:=Wp.beg λW E g w F s1=>by
 have DU:=(av.1 hp).1;obtain ⟨E1,hE1⟩:∃ E1:List Value,(∃ v EL,E[p]?=some v/\EL.length=L.length/\EL[0]?=some v/\E1=E++EL.tail/\SL W g w (⟨λg h=>bt g (bh EL 0 L) h,λm=>bt.mono m⟩::(bh E 0 (H.set p .gone)++F))):=by
  obtain ⟨be,hs⟩:=s1.sl;have key:∀ h0,bt g (bh E 0 H++F) h0->∃ v EL,E[p]?=some v/\EL.length=L.length/\EL[0]?=some v/\bt g (⟨λg h=>bt g (bh EL 0 L) h,λm=>bt.mono m⟩::(bh E 0 (H.set p .gone)++F)) h0:=λh0 x=>by
   obtain ⟨h1,h2,ap,e,⟨v,hE,EL,a1,a2,a3⟩,x2⟩:=bt.r5 hp x;exact ⟨v,EL,hE,a1,a2,h1,h2,ap,e,a3,x2⟩
  obtain ⟨se,hh,ow,x⟩:=hs;obtain ⟨v,EL,b1,b2,b3,b4⟩:=key _ x;exact ⟨_,v,EL,b1,b2,b3,rfl,be,se,hh,ow,b4⟩
 obtain ⟨v,EL,hE,hlen,h0,rfl,S⟩:=hE1;have hr:mM (Ek p H.length) EL (E++EL.tail):=λi i' u hi hu=>by
  unfold Ek at hi;have hi:=aj hi;by_cases e0:i=0
  .subst e0;rw [if_pos rfl] at hi;subst hi;rw [h0] at hu;obtain rfl:=aj hu;exact bz.app E _ _ _ hE
  .rw [if_neg e0] at hi;subst hi;rw [aZ (by rw [s1.len];omega),s1.len,show H.length+(i - 1) - H.length=i - 1 by omega];cases EL with
   | nil=>simp at hu
   | cons x EL=>
    obtain ⟨j,rfl⟩:∃ j,i=j+1:=⟨i - 1,by omega⟩;simpa using hu
 refine ⟨E++EL.tail,MA p L H,bz.app E _,⟨S.cE λh0 x=>?_,?_⟩,h⟩
 .obtain ⟨h1,h2,ap,e,x1,x2⟩:=x;cases L with
  | nil=>simp at hL
  | cons o Lt=>
   obtain ⟨k1,k2,ap1,e1,y1,y2⟩:=x1;have y1:=cJ.fw (E:=EL) hr (l:=0) (l':=p) rfl y1;have y2:=wz hr (k:=1) (m:=H.length) (λi=>by unfold Ek;rw [if_neg (by omega),show 1+i - 1=i by omega]) y2;have x2:=bh.env (bz.app E EL.tail) x2;subst e1;rw [e];obtain ⟨ap2,ap3⟩:=Hp.eO.1 ap.symm;have z:bt g (cJ (E++EL.tail) p (o.fw (Ek p H.length))::(bh (E++EL.tail) H.length (Lt.map (·.fw (Ek p H.length)))++(bh (E++EL.tail) 0 (H.set p .gone)++F))) ((k1.join k2).join h2):=⟨k1,k2.join h2,Hp.eO.2 ⟨ap1,ap2.symm⟩,Hp.join_assoc ..,y1,bt.app ap3.symm y2 x2⟩;obtain ⟨m1,m2,ap4,e4,z1,z2⟩:=z;rw [e4];unfold MA;rw [oT,aH,cd,gJ];refine bt.comm (B:=bh (E++EL.tail) 0 (H.set p (o.fw (Ek p H.length)))) (A:=bh (E++EL.tail) H.length (Lt.map (·.fw (Ek p H.length)))) ?_;refine bt.under (λh3 x3=>?_) (bt.toEnd (A:=bh (E++EL.tail) H.length (Lt.map (·.fw (Ek p H.length)))) (F:=bh (E++EL.tail) 0 (H.set p .gone)++F) ⟨m1,m2,ap4,rfl,z1,z2⟩);have:=bt.D8 (by rw [gJ];exact DU) x3;rw [List.set_set] at this;exact this
 .unfold MA;simp [s1.len,hlen]
theorem Wp.Zs (h:Wp I P f args H λsv H'=>∃ (p:Nat) (r:List Nat),(p::r).Nodup/\(∀ l∈p::r,l< H'.length)/\Q sv (Nf p r H')):Wp I P f args H Q:=
 h.fin λW E g w F H' sv s ⟨p,r,hn,eJ,q⟩=>by
  refine ⟨g,_,bA.refl g,⟨s.sl.cE λh0 x=>?_,?_⟩,q⟩
  .have x1:=bt.qw (ob:=lN H') hn (λl hl=>by
    have xe:=eJ l hl;rw [ak xe,mD (ak xe)]) x
   obtain ⟨h1,h2,ap,e,y1,y2⟩:=bt.XH (bt.comm x1);have vX:mM (iw (p::r)) E ((p::r).map λl=>(E[l]?).getD undef):=λl l' v h1 h2=>by
    have:=oL h1;rw [cz,this];simp [h2]
   have y3:=bt.xT (X:=[]) vX (k:=0) (λi l hi=>by rw [cd];exact qj hn hi) (by rw [a7];exact y1);rw [a7] at y3;unfold Nf;refine bt.D8 (by rw [mI];exact eJ p (by simp)) ?_;have hp:p< E.length:=by rw [s.len];exact eJ p (by simp)
   exact ⟨h1,h2,ap,e,⟨E[p],ak hp,_,by simp,by simp [ak hp],y3⟩,y2⟩
  .unfold Nf;rw [gJ,mI];exact s.len
def uB (p:Nat) (r ls:List Nat) (n0:Nat) (Q:SV->List HO->Prop):SV->List HO->Prop:=λsv H'=>
 if ny (p::r)&& (ny ls&& ((p::r).all (λl=>gx l H'.length)&& (ls.all (λl=>gx l H'.length)&& (ls.take n0==bP n0)))) then Q (sv.fw (iw ls)) (ls.map λl=>(lN (Nf p r H') l).fw (iw ls)) else False
theorem Wp.alX {p:Nat} {r ls:List Nat} {H0:List HO} {n0:Nat} (hn:H0.length=n0) (k:(∀ Q,Wp I P f args H Q->Wp I P f args H0 Q)) (h:Wp I P f args H (uB p r ls n0 Q)):Wp I P f args H0 Q:=
 Wp.sel (k _ (Wp.Zs (h.mono λsv H' q=>by
  unfold uB at q;obtain ⟨hc,q⟩:=dc q;simp only [ao,bo] at hc;obtain ⟨c1,c2,c3,c4,c5⟩:=hc;refine ⟨p,r,jQ.1 c1,λl hl=>by simpa using c3 l hl,ls,by rw [hn];exact eq_of_beq c5,jQ.1 c2,λl hl=>?_,q⟩;unfold Nf;rw [gJ,mI];simpa using c4 l hl)))
theorem Wp.JI {q p:Nat} {r ls:List Nat} {L:List HO} (hp:H[q]?=some (.abs (jX L))) (hL:0< L.length) (h:Wp I P f args (MA q L H) (uB p r ls H.length Q)):Wp I P f args H Q:=Wp.alX rfl (λ_ k=>Wp.Yw hp hL k) h
theorem Wp.YK {p:Nat} {r ls:List Nat} (h:Wp I P f args H (uB p r ls H.length Q)):Wp I P f args H Q:=Wp.alX rfl (λ_ k=>k) h
end
end Go.Lm

namespace Go.Lm
open Go
structure Wt (T:List Int) (x y:List UInt8) (R:List UInt8) (fs:List (List UInt8)):Prop where
 flat:x=fs.flatten
 le:128*fs.length<=R.length
 rest:y=R.drop (128*fs.length)
 fr:∀ (i:Nat) z,fs[i]?=some z->DK T ((R.drop (128*i)).take 128) z
structure MW (T:List Int) (x y:List UInt8) (R:List UInt8) (fs:List (List UInt8)):Prop where
 g:Wt T x y R fs
 lt:y.length< 128
theorem MW.nil (T:List Int):MW T [] [] [] []:=⟨⟨rfl,az _,rfl,λi z h=>by simp at h⟩,by decide⟩
theorem Wt.row {T:List Int} {x y R:List UInt8} {fs:List (List UInt8)} (h:Wt T x y R fs):R.length=128*fs.length+y.length:=by
 rw [h.rest,aW];have:=h.le;omega
theorem Wt.app {T:List Int} {x y R:List UInt8} {fs:List (List UInt8)} (h:Wt T x y R fs) (b:List UInt8):Wt T x (y++b) (R++b) fs:=by
 have hle:=h.le;refine ⟨h.flat,by rw [af];omega,?_,λi z hi=>?_⟩;rw [h.rest,dz hle]
 .have eJ:=(av.1 hi).1;have:=h.fr i z hi;rw [dz (by omega),lV (by rw [aW];omega)];exact this
theorem Wt.step {T:List Int} {x y R z:List UInt8} {fs:List (List UInt8)} (h:Wt T x y R fs) (hy:128<=y.length) (hz:DK T (y.take 128) z):Wt T (x++z) (y.drop 128) R (fs++ [z]):=by
 have hr:=h.row;refine ⟨by rw [eT,<-h.flat,List.flatten_singleton],by rw [af,ay];omega,?_,λi q hi=>?_⟩;rw [h.rest,iC,af,ay,show 128*(fs.length+1)=128*fs.length+128 by omega]
 .rcases eQ i fs.length with hl| hl
  .rw [aU hl] at hi;exact h.fr i q hi
  .rw [aZ hl] at hi;have eJ:=(av.1 hi).1;rw [ay] at eJ;obtain rfl:i=fs.length:=by omega
   rw [pq] at hi;obtain rfl:z=q:=by simpa using hi
   rw [<-h.rest];exact hz
theorem Ng {T:List Int} {R:List UInt8}:∀ {fs:List (List UInt8)} {k:Nat},(∀ (i:Nat) z,fs[i]?=some z->DK T ((R.drop (128*(k+i))).take 128) z)->fs.flatten.length<=135*fs.length
 | [],_,_=>az _
 | z::fs,k,h=>by
  have h1:=(h 0 z rfl).len.2;have h2:=Ng (fs:=fs) (k:=k+1) (λi z hz=>by rw [show k+1+i=k+(i+1) by omega];exact h (i+1) z (by simpa using hz));rw [aD] at h1;simp only [bF,af,aq];omega
theorem Wt.ab8 {T:List Int} {x y R:List UInt8} {fs:List (List UInt8)} (h:Wt T x y R fs):x.length<=135*fs.length:=by
 rw [h.flat];exact Ng (T:=T) (R:=R) (k:=0) (λi z hz=>by rw [cd];exact h.fr i z hz)
structure lg (T:List Int) (fs:List (List UInt8)) (R:List UInt8):Prop where
 len:fs.length=(R.length+127) / 128
 fr:∀ (i:Nat) z,fs[i]?=some z->DK T ((R.drop (128*i)).take 128) z
def dV (fs:List (List UInt8)) (o:Nat):Nat:=256*(fs.take (o / 128)).flatten.length+o % 128
theorem MW.akT {T:List Int} {x y R:List UInt8} {fs:List (List UInt8)} (h:MW T x y R fs) (hy:y= []):lg T fs R/\x=fs.flatten:=by
 have hr:=h.g.row;subst hy;exact ⟨⟨by rw [hr,aL];omega,h.g.fr⟩,h.g.flat⟩
theorem MW.akS {T:List Int} {x y R z:List UInt8} {fs:List (List UInt8)} (h:MW T x y R fs) (hy:y≠ []) (hz:DK T y z):lg T (fs++ [z]) R/\x++z=(fs++ [z]).flatten:=by
 have hr:=h.g.row;have hl:=h.lt;have h0:=List.length_pos_iff.2 hy;refine ⟨⟨by rw [af,ay];omega,λi q hi=>?_⟩,by rw [eT,<-h.g.flat,List.flatten_singleton]⟩;rcases eQ i fs.length with uK| uK
 .rw [aU uK] at hi;exact h.g.fr i q hi
 .rw [aZ uK] at hi;have eJ:=(av.1 hi).1;rw [ay] at eJ;obtain rfl:i=fs.length:=by omega
  rw [pq] at hi;obtain rfl:z=q:=by simpa using hi
  rw [<-h.g.rest,aV (by omega)];exact hz
theorem MW.ref {T:List Int} {x y R:List UInt8} {fs:List (List UInt8)} (h:MW T x y R fs) (gs:List (List UInt8)):256*x.length+y.length=dV (fs++gs) R.length:=by
 have hr:=h.g.row;have hl:=h.lt;have e1:R.length / 128=fs.length:=by omega
 have e2:R.length % 128=y.length:=by omega
 unfold dV;rw [e1,e2,List.take_left,<-h.g.flat]
abbrev dY:Ty:=.pair (.sl .u8) (.pair (.int .i64) .unit)
def fD (fs:List (List UInt8)) (k:Nat):Nat:=(fs.take k).flatten.length
def lf (R:List UInt8) (k:Nat):List UInt8:=(R.drop (128*k)).take 128
def uN (fs:List (List UInt8)) (R:List UInt8) (k:Nat):Int×dY.den:=((fD fs k:Int),lf R k,(fD fs (k+1):Int),())
structure iX (T:List Int) (im:List UInt8) (a c:Int) (fs:List (List UInt8)) (R:List UInt8) (M:List (Int×dY.den)):Prop where
 a0:0<=a
 ac:c=a+fs.flatten.length
 ci:c<=im.length
 row:lg T fs R
 at':∃ r,im.drop a.toNat=fs.flatten++r
 nxt:c=im.length\/∃ b nx,Wj T im c b nx
 all:∃ ks:List Nat,ks.Nodup/\(∀ k∈ks,k< fs.length)/\M=ks.map (uN fs R)
structure agR (fs:List (List UInt8)) (R:List UInt8) (k:Nat) (h:dY.den) (ok:Bool):Prop where
 or:(ok=true/\k< fs.length/\h=(lf R k,(fD fs (k+1):Int),()))\/(ok=false/\k=fs.length/\h=([],0,()))
theorem pig:∀ {n:Nat} {l:List Nat},l.Nodup->(∀ x∈l,x< n)->l.length<=n
 | 0,l,_,h=>by
  cases l with
  | nil=>exact az 0
  | cons x l=>exact absurd (h x aS) (Nat.not_lt_zero x)
 | n+1,l,hn,h=>by
  by_cases hm:n∈l
  .have h1:(l.erase n).Nodup:=hn.erase n;have h2:(l.erase n).length<=n:=pig h1 λx hx=>by
    have h3:=List.mem_of_mem_erase hx;have h4:x≠n:=λe=>by
     subst e;exact absurd hx (by rw [hn.mem_erase_iff];simp)
    have:=h x h3;omega
   rw [List.length_erase_of_mem hm] at h2;omega
  .have:=pig (n:=n) hn λx hx=>by
    have h4:x≠n:=λe=>hm (e▸hx);have:=h x hx;omega
   omega
theorem n9 {fs:List (List UInt8)} {k:Nat} (h:k< fs.length):fD fs (k+1)=fD fs k+fs[k].length:=by
 unfold fD;rw [bZ h,eT,af,List.flatten_singleton]
theorem xz {T:List Int} {fs:List (List UInt8)} {R:List UInt8} (h:lg T fs R):∀ {j k:Nat},j< k->k<=fs.length->fD fs j+3<=fD fs k
 | j,0,h1,_=>by omega
 | j,k+1,h1,h2=>by
  have e:=n9 (fs:=fs) (k:=k) (by omega);have h3:=(h.fr k fs[k] (ak (by omega))).len.1;rcases eQ j k with q| q
  .have:=xz h q (by omega);omega
  .obtain rfl:j=k:=by omega
   omega
theorem JJ {T:List Int} {fs:List (List UInt8)} {R:List UInt8} (h:lg T fs R):∀ {k:Nat},k<=fs.length->3*k<=fD fs k
 | 0,_=>by omega
 | k+1,hk=>by
  have:=JJ h (k:=k) (by omega);have:=xz h (j:=k) (k:=k+1) (by omega) hk;omega
theorem N2 {T:List Int} {fs:List (List UInt8)} {R:List UInt8} (h:lg T fs R) {j k:Nat} (hj:j<=fs.length) (hk:k<=fs.length) (e:fD fs j=fD fs k):j=k:=by
 rcases ko j k with q| q| q;have:=xz h q hk;omega;exact q;have:=xz h q hj;omega
theorem qn (fs:List (List UInt8)):fD fs fs.length=fs.flatten.length:=by unfold fD;rw [ff]
theorem xA {T:List Int} {fs:List (List UInt8)} {R:List UInt8} (h:lg T fs R) {k:Nat} (hk:k<=fs.length):fD fs k<=fs.flatten.length:=by
 rw [<-qn];rcases eQ k fs.length with q| q;have:=xz h q (az _);omega
 .obtain rfl:k=fs.length:=by omega
  exact az _
theorem iX.get {T:List Int} {im:List UInt8} {a c:Int} {fs:List (List UInt8)} {R:List UInt8} {M:List (Int×dY.den)} (h:iX T im a c fs R M) {k:Nat} (hk:k<=fs.length):(Kk.get .int M (fD fs k:Int)=none/\(k< fs.length->iX T im a c fs R (Kk.put .int M (fD fs k:Int) (uN fs R k).2))/\M.length<=fs.length)\/(k< fs.length/\Kk.get .int M (fD fs k:Int)=some (uN fs R k).2):=by
 obtain ⟨ks,hn,hl,rfl⟩:=h.all;cases hg:Kk.get .int (ks.map (uN fs R)) (fD fs k:Int) with
 | none=>
  have kJ:∀ j∈ks,j≠k:=λj hj e=>by
   subst e;exact (nY (κ:=Int)).1 hg (uN fs R j) (aM.2 ⟨j,hj,rfl⟩) rfl
  refine .inl ⟨rfl,λqS=>⟨h.a0,h.ac,h.ci,h.row,h.at',h.nxt,k::ks,eD.2 ⟨λq=>kJ k q rfl,hn⟩,λj hj=>?_,?_⟩,by rw [bL];exact pig hn hl⟩
  .rcases aX.1 hj with rfl| hj
   .exact qS
   .exact hl j hj
  .show ((fD fs k:Int),(uN fs R k).2)::mJ (ks.map (uN fs R)) (fD fs k:Int)=uN fs R k::ks.map (uN fs R);congr 1;unfold mJ;refine kr.2 λp hp=>?_;obtain ⟨j,hj,rfl⟩:=aM.1 hp;have:(fD fs j:Int)≠fD fs k:=λe=>kJ j hj (N2 h.row (Nat.le_of_lt (hl j hj)) hk (by omega));show (!decide ((fD fs j:Int)=fD fs k))=true;simp [this]
 | some v=>
  have hm:=oN (κ:=Int) hg;obtain ⟨j,hj,hp⟩:=aM.1 hm;have hp1:(fD fs j:Int)=fD fs k:=congrArg Prod.fst hp;obtain rfl:j=k:=N2 h.row (Nat.le_of_lt (hl j hj)) hk (by omega);exact .inr ⟨hl j hj,congrArg some (congrArg Prod.snd hp).symm⟩
theorem iX.take {T:List Int} {im:List UInt8} {a c:Int} {fs:List (List UInt8)} {R:List UInt8} {M:List (Int×dY.den)} (h:iX T im a c fs R M) {k:Nat} (hk:k< fs.length):Wj T im (a+fD fs k) (lf R k) (a+fD fs (k+1))/\lf R k≠ []:=by
 have ha:=h.a0;have hac:=h.ac;have hci:=h.ci;have hle:=xA h.row (Nat.le_of_lt hk);obtain ⟨r,hr⟩:=h.at';have DR:fs.flatten=(fs.take k).flatten++(fs[k]++(fs.drop (k+1)).flatten):=by
  conv=>lhs;rw [<-bY k fs,eT,bO hk,bF]
 refine ⟨⟨by omega,by omega,fs[k],(fs.drop (k+1)).flatten++r,h.row.fr k _ (ak hk),?_,by rw [n9 hk];omega⟩,λe=>?_⟩
 .rw [show (a+(fD fs k:Int)).toNat=a.toNat+fD fs k by omega,<-iC,hr,DR,aH,aH];exact fB
 .have:=h.row.len;have e2:=congrArg List.length e;unfold lf at e2;rw [aD,aW,aL] at e2;omega
structure pn (fs:List (List UInt8)) (R:List UInt8) (o n:Nat) (z:List UInt8) (nx e:Int):Prop where
 or:(o+n<=R.length/\z=(R.drop o).take n/\nx=(dV fs (o+n):Int)/\e=0)\/(R.length< o+n/\z= []/\nx=0/\e=2)
theorem U2 (fs:List (List UInt8)) (o:Nat):gr (dV fs o:Int) 256=(fD fs (o / 128):Int)/\Int.tmod (dV fs o:Int) 256=((o % 128:Nat):Int):=by
 unfold dV;have:∀ s m:Nat,m< 256->gr ((256*s+m:Nat):Int) 256=(s:Int)/\Int.tmod ((256*s+m:Nat):Int) 256=(m:Int):=λs m hm=>by
  rw [Int.tdiv_eq_ediv_of_nonneg (by omega),Int.tmod_eq_emod_of_nonneg (by omega)];omega
 exact this (fD fs (o / 128)) (o % 128) (by omega)
theorem Mx (R:List UInt8) (o c m:Nat):(R.drop o).take c++(R.drop (o+c)).take m=(R.drop o).take (c+m):=by
 rw [List.take_add,iC]
theorem aar (R:List UInt8) (p h:Nat) (hh:h<=128):((lf R (p / 128)).drop (p % 128)).take (h - p % 128)=(R.drop p).take (h - p % 128):=by
 unfold lf;rw [pJ,iC,fR,show 128*(p / 128)+p % 128=p by omega,eP (by omega)]
theorem re (R:List UInt8) (k:Nat):(lf R k).length=min 128 (R.length - 128*k):=by
 unfold lf;rw [aD,aW]
end Go.Lm

namespace Go.Proofs
open Go Go.Lm Go.RowKit
set_option maxRecDepth 1000000
def ajf:Ct:=cD .u8 λx=>c0 λQ=>x.length<=140737488355328/\Q (.c (.o 0)) [.sl 5 .u8 x]
def aaT:=agq.add agZ
def RH (x:(List (Ty.u8).den)):dE:=λQ=>cW x (zP x Q)
theorem ahq:cM 38 ajf:=fe<| kC λx=>iB λQ h=>by
 refine Wp.IK (t:=5) (e:=.u8) ?_;refine Wp.dL aaT fq ⟨[],[]⟩ Tryz.f38 (RH x) (hold:=[92]) ?_;unfold RH zP cC cW cA;obtain ⟨hl,h⟩:=h;refine λ_ c hc=>aw (λhb=>.inr ⟨rfl,?_⟩) (λhb=>⟨by omega,by omega,.inl h⟩);have hb:c=true:=hb;rw [hc hb] at h;exact h
def AX:Ct
 | [.v (.c (.p 0 0)),.v (.c cb)],[.cells 150 [.de (.int .u32) T 0 0,.o 1,.o 2],.sl 5 .u8 x,.sl 5 .u8 y],Q=>(match (Ty.sl Ty.u8).of [cb] with
  | some (b,[])=>∃ R fs,T.length=256/\MW T x y R fs/\R.length+b.length<=10000000/\∀ x' y' fs',MW T x' y' (R++b) (fs++fs')->Q (.int (256*x.length+y.length)) [.cells 150 [.de (.int .u32) T 0 0,.o 3,.o 4],.gone,.gone,.sl 5 .u8 x',.sl 5 .u8 y']
  | _=>False)
 | _,_,_=>False
def agp:=aaT.add ahq
abbrev Cx {A0:Type} (y0:List A0) (y1:List UInt8) (R:Prop):=aI .i64 0->(List.length y0+List.length y1)*1<=cC/\List.length y0+List.length y1<=9223372036854775807/\R
def KU (b:(List (Ty.u8).den)) (T:List Int) (x y:List UInt8):dE:=λQ=>cW b (db x (aI .i64 (fa*(aF x))/\(db y (aI .i64 (fa*(aF x)+(aF y))/\yz y b (ba (λi ag=>fU i.2.1.2.2.1 (br (decide ((a6 i.2.1.2.2.1)≥bI)) (ah<=bI/\ 
 bI<=(a6 i.2.1.2.2.1)/\ah<=ah/\ah<=bI/\bI<=(a6 i.2.1.2.2.1)/\eG i.2.1.1 (List.length (List.take jf (List.drop 0 i.2.1.2.2.1))<=128/\∀ (x:List UInt8),DK i.2.1.1 (List.take jf (List.drop 0 
 i.2.1.2.2.1)) x->db x (Cx i.2.1.2.1 x (ah<=bI/\bI<=(a6 i.2.1.2.2.1)/\fp (List.length (List.drop 128 i.2.1.2.2.1))/\ag ((),(i.2.1.1,i.2.1.2.1++x,List.drop jf i.2.1.2.2.1,()),()))))) (Q (.v (.c (.k 
 (.int .i64 (fa*(aF x)+(aF y)))))) [.cells 150 [Cl.de (.int .u32) i.2.1.1 ah bC,.o 3,.o 4],.gone,.gone,.sl 5 Ty.u8 i.2.1.2.1,.sl 5 Ty.u8 i.2.1.2.2.1]))) ((),(T,x,y++b,()),()))))))
theorem Hx:cM 54 AX:=by
 intro args H Q h;unfold AX at h;split at h;rotate_left;cases h;rename_i cb T x y;split at h;rotate_left;cases h;rename_i b hb;refine Wp.said (args':=[.v (.c (.p 0 0)),.c (.d Ty.u8 b)]) (λE g=>bE.dd (λ_ h=>h) (bE.dd (dR hb) (λ_ h=>h))) ?_;clear hb;refine Wp.dL agp fq ⟨[(4,⟨[],[(0,.cells 150 [.dp (.int .u32),.own 5 .u8,.own 5 .u8])]⟩)],[]⟩ Tryz.f54 (KU b T x y) (hold:=[89,38]) ?_;unfold KU yz db Cx eG fU cC cW ah bI fa a6 aF fp aN bC jf bN;obtain ⟨R,fs,hT,hm,hl,h⟩:=h;have hr:=hm.g.row;have hx:=hm.g.ab8;have eJ:=hm.lt;refine λ_ _=>⟨by unfold aI;omega,λ_=>⟨by unfold aI;omega,by omega,by omega,?_⟩⟩;refine ba.intro (λi=>i.2.1.1=T/\∃ fs',Wt T i.2.1.2.1 i.2.1.2.2.1 (R++b) (fs++fs')) (λi=>i.2.1.2.2.1.length) ⟨rfl,[],by rw [a7];exact hm.g.app b⟩ ?_;rintro ⟨_,⟨T',x',y',_⟩,_⟩ ⟨rfl,fs',h1⟩;simp only at h1 ⊢;have h2:=h1.row;have h3:=h1.ab8;rw [af] at h2;refine λ_=>aw (λhc=>?_) (λhc=>?_)
 .have hc:(y'.length:Int)≥128:=of_decide_eq_true hc;rw [List.drop_zero];refine ⟨by decide,by omega,by decide,by decide,by omega,hT,by rw [aD];omega,λz hz _ _=>?_⟩;have hz2:=hz.len.2;rw [aD] at hz2;exact ⟨by omega,by omega,by decide,by omega,by rw [aW];omega,⟨trivial,fs'++ [z],by rw [<-aH];exact h1.step (by omega) hz⟩,by rw [aW];omega⟩
 .have hc:¬(y'.length:Int)≥128:=of_decide_eq_false hc;exact h x' y' fs' ⟨h1,by omega⟩
def NM:Ct
 | .v (.c (.p 0 0))::vs,[.abs a],Q=>∃ (T:List Int) (x:List UInt8) (y:List UInt8),a=jX [.cells 150 [.de (.int .u32) T 0 0,.o 1,.o 2],.sl 5 .u8 x,.sl 5 .u8 y]/\AX (.v (.c (.p 0 0))::vs) [.cells 150 [.de (.int .u32) T 0 0,.o 1,.o 2],.sl 5 .u8 x,.sl 5 .u8 y] (uB 0 [3,4] [0] 1 Q)
 | _,_,_=>False
theorem Bc:cM 54 NM:=λargs H Q h=>by
 unfold NM at h;split at h
 .obtain ⟨T,x,y,rfl,h⟩:=h;exact Wp.JI (q:=0) (L:=[.cells 150 [.de (.int .u32) T 0 0,.o 1,.o 2],.sl 5 .u8 x,.sl 5 .u8 y]) rfl (iL _) (Hx _ _ _ h)
 .cases h
def Tu:Ct:=cT λT=>c0 λQ=>Q (.c (.p 0 0)) [.cells 150 [.de (.int .u32) T 0 0,.o 1,.o 2],.sl 5 .u8 [],.sl 5 .u8 []]
def amm:=(agp.add Hx).add Bc
def KS (T:List Int):dE:=λQ=>Q (SV.v (S1.c (.p 0 0))) [.cells 150 [Cl.de (.int .u32) T ah bC,.k cA,.k cA]]
theorem QR:cM 47 Tu:=fe<| okT λT=>iB λQ h=>by
 refine (λhh=>Wp.xr (p:=0) (t:=150) (tt:=5) (e:=.u8) (Wp.xr (p:=0) (t:=150) (tt:=5) (e:=.u8) hh)) ?_;refine Wp.dL amm fq ⟨[],[]⟩ Tryz.f47 (KS T) (hold:=[89,38]) ?_;unfold KS cA ah bC;exact ⟨[_],[_],rfl,[_,_],[],rfl,h⟩
def ZZ:Ct:=λargs H Q=>Tu args H (uB 0 [1,2] [0] H.length Q)
theorem Kf:cM 47 ZZ:=λargs H Q h=>Wp.YK (QR _ _ _ h)
def Z9:Ct
 | [.v (.c (.k (.slice none 0 0))),.v (.c (.k (.int .i64 n)))],[],Q=>(0<=n/\n<=1000000000)/\Q (.c (.o 0)) [.sl 5 .u8 []]
 | _,_,_=>False
theorem ahj:cM 142 Z9:=λargs H Q h=>by
 unfold Z9 at h;split at h;exact Wp.aiE Tryz.alS Tryz.alR h.1 h.2;cases h
def aak:Ct:=cD (Ty.sl Ty.u8) λl=>c0 λQ=>l.flatten.length<=100000000/\Q (.c (.d .u8 l.flatten)) []
def ago:=((((aaT.add Hx).add Bc).add QR).add Kf).add ahj
abbrev gd:=SV.v (S1.c (.o 0))
def Fu (l:(List ((Ty.sl Ty.u8)).den)):dE:=λQ=>List.length l<=9223372036854775807->aN (List.length l)->ba (λi ag=>br (decide (i.1.1< (aF l))) (0<=i.1.1/\i.1.1< (aF l)/\(Ty.ok bD (aB bD l i.1.1)->aN (List.length (aB bD l i.1.1))->aI .i64 
 (i.1.2.1+(a6 (aB bD l i.1.1)))/\br (decide (i.1.2.1+(a6 (aB bD l i.1.1))< ah)) False (cG i.1.1 (ag ((i.1.1+1,i.1.2.1+(a6 (aB bD l i.1.1)),()),()))))) ((0<=i.1.2.1/\i.1.2.1<=1000000000)/\(aN 
 (List.length l)->ba (λi ag=>br (decide (i.1.1< (aF l))) (0<=i.1.1/\i.1.1< (aF l)/\(Ty.ok bD (aB bD l i.1.1)->(List.length i.1.2.1+List.length (aB bD l i.1.1))*1<=cC/\List.length i.1.2.1+List.length (aB 
 bD l i.1.1)<=9223372036854775807/\cG i.1.1 (ag ((i.1.1+1,i.1.2.1++aB bD l i.1.1,()),())))) (Q gd [.sl 5 Ty.u8 i.1.2.1])) ((ah,[],()),())))) ((ah,ah,()),())
theorem Xb:cM 90 aak:=fe<| kC λl=>iB λQ h=>by
 refine Wp.lY [some (.sl .u8)] [0] ?_;refine Wp.dL ago fq ⟨[(4,⟨[(11,.int .i64),(3,.int .i64)],[]⟩),(12,⟨[(27,.int .i64),(6,.own 5 .u8)],[]⟩)],[]⟩ Tryz.f90 (Fu l) (hold:=[89,38]) ?_;unfold Fu gd cG cC ah a6 aF aN bD;obtain ⟨hl,h⟩:=h;have rR:∀ i:Int,0<=i->i< l.length->(l.take (i+1).toNat).flatten=(l.take i.toNat).flatten++aB (.sl .u8) l i:=λi h0 h1=>by
  rw [ixT (e:=.sl .u8) h0 h1,eT,List.flatten_singleton]
 have hle:∀ n:Nat,(l.take n).flatten.length<=l.flatten.length:=λn=>by
  conv=>rhs;rw [<-bY n l,eT,af]
  omega
 intro _ _;refine ba.intro (λi=>0<=i.1.1/\i.1.1<=l.length/\i.1.2.1=(l.take i.1.1.toNat).flatten.length) (λi=>l.length - i.1.1.toNat) ⟨by simp,by simp,by simp⟩ ?_;rintro ⟨⟨i,n,_⟩,_⟩ ⟨h0,h1,h2⟩;simp only at h0 h1 h2 ⊢;subst h2;have:=hle i.toNat
 refine aw (λhc=>?_) (λhc=>⟨by omega,λ_=>?_⟩)
 .have hc:i< (l.length:Int):=of_decide_eq_true hc;have e:=rR i h0 hc;have h3:=hle (i+1).toNat
  have e2:=congrArg List.length e;rw [af] at e2;generalize aB (.sl .u8) l i=z at*;exact ⟨h0,hc,λ_ _=>⟨by unfold aI;omega,aw (λhd=>by have hd:=of_decide_eq_true hd;omega) (λ_=>⟨by unfold aI;omega,⟨by omega,by omega,by omega⟩,by omega⟩)⟩⟩
 refine ba.intro (λi=>0<=i.1.1/\i.1.1<=l.length/\i.1.2.1=(l.take i.1.1.toNat).flatten) (λi=>l.length - i.1.1.toNat) ⟨by simp,by simp,by simp⟩ ?_;rintro ⟨⟨j,n,_⟩,_⟩ ⟨h0,h1,h2⟩;simp only at h0 h1 h2 ⊢;subst h2;refine aw (λhc=>?_) (λhc=>?_)
 .have hc:j< (l.length:Int):=of_decide_eq_true hc;have e:=rR j h0 hc;have h3:=hle (j+1).toNat
  have e2:=congrArg List.length e;rw [af] at e2;exact ⟨h0,hc,λ_=>⟨by omega,by omega,by unfold aI;omega,⟨by omega,by omega,e.symm⟩,by omega⟩⟩
 .have hc:¬j< (l.length:Int):=of_decide_eq_false hc;rw [aV (by omega)];exact ⟨cr _,h⟩
def xu:Ct
 | [.v (.c (.p 0 0))],[.cells 150 [.de (.int .u32) T 0 0,.o 1,.o 2],.sl 5 .u8 x,.sl 5 .u8 y],Q=>∃ R fs,T.length=256/\MW T x y R fs/\R.length<=10000000/\∀ fs',lg T (fs++fs') R->Q (.c (.d .u8 (fs++fs').flatten)) [.gone,.gone,.gone]
 | _,_,_=>False
def agn:=ago.add Xb
def ET (T:List Int) (x y:List UInt8):dE:=λQ=>List.length y<=9223372036854775807->br ((aF y)==0) (fp (List.length x)/\(db x (Q (SV.v (S1.c (Cl.d Ty.u8 x))) [.cells 150 [Cl.de (.int .u32) T ah bC,.o 1,.o 2],HO.held (5:TypeId) Ty.u8 x,.sl 5 Ty.u8 
 y]))) (eG T (List.length y<=128/\∀ (DZ:List UInt8),DK T y DZ->db DZ (aI .i64 0->List.length (ae [x,DZ])<=100000000/\(aN (List.length (ae [x,DZ]))->Q (SV.v (S1.c (Cl.d Ty.u8 (ae [x, 
 DZ])))) [.cells 150 [Cl.de (.int .u32) T ah bC,.o 1,.o 2],HO.held (5:TypeId) Ty.u8 x,HO.held (5:TypeId) Ty.u8 y]))))
theorem Kg:cM 55 xu:=by
 intro args H Q h;unfold xu at h;split at h;rotate_left;cases h;rename_i T x y;refine Wp.afm ?_;refine Wp.dL agn fq ⟨[],[]⟩ Tryz.f55 (ET T x y) (hold:=[89,38,90]) ?_;unfold ET db eG ah aF fp aN bC bN;obtain ⟨R,fs,hT,hm,hl,h⟩:=h;have hr:=hm.g.row;have hx:=hm.g.ab8;have eJ:=hm.lt;refine λ_=>aw (λhc=>?_) (λhc=>?_)
 .have hc:(y.length:Int)=0:=eq_of_beq hc;obtain ⟨h1,h2⟩:=hm.akT (aK (by omega));have h3:=h [] (by rw [a7];exact h1);rw [a7,<-h2] at h3;exact ⟨by omega,λ_=>h3⟩
 .have hc:¬(y.length:Int)=0:=by simpa using hc
  refine ⟨hT,by omega,λz hz _ _=>?_⟩;obtain ⟨h1,h2⟩:=hm.akS (λe=>by rw [e] at hc;simp at hc) hz;have h3:=h [z] h1;rw [<-h2] at h3;have e:ae [x,z]=x++z:=by simp
  rw [e];have:=hz.len.2;exact ⟨by rw [af];omega,λ_=>h3⟩
def G7:Ct
 | .v (.c (.p 0 0))::vs,[.abs a],Q=>∃ (T:List Int) (x:List UInt8) (y:List UInt8),a=jX [.cells 150 [.de (.int .u32) T 0 0,.o 1,.o 2],.sl 5 .u8 x,.sl 5 .u8 y]/\xu (.v (.c (.p 0 0))::vs) [.cells 150 [.de (.int .u32) T 0 0,.o 1,.o 2],.sl 5 .u8 x,.sl 5 .u8 y] (uB 0 [1,2] [0] 1 Q)
 | _,_,_=>False
theorem Ey:cM 55 G7:=λargs H Q h=>by
 unfold G7 at h;split at h
 .obtain ⟨T,x,y,rfl,h⟩:=h;exact Wp.JI (q:=0) (L:=[.cells 150 [.de (.int .u32) T 0 0,.o 1,.o 2],.sl 5 .u8 x,.sl 5 .u8 y]) rfl (iL _) (Kg _ _ _ h)
 .cases h
def jw:List (Nat×Ty):=(281,dY)::fq
def xy:Ct
 | [.v (.c (.de (.int .u32) T 0 0)),.v (.c cim),.v (.c (.k (.int .i64 a))),.v (.c (.k (.int .i64 c)))],[],Q=>(match (Ty.sl Ty.u8).of [cim] with
  | some (im,[])=>im.length<=100000000/\Q (.c (.p 0 0)) [.cells 245 [.de (.int .u32) T 0 0,.d .u8 im,.k (.int .i64 a),.k (.int .i64 c),.m 1],.map 3 .int dY []]
  | _=>False)
 | _,_,_=>False
def agm:=(agn.add Kg).add Ey
def EV (T:List Int) (im:(List (Ty.u8).den)) (a c:Int):dE:=λQ=>cW im (cn a c (fp (dv im)/\(aN (dv im)->Q (SV.v (S1.c (.p 0 0))) [.cells 245 [Cl.de (.int .u32) T ah bC,Cl.d Ty.u8 im,.k (aE a),.k (aE c),Cl.m bJ],HO.map eX Kk.int dY []])))
theorem Ki:cM 103 xy:=by
 intro args H Q h;unfold xy at h;split at h;rotate_left;cases h;rename_i T cim a c;split at h;rotate_left;cases h;rename_i im him;refine Wp.said (args':=[.v (.c (.de (.int .u32) T 0 0)),.c (.d Ty.u8 im),.int a,.int c]) (λE g=>bE.dd (λ_ h=>h) (bE.dd (dR him) (bE.dd (λ_ h=>h) (bE.dd (λ_ h=>h) (λ_ h=>h))))) ?_;clear him;refine Wp.dL agm jw ⟨[],[]⟩ Tryz.f103 (EV T im a c) ?_;unfold EV dv cn cW aE ah fp aN bC bJ eX;obtain ⟨hl,h⟩:=h;exact λ_ _ _=>⟨by omega,λ_=>h⟩
def aeB:Ct:=cP<| cO λH Q=>match H with
 | [.cells 245 [.de (.int .u32) T 0 0,.d .u8 im,.k (.int .i64 a),.k (.int .i64 c),.m 1],.map 3 .int (.pair (.sl .u8) (.pair (.int .i64) .unit)) M]=>(0<=a/\a<=c/\c<=im.length)/\Q (.bool true) [.cells 245 [.de (.int .u32) T 0 0,.d .u8 im,.k (.int .i64 a),.k (.int .i64 c),.m 1],.map 3 .int dY M]
 | _=>False
def agl:=agm.add Ki
def KW (T:List Int) (im:List UInt8) (a c:Int) (M:(List (Int×dY.den))):dE:=λQ=>br (decide (a≥0)) (br (decide (a<=c)) (db im (Q (.v (.c (.k (.bool (decide (c<=(aF im))))))) [.cells 245 [Cl.de (.int .u32) T ah bC,Cl.d Ty.u8 im,.k (aE a),.k (aE c),Cl.m bJ],HO.map (3: 
 TypeId) Kk.int dY M])) (Q jF [.cells 245 [Cl.de (.int .u32) T ah bC,Cl.d Ty.u8 im,.k (aE a),.k (aE c),Cl.m bJ],HO.map (3:TypeId) Kk.int dY M])) (Q jF [.cells 245 [Cl.de (.int .u32) T ah bC,Cl.d Ty.u8 
 im,.k (aE a),.k (aE c),Cl.m bJ],HO.map (3:TypeId) Kk.int dY M])
theorem acy:cM 194 aeB:=fe<| rK<| rM λH Q h=>by
 split at h;rotate_left;cases h;rename_i T im a c M;refine Wp.dL agl jw ⟨[],[]⟩ Tryz.f194 (KW T im a c M) ?_;unfold KW db aE jF ah aF aN bC bJ;obtain ⟨⟨h0,h1,h2⟩,h⟩:=h;refine aw (λ_=>aw (λ_=>λ_=>?_) (λhc=>absurd h1 (of_decide_eq_false hc))) (λhc=>absurd h0 (of_decide_eq_false hc));rw [decide_eq_true h2];exact h
def VQ:Ct:=cP<| cI λr=>cO λH Q=>match H with
 | [.cells 245 [.de (.int .u32) T 0 0,.d .u8 im,.k (.int .i64 a),.k (.int .i64 c),.m 1],.map 3 .int (.pair (.sl .u8) (.pair (.int .i64) .unit)) M]=>∃ fs R,T.length=256/\im.length<=100000000/\iX T im a c fs R M/\∃ k:Nat,k<=fs.length/\r=(fD fs k:Int)/\∀ h ok M',iX T im a c fs R M'->agR fs R k h ok->Q (.cZ [.agg (dY.cells h),.c (.k (.bool ok))]) [.cells 245 [.de (.int .u32) T 0 0,.d .u8 im,.k (.int .i64 a),.k (.int .i64 c),.m 1],.map 3 .int dY M']
 | _=>False
def agk:=agl.add acy
abbrev Mq (y0:SV->List HO->Prop) (y1:List Int) (y2:List UInt8) (y3:Int) (y4:Int) (y5:List (Int×dY.den)):=y0 (SV.cZ [S1.agg [.k cA,.k bn],.c (.k (.bool false))]) [.cells 245 [Cl.de (.int .u32) y1 ah bC,Cl.d Ty.u8 y2,.k (aE y3),.k (aE y4),Cl.m bJ],HO.map (3:TypeId) Kk.int dY y5]
abbrev Ih (y0:List (Int×dY.den)) (y1:Int):=gl (Kk.get Kk.int y0 y1) ([],ah,())
def Bm (r:Int) (T:List Int) (im:List UInt8) (a c:Int) (M:(List (Int×dY.den))):dE:=λQ=>aI .i64 r->Ty.ok dY (Ih M r)->br (Option.isSome (Kk.get Kk.int M r)) (Q (SV.cZ [S1.agg [Cl.d Ty.u8 (Ih M r).1,.k (.int .i64 (Ih M r).2.1)],.c (.k (.bool true))]) [.cells 245 [Cl.de (.int .u32) T 
 ah bC,Cl.d Ty.u8 im,.k (aE a),.k (aE c),Cl.m bJ],HO.map (3:TypeId) Kk.int dY M]) (aI .i64 (c - a)/\br (decide (r>c - a)) (Mq Q T im a c M) (aI .i64 (a+r)/\eG T (kg im (∃ z nx e,FrE T im (a+r) z 
 nx e/\(aN (bQ z)->cn nx e (br (e !=0) (Mq Q T im a c M) (br (decide (nx>c)) (Mq Q T im a c M) (aN (bQ z)->br ((aF z)==0) (Mq Q T im a c M) (aI .i64 (nx - a)/\List.length M< 9223372036854775807/\Q (SV.cZ 
 [S1.agg [Cl.d Ty.u8 z,.k (.int .i64 (nx - a))],.c (.k (.bool true))]) [.cells 245 [Cl.de (.int .u32) T ah bC,Cl.d Ty.u8 im,.k (aE a),.k (aE c),Cl.m bJ],HO.map (3:TypeId) Kk.int dY (Kk.put Kk.int M r (z,nx - a, 
 ()))])))))))))
theorem Uk:cM 195 VQ:=fe<| rK<| nK λr=>rM λH Q h=>by
 split at h;rotate_left;cases h;rename_i T im a c M;refine Wp.lY [some dY,none] [] ?_;refine Wp.dL agk jw ⟨[],[]⟩ Tryz.f195 (Bm r T im a c M) ?_;unfold Bm Ih kg cn eG bQ Mq cA bn aE ah aF aN bC bJ bN;obtain ⟨fs,R,hT,hl,hR,k,hk,rfl,h⟩:=h;have ha:=hR.a0;have hac:=hR.ac;have hci:=hR.ci;have hle:=xA hR.row hk;have jI:=qn fs;have hge:=JJ hR.row (az _);refine λ_ _=>?_;rcases hR.get hk with ⟨hg,aij,hM⟩| ⟨qS,hg⟩;rotate_left
 .rw [hg];exact aw (λ_=>⟨az _,h _ true M hR ⟨.inl ⟨rfl,qS,rfl⟩⟩⟩) (λhc=>by cases hc)
 rw [hg];refine aw (λhc=>by cases hc) (λ_=>⟨by unfold aI;omega,aw (λhc=>by have hc:=of_decide_eq_true hc;omega) (λ_=>⟨by unfold aI;omega,hT,hl,?_⟩)⟩);rcases eQ k fs.length with qS| qS
 .obtain ⟨hF,gD⟩:=hR.take qS;have alz:=xA hR.row (show k+1<=fs.length by omega);refine ⟨_,_,0,⟨.inr ⟨rfl,hF⟩⟩,λ_ _ _=>aw (λhc=>by cases hc) (λ_=>aw (λhc=>by have hc:=of_decide_eq_true hc;omega) (λ_=>λ_=>aw (λhc=>?_) (λ_=>⟨by unfold aI;omega,by omega,az _,?_⟩)))⟩
  .have hc:((lf R k).length:Int)=0:=eq_of_beq hc;exact absurd (aK (by omega)) gD
  .rw [show a+(fD fs (k+1):Int) - a=fD fs (k+1) by omega];exact h (uN fs R k).2 true _ (aij qS) ⟨.inl ⟨rfl,qS,rfl⟩⟩
 .obtain rfl:k=fs.length:=by omega
  have kJ:=h ([],0,()) false M hR ⟨.inr ⟨rfl,rfl,rfl⟩⟩;have anw:a+(fD fs fs.length:Int)=c:=by omega
  rw [anw];rcases hR.nxt with hc| ⟨b,nx,hF⟩;exact ⟨[],0,2,⟨.inl ⟨hc,rfl,rfl,rfl⟩⟩,λ_ _ _=>aw (λ_=>⟨az _,kJ⟩) (λhq=>by cases hq)⟩
  .obtain ⟨x,r,hx,_,hn⟩:=hF.ex;have:=hx.len.1;exact ⟨b,nx,0,⟨.inr ⟨rfl,hF⟩⟩,λ_ _ _=>aw (λhq=>by cases hq) (λ_=>aw (λ_=>⟨az _,kJ⟩) (λhq=>by have hq:=of_decide_eq_false hq;omega))⟩
def xw:Ct
 | [.v (.c (.p 0 0)),.v (.c (.k (.int .i64 r))),.v (.c (.k (.int .i64 n)))],[.cells 245 [.de (.int .u32) T 0 0,.d .u8 im,.k (.int .i64 a),.k (.int .i64 c),.m 1],.map 3 .int (.pair (.sl .u8) (.pair (.int .i64) .unit)) M],Q=>∃ fs R,T.length=256/\im.length<=100000000/\iX T im a c fs R M/\∃ o:Nat,o<=R.length/\R.length<=10000000/\r=(dV fs o:Int)/\(0<=n/\n<=10000000)/\∀ z nx e M',iX T im a c fs R M'->pn fs R o n.toNat z nx e->Q (.cZ [.c (.d .u8 z),.c (.k (.int .i64 nx)),.c (.k (.int .i64 e))]) [.cells 245 [.de (.int .u32) T 0 0,.d .u8 im,.k (.int .i64 a),.k (.int .i64 c),.m 1],.map 3 .int dY M']
 | _,_,_=>False
def agj:=agk.add Uk
abbrev Cb {A0 A3:Type} (y0:List A0) (y1) (y2:Int) (y3:List A3):=List.take (aA (min (a6 y0) (y1+y2 - (a6 y3))) - aA y1) (List.drop (bc y1) y0)
abbrev Sd (y0:SV->List HO->Prop) (y1) (y2) (y3) (y4) (y5:List (Int×Ty.den dY)):=y0 (.cZ [.c (.k cA),.c (.k bn),.c (.k (.int .i64 2))]) [.cells 245 [Cl.de (.int .u32) y1 ah bC,Cl.d Ty.u8 y2,.k (aE y3),.k (aE y4),Cl.m bJ],HO.map (3:TypeId) Kk.int dY y5]
abbrev Pf (y0:SV->List HO->Prop) (y1:List Int) (y2:List UInt8) (y3:Int) (y4:Int) (y5:List (Int×dY.den)):=y0 (.cZ [.c (.k cA),.c (.k bn),.c (.k (.int .i64 1))]) [.cells 245 [Cl.de (.int .u32) y1 ah bC,Cl.d Ty.u8 y2,.k (aE y3),.k (aE y4),Cl.m bJ],HO.map (3:TypeId) Kk.int dY y5]
abbrev Cp {A0 A3:Type} (y0:List A0) (y1) (y2:Int) (y3:List A3):=aA (min (a6 y0) (y1+y2 - (a6 y3))) - aA y1
def EU (r n:Int) (T:List Int) (im:List UInt8) (a c:Int) (M:(List (Int×dY.den))):dE:=λQ=>cn r n (br (dj r) (Pf Q T im a c M) (br (dj n) (Pf Q T im a c M) ((0<=a/\a<=c/\c<=(aF im))/\fa≠ah/\aI .i64 (gr r fa)/\fa≠ah/\(aI .i64 (Int.tmod r 
 fa)->ba (λi ag=>fU i.1.2.2.1 (br (decide ((a6 i.1.2.2.1)< n)) (∃ fs R,eG i.2.1.1 (kg i.2.1.2.1 (iX i.2.1.1 i.2.1.2.1 i.2.1.2.2.1 i.2.1.2.2.2.1 fs R i.2.2.1/\∃ k,k<=List.length fs/\i.1.1=(↑(fD fs k): 
 Int)/\∀ (h:Ty.den dY) (ok:Bool) (M':List (Int×Ty.den dY)),iX i.2.1.1 i.2.1.2.1 i.2.1.2.2.1 i.2.1.2.2.2.1 fs R M'->agR fs R k h ok->aN (bQ h.1)->aI .i64 h.2.1->br (!ok) (Sd Q i.2.1.1 i.2.1.2.1 i.2.1.2.2.1 
 i.2.1.2.2.2.1 M') (aN (bQ h.1)->br (decide (i.1.2.1≥(a6 h.1))) (Sd Q i.2.1.1 i.2.1.2.1 i.2.1.2.2.1 i.2.1.2.2.2.1 M') (aN (bQ h.1)->aI .i64 (i.1.2.1+n)/\(aN (bQ i.1.2.2.1)->aI .i64 (i.1.2.1+n - (a6 
 i.1.2.2.1))/\0<=i.1.2.1/\i.1.2.1<=min (a6 h.1) (i.1.2.1+n - (a6 i.1.2.2.1))/\min (a6 h.1) (i.1.2.1+n - (a6 i.1.2.2.1))<=(a6 h.1)/\(List.length i.1.2.2.1+List.length (Cb h.1 i.1.2.1 n i.1.2.2.1))*1<=cC/\ 
 List.length i.1.2.2.1+List.length (Cb h.1 i.1.2.1 n i.1.2.2.1)<=9223372036854775807/\(List.length (Cb h.1 i.1.2.1 n i.1.2.2.1)<=9223372036854775807->aI .i64 (i.1.2.1+(↑(List.length (Cb h.1 i.1.2.1 n i.1.2.2.1)):Int))/\ 
 br (i.1.2.1+(↑(List.length (Cb h.1 i.1.2.1 n i.1.2.2.1)):Int)==128) (ag ((h.2.1,ah,i.1.2.2.1++List.take (Cp h.1 i.1.2.1 n i.1.2.2.1) (qD i.1.2.1 h.1),()),(i.2.1.1,i.2.1.2.1,i.2.1.2.2.1,i.2.1.2.2.2.1,(),()), 
 M',())) (List.length (i.1.2.2.1++List.take (Cp h.1 i.1.2.1 n i.1.2.2.1) (qD i.1.2.1 h.1))<=9223372036854775807->br (decide ((↑(List.length (i.1.2.2.1++List.take (Cp h.1 i.1.2.1 n i.1.2.2.1) (qD i.1.2.1 h.1))):Int)< 
 n)) (Sd Q i.2.1.1 i.2.1.2.1 i.2.1.2.2.1 i.2.1.2.2.2.1 M') (ag ((i.1.1,i.1.2.1+(↑(List.length (Cb h.1 i.1.2.1 n i.1.2.2.1)):Int),i.1.2.2.1++List.take (Cp h.1 i.1.2.1 n i.1.2.2.1) (qD i.1.2.1 h.1),()),(i.2.1.1, 
 i.2.1.2.1,i.2.1.2.2.1,i.2.1.2.2.2.1,(),()),M',())))))))))) (aI .i64 (fa*i.1.1)/\aI .i64 (fa*i.1.1+i.1.2.1)/\Q (SV.cZ [S1.c (.o 2),.c (.k (.int .i64 (fa*i.1.1+i.1.2.1))),.c (.k bn)]) [.cells 245 
 [Cl.de (.int .u32) i.2.1.1 ah bC,Cl.d Ty.u8 i.2.1.2.1,.k (aE i.2.1.2.2.1),.k (aE i.2.1.2.2.2.1),Cl.m bJ],HO.map (3:TypeId) Kk.int dY i.2.2.1,.sl 5 Ty.u8 i.1.2.2.1]))) ((gr r fa,Int.tmod r fa,[], 
 ()),(T,im,a,c,(),()),M,())))))
theorem Kh:cM 147 xw:=by
 intro args H Q h;unfold xw at h;split at h;rotate_left;cases h;rename_i r n T im a c M;refine Wp.lY [some (.sl .u8),none,none] [2] ?_;refine Wp.dL agj jw ⟨[(8,⟨[(10,.int .i64),(11,.int .i64),(9,.own 5 .u8)],[(0,.cells 245 [.dp (.int .u32),.d .u8,.int .i64,.int .i64,.Jw (.m 1)]),(1,.map 3 .int dY)]⟩)],[(16,⟨[(10,.int .i64),(11,.int .i64)],[]⟩)]⟩ Tryz.f147 (EU r n T im a c M) ?_;unfold EU qD kg Cp Pf dj cn eG Sd fU bQ Cb cC cA bn bc aE ah fa a6 aF aN bC bJ bN;obtain ⟨fs,R,hT,hl,hR,o,ho,hRl,rfl,⟨n0,n1⟩,h⟩:=h;obtain ⟨n,rfl⟩:∃ k:Nat,n=k:=⟨n.toNat,by omega⟩;rw [bm] at h;have ha:=hR.a0;have hac:=hR.ac;have hci:=hR.ci;have jI:=qn fs;have hge:=JJ hR.row (az _);have hfl:=hR.row.len;obtain ⟨s1,s2⟩:=U2 fs o;rw [s1,s2];have xd:=xA hR.row (show o / 128<=fs.length by omega);refine λ_ _=>aw (λhc=>by have hc:=of_decide_eq_true hc;omega) (λ_=>aw (λhc=>by have hc:=of_decide_eq_true hc;omega) (λ_=>⟨⟨ha,by omega,hci⟩,by decide,by unfold aI;omega,by decide,λ_=>?_⟩));refine ba.intro (λi=>i.2.1=(T,im,a,c,(),())/\iX T im a c fs R i.2.2.1/\∃ m:Nat,m<=n/\o+m<=R.length/\i.1=((fD fs ((o+m) / 128):Int),(((o+m) % 128:Nat):Int),(R.drop o).take m,())) (λi=>n - i.1.2.2.1.length) ⟨rfl,hR,0,cr _,ho,rfl⟩ ?_;rintro ⟨⟨at',q,out,_⟩,⟨T',im',a',c',_,_⟩,M1,_⟩ ⟨e1,hR1,m,hm,hom,e2⟩;simp only [Prod.mk.injEq] at e1 e2;obtain ⟨rfl,rfl,rfl,rfl,_⟩:=e1;obtain ⟨rfl,rfl,rfl,_⟩:=e2;simp only at hR1 ⊢;have qk:((R.drop o).take m).length=m:=by rw [aD,aW];omega
 rw [qk];have P3:(o+m) / 128<=fs.length:=by omega
 have aqq:=xA hR.row P3;refine λ_=>aw (λhc=>?_) (λhc=>?_);rotate_left
 .have hc:¬(m:Int)< n:=of_decide_eq_false hc;obtain rfl:m=n:=by omega
  refine ⟨by unfold aI;omega,by unfold aI;omega,by simp,?_⟩;have:=h ((R.drop o).take m) (dV fs (o+m):Int) 0 M1 hR1 ⟨.inl ⟨hom,rfl,rfl,rfl⟩⟩;have e:(256*(fD fs ((o+m) / 128):Int)+(((o+m) % 128:Nat):Int))=(dV fs (o+m):Int):=by
   show _=((256*fD fs ((o+m) / 128)+(o+m) % 128:Nat):Int);omega
  rw [e];exact this
 have hc:(m:Int)< n:=of_decide_eq_true hc;refine ⟨fs,R,hT,hl,hR1,_,P3,rfl,λhh ok M2 hR2 hH _ _=>?_⟩;have aiu:R.length< o+n->Q (.cZ [.c (.d .u8 []),.c (.k (.int .i64 0)),.c (.k (.int .i64 2))]) _:=λq=>h [] 0 2 M2 hR2 ⟨.inr ⟨q,rfl,rfl,rfl⟩⟩;rcases hH.or with ⟨rfl,hk,rfl⟩| ⟨rfl,hk,rfl⟩;rotate_left;exact aw (λ_=>⟨by simp,aiu (by omega)⟩) (λhq=>by cases hq);refine aw (λhq=>by cases hq) (λ_=>λ_=>aw (λhq=>?_) (λhq=>?_))
 .have hq:=of_decide_eq_true hq;rw [re] at hq;exact ⟨by simp,aiu (by omega)⟩
 have hq:=of_decide_eq_false hq;have hbl:=re R ((o+m) / 128);simp only at hq ⊢;generalize hz:(min ((lf R ((o+m) / 128)).length:Int) ((((o+m) % 128:Nat):Int)+(n:Int) - (m:Int)))=z;obtain ⟨d,hd⟩:∃ d:Nat,z=(((o+m) % 128:Nat):Int)+d:=⟨(z - (((o+m) % 128:Nat):Int)).toNat,by omega⟩;have hp:List.take (z.toNat - (((o+m) % 128:Nat):Int).toNat) (List.drop (((o+m) % 128:Nat):Int).toNat (lf R ((o+m) / 128)))=(R.drop (o+m)).take d:=by
  have:=aar R (o+m) ((o+m) % 128+d) (by omega);rw [bm,show z.toNat - (o+m) % 128=(o+m) % 128+d - (o+m) % 128 by omega,this,show (o+m) % 128+d - (o+m) % 128=d by omega]
 rw [hp];have hdl:((R.drop (o+m)).take d).length=d:=by rw [aD,aW];omega
 rw [hdl,Mx];have ain:((R.drop o).take (m+d)).length=m+d:=by rw [aD,aW];omega
 rw [ain];refine λ_=>⟨by unfold aI;omega,λ_=>⟨by unfold aI;omega,by omega,by omega,by omega,by omega,by omega,λ_=>⟨by unfold aI;omega,aw (λhe=>?_) (λhe=>λ_=>aw (λhf=>?_) (λhf=>?_))⟩⟩⟩
 .have he:(((o+m) % 128:Nat):Int)+(d:Int)=128:=eq_of_beq he;refine ⟨⟨trivial,hR2,m+d,by omega,by omega,?_⟩,by omega⟩;rw [show (o+(m+d)) / 128=(o+m) / 128+1 by omega,show (o+(m+d)) % 128=0 by omega];rfl
 .have hf:=of_decide_eq_true hf;have he:¬(((o+m) % 128:Nat):Int)+(d:Int)=128:=by simpa using he
  exact ⟨by simp,aiu (by omega)⟩
 .have he:¬(((o+m) % 128:Nat):Int)+(d:Int)=128:=by simpa using he
  refine ⟨⟨trivial,hR2,m+d,by omega,by omega,?_⟩,by omega⟩;rw [show (o+(m+d)) / 128=(o+m) / 128 by omega,show (o+(m+d)) % 128=(o+m) % 128+d by omega];rfl
def G8:Ct
 | .v (.c (.p 0 0))::vs,[.abs a],Q=>∃ (T:List Int) (im:List UInt8) (a1:Int) (c:Int) (M:List (Int×dY.den)),a=jX [.cells 245 [.de (.int .u32) T 0 0,.d .u8 im,.k (.int .i64 a1),.k (.int .i64 c),.m 1],.map 3 .int dY M]/\xw (.v (.c (.p 0 0))::vs) [.cells 245 [.de (.int .u32) T 0 0,.d .u8 im,.k (.int .i64 a1),.k (.int .i64 c),.m 1],.map 3 .int dY M] (uB 0 [1] [0] 1 Q)
 | _,_,_=>False
theorem Ez:cM 147 G8:=λargs H Q h=>by
 unfold G8 at h;split at h
 .obtain ⟨T,im,a1,c,M,rfl,h⟩:=h;exact Wp.JI (q:=0) (L:=[.cells 245 [.de (.int .u32) T 0 0,.d .u8 im,.k (.int .i64 a1),.k (.int .i64 c),.m 1],.map 3 .int dY M]) rfl (iL _) (Kh _ _ _ h)
 .cases h
def G9:Ct:=λargs H Q=>xy args H (uB 0 [1] [0] H.length Q)
theorem EA:cM 103 G9:=λargs H Q h=>Wp.YK (Ki _ _ _ h)
end Go.Proofs

namespace Go.Lm
open Go
structure T6 (x:List Int):Prop where
 le:∀ i:Int,1<=i->i< x.length->aB (.int .i64) x (i - 1)<=aB (.int .i64) x i
abbrev ot:Ty:=.pair (.int .i64) (.pair (.int .i64) (.pair (.int .i64) (.pair (.int .i64) (.pair (.int .i64) (.pair (.int .i64) (.pair (.int .i64) (.pair (.int .i64) (.pair (.int .i64) (.pair (.int .i64) .unit)))))))))
structure rE (s:ot.den):Prop where
 p1:64<=s.2.2.1
 p2:s.2.2.1<=s.2.2.2.1
 p3:s.2.2.2.1<=s.2.2.2.2.1
 p4:s.2.2.2.2.1<=s.2.2.2.2.2.1
 p5:s.2.2.2.2.2.1<=s.2.2.2.2.2.2.1
 p6:s.2.2.2.2.2.2.1<=s.1
 p7:s.1<=1048576
 n1:1<=s.2.1/\s.2.1<=1024
 n2:1<=s.2.2.2.2.2.2.2.1/\s.2.2.2.2.2.2.2.1<=2048
 n3:0<=s.2.2.2.2.2.2.2.2.1/\s.2.2.2.2.2.2.2.2.1<=1024
 n4:0<=s.2.2.2.2.2.2.2.2.2.1/\s.2.2.2.2.2.2.2.2.2.1<=4294967295
theorem rE.ints {s:ot.den} (h:rE s):∃ s0 s1 s2 s3 s4 s5 s6 s7 s8 s9:Int,s=(s0,s1,s2,s3,s4,s5,s6,s7,s8,s9,())/\64<=s2/\s2<=s3/\s3<=s4/\s4<=s5/\s5<=s6/\s6<=s0/\s0<=1048576/\(1<=s1/\s1<=1024)/\(1<=s7/\s7<=2048)/\(0<=s8/\s8<=1024)/\(0<=s9/\s9<=4294967295):=by
 obtain ⟨s0,s1,s2,s3,s4,s5,s6,s7,s8,s9,_⟩:=s;exact ⟨s0,s1,s2,s3,s4,s5,s6,s7,s8,s9,rfl,h.p1,h.p2,h.p3,h.p4,h.p5,h.p6,h.p7,h.n1,h.n2,h.n3,h.n4⟩
theorem ahG {a b c d e f:Int} (h1:64<=a) (h2:a<=b) (h3:b<=c) (h4:c<=d) (h5:d<=e) (h6:e<=f) (h7:f<=1048576):T6 [64,a,b,c,d,e,f,1048576]:=⟨λi i0 i1=>by
 have i1:i< 8:=i1;have:i=1\/i=2\/i=3\/i=4\/i=5\/i=6\/i=7:=by omega
 rcases this with rfl| rfl| rfl| rfl| rfl| rfl| rfl<;>assumption⟩
def fT (s:ot.den):List UInt8:=[76,77,76,65]++(aJ 4 s.1.toNat++(aJ 4 s.2.2.1.toNat++(aJ 4 s.2.2.2.1.toNat++(aJ 4 s.2.2.2.2.1.toNat++(aJ 4 s.2.2.2.2.2.1.toNat++(aJ 4 s.2.2.2.2.2.2.1.toNat++(aJ 4 s.2.2.2.2.2.2.2.2.2.1.toNat++(aJ 2 s.2.1.toNat++(aJ 2 s.2.2.2.2.2.2.2.1.toNat++aJ 2 s.2.2.2.2.2.2.2.2.1.toNat)))))))))
def fS (T:List Int) (s:ot.den):List UInt8:=fT s++(aJ 4 (cw T 0 (fT s)).toNat++au 22 0)
theorem u9 (s:ot.den):(fT s).length=38:=by
 unfold fT;simp only [af,aC,aq,aL]
theorem oq (T:List Int) (s:ot.den):(fS T s).length=64:=by
 unfold fS;simp only [af,aC,u9,aT]
theorem iH (n x:Nat) (r:List UInt8):List.take n (aJ n x++r)=aJ n x:=List.take_left' (aC n x)
theorem iK (n x:Nat) (r:List UInt8):List.drop n (aJ n x++r)=r:=List.drop_left' (aC n x)
theorem eh {n:Nat} {x:Int} (h0:0<=x) (h1:x< 256 ^ n):bM (aJ n x.toNat)=x:=by
 have e:(x.toNat:Int)=x:=by omega
 rw [CO n x.toNat (by
  have:(x.toNat:Int)< ((256 ^ n:Nat):Int):=by rw [e];simpa using h1
  exact Int.ofNat_lt.1 this),e]
theorem ahO (z:List UInt8):jm z (z.length:Int)=z/\F5 z (z.length:Int)=0:=by
 have:=H8 (x:=z) (y:=[]) (n:=z.length) rfl;rw [a7] at this;exact ⟨this.1,this.2.1⟩
theorem ak1:kR (gk [76,77,76,65]) (ByteArray.mk #[(76:UInt8),(77:UInt8),(76:UInt8),(65:UInt8)])=true:=by decide+kernel
end Go.Lm

