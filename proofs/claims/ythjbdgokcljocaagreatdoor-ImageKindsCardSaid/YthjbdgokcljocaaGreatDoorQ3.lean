/- Texts of mine, laid together: LmVv LmVw LmVx LmVy LmVyb LmVz LmWa LmVza LmYa LmZb LmVzf LmVzc LmZw I1 I2 LmZa I3 LmZ0 LmZc I4 I5 LmZd LmZx I6 LmZg Grow LmZy LmZe I7 I8 LmZh. -/
import Derived.Test.YthjbdgokcljocaaGreatDoorQ2
import Derived.RangeFuncSeq
import Derived.RangeFuncRecord
import Derived.RangeFuncLeaves
import Derived.RangeFuncIn
import Derived.Lib.Bytealg
import Derived.Lib.Bytes
import Derived.Test.YthjbdgokcljocaaGreatDoorProg
import Derived.Test.YthjbdgokcljocaaGreatDoorChecked
import Derived.Test.YthjbdgokcljocaaGreatDoorQ1
import Derived.Shelf.Spec.SlicesGrow
set_option linter.unusedVariables false
open Array renaming getElem?_eq_some_iff → aQ, getD_eq_getD_getElem? → bZ, length_toList → dq
open Bool renaming and_eq_true → ao, not_eq_true' → bY, false_eq_true → eR, or_eq_true → lp
open Int renaming toNat → ax, toNat_natCast → aU, le_refl → bz, tdiv → fQ, natCast_nonneg → jv, eq_ofNat_of_zero_le → mr
open Go.IntKind renaming signed → eH, bits → gY, max → kc
open List renaming flatten → ae, length_append → af, getElem?_eq_getElem → ak, length_cons → aq, getElem?_eq_some_iff → au, replicate → av, length_take → aA, length_singleton → aD, append_assoc → aG, mem_cons_of_mem → aH, eq_nil_of_length_eq_zero → aJ, length_nil → aM, length_drop → aN, mem_map → aP, mem_singleton → aR, length_replicate → aS, take_of_length_le → aT, getElem?_append_left → aV, append_nil → aW, mem_cons_self → aX, mem_append → aY, getElem?_append_right → a8, getD_eq_getElem?_getD → ba, mem_cons → bm, all_eq_true → bo, length_map → bH, flatten_cons → bI, mem_append_left → bM, range → bN, take_succ_eq_append_getElem → bU, map_cons → bX, drop_eq_getElem_cons → cg, getElem?_map → ck, take_append_drop → cv, drop_append_of_le_length → da, mem_range → dd, getElem_mem → dw, getElem?_eq_none → dx, getElem?_take → ez, nodup_cons → eB, take_take → eF, drop_drop → eG, take_length → eN, cons_append → eO, flatten_append → eU, drop_left → eV, mem_of_getElem? → fc, nodup_append → fh, mem_filter → fO, map_congr_left → gD, length_set → gE, drop_eq_nil_of_le → ik, mem_append_right → iK, drop_take → jk, find?_eq_none → ju, drop_of_length_le → j4, flatMap_cons → j9, filter_eq_self → ka, take_append_of_le_length → lT, filter_cons → lU, getElem?_range → nD, mem_of_find?_eq_some → pC, drop_zero → pD
open Nat renaming eq_of_beq_eq_true → ai, le_refl → ay, zero_add → bW, zero_le → cq, le_of_ble_eq_true → cH, min_eq_left → dK, lt_or_ge → dZ, blt → gn, zero_lt_succ → gJ, add_zero → jP, mod_eq_of_lt → lS, lt_trichotomy → mK
open Option renaming getD → gd, isSome_iff_exists → lR
open Option.some renaming inj → aj, injEq → j8
open Go.Proofs.Tryz renaming prog → cd, underlying3 → oT
open UInt8 renaming ofNat → az, toNat → cW
noncomputable section
namespace Go.Lm
open Go Go.RowKit
section
variable {W:cQ} {F:List Atom} {E E':Env} {g w:World}
theorem sV {l:Nat} {v:Value} (h:E[l]?=some v):l< E.length:=(au.1 h).1
mutual
theorem cr.JZ:∀ {c:Cl} {u:Value},cr E g c u->∀ l∈c.labels,l< E.length
 | .k _,_,_,_,h=>by cases h
 | .d _ _,_,_,_,h=>by cases h
 | .de _ _ _ _,_,_,_,h=>by cases h
 | .JX,_,_,_,h=>by cases h
 | .p _ _,_,⟨_,h1,_⟩,_,h=>by rw [aR.1 h];exact sV h1
 | .o _,_,⟨h1,_⟩,_,h=>by rw [aR.1 h];exact sV h1
 | .os _ _ _ _,_,⟨_,h1,_⟩,_,h=>by rw [aR.1 h];exact sV h1
 | .oe _ _ _ _,_,⟨_,h1,_⟩,_,h=>by rw [aR.1 h];exact sV h1
 | .m _,_,⟨_,h1,_⟩,_,h=>by rw [aR.1 h];exact sV h1
 | .sc _ _ _,_,⟨_,_,h1,_⟩,_,h=>by rw [aR.1 h];exact sV h1
 | .kl _ _,_,⟨⟨_,h1⟩,_⟩,_,h=>by rw [aR.1 h];exact sV h1
 | .fn _ _,_,⟨_,h1,_⟩,l,h=>bA.JZ h1 l h
 | .AM _ _,_,⟨_,h1,_⟩,l,h=>cr.JZ h1 l h
theorem bA.JZ:∀ {cs:List Cl} {us:List Value},bA E g cs us->∀ l∈Cl.nH cs,l< E.length
 | [],_,_,_,h=>by cases h
 | _::_,_,⟨_,_,_,h1,h2⟩,l,h=>by
  rcases aY.1 h with h| h;exact cr.JZ h1 l h;exact bA.JZ h2 l h
end
mutual
theorem cr.jw:∀ {c:Cl} {u:Value},(∀ l∈c.labels,E'[l]?=E[l]?)->cr E g c u->cr E' g c u
 | .k _,_,_,h=>h
 | .d _ _,_,_,h=>h
 | .de _ _ _ _,_,_,h=>h
 | .JX,_,_,h=>h
 | .p l _,_,k,⟨b,h1,h2⟩=>⟨b,by rw [k l (aR.2 rfl)];exact h1,h2⟩
 | .o l,_,k,⟨h1,h2⟩=>⟨by rw [k l (aR.2 rfl)];exact h1,h2⟩
 | .os l _ _ _,_,k,⟨v,h1,h2⟩=>⟨v,by rw [k l (aR.2 rfl)];exact h1,h2⟩
 | .oe l _ _ _,_,k,⟨v,h1,h2⟩=>⟨v,by rw [k l (aR.2 rfl)];exact h1,h2⟩
 | .m l,_,k,⟨b,h1,h2⟩=>⟨b,by rw [k l (aR.2 rfl)];exact h1,h2⟩
 | .sc l _ _,_,k,⟨b,c,h1,h2⟩=>⟨b,c,by rw [k l (aR.2 rfl)];exact h1,h2⟩
 | .kl l _,_,k,⟨⟨x,h1⟩,h2⟩=>⟨⟨x,by rw [k l (aR.2 rfl)];exact h1⟩,h2⟩
 | .fn _ _,_,k,⟨us,h1,h2⟩=>⟨us,bA.jw k h1,h2⟩
 | .AM _ _,_,k,⟨v,h1,h2⟩=>⟨v,cr.jw k h1,h2⟩
theorem bA.jw:∀ {cs:List Cl} {us:List Value},(∀ l∈Cl.nH cs,E'[l]?=E[l]?)->bA E g cs us->bA E' g cs us
 | [],_,_,h=>h
 | _::_,_,k,⟨u,r,e,h1,h2⟩=>⟨u,r,e,cr.jw (λl hl=>k l (bM _ hl)) h1,bA.jw (λl hl=>k l (iK _ hl)) h2⟩
end
theorem gm.JZ:∀ {x:S1} {u:Value},gm E g x u->∀ l∈x.labels,l< E.length
 | .c _,_,h,l,hl=>cr.JZ h l hl
 | .agg _,_,⟨_,h,_⟩,l,hl=>bA.JZ h l hl
theorem gm.jw:∀ {x:S1} {u:Value},(∀ l∈x.labels,E'[l]?=E[l]?)->gm E g x u->gm E' g x u
 | .c _,_,k,h=>cr.jw k h
 | .agg _,_,k,⟨us,h,e⟩=>⟨us,bA.jw k h,e⟩
theorem gW.JZ:∀ {x:List S1} {us:List Value},gW E g x us->∀ l∈x.flatMap S1.labels,l< E.length
 | [],_,_,_,h=>by cases h
 | _::_,_,⟨_,_,_,h1,h2⟩,l,h=>by
  rw [j9] at h;rcases aY.1 h with h| h;exact h1.JZ l h;exact h2.JZ l h
theorem gW.jw:∀ {x:List S1} {us:List Value},(∀ l∈x.flatMap S1.labels,E'[l]?=E[l]?)->gW E g x us->gW E' g x us
 | [],_,_,h=>h
 | _::_,_,k,⟨u,r,e,h1,h2⟩=>⟨u,r,e,h1.jw λl hl=>k l (by rw [j9];exact bM _ hl),h2.jw λl hl=>k l (by rw [j9];exact iK _ hl)⟩
theorem df.JZ:∀ {x:SV} {u:Value},df E g x u->∀ l∈x.labels,l< E.length
 | .v _,_,h,l,hl=>gm.JZ h l hl
 | .cJ _,_,⟨_,h,_⟩,l,hl=>gW.JZ h l hl
 | .any,_,_,_,hl=>by cases hl
 | .arr _ _,_,_,_,hl=>by cases hl
theorem df.jw:∀ {x:SV} {u:Value},(∀ l∈x.labels,E'[l]?=E[l]?)->df E g x u->df E' g x u
 | .v _,_,k,h=>gm.jw k h
 | .cJ _,_,k,⟨us,h,e⟩=>⟨us,gW.jw k h,e⟩
 | .any,_,_,_=>trivial
 | .arr _ _,_,_,h=>h
theorem cF.JZ {l:Nat}:∀ {o:HO} {h:Hp},(cF E l o).sat g h->∀ k∈o.labels,k< E.length
 | .cells _ _,_,⟨_,_,_,h2,_⟩,k,hk=>bA.JZ h2 k hk
 | .sl _ _ _,_,_,_,hk=>by cases hk
 | .held _ _ _,_,_,_,hk=>by cases hk
 | .map ..,_,_,_,hk=>by cases hk
 | .abs _,_,_,_,hk=>by cases hk
 | .ab _,_,_,_,hk=>by cases hk
 | .gone,_,_,_,hk=>by cases hk
 | .qk _ n,_,⟨_,_,_,h2,_⟩,k,hk=>by
  rw [aR.1 hk];exact (au.1 h2).1
theorem cF.jw {l l':Nat}:∀ {o:HO} {h:Hp},(∀ k∈o.labels,E'[k]?=E[k]?)->E'[l']?=E[l]?->(cF E l o).sat g h->(cF E' l' o).sat g h
 | .cells _ _,_,k,kl,⟨b,us,h1,h2,h3⟩=>⟨b,us,by rw [kl];exact h1,bA.jw k h2,h3⟩
 | .sl _ _ _,_,_,kl,⟨v,h1,h2⟩=>⟨v,by rw [kl];exact h1,h2⟩
 | .held _ _ _,_,_,kl,⟨v,h1,h2⟩=>⟨v,by rw [kl];exact h1,h2⟩
 | .map ..,_,_,kl,⟨b,m,h1,h2⟩=>⟨b,m,by rw [kl];exact h1,h2⟩
 | .abs _,_,_,kl,⟨v,h1,h2⟩=>⟨v,by rw [kl];exact h1,h2⟩
 | .ab _,_,_,kl,⟨v,h1,h2⟩=>⟨v,by rw [kl];exact h1,h2⟩
 | .gone,_,_,_,h=>h
 | .qk _ n,_,k,kl,⟨v,vn,h1,h2,h3⟩=>⟨v,vn,by rw [kl];exact h1,by rw [k n (aR.2 rfl)];exact h2,h3⟩
end
section
variable {n:Nat} {W:cQ} {F:List Atom} {b:Bs} {E E':Env} {g g' w w':World} {s s':Ov} {a a':Act}
theorem iS {p:Nat->Bool}:∀ {l:Ag} {t:Nat},fV (l.filter λq=>p q.1) t=bif p t then fV l t else none
 | [],t=>by cases p t<;>rfl
 | (k,v)::r,t=>by
  rw [lU];by_cases e:k=t
  .subst e;cases hp:p k with
   | true=>simp [fV]
   | false=>
    have:=iS (p:=p) (l:=r) (t:=k);rw [hp] at this;simpa using this
  .have ih:=iS (p:=p) (l:=r) (t:=t);split
   .simp only [fV,ij e,cond_false];exact ih
   .simp only [fV,ij e,cond_false];exact ih
theorem UC {ks:List Nat} (t:Nat):(pH ks b s).slot (uA ks b s) t=b.slot s t:=by
 unfold Bs.slot pH uA;simp only;rw [iS (p:=λk=>hZ k ks),iS (p:=λk=> !hZ k ks),mg];cases hZ t ks with
 | true=>simp only [cond_true,Bool.not_true,cond_false];split<;>rename_i h<;>first| exact h.symm| (rw [h])
 | false=>simp only [cond_false,Bool.not_false,cond_true];rfl
theorem BO {ks:List Nat} (h:∀ l,s.n<=l->b.obj s l= .gone) {s2 s3:Ov} (h3:s3.h=s2.h++s.h) (l:Nat):(pH ks b s).obj s2 l=b.obj s3 l:=by
 unfold Bs.obj;rw [h3,nQ];show (match gC s2.h l with| some o=>o| none=>lJ (b.heap s) l)=_
 cases gC s2.h l with
 | some o=>rfl
 | none=>exact yF h l
theorem FK {ks:List Nat} (h:∀ l,s.n<=l->b.obj s l= .gone) {s2 s3:Ov} (h3:s3.h=s2.h++s.h) (hn:s3.n=s2.n):(pH ks b s).heap s2=b.heap s3:=by
 unfold Bs.heap;rw [hn];exact gD λl _=>BO h h3 l
theorem dg.ahA (S:dg n W F b E g w s a) (ks:List Nat):dg n W F (pH ks b s) E g w (uA ks b s) a:=by
 refine ⟨S.size,S.defers,λt v hv=>S.fr t v (by rw [<-UC (ks:=ks)];exact hv),?_,λl hl=>?_⟩;rw [FK (s2:=uA ks b s) (s3:=s) S.top rfl rfl];exact S.sat
 .rw [BO (s2:=uA ks b s) (s3:=s) S.top rfl];exact S.top l hl
theorem U9 {ks:List Nat} {t:Nat}:fV (ks.map λk=>(k,SV.any)) t=bif hZ t ks then some .any else none:=by
 induction ks with
 | nil=>rfl
 | cons k r ih=>
  simp only [bX,fV,hZ];by_cases e:k=t;subst e;simp
  .have e':¬t=k:=λq=>e q.symm;rw [ij e,ij e',ih];rfl
theorem dg.out {ks:List Nat} (top:∀ l,s.n<=l->b.obj s l= .gone) (S:dg n W F (pH ks b s) E' g' w' s' a'):dg n W F b E' g' w' (oX ks s s') a':=by
 refine ⟨S.size,S.defers,λt v hv=>?_,?_,λl hl=>?_⟩
 .have hv:(match fV (s'.f++(ks.map (λk=>(k,SV.any))++s.f)) t with
   | some v=>some v
   | none=>fV b.f t)=some v:=hv
  rw [mg,mg,U9] at hv;cases h1:fV s'.f t with
  | some u=>
   rw [h1] at hv;refine S.fr t v ?_;unfold Bs.slot;rw [h1];exact hv
  | none=>
   rw [h1] at hv;cases hm:hZ t ks with
   | true=>
    rw [hm] at hv;obtain rfl:SV.any=v:=aj hv;trivial
   | false=>
    rw [hm] at hv;refine S.fr t v ?_;unfold Bs.slot;rw [h1];show fV ((s.f++b.f).filter λp=> !hZ p.1 ks) t=some v;rw [iS (p:=λk=> !hZ k ks),hm,mg];exact hv
 .rw [<-FK (s2:=s') (s3:=oX ks s s') top rfl rfl];exact S.sat
 .rw [<-BO (s2:=s') (s3:=oX ks s s') top rfl];exact S.top l hl
structure Old (n0:Nat) (b1:Bs):Prop where
 slot:∀ t v,fV b1.f t=some v->∀ l∈v.labels,l< n0
 obj:∀ k,∀ l∈(lJ b1.h k).labels,l< n0
 len:b1.h.length=n0
theorem dg.vQ (S:dg n W F b E g w s a) (ks:List Nat):Old s.n (pH ks b s):=by
 refine ⟨λt v hv l hl=>?_,λk l hl=>?_,dN⟩
 .rw [<-S.len];have hv:fV ((s.f++b.f).filter λp=> !hZ p.1 ks) t=some v:=hv;rw [iS (p:=λk=> !hZ k ks)] at hv;cases hm:hZ t ks with
  | true=>rw [hm] at hv;cases hv
  | false=>
   rw [hm,Bool.not_false,cond_true,mg] at hv;exact (S.fr t v hv).JZ l hl
 .have hl:l∈(lJ (b.heap s) k).labels:=hl;rw [yF S.top] at hl;rw [<-S.len];by_cases hk:k< s.n
  .have vS:k< E.length:=by rw [S.len];exact hk
   obtain ⟨h,_,_,_,h1,_,_,_,s1,_⟩:=S.pick (ak vS);exact cF.JZ s1 l hl
  .rw [S.top k (by omega)] at hl;cases hl
theorem uw {F:Fence} {n:Nat} {P:Program} {Q:Exit->Act->World->Prop} {c:Code} {ι:Type} (I:ι->Act->World->Prop) (μ:ι->Nat) (i₀:ι) (h₀:I i₀ a w)
  (round:∀ i a w,I i a w->c.wpIn F n P (Exit.then (λa' w'=>∃ i',I i' a' w'/\μ i'< μ i) Q) a w):(Code.loop c).wpIn F n P Q a w:=by
 intro b kk cs hro hb hr;have key:∀ k i a w,μ i=k->I i a w->
   ∃ e a' w',Q e a' w'/\ArrivesIn (Machine.fenced P F) P (lone (b.atR a (.code c:: .inLoop c::kk)) cs w) b kk cs e a' w':=by
  intro k
  induction k using Nat.strongRecOn with
  | _ k ih=>
   intro i a w hk hi;obtain ⟨e,a₁,w₁,hq,M8⟩:=round i a w hi b (.inLoop c::kk) cs hro hb hr;cases e with
   | normal=>
    obtain ⟨i',hI,eK⟩:=hq;obtain ⟨e₂,a₂,w₂,hq₂,adK⟩:=ih (μ i') (by omega) i' a₁ w₁ rfl hI;exact ⟨e₂,a₂,w₂,hq₂,.of_steps (StepsIn.trans M8 (.one (fenced_calm hb hr rfl) stepR_inLoop)) adK⟩
   | exit id=>exact ⟨_,a₁,w₁,hq,.pass (x:=.inLoop c) rfl (λ_ _=>.inl (by simp)) M8⟩
   | goto l=>exact ⟨_,a₁,w₁,hq,.pass (x:=.inLoop c) rfl (λ_ _=>.inl (by simp)) M8⟩
   | ret=>exact ⟨_,a₁,w₁,hq,.pass (x:=.inLoop c) rfl (λ_ _=>.inl (by simp)) M8⟩
   | panic ch=>exact ⟨_,a₁,w₁,hq,.pass (x:=.inLoop c) rfl (λ_ _=>.inl (by simp)) M8⟩
   | outgrown=>exact ⟨_,a₁,w₁,hq,.pass (x:=.inLoop c) rfl (λ_ _=>.inl (by simp)) M8⟩
 obtain ⟨e,a',w',hq,M8⟩:=key _ i₀ a w rfl h₀;exact ⟨e,a',w',hq,.of_steps (.one (fenced_calm hb hr rfl) stepR_loop) M8⟩
end
section
variable {n n0:Nat} {W:cQ} {F:List Atom} {b:Bs} {E E2 E3:Env} {g w:World} {s s':Ov} {a:Act}
def Mov:HO->Prop
 | .sl .. | .ab _=>True
 | _=>False
theorem Mov.sat {E2 E3:Env} {g:World} {l i:Nat} {v:Value} {hh:Hp}:∀ {o:HO},Mov o->E2[l]?=some v->E3[i]?=some v->(cF E2 l o).sat g hh->(cF E3 i o).sat g hh
 | .sl ..,_,h1,h2,⟨z,z1,z2⟩=>by
  rw [h1] at z1;obtain rfl:=aj z1;exact ⟨_,h2,z2⟩
 | .ab _,_,h1,h2,⟨z,z1,z2⟩=>by
  rw [h1] at z1;obtain rfl:=aj z1;exact ⟨_,h2,z2⟩
 | .cells ..,h,_,_,_| .held ..,h,_,_,_| .map ..,h,_,_,_| .abs _,h,_,_,_| .gone,h,_,_,_| .qk ..,h,_,_,_=>h.elim
def agC (E2:Env) (b:Bs) (s':Ov) (q:Option Nat×Value) (o:HO):Prop:=
 (∃ l o',q.1=some l/\E2[l]?=some q.2/\b.obj s' l=o'/\o=o'/\Mov o')\/(q.1=none/\q.2= .slice none 0 0/\∃ t e,o= .sl t e [])
def k9 (E2:Env) (b:Bs) (s':Ov):List (Option Nat×Value)->List HO->Prop
 | [],os=>os= []
 | q::qs,os=>∃ o r,os=o::r/\agC E2 b s' q o/\k9 E2 b s' qs r
theorem k9.app:∀ {q1 q2:List (Option Nat×Value)} {o1 o2:List HO},k9 E2 b s' q1 o1->k9 E2 b s' q2 o2->k9 E2 b s' (q1++q2) (o1++o2)
 | [],_,_,_,h,k=>by rw [show _= [] from h];exact k
 | _::_,_,_,_,⟨o,r,e,h1,h2⟩,k=>by rw [e];exact ⟨o,_,rfl,h1,h2.app k⟩
theorem k9.len:∀ {q:List (Option Nat×Value)} {o:List HO},k9 E2 b s' q o->q.length=o.length
 | [],_,h=>by rw [show _= [] from h];rfl
 | _::_,_,⟨o,r,e,_,h⟩=>by rw [e,aq,aq,h.len]
theorem k9.get:∀ {q:List (Option Nat×Value)} {o:List HO} {i:Nat} {x:Option Nat×Value} {y:HO},k9 E2 b s' q o->q[i]?=some x->o[i]?=some y->agC E2 b s' x y
 | [],_,_,_,_,_,h,_=>by simp at h
 | _::_,_,0,x,y,⟨o,r,e,h1,_⟩,h,k=>by
  subst e;obtain rfl:_=x:=by simpa using h
  obtain rfl:o=y:=by simpa using k
  exact h1
 | _::_,_,i+1,x,y,⟨o,r,e,_,h2⟩,h,k=>by
  subst e;exact h2.get (i:=i) (by simpa using h) (by simpa using k)
def Kept (n0:Nat) (E2 E3:Env):Prop:=∀ l,l< n0->E3[l]?=E2[l]?
def At (E3:Env) (m:Nat) (qs:List (Option Nat×Value)):Prop:=∀ j q,qs[j]?=some q->E3[m+j]?=some q.2
theorem At.left {m:Nat} {p q:List (Option Nat×Value)} (h:At E3 m (p++q)):At E3 m p:=λj x hx=>h j x (by rw [aV (au.1 hx).1];exact hx)
theorem At.right {m:Nat} {p q:List (Option Nat×Value)} (h:At E3 m (p++q)):At E3 (m+p.length) q:=λj x hx=>by
 have:=h (p.length+j) x (by rw [a8 (by omega)];simpa using hx);rw [show m+p.length+j=m+(p.length+j) by omega];exact this
abbrev Ai (qs:List (Option Nat×Value)):List Nat:=qs.filterMap (·.1)
theorem aeQ (S:dg n W F b E2 g w s' a) (hb:b.h.length=n0):∀ {h:Sh} {c:Cl} {x:h.den} {u:List Nat} {v0:Value},h.rd b s' c=some (x,u)->cr E2 g c v0->
  ∃ qs,Ai qs=u/\(∀ m,k9 E2 b s' qs (h.mk x m).2)/\∀ m E3,Kept n0 E2 E3->At E3 m qs->∀ v,cr E2 g c v->cr E3 g (h.mk x m).1 v:=by
 intro h c x u v0 hr r0;cases h with
 | int k=>
  dsimp only [Sh.rd] at hr;split at hr
  .split at hr
   .rename_i hk;obtain rfl:=IntKind.eq_of_beq hk;cases hr;exact ⟨[],rfl,λm=>rfl,λm E3 _ _ v h=>h⟩
   .cases hr
  .cases hr
 | bool=>
  dsimp only [Sh.rd] at hr;split at hr
  .cases hr;exact ⟨[],rfl,λm=>rfl,λm E3 _ _ v h=>h⟩
  .cases hr
 | str=>
  dsimp only [Sh.rd] at hr;split at hr
  .cases hr;exact ⟨[],rfl,λm=>rfl,λm E3 _ _ v h=>h⟩
  .cases hr
 | d e=>
  dsimp only [Sh.rd] at hr;split at hr
  .split at hr
   .rename_i y hy;obtain ⟨q,e1⟩:=ev hy;subst q;cases hr;subst e1;exact ⟨[],rfl,λm=>rfl,λm E3 _ _ v h=>h⟩
   .cases hr
  .cases hr;exact ⟨[],rfl,λm=>rfl,λm E3 _ _ v h=>by
    obtain ⟨rfl,_⟩:=h;exact (@dv e.den e.rep g _ _).2 (.inl ⟨rfl,rfl⟩)⟩
  .split at hr
   .rename_i eh;split at hr
    .rename_i y hy;obtain ⟨q,e1⟩:=ev hy;subst q;cases hr;subst e1;exact ⟨[],rfl,λm=>rfl,λm E3 _ _ v h=>lP S h.1 eh⟩
    .cases hr
   .cases hr
  .cases hr
 | own t e=>
  dsimp only [Sh.rd] at hr;split at hr
  .cases hr;refine ⟨[(none,.slice none 0 0)],rfl,λm=>⟨_,[],rfl,.inr ⟨rfl,rfl,t,e,rfl⟩,rfl⟩,λm E3 _ uo v h=>?_⟩;obtain ⟨rfl,_⟩:=h;exact ⟨by have:=uo 0 _ rfl;simpa using this,none,0,0,rfl⟩
  .rename_i l;split at hr
   .rename_i t' e' xs eh;split at hr
    .rename_i ht;obtain rfl:=ai ht;split at hr
     .rename_i y hy;obtain ⟨q,e1⟩:=ev hy;subst q;cases hr;subst e1;refine ⟨[(some l,v0)],rfl,λm=>⟨_,[],rfl,.inl ⟨l,_,rfl,r0.1,eh,rfl,trivial⟩,rfl⟩,λm E3 _ uo v h=>?_⟩;have:v=v0:=by
       have h1:=h.1;rw [r0.1] at h1;exact (aj h1).symm
      subst this;exact ⟨by have:=uo 0 _ rfl;simpa using this,h.2⟩
     .cases hr
    .cases hr
   .cases hr
  .cases hr
 | p l off=>
  dsimp only [Sh.rd] at hr;split at hr
  .split at hr
   .rename_i hq;simp only [ao] at hq;obtain ⟨⟨h1,h2⟩,h3⟩:=hq;obtain rfl:=ai h1;obtain rfl:=ai h2;cases hr;refine ⟨[],rfl,λm=>rfl,λm E3 hk _ v h=>h.jw λl hl=>?_⟩;rw [aR.1 hl];exact hk _ (by rw [<-hb];simpa using h3)
   .cases hr
  .cases hr
 | m l=>
  dsimp only [Sh.rd] at hr;split at hr
  .split at hr
   .rename_i hq;simp only [ao] at hq;obtain ⟨h1,h3⟩:=hq;obtain rfl:=ai h1;cases hr;refine ⟨[],rfl,λm=>rfl,λm E3 hk _ v h=>h.jw λl hl=>?_⟩;rw [aR.1 hl];exact hk _ (by rw [<-hb];simpa using h3)
   .cases hr
  .cases hr
 | pa t=>
  dsimp only [Sh.rd] at hr;split at hr
  .rename_i l;split at hr
   .rename_i k eh;split at hr
    .rename_i y hy;cases hr;have hk:=Wj.aeT hy;obtain ⟨bb,hE,hv⟩:=r0;have SI:v0=ptr bb 0:=hv;subst SI;refine ⟨[(some l,ptr bb 0)],rfl,λm=>⟨_,[],rfl,.inl ⟨l,_,rfl,hE,eh,by rw [hk],trivial⟩,rfl⟩,λm E3 _ uo v h=>?_⟩;obtain ⟨b2,h1,h2⟩:=h;rw [hE] at h1;have e:ptr bb 0=ptr b2 0:=aj h1;refine ⟨b2,?_,h2⟩;have:=uo 0 _ rfl;rw [<-e];simpa using this
    .cases hr
   .cases hr
  .cases hr
 | Jx c0=>
  dsimp only [Sh.rd] at hr;split at hr
  .rename_i hq;simp only [ao] at hq;obtain rfl:=Cl.HQ hq.1;cases hr;refine ⟨[],rfl,λm=>rfl,λm E3 hk _ v h=>h.jw λl hl=>?_⟩;have:=bo.1 hq.2 l hl;exact hk _ (by rw [<-hb];simpa using this)
  .cases hr
 | dp e=>
  dsimp only [Sh.rd] at hr;split at hr
  .split at hr
   .rename_i hq;simp only [ao,decide_eq_true_eq] at hq;obtain ⟨rfl,h2⟩:=hq;obtain rfl:=ai h2;split at hr
    .rename_i y hy;obtain ⟨q,e1⟩:=ev hy;subst q;cases hr;subst e1;exact ⟨[],rfl,λm=>rfl,λm E3 _ _ v h=>h⟩
    .cases hr
   .cases hr
  .cases hr
theorem wi {p q:List (Option Nat×Value)}:Ai (p++q)=Ai p++Ai q:=by simp [Ai]
theorem XF (S:dg n W F b E2 g w s' a) (hb:b.h.length=n0):∀ {l:List Sh} {cs:List Cl} {x:N6.den l} {u:List Nat} {us0:List Value},N6.rd b s' l cs=some (x,u)->bA E2 g cs us0->
  ∃ qs,Ai qs=u/\(∀ m,k9 E2 b s' qs (N6.mk l x m).2)/\∀ m E3,Kept n0 E2 E3->At E3 m qs->∀ us,bA E2 g cs us->bA E3 g (N6.mk l x m).1 us
 | [],[],x,u,us0,hr,r=>by
  cases hr;exact ⟨[],rfl,λm=>rfl,λm E3 _ _ us h=>h⟩
 | h::l,c::cs,x,u,us0,hr,⟨v0,r0,e0,h1,h2⟩=>by
  unfold N6.rd at hr;split at hr
  .rename_i x1 u1 hx;split at hr
   .rename_i y u2 hy;cases hr;obtain ⟨q1,e1,n1,k1⟩:=aeQ S hb hx h1;obtain ⟨q2,e2,n2,k2⟩:=XF S hb hy h2;refine ⟨q1++q2,by rw [wi,e1,e2],λm=>(n1 m).app (n2 _),λm E3 hk uo us Wb=>?_⟩;obtain ⟨v,r,rfl,g1,g2⟩:=Wb;refine ⟨v,r,rfl,k1 m E3 hk uo.left v g1,k2 _ E3 hk ?_ r g2⟩;rw [<-(n1 m).len];exact uo.right
   .cases hr
  .cases hr
 | [],_::_,_,_,_,hr,_=>by cases hr
 | _::_,[],_,_,_,hr,_=>by cases hr
theorem ahG (S:dg n W F b E2 g w s' a) (hb:b.h.length=n0) {h:N9} {x:h.den} {u:List Nat} {l:Nat} (hl:l< n0) (hs:n0<=s'.n) (hr:h.rd b s' (b.obj s' l)=some (x,u)):
  ∃ qs,Ai qs=u/\(∀ m,k9 E2 b s' qs (h.mk x m).2)/\∀ m E3,Kept n0 E2 E3->At E3 m qs->∀ hh,(cF E2 l (b.obj s' l)).sat g hh->(cF E3 l (h.mk x m).1).sat g hh:=by
 have wX:l< E2.length:=by rw [S.len];omega
 obtain ⟨_,_,_,_,hh0,_,_,_,sat0,_⟩:=S.pick (ak wX);cases h with
 | cells t cs=>
  dsimp only [N9.rd] at hr;split at hr
  .rename_i t' c eh;rw [eh] at sat0 ⊢;split at hr
   .rename_i ht;obtain rfl:=ai ht;obtain ⟨b0,us0,_,r0,_⟩:=sat0;obtain ⟨qs,e1,n1,k1⟩:=XF S hb hr r0;exact ⟨qs,e1,n1,λm E3 hk uo hh ⟨b1,us,h1,h2,h3⟩=>⟨b1,us,by rw [hk l hl];exact h1,k1 m E3 hk uo us h2,h3⟩⟩
   .cases hr
  .cases hr
 | sl t e=>
  dsimp only [N9.rd] at hr;split at hr
  .rename_i t' e' xs eh;split at hr
   .rename_i ht;obtain rfl:=ai ht;split at hr
    .rename_i y hy;obtain ⟨q,e1⟩:=ev hy;subst q;cases hr;subst e1;rw [eh];exact ⟨[],rfl,λm=>rfl,λm E3 hk _ hh ⟨v,h1,h2⟩=>⟨v,by rw [hk l hl];exact h1,h2⟩⟩
    .cases hr
   .cases hr
  .cases hr
 | map t k e=>
  dsimp only [N9.rd] at hr;split at hr
  .rename_i t' k' e' xs eh;split at hr
   .rename_i ht;obtain rfl:=ai ht;split at hr
    .rename_i y hy;obtain ⟨p,q,e1⟩:=aap hy;subst p;subst q;cases hr;subst e1;rw [eh];exact ⟨[],rfl,λm=>rfl,λm E3 hk _ hh ⟨bb,mm,h1,h2⟩=>⟨bb,mm,by rw [hk l hl];exact h1,h2⟩⟩
    .cases hr
   .cases hr
  .cases hr
 | ab t=>
  dsimp only [N9.rd] at hr;split at hr
  .rename_i k eh;split at hr
   .rename_i y hy;cases hr;rw [eh,Wj.aeT hy];exact ⟨[],rfl,λm=>rfl,λm E3 hk _ hh ⟨v,h1,h2⟩=>⟨v,by rw [hk l hl];exact h1,h2⟩⟩
   .cases hr
  .cases hr
 | abs=>
  dsimp only [N9.rd] at hr;split at hr
  .rename_i a0 eh;cases hr;rw [eh];exact ⟨[],rfl,λm=>rfl,λm E3 hk _ hh ⟨v,h1,h2⟩=>⟨v,by rw [hk l hl];exact h1,h2⟩⟩
  .cases hr
theorem LH (S:dg n W F b E2 g w s' a) (hb:b.h.length=n0):∀ {l:List (Nat×Sh)} {x:rY l} {u:List Nat},AE b s' l=some (x,u)->
  ∃ qs,Ai qs=u/\(∀ m,k9 E2 b s' qs (jo l x m).2)/\∀ m E3,Kept n0 E2 E3->At E3 m qs->∀ t v,fV (jo l x m).1 t=some v->df E3 g v (a.tmps.getD t undef)
 | [],x,u,hr=>by
  cases hr;exact ⟨[],rfl,λm=>rfl,λm E3 _ _ t v h=>by cases h⟩
 | p::l,x,u,hr=>by
  unfold AE at hr;split at hr
  .rename_i c hc;split at hr
   .rename_i x1 u1 hx;split at hr
    .rename_i y u2 hy;cases hr;obtain ⟨q1,e1,n1,k1⟩:=aeQ S hb hx (S.fr _ _ hc);obtain ⟨q2,e2,n2,k2⟩:=LH S hb hy;refine ⟨q1++q2,by rw [wi,e1,e2],λm=>(n1 m).app (n2 _),λm E3 hk uo t v hv=>?_⟩;have hv:(bif Nat.beq p.1 t then some (SV.c (p.2.mk x1 m).1) else fV (jo l y (m+(p.2.mk x1 m).2.length)).1 t)=some v:=hv;by_cases e:p.1=t
     .subst e;have hbq:Nat.beq p.1 p.1=true:=by simp
      rw [hbq] at hv;obtain rfl:=aj hv;exact k1 m E3 hk uo.left _ (S.fr _ _ hc)
     .rw [ij e] at hv;refine k2 _ E3 hk ?_ t v hv;rw [<-(n1 m).len];exact uo.right
    .cases hr
   .cases hr
  .cases hr
theorem Se (S:dg n W F b E2 g w s' a) (hb:b.h.length=n0) (hs:n0<=s'.n):∀ {l:List (Nat×N9)} {x:wG l} {u:List Nat},(∀ p∈l,p.1< n0)->IQ b s' l=some (x,u)->
  ∃ qs,Ai qs=u/\(∀ m,k9 E2 b s' qs (mf l x m).2)/\(∀ m E3,Kept n0 E2 E3->At E3 m qs->∀ k o,gC (mf l x m).1 k=some o->∀ hh,(cF E2 k (b.obj s' k)).sat g hh->(cF E3 k o).sat g hh)/\∀ m k,gC (mf l x m).1 k=none↔k ∉ l.map (·.1)
 | [],x,u,_,hr=>by
  cases hr;exact ⟨[],rfl,λm=>rfl,(λm E3 _ _ t v h=>by cases h),λm k=>by simp [mf,gC]⟩
 | p::l,x,u,hl,hr=>by
  unfold IQ at hr;split at hr
  .rename_i x1 u1 hx;split at hr
   .rename_i y u2 hy;cases hr;obtain ⟨q1,e1,n1,k1⟩:=ahG S hb (hl p (by simp)) hs hx;obtain ⟨q2,e2,n2,k2,k3⟩:=Se S hb hs (λq hq=>hl q (aH _ hq)) hy;have look:∀ m k,gC (mf (p::l) (x1,y) m).1 k=(bif Nat.beq p.1 k then some (p.2.mk x1 m).1 else gC (mf l y (m+(p.2.mk x1 m).2.length)).1 k):=λm k=>rfl;refine ⟨q1++q2,by rw [wi,e1,e2],λm=>(n1 m).app (n2 _),λm E3 hk uo k o ho hh sat=>?_,λm k=>?_⟩
    .rw [look] at ho;by_cases e:p.1=k
     .subst e;have hbq:Nat.beq p.1 p.1=true:=by simp
      rw [hbq] at ho;obtain rfl:=aj ho;exact k1 m E3 hk uo.left hh sat
     .rw [ij e] at ho;refine k2 _ E3 hk ?_ k o ho hh sat
      rw [<-(n1 m).len];exact uo.right
    .rw [look];by_cases e:p.1=k
     .subst e;simp
     .have e':¬k=p.1:=λq=>e q.symm;rw [ij e,cond_false,k3];simp [e']
   .cases hr
  .cases hr
theorem bq.ahz {ob:Nat->HO} {X:List Atom} {sel:List (Option Nat)}:∀ {H3:List HO} {k:Nat} {h:Hp},sel.length=H3.length->
  (∀ i l o,sel[i]?=some (some l)->H3[i]?=some o->∀ h,(cF E2 l (ob l)).sat g h->(cF E3 (k+i) o).sat g h)->(∀ i o,sel[i]?=some none->H3[i]?=some o->(cF E3 (k+i) o).sat g λ_=>none)->
  bq g (XJ E2 ob (sel.filterMap id)++X) h->bq g (bj E3 k H3++X) h:=by
 induction sel with
 | nil=>
  intro H3 k h hl _ _ s;obtain rfl:=aJ hl.symm;exact s
 | cons q sel ih=>
  intro H3 k h hl h1 h2 s;obtain ⟨o,H4,rfl⟩:∃ o H4,H3=o::H4:=by
   cases H3 with
   | nil=>cases hl
   | cons o H4=>exact ⟨o,H4,rfl⟩
  have h1':∀ i l o,sel[i]?=some (some l)->H4[i]?=some o->∀ h,(cF E2 l (ob l)).sat g h->(cF E3 (k+1+i) o).sat g h:=λi l o' a1 a2 hh sat=>by
   have:=h1 (i+1) l o' (by simpa using a1) (by simpa using a2) hh sat
   rw [show k+1+i=k+(i+1) by omega];exact this
  have h2':∀ i o,sel[i]?=some none->H4[i]?=some o->(cF E3 (k+1+i) o).sat g λ_=>none:=λi o' a1 a2=>by
   have:=h2 (i+1) o' (by simpa using a1) (by simpa using a2);rw [show k+1+i=k+(i+1) by omega];exact this
  cases q with
  | none=>exact ⟨λ_=>none,h,λ_=>.inl rfl,by funext b;rfl,h2 0 o rfl rfl,ih (by simpa using hl) h1' h2' s⟩
  | some l=>
   have s:bq g (cF E2 l (ob l)::(XJ E2 ob (sel.filterMap id)++X)) h:=s;obtain ⟨p1,p2,ap,e,s1,s2⟩:=s;exact ⟨p1,p2,ap,e,h1 0 l o rfl rfl p1 s1,ih (by simpa using hl) h1' h2' s2⟩
end
section
variable {n n0:Nat} {W:cQ} {F:List Atom} {b:Bs} {E E2:Env} {g w:World} {s':Ov} {a:Act}
theorem Hv:∀ {l:List HO} {k i:Nat} {o:HO},l[i]?=some o->gC (Hw k l) (k+i)=some o
 | [],_,_,_,h=>by simp at h
 | x::r,k,0,o,h=>by
  obtain rfl:x=o:=by simpa using h
  simp [Hw,gC]
 | x::r,k,i+1,o,h=>by
  have:=Hv (l:=r) (k:=k+1) (i:=i) (by simpa using h);rw [show k+(i+1)=k+1+i by omega];simp only [Hw,gC];rw [ij (show ¬k=k+1+i by omega)];exact this
theorem vT:∀ {l:List HO} {k j:Nat},j< k\/k+l.length<=j->gC (Hw k l) j=none
 | [],_,_,_=>rfl
 | x::r,k,j,h=>by
  simp only [Hw,gC];rw [ij (show ¬k=j by simp at h;omega)];exact vT (by simp at h;omega)
theorem CJ:∀ {us:List Nat} {j:Nat},gC (us.map λl=>(l,HO.gone)) j=if j∈us then some .gone else none
 | [],_=>by simp [gC]
 | u::r,j=>by
  simp only [bX,gC];by_cases e:u=j;subst e;simp
  .have e':¬j=u:=λq=>e q.symm;rw [ij e,cond_false,CJ];simp [e']
theorem CE {an:xz} {ks us0:List Nat} {k:an.den->Prop} (S:dg n W F b E2 g w s' a) (he:bw E E2) (hl:E.length=n0) (vQ:Old n0 b) (hb:∀ t∈ks,fV b.f t=none) (hv:Pq an ks n0 us0 b s' k):
  ∃ i,k i/\∃ E3,bw E E3/\dg n W F b E3 g w (ll an us0 n0 i) a:=by
 unfold Pq at hv;split at hv
 .rename_i x u y v hx hy;obtain ⟨hm,hv⟩:=cZ hv;unfold ae3 at hm;simp only [ao] at hm;obtain ⟨⟨⟨⟨m1,m2⟩,m3⟩,m4⟩,m5⟩:=hm;have hEl:E.length<=E2.length:=by
   rcases dZ E2.length E.length with h| h
   .have:=he _ _ (ak h);rw [dx (ay _)] at this;cases this
   .exact h
  have hs:n0<=s'.n:=by rw [<-S.len,<-hl];exact hEl
  have zU:∀ j∈an.yE.map (·.1),j< n0/\j ∉ us0:=λj hj=>by
   have:=bo.1 m3 j hj;simp only [ao,bY] at this;refine ⟨by simpa using this.1,λh=>?_⟩;rw [gw.2 h] at this;cases this.2
  obtain ⟨q1,e1,n1,k1⟩:=LH S vQ.len hx;obtain ⟨q2,e2,n2,k2,k3⟩:=Se S vQ.len hs (λp hp=>(zU p.1 (List.mem_map_of_mem hp)).1) hy;refine ⟨(x,y),hv,?_⟩;generalize hqs:q1++q2=qs;let E3:Env:=E++qs.map (·.2);have kept:Kept n0 E2 E3:=λl h=>by
   have h1:l< E.length:=by omega
   show (E++qs.map (·.2))[l]?=_;rw [aV h1,ak h1];exact (he _ _ (ak h1)).symm
  have uo:At E3 n0 qs:=λj q hq=>by
   show (E++qs.map (·.2))[n0+j]?=_;rw [a8 (by omega),ck,show n0+j - E.length=j by omega,hq];rfl
  have uj:k9 E2 b s' qs (ou an n0 (x,y)):=by
   rw [<-hqs];exact (n1 n0).app (n2 _)
  have aot:At E3 n0 q1:=by rw [<-hqs] at uo;exact uo.left
  have aos:At E3 (n0+(jo an.jA x n0).2.length) q2:=by
   rw [<-hqs] at uo
   rw [<-(n1 n0).len];exact uo.right
  have eh:∀ j,b.obj (ll an us0 n0 (x,y)) j=match gC (Hw n0 (ou an n0 (x,y))) j with
    | some o=>o
    | none=>match gC (mf an.yE y (n0+(jo an.jA x n0).2.length)).1 j with
     | some o=>o
     | none=>if j∈us0 then .gone else lJ b.h j:=λj=>by
   unfold Bs.obj ll;simp only;rw [nQ,nQ,CJ];cases gC (Hw n0 (ou an n0 (x,y))) j with
   | some o=>rfl
   | none=>
    cases gC (mf an.yE y (n0+(jo an.jA x n0).2.length)).1 j with
    | some o=>rfl
    | none=>by_cases h:j∈us0<;>simp [h]
  have hold:∀ j,j< n0->j ∉ us0->j ∉ an.yE.map (·.1)->b.obj s' j=lJ b.h j:=λj h1 h2 h3=>by
   unfold Bs.obj;rw [vB];intro hj;obtain ⟨p,hp,e⟩:=aP.1 hj;have:=bo.1 m5 p hp;simp only [lp] at this;rw [e] at this;rcases this with (h| h)| h
   .have:n0<=j:=by simpa using h
    omega
   .exact h3 (gw.1 h)
   .exact h2 (gw.1 h)
  refine ⟨E3,bw.app E _,S.size,S.defers,λt sv ht=>?_,⟨?_,?_⟩,λl wX=>?_⟩
  .-- the frame
   unfold Bs.slot ll at ht;simp only at ht;cases h1:fV (jo an.jA x n0).1 t with
   | some u'=>
    rw [h1] at ht;obtain rfl:=aj ht;exact k1 n0 E3 kept aot t _ h1
   | none=>
    rw [h1] at ht;have ht:fV b.f t=some sv:=ht;have htk:t ∉ ks:=λh=>by rw [hb t h] at ht;cases ht
    have DS:b.slot s' t=some sv:=by
     unfold Bs.slot;have:fV s'.f t=none:=by
      cases h2:fV s'.f t with
      | none=>rfl
      | some z=>
       exfalso
       have key:∀ {L:Ag},fV L t=some z->∃ p∈L,p.1=t:=by
        intro L
        induction L with
        | nil=>intro h;cases h
        | cons q L ih=>
         intro h;by_cases e:q.1=t;exact ⟨q,by simp,e⟩
         .obtain ⟨q0,q3⟩:=q;simp only [fV] at h;rw [ij e] at h;obtain ⟨p,hp,e⟩:=ih h;exact ⟨p,aH _ hp,e⟩
       obtain ⟨p,hp,e⟩:=key h2;have:=bo.1 m4 p hp;rw [e] at this;exact htk (gw.1 this)
     rw [this];exact ht
    exact (S.fr t sv DS).jw λl hlm=>kept l (vQ.slot t sv ht l hlm)
  .-- what is owned
   refine S.sat.sl.cz λh sat=>?_;let sel:List (Option Nat):=(bN n0).map (λl=>if l∈us0 then none else some l)++qs.map (·.1)
   have ak1:sel.filterMap id=((bN n0).filter λl=>decide (l ∉ us0))++Ai qs:=by
    show List.filterMap id (_++_)=_;rw [List.filterMap_append,List.filterMap_map,List.filterMap_map];congr 1;have key:∀ L:List Nat,L.filterMap (id ∘ λl=>if l∈us0 then none else some l)=L.filter λl=>decide (l ∉ us0):=by
     intro L
     induction L with
     | nil=>rfl
     | cons l L ih=>
      rw [List.filterMap_cons,lU,ih];by_cases hm:l∈us0<;>simp [hm]
    exact key _
   have akY:Ai qs=u++v:=by rw [<-hqs,wi,e1,e2]
   have hnd:=jH.1 m1;rw [fh] at hnd;have yM:∀ l∈Ai qs,l< s'.n:=λl hl=>by
    obtain ⟨q,hq,e⟩:=List.mem_filterMap.1 hl;obtain ⟨j,hj⟩:=List.getElem?_of_mem hq;have hlen:=uj.len;have CX:j< (ou an n0 (x,y)).length:=by rw [<-hlen];exact (au.1 hj).1
    rcases uj.get hj (ak CX) with ⟨l',o',p1,p2,_⟩| ⟨p1,_⟩
    .rw [e] at p1;obtain rfl:=aj p1;exact S.lt p2
    .rw [e] at p1;cases p1
   have hls:(sel.filterMap id).Nodup:=by
    rw [ak1,fh];refine ⟨List.nodup_range.filter _,by rw [akY];exact hnd.1,λp hp q hq e=>?_⟩;subst e;obtain ⟨hp1,hp2⟩:=fO.1 hp;rw [akY] at hq;have:=bo.1 m2 p hq;simp only [lp] at this;rcases this with h| h
    .have h1:n0<=p:=by simpa using h
     have h2:=dd.1 hp1;omega
    .have h1:=gw.1 h;simp [h1] at hp2
   have s1:=bq.qm (ob:=b.obj s') hls (λl hlm=>by
    rw [ak1] at hlm;rcases aY.1 hlm with h| h
    .have:=dd.1 (fO.1 h).1;exact eM (by omega)
    .exact eM (yM l h)) sat
   have s2:=bq.XI s1;refine bq.ahz (E2:=E2) (E3:=E3) (sel:=sel) (ob:=b.obj s') (k:=0) ?_ (λi l o hi ho hh wV=>?_) (λi o hi ho=>?_) s2
   .show ((bN n0).map _++qs.map λq:Option Nat×Value=>q.1).length=_;rw [dN];show _=n0+(ou an n0 (x,y)).length;rw [af,bH,bH,List.length_range,uj.len]
   .rw [bW];have aii:i< (ll an us0 n0 (x,y)).n:=by
     have:=(au.1 ho).1;rw [dN] at this;exact this
    rw [eM aii] at ho;obtain rfl:=aj ho;by_cases DU:i< n0
    .have hi2:((bN n0).map (λl=>if l∈us0 then none else some l))[i]?=some (some l):=by
      rw [aV (by simpa using DU)] at hi;exact hi
     rw [ck,nD DU] at hi2;by_cases hu:i∈us0;simp [hu] at hi2
     .simp [hu] at hi2;subst hi2;rw [eh,vT (.inl DU)];simp only;cases ho2:gC (mf an.yE y (n0+(jo an.jA x n0).2.length)).1 i with
      | some o=>exact k2 _ E3 kept aos i o ho2 hh wV
      | none=>
       have hnk:=(k3 _ i).1 ho2;simp only [hu,if_false];rw [hold i DU hu hnk] at wV
       exact cF.jw (λj hj=>kept j (vQ.obj i j hj)) (kept i DU) wV
    .have Vn:(qs.map λq:Option Nat×Value=>q.1)[i - n0]?=some (some l):=by
      rw [a8 (by simp;omega)] at hi;simpa using hi
     rw [ck] at Vn;cases hq:qs[i - n0]? with
     | none=>rw [hq] at Vn;cases Vn
     | some q=>
      rw [hq] at Vn;have hq1:q.1=some l:=by simpa using Vn
      have CX:i - n0< (ou an n0 (x,y)).length:=by rw [<-uj.len];exact (au.1 hq).1
      have kB:=uj.get hq (ak CX);rw [eh];have hz:=Hv (k:=n0) (ak CX);rw [show n0+(i - n0)=i by omega] at hz;rw [hz];simp only;rcases kB with ⟨l',o',p1,p2,p3,p4,pm⟩| ⟨p1,_⟩
      .rw [hq1] at p1;obtain rfl:=aj p1;rw [p3] at wV
       rw [p4];have:=uo _ q hq;rw [show n0+(i - n0)=i by omega] at this;exact pm.sat p2 this wV
      .rw [hq1] at p1;cases p1
   .rw [bW];have aii:i< (ll an us0 n0 (x,y)).n:=by
     have:=(au.1 ho).1;rw [dN] at this;exact this
    rw [eM aii] at ho;obtain rfl:=aj ho;by_cases DU:i< n0
    .have hi2:((bN n0).map (λl=>if l∈us0 then none else some l))[i]?=some none:=by
      rw [aV (by simpa using DU)] at hi;exact hi
     rw [ck,nD DU] at hi2;by_cases hu:i∈us0
     .rw [eh,vT (.inl DU)];simp only;rw [(k3 _ i).2 λh=>(zU i h).2 hu];simp only [hu,if_true];trivial
     .simp [hu] at hi2
    .have Vn:(qs.map λq:Option Nat×Value=>q.1)[i - n0]?=some none:=by
      rw [a8 (by simp;omega)] at hi;simpa using hi
     rw [ck] at Vn;cases hq:qs[i - n0]? with
     | none=>rw [hq] at Vn;cases Vn
     | some q=>
      rw [hq] at Vn;have hq1:q.1=none:=by simpa using Vn
      have CX:i - n0< (ou an n0 (x,y)).length:=by rw [<-uj.len];exact (au.1 hq).1
      have kB:=uj.get hq (ak CX);rw [eh];have hz:=Hv (k:=n0) (ak CX);rw [show n0+(i - n0)=i by omega] at hz;rw [hz];simp only;rcases kB with ⟨l',o',p1,_⟩| ⟨_,p2,t,e',p4⟩;rw [hq1] at p1;cases p1
      .rw [p4];have:=uo _ q hq;rw [show n0+(i - n0)=i by omega,p2] at this;exact ⟨_,this,[],trivial,by simp,.inl ⟨rfl,rfl⟩⟩
  .rw [dN];show (E++qs.map (·.2)).length=n0+(ou an n0 (x,y)).length;rw [af,bH,hl,uj.len]
  .rw [eh];have wX:n0+(ou an n0 (x,y)).length<=l:=wX;rw [vT (.inr wX)];simp only;rw [(k3 _ l).2 λh=>by have:=(zU l h).1;omega];simp only;split
   .rfl
   .exact nO (by rw [vQ.len];omega)
 .exact hv.elim
end
def Ex.out:Ex->Exit
 | .normal=>.normal
 | .exit i=>.exit i
 | .ret=>.ret
def amk (n:Nat) (W:cQ) (F:List Atom) (b:Bs) (E:Env) (g:World) (Q:Ex->Ov->Prop) (e:Exit) (a':Act) (w':World):Prop:=∃ E' g' s' ex,bw E E'/\bx g g'/\dg n W F b E' g' w' s' a'/\e=ex.out/\Q ex s'
section
variable {X:Vx} {n:Nat} {an:Eo} {W:cQ} {F:List Atom}
theorem Ov.force_eq {s:Ov} {K:Ov->Prop} (h:s.force K):K s:=by
 have:=fw _ (fw _ h);exact this
theorem Bs.force_eq {b:Bs} {K:Bs->Prop} (h:b.force K):K b:=by
 have:=fw _ (fw _ h);exact this
theorem uZ {ks:List Nat} {b:Bs} {s:Ov} {t:Nat} (h:t∈ks):fV (pH ks b s).f t=none:=by
 show fV ((s.f++b.f).filter λp=> !hZ p.1 ks) t=none;rw [iS (p:=λk=> !hZ k ks),gw.2 h];rfl
theorem Bz {ro:Option Nat} {m:Nat} (jx:jb W X.P X.ct):∀ (c:Code) {b:Bs} {s:Ov} {E:Env} {g w:World} {a:Act} {Q:Ex->Ov->Prop},dg n W F b E g w s a->lz X n an c b s Q->c.wpIn (DX ro) m X.P (amk n W F b E g Q) a w:=by
 intro c
 induction c with
 | skip=>
  intro b s E g w a Q S h;exact wpIn_skip ⟨E,g,s,.normal,bw.refl E,bx.refl g,S,rfl,h⟩
 | region id ops draw=>
  intro b s E g w a Q S h;exact Oy jx S (Ov.force_eq h) λa' w' ⟨E',g',s',l1,l2,S',k⟩=>⟨E',g',s',.normal,l1,l2,S',rfl,k⟩
 | seq x y ihx ihy=>
  intro b s E g w a Q S h;unfold lz at h;split at h
  .refine wpIn_seq (wpIn_mono (ihx S h) ?_);rintro e a1 w1 ⟨E1,g1,s1,ex,l1,l2,S1,rfl,hq⟩;cases ex with
   | normal=>exact wpIn_mono (ihy S1 hq) λe a2 w2 ⟨E2,g2,s2,ex,m1,m2,S2,he,hq⟩=>⟨E2,g2,s2,ex,l1.trans m1,l2.trans m2,S2,he,hq⟩
   | exit i=>exact ⟨E1,g1,s1,.exit i,l1,l2,S1,rfl,hq⟩
   | ret=>exact ⟨E1,g1,s1,.ret,l1,l2,S1,rfl,hq⟩
  .rename_i la _;have h:=fw _ (Ov.force_eq h);generalize hks:nE x++la.jA.map (·.1)=ks at h;have h:=Bs.force_eq h;obtain ⟨J,hA,hB⟩:=h;refine wpIn_seq (wpIn_mono (ihx (S.ahA ks) hA) ?_);rintro e a1 w1 ⟨E1,g1,s1,ex,l1,l2,S1,rfl,hq⟩;cases ex with
   | normal=>
    obtain ⟨i,hi,E3,l3,S3⟩:=CE S1 l1 S.len (S.vQ ks) (λt ht=>uZ ht) hq;refine wpIn_mono (ihy S3 (hB i hi)) ?_;rintro e a2 w2 ⟨E2,g2,s2,ex,m1,m2,S2,he,hq⟩;exact ⟨E2,g2,_,ex,l3.trans m1,l2.trans m2,S2.out S.top,he,hq⟩
   | exit i=>exact ⟨E1,g1,_,.exit i,l1,l2,S1.out S.top,rfl,hq⟩
   | ret=>exact ⟨E1,g1,_,.ret,l1,l2,S1.out S.top,rfl,hq⟩
 | cond c x y ihx ihy=>
  intro b s E g w a Q S h;unfold lz at h;split at h
  .rename_i v hv;obtain ⟨hc,_⟩:=S.fe hv;have told:∀ q,a.eval c= .bool q->dg n W F b E g w (s.told c q) a:=λq hq=>by
    cases c with
    | tmp t=>exact S.told (d:=t) (by rw [show a.tmps.getD t undef= .bool q from hq];exact gf q)
    | const _=>exact S
    | global _=>exact S
    | func _=>exact S
   rcases tc h with ⟨e,h⟩| ⟨e,h⟩<;>subst e;exact wpIn_cond_true hc (ihx (told _ hc) h);exact wpIn_cond_false hc (ihy (told _ hc) h)
  .cases h
 | block id c ih=>
  intro b s E g w a Q S h;unfold lz at h;refine wpIn_block (wpIn_mono (ih S h) ?_);rintro e a1 w1 ⟨E1,g1,s1,ex,l1,l2,S1,rfl,hq⟩;cases ex with
  | normal=>exact ⟨E1,g1,s1,.normal,l1,l2,S1,rfl,hq⟩
  | exit i=>
   show (if i=id then _ else _)
   simp only at hq;split
   .rename_i e;subst e;rw [if_pos (by simp)] at hq;exact ⟨E1,g1,s1,.normal,l1,l2,S1,rfl,hq⟩
   .rename_i e;rw [if_neg (by simpa using e)] at hq;exact ⟨E1,g1,s1,.exit i,l1,l2,S1,rfl,hq⟩
  | ret=>exact ⟨E1,g1,s1,.ret,l1,l2,S1,rfl,hq⟩
 | loop c ih=>
  intro b s E g w a Q S h;unfold lz at h;split at h
  .rename_i k0 _;refine uw (λk a' w'=>∃ s' E' g',bw E E'/\bx g g'/\dg n W F b E' g' w' s' a'/\ahi (λs q=>lz X n an c b s q) Q k s') (λk=>k) k0 ⟨s,E,g,bw.refl E,bx.refl g,S,h⟩ ?_;rintro k a1 w1 ⟨s1,E1,g1,l1,l2,S1,hu⟩;cases k with
   | zero=>exact hu.elim
   | succ k=>
    refine wpIn_mono (ih S1 (Ov.force_eq hu)) ?_;rintro e a2 w2 ⟨E2,g2,s2,ex,m1,m2,S2,rfl,hq⟩;cases ex with
    | normal=>exact ⟨k,⟨s2,E2,g2,l1.trans m1,l2.trans m2,S2,hq⟩,Nat.lt_succ_self k⟩
    | exit i=>exact ⟨E2,g2,s2,.exit i,l1.trans m1,l2.trans m2,S2,rfl,hq⟩
    | ret=>exact ⟨E2,g2,s2,.ret,l1.trans m1,l2.trans m2,S2,rfl,hq⟩
  .cases h
  .rename_i la _ _;have h:=fw _ (Ov.force_eq h);generalize hks:nE c++la.jA.map (·.1)=ks at h;have h:=Bs.force_eq h;have S:=GZ X.cloH S;generalize Df X.cloH b s=s at h S;obtain ⟨i0,h0,E0,l0,S0⟩:=CE (S.ahA ks) (bw.refl E) S.len (S.vQ ks) (λt ht=>uZ ht) h;obtain ⟨I,μ,hI0,hI⟩:=h0;refine uw (λi a' w'=>I i/\∃ E' g',bw E E'/\bx g g'/\dg n W F (pH ks b s) E' g' w' (ll la (CA la b s) s.n i) a') μ i0 ⟨hI0,E0,g,l0,bx.refl g,S0⟩ ?_;rintro i a1 w1 ⟨hi,E1,g1,l1,l2,S1⟩;refine wpIn_mono (ih S1 (hI i hi)) ?_;rintro e a2 w2 ⟨E2,g2,s2,ex,m1,m2,S2,rfl,hq⟩;cases ex with
   | normal=>
    obtain ⟨i',⟨h1,h2⟩,E3,l3,S3⟩:=CE S2 (l1.trans m1) S.len (S.vQ ks) (λt ht=>uZ ht) hq;exact ⟨i',⟨h1,E3,g2,l3,l2.trans m2,S3⟩,h2⟩
   | exit i=>
    obtain ⟨g3,m3,S3⟩:=G5 X.sfh (S2.out S.top);exact ⟨E2,g3,_,.exit i,l1.trans m1,(l2.trans m2).trans m3,S3,rfl,hq⟩
   | ret=>
    obtain ⟨g3,m3,S3⟩:=G5 X.sfh (S2.out S.top);exact ⟨E2,g3,_,.ret,l1.trans m1,(l2.trans m2).trans m3,S3,rfl,hq⟩
 | exit id=>
  intro b s E g w a Q S h;exact wpIn_exit ⟨E,g,s,.exit id,bw.refl E,bx.refl g,S,rfl,h⟩
 | ret=>
  intro b s E g w a Q S h;exact wpIn_ret ⟨E,g,s,.ret,bw.refl E,bx.refl g,S,rfl,h⟩
 | rangeFunc f ps x y ih1 ih2=>intro b s E g w a Q S h;exact h.elim
 | scope c ih=>intro b s E g w a Q S h;exact h.elim
 | label l=>intro b s E g w a Q S h;exact h.elim
 | goto l=>intro b s E g w a Q S h;exact h.elim
 | refuse l=>intro b s E g w a Q S h;exact h.elim
end
def MF (D:Nat):Deferred:= {target:=.collected D,args:= #[]}
def Qn (D:Nat):Atom:=obj D (.deferred (some []))
def cQ.vV (W:cQ) (Ds:List Nat):cQ:= {W with ds:=Ds.map MF++W.ds}
theorem SL.base {W W':cQ} (hw:W'.w=W.w) (hg:W'.g=W.g) {g w:World} {l:List Atom} (h:SL W g w l):SL W' g w l:=by
 obtain ⟨h0,h1,h2,h3,h4⟩:=h;refine ⟨h0,?_,⟨h2.uf,?_⟩,?_,h4⟩
 .unfold cQ.n;rw [hw];exact h1
 .rw [hw,hg];exact h2.agr
 .unfold cQ.n;rw [hw];exact h3
theorem Sat.base {W W':cQ} (hw:W'.w=W.w) (hg:W'.g=W.g) {E:Env} {g w:World} {H:List HO} {F:List Atom} (h:Sat W E g w H F):Sat W' E g w H F:=⟨h.sl.base hw hg,h.len⟩
theorem WpW.base {W W':cQ} (hw:W'.w=W.w) (hg:W'.g=W.g) {P:Program} {f:FuncId} {args:List SV} {H:List HO} {Q:SV->List HO->Prop} (h:WpW W P f args H Q):WpW W' P f args H Q:=λg w E F vs hs hv=>(h g w E F vs (hs.base hw.symm hg.symm) hv).mono λ_ _ ⟨E1,g1,sv,H1,a1,a2,a3,a4,a5⟩=>⟨E1,g1,sv,H1,a1,a2,a3.base hw hg,a4,a5⟩
theorem jb.base {W W':cQ} (hw:W'.w=W.w) (hg:W'.g=W.g) {P:Program} {L:List (Nat×Ct)} (h:jb W P L):jb W' P L:=λp hp args H Q hc=>(h p hp args H Q hc).base hw hg
theorem SL.alM {g:World} {a b:Atom} {A F:List Atom} {W:cQ} {w:World} (H:SL W g w (A++a::b::F)):SL W g w (A++F):=((H.cz λh x=>bq.oZ x).drop.cz λh x=>bq.oZ x).drop
def T0 (n:Nat) (W:cQ) (F:List Atom) (b:Bs) (E:Env) (g:World) (Q:Ex->Ov->Prop) (e:Exit) (a':Act) (w':World):Prop:=∃ Ds E' g' s' ex,bw E E'/\bx g g'/\dg n (W.vV Ds) (Ds.map Qn++F) b E' g' w' s' a'/\e=ex.out/\Q ex s'
def FG (sz:Nat):Value->Nat->Nat->Value
 | .slice a _ _,i,k=>jg sz (.slice a (i+k) (i+k)) (i:Int) ((i+k:Nat):Int)
 | v,_,_=>v
def uy:Value->Nat
 | .slice _ n _=>n
 | _=>0
def aeH (P:Program) (f:Nat) (e:Ty):Prop:=∀ (l b1 b2:Nat) (v0:Value) (q:Int) (J:Nat->World->Prop) (w:World),1<=q->q<=1000000000->(∃ (p:Option Addr) (n c:Nat),v0= .slice p n c/\n<=1000000000000/\n<=c/\(p=none->n=0))->
 (∀ k w,J k w->w.cell? ⟨b1,0,none⟩=some v0/\w.cell? ⟨b2,0,none⟩=some (.int .i64 q))->(∀ k w,J k w->J k w.drew)->
 (∀ k w,J k w->k*q.toNat< uy v0->YieldAt (DX none) 0 P l #[FG e.size v0 (k*q.toNat) (min q.toNat (uy v0 - k*q.toNat))] w λx w'=>x= .returned (.bool true)/\J (k+1) w')->J 0 w->
 CallsIn (DX none) 1 P f #[.func (.yield l) #[] #[],ptr b1 0,ptr b2 0] w λx w'=>(∃ v,x= .returned v)/\∃ k,J k w'/\uy v0<=k*q.toNat
def xB (P:Program) (L:List (Nat×Ty)):Prop:=∀ p∈L,aeH P p.1 p.2
theorem xB.nil (P:Program):xB P []:=λ_ h=>by cases h
section
variable {X:Vx} {n:Nat} {an:Eo} {W:cQ} {F:List Atom}
theorem Gr:∀ {l:List (Nat×Ty)} {f:Nat} {e:Ty},Gs l f=some e->(f,e)∈l
 | (k,v)::s,f,e,h=>by
  unfold Gs at h;cases hb:Nat.beq k f with
  | true=>
   rw [hb] at h;obtain rfl:=ai hb;obtain rfl:=aj h;exact aX
  | false=>rw [hb] at h;exact aH _ (Gr h)
theorem adq {e:Ty} {g:World} {v:Value} {xs:List e.den} {i k:Nat} (h:nY e g v xs) (hk:i+k<=xs.length):nY e g (FG e.size v i k) ((xs.drop i).take k):=by
 obtain ⟨a,cp,rfl,h2⟩:=SF h hk;have h3:=lf (l:=(i:Int)) (h:=((i+k:Nat):Int)) h2 (by omega) (by omega) (by rw [aA];omega);have e1:((xs.take (i+k)).drop (i:Int).toNat).take (((i+k:Nat):Int).toNat - (i:Int).toNat)=(xs.drop i).take k:=by
  rw [aU,aU,jk,eF];congr 1;omega
 rw [e1] at h3;exact h3
theorem Up {m:Nat} {t p f:Nat} {ps:Array Tmp} {assign body:Code} (hps:ps.toList= [p]) {e:Ty} (hch:aeH X.P f e) (jx:jb W X.P X.ct) (hp:gn p n=true) (hf:qS X.P f=true)
  {b:Bs} {s:Ov} {E:Env} {g w:World} {a:Act} {Q:Ov->Prop} {xs:List e.den} {q:Int} {la:xz} (hla:la.jA= []) {b1 b2:Nat} {v0:Value} {t1 t2:TypeId}
  (hg:a.eval (.tmp t)= .func (.func f) #[] #[ptr b1 0,ptr b2 0]) (yL:nY e g v0 xs)
  (S:dg n W (obj b2 (.cells #[.int .i64 q] t2 (0,0))::obj b1 (.cells #[v0] t1 (0,0))::F) b E g w s a) (h:OB X n an p assign body e xs q la b s Q):
  (Code.rangeFunc (.tmp t) ps assign body).wpIn (DX none) m X.P (T0 n W F b E g λe s'=>match e with| .normal=>Q s'| _=>False) a w:=by
 have hps:ps= #[p]:=by rw [<-Array.toArray_toList (xs:=ps),hps]
 subst hps;unfold OB at h;have h:=Ov.force_eq h;have h:=Bs.force_eq h;obtain ⟨⟨q1,q2⟩,air,h⟩:=h;have top:=S.top;have hold:=S.vQ [];have Sx:=S.ahA [];have hn0:=S.len;generalize Wb:CA la b s=us0 at h;generalize hb1:pH [] b s=bb at h Sx hold;obtain ⟨i0,hL,E0,lE0,S0⟩:=CE Sx (bw.refl E) hn0 hold (λt ht=>by cases ht) h;obtain ⟨I,μ,hI0,hI⟩:=hL;have slot0:∀ i t,bb.slot (ll la us0 s.n i) t=fV bb.f t:=λi t=>by
  obtain ⟨sl,ob⟩:=la;cases hla;rfl
 have hsx:(uA [] b s).f= []:=by unfold uA;simp [hZ]
 refine wpIn_rangeFunc ?_;intro fn _;obtain ⟨rec,PH⟩:∃ rec:LoopState->Option Code->Loop,rec=λst pe=> {state:=st,pending:=pe,fn,tmps:=a.tmps,params:= #[p],assign,body,defers:=w.heap.size}:=⟨_,rfl⟩;have CU:∀ st pe,(rec st pe).state=st:=λ_ _=>by rw [PH]
 have Av:∀ st pe,(rec st pe).pending=pe:=λ_ _=>by rw [PH]
 have afd:∀ st pe st',{rec st pe with state:=st'}=rec st' pe:=λ_ _ _=>by rw [PH]
 have YT:∀ st pe st' pe',{rec st pe with state:=st',pending:=pe'}=rec st' pe':=λ_ _ _ _=>by rw [PH]
 obtain ⟨W1,hW1⟩:∃ W1,(w.alloc (.deferred (some []))).alloc (.loop (rec .ready none))=W1:=⟨_,rfl⟩;obtain ⟨l,hl⟩:∃ l,w.heap.size+1=l:=⟨_,rfl⟩;obtain ⟨FF,hFF⟩:∃ FF,FF=λ(st:LoopState)=>obj l (.loop (rec st none))::obj w.heap.size (.deferred (some []))::obj b2 (.cells #[.int .i64 q] t2 (0,0))::obj b1 (.cells #[v0] t1 (0,0))::F:=⟨_,rfl⟩;have key:∀ {st st':LoopState} {W0:cQ} {E':Env} {g' w':World} {H:List HO},Sat W0 E' g' w' H (FF st)->w'.heap[l]?=some (.loop (rec st none))/\Sat W0 E' g' (w'.putObj l (.loop (rec st' none))) H (FF st'):=λ{st st' W0 E' g' w' H} T=>by
  rw [hFF] at T ⊢;have H1:=T.sl.cz λh x=>bq.oZ x;have u:qh w' l (.loop (rec st' none)) (w'.putObj l (.loop (rec st' none))):=⟨rfl,(aQ.1 H1.Eg.2.1).1⟩;exact ⟨H1.Eg.2.1,(H1.zA u).cz λh x=>bq.toEnd x,T.len⟩
 have cellsJ:∀ {st:LoopState} {W0:cQ} {E':Env} {g' w':World} {H:List HO},Sat W0 E' g' w' H (FF st)->w'.cell? ⟨b1,0,none⟩=some v0/\w'.cell? ⟨b2,0,none⟩=some (.int .i64 q):=λ{st W0 E' g' w' H} T=>by
  rw [hFF] at T;have H1:=((T.sl.cz λh x=>bq.oZ x).drop.cz λh x=>bq.oZ x).drop.cz λh x=>bq.oZ x;have c2:=H1.Eg.2.1;have c1:=(H1.drop.cz λh x=>bq.oZ x).Eg.2.1;exact ⟨by simp [World.cell?,c1],by simp [World.cell?,c2]⟩
 have S1:Sat W E0 g W1 (bb.heap (ll la us0 s.n i0)) (FF .ready):=by
  rw [hFF];refine ⟨?_,S0.sat.len⟩;have H1:SL W g (w.alloc (.deferred (some []))) (obj w.heap.size (.deferred (some []))::(bj E0 0 (bb.heap (ll la us0 s.n i0))++_)):=S0.sat.sl.new ⟨rfl,rfl⟩;have H2:SL W g W1 (obj l (.loop (rec .ready none))::_):=H1.new ⟨hW1.symm,by rw [<-hl];simp⟩;refine H2.cz λh x=>?_;obtain ⟨h1,h2,ap,e1,x1,x2⟩:=x;exact bq.toEnd ⟨h1,h2,ap,e1,x1,bq.toEnd x2⟩
 let J:Nat->World->Prop:=λk w'=>∃ i E' g',I (k,i)/\bw E E'/\bx g g'/\dg n W (FF .ready) bb E' g' w' (ll la us0 s.n i) a;have J0:J 0 W1:=⟨i0,E0,g,hI0,lE0,bx.refl g,S0.size,S0.defers,S0.fr,S1,S0.top⟩;have hD:∀ {w':World},(∃ i,∃ E' g',dg n W (FF .ready) bb E' g' w' (ll la us0 s.n i) a)->True:=λ_=>trivial;obtain ⟨pa,cp,SI,hcp,hpa,hlen⟩:∃ (pa:Option Addr) (cp:Nat),v0= .slice pa xs.length cp/\xs.length<=cp/\(pa=none->xs.length=0)/\xs.length<=9223372036854775807:=by
  have:=lM yL;rcases (@dv e.den e.rep g _ _).1 yL with ⟨rfl,rfl⟩| ⟨ad,cp,rfl,hc,J1,h3⟩;exact ⟨none,0,rfl,ay _,λ_=>rfl,by simp⟩;exact ⟨some ad,cp,rfl,by omega,(λe=>by cases e),this⟩
 have DS:uy v0=xs.length:=by rw [SI];rfl
 have law:=hch l b1 b2 v0 q J W1 q1 q2 ⟨pa,_,cp,SI,air,hcp,hpa⟩ (λk w' ⟨i,E',g',_,_,_,S'⟩=>cellsJ S'.sat) (λk w' ⟨i,E',g',x1,x2,x3,S'⟩=>⟨i,E',g',x1,x2,x3,S'.le (Le.drew w')⟩) ?_ J0
 .refine ⟨l,[MF w.heap.size],W1,{target:=.fn (.func f) #[ptr b1 0,ptr b2 0],args:= #[.func (.yield l) #[] #[]]},W1,f,#[.func (.yield l) #[] #[],ptr b1 0,ptr b2 0],W1,?_,?_,λ_ _=>trivial,?_,λq=>(by cases q),(callsIn_wide (n:=m - 1)).2 ((callsIn_wide (n:=1)).1 (law.mono ?_))⟩
  .rw [<-hW1,PH,<-hl];exact run_enterLoop_outer _ _ _ _ _
  .simp only [resolve,hg];simp [go_sem]
  .unfold qS at hf;split at hf
   .rename_i fn hfn;simp only [ao,bY] at hf;have h1:¬fn.name= "runtime.NumGoroutine" :=by simpa using hf.1
    have h2:¬fn.body=none:=λe=>by rw [e] at hf;cases hf.2
    simp [invoke,callFunc,hfn,h1,h2,go_sem]
   .cases hf
  .rintro x w2 ⟨⟨v,rfl⟩,k,⟨i,E',g',hi,l1,l2,S'⟩,hk⟩;obtain ⟨hrl,hT⟩:=key (st':=.exhausted) S'.sat
   have M5:=run_endLoop (P:=X.P) hrl (by rw [CU];simp);rw [afd,Av] at M5;refine ⟨none,_,M5,?_⟩;rw [DS] at hk;have hq0:=hI (k,i) hi;have hqq:Q (oX [] s (ll la us0 s.n i)):=by
    have hb:gn (k*q.toNat) xs.length=false:=by
     cases hx:gn (k*q.toNat) xs.length with
     | false=>rfl
     | true=>have:=cH hx;omega
    simp only [hb] at hq0;exact hq0
   clear hq0;have S3:dg n W (obj w.heap.size (.deferred (some []))::F) bb E' g' _ (ll la us0 s.n i) a:=⟨S'.size,S'.defers,S'.fr,⟨by
    rw [hFF] at hT;have H1:=(hT.sl.cz λh x=>bq.oZ x).drop;have H2:SL W g' _ ((bj E' 0 (bb.heap (ll la us0 s.n i))++ [obj w.heap.size (.deferred (some []))])++obj b2 (.cells #[.int .i64 q] t2 (0,0))::obj b1 (.cells #[v0] t1 (0,0))::F):=H1.cast (by simp);exact H2.alM.cast (by simp),S'.sat.len⟩,S'.top⟩
   subst hb1;have S4:=S3.out top;exact ⟨[w.heap.size],E',g',_,.normal,l1,l2,⟨S4.size,by show [MF w.heap.size]++a.defers=_;rw [S4.defers];rfl,S4.fr,Sat.base (W:=W) (W':=W.vV [w.heap.size]) rfl rfl S4.sat,S4.top⟩,rfl,hqq⟩
 .rintro k w' ⟨i,E',g',hi,l1,l2,S'⟩ eK;rw [DS] at eK ⊢;have hq:=hI (k,i) hi;have hb:gn (k*q.toNat) xs.length=true:=Nat.ble_eq_true_of_le eK;simp only [hb] at hq;obtain ⟨vk,hvk⟩:∃ vk,FG e.size v0 (k*q.toNat) (min q.toNat (xs.length - k*q.toNat))=vk:=⟨_,rfl⟩;have hd:nY e g' vk ((xs.drop (k*q.toNat)).take q.toNat):=by
   have:=adq (i:=k*q.toNat) (k:=min q.toNat (xs.length - k*q.toNat)) yL (by omega);rw [hvk] at this;have e1:(xs.drop (k*q.toNat)).take (min q.toNat (xs.length - k*q.toNat))=(xs.drop (k*q.toNat)).take q.toNat:=by
    rw [<-aN,<-eF,eN]
   rw [e1] at this;exact this.mono l2
  obtain ⟨hrl,_⟩:=key (st':=.ready) S'.sat
  have hy:=run_yield (P:=X.P) (args:= #[vk]) hrl (by rw [PH];rfl);rw [hvk];rw [PH] at hy;have Sp:=S'.put (d:=some p) (v:=.v (.c (.d e ((xs.drop (k*q.toNat)).take q.toNat)))) (u:=vk) hp hd;have Sr:dg n {W with ds:=[]} (FF .ready) bb E' g' w' ((ll la us0 s.n i).put (some p) (.c (.d e ((xs.drop (k*q.toNat)).take q.toNat)))) {tmps:=a.tmps.setIfInBounds p vk,defers:=[]}:=⟨Sp.size,rfl,Sp.fr,Sat.base (W:=W) (W':= {W with ds:=[]}) rfl rfl Sp.sat,Sp.top⟩;have alx:jb {W with ds:=[]} X.P X.ct:=jb.base (W:=W) (W':= {W with ds:=[]}) rfl rfl jx;refine ⟨fn,a.tmps.setIfInBounds p vk,assign,body,(by simpa using hy),roundIn_of_wpIn trivial ?_⟩;refine wpIn_mono (Bz (ro:=some l) (m:=0) alx assign Sr hq) ?_;rintro ex a1 w1 ⟨E1,g1,s1,x1,m1,m2,T1,rfl,hq1⟩;cases x1 with
  | exit _=>exact hq1.elim
  | ret=>exact hq1.elim
  | normal=>
   obtain ⟨anw,hT1⟩:=key (st':=.busy) T1.sat
   have alA:=run_beginRound (P:=X.P) anw (CU _ _);rw [afd] at alA;refine ⟨_,alA,?_⟩;have T2:dg n {W with ds:=[]} (FF .busy) bb E1 g1 (w1.putObj l (.loop (rec .busy none))) s1 a1:=⟨T1.size,T1.defers,T1.fr,hT1,T1.top⟩;refine wpIn_mono (Bz (ro:=some l) (m:=0) alx body T2 hq1) ?_;rintro ex a3 w3 ⟨E3,g3,s3,x3,m3,m4,T3,rfl,hq3⟩;cases x3 with
   | exit _=>exact hq3.elim
   | ret=>exact hq3.elim
   | normal=>
    obtain ⟨anv,hT3⟩:=key (st':=.ready) T3.sat
    have M5:=run_endRound (P:=X.P) none anv;simp only [YT,Option.isNone_none,if_true] at M5;refine ⟨_,_,M5,rfl,?_⟩;have T4:dg n W (FF .ready) bb E3 g3 (w3.putObj l (.loop (rec .ready none))) {s3 with f:=[]} a:=⟨S'.size,S'.defers,λt sv ht=>(Sx.fr t sv (by unfold Bs.slot;rw [hsx];exact ht)).mono ((l1.trans m1).trans m3) ((l2.trans m2).trans m4),Sat.base (W:= {W with ds:=[]}) (W':=W) rfl rfl hT3,T3.top⟩;obtain ⟨i',⟨pB,_⟩,E4,lE4,T5⟩:=CE T4 ((l1.trans m1).trans m3) hn0 hold (λt ht=>by cases ht) hq3;exact ⟨i',E4,g3,pB,lE4,(l2.trans m2).trans m4,T5⟩
theorem Oz {m:Nat} {t p:Nat} {ps:Array Tmp} {assign body:Code} (hps:ps.toList= [p]) (hch:xB X.P X.chk) (jx:jb W X.P X.ct) {b:Bs} {s:Ov} {E:Env} {g w:World} {a:Act} {Q:Ov->Prop} (S:dg n W F b E g w s a) (h:HF X n an t p assign body b s Q):
  (Code.rangeFunc (.tmp t) ps assign body).wpIn (DX none) m X.P (T0 n W F b E g λe s'=>match e with| .normal=>Q s'| _=>False) a w:=by
 unfold HF at h;split at h
 .rename_i f l1 l2 hv;split at h
  .rename_i e t1 e' xs' t2 q la he ho1 ho2 hl;split at h
   .rename_i xs hx hla;obtain ⟨hc,h⟩:=cZ h;simp only [ao,bY] at hc;obtain ⟨gx,_,hp,hf⟩:=hc;have gx:l1≠l2:=λe=>by subst e;simp at gx
    obtain ⟨us,Wb,ha⟩:=S.fr t _ hv;obtain ⟨_,us1,rfl,⟨b1,hE1,rfl⟩,Wb⟩:=Wb;obtain ⟨_,us2,rfl,⟨b2,hE2,rfl⟩,Wb⟩:=Wb;obtain rfl:us2= []:=Wb;obtain ⟨ws1,r1,_,H1⟩:=oM S hE1 ho1;obtain ⟨v0,ws1',rfl,SI,hn1⟩:=r1;obtain rfl:ws1'= []:=hn1;have S1:=S.alH hE1 (bx.refl g) H1;have anJ:b.obj (s.dS l1 .gone) l2= .cells t2 [.k (.int .i64 q)]:=by rw [ja,if_neg gx];exact ho2
    obtain ⟨ws2,r2,_,H2⟩:=oM S1 hE2 anJ;obtain ⟨vq,ws2',rfl,hvq,hn2⟩:=r2;obtain rfl:ws2'= []:=hn2;obtain ⟨rfl,_⟩:vq= .int .i64 q/\True:=⟨hvq.1,trivial⟩;have S2:=S1.alH hE2 (bx.refl g) H2;obtain ⟨qe,yL⟩:=ev hx;subst qe;subst yL;exact Up hps (hch _ (Gr he)) jx hp hf hla ha SI S2 h
   .cases h
  .cases h
 .cases h
theorem Uo {m:Nat} (hch:xB X.P X.chk):∀ (c:Code) {W:cQ} {F:List Atom} {b:Bs} {s:Ov} {E:Env} {g w:World} {a:Act} {Q:Ex->Ov->Prop},jb W X.P X.ct->dg n W F b E g w s a->oa X n an c b s Q->c.wpIn (DX none) m X.P (T0 n W F b E g Q) a w:=by
 intro c;have plain:∀ {c:Code} {W:cQ} {F:List Atom} {b:Bs} {s:Ov} {E:Env} {g w:World} {a:Act} {Q:Ex->Ov->Prop},jb W X.P X.ct->dg n W F b E g w s a->lz X n an c b s Q->c.wpIn (DX none) m X.P (T0 n W F b E g Q) a w:=λjx S h=>wpIn_mono (Bz jx _ S h) λe a' w' ⟨E',g',s',ex,l1,l2,S',he,hq⟩=>⟨[],E',g',s',ex,l1,l2,S',he,hq⟩
 induction c with
 | seq x y ihx ihy=>
  intro W F b s E g w a Q jx S h;unfold oa at h;split at h;exact plain jx S h
  .dsimp only at h;split at h
   .refine wpIn_seq (wpIn_mono (ihx jx S h) ?_);rintro e a1 w1 ⟨Ds,E1,g1,s1,ex,l1,l2,S1,rfl,hq⟩;cases ex with
    | normal=>
     refine wpIn_mono (ihy (jb.base (W:=W) (W':=W.vV Ds) rfl rfl jx) S1 hq) ?_;rintro e a2 w2 ⟨Ds2,E2,g2,s2,ex,m1,m2,S2,he,hq⟩;refine ⟨Ds2++Ds,E2,g2,s2,ex,l1.trans m1,l2.trans m2,?_,he,hq⟩;have e1:(W.vV Ds).vV Ds2=W.vV (Ds2++Ds):=by unfold cQ.vV;simp
     have e2:Ds2.map Qn++(Ds.map Qn++F)=(Ds2++Ds).map Qn++F:=by simp
     rw [e1,e2] at S2;exact S2
    | exit i=>exact ⟨Ds,E1,g1,s1,.exit i,l1,l2,S1,rfl,hq⟩
    | ret=>exact ⟨Ds,E1,g1,s1,.ret,l1,l2,S1,rfl,hq⟩
   .cases h
 | block id c ih=>
  intro W F b s E g w a Q jx S h;unfold oa at h;split at h;exact plain jx S h
  .dsimp only at h;refine wpIn_block (wpIn_mono (ih jx S h) ?_);rintro e a1 w1 ⟨Ds,E1,g1,s1,ex,l1,l2,S1,rfl,hq⟩;cases ex with
   | normal=>exact ⟨Ds,E1,g1,s1,.normal,l1,l2,S1,rfl,hq⟩
   | exit i=>
    show (if i=id then _ else _)
    simp only at hq;split
    .rename_i e;subst e;rw [if_pos (by simp)] at hq;exact ⟨Ds,E1,g1,s1,.normal,l1,l2,S1,rfl,hq⟩
    .rename_i e;rw [if_neg (by simpa using e)] at hq;exact ⟨Ds,E1,g1,s1,.exit i,l1,l2,S1,rfl,hq⟩
   | ret=>exact ⟨Ds,E1,g1,s1,.ret,l1,l2,S1,rfl,hq⟩
 | rangeFunc f ps x y ih1 ih2=>
  intro W F b s E g w a Q jx S h;unfold oa at h;split at h;exact plain jx S h
  .dsimp only at h;split at h
   .rename_i t p hps _;exact wpIn_mono (Oz hps hch jx S h) λe a' w' ⟨Ds,E',g',s',ex,l1,l2,S',he,hq⟩=>by
     cases ex with
     | normal=>exact ⟨Ds,E',g',s',.normal,l1,l2,S',he,hq⟩
     | exit i=>exact hq.elim
     | ret=>exact hq.elim
   .cases h
 | skip=>intro W F b s E g w a Q jx S h;exact plain jx S h
 | region id ops draw=>intro W F b s E g w a Q jx S h;exact plain jx S h
 | exit id=>intro W F b s E g w a Q jx S h;exact plain jx S h
 | ret=>intro W F b s E g w a Q jx S h;exact plain jx S h
 | cond c x y ihx ihy=>
  intro W F b s E g w a Q jx S h;unfold oa at h;split at h;exact plain jx S h;cases h
 | loop c ih=>
  intro W F b s E g w a Q jx S h;unfold oa at h;split at h;exact plain jx S h;cases h
 | scope c ih=>
  intro W F b s E g w a Q jx S h;unfold oa at h;split at h;exact plain jx S h;cases h
 | label l=>intro W F b s E g w a Q jx S h;exact plain jx S h
 | goto l=>intro W F b s E g w a Q jx S h;exact plain jx S h
 | refuse l=>intro W F b s E g w a Q jx S h;exact plain jx S h
theorem wO {P:Program} {fn:Func} {R:Ending->World->Prop} {tmps:Array Value}:∀ (Ds:List Nat) {g w:World} {l:List Atom},SL W g w (Ds.map Qn++l)->
  (∀ w',SL W g w' l->∃ v,(results fn tmps).run P w'= .ok v w'/\R (.returned v) w')->LeavesInM (DX none) 0 P fn tmps R (Ds.map MF) .returning w
 | [],g,w,l,H,h=>h w H
 | D::Ds,g,w,l,H,h=>by
  have H:SL W g w (obj D (.deferred (some []))::(Ds.map Qn++l)):=H;have hD:=H.Eg.2.1;refine ⟨(λe=>by cases e),.inl ⟨D,_,rfl,run_takeDeferred hD,?_⟩⟩;have u:qh w D (.deferred none) (w.putObj D (.deferred none)):=⟨rfl,(aQ.1 hD).1⟩;exact wO Ds (H.zA u).drop h
end
section
variable {P:Program} {X:Vx} {n:Nat} {W:cQ} {F:List Atom} {b:Bs} {E:Env} {g w:World} {s:Ov} {a:Act}
theorem Pw {t:TypeId} {bb:Nat} {off:Nat} {u:Value} (h:(Instr.loadAt t (ptr bb off)).run P w= .ok u w):∃ q,ptr bb off= .pointer (some q)/\(loadVar t q).run P w= .ok u w:=by
 refine ⟨_,rfl,?_⟩;simpa [Instr.loadAt,Instr.sureAddr,ptr] using h
def OQ (tmps:Array Value):ResultVar->Sem Value
 | .tmp t=>pure (tmps.getD t undef)
 | .cell a t=>do loadVar t (<-asAddr (tmps.getD a undef))
theorem r8 (S:dg n W F b E g w s a):∀ {rs:List ResultVar} {l:List S1},lC P b s rs=some l->
  ∃ us,gW E g l us/\(rs.mapM (OQ a.tmps)).run P w= .ok us w
 | [],l,h=>by
  obtain rfl: []=l:=aj h;exact ⟨[],rfl,by simp⟩
 | .tmp t::r,l,h=>by
  unfold lC at h;split at h
  .rename_i v hv;split at h
   .rename_i q hq;obtain rfl:v::q=l:=aj h;obtain ⟨us,h1,h2⟩:=r8 S hq;refine ⟨_::us,⟨_,us,rfl,S.fr t _ hv,h1⟩,?_⟩;rw [List.mapM_cons];simp [OQ,h2]
   .cases h
  .cases h
 | .cell t ty::r,l,h=>by
  unfold lC at h;split at h
  .rename_i lb off hv;split at h
   .rename_i ht cs eh;split at h
    .rename_i v hp;split at h
     .rename_i q hq;obtain rfl:v::q=l:=aj h;obtain ⟨us,h1,h2⟩:=r8 S hq;obtain ⟨bb,hE,hx⟩:=S.fr t _ hv;obtain ⟨xC,k1,k2,_⟩:=oM S hE eh;obtain ⟨u,h3,h4⟩:=CK k2 k1 hp;obtain ⟨qa,h5,h6⟩:=Pw h3;refine ⟨u::us,⟨u,us,rfl,h4,h1⟩,?_⟩;rw [List.mapM_cons];simp [OQ,Sem.run_bind,h2,hx,h5,asAddr,h6]
     .cases h
    .cases h
   .cases h
  .cases h
theorem ac2 {l:List S1} {us:List Value} (h:gW E g l us):df E g (pack l) (if h:us.toArray.size=1 then us.toArray[0] else .tuple us.toArray):=by
 unfold pack;split
 .obtain ⟨u,r,rfl,h1,h2⟩:=h;obtain rfl:r= []:=h2;exact h1
 .rename_i h0;have:¬us.toArray.size=1:=λe=>by
   have hl:=h.length;simp at e;rw [e] at hl
   match l,hl,h0 with
   | [v],_,h0=>exact h0 v rfl
  rw [dif_neg this];exact ⟨us,h,rfl⟩
theorem OP (S:dg n W F b E g w s a) {fn:Func} {l:List S1} (h:lC P b s fn.results.toList=some l):∃ v,(results fn a.tmps).run P w= .ok v w/\df E g (pack l) v:=by
 obtain ⟨us,h1,h2⟩:=r8 S h;refine ⟨_,?_,ac2 h1⟩;have e:results fn a.tmps=(do
   let vs <-fn.results.mapM (OQ a.tmps)
   pure (if h:vs.size=1 then vs[0] else .tuple vs)):=by
  unfold results;congr 1
 rw [e,Array.mapM_eq_mapM_toList];simp [h2]
theorem adR (S:dg n W F b E g w s a) {fn:Func} {k:SV->Prop} (h:aiA P b s fn.results.toList k):∃ r v,(results fn a.tmps).run P w= .ok v w/\df E g r v/\k r:=by
 have e:results fn a.tmps=(do
   let vs <-fn.results.mapM (OQ a.tmps)
   pure (if h:vs.size=1 then vs[0] else .tuple vs)):=by
  unfold results;congr 1
 have vQ:∀ {rs:List ResultVar},fn.results.toList=rs->(match lC P b s rs with| some l=>k (pack l)| none=>False)->∃ r v,(results fn a.tmps).run P w= .ok v w/\df E g r v/\k r:=λ{rs} hr h=>by
  split at h
  .rename_i l hl;obtain ⟨v,h1,h2⟩:=OP S (l:=l) (by rw [hr];exact hl);exact ⟨_,v,h1,h2,h⟩
  .cases h
 unfold aiA at h;split at h
 .rename_i t hr;split at h
  .rename_i q l hv;refine ⟨.arr q l,a.tmps.getD t undef,?_,S.fr t _ hv,h⟩;rw [e,Array.mapM_eq_mapM_toList,hr];simp [OQ]
  .exact vQ hr h
 .rename_i t ty hr;split at h
  .rename_i c hv;obtain ⟨u,sv,h1,h2,h3⟩:=xO S (S.fr t _ hv) h;refine ⟨sv,u,?_,h2,h3⟩;obtain ⟨q,hq,h5⟩:∃ q,a.tmps.getD t undef= .pointer (some q)/\(loadVar ty q).run P w= .ok u w:=by
    cases hx:a.tmps.getD t undef with
    | pointer p=>cases p with
     | some q=>exact ⟨q,rfl,by simpa [hx,Instr.loadAt,Instr.sureAddr] using h1⟩
     | none=>simp [hx,Instr.loadAt,Instr.sureAddr] at h1
    | _=>simp [hx,Instr.loadAt,Instr.sureAddr] at h1
   rw [e,Array.mapM_eq_mapM_toList,hr];simp [OQ,hq,h5,asAddr]
  .cases h
 .exact vQ rfl h
theorem acA {E0:Env} {g0:World} {fn:Func} {Q:SV->List HO->Prop} (S:dg n W F b E g w s a) (he:bw E0 E) (m:bx g0 g) {c:Bool} (h:acB P c fn E0.length b s Q):
  ∃ v,(results fn a.tmps).run P w= .ok v w/\∃ E' g' sv H',bw E0 E'/\bx g0 g'/\Sat W E' g' w H' F/\df E' g' sv v/\Q sv H':=by
 unfold acB aeN at h;have S:=GZ c S;generalize Df c b s=s at h S;obtain ⟨l,v,hr,hv,h⟩:=adR S h;have h:=fw _ h;generalize hrl:(sb (b.obj s) 1000 (l.labels++(bN E0.length).flatMap λi=>(b.obj s i).labels) []).filter (λl=>Nat.ble E0.length l)=rl at h;generalize hls:bN E0.length++rl=ls at h;obtain ⟨hc,h⟩:=cZ h;rw [ao,jH] at hc;obtain ⟨hn,eK⟩:=hc;have CV:∀ l∈ls,l< s.n:=λl hl=>by have:=bo.1 eK l hl;simpa using this
 have vR:mH (ic ls) E (ls.map λl=>(E[l]?).getD undef):=λl l' v h1 h2=>by
  have:=oD h1;rw [ck,this];simp [h2]
 have wV:Sat W (ls.map λl=>(E[l]?).getD undef) g w (ls.map λl=>(b.obj s l).fp (ic ls)) F:=by
  refine ⟨S.sat.sl.cz λh0 x=>?_,by simp⟩;have x1:=bq.qm (ob:=b.obj s) hn (λl hl=>eM (CV l hl)) x;have x2:=bq.XI x1;exact bq.xM vR (k:=0) (λi l hi=>by rw [bW];exact qb hn hi) x2
 refine ⟨v,hr,_,g,_,_,λk u hk=>?_,m,wV,hv.fp vR,h⟩;have hk0:k< E0.length:=sV hk;have:ls[k]?=some k:=by
  rw [<-hls,aV (by simpa using hk0)];simp [hk0]
 rw [ck,this];simp [he k u hk]
theorem BG:∀ {args:List SV} {k t:Nat} {v:SV},fV (og k args) t=some v->k<=t/\args[t - k]?=some v
 | [],_,_,_,h=>by cases h
 | x::r,k,t,v,h=>by
  simp only [og,fV] at h;by_cases e:k=t
  .subst e;have hb:Nat.beq k k=true:=by simp
   rw [hb] at h;obtain rfl:=aj h;exact ⟨ay _,by simp⟩
  .rw [ij e] at h;obtain ⟨h1,h2⟩:=BG h;refine ⟨by omega,?_⟩;rw [show t - k=(t - (k+1))+1 by omega];simpa using h2
theorem FY:∀ {l:List SV} {us:List Value},bC E g l us->us.length=l.length
 | [],_,h=>by rw [show _= [] from h];rfl
 | _::_,_,⟨_,_,e,_,h⟩=>by rw [e,aq,aq,FY h]
theorem FZ:∀ {l:List SV} {us:List Value} {i:Nat} {c:SV},bC E g l us->l[i]?=some c->∃ u,us[i]?=some u/\df E g c u
 | [],_,_,_,_,h=>by simp at h
 | x::l,_,0,c,⟨u,r,e,h1,_⟩,h=>by
  obtain rfl:x=c:=by simpa using h
  exact ⟨u,by rw [e];rfl,h1⟩
 | x::l,_,i+1,c,⟨u,r,e,_,h2⟩,h=>by
  obtain ⟨v,h3,h4⟩:=FZ (i:=i) h2 (by simpa using h);exact ⟨v,by rw [e];simpa using h3,h4⟩
theorem Wp.Sd {I:cQ->Prop} {f:FuncId} {args:List SV} {H:List HO} {Q:SV->List HO->Prop} {sv:SV} (h:∀ (E:Env) (g w:World) (vs:List Value),bx g w->bC E g args vs->Hs P f vs.toArray w λv w'=>df E g sv v/\Le w w') (hq:Q sv H):Wp I P f args H Q:=by
 intro W _ g w E F vs hs hv;exact (h E g w vs hs.m hv).mono λv w' ⟨r,l⟩=>⟨E,g,sv,H,bw.refl E,bx.refl g,hs.le l,r,hq⟩
theorem Wp.said {I:cQ->Prop} {f:FuncId} {args args':List SV} {H:List HO} {Q:SV->List HO->Prop} (h:∀ (E:Env) (g:World) (us:List Value),bC E g args us->bC E g args' us) (k:Wp I P f args' H Q):Wp I P f args H Q:=λW hW g w E F vs hs hv=>k W hW g w E F vs hs (h E g vs hv)
theorem bC.cE {g:World} {c c':SV} {l l':List SV} (h1:∀ u,df E g c u->df E g c' u) (h2:∀ us,bC E g l us->bC E g l' us):∀ us,bC E g (c::l) us->bC E g (c'::l') us:=λ_ ⟨u,r,e,a,b⟩=>⟨u,r,e,h1 u a,h2 r b⟩
theorem IP {g:World} {e:Ty} {l:List Cl} {x:e.den} (h:e.of l=some (x,[])):∀ u,df E g (.v (.agg l)) u->df E g (.v (.agg (e.cells x))) u:=λu ⟨us,h1,h2⟩=>by
 obtain ⟨u1,u2,e1,h3,h4⟩:=of_cells e h h1;obtain rfl:u2= []:=h4;rw [aW] at e1;subst e1;exact ⟨us,(eY E g e h3).1,h2⟩
theorem dI {g:World} {e:Ty} {c:Cl} {x:List e.den} (h:(Ty.sl e).of [c]=some (x,[])):∀ u,df E g (.v (.c c)) u->df E g (.v (.c (.d e x))) u:=λu r=>by
 have r1:bA E g [c] [u]:=⟨u,[],rfl,r,rfl⟩;obtain ⟨u1,u2,e1,h3,h4⟩:=of_cells (.sl e) h r1;obtain rfl:u2= []:=h4;rw [aW] at e1;subst e1;obtain ⟨u',r',e2,h5,h6⟩:=(eY E g (.sl e) h3).1;obtain rfl:u=u':=(List.cons.inj e2).1;exact h5
theorem aw {c:Bool} {p q:Prop} (h1:c=true->p) (h2:c=false->q):br c p q:=by
 cases c;exact h2 rfl;exact h1 rfl
theorem Wp.enter {I:cQ->Prop} (jx:ir I X.P X.ct) {f:FuncId} {fn:Func} (an:Eo) (hf:X.P.funcs[f]?=some fn) {args:List SV} {H:List HO} {Q:SV->List HO->Prop} (h:acz X an fn args H Q) (hch:xB X.P X.chk:=by exact xB.nil _):Wp I X.P f args H Q:=by
 intro W0 hW;replace jx:jb {W0 with ds:=[]} X.P X.ct:=jb.base (W:=W0) (W':= {W0 with ds:=[]}) rfl rfl (jx.at hW);refine WpW.base (W:= {W0 with ds:=[]}) (W':=W0) rfl rfl ?_;have Vo:({W0 with ds:=[]}:cQ).ds= []:=rfl;revert jx Vo;generalize ({W0 with ds:=[]}:cQ)=W;intro jx Vo g w E F vs wV DR;unfold acz at h;split at h;cases h
 .rename_i c hb;obtain ⟨hl,h⟩:=cZ h;have wX:vs.length<=fn.ntmps:=by rw [FY DR];exact cH hl
  have adz:∀ l,({f:=og 0 args,h:=H}:Bs).obj {f:=[],h:=[],n:=H.length} l=lJ H l:=λl=>rfl;have S:dg fn.ntmps W F {f:=og 0 args,h:=H} E g w {f:=[],h:=[],n:=H.length} {tmps:=vs.toArray++Array.replicate (fn.ntmps - vs.toArray.size) undef,defers:=[]}:=by
   refine ⟨by simp;omega,Vo.symm,λt v ht=>?_,?_,λl hl=>?_⟩
   .obtain ⟨_,h2⟩:=BG (k:=0) ht;obtain ⟨u,h3,h4⟩:=FZ DR h2;simp only [Nat.sub_zero] at h3;have h5:t< vs.length:=(au.1 h3).1;have:(vs.toArray++Array.replicate (fn.ntmps - vs.toArray.size) undef).getD t undef=u:=by
     simp [bZ,Array.getElem?_append,h5];rw [ak h5] at h3;exact aj h3
    rw [this];exact h4
   .have:({f:=og 0 args,h:=H}:Bs).heap {f:=[],h:=[],n:=H.length}=H:=by
     apply List.ext_getElem?;intro k;by_cases hk:k< H.length;rw [eM (s:= {f:=[],h:=[],n:=H.length}) hk,adz,ak hk,mz (ak hk)];rw [dx (by rw [dN];show H.length<=k;omega),dx (by omega)]
    rw [this];exact wV
   .rw [adz];exact nO hl
  have h:=GL DR h;refine (callsIn_wide (n:=0)).1 (callsIn_of_wp_marks hf hb trivial (wpIn_mono (Uo (m:=0) hch c jx S h) ?_));rintro e a' w' ⟨Ds,E',g',s',ex,l1,l2,S',rfl,hq⟩;have hlen:E.length=H.length:=wV.len;have fin:∀ {Q':SV->List HO->Prop},acB X.P X.clo fn E.length {f:=og 0 args,h:=H} s' Q'->LeavesInM (DX none) 0 X.P fn a'.tmps (λe w1=>∃ v,e= .returned v/\∃ E1 g1 sv H1,bw E E1/\bx g g1/\Sat W E1 g1 w1 H1 F/\df E1 g1 sv v/\Q' sv H1) a'.defers .returning w':=λ{Q'} hq=>by
   have hd:a'.defers=Ds.map MF:=by rw [S'.defers];unfold cQ.vV;simp [Vo]
   rw [hd];have H0:SL W g' w' (Ds.map Qn++(bj E' 0 (Bs.heap {f:=og 0 args,h:=H} s')++F)):=(SL.base (W:=W.vV Ds) (W':=W) rfl rfl S'.sat.sl).cz λh x=>bq.comm x;refine wO Ds H0 λw1 H1=>?_;have S1:dg fn.ntmps W F {f:=og 0 args,h:=H} E' g' w1 s' {a' with defers:=W.ds}:=⟨S'.size,rfl,S'.fr,⟨H1,S'.sat.len⟩,S'.top⟩;obtain ⟨v,hr,hv⟩:=acA S1 l1 l2 hq;exact ⟨v,hr,v,rfl,hv⟩
  cases ex with
  | normal=>
   simp only at hq;rw [<-hlen] at hq;exact fin hq
  | exit i=>exact hq.elim
  | ret=>
   simp only at hq;rw [<-hlen] at hq;exact fin hq
theorem Wp.P1 {I:cQ->Prop} (jx:ir I X.P X.ct) {f:FuncId} {fn:Func} (an:Eo) (hf:X.P.funcs[f]?=some fn) {args:List SV} {H:List HO} {Q:SV->List HO->Prop} {V:(SV->List HO->Prop)->Prop} (e:∀ Q,acz X an fn args H Q=V Q) (h:V Q) (hch:xB X.P X.chk:=by exact xB.nil _):Wp I X.P f args H Q:=Wp.enter jx an hf ((e Q).mpr h) hch
end
def iM (x a b:Int):Bool:=decide (a<=x)&& decide (x<=b)
def ae1 (s:ByteArray):Int:=Lib.indexByte s.data.toList 0
def qM (s:ByteArray) (m:Int):Bool:=iM (s.size:Int) 1 m&& decide (ae1 s< 0)
theorem kz (s:ByteArray):s.size=s.data.toList.length:=by
 cases s with
 | mk d=>simp [ByteArray.size]
theorem Ji (l:List UInt8) (c:UInt8): -1<=Lib.indexByte l c/\Lib.indexByte l c< max 1 (l.length:Int):=by
 induction l with
 | nil=>simp [Lib.indexByte];omega
 | cons b r ih=>
  unfold Lib.indexByte;by_cases hb:(b==c)=true;rw [if_pos hb];simp;omega
  .rw [if_neg hb];by_cases hm:(Lib.indexByte r c== -1)=true
   .simp only [hm,if_true,aq];omega
   .simp only [hm];simp at hm;simp only [aq];have:r≠ []:=λe=>by subst e;simp [Lib.indexByte] at hm
    have:0< r.length:=List.length_pos_iff.2 this;simp;omega
abbrev xt:=ByteArray×List UInt8×Unit
def leB (a b:ByteArray):Bool:=uB a b|| mJ a b
def DB (x:xt) (last:ByteArray):Bool:= !qM x.1 40|| leB x.1 last|| decide ((x.2.1.length:Int)>200)
def iW:List xt->ByteArray->Bool
 | [],_=>true
 | x::r,last=>if DB x last then false else iW r x.1
def eI (l:List xt):Bool:=iW l ⟨#[]⟩&& decide ((l.length:Int)<=8)
theorem fE {e:Ty} {l:List e.den} {k:Int} (h0:0<=k) (h1:k< l.length):l.drop k.toNat=aK e l k::l.drop (k+1).toNat:=by
 have eK:k.toNat< l.length:=by omega
 rw [cg eK,show k.toNat+1=(k+1).toNat by omega];congr 1;unfold aK;rw [ba,ak eK];rfl
theorem ft {α:Type} {l:List α} {k:Int} (h:¬k< l.length):l.drop k.toNat= []:=ik (by omega)
theorem AU (a b:UInt8) (x y:List UInt8):Op.bytesLess (a::x) (b::y)=(decide (a< b)|| (a==b&& Op.bytesLess x y)):=rfl
theorem re:∀ x:List UInt8,Op.bytesLess x x=false
 | []=>rfl
 | a::x=>by rw [AU,re x];simp
theorem ahl (a b:UInt8):a< b\/a=b\/b< a:=by
 rcases UInt8.lt_or_le a b with h| h;exact .inl h
 .rcases UInt8.lt_or_eq_of_le h with h| h
  .exact .inr (.inr h)
  .exact .inr (.inl h.symm)
theorem Qo:∀ x y:List UInt8,Op.bytesLess x y=true\/x=y\/Op.bytesLess y x=true
 | [],[]=>.inr (.inl rfl)
 | [],_::_=>.inl rfl
 | _::_,[]=>.inr (.inr rfl)
 | a::x,b::y=>by
  rw [AU,AU];rcases ahl a b with h| h| h;exact .inl (by simp [h])
  .subst h;rcases Qo x y with k| k| k
   .exact .inl (by simp [k])
   .exact .inr (.inl (by rw [k]))
   .exact .inr (.inr (by simp [k]))
  .exact .inr (.inr (by simp [h]))
theorem Dz:∀ {x y z:List UInt8},Op.bytesLess x y=true->Op.bytesLess y z=true->Op.bytesLess x z=true
 | _,[],_,h,_=>by simp [Op.bytesLess] at h
 | _,_::_,[],_,k=>by simp [Op.bytesLess] at k
 | [],_::_,_::_,_,_=>rfl
 | a::x,b::y,c::z,h,k=>by
  rw [AU] at*;simp only [lp,ao,decide_eq_true_eq,beq_iff_eq] at*;rcases h with h| ⟨rfl,h⟩
  .rcases k with k| ⟨rfl,k⟩
   .exact .inl (UInt8.lt_trans h k)
   .exact .inl h
  .rcases k with k| ⟨rfl,k⟩
   .exact .inl k
   .exact .inr ⟨rfl,Dz h k⟩
theorem td {x y:List UInt8} (h:Op.bytesLess x y=true):Op.bytesLess y x=false:=by
 cases k:Op.bytesLess y x with
 | false=>rfl
 | true=>have:=Dz h k;rw [re] at this;cases this
theorem Su (a b:ByteArray):leB a b= !uB b a:=by
 unfold leB uB mJ;rcases Qo a.toList b.toList with h| h| h;rw [h,td h];rfl;rw [h,re];simp
 .rw [h,td h];have:(a.toList==b.toList)=false:=by
   apply beq_eq_false_iff_ne.2;intro e;rw [e,re] at h;cases h
  rw [this];rfl
theorem yK:∀ l:List UInt8,decide (Lib.indexByte l 0< 0)= !l.any (· ==0)
 | []=>rfl
 | b::r=>by
  have ih:=yK r;have ge:=Lib.indexByte_ge r 0;unfold Lib.indexByte;by_cases hb:b=0;subst hb;simp
  .have h1:(b==0)=false:=by simpa using hb
   rw [h1];simp only [eR,if_false,List.any_cons,h1,Bool.false_or];rw [<-ih];by_cases hm:Lib.indexByte r 0= -1;simp [hm]
   .have:(Lib.indexByte r 0== -1)=false:=by simpa using hm
    simp only [this,eR,if_false];have h2:¬Lib.indexByte r 0< 0:=by omega
    have h3:¬Lib.indexByte r 0+1< 0:=by omega
    simp [h2,h3]
def noB (s:ByteArray):Bool:=mJ s ⟨#[]⟩
def D9 (m u g:Int):Bool:=iM m 0 511&& iM u 0 65535&& iM g 0 65535
def iR (x:bu):Bool:=
 if x.2.2.1=1 then ((x.2.2.2.2.1.length:Int)==0)&& noB x.2.2.2.2.2.1&& !x.2.2.2.2.2.2.2.1&& D9 x.2.2.2.1.1 x.2.2.2.1.2.1 x.2.2.2.1.2.2.1&& eI x.2.2.2.2.2.2.1
 else if x.2.2.1=2 then decide ((x.2.2.2.2.1.length:Int)<=4096)&& noB x.2.2.2.2.2.1&& !x.2.2.2.2.2.2.2.1&& D9 x.2.2.2.1.1 x.2.2.2.1.2.1 x.2.2.2.1.2.2.1&& eI x.2.2.2.2.2.2.1
 else if x.2.2.1=3 then ((x.2.2.2.2.1.length:Int)==0)&& qM x.2.2.2.2.2.1 200&& !x.2.2.2.2.2.2.2.1&& D9 x.2.2.2.1.1 x.2.2.2.1.2.1 x.2.2.2.1.2.2.1&& eI x.2.2.2.2.2.2.1
 else false
def CS {α:Type} (p:α->Bool):List α->Int->Int
 | [],_=> -1
 | x::r,k=>if p x then k else CS p r (k+1)
theorem MU {α:Type} {p:α->Bool}:∀ {l:List α} {k:Int},0<=k->decide (CS p l k≥0)=l.any p
 | [],_,_=>rfl
 | x::r,k,h=>by
  unfold CS;rw [List.any_cons];cases hp:p x with
  | true=>simp [h]
  | false=>simpa using MU (l:=r) (p:=p) (k:=k+1) (by omega)
def ai9 (x:bu):Bool:=x.2.2.1==4&& (!(x.2.2.2.1.1==0&& (x.2.2.2.1.2.1==0&& x.2.2.2.1.2.2.1==0))|| decide ((x.2.2.2.2.1.length:Int)>0)|| !mJ x.2.2.2.2.2.1 ⟨#[]⟩|| decide ((x.2.2.2.2.2.2.1.length:Int)>0)|| x.2.2.2.2.2.2.2.1)
def Pr (x:bu):Bool:=if x.2.2.1=4 then !ai9 x else iR (x.1,x.2.1,x.2.2.1,x.2.2.2.1,x.2.2.2.2.1,x.2.2.2.2.2.1,x.2.2.2.2.2.2.1,(if x.2.2.1=1 then false else x.2.2.2.2.2.2.2.1),())
def Di (x:bu):bu:=(x.1.take 18,x.2.1,x.2.2.1,x.2.2.2.1,x.2.2.2.2.1.take 1500,x.2.2.2.2.2.1,x.2.2.2.2.2.2.1.take 10,x.2.2.2.2.2.2.2.1,())
theorem BD {e:Ty} {l:List e.den} {k:Int} (h0:0<=k) (h1:k< l.length):l.take (k+1).toNat=l.take k.toNat++ [aK e l k]:=by
 have eK:k.toNat< l.length:=by omega
 rw [show (k+1).toNat=k.toNat+1 by omega,List.take_add_one,ak eK];unfold aK;rw [ba,ak eK];rfl
def rZ (s:ByteArray) (k:Nat):Bool:=(s.data.toList.drop k).any λb=>b==0|| b==47
def Zo (s:ByteArray):Bool:=mJ s ⟨#[]⟩|| (mJ s ⟨#[46]⟩|| mJ s ⟨#[46,46]⟩)
def dA (s:ByteArray):Int:=if (s.size:Int)>255 then 23 else if rZ s 0|| Zo s then 22 else 0
def iX:List ByteArray->List ByteArray->Bool
 | [],[]=>true
 | x::a,y::b=>mJ x y&& iX a b
 | _,_=>false
theorem FN:∀ {a b:List ByteArray},a.length≠b.length->iX a b=false
 | [],[],h=>absurd rfl h
 | _::a,_::b,h=>by
  unfold iX;rw [FN (a:=a) (b:=b) (by simpa using h),Bool.and_false]
 | [],_::_,_=>rfl
 | _::_,[],_=>rfl
def Ed (names:List ByteArray) (x:bu):Bool:=iX x.1 names
theorem R9 {k:Kk} {α:Type} {l:List (k.den×α)} {x:k.den} {v:α}:(k.put l x v).length<=l.length+1:=by
 unfold Kk.put qL;rw [aq];have:(@mF k.den k.key _ l x).length<=l.length:=by
  unfold mF;exact List.length_filter_le _ _
 omega
section
variable {P:Program} {I:cQ->Prop} {f:FuncId} {args:List SV} {H:List HO} {Q Q':SV->List HO->Prop} {W:cQ} {E:Env} {g w:World} {F:List Atom}
theorem Wp.fin (h:Wp I P f args H Q') (k:∀ (W:cQ) (E:Env) (g w:World) (F:List Atom) (H':List HO) (sv:SV),Sat W E g w H' F->Q' sv H'->∃ g' H'',bx g g'/\Sat W E g' w H'' F/\Q sv H''):Wp I P f args H Q:=λW hW g w E F vs hs hv=>
 (h W hW g w E F vs hs hv).mono λv w' ⟨E1,g1,sv,H1,e1,m1,s1,r1,q1⟩=>by
  obtain ⟨g2,H2,m2,s2,q2⟩:=k W E1 g1 w' F H1 sv s1 q1;exact ⟨E1,g2,sv,H2,e1,m1.trans m2,s2,r1.mono (bw.refl _) m2,q2⟩
theorem Wp.mono (h:Wp I P f args H Q') (k:∀ sv H',Q' sv H'->Q sv H'):Wp I P f args H Q:=
 h.fin λ_ _ g _ _ H' sv s q=>⟨g,H',bx.refl g,s,k sv H' q⟩
theorem Wp.beg {H0:List HO} (h:∀ (W:cQ) (E:Env) (g w:World) (F:List Atom),Sat W E g w H0 F->∃ E' H1,bw E E'/\Sat W E' g w H1 F/\Wp I P f args H1 Q):Wp I P f args H0 Q:=λW hW g w E F vs hs hv=>by
 obtain ⟨E1,H1,e1,s1,k⟩:=h W E g w F hs;have hv1:bC E1 g args vs:=by
  have key:∀ {l:List SV} {us:List Value},bC E g l us->bC E1 g l us:=by
   intro l
   induction l with
   | nil=>intro us h;exact h
   | cons c l ih=>
    rintro us ⟨u,r,e,h1,h2⟩;exact ⟨u,r,e,h1.mono e1 (bx.refl g),ih h2⟩
  exact key hv
 exact (k W hW g w E1 F vs s1 hv1).mono λv w' ⟨E2,g2,sv,H2,e2,m2,q⟩=>⟨E2,g2,sv,H2,e1.trans e2,m2,q⟩
theorem Wp.sel (h:Wp I P f args H λsv H'=>∃ ls:List Nat,ls.take H.length=bN H.length/\ls.Nodup/\(∀ l∈ls,l< H'.length)/\Q (sv.fp (ic ls)) (ls.map λl=>(lJ H' l).fp (ic ls))):Wp I P f args H Q:=λW hW g w E F vs hs hv=>
 (h W hW g w E F vs hs hv).mono λv w' ⟨E1,g1,sv,H1,e1,m1,s1,r1,ls,h1,hn,eK,q⟩=>by
  have vR:mH (ic ls) E1 (ls.map λl=>(E1[l]?).getD undef):=λl l' v h1 h2=>by
   have:=oD h1;rw [ck,this];simp [h2]
  have wV:Sat W (ls.map λl=>(E1[l]?).getD undef) g1 w' (ls.map λl=>(lJ H1 l).fp (ic ls)) F:=by
   refine ⟨s1.sl.cz λh0 x=>?_,by simp⟩;have x1:=bq.qm (ob:=lJ H1) hn (λl hl=>by
    have wX:=eK l hl;rw [ak wX,mz (ak wX)]) x
   have x2:=bq.XI x1;exact bq.xM vR (k:=0) (λi l hi=>by rw [bW];exact qb hn hi) x2
  refine ⟨_,g1,_,_,λk u hk=>?_,m1,wV,r1.fp vR,q⟩;have hk0:k< H.length:=by
   have:=(au.1 hk).1;rw [hs.len] at this;exact this
  have:ls[k]?=some k:=by
   have h2:(ls.take H.length)[k]?=some k:=by rw [h1];simp [hk0]
   rw [ez,if_pos hk0] at h2;exact h2
  rw [ck,this];simp [e1 k u hk]
theorem Wp.IM {t:TypeId} {e:Ty} (h:Wp I P f args H λsv H'=>Q sv H'\/(sv= .c (.k (.slice none 0 0))/\Q (.c (.o H'.length)) (H'++ [.sl t e []]))):Wp I P f args H Q:=λW hW g w E F vs hs hv=>
 (h W hW g w E F vs hs hv).mono λv w' ⟨E1,g1,sv,H1,e1,m1,s1,r1,q⟩=>by
  rcases q with q| ⟨rfl,q⟩;exact ⟨E1,g1,sv,H1,e1,m1,s1,r1,q⟩
  .have SI:v= .slice none 0 0:=r1.1;subst SI;letI:=e.rep;have H2:=SL.zD e.den t s1.sl;refine ⟨E1++ [.slice none 0 0],g1,.c (.o H1.length),H1++ [.sl t e []],e1.trans (bw.app _ _),m1,Sat.push (o:=.sl t e []) (v:=.slice none 0 0) s1.len (H2.cz λ_ ⟨k1,k2,ap,q,x1,x2⟩=>⟨k1,k2,ap,q,⟨_,by rw [<-s1.len];simp,x1⟩,x2⟩),⟨by rw [<-s1.len];simp,none,0,0,rfl⟩,q⟩
theorem Wp.ac4 {t:TypeId} {e:Ty} (h:Wp I P f args H λsv H'=>Q sv H'\/∃ x:Int,sv= .cJ [.c (.k (.slice none 0 0)),.c (.k (.int .i64 x))]/\Q (.cJ [.c (.o H'.length),.c (.k (.int .i64 x))]) (H'++ [.sl t e []])):Wp I P f args H Q:=λW hW g w E F vs hs hv=>
 (h W hW g w E F vs hs hv).mono λv w' ⟨E1,g1,sv,H1,e1,m1,s1,r1,q⟩=>by
  rcases q with q| ⟨x,rfl,q⟩;exact ⟨E1,g1,sv,H1,e1,m1,s1,r1,q⟩
  .obtain ⟨us,⟨u1,us1,rfl,⟨hu1,_⟩,u2,us2,rfl,hu2,Vl⟩,rfl⟩:=r1;obtain rfl:us2= []:=Vl;subst hu1;letI:=e.rep;have H2:=SL.zD e.den t s1.sl;refine ⟨E1++ [.slice none 0 0],g1,.cJ [.c (.o H1.length),.c (.k (.int .i64 x))],H1++ [.sl t e []],e1.trans (bw.app _ _),m1,Sat.push (o:=.sl t e []) (v:=.slice none 0 0) s1.len (H2.cz λ_ ⟨k1,k2,ap,q,x1,x2⟩=>⟨k1,k2,ap,q,⟨_,by rw [<-s1.len];simp,x1⟩,x2⟩),⟨_,⟨_,_,rfl,⟨by rw [<-s1.len];simp,none,0,0,rfl⟩,_,_,rfl,hu2,rfl⟩,rfl⟩,q⟩
end
abbrev AtD:=Int×Int×Int×Unit
abbrev XeD:=ByteArray×Int×Int×Unit
abbrev amY:Ty:=.pair .str (.pair (.int .i64) (.pair (.int .i64) .unit))
theorem jQ {a b:ByteArray}:mJ a b=true↔a=b:=by
 unfold mJ;rw [beq_iff_eq,Lib.toList_data,Lib.toList_data];constructor
 .intro h;obtain ⟨x⟩:=a;obtain ⟨y⟩:=b;have:x=y:=Array.ext' h;rw [this]
 .intro h;rw [h]
def bu.wk (n:bu) (a:AtD):bu:=(n.1,n.2.1,n.2.2.1,a,n.2.2.2.2)
def bu.acL (n:bu) (x:List xt):bu:=(n.1,n.2.1,n.2.2.1,n.2.2.2.1,n.2.2.2.2.1,n.2.2.2.2.2.1,x,n.2.2.2.2.2.2.2)
def bu.dS (n:bu) (q:Bool):bu:=(n.1,n.2.1,n.2.2.1,n.2.2.2.1,n.2.2.2.2.1,n.2.2.2.2.2.1,n.2.2.2.2.2.2.1,q,())
def oQ (L:List bu) (r:Int) (f:bu->bu):List bu:=L.map λn=>bif rM r n then f n else n
def wL (x:bu):Bool:=if x.2.2.1=4 then !ai9 (x.dS false) else iR (x.dS false)
def Yx (a:AtD):Bool:=D9 a.1 a.2.1 a.2.2.1
namespace UpY
variable (Y:UpY)
def lu (r:Int):Int:=match Y.at r with
 | none=>1
 | some n=>if n.2.2.1=1 then 0 else 24
def atE (r:Int):Int:=match Y.at r with
 | none=>1
 | some _=>0
def kindOf (r:Int):Int:=match Y.at r with
 | none=>0
 | some n=>n.2.2.1
def mB (d:Int) (s:ByteArray):Int:=if Y.lu d=0 then (match Y.kC d s with
 | none=>20
 | some _=>0) else Y.lu d
def Sn (d:Int) (s:ByteArray):XeD:=if Y.lu d=0 then (match Y.kC d s with
 | none=>(⟨#[]⟩,0,0,())
 | some e=>(s,Y.kindOf e.2.2.1,e.2.2.1,())) else (⟨#[]⟩,0,0,())
def qT (d:Int) (s:ByteArray):Int:=if Y.lu d=0 then (if dA s=0 then (match Y.kC d s with
 | none=>0
 | some _=>21) else dA s) else Y.lu d
def BN (r:Int) (a:AtD):Int:=match Y.at r with
 | none=>1
 | some n=>if n.2.2.1=4\/Yx a=false then 1 else 0
def gK (r:Int) (a:AtD):UpY:=if Y.BN r a=0 then {Y with L:=oQ Y.L r (·.wk a)} else Y
def uY (r:Int) (x:List xt):Int:=match Y.at r with
 | none=>1
 | some n=>if n.2.2.1=4\/eI x=false then 1 else 0
def fm (r:Int) (x:List xt):UpY:=if Y.uY r x=0 then {Y with L:=oQ Y.L r (·.acL x)} else Y
def fG (r:Int) (q:Bool):UpY:=if Y.lu r=0 then {Y with L:=oQ Y.L r (·.dS q)} else Y
def MG (d:Int) (s:ByteArray) (n:bu):Int:=if Y.qT d s=0 then (if wL n then 0 else 1) else Y.qT d s
def Sm (d:Int) (s:ByteArray) (n:bu):Int:=if Y.MG d s n=0 then Y.nx else 0
def pV (n:bu):bu:=([],Y.nx,n.2.2.1,n.2.2.2.1,n.2.2.2.2.1,n.2.2.2.2.2.1,n.2.2.2.2.2.2.1,false,())
def oz (d:Int) (s:ByteArray) (n:bu):UpY:=if Y.MG d s n=0 then {Y with L:=Y.L++ [Y.pV n],E:=Y.E++ [(d,s,Y.nx,())],nx:=Y.nx+1} else Y
def MM (d:Int) (s:ByteArray) (r:Int):Int:=match Y.at r,Y.at d with
 | some n,some _=>if Y.qT d s=0 then (if n.2.2.1=1 then 25 else 0) else Y.qT d s
 | _,_=>1
def rC (d:Int) (s:ByteArray) (r:Int):UpY:=if Y.MM d s r=0 then {Y with E:=Y.E++ [(d,s,r,())]} else Y
end UpY
structure UpY.Wf (Y:UpY):Prop where
 nd:(Y.L.map (·.2.1)).Nodup
 lo:∀ n∈Y.L,1<=n.2.1/\n.2.1< Y.nx
 root:Y.lu 1=0
 nm:∀ n∈Y.L,n.1= []/\((n.2.2.1=1\/n.2.2.2.2.2.2.2.1=false)/\wL n=true)
 ne:(Y.E.map λe=>(e.1,e.2.1)).Nodup
 dir:∀ e∈Y.E,Y.lu e.1=0/\dA e.2.1=0
 ref:∀ e∈Y.E,e.2.2.1≠1/\Y.atE e.2.2.1=0
 has:∀ n∈Y.L,n.2.1≠1->Y.E.any (Uq n.2.1)=true
 one:∀ e∈Y.E,Y.lu e.2.2.1=0->Y.E.countP (Uq e.2.2.1)=1
 dep:∃ d:Int->Nat,∀ e∈Y.E,Y.lu e.2.2.1=0->d e.1< d e.2.2.1
section
variable {L:List (Int×rH)} {Y:UpY}
theorem at_mem {r:Int} {y:bu} (h:Y.at r=some y):y∈Y.L/\y.2.1=r:=by
 unfold UpY.at at h;refine ⟨pC h,?_⟩;have:=List.find?_some h;simpa [rM] using this
theorem aez {r:Int}:Y.at r=none↔∀ n∈Y.L,n.2.1≠r:=by
 unfold UpY.at
 rw [ju];simp [rM]
theorem SY {d:Int} {s:ByteArray} {e:TX} (h:Y.kC d s=some e):e∈Y.E/\e.1=d/\e.2.1=s:=by
 unfold UpY.kC at h;refine ⟨pC h,?_⟩;have:=List.find?_some h;simpa [isE] using this
theorem xc {d:Int} {s:ByteArray}:Y.kC d s=none↔∀ e∈Y.E,¬(e.1=d/\e.2.1=s):=by
 unfold UpY.kC;rw [ju];simp [isE]
theorem iE {r:Int}:Y.lu r=0↔∃ y,Y.at r=some y/\y.2.2.1=1:=by
 unfold UpY.lu;cases Y.at r with
 | none=>simp
 | some y=>
  simp only [j8,exists_eq_left'];split<;>simp_all
end
end Go.Lm

namespace Go.Lm
open Go Go.RowKit
def Zr (r:Int):Int:=dc .xor .u32 (kD .u32 r 1) (IntKind.wrap .u32 (dc .and .u32 r 1*3988292384))
def xf:Nat->Int->Int
 | 0,r=>r
 | n+1,r=>Zr (xf n r)
def GV (i:Nat):Int:=xf 8 (IntKind.wrap .u32 i)
def dD:List Int:=(bN 256).map GV
def qX (N n:Nat):List Int:=(bN N).map λj=>if j< n then GV j else 0
theorem Nt (N:Nat):av N (0:Int)=qX N 0:=by
 unfold qX;refine List.ext_getElem (by simp) λj h1 h2=>by simp
theorem Nu {N n:Nat} (_:n< N):(qX N n).set n (GV n)=qX N (n+1):=by
 unfold qX;refine List.ext_getElem (by simp) λj h1 h2=>?_;rw [List.getElem_set];simp only [List.getElem_map,List.getElem_range];split
 .rename_i e;subst e;rw [if_pos (by omega)]
 .rename_i e;by_cases hj:j< n
  .rw [if_pos hj,if_pos (by omega)]
  .rw [if_neg hj,if_neg (by omega)]
theorem Nv (N:Nat):qX N N=(bN N).map GV:=by
 unfold qX;refine gD λj h=>?_;rw [if_pos (dd.1 h)]
def xe (n:Nat):List Int:=qX 256 n
theorem P5:av 256 (0:Int)=xe 0:=Nt 256
theorem GU (n:Nat):(xe n).length=256:=by unfold xe qX;rw [bH,List.length_range]
theorem P6 {n:Nat} (h:n< 256):(xe n).set n (GV n)=xe (n+1):=Nu h
theorem P7:xe 256=dD:=Nv 256
def adY (T:List Int) (r:Int) (c:UInt8):Int:=dc .xor .u32 (kD .u32 r 8) (T.getD (dc .xor .u8 (IntKind.wrap .u8 r) (c.toNat:Int)).toNat 0)
def S8 (T:List Int) (r:Int) (b:List UInt8):Int:=b.foldl (adY T) r
def Jy (r:Int):Int:=dc .xor .u32 (kc .u32) r
def cu (T:List Int) (s:Int) (b:List UInt8):Int:=Jy (S8 T (Jy s) b)
def nB (c e:Int):Int:=if c=0 then e else c
def bL:List UInt8->Int
 | []=>0
 | c::r=>(c.toNat:Int)+256*bL r
def aI:Nat->Nat->List UInt8
 | 0,_=>[]
 | n+1,x=>az (x % 256)::aI n (x / 256)
theorem CL:∀ l:List UInt8,0<=bL l
 | []=>bz _
 | c::r=>by
  have:=CL r;show 0<=(c.toNat:Int)+256*bL r;omega
theorem YC:∀ l:List UInt8,bL l< 256 ^ l.length
 | []=>by show (0:Int)< 256 ^ 0;omega
 | c::r=>by
  have h1:=YC r;have h2:c.toNat< 256:=UInt8.toNat_lt c;show (c.toNat:Int)+256*bL r< 256 ^ (r.length+1);rw [Int.pow_succ];omega
theorem Ss:∀ (l:List UInt8) (c:UInt8),bL (l++ [c])=bL l+(c.toNat:Int)*256 ^ l.length
 | [],c=>by show (c.toNat:Int)+256*0=0+(c.toNat:Int)*256 ^ 0;omega
 | d::r,c=>by
  show (d.toNat:Int)+256*bL (r++ [c])=(d.toNat:Int)+256*bL r+(c.toNat:Int)*256 ^ (r.length+1);rw [Ss r c,Int.pow_succ,Int.mul_add,Int.add_assoc];congr 2;rw [Int.mul_comm (256 ^ r.length) 256,<-Int.mul_assoc,<-Int.mul_assoc,Int.mul_comm 256 (c.toNat:Int)]
theorem wrap64 {z:Int} (h0:0<=z) (h1:z< 9223372036854775808):IntKind.wrap .i64 z=z:=wrap64_in (by omega) (by omega)
theorem Yi {x:Int} {i:Int} {c:UInt8} (hi:0<=i) (Vn:i<=3) (h0:0<=x) (hx:x< 256 ^ i.toNat):dc .or .i64 x (Aj .i64 (c.toNat:Int) (8*i))=x+(c.toNat:Int)*256 ^ i.toNat:=by
 have hc:c.toNat< 256:=UInt8.toNat_lt c;obtain ⟨x,rfl⟩:=mr h0;obtain ⟨j,rfl⟩:=mr hi;have hj:j<=3:=by omega
 simp only [aU] at hx ⊢;have Gz:x< 256 ^ j:=Int.ofNat_lt.1 (by rw [Int.natCast_pow];exact hx);have key:∀ k:Nat,k=8*j->2 ^ k=256 ^ j:=λk hk=>by rw [hk,Nat.pow_mul]
 have hp:(256:Nat) ^ j<=16777216:=Nat.le_trans (Nat.pow_le_pow_right (by omega) hj) (by decide);have hcp:c.toNat*256 ^ j<=255*16777216:=Nat.mul_le_mul (by omega) hp;have hs:Aj .i64 (c.toNat:Int) (8*(j:Int))=((c.toNat*256 ^ j:Nat):Int):=by
  unfold Aj;have e1:min (8*(j:Int)).toNat IntKind.i64.bits=8*j:=by
   show min (8*(j:Int)).toNat 64=8*j;omega
  rw [e1];have e2:(c.toNat:Int)*2 ^ (8*j)=((c.toNat*256 ^ j:Nat):Int):=by
   rw [<-key (8*j) rfl,Int.natCast_mul,Int.natCast_pow];rfl
  rw [e2];exact wrap64 (by omega) (by omega)
 rw [hs];unfold dc;simp only;have e3:(BitVec.ofInt IntKind.i64.bits (x:Int)||| BitVec.ofInt IntKind.i64.bits ((c.toNat*256 ^ j:Nat):Int)).toNat=x||| (c.toNat*256 ^ j):=by
  rw [BitVec.toNat_or];have b1:(BitVec.ofInt IntKind.i64.bits (x:Int)).toNat=x:=by
   rw [BitVec.ofInt_natCast,BitVec.toNat_ofNat];exact lS (by show x< 2 ^ 64;omega)
  have b2:(BitVec.ofInt IntKind.i64.bits ((c.toNat*256 ^ j:Nat):Int)).toNat=c.toNat*256 ^ j:=by
   rw [BitVec.ofInt_natCast,BitVec.toNat_ofNat];exact lS (by show c.toNat*256 ^ j< 2 ^ 64;omega)
  rw [b1,b2]
 have e4:x||| (c.toNat*256 ^ j)=x+c.toNat*256 ^ j:=by
  have h9:=Nat.shiftLeft_add_eq_or_of_lt (b:=x) (i:=8*j) (by rw [key _ rfl];exact Gz) c.toNat
  rw [Nat.shiftLeft_eq,key _ rfl] at h9;rw [Nat.or_comm,<-h9,Nat.add_comm]
 show IntKind.wrap .i64 ((BitVec.ofInt IntKind.i64.bits (x:Int)||| BitVec.ofInt IntKind.i64.bits ((c.toNat*256 ^ j:Nat):Int)).toNat:Int)=_;rw [e3,e4,wrap64 (by omega) (by omega)];rw [Int.natCast_add,Int.natCast_mul,Int.natCast_pow];rfl
theorem aB:∀ n x:Nat,(aI n x).length=n
 | 0,_=>rfl
 | n+1,x=>by show (aI n (x / 256)).length+1=n+1;rw [aB n]
theorem Gu:∀ n x:Nat,aI (n+1) x=aI n x++ [az (x / 256 ^ n % 256)]
 | 0,x=>by show [az (x % 256)]= [az (x / 256 ^ 0 % 256)];rw [Nat.pow_zero,Nat.div_one]
 | n+1,x=>by
  show az (x % 256)::aI (n+1) (x / 256)=az (x % 256)::(aI n (x / 256)++_);rw [Gu n (x / 256),Nat.div_div_eq_div_mul,Nat.pow_succ,Nat.mul_comm 256]
theorem CM:∀ n x:Nat,x< 256 ^ n->bL (aI n x)=x
 | 0,x,h=>by
  have:x=0:=by simpa using h
  subst this;rfl
 | n+1,x,h=>by
  show ((az (x % 256)).toNat:Int)+256*bL (aI n (x / 256))=x;rw [CM n (x / 256) (by rw [Nat.pow_succ] at h;omega),UInt8.toNat_ofNat',lS (by omega)];omega
theorem fdiv_pow (m j:Nat):Int.fdiv (m:Int) (2 ^ (8*j))=((m / 256 ^ j:Nat):Int):=by
 have e:(2:Int) ^ (8*j)=((256 ^ j:Nat):Int):=by
  rw [show (256:Nat) ^ j=2 ^ (8*j) by rw [Nat.pow_mul],Int.natCast_pow];rfl
 rw [e,Int.fdiv_eq_ediv_of_nonneg _ (jv _),Int.natCast_ediv]
theorem aew {m:Int} {i:Int} (hm:0<=m) (hi:0<=i) (Vn:i<=3):az (IntKind.wrap .u8 (kD .i64 m (8*i))).toNat=az (m.toNat / 256 ^ i.toNat % 256):=by
 obtain ⟨m,rfl⟩:=mr hm;obtain ⟨j,rfl⟩:=mr hi;have e1:kD .i64 (m:Int) (8*(j:Int))=((m / 256 ^ j:Nat):Int):=by
  unfold kD;have e0:min (8*(j:Int)).toNat IntKind.i64.bits=8*j:=by
   show min (8*(j:Int)).toNat 64=8*j;omega
  rw [e0];exact fdiv_pow m j
 rw [e1];have e2:IntKind.wrap .u8 ((m / 256 ^ j:Nat):Int)=((m / 256 ^ j % 256:Nat):Int):=by
  rw [Int.natCast_emod];rfl
 rw [e2,aU,aU,aU]
theorem XG {m n:Int} (hm:0<=m) (hn:1<=n) (hn4:n<=4) (h:m< 256 ^ n.toNat):kD .i64 m (8*n)=0:=by
 obtain ⟨m,rfl⟩:=mr hm;obtain ⟨j,rfl⟩:=mr (show 0<=n by omega);unfold kD;have e0:min (8*(j:Int)).toNat IntKind.i64.bits=8*j:=by
  show min (8*(j:Int)).toNat 64=8*j;omega
 rw [e0,fdiv_pow m j];simp only [aU] at h;have h':m< 256 ^ j:=Int.ofNat_lt.1 (by rw [Int.natCast_pow];exact h);rw [Nat.div_eq_of_lt h'];rfl
def iZ (b:List UInt8) (n:Int):List UInt8:=if n>(b.length:Int) then [] else b.take n.toNat
def F7 (b:List UInt8) (n:Int):Int:=if n>(b.length:Int) then 2 else 0
def kF (b:List UInt8) (n:Int):List UInt8:=if n>(b.length:Int) then b else b.drop n.toNat
def acF (l:Nat) (d:Cl):Cl->Cl
 | .o k=>bif Nat.beq k l then d else .o k
 | c=>c
def RJ (l:Nat) (d:Cl):List Cl->List Cl
 | []=>[]
 | c::r=>acF l d c::RJ l d r
def ahr (l:Nat) (d:Cl):S1->S1
 | .c x=>.c (acF l d x)
 | .agg cs=>.agg (RJ l d cs)
def XA (l:Nat) (d:Cl):List S1->List S1
 | []=>[]
 | c::r=>ahr l d c::XA l d r
def ahq (l:Nat) (d:Cl):SV->SV
 | .v x=>.v (ahr l d x)
 | .cJ xs=>.cJ (XA l d xs)
 | .any=>.any
 | .arr k l=>.arr k l
section
variable {E:Env} {g:World} {l:Nat} {d:Cl}
theorem L8 (hd:∀ u,E[l]?=some u->cr E g d u) {c:Cl} {u:Value} (h:cr E g c u):cr E g (acF l d c) u:=by
 unfold acF;split
 .rename_i k;cases hb:Nat.beq k l with
  | true=>
   rw [ai hb] at h;exact hd u h.1
  | false=>exact h
 .exact h
theorem xQ (hd:∀ u,E[l]?=some u->cr E g d u):∀ {cs:List Cl} {us:List Value},bA E g cs us->bA E g (RJ l d cs) us
 | [],_,h=>h
 | _::_,_,⟨u,r,e,h1,h2⟩=>⟨u,r,e,L8 hd h1,xQ hd h2⟩
theorem L7 (hd:∀ u,E[l]?=some u->cr E g d u):∀ {x:S1} {u:Value},gm E g x u->gm E g (ahr l d x) u
 | .c _,_,h=>L8 hd h
 | .agg _,_,⟨us,h1,h2⟩=>⟨us,xQ hd h1,h2⟩
theorem F6 (hd:∀ u,E[l]?=some u->cr E g d u):∀ {cs:List S1} {us:List Value},gW E g cs us->gW E g (XA l d cs) us
 | [],_,h=>h
 | _::_,_,⟨u,r,e,h1,h2⟩=>⟨u,r,e,L7 hd h1,F6 hd h2⟩
theorem L5 (hd:∀ u,E[l]?=some u->cr E g d u):∀ {x:SV} {u:Value},df E g x u->df E g (ahq l d x) u
 | .v _,_,h=>L7 hd h
 | .cJ _,_,⟨us,h1,h2⟩=>⟨us,F6 hd h1,h2⟩
 | .any,_,h=>h
 | .arr _ _,_,h=>h
end
theorem L9 {E:Env} {g:World} {e:Ty} {u:Value} (h:cr E g (.k (.slice none 0 0)) u):cr E g (.d e []) u:=by
 have hu:u= .slice none 0 0:=h.1;subst hu;letI:=e.rep;exact (dv (α:=e.den)).2 (.inl ⟨rfl,rfl⟩)
section
variable {P:Program} {I:cQ->Prop} {f:FuncId} {args:List SV} {H:List HO} {Q Q':SV->List HO->Prop}
theorem Wp.res (h:Wp I P f args H λsv H'=>∃ JY,(∀ E g v,df E g sv v->df E g JY v)/\Q JY H'):Wp I P f args H Q:=λW hW g w E F vs hs hv=>
 (h W hW g w E F vs hs hv).mono λv w' ⟨E1,g1,sv,H1,e1,m1,s1,r1,JY,k,q⟩=>⟨E1,g1,JY,H1,e1,m1,s1,k _ _ _ r1,q⟩
end
section
variable {P:Program} {I:cQ->Prop} {f:FuncId} {args:List SV} {H:List HO} {Q Q':SV->List HO->Prop} {W:cQ} {E:Env} {g w:World} {F:List Atom}
theorem Wp.xi {p:Nat} {t tt:TypeId} {e:Ty} (h:Wp I P f args H λsv H'=>∃ cs1 cs2,H'[p]?=some (.cells t (cs1++ .k (.slice none 0 0)::cs2))/\Q sv ((H'.set p (.cells t (cs1++ .o H'.length::cs2)))++ [.sl tt e []])):Wp I P f args H Q:=λW hW g w E F vs hs hv=>
 (h W hW g w E F vs hs hv).mono λv w' ⟨E1,g1,sv,H1,e1,m1,s1,r1,cs1,cs2,hp,hq⟩=>by
  have Au:=(au.1 hp).1;letI:=e.rep;have H2:=SL.zD e.den tt s1.sl;have hlen:E1.length=H1.length:=s1.len;have he:bw E1 (E1++ [Value.slice none 0 0]):=bw.app _ _;have S1:Sat W (E1++ [Value.slice none 0 0]) g1 w' (H1++ [.sl tt e []]) F:=Sat.push (o:=.sl tt e []) hlen (H2.cz λ_ ⟨k1,k2,ap,q,x1,x2⟩=>⟨k1,k2,ap,q,⟨_,by rw [<-hlen];simp,x1⟩,x2⟩);refine ⟨E1++ [.slice none 0 0],g1,sv,_,e1.trans he,m1,⟨?_,by simp [hlen]⟩,r1.mono he (bx.refl _),hq⟩;have YW:(H1++ [HO.sl tt e []])[p]?=some (.cells t (cs1++ .k (.slice none 0 0)::cs2)):=by rw [aV Au];exact hp
  refine S1.sl.cz λk s=>?_;obtain ⟨k1,k2,ap,e2,⟨bb,us,hE,hrel,hblk⟩,s2⟩:=bq.rV YW s;obtain ⟨u1,u2,rfl,h1,⟨_,r,rfl,⟨rfl,_⟩,h3⟩⟩:=bA.split hrel;have hn:(E1++ [Value.slice none 0 0])[H1.length]?=some (.slice none 0 0):=by rw [<-hlen];simp
  have s3:bq g1 (cF (E1++ [Value.slice none 0 0]) p (.cells t (cs1++ .o H1.length::cs2))::(bj (E1++ [Value.slice none 0 0]) 0 ((H1++ [HO.sl tt e []]).set p .gone)++F)) k:=⟨k1,k2,ap,e2,⟨bb,_,hE,h1.app ⟨_,r,rfl,⟨hn,none,0,0,rfl⟩,h3⟩,hblk⟩,s2⟩;have s4:=bq.D6 (l:=p) (by simp;omega) s3;rw [List.set_set,List.set_append_left _ _ Au] at s4;exact s4
end
theorem MC:∀ {H:List HO} {n l:Nat} {o:HO},l< n->lJ (H.set n o) l=lJ H l
 | [],_,_,_,_=>rfl
 | _::_,0,_,_,h=>by omega
 | _::_,_+1,0,_,_=>rfl
 | _::r,n+1,l+1,o,h=>MC (H:=r) (by omega)
theorem OT (n m:Nat) (h:m<=n):(bN n).take m=bN m:=by
 rw [List.take_range,dK h]
section
variable {P:Program} {I:cQ->Prop} {f:FuncId} {args:List SV} {H:List HO} {Q Q':SV->List HO->Prop}
abbrev Ls (n:Nat) (H:List HO):List HO:=(bN n).map λl=>(lJ H l).fp (ic (bN n))
theorem XK {W:cQ} {E:Env} {g w:World} {F:List Atom} {n:Nat} (s:Sat W E g w H F) (hn:n<=H.length):Sat W ((bN n).map λl=>(E[l]?).getD undef) g w (Ls n H) F:=by
 have vR:mH (ic (bN n)) E ((bN n).map λl=>(E[l]?).getD undef):=λl l' v h1 h2=>by
  have:=oD h1;rw [ck,this];simp [h2]
 refine ⟨s.sl.cz λh0 x=>?_,by simp⟩;have x1:=bq.qm (ob:=lJ H) (ls:=bN n) List.nodup_range (λl hl=>by
  have wX:l< H.length:=by have:=dd.1 hl;omega
  rw [ak wX,mz (ak wX)]) x
 have x2:=bq.XI x1;exact bq.xM vR (k:=0) (λi l hi=>by rw [bW];exact qb List.nodup_range hi) x2
theorem Wp.akN (h:Wp I P f args H λsv H'=>Q sv H'\/(∃ JY,(∀ E g v,df E g sv v->df E g JY v)/\Q JY H')\/∃ (n:Nat) (t:TypeId) (e:Ty) (xs:List e.den) (JY:SV),H.length<=n/\H'[n]?=some (.sl t e xs)/\(∀ E g v,(∀ u,E[n]?=some u->cr [] g (.d e xs) u)->df E g sv v->df [] g JY v)/\Q JY (Ls n H')):Wp I P f args H Q:=λW hW g w E F vs hs hv=>
 (h W hW g w E F vs hs hv).mono λv w' ⟨E1,g1,sv,H1,e1,m1,s1,r1,q⟩=>by
  rcases q with q| ⟨JY,k,q⟩| ⟨n,t,e,xs,JY,hn,hl,k,q⟩;exact ⟨E1,g1,sv,H1,e1,m1,s1,r1,q⟩;exact ⟨E1,g1,JY,H1,e1,m1,s1,k _ _ _ r1,q⟩
  .have eK:=(au.1 hl).1;obtain ⟨u,hE⟩:∃ u,E1[n]?=some u:=⟨E1[n]'(by rw [s1.len];exact eK),ak _⟩;letI:=e.rep;have H2:SL W g1 w' (pj e t u xs::dC (bj E1 0 H1++F) n):=(s1.pick hl).cz λk ⟨h1,h2,ap,q,⟨u',x1,x2⟩,x3⟩=>⟨h1,h2,ap,q,by
    rw [hE] at x1;obtain rfl:=aj x1;exact x2,x3⟩
   obtain ⟨g2,m2,H3,hi⟩:=SL.qt (α:=e.den) H2;have S3:Sat W E1 g2 w' (H1.set n .gone) F:=Sat.back .gone s1.len hl (H3.cz λk s2=>⟨λ_=>none,k,λ_=>.inl rfl,rfl,trivial,s2⟩);have S4:=XK (n:=n) S3 (by rw [gE];omega);have e4:Ls n (H1.set n .gone)=Ls n H1:=gD λl hl=>by rw [MC (dd.1 hl)]
   rw [e4] at S4;refine ⟨_,g2,JY,_,λk u hk=>?_,m1.trans m2,S4,(k E1 g2 _ (λu' hu=>by
    rw [hE] at hu;obtain rfl:=aj hu;exact hi) (r1.mono (bw.refl _) m2)).mono (λ_ _ h=>by simp at h) (bx.refl _),q⟩
   have hk0:k< H.length:=by
    have:=(au.1 hk).1;rw [hs.len] at this;exact this
   rw [ck,nD (by omega)];simp [e1 k u hk]
theorem Wp.IN {e:Ty} (h:Wp I P f args H λsv H'=>Q sv H'\/(sv= .c (.k (.slice none 0 0))/\Q (.c (.d e [])) H')\/∃ (n:Nat) (t:TypeId) (xs:List e.den),sv= .c (.o n)/\H.length<=n/\H'[n]?=some (.sl t e xs)/\Q (.c (.d e xs)) (Ls n H')):Wp I P f args H Q:=
 Wp.akN (h.mono λsv H' q=>by
  rcases q with q| ⟨rfl,q⟩| ⟨n,t,xs,rfl,h1,h2,q⟩;exact .inl q;exact .inr (.inl ⟨.c (.d e []),λE g v h=>(L9 h:cr E g (.d e []) v),q⟩)
  .exact .inr (.inr ⟨n,t,e,xs,.c (.d e xs),h1,h2,λE g v hu hr=>hu v (show cr E g (.o n) v from hr).1,q⟩))
theorem F5 {E E':Env} {g:World} {a b a' b':S1} (h1:∀ u,gm E g a u->gm E' g a' u) (h2:∀ u,gm E g b u->gm E' g b' u):∀ v,df E g (.cJ [a,b]) v->df E' g (.cJ [a',b']) v:=by
 rintro v ⟨us,⟨u,q,rfl,x1,⟨u2,q2,rfl,x2,x3⟩⟩,rfl⟩;exact ⟨_,⟨u,_,rfl,h1 u x1,u2,q2,rfl,h2 u2 x2,x3⟩,rfl⟩
theorem Wp.aeY {e:Ty} (h:Wp I P f args H λsv H'=>Q sv H'\/(∃ x,sv= .cJ [.c (.k (.slice none 0 0)),.c (.k x)]/\Q (.cJ [.c (.d e []),.c (.k x)]) H')\/∃ (n:Nat) (t:TypeId) (xs:List e.den) (x:Value),sv= .cJ [.c (.o n),.c (.k x)]/\H.length<=n/\H'[n]?=some (.sl t e xs)/\Q (.cJ [.c (.d e xs),.c (.k x)]) (Ls n H')):Wp I P f args H Q:=
 Wp.akN (h.mono λsv H' q=>by
  rcases q with q| ⟨x,rfl,q⟩| ⟨n,t,xs,x,rfl,h1,h2,q⟩;exact .inl q;exact .inr (.inl ⟨.cJ [.c (.d e []),.c (.k x)],λE g=>F5 (λu h=>(L9 h:cr E g (.d e []) u)) λ_ h=>h,q⟩)
  .exact .inr (.inr ⟨n,t,e,xs,.cJ [.c (.d e xs),.c (.k x)],h1,h2,λE g v hu=>F5 (E:=E) (E':=[]) (g:=g) (a:=.c (.o n)) (a':=.c (.d e xs)) (b:=.c (.k x)) (b':=.c (.k x)) (λu hr=>hu u (show cr E g (.o n) u from hr).1) (λ_ h=>h) v,q⟩))
theorem Wp.aag {p:Nat} {t tt:TypeId} {e:Ty} {cs1 cs2:List Cl} (hp:H[p]?=some (.cells t (cs1++ .k (.slice none 0 0)::cs2))) (h:Wp I P f args ((H.set p (.cells t (cs1++ .o H.length::cs2)))++ [.sl tt e []]) Q):Wp I P f args H Q:=Wp.beg λW E1 g1 w' F s1=>by
 have Au:=(au.1 hp).1;letI:=e.rep;have H2:=SL.zD e.den tt s1.sl;have hlen:E1.length=H.length:=s1.len;have he:bw E1 (E1++ [Value.slice none 0 0]):=bw.app _ _;have S1:Sat W (E1++ [Value.slice none 0 0]) g1 w' (H++ [.sl tt e []]) F:=Sat.push (o:=.sl tt e []) hlen (H2.cz λ_ ⟨k1,k2,ap,q,x1,x2⟩=>⟨k1,k2,ap,q,⟨_,by rw [<-hlen];simp,x1⟩,x2⟩);refine ⟨E1++ [.slice none 0 0],_,he,⟨?_,by simp [hlen]⟩,h⟩;have YW:(H++ [HO.sl tt e []])[p]?=some (.cells t (cs1++ .k (.slice none 0 0)::cs2)):=by rw [aV Au];exact hp
 refine S1.sl.cz λk s=>?_;obtain ⟨k1,k2,ap,e2,⟨bb,us,hE,hrel,hblk⟩,s2⟩:=bq.rV YW s;obtain ⟨u1,u2,rfl,h1,⟨_,r,rfl,⟨rfl,_⟩,h3⟩⟩:=bA.split hrel;have hn:(E1++ [Value.slice none 0 0])[H.length]?=some (.slice none 0 0):=by rw [<-hlen];simp
 have s3:bq g1 (cF (E1++ [Value.slice none 0 0]) p (.cells t (cs1++ .o H.length::cs2))::(bj (E1++ [Value.slice none 0 0]) 0 ((H++ [HO.sl tt e []]).set p .gone)++F)) k:=⟨k1,k2,ap,e2,⟨bb,_,hE,h1.app ⟨_,r,rfl,⟨hn,none,0,0,rfl⟩,h3⟩,hblk⟩,s2⟩;have s4:=bq.D6 (l:=p) (by simp;omega) s3;rw [List.set_set,List.set_append_left _ _ Au] at s4;exact s4
end
end Go.Lm

namespace Go.Proofs
open Go Go.Lm Go.RowKit
set_option maxRecDepth 1000000
abbrev Inv (_:cQ):Prop:=True
def fj:List (Nat×Ty):=[(38,noTy),(96,eD),(9,.str),(5,.u8),(44,amY),(3,.int .i64),(35,.sl .u8),(107,.int .u32)]
abbrev cG (f:FuncId) (c:Ct):Prop:=∀ args H Q,c args H Q->Wp Inv cd f args H Q
abbrev aeE (l:List SV->List SV):Prop:=∀ (E:Env) (g:World) (a b:List SV),(∀ us,bC E g a us->bC E g b us)->∀ us,bC E g (l a) us->bC E g (l b) us
theorem aeE.cons {l:List SV->List SV} (h:aeE l) (x:SV):aeE (λr=>l (x::r)):=λE g _ _ q=>h E g _ _ (bC.cE (λ_ h=>h) q)
def N7 (f:FuncId) (l:List SV->List SV) (c:Ct):Prop:=aeE l->∀ args H Q,c args H Q->Wp Inv cd f (l args) H Q
theorem fz {f:FuncId} {c:Ct} (h:N7 f (λr=>r) c):cG f c:=h λ_ _ _ _ q=>q
def cI (k:Int->Ct):Ct
 | .v (.c (.k (.int .i64 x)))::r,H,Q=>k x r H Q
 | _,_,_=>False
theorem nG {f:FuncId} {l:List SV->List SV} {k:Int->Ct} (h:∀ x:Int,N7 f (λr=>l (.v (.c (.k (.int .i64 x)))::r)) (k x)):N7 f l (cI k):=λhl args H Q q=>by
 unfold cI at q;split at q;exact h _ (hl.cons _) _ _ _ q;exact q.elim
def cB (k:Int->Ct):Ct
 | .v (.c (.k (.int .u8 x)))::r,H,Q=>k x r H Q
 | _,_,_=>False
theorem okB {f:FuncId} {l:List SV->List SV} {k:Int->Ct} (h:∀ x:Int,N7 f (λr=>l (.v (.c (.k (.int .u8 x)))::r)) (k x)):N7 f l (cB k):=λhl args H Q q=>by
 unfold cB at q;split at q;exact h _ (hl.cons _) _ _ _ q;exact q.elim
def cS (k:ByteArray->Ct):Ct
 | .v (.c (.k (.string x)))::r,H,Q=>k x r H Q
 | _,_,_=>False
theorem okS {f:FuncId} {l:List SV->List SV} {k:ByteArray->Ct} (h:∀ x:ByteArray,N7 f (λr=>l (.v (.c (.k (.string x)))::r)) (k x)):N7 f l (cS k):=λhl args H Q q=>by
 unfold cS at q;split at q;exact h _ (hl.cons _) _ _ _ q;exact q.elim
def cT (k:List Int->Ct):Ct
 | .v (.c (.de (.int .u32) x 0 0))::r,H,Q=>k x r H Q
 | _,_,_=>False
theorem okT {f:FuncId} {l:List SV->List SV} {k:List Int->Ct} (h:∀ x:List Int,N7 f (λr=>l (.v (.c (.de (.int .u32) x 0 0))::r)) (k x)):N7 f l (cT k):=λhl args H Q q=>by
 unfold cT at q;split at q;exact h _ (hl.cons _) _ _ _ q;exact q.elim
def cP (k:Ct):Ct
 | .v (.c (.p 0 0))::r,H,Q=>k r H Q
 | _,_,_=>False
theorem rJ {f:FuncId} {l:List SV->List SV} {k:Ct} (h:N7 f (λr=>l (.v (.c (.p 0 0))::r)) k):N7 f l (cP k):=λhl args H Q q=>by
 unfold cP at q;split at q;exact h (hl.cons _) _ _ _ q;exact q.elim
def cD (e:Ty) (k:List e.den->Ct):Ct
 | .v (.c c)::r,H,Q=>match (Ty.sl e).of [c] with
  | some (x,[])=>k x r H Q
  | _=>False
 | _,_,_=>False
theorem lH {f:FuncId} {l:List SV->List SV} {e:Ty} {k:List e.den->Ct} (h:∀ x,N7 f (λr=>l (.c (.d e x)::r)) (k x)):N7 f l (cD e k):=λhl args H Q q=>by
 unfold cD at q;split at q;rotate_left;exact q.elim;split at q;rotate_left;exact q.elim;rename_i hx;exact Wp.said (λE g=>hl E g _ _ (bC.cE (dI hx) (λ_ h=>h))) (h _ (hl.cons _) _ _ _ q)
def cN (e:Ty) (k:e.den->Ct):Ct
 | .v (.agg c)::r,H,Q=>match e.of c with
  | some (x,[])=>k x r H Q
  | _=>False
 | _,_,_=>False
theorem V8 {f:FuncId} {l:List SV->List SV} {e:Ty} {k:e.den->Ct} (h:∀ x,N7 f (λr=>l (.v (.agg (Ty.cells e x))::r)) (k x)):N7 f l (cN e k):=λhl args H Q q=>by
 unfold cN at q;split at q;rotate_left;exact q.elim;split at q;rotate_left;exact q.elim;rename_i hx;exact Wp.said (λE g=>hl E g _ _ (bC.cE (IP hx) (λ_ h=>h))) (h _ (hl.cons _) _ _ _ q)
def c0 (k:(SV->List HO->Prop)->Prop):Ct
 | [],[],Q=>k Q
 | _,_,_=>False
theorem iQ {f:FuncId} {l:List SV->List SV} {k:(SV->List HO->Prop)->Prop} (h:∀ Q,k Q->Wp Inv cd f (l []) [] Q):N7 f l (c0 k):=λhl args H Q q=>by
 unfold c0 at q;split at q;exact h _ q;exact q.elim
def cO (k:List HO->(SV->List HO->Prop)->Prop):Ct
 | [],H,Q=>k H Q
 | _,_,_=>False
theorem rK {f:FuncId} {l:List SV->List SV} {k:List HO->(SV->List HO->Prop)->Prop} (h:∀ H Q,k H Q->Wp Inv cd f (l []) H Q):N7 f l (cO k):=λhl args H Q q=>by
 unfold cO at q;split at q;exact h _ _ q;exact q.elim
def Z4:Ct:=c0 λQ=>Q (.arr .u32 dD) []
abbrev dE:=(SV->List HO->Prop)->Prop
structure XP where
 ct:List (Nat×Ct)
 ok:ir Inv cd ct
def XP.nil:XP:=⟨[],ir.nil _ _⟩
def XP.add (x:XP) {f:FuncId} {c:Ct} (w:cG f c):XP:=⟨(f,c)::x.ct,ir.cons w x.ok⟩
abbrev XP.v (x:XP) (ty:List (Nat×Ty)) (hold:List Nat:=[]) (ro:List Nat:=[]) (unr:List (Nat×Nat):=[]) (clo:Bool:=false) (cloH:Bool:=false) (pmT:List (Nat×Nat×Ty):=[]) (chk:List (Nat×Ty):=[]) (sfh:Bool:=false) (mkd:Bool:=false):Vx:= {P:=cd,ct:=x.ct,ty:=ty,hold:=hold,ro:=ro,unr:=unr,clo:=clo,cloH:=cloH,pmT:=pmT,chk:=chk,sfh:=sfh,mkd:=mkd}
theorem Wp.dJ (x:XP) (ty:List (Nat×Ty)) {f:FuncId} (an:Eo) (fn:Func) {args:List SV} {H:List HO} {Q:SV->List HO->Prop} (V:dE) (h:V Q) (hold:List Nat:=[]) (ro:List Nat:=[]) (unr:List (Nat×Nat):=[]) (clo:Bool:=false) (cloH:Bool:=false) (pmT:List (Nat×Nat×Ty):=[]) (sfh:Bool:=false) (mkd:Bool:=false) (hf:Tryz.prog.funcs[f]?=some fn:=by kernel_rfl) (e:∀ Q,acz (x.v ty hold ro unr clo cloH pmT [] sfh mkd) an fn args H Q=V Q:=by intro _;kernel_rfl):Wp Inv cd f args H Q:=Wp.P1 (X:=x.v ty hold ro unr clo cloH pmT [] sfh mkd) x.ok an hf e h
def iH:=XP.nil
abbrev aZ (y0:Int):=ax y0
abbrev dO (y0:List Int) (R:Prop):=List.length y0=bK/\R
abbrev cL (y0:Int) (R:Prop):=aF .i64 (y0+1)/\R
abbrev Ir (y0):=IntKind.wrap .u32 (dc BinOp.and .u32 y0 bd*3988292384)
abbrev bt (R:Prop):=ah=ah/\R
abbrev om:=(↑bK:Int)
def Ft:dE:=
 λQ=>bp (λi ag=>br (decide (i.1.1< 256)) (aF .u32 (IntKind.wrap .u32 i.1.1)->bp (λdu ag_1=>br (decide (du.1.2.1< 8)) (ah<=bd/\(aF .u32 (kD .u32 du.1.1 bd)->aF .u32 (dc BinOp.and .u32 du.1.1 
 bd)->aF .u32 (Ir du.1.1)->aF .u32 (dc BinOp.xor .u32 (kD .u32 du.1.1 bd) (Ir du.1.1))->cL du.1.2.1 (ag_1 ((dc BinOp.xor .u32 (kD .u32 du.1.1 bd) (Ir du.1.1),du.1.2.1+1,()),())))) (bt (0 
 <=i.1.1/\i.1.1< om/\i.1.1< (a7 i.2.1)/\0<=i.1.1/\i.1.1< (a7 i.2.1)/\cL i.1.1 (ag ((i.1.1+1,()),List.set i.2.1 (aZ i.1.1) du.1.1,()))))) ((IntKind.wrap .u32 i.1.1,ah,()),())) (bt (dO i.2.1 (bt 
 (bK=bK/\dO i.2.1 (bt (dO i.2.1 (Q (SV.arr .u32 i.2.1) [])))))))) ((ah,()),av bK (0:Ty.den (.int .u32)),())
theorem Bb:cG 46 Z4:=fz<| iQ λQ h=>by
 refine Wp.dJ iH fj ⟨[(4,⟨[(4,.int .i64)],[(1,.sl 109 (.int .u32))]⟩),(8,⟨[(3,.int .u32),(9,.int .i64)],[]⟩)],[]⟩ Tryz.f46 Ft ?_;unfold Ft om bt Ir cL dO aZ ah bd a7 bK;refine bp.intro (λi=>0<=i.1.1/\i.1.1<=256/\i.2.1=xe i.1.1.toNat) (λi=>256 - i.1.1.toNat) ⟨by simp,by simp,P5⟩ ?_;rintro ⟨⟨i,_⟩,L,_⟩ ⟨h0,h1,h2⟩;simp only at h0 h1 h2 ⊢;subst h2;refine aw (λhc=>λ_=>?_) (λhc=>?_)
 .have hc:i< 256:=of_decide_eq_true hc;refine bp.intro (λj=>0<=j.1.2.1/\j.1.2.1<=8/\j.1.1=xf j.1.2.1.toNat (IntKind.wrap .u32 i)) (λj=>8 - j.1.2.1.toNat) ⟨by simp,by simp,rfl⟩ ?_;rintro ⟨⟨r,k,_⟩,_⟩ ⟨g0,g1,g2⟩;simp only at g0 g1 g2 ⊢;subst g2;refine aw (λhd=>⟨by omega,λ_ _ _ _=>⟨by unfold aF;have hd:k< 8:=of_decide_eq_true hd;omega,⟨by omega,by have hd:k< 8:=of_decide_eq_true hd;omega,?_⟩,by have hd:k< 8:=of_decide_eq_true hd;show 8 - (k+1).toNat< 8 - k.toNat;omega⟩⟩) (λhd=>?_)
  .show Zr (xf k.toNat _)=xf (k+1).toNat _;rw [show (k+1).toNat=k.toNat+1 by omega];rfl
  .have hd:¬k< 8:=of_decide_eq_false hd;have hl:(xe i.toNat).length=256:=GU _;refine ⟨trivial,h0,hc,by rw [hl];omega,h0,by rw [hl];omega,by unfold aF;omega,⟨by omega,by omega,?_⟩,by show 256 - (i+1).toNat< 256 - i.toNat;omega⟩;rw [show (i+1).toNat=i.toNat+1 by omega,show k.toNat=8 by omega];refine Eq.trans ?_ (P6 (by omega));unfold GV;rw [Int.toNat_of_nonneg h0]
 .have hc:¬i< 256:=of_decide_eq_false hc;have e:i.toNat=256:=by omega
  rw [e];have hl:(xe 256).length=256:=GU _;refine ⟨trivial,hl,trivial,trivial,hl,trivial,hl,?_⟩;rw [P7];exact h
def Hj:Ct
 | [.v (.c (.de (.int .u32) T 0 0)),.v (.c (.k (.int .u32 s))),.v (.c cb)],[],Q=>(match (Ty.sl Ty.u8).of [cb] with
  | some (b,[])=>T.length=256/\Q (.k (.int .u32 (cu T s b))) []
  | _=>False)
 | _,_,_=>False
def amg:=iH.add Bb
abbrev Cu (y0) (y1:List (Ty.u8).den) (y2):=dc BinOp.xor .u8 (IntKind.wrap .u8 y0) (↑(cW (aK Ty.u8 y1 y2)):Int)
abbrev Cs:=if eH .u32=true then (-1:Int) else kc .u32
abbrev dm (y0:List (Ty.u8).den):=List.length y0
abbrev yd (y0:List (Ty.u8).den) (y1):=(↑(cW (aK Ty.u8 y0 y1)):Int)
abbrev qy (y0:Int):=IntKind.wrap .u8 y0
def Bw (T:List Int) (s:Int) (b:(List (Ty.u8).den)):dE:=λQ=>aF .u32 s->aL (dm b)->aF .u32 (dc BinOp.xor .u32 Cs s)->aL (dm b)->bp (λi ag=>br (decide (i.1.1< (aE b))) (0<=i.1.1/\i.1.1< (aE b)/\(Ty.ok Ty.u8 (aK Ty.u8 b i.1.1)->ah<=iA/\ 
 (aF .u32 (kD .u32 i.1.2.1 iA)->aF .u8 (qy i.1.2.1)->aF .u8 (Cu i.1.2.1 b i.1.1)->bt (0<=dc BinOp.xor .u8 (qy i.1.2.1) (yd b i.1.1)/\dc BinOp.xor .u8 (qy i.1.2.1) (yd b i.1.1)< om/\dc 
 BinOp.xor .u8 (qy i.1.2.1) (yd b i.1.1)< (aE T)/\(Ty.ok (.int .u32) (aK (.int .u32) T (Cu i.1.2.1 b i.1.1))->aF .u32 (dc BinOp.xor .u32 (kD .u32 i.1.2.1 iA) (aK (.int .u32) T (Cu i.1.2.1 b i.1.1)))->cL 
 i.1.1 (ag ((i.1.1+1,dc BinOp.xor .u32 (kD .u32 i.1.2.1 iA) (aK (.int .u32) T (Cu i.1.2.1 b i.1.1)),()),()))))))) (aF .u32 (dc BinOp.xor .u32 Cs i.1.2.1)->Q (.v (.c (.k (.int .u32 (dc BinOp.xor .u32 Cs 
 i.1.2.1))))) [])) ((ah,dc BinOp.xor .u32 Cs s,()),())
theorem Uj:cG 145 Hj:=by
 intro args H Q h;unfold Hj at h;split at h;rotate_left;cases h;rename_i T s cb;split at h;rotate_left;cases h;rename_i b hb;refine Wp.said (args':=[.v (.c (.de (.int .u32) T 0 0)),.k (.int .u32 s),.c (.d Ty.u8 b)]) (λE g=>bC.cE (λ_ h=>h) (bC.cE (λ_ h=>h) (bC.cE (dI hb) (λ_ h=>h)))) ?_;clear hb;refine Wp.dJ amg fj ⟨[(4,⟨[(14,.int .i64),(7,.int .u32)],[]⟩)],[]⟩ Tryz.f145 (Bw T s b) ?_;unfold Bw om qy yd bt dm Cs Cu cL ah iA aE aL bK;obtain ⟨hT,h⟩:=h;intro _ _ _ _;refine bp.intro (λi=>0<=i.1.1/\i.1.1<=b.length/\i.1.2.1=S8 T (Jy s) (b.take i.1.1.toNat)) (λi=>b.length - i.1.1.toNat) ⟨by simp,by simp,by simp [S8];rfl⟩ ?_;rintro ⟨⟨i,r,_⟩,_⟩ ⟨h0,h1,h2⟩;simp only at h0 h1 h2 ⊢;subst h2;refine aw (λhc=>?_) (λhc=>?_)
 .have hc:i< (b.length:Int):=of_decide_eq_true hc;refine ⟨h0,hc,λ_=>⟨by omega,λ_ _ hx=>?_⟩⟩;obtain ⟨hx0,hx1⟩:=hx;refine ⟨trivial,hx0,by omega,by omega,λ_ _=>⟨by unfold aF;omega,⟨by omega,by omega,?_⟩,by omega⟩⟩;rw [show (i+1).toNat=i.toNat+1 by omega,bU (by omega)];unfold S8;rw [List.foldl_append];have e:aK .u8 b i=b[i.toNat]'(by omega):=by
   unfold aK;rw [ba,ak (by omega)];rfl
  rw [e];rfl
 .have hc:¬i< (b.length:Int):=of_decide_eq_false hc;rw [aT (by omega)];exact λ_=>h
def Z3:Ct:=cT λT=>cD .u8 λb=>c0 λQ=>T.length=256/\Q (.k (.int .u32 (cu T 0 b))) []
def amf:=amg.add Uj
abbrev cM (y0:List (Ty.u8).den) (R:Prop):=List.length y0<=9223372036854775807->R
def Fs (T:List Int) (b:(List (Ty.u8).den)):dE:=λQ=>cM b (dO T (aF .u32 (cu T ah b)->Q (.v (.c (.k (.int .u32 (cu T ah b))))) []))
theorem WW:cG 95 Z3:=fz<| okT λT=>lH λb=>iQ λQ h=>by
 refine Wp.dJ amf fj ⟨[],[]⟩ Tryz.f95 (Fs T b) ?_;unfold Fs dO cM ah bK;intro _;exact ⟨h.1,λ_=>h.2⟩
def Tx:Ct:=cP<| cI λe=>cO λH Q=>match H with
 | [.cells 187 [.k (.int .i64 c),.d .u8 b]]=>Q .tx [.cells 187 [.k (.int .i64 (nB c e)),.d .u8 (b)]]
 | _=>False
def ajk:=amf.add WW
abbrev aC (y0:Int):Value:=.int .i64 y0
def Ld (e c:Int) (b:List UInt8):dE:=λQ=>aF .i64 e->br (c==0) (Q (SV.cJ []) [.cells 187 [.k (aC e),Cl.d Ty.u8 b]]) (Q (SV.cJ []) [.cells 187 [.k (aC c),Cl.d Ty.u8 b]])
theorem QQ:cG 138 Tx:=fz<| rJ<| nG λe=>rK λH Q h=>by
 split at h;rotate_left;cases h;rename_i c b;refine Wp.dJ ajk fj ⟨[],[]⟩ Tryz.f138 (Ld e c b) ?_;unfold Ld aC;intro _;refine aw (λhc=>?_) (λhc=>?_)
 .have hc:c=0:=eq_of_beq hc;rw [nB,if_pos hc] at h;exact h
 .have hc:¬c=0:=λe0=>by rw [e0] at hc;cases hc
  rw [nB,if_neg hc] at h;exact h
def Tw:Ct:=cP<| cI λe=>cO λH Q=>match H with
 | [.cells 174 [.k (.int .i64 c),.o 1],.sl 5 .u8 x]=>Q .tx [.cells 174 [.k (.int .i64 (nB c e)),.o 1],.sl 5 .u8 (x)]
 | _=>False
def aoD:=ajk.add QQ
abbrev Ck (y0:SV->List HO->Prop) (y1:Int) (y2:List UInt8):=y0 (SV.cJ []) [.cells 174 [.k (aC y1),.o 1],.sl 5 Ty.u8 y2]
def Lc (e c:Int) (x:List UInt8):dE:=λQ=>aF .i64 e->br (c==0) (Ck Q e x) (Ck Q c x)
theorem acq:cG 138 Tw:=fz<| rJ<| nG λe=>rK λH Q h=>by
 split at h;rotate_left;cases h;rename_i c x;refine Wp.dJ aoD fj ⟨[],[]⟩ Tryz.f138 (Lc e c x) ?_;unfold Lc Ck aC;intro _;refine aw (λhc=>?_) (λhc=>?_)
 .have hc:c=0:=eq_of_beq hc;rw [nB,if_pos hc] at h;exact h
 .have hc:¬c=0:=λe0=>by rw [e0] at hc;cases hc
  rw [nB,if_neg hc] at h;exact h
def ZX:Ct:=λargs H Q=>match H with
 | [.cells _ [_,.d _ _]]=>Tx args H Q
 | [.cells _ [_,.o _],_]=>Tw args H Q
 | _=>False
theorem aha:cG 138 ZX:=λargs H Q h=>by
 unfold ZX at h;split at h;exact QQ _ _ _ h;exact acq _ _ _ h;cases h
def ZZ:Ct:=cP<| cO λH Q=>match H with
 | [.cells 187 [.k (.int .i64 c),.d .u8 b]]=>Q (.int c) [.cells 187 [.k (.int .i64 (c)),.d .u8 (b)]]
 | _=>False
def ajj:=ajk.add aha
abbrev gQ (y0:Int):SV:=.v (.c (.k (aC y0)))
def Rt (c:Int) (b:List UInt8):dE:=λQ=>Q (gQ c) [.cells 187 [.k (aC c),Cl.d Ty.u8 b]]
theorem WU:cG 88 ZZ:=fz<| rJ<| rK λH Q h=>by
 split at h;rotate_left;cases h;rename_i c b;refine Wp.dJ ajj fj ⟨[],[]⟩ Tryz.f88 (Rt c b) ?_;unfold Rt gQ aC;exact h
def ZY:Ct:=cP<| cO λH Q=>match H with
 | [.cells 174 [.k (.int .i64 c),.o 1],.sl 5 .u8 x]=>Q (.int c) [.cells 174 [.k (.int .i64 (c)),.o 1],.sl 5 .u8 (x)]
 | _=>False
def amc:=ajj.add WU
def Rs (c:Int) (x:List UInt8):dE:=λQ=>Q (gQ c) [.cells 174 [.k (aC c),.o 1],.sl 5 Ty.u8 x]
theorem WT:cG 88 ZY:=fz<| rJ<| rK λH Q h=>by
 split at h;rotate_left;cases h;rename_i c x;refine Wp.dJ amc fj ⟨[],[]⟩ Tryz.f88 (Rs c x) ?_;unfold Rs gQ aC;exact h
def Z0:Ct:=cP<| cO λH Q=>match H with
 | [.cells 174 [.k (.int .i64 c),.k (.slice none 0 0)]]=>Q (.int c) [.cells 174 [.k (.int .i64 c),.k (.slice none 0 0)]]
 | _=>False
def aoC:=amc.add WT
abbrev eT:Value:=.slice none 0 0
def Ru (c:Int):dE:=λQ=>Q (gQ c) [.cells 174 [.k (aC c),.k eT]]
theorem ahb:cG 88 Z0:=fz<| rJ<| rK λH Q h=>by
 split at h;rotate_left;cases h;rename_i c;refine Wp.dJ aoC fj ⟨[],[]⟩ Tryz.f88 (Ru c) ?_;unfold Ru gQ eT aC;exact h
def afC:Ct:=λargs H Q=>match H with
 | [.cells _ [_,.d _ _]]=>ZZ args H Q
 | [.cells _ [_,.o _],_]=>ZY args H Q
 | [.cells _ [_,.k _]]=>Z0 args H Q
 | _=>False
theorem aku:cG 88 afC:=λargs H Q h=>by
 unfold afC at h;split at h;exact WU _ _ _ h;exact WT _ _ _ h;exact ahb _ _ _ h;cases h
def Ql:Ct
 | [.v (.c (.o 0))],[.sl 5 .u8 x],Q=>x.length<=140737488355328/\Q (.c (.d .u8 x)) [.sl 5 .u8 x]
 | _,_,_=>False
def aji:=ajj.add aku
abbrev dL:Cl:=.k (.slice none 0 0)
abbrev cw:=(140737488355328:Nat)
abbrev Ix (y0:List UInt8) (y1:SV->List HO->Prop):=(0+List.length y0)*1<=cw/\0+List.length y0<=9223372036854775807/\y1 (SV.v (S1.c (.o 1))) [.sl 5 Ty.u8 y0,.sl 5 Ty.u8 ([]++y0)]
abbrev lE (y0:Bool):=if true=true then y0 else !y0
abbrev gy:SV:=.v (.c dL)
def Rx (x:List UInt8):dE:=λQ=>∀ (c:Bool),(c=true->x= [])->br (lE c) (Q gy [.sl 5 Ty.u8 x]) (Ix x Q)
theorem W6:cG 38 Ql:=by
 intro args H Q h;unfold Ql at h;split at h;rotate_left;cases h;rename_i x;refine Wp.IN (e:=.u8) ?_;refine Wp.dJ aji fj ⟨[],[]⟩ Tryz.f38 (Rx x) ?_;unfold Rx gy lE Ix cw dL;obtain ⟨hl,h⟩:=h;refine λc hc=>aw (λhb=>.inr (.inl ⟨rfl,?_⟩)) (λhb=>⟨by omega,by omega,.inr (.inr ⟨1,5,x,rfl,ay 1,rfl,h⟩)⟩);rw [hc hb] at h ⊢;exact h
def Z9:Ct:=cD .u8 λx=>c0 λQ=>x.length<=140737488355328/\Q (.c (.d .u8 x)) []
def ame:=aji.add W6
abbrev zJ (y0:List (Ty.u8).den) (y1:SV->List HO->Prop):=(∀ (c:Bool),(c=true->y0= [])->br (if true=true then c else !c) (y1 (.v (.c dL)) []) ((0+List.length y0)*1<=cw/\0+List.length y0<=9223372036854775807/\y1 (SV.v (S1.c (.o 0))) [.sl 5 Ty.u8 ([]++y0)]))
def Rz (x:(List (Ty.u8).den)):dE:=λQ=>cM x (zJ x Q)
theorem W7:cG 38 Z9:=fz<| lH λx=>iQ λQ h=>by
 refine Wp.IN (e:=.u8) ?_;refine Wp.dJ ame fj ⟨[],[]⟩ Tryz.f38 (Rz x) ?_;unfold Rz zJ cw cM dL;obtain ⟨hl,h⟩:=h;refine λ_ c hc=>aw (λhb=>.inr (.inl ⟨rfl,?_⟩)) (λhb=>⟨by omega,by omega,.inr (.inr ⟨0,5,x,rfl,ay 0,rfl,h⟩)⟩);rw [hc hb] at h;exact h
def afF:Ct:=λargs H Q=>match H with
 | []=>Z9 args H Q
 | [_]=>Ql args H Q
 | _=>False
theorem akx:cG 38 afF:=λargs H Q h=>by
 unfold afF at h;split at h;exact W7 _ _ _ h;exact W6 _ _ _ h;cases h
def aiM:Ct:=cD .u8 λb=>c0 λQ=>b.length<=140737488355328/\Q (.c (.p 0 0)) [.cells 187 [.k (.int .i64 (0)),.d .u8 (b)]]
def agy:=aji.add akx
abbrev a6:Value:=.int .i64 0
abbrev mN:=SV.v (S1.c (.p 0 0))
def Q5 (b:(List (Ty.u8).den)):dE:=λQ=>cM b (fa (dm b)/\(aL (dm b)->Q mN [.cells 187 [.k a6,Cl.d Ty.u8 b]]))
theorem agR:cG 97 aiM:=fz<| lH λb=>iQ λQ h=>by
 refine Wp.dJ agy fj ⟨[],[]⟩ Tryz.f97 (Q5 b) ?_;unfold Q5 mN dm cM a6 fa aL;intro _;exact ⟨h.1,λ_=>h.2⟩
def ZH:Ct:=cP<| cI λn=>cO λH Q=>match H with
 | [.cells 187 [.k (.int .i64 c),.d .u8 b]]=>c=0/\0<=n/\b.length<=140737488355328/\Q (.c (.d .u8 (iZ b n))) [.cells 187 [.k (.int .i64 (F7 b n)),.d .u8 (kF b n)]]
 | _=>False
def agx:=agy.add agR
abbrev cR (y0:Int):=decide (y0< 0)
abbrev cY (y0:List UInt8) (R:Prop):=aL (List.length y0)->R
abbrev l9 (y0:Int) (y1:List UInt8):=List.take (aZ y0) y1
abbrev ve (y0:Int) (y1:List UInt8):=List.length (l9 y0 y1)
abbrev qz (y0:Int) (y1:List UInt8):=List.drop (aZ y0) y1
def EO (n c:Int) (b:List UInt8):dE:=λQ=>aF .i64 n->br (cR n) (br (nB c bd !=0) (Q gy [.cells 187 [.k (.int .i64 (nB c bd)),Cl.d Ty.u8 b]]) (0<=n/\n<=(aE b)/\fa (ve n b)/\(aL (ve n b)->0<=n/\n<=(aE b)/\Q (SV.v (S1.c 
 (Cl.d Ty.u8 (l9 n b)))) [.cells 187 [.k (.int .i64 (nB c bd)),Cl.d Ty.u8 (qz n b)]]))) (cY b (br (decide (n>(aE b))) (br (nB c di !=0) (Q gy [.cells 187 [.k (.int .i64 (nB c di)),Cl.d Ty.u8 b]]) (0<= 
 n/\n<=(aE b)/\fa (ve n b)/\(aL (ve n b)->0<=n/\n<=(aE b)/\Q (SV.v (S1.c (Cl.d Ty.u8 (l9 n b)))) [.cells 187 [.k (.int .i64 (nB c di)),Cl.d Ty.u8 (qz n b)]]))) (br (c !=0) (Q gy [.cells 187 [.k 
 (aC c),Cl.d Ty.u8 b]]) (0<=n/\n<=(aE b)/\fa (ve n b)/\(aL (ve n b)->0<=n/\n<=(aE b)/\Q (SV.v (S1.c (Cl.d Ty.u8 (l9 n b)))) [.cells 187 [.k (aC c),Cl.d Ty.u8 (qz n b)]])))))
theorem Ww:cG 98 ZH:=fz<| rJ<| nG λn=>rK λH Q h=>by
 split at h;rotate_left;cases h;rename_i c b;refine Wp.IN (e:=.u8) ?_;refine Wp.dJ agx fj ⟨[],[]⟩ Tryz.f98 (EO n c b) ?_;unfold EO gy qz ve l9 cY cR dL aZ aC bd di aE fa aL;obtain ⟨rfl,h0,hb,h⟩:=h;unfold iZ F7 kF at h;refine λ_=>aw (λhc=>?_) (λ_=>λ_=>aw (λhc=>?_) (λhc=>?_))
 .have hc:n< 0:=of_decide_eq_true hc;omega
 .have hc:n>(b.length:Int):=of_decide_eq_true hc;rw [if_pos hc,if_pos hc,if_pos hc] at h;exact aw (λ_=>.inr (.inl ⟨rfl,h⟩)) (λhd=>nomatch hd)
 .have hc:¬n>(b.length:Int):=of_decide_eq_false hc;rw [if_neg hc,if_neg hc,if_neg hc] at h;exact aw (λhd=>nomatch hd) (λ_=>⟨h0,by omega,by rw [aA];omega,λ_=>⟨h0,by omega,.inl h⟩⟩)
def aiL:Ct:=cP<| cI λn=>cO λH Q=>match H with
 | [.cells 187 [.k (.int .i64 c),.d .u8 b]]=>c=0/\1<=n/\n<=4/\n<=b.length/\b.length<=140737488355328/\Q (.int (bL (b.take n.toNat))) [.cells 187 [.k (.int .i64 (0)),.d .u8 (b.drop n.toNat)]]
 | _=>False
def agw:=agx.add Ww
abbrev bO {A0:Type} (y0:List A0):=List.length y0
abbrev IB (y0) (y1:Int) (y2):=Aj .i64 (↑(cW (aK Ty.u8 (iZ y0 y1) y2)):Int) (iA*y2)
abbrev sx (y0:_->Prop) (y1:Int) (y2:List UInt8):=y0 ((),(nB y1 bd,y2,()),())
abbrev Ca (y0:Int) (R:Prop):=aF .i64 (iA*y0)/\ah<=iA*y0/\R
def Q4 (n c:Int) (b:List UInt8):dE:=λQ=>aF .i64 n->cV (λk=>br (decide (n< 1)) (sx k c b) (br (decide (n>4)) (sx k c b) (k ((),(c,b,()),())))) λi=>i.2.1.1=ah/\0<=n/\fa (bO i.2.1.2.1)/\(aL (List.length (iZ i.2.1.2.1 
 n))->aL (List.length (iZ i.2.1.2.1 n))->bp (λdu ag=>br (decide (du.1.1< (a7 (iZ i.2.1.2.1 n)))) (0<=du.1.1/\du.1.1< (a7 (iZ i.2.1.2.1 n))/\(Ty.ok Ty.u8 (aK Ty.u8 (iZ i.2.1.2.1 n) du.1.1)->Ca 
 du.1.1 (aF .i64 (IB i.2.1.2.1 n du.1.1)->aF .i64 (dc BinOp.or .i64 du.1.2.1 (IB i.2.1.2.1 n du.1.1))->cL du.1.1 (ag ((du.1.1+1,dc BinOp.or .i64 du.1.2.1 (IB i.2.1.2.1 n du.1.1),()),()))))) (Q (gQ 
 du.1.2.1) [.cells 187 [.k (.int .i64 (F7 i.2.1.2.1 n)),Cl.d Ty.u8 (kF i.2.1.2.1 n)]])) ((ah,ah,()),()))
theorem agQ:cG 99 aiL:=fz<| rJ<| nG λn=>rK λH Q h=>by
 split at h;rotate_left;cases h;rename_i c b;refine Wp.dJ agw fj ⟨[(6,⟨[(22,.int .i64),(5,.int .i64)],[]⟩)],[(4,⟨[],[(0,.cells 187 [.int .i64,.d .u8])]⟩)]⟩ Tryz.f99 (Q4 n c b) ?_;unfold Q4 Ca sx gQ IB cL bO aC ah bd iA a7 fa aL;obtain ⟨rfl,h1,h4,hb,hl,h⟩:=h;intro _;refine cV.intro (λi=>i.2.1.1=0/\i.2.1.2.1=b) (aw (λhc=>?_) (λ_=>aw (λhc=>?_) (λ_=>⟨rfl,rfl⟩))) ?_
 .have hc:n< 1:=of_decide_eq_true hc;omega
 .have hc:n>4:=of_decide_eq_true hc;omega
 rintro ⟨_,⟨c,b',_⟩,_⟩ ⟨rfl,e⟩;simp only at e ⊢;subst e;have hn:¬n>(b'.length:Int):=by omega
 rw [show iZ b' n=b'.take n.toNat by unfold iZ;rw [if_neg hn],show F7 b' n=0 by unfold F7;rw [if_neg hn],show kF b' n=b'.drop n.toNat by unfold kF;rw [if_neg hn]];have hlen:(b'.take n.toNat).length=n.toNat:=by rw [aA];omega
 refine ⟨trivial,by omega,hl,λ_ _=>?_⟩;generalize hz:b'.take n.toNat=z at h hlen ⊢;refine bp.intro (λj=>0<=j.1.1/\j.1.1<=z.length/\j.1.2.1=bL (z.take j.1.1.toNat)) (λj=>z.length - j.1.1.toNat) ⟨by simp,by simp,rfl⟩ ?_;rintro ⟨⟨i,r,_⟩,_⟩ ⟨g0,g1,g2⟩;simp only at g0 g1 g2 ⊢;subst g2;refine aw (λhc=>?_) (λhc=>?_)
 .have hc:i< (z.length:Int):=of_decide_eq_true hc;refine ⟨g0,hc,λ_=>⟨by unfold aF;omega,by omega,λ_ _=>⟨by unfold aF;omega,⟨by omega,by omega,?_⟩,by omega⟩⟩⟩;have eK:(z.take i.toNat).length=i.toNat:=by rw [aA];omega
  rw [Yi g0 (by omega) (CL _) (by have:=YC (z.take i.toNat);rw [eK] at this;exact this)];rw [show (i+1).toNat=i.toNat+1 by omega,bU (by omega),Ss,eK];have e:aK .u8 z i=z[i.toNat]'(by omega):=by
   unfold aK;rw [ba,ak (by omega)];rfl
  rw [e]
 .have hc:¬i< (z.length:Int):=of_decide_eq_false hc;rw [aT (by omega)];exact h
def aef:Ct:=cP<| cO λH Q=>match H with
 | [.cells 187 [.k (.int .i64 c),.d .u8 b]]=>c=0/\Q (.int b.length) [.cells 187 [.k (.int .i64 (0)),.d .u8 (b)]]
 | _=>False
def agv:=agw.add agQ
abbrev lZ:SV:=.v (.c (.k a6))
def KK (c:Int) (b:List UInt8):dE:=λQ=>br (c !=0) (Q lZ [.cells 187 [.k (aC c),Cl.d Ty.u8 b]]) (cY b (Q (.v (.c (.k (.int .i64 (aE b))))) [.cells 187 [.k (aC c),Cl.d Ty.u8 b]]))
theorem ab4:cG 100 aef:=fz<| rJ<| rK λH Q h=>by
 split at h;rotate_left;cases h;rename_i c b;refine Wp.dJ agv fj ⟨[],[]⟩ Tryz.f100 (KK c b) ?_;unfold KK lZ cY a6 aC aE aL;obtain ⟨rfl,h⟩:=h;exact aw (λhd=>nomatch hd) (λ_ _=>h)
def aee:Ct:=cP<| cO λH Q=>match H with
 | [.cells 187 [.k (.int .i64 c),.d .u8 b]]=>c=0/\(∃ z r,b=z::r/\z.toNat<=r.length/\b.length<=140737488355328/\Q (.str (fD (r.take z.toNat))) [.cells 187 [.k (.int .i64 (0)),.d .u8 (r.drop z.toNat)]])
 | _=>False
def agu:=agv.add ab4
abbrev yb (y0:List UInt8):=bL (List.take bJ y0)
def KJ (c:Int) (b:List UInt8):dE:=λQ=>c=ah/\bd<=bd/\bd<=cC/\bd<=(aE b)/\fa (List.length b)/\(aF .i64 (yb b)->bt (0<=bL (List.take bJ b)/\fa (List.length (List.drop 1 b))/\(aL (List.length (iZ (List.drop 1 b) 
 (yb b)))->Q (.v (.c (.k (.string (fD (iZ (List.drop 1 b) (yb b))))))) [.cells 187 [.k (.int .i64 (F7 (List.drop 1 b) (yb b))),Cl.d Ty.u8 (kF (List.drop 1 b) (yb b))]])))
theorem ab3:cG 199 aee:=fz<| rJ<| rK λH Q h=>by
 split at h;rotate_left;cases h;rename_i c b;refine Wp.dJ agu fj ⟨[],[]⟩ Tryz.f199 (KJ c b) ?_;unfold KJ yb bt ah bd cC aE fa aL bJ;obtain ⟨rfl,z,r,rfl,hz,hl,h⟩:=h;have e1:bL (List.take 1 (z::r))=(z.toNat:Int):=by show (z.toNat:Int)+256*0=_;omega
 rw [e1];have hn:¬(z.toNat:Int)>(r.length:Int):=by omega
 refine ⟨rfl,by omega,by omega,by simp only [aq];omega,hl,λ_=>⟨rfl,by omega,?_,λ_=>?_⟩⟩
 .have:(List.drop 1 (z::r)).length=r.length:=rfl;simp only [aq] at hl;omega
 .show Q (.str (fD (iZ r _))) [.cells _ [.k (.int .i64 (F7 r _)),.d .u8 (kF r _)]];rw [show iZ r (z.toNat:Int)=r.take z.toNat by unfold iZ;rw [if_neg hn];rfl,show F7 r (z.toNat:Int)=0 by unfold F7;rw [if_neg hn],show kF r (z.toNat:Int)=r.drop z.toNat by unfold kF;rw [if_neg hn];rfl];exact h
def aiN:Ct:=cP<| cO λH Q=>match H with
 | [.cells 187 [.k (.int .i64 c),.d .u8 b]]=>c=0/\b= []/\Q (.int 0) [.cells 187 [.k (.int .i64 (0)),.d .u8 ([])]]
 | _=>False
def agt:=agu.add ab3
def Q6 (c:Int) (b:List UInt8):dE:=λQ=>List.length b<=9223372036854775807->br (decide ((aE b)>ah)) (Q (.v (.c (.k (.int .i64 (nB c di))))) [.cells 187 [.k (.int .i64 (nB c di)),Cl.d Ty.u8 b]]) (Q (gQ c) [.cells 187 [.k (aC c),Cl.d Ty.u8 
 b]])
theorem agS:cG 227 aiN:=fz<| rJ<| rK λH Q h=>by
 split at h;rotate_left;cases h;rename_i c b;refine Wp.dJ agt fj ⟨[],[]⟩ Tryz.f227 (Q6 c b) ?_;unfold Q6 gQ aC ah di aE;obtain ⟨rfl,rfl,h⟩:=h;exact λ_=>aw (λhd=>nomatch hd) (λ_=>h)
def JF:Ct:=cP<| cI λm=>cI λn=>cO λH Q=>match H with
 | [.cells 174 [.k (.int .i64 c),.o 1],.sl 5 .u8 x]=>c=0/\(1<=n/\n<=4)/\(0<=m/\m< 256 ^ n.toNat)/\x.length<=100000000000/\Q .tx [.cells 174 [.k (.int .i64 (0)),.o 2],.gone,.sl 5 .u8 (x++aI n.toNat m.toNat)]
 | _=>False
def aaB:=agt.add agS
abbrev cj (y0:Int) (y1:Int) (R:Prop):=aF .i64 y0->aF .i64 y1->R
abbrev Cm (y0:Int) (y1):=IntKind.wrap .u8 (kD .i64 y0 (iA*y1))
def KA (m n c:Int) (x:List UInt8):dE:=λQ=>cj m n (cV (λk=>br (decide (n< 1)) (sx k c x) (br (decide (n>4)) (sx k c x) (br (cR m) (sx k c x) (Ca n (aF .i64 (kD .i64 m (iA*n))->br (kD .i64 m (iA*n) !=0) (sx k c 
 x) (k ((),(c,x,()),()))))))) λi=>bp (λi ag=>br (decide (i.1.1< n)) (br (i.2.1.1==0) (Ca i.1.1 (aF .i64 (kD .i64 m (iA*i.1.1))->aF .u8 (Cm m i.1.1)->(List.length i.2.1.2.1+List.length [az 
 (ax (Cm m i.1.1))])*1<=cw/\List.length i.2.1.2.1+List.length [az (ax (Cm m i.1.1))]<=9223372036854775807/\cL i.1.1 (ag ((i.1.1+1,()),(i.2.1.1,i.2.1.2.1++ [az (ax (Cm m 
 i.1.1))],()),())))) (Q (SV.cJ []) [.cells 174 [.k (aC i.2.1.1),.o 2],.gone,.sl 5 Ty.u8 i.2.1.2.1])) (Q (SV.cJ []) [.cells 174 [.k (aC i.2.1.1),.o 2],.gone,.sl 5 Ty.u8 i.2.1.2.1])) ((ah,()),i.2))
theorem Hy:cG 86 JF:=fz<| rJ<| nG λm=>nG λn=>rK λH Q h=>by
 split at h;rotate_left;cases h;rename_i c x;refine Wp.dJ aaB fj ⟨[(4,⟨[(6,.int .i64)],[(0,.cells 174 [.int .i64,.own 5 .u8])]⟩)],[(3,⟨[],[(0,.cells 174 [.int .i64,.own 5 .u8])]⟩)]⟩ Tryz.f86 (KA m n c x) ?_;unfold KA Ca Cm sx cj cR cL cw aC ah bd iA;obtain ⟨rfl,⟨h1,h4⟩,⟨m0,m1⟩,hl,h⟩:=h;intro _ _;refine cV.intro (λi=>i.2.1.1=0/\i.2.1.2.1=x) (aw (λhc=>?_) (λ_=>aw (λhc=>?_) (λ_=>aw (λhc=>?_) (λ_=>⟨by unfold aF;omega,by omega,λ_=>aw (λhc=>?_) (λ_=>⟨rfl,rfl⟩)⟩)))) ?_
 .have hc:n< 1:=of_decide_eq_true hc;omega
 .have hc:n>4:=of_decide_eq_true hc;omega
 .have hc:m< 0:=of_decide_eq_true hc;omega
 .rw [XG m0 h1 h4 m1] at hc;cases hc
 rintro ⟨_,⟨c,x',_⟩,_⟩ ⟨rfl,e⟩;simp only at e ⊢;subst e;refine bp.intro (λj=>0<=j.1.1/\j.1.1<=n/\j.2.1.1=0/\j.2.1.2.1=x'++aI j.1.1.toNat m.toNat) (λj=>(n - j.1.1).toNat) ⟨by simp,by show (0:Int)<=n;omega,rfl,by simp [aI]⟩ ?_;rintro ⟨⟨i,_⟩,⟨c,y,_⟩,_⟩ ⟨g0,g1,rfl,g3⟩;simp only at g0 g1 g3 ⊢;subst g3;refine aw (λhc=>aw (λ_=>?_) (λhd=>nomatch hd)) (λhc=>?_)
 .have hc:i< n:=of_decide_eq_true hc;have hy:(x'++aI i.toNat m.toNat).length=x'.length+i.toNat:=by rw [af,aB]
  refine ⟨by unfold aF;omega,by omega,λ_ _=>⟨by rw [hy,aD];omega,by rw [hy,aD];omega,by unfold aF;omega,⟨by omega,by omega,trivial,?_⟩,by omega⟩⟩;rw [aew m0 g0 (by omega),aG,<-Gu,show (i+1).toNat=i.toNat+1 by omega]
 .have hc:¬i< n:=of_decide_eq_false hc;rw [show i=n by omega];exact h
def yW:Ct:=cP<| cD .u8 λb=>cO λH Q=>match H with
 | [.cells 174 [.k (.int .i64 c),.o 1],.sl 5 .u8 x]=>c=0/\x.length<=100000000000/\b.length<=100000000/\Q .tx [.cells 174 [.k (.int .i64 (0)),.o 2],.gone,.sl 5 .u8 (x++b)]
 | _=>False
def amd:=aaB.add Hy
abbrev yp (y0:List UInt8) (y1:List (Ty.u8).den) (R:Prop):=(List.length y0+List.length y1)*1<=cw/\List.length y0+List.length y1<=9223372036854775807/\R
def Bc (b:(List (Ty.u8).den)) (c:Int) (x:List UInt8):dE:=λQ=>cM b (br (c==0) (yp x b (Q (SV.cJ []) [.cells 174 [.k (aC c),.o 2],.gone,.sl 5 Ty.u8 (x++b)])) (Ck Q c x))
theorem Eu:cG 92 yW:=fz<| rJ<| lH λb=>rK λH Q h=>by
 split at h;rotate_left;cases h;rename_i c x;refine Wp.dJ amd fj ⟨[],[]⟩ Tryz.f92 (Bc b c x) ?_;unfold Bc Ck yp cw cM aC;obtain ⟨rfl,h1,h2,h⟩:=h;exact λ_=>aw (λ_=>⟨by omega,by omega,h⟩) (λhd=>nomatch hd)
def JG:Ct
 | [.v (.c (.p 0 0)),.v (.c (.k (.int .i64 m))),.v (.c (.k (.int .i64 n)))],[.cells 174 [.k (.int .i64 c),.k (.slice none 0 0)]],Q=>JF [.v (.c (.p 0 0)),.v (.c (.k (.int .i64 m))),.v (.c (.k (.int .i64 n)))] [.cells 174 [.k (.int .i64 c),.o 1],.sl 5 .u8 []] Q
 | _,_,_=>False
theorem abU:cG 86 JG:=λargs H Q h=>by
 unfold JG at h;split at h;exact Wp.aag (p:=0) (t:=174) (tt:=5) (e:=.u8) (cs1:=[.k (.int .i64 _)]) (cs2:=[]) rfl (Hy _ _ _ h);cases h
def Zz:Ct:=λargs H Q=>match H with
 | [.cells _ [_,.k _]]=>JG args H Q
 | [.cells _ [_,.o _],_]=>JF args H Q
 | _=>False
theorem agK:cG 86 Zz:=λargs H Q h=>by
 unfold Zz at h;split at h;exact abU _ _ _ h;exact Hy _ _ _ h;cases h
def yX:Ct
 | [.v (.c (.p 0 0)),b],[.cells 174 [.k (.int .i64 c),.k (.slice none 0 0)]],Q=>yW [.v (.c (.p 0 0)),b] [.cells 174 [.k (.int .i64 c),.o 1],.sl 5 .u8 []] Q
 | _,_,_=>False
theorem T6:cG 92 yX:=λargs H Q h=>by
 unfold yX at h;split at h;exact Wp.aag (p:=0) (t:=174) (tt:=5) (e:=.u8) (cs1:=[.k (.int .i64 _)]) (cs2:=[]) rfl (Eu _ _ _ h);cases h
def NB:Ct:=λargs H Q=>match H with
 | [.cells _ [_,.k _]]=>yX args H Q
 | [.cells _ [_,.o _],_]=>yW args H Q
 | _=>False
theorem Wo:cG 92 NB:=λargs H Q h=>by
 unfold NB at h;split at h;exact T6 _ _ _ h;exact Eu _ _ _ h;cases h
def ad6:Ct:=cP<| cO λH Q=>match H with
 | [.cells 174 [.k (.int .i64 c),.o 1],.sl 5 .u8 x]=>c=0/\x.length<=100000000000/\Q (.c (.d .u8 x)) [.cells 174 [.k (.int .i64 (0)),.o 1],.sl 5 .u8 (x)]
 | _=>False
def ags:=(aaB.add agK).add Wo
def KB (c:Int) (x:List UInt8):dE:=λQ=>br (c !=0) (Q gy [.cells 174 [.k (aC c),.o 1],.sl 5 Ty.u8 x]) (fa (List.length x)/\(cY x (Q (SV.v (S1.c (Cl.d Ty.u8 x))) [.cells 174 [.k (aC c),.o 1],.sl 5 Ty.u8 x])))
theorem abV:cG 87 ad6:=fz<| rJ<| rK λH Q h=>by
 split at h;rotate_left;cases h;rename_i c x;refine Wp.dJ ags fj ⟨[],[]⟩ Tryz.f87 (KB c x) ?_;unfold KB gy cY dL aC fa aL;obtain ⟨rfl,hl,h⟩:=h;exact aw (λhd=>nomatch hd) (λ_=>⟨by omega,λ_=>h⟩)
def aiI:Ct:=cP<| cO λH Q=>match H with
 | [.cells 174 [.k (.int .i64 c),.o 1],.sl 5 .u8 x]=>c=0/\x.length<=100000000000/\Q (.int x.length) [.cells 174 [.k (.int .i64 (0)),.o 1],.sl 5 .u8 (x)]
 | _=>False
def agq:=ags.add abV
def QZ (c:Int) (x:List UInt8):dE:=λQ=>c=ah/\List.length x<=100000000000/\(cY x (cY x (Q (.v (.c (.k (.int .i64 (aE x))))) [.cells 174 [.k a6,.o 1],.sl 5 Ty.u8 x])))
theorem agL:cG 96 aiI:=fz<| rJ<| rK λH Q h=>by
 split at h;rotate_left;cases h;rename_i c x;refine Wp.dJ agq fj ⟨[],[]⟩ Tryz.f96 (QZ c x) ?_;unfold QZ cY a6 ah aE aL;obtain ⟨rfl,hl,h⟩:=h;exact ⟨rfl,hl,λ_ _=>h⟩
def ad5:Ct:=cP<| cS λz=>cO λH Q=>match H with
 | [.cells 174 [.k (.int .i64 c),.o 1],.sl 5 .u8 x]=>c=0/\z.size<=255/\x.length<=1000000000/\Q .tx [.cells 174 [.k (.int .i64 (0)),.o 2],.gone,.sl 5 .u8 (x++az z.size::z.data.toList)]
 | _=>False
def agp:=agq.add agL
abbrev dr (y0:ByteArray):=ByteArray.size y0
abbrev j6 (y0:ByteArray) (R:Prop):=ByteArray.size y0<=9223372036854775807->R
abbrev iO (y0:ByteArray):=(↑(dr y0):Int)
abbrev iN (y0:List UInt8) (R:Prop):=List.length y0<=100000000/\R
def Kz (z:ByteArray) (c:Int) (x:List UInt8):dE:=λQ=>j6 z (br (decide ((iO z)>(255:Int))) (Q (SV.cJ []) [.cells 174 [.k (.int .i64 (nB c lh)),.o 1],.sl 5 Ty.u8 x]) (c=ah/\(bd<=bd/\bd<=cC)/\(ah<=(iO z)/\(iO z)< fb ^ 
 bJ)/\List.length x<=100000000000/\bt (List.length (x++aI bJ (ax (iO z)))<=100000000000/\iN z.data.toList (Q (SV.cJ []) [.cells 174 [.k a6,.o 2],.gone,.sl 5 Ty.u8 (x++aI bJ (ax (iO 
 z))++z.data.toList)]))))
theorem abT:cG 137 ad5:=fz<| rJ<| okS λz=>rK λH Q h=>by
 split at h;rotate_left;cases h;rename_i c x;refine Wp.dJ agp fj ⟨[],[]⟩ Tryz.f137 (Kz z c x) ?_;unfold Kz iN iO bt j6 dr a6 ah bd fb lh cC bJ;obtain ⟨rfl,hz,hl,h⟩:=h;have e1:aI 1 ((z.size:Int)).toNat= [az z.size]:=by
  show [az (z.size % 256)]=_;rw [lS (by omega)]
 have e2:z.data.toList.length=z.size:=dq;refine λ_=>aw (λhc=>?_) (λ_=>⟨rfl,⟨by omega,by omega⟩,⟨by omega,by show (z.size:Int)< 256;omega⟩,by omega,rfl,?_,by omega,?_⟩)
 .have hc:(z.size:Int)>255:=of_decide_eq_true hc;omega
 .rw [e1,af,aD];omega
 .rw [e1,aG];exact h
end Go.Proofs

namespace Go.Lm
open Go
def ml:Nat->List UInt8->Nat->List UInt8
 | 0,out,_=>out
 | n+1,out,f=>ml n (out++ [out.getD f 0]) (f+1)
def DY:Nat->List UInt8->List UInt8->Option (List UInt8)
 | _,[],out=>some out
 | 0,_::_,_=>none
 | k+1,t::r,out=>
  if t.toNat< 128 then (if r.length< t.toNat+1 then none else DY k (r.drop (t.toNat+1)) (out++r.take (t.toNat+1)))
  else match r with
   | []=>none
   | c::q=>if out.length<=c.toNat then none else DY k q (ml (t.toNat - 125) out (out.length - c.toNat - 1))
theorem Lv (n:Nat) (out:List UInt8):DY n [] out=some out:=by cases n<;>rfl
theorem tv:∀ {n m:Nat} {b out:List UInt8},b.length<=n->b.length<=m->DY n b out=DY m b out
 | n,m,[],out,_,_=>by rw [Lv,Lv]
 | 0,_,_::_,_,h,_=>by simp at h
 | _,0,_::_,_,_,h=>by simp at h
 | n+1,m+1,t::r,out,h1,h2=>by
  rw [aq] at h1 h2;unfold DY;split
  .split
   .rfl
   .exact tv (by rw [aN];omega) (by rw [aN];omega)
  .cases r with
   | nil=>rfl
   | cons c q=>
    simp only;rw [aq] at h1 h2;split;rfl;exact tv (by omega) (by omega)
def nF (b out:List UInt8):Option (List UInt8):=DY b.length b out
theorem wb (out:List UInt8):nF [] out=some out:=rfl
theorem Lw {t:UInt8} {r out:List UInt8} (ht:t.toNat< 128):nF (t::r) out=if r.length< t.toNat+1 then none else nF (r.drop (t.toNat+1)) (out++r.take (t.toNat+1)):=by
 unfold nF;rw [aq]
 conv=>lhs;unfold DY
 rw [if_pos ht];split;rfl;exact tv (by rw [aN];omega) (ay _)
theorem FD {t c:UInt8} {r out:List UInt8} (ht:¬t.toNat< 128):nF (t::c::r) out=if out.length<=c.toNat then none else nF r (ml (t.toNat - 125) out (out.length - c.toNat - 1)):=by
 unfold nF;rw [aq]
 conv=>lhs;unfold DY
 rw [if_neg ht];simp only;split;rfl;exact tv (by rw [aq];omega) (ay _)
theorem Xw {t:UInt8} {out:List UInt8} (ht:¬t.toNat< 128):nF [t] out=none:=by
 unfold nF;rw [aq]
 conv=>lhs;unfold DY
 rw [if_neg ht]
theorem vL:∀ (n:Nat) (out:List UInt8) (f:Nat),(ml n out f).length=out.length+n
 | 0,_,_=>rfl
 | n+1,out,f=>by
  show (ml n (out++ [out.getD f 0]) (f+1)).length=_;rw [vL n,af,aD];omega
theorem RE {t:UInt8} {r out z:List UInt8} (ht:t.toNat< 128) (h:nF (t::r) out=some z):t.toNat+1<=r.length/\nF (r.drop (t.toNat+1)) (out++r.take (t.toNat+1))=some z:=by
 rw [Lw ht] at h;split at h;cases h;exact ⟨by omega,h⟩
theorem Lu {t:UInt8} {r out z:List UInt8} (ht:¬t.toNat< 128) (h:nF (t::r) out=some z):∃ c q,r=c::q/\c.toNat< out.length/\nF q (ml (t.toNat - 125) out (out.length - c.toNat - 1))=some z:=by
 cases r with
 | nil=>rw [Xw ht] at h;cases h
 | cons c q=>
  rw [FD ht] at h;split at h;cases h;exact ⟨c,q,rfl,by omega,h⟩
theorem wa:∀ {n:Nat} {b out z:List UInt8},b.length<=n->nF b out=some z->out.length<=z.length
 | _,[],out,z,_,h=>by
  rw [wb] at h;cases h;exact ay _
 | 0,_::_,_,_,h,_=>by simp at h
 | n+1,t::r,out,z,hn,h=>by
  rw [aq] at hn;by_cases ht:t.toNat< 128
  .obtain ⟨h1,h2⟩:=RE ht h;have:=wa (n:=n) (by rw [aN];omega) h2;rw [af] at this;omega
  .obtain ⟨c,q,rfl,h1,h2⟩:=Lu ht h;rw [aq] at hn;have:=wa (n:=n) (by omega) h2;rw [vL] at this;omega
structure DN (x pre:List UInt8):Prop where
 go:∀ r,nF (x++r) []=nF r pre
theorem DN.nil:DN [] []:=⟨λ_=>rfl⟩
theorem DN.done {x b:List UInt8} (h:DN x b):nF x []=some b:=by
 have:=h.go []
 rwa [aW,wb] at this
theorem DN.run {x pre l:List UInt8} (h:DN x pre) (h0:0< l.length) (h1:l.length<=128):DN (x++(az (l.length - 1)::l)) (pre++l):=⟨λr=>by
 have ht:(az (l.length - 1)).toNat=l.length - 1:=by simp;omega
 rw [aG,h.go,eO,Lw (by rw [ht];omega),ht,if_neg (by rw [af];omega)];rw [show l.length - 1+1=l.length by omega,eV,List.take_left]⟩
theorem GX {b:List UInt8}:∀ (n a f:Nat),f< a->a+n<=b.length->(∀ k,k< n->b[a+k]?=b[f+k]?)->ml n (b.take a) f=b.take (a+n)
 | 0,_,_,_,_,_=>rfl
 | n+1,a,f,hf,hl,hk=>by
  unfold ml;have h0:=hk 0 (by omega);rw [jP,jP] at h0;have e:(b.take a).getD f 0=b[a]'(by omega):=by
   rw [ba,ez,if_pos hf,<-h0,ak (by omega)];rfl
  rw [e];have e2:b.take a++ [b[a]'(by omega)]=b.take (a+1):=by rw [List.take_add_one,ak (by omega)];rfl
  rw [e2,GX n (a+1) (f+1) (by omega) (by omega) λk vS=>by
   have:=hk (k+1) (by omega)
   rwa [show a+(k+1)=a+1+k by omega,show f+(k+1)=f+1+k by omega] at this]
  congr 1;omega
theorem DN.copy {x b:List UInt8} {a n back:Nat} (h:DN x (b.take a)) (hn:3<=n) (hn2:n<=130) (hb:1<=back) (hb2:back<=a) (hb3:back<=256) (hl:a+n<=b.length) (hk:∀ k,k< n->b[a+k]?=b[a - back+k]?):
  DN (x++ [az (n+125),az (back - 1)]) (b.take (a+n)):=⟨λr=>by
 have ht:(az (n+125)).toNat=n+125:=by simp;omega
 have hc:(az (back - 1)).toNat=back - 1:=by simp;omega
 have hla:(b.take a).length=a:=by rw [aA];omega
 rw [aG,h.go];show nF (az (n+125)::az (back - 1)::r) _=_;rw [FD (by rw [ht];omega),ht,hc,hla,if_neg (by omega),show n+125 - 125=n by omega,show a - (back - 1) - 1=a - back by omega];rw [GX n a (a - back) (by omega) hl hk]⟩
end Go.Lm

namespace Go.Proofs
open Go Go.Lm Go.RowKit
set_option maxRecDepth 1000000
def ZF:Ct
 | [.v (.c (.o 0)),.v (.c cl)],[.sl 5 .u8 x],Q=>(match (Ty.sl Ty.u8).of [cl] with
  | some (l,[])=>∃ pre:List UInt8,DN x pre/\x.length+2*l.length<=1000000000/\∀ y,DN y (pre++l)->y.length<=x.length+2*l.length->Q (.c (.o 1)) [.gone,.sl 5 .u8 y]
  | _=>False)
 | _,_,_=>False
def ago:=agp.add abT
abbrev gu {A0:Type} (y0:List A0) (R:Prop):=List.length y0<=9223372036854775807->R
abbrev yw {A0:Type} (y0:List A0):=ax (IntKind.wrap .u8 (min (a7 y0) 128 - 1))
abbrev Ch {A0:Type} (y0:List A0):=ax (min (a7 y0) bG)
abbrev OW {A0:Type} (y0:List A0) (R:Prop):=0<=min (a7 y0) bG/\min (a7 y0) bG<=(a7 y0)/\R
def Q3 (l:(List (Ty.u8).den)) (x:List UInt8):dE:=λQ=>cM l (bp (λi ag=>gu i.1.2.1 (br (decide ((a7 i.1.2.1)>ah)) (aL (bO i.1.2.1)->aF .i64 (min (a7 i.1.2.1) 128 - 1)/\(aF .u8 (IntKind.wrap .u8 (min (a7 i.1.2.1) 128 - 1))->OW i.1.2.1 
 ((List.length i.1.1+List.length [az (yw i.1.2.1)])*1<=cw/\List.length i.1.1+List.length [az (yw i.1.2.1)]<=9223372036854775807/\(List.length (i.1.1++ [az (yw i.1.2.1)])+List.length 
 (List.take (Ch i.1.2.1) i.1.2.1))*1<=cw/\List.length (i.1.1++ [az (yw i.1.2.1)])+List.length (List.take (Ch i.1.2.1) i.1.2.1)<=9223372036854775807/\OW i.1.2.1 (ag ((i.1.1++ [az (yw 
 i.1.2.1)]++List.take (Ch i.1.2.1) i.1.2.1,List.drop (Ch i.1.2.1) i.1.2.1,()),()))))) (Q (SV.v (S1.c (.o 1))) [.gone,.sl 5 Ty.u8 i.1.1]))) ((x,l,()),()))
theorem agP:cG 193 ZF:=by
 intro args H Q h;unfold ZF at h;split at h;rotate_left;cases h;rename_i cl x;split at h;rotate_left;cases h;rename_i l hl;refine Wp.said (args':=[.v (.c (.o 0)),.c (.d Ty.u8 l)]) (λE g=>bC.cE (λ_ h=>h) (bC.cE (dI hl) (λ_ h=>h))) ?_;clear hl;refine Wp.dJ ago fj ⟨[(2,⟨[(0,.own 5 .u8),(1,.d .u8)],[]⟩)],[]⟩ Tryz.f193 (Q3 l x) ?_;unfold Q3 OW Ch yw gu bO cw cM ah bG a7 aL;obtain ⟨pre,he,hl,h⟩:=h;intro _;refine bp.intro (λi=>∃ p,DN i.1.1 p/\p++i.1.2.1=pre++l/\i.1.1.length+2*i.1.2.1.length<=x.length+2*l.length) (λi=>i.1.2.1.length) ⟨pre,he,rfl,ay _⟩ ?_;rintro ⟨⟨y,r,_⟩,_⟩ ⟨p,h1,h2,h3⟩;simp only at h1 h2 h3 ⊢;refine λ_=>aw (λhc=>λ_=>?_) (λhc=>?_)
 .have hc:(r.length:Int)>0:=of_decide_eq_true hc;have e1:az (IntKind.wrap .u8 (min (r.length:Int) 128 - 1)).toNat=az ((r.take (min (r.length:Int) 128).toNat).length - 1):=by
   rw [aA];congr 1;have:IntKind.wrap .u8 (min (r.length:Int) 128 - 1)=min (r.length:Int) 128 - 1:=oW (by simp [Lit.wf,IntKind.min,kc,eH,gY];omega);rw [this];omega
  have eK:(r.take (min (r.length:Int) 128).toNat).length=(min (r.length:Int) 128).toNat:=by rw [aA];omega
  rw [e1];refine ⟨by unfold aF;omega,λ_=>⟨by omega,by omega,?_,?_,?_,?_,by omega,by omega,⟨p++r.take (min (r.length:Int) 128).toNat,?_,?_,?_⟩,?_⟩⟩;rw [aD];omega;rw [aD];omega;rw [af,aD,eK];omega;rw [af,aD,eK];omega
  .have:=h1.run (l:=r.take (min (r.length:Int) 128).toNat) (by rw [eK];omega) (by rw [eK];omega);rw [aG];exact this
  .rw [aG,cv];exact h2
  .rw [af,af,aD,eK,aN];omega
  .show (r.drop _).length< r.length;rw [aN];omega
 .have hc:¬(r.length:Int)>0:=of_decide_eq_false hc;have:r= []:=aJ (by omega);subst this;rw [aW] at h2;exact h y (h2▸h1) (by simpa using h3)
def ZA:Ct:=cD .u8 λb=>cI λm=>c0 λQ=>∃ z:List UInt8,nF b []=some z/\z.length<=m/\m<=1000000/\Q (.cJ [.c (.d .u8 z),.c (.k (.int .i64 0))]) []
def agn:=ago.add agP
abbrev fM (y0:List UInt8):=(↑(cW (aK Ty.u8 y0 ah)):Int)
abbrev kj:SV:=.cJ [.c dL,.c (.k (.int .i64 1))]
abbrev sA:SV:=.cJ [.c dL,.c (.k (.int .i64 2))]
abbrev nr:=SV.cJ [S1.c (.o 0),.c (.k a6)]
abbrev Iv {A1:Type} (y0) (y1:List A1) (y2) (y3):=ax (↑(cW (aK Ty.u8 y0 ((a7 y1) - (fM y2) - 1+y3))):Int)
abbrev sw (y0:SV->List HO->Prop):=y0 (.cJ [.c dL,.c (.k (.int .i64 3))]) []
abbrev kJ (y0:List UInt8) (R:Prop):=Ty.ok Ty.u8 (aK Ty.u8 y0 ah)->R
abbrev OX {A0 A3:Type} (y0:List A0) (y1) (y2) (y3:List A3) (R:Prop):=ah<=(a7 y0) - (fM y1) - 1+y2/\(a7 y0) - (fM y1) - 1+y2< (a7 y3)/\R
def EJ (b:(List (Ty.u8).den)) (m:Int):dE:=λQ=>cM b (aF .i64 m->br (cR m) (Q kj []) (bp (λi ag=>gu i.1.1 (br (decide ((a7 i.1.1)>ah)) (ah<=ah/\ah< (a7 i.1.1)/\(kJ i.1.1 (ah<=bd/\bd<=(a7 i.1.1)/\aF .i64 ((fM 
 i.1.1)+1)/\aF .i64 ((fM i.1.1)+1)/\cV (λk=>br (decide ((fM i.1.1)≥bG)) (aF .i64 ((fM i.1.1) - 125)/\k ((List.drop 1 i.1.1,(fM i.1.1),(fM i.1.1) - 125,bd,()),())) (k ((List.drop 1 i.1.1,(fM 
 i.1.1),(fM i.1.1)+1,(fM i.1.1)+1,()),()))) λdu=>cV (λk=>gu du.1.1 (br (decide ((a7 du.1.1)< du.1.2.2.2.1)) (Q sA []) (br (decide (du.1.2.1≥128)) (ah<=ah/\ah< (a7 du.1.1)/\(kJ 
 du.1.1 (aL (bO i.1.2.1)->br (decide ((fM du.1.1)≥(a7 i.1.2.1))) (Q sA []) (k ((),()))))) (k ((),()))))) λkV=>gu i.1.2.1 (aF .i64 (m - (a7 i.1.2.1))/\br (decide (du.1.2.2.1>m - (a7 i.1.2.1))) (sw Q) 
 (cV (λk=>br (decide (du.1.2.1< 128)) (0<=du.1.2.2.1/\du.1.2.2.1<=(a7 du.1.1)/\(List.length i.1.2.1+List.length (l9 du.1.2.2.1 du.1.1))*1<=cw/\List.length i.1.2.1+List.length (l9 du.1.2.2.1 du.1.1)<= 
 9223372036854775807/\k ((i.1.2.1++List.take (aZ du.1.2.2.1) du.1.1,()),())) (aL (bO i.1.2.1)->ah<=ah/\ah< (a7 du.1.1)/\(kJ du.1.1 (aF .i64 ((a7 i.1.2.1) - (fM du.1.1))/\aF .i64 ((a7 i.1.2.1) - 
 (fM du.1.1) - 1)/\bp (λiT ag=>br (decide (iT.1.1< du.1.2.2.1)) (aF .i64 ((a7 i.1.2.1) - (fM du.1.1) - 1+iT.1.1)/\OX i.1.2.1 du.1.1 iT.1.1 iT.1.2.1 (OX i.1.2.1 du.1.1 iT.1.1 iT.1.2.1 (Ty.ok Ty.u8 
 (aK Ty.u8 iT.1.2.1 ((a7 i.1.2.1) - (fM du.1.1) - 1+iT.1.1))->(List.length iT.1.2.1+List.length [az (Iv iT.1.2.1 i.1.2.1 du.1.1 iT.1.1)])*1<=cw/\List.length iT.1.2.1+List.length [az (Iv 
 iT.1.2.1 i.1.2.1 du.1.1 iT.1.1)]<=9223372036854775807/\cL iT.1.1 (ag ((iT.1.1+1,iT.1.2.1++ [az (Iv iT.1.2.1 i.1.2.1 du.1.1 iT.1.1)],()),()))))) (k (iT.1.2,()))) ((ah,i.1.2),()))))) λi=>0<= 
 du.1.2.2.2.1/\du.1.2.2.2.1<=(a7 du.1.1)/\ag ((List.drop (aZ du.1.2.2.2.1) du.1.1,i.1),())))))) (Q nr [.sl 5 Ty.u8 i.1.2.1]))) ((b,[],()),())))
theorem Wq:cG 110 ZA:=fz<| lH λb=>nG λm=>iQ λQ h=>by
 refine Wp.aeY (e:=.u8) ?_;refine Wp.dJ agn fj ⟨[(5,⟨[(0,.d .u8),(6,.own 5 .u8)],[]⟩),(19,⟨[(70,.int .i64),(6,.own 5 .u8)],[]⟩)],[(11,⟨[(0,.d .u8),(7,.int .i64),(8,.int .i64),(9,.int .i64)],[]⟩),(13,⟨[],[]⟩),(23,⟨[(6,.own 5 .u8)],[]⟩)]⟩ Tryz.f110 (EJ b m) ?_;unfold EJ OX kJ sw Iv nr l9 sA cR cL gu kj bO cw cM dL aZ a6 fM ah bd bG a7 aL;obtain ⟨z,hz,hm,hm2,h⟩:=h;refine λ_ _=>aw (λhc=>?_) (λ_=>?_)
 .have hc:m< 0:=of_decide_eq_true hc;omega
 refine bp.intro (λi=>nF i.1.1 i.1.2.1=some z) (λi=>i.1.1.length) hz ?_;rintro ⟨⟨r,out,_⟩,_⟩ h1;simp only at h1 ⊢;refine λ_=>aw (λhc=>?_) (λhc=>?_);rotate_left
 .have hc:¬(r.length:Int)>0:=of_decide_eq_false hc;have:r= []:=aJ (by omega);subst this;rw [wb] at h1;obtain rfl:=aj h1;exact .inr (.inr ⟨0,5,out,.int .i64 0,rfl,cq _,rfl,h⟩)
 cases r with
 | nil=>simp at hc
 | cons t r=>
 have hlz:=wa (ay _) h1;have ht:=UInt8.toNat_lt t;have e0:aK .u8 (t::r) 0=t:=rfl;rw [e0];refine ⟨bz _,by simp only [aq];omega,λ_=>⟨by omega,by simp only [aq];omega,by unfold aF;omega,by unfold aF;omega,?_⟩⟩;simp only [List.drop_one,List.tail_cons];refine cV.intro (λi=>i.1.1=r/\i.1.2.1=(t.toNat:Int)/\(t.toNat< 128->i.1.2.2.1=(t.toNat:Int)+1/\i.1.2.2.2.1=(t.toNat:Int)+1)/\(¬t.toNat< 128->i.1.2.2.1=(t.toNat:Int) - 125/\i.1.2.2.2.1=1)) (aw (λhd=>⟨by unfold aF;omega,rfl,rfl,λhq=>?_,λ_=>⟨rfl,rfl⟩⟩) (λhd=>⟨rfl,rfl,λ_=>⟨rfl,rfl⟩,λhq=>?_⟩)) ?_
 .have hd:(t.toNat:Int)≥128:=of_decide_eq_true hd;omega
 .have hd:¬(t.toNat:Int)≥128:=of_decide_eq_false hd;omega
 rintro ⟨⟨r',t',n,nd,_⟩,_⟩ ⟨g1,g2,g3,g4⟩;simp only at g1 g2 g3 g4 ⊢;subst g1 g2;have key:(t.toNat< 128/\n=(t.toNat:Int)+1/\nd=(t.toNat:Int)+1/\t.toNat+1<=r'.length/\out.length+(t.toNat+1)<=z.length/\nF (r'.drop (t.toNat+1)) (out++r'.take (t.toNat+1))=some z)\/
   (¬t.toNat< 128/\n=(t.toNat:Int) - 125/\nd=1/\∃ c q,r'=c::q/\c.toNat< out.length/\out.length+(t.toNat - 125)<=z.length/\nF q (ml (t.toNat - 125) out (out.length - c.toNat - 1))=some z):=by
  by_cases hq:t.toNat< 128
  .obtain ⟨k1,k2⟩:=RE hq h1;have:=wa (ay _) k2;rw [af,aA] at this;exact .inl ⟨hq,(g3 hq).1,(g3 hq).2,k1,by omega,k2⟩
  .obtain ⟨c,q,k0,k1,k2⟩:=Lu hq h1;have:=wa (ay _) k2;rw [vL] at this;exact .inr ⟨hq,(g4 hq).1,(g4 hq).2,c,q,k0,k1,this,k2⟩
 clear g3 g4 h1;refine cV.intro (λ_=>True) (λ_=>aw (λhd=>?_) (λ_=>aw (λhd=>⟨bz _,?_,λ_ _=>aw (λhf=>?_) (λ_=>trivial)⟩) (λ_=>trivial))) ?_
 .have hd:(r'.length:Int)< nd:=of_decide_eq_true hd;rcases key with ⟨_,_,k2,k3,_⟩| ⟨_,_,k2,c,q,k3,_⟩
  .omega
  .rw [k3,aq] at hd;omega
 .have hd:(t.toNat:Int)≥128:=of_decide_eq_true hd;rcases key with ⟨k1,_⟩| ⟨_,_,_,c,q,k3,_⟩
  .omega
  .rw [k3,aq];omega
 .have hd:(t.toNat:Int)≥128:=of_decide_eq_true hd;have hf:(cW (aK .u8 r' 0):Int)≥(out.length:Int):=of_decide_eq_true hf;rcases key with ⟨k1,_⟩| ⟨_,_,_,c,q,k3,k4,_⟩
  .omega
  .rw [k3] at hf;have e3:aK .u8 (c::q) 0=c:=rfl;rw [e3] at hf;omega
 rintro ⟨_,_⟩ _;refine λ_=>⟨by unfold aF;omega,aw (λhd=>?_) (λ_=>?_)⟩
 .have hd:n>m - (out.length:Int):=of_decide_eq_true hd;rcases key with ⟨_,_,_,_,k5,_⟩| ⟨_,_,_,_,_,_,_,k5,_⟩<;>omega
 refine cV.intro (λi=>0<=nd/\nd<=(r'.length:Int)/\nF (r'.drop nd.toNat) i.1.1=some z) (aw (λhd=>?_) (λhd=>?_)) ?_
 .have hd:(t.toNat:Int)< 128:=of_decide_eq_true hd;rcases key with ⟨_,k1,k2,k3,k4,k5⟩| ⟨k0,_⟩
  .have e4:n.toNat=t.toNat+1:=by omega
   have e5:nd.toNat=t.toNat+1:=by omega
   rw [e4,e5];exact ⟨by omega,by omega,by rw [aA];omega,by rw [aA];omega,by omega,by omega,k5⟩
  .omega
 .have hd:¬(t.toNat:Int)< 128:=of_decide_eq_false hd;rcases key with ⟨k0,_⟩| ⟨_,k1,k2,c,q,k3,k4,k5,k6⟩
  .omega
  subst k3 k2;have e3:aK .u8 (c::q) 0=c:=rfl;rw [e3];refine λ_=>⟨bz _,by simp only [aq];omega,λ_=>⟨by unfold aF;omega,by unfold aF;omega,?_⟩⟩;refine bp.intro (λi=>0<=i.1.1/\i.1.1<=n/\i.1.2.1.length=out.length+i.1.1.toNat/\ml (n - i.1.1).toNat i.1.2.1 (out.length - c.toNat - 1+i.1.1.toNat)=ml (t.toNat - 125) out (out.length - c.toNat - 1)) (λi=>(n - i.1.1).toNat) ⟨by simp,by show (0:Int)<=n;omega,rfl,by show ml (n - 0).toNat out _=_;rw [show (n - 0).toNat=t.toNat - 125 by omega];rfl⟩ ?_;rintro ⟨⟨j,y,_⟩,_⟩ ⟨j0,j1,j2,j3⟩;simp only at j0 j1 j2 j3 ⊢;refine aw (λhf=>?_) (λhf=>?_)
  .have hf:j< n:=of_decide_eq_true hf;refine ⟨by unfold aF;omega,by omega,by rw [j2];omega,by omega,by rw [j2];omega,λ_=>⟨?_,?_,by unfold aF;omega,⟨by omega,by omega,?_,?_⟩,by omega⟩⟩
   .rw [aD];omega
   .rw [aD];omega
   .rw [af,aD];omega
   .rw [<-j3,show (n - j).toNat=(n - (j+1)).toNat+1 by omega];show _=ml _ (y++ [_]) _;have e6:az ((cW (aK .u8 y ((out.length:Int) - (c.toNat:Int) - 1+j)):Int)).toNat=y.getD (out.length - c.toNat - 1+j.toNat) 0:=by
     rw [aU,UInt8.ofNat_toNat];unfold aK;rw [show ((out.length:Int) - (c.toNat:Int) - 1+j).toNat=out.length - c.toNat - 1+j.toNat by omega];rfl
    rw [e6,show out.length - c.toNat - 1+(j+1).toNat=out.length - c.toNat - 1+j.toNat+1 by omega]
  .have hf:¬j< n:=of_decide_eq_false hf;rw [show (n - j).toNat=0 by omega] at j3;refine ⟨by omega,by simp only [aq];omega,?_⟩;rw [<-j3] at k6;exact k6
 rintro ⟨⟨y,_⟩,_⟩ ⟨k1,k2,k3⟩;refine ⟨k1,k2,k3,?_⟩;show (r'.drop nd.toNat).length< (t::r').length;rw [aN,aq];omega
def aiU:Ct:=cD .u8 λb=>cI λa=>cI λo=>c0 λQ=>(0<=a/\a<=b.length)/\(0<=o/\o< a)/\b.length<=1000000/\∀ n:Int,0<=n->n<=130->a+n<=b.length->(∀ k,k< n.toNat->b[a.toNat+k]?=b[o.toNat+k]?)->(n< 3->a+n< b.length->b[a.toNat+n.toNat]?≠b[o.toNat+n.toNat]?)->Q (.int n) []
def agm:=agn.add Wq
abbrev jq (y0) (y1:_->Prop):=aF .i64 (y0+1)/\y1 ((y0+1,()),())
abbrev jh:=((ah,()),())
def Ri (b:(List (Ty.u8).den)) (a o:Int):dE:=λQ=>cM b (cj a o (bp (λi ag=>br (decide (i.1.1< 130)) (aF .i64 (a+i.1.1)/\(aL (dm b)->br (decide (a+i.1.1< (aE b))) (aF .i64 (a+i.1.1)/\0<=a+i.1.1/\a+i.1.1< (aE b)/\(Ty.ok Ty.u8 (aK 
 Ty.u8 b (a+i.1.1))->aF .i64 (o+i.1.1)/\0<=o+i.1.1/\o+i.1.1< (aE b)/\(Ty.ok Ty.u8 (aK Ty.u8 b (o+i.1.1))->br ((↑(cW (aK Ty.u8 b (a+i.1.1))):Int)==(↑(cW (aK Ty.u8 b (o+i.1.1))):Int)) (jq 
 i.1.1 ag) (Q (gQ i.1.1) [])))) (Q (gQ i.1.1) []))) (Q (gQ i.1.1) [])) jh))
theorem ag0:cG 226 aiU:=fz<| lH λb=>nG λa=>nG λo=>iQ λQ h=>by
 refine Wp.dJ agm fj ⟨[(3,⟨[(7,.int .i64)],[]⟩)],[]⟩ Tryz.f226 (Ri b a o) ?_;unfold Ri jh gQ dm cj jq cM aC ah aE aL;obtain ⟨⟨a0,a1⟩,⟨o0,o1⟩,hl,h⟩:=h;intro _ _ _;refine bp.intro (λi=>0<=i.1.1/\i.1.1<=130/\a+i.1.1<=b.length/\∀ k,k< i.1.1.toNat->b[a.toNat+k]?=b[o.toNat+k]?) (λi=>(130 - i.1.1).toNat) ⟨by simp,by simp,by simpa using a1,λk hk=>by simp at hk⟩ ?_;rintro ⟨⟨i,_⟩,_⟩ ⟨h0,h1,h2,h3⟩;simp only at h0 h1 h2 h3 ⊢;refine aw (λhc=>⟨by unfold aF;omega,λ_=>aw (λhd=>?_) (λhd=>?_)⟩) (λhc=>?_)
 .have hc:i< 130:=of_decide_eq_true hc;have hd:a+i< (b.length:Int):=of_decide_eq_true hd;have ea:b[a.toNat+i.toNat]?=some (aK .u8 b (a+i)):=by
   unfold aK;rw [show (a+i).toNat=a.toNat+i.toNat by omega,ba,ak (by omega)];rfl
  have eo:b[o.toNat+i.toNat]?=some (aK .u8 b (o+i)):=by
   unfold aK;rw [show (o+i).toNat=o.toNat+i.toNat by omega,ba,ak (by omega)];rfl
  refine ⟨by unfold aF;omega,by omega,hd,λ_=>⟨by unfold aF;omega,by omega,by omega,λ_=>aw (λhe=>?_) (λhe=>?_)⟩⟩
  .have he:=eq_of_beq he;refine ⟨by unfold aF;omega,⟨by omega,by omega,by omega,λk hk=>?_⟩,by omega⟩;by_cases hq:k=i.toNat
   .subst hq;rw [ea,eo,UInt8.toNat_inj.1 (Int.ofNat.inj he)]
   .exact h3 k (by omega)
  .refine h i h0 h1 h2 h3 λ_ _ e=>?_;rw [ea,eo] at e;rw [aj e] at he;simp at he
 .have hd:¬a+i< (b.length:Int):=of_decide_eq_false hd;exact h i h0 h1 h2 h3 λ_ hq=>absurd hq hd
 .have hc:¬i< 130:=of_decide_eq_false hc;exact h i h0 h1 h2 h3 λhq=>by omega
end Go.Proofs

namespace Go.Lm
open Go
theorem ixG {e:Ty} {l:List e.den} {i:Int} (h0:0<=i) (h:i< l.length):aK e l i=l[i.toNat]'(by omega):=by
 unfold aK;rw [ba,ak (by omega)];rfl
theorem ixT {e:Ty} {l:List e.den} {i:Int} (h0:0<=i) (h:i< l.length):l.take (i+1).toNat=l.take i.toNat++ [aK e l i]:=by
 rw [ixG h0 h,show (i+1).toNat=i.toNat+1 by omega,bU (by omega)]
theorem uF {e:Ty} {l:List e.den} {i:Int} (h0:0<=i) (h:i< l.length):aK e l i∈l:=by
 rw [ixG h0 h];exact dw _
theorem ixR {e:Ty} {l:List e.den} {i:Int} (h0:0<=i) (h:i< l.length):l.drop i.toNat=aK e l i::l.drop (i+1).toNat:=by
 rw [ixG h0 h,show (i+1).toNat=i.toNat+1 by omega];exact cg (by omega)
def Jf (b:List UInt8) (x:Int):K3:=(b.getD x.toNat 0,b.getD (x.toNat+1) 0,b.getD (x.toNat+2) 0)
structure pA (b:List UInt8) (t:Int) (M:ur):Prop where
 len:M.length<=t
 all:∀ p∈M,p.2.2.length<=t/\∀ x∈p.2.2,0<=x/\x< t/\x+3<=b.length/\Jf b x=p.1
theorem pA.nil (b:List UInt8):pA b 0 []:=⟨by simp,λ_ h=>by cases h⟩
theorem pA.later {b:List UInt8} {t u:Int} {M:ur} (h:pA b t M) (hu:t<=u):pA b u M:=⟨by have:=h.len;omega,λp hp=>⟨by have:=(h.all p hp).1;omega,λx hx=>by have:=(h.all p hp).2 x hx;exact ⟨this.1,by omega,this.2.2⟩⟩⟩
theorem pA.find {b:List UInt8} {t:Int} {M:ur} {k:K3} {o:Option (Nat×Value)} {xs:List Int} (h:pA b t M) (h0:0<=t) (f:FindM M k o xs):xs.length<=t/\∀ x∈xs,0<=x/\x< t/\x+3<=b.length/\Jf b x=k:=by
 cases f with
 | «at» i v xs hi=>exact h.all _ (fc hi)
 | no _=>exact ⟨by simpa using h0,λ_ q=>by cases q⟩
theorem pA.put {b:List UInt8} {t:Int} {M:ur} {o:Option (Nat×Value)} {xs:List Int} {v:Value} (h:pA b t M) (h0:0<=t) (hl:t+3<=b.length) (f:FindM M (Jf b t) o xs):pA b (t+1) ((Jf b t,v,xs++ [t])::(Option.rec M (λval=>List.eraseIdx M val.fst) o:ur)):=by
 have e0:(Option.rec M (λval=>List.eraseIdx M val.fst) o:ur)=HZ M o:=by cases o<;>rfl
 rw [e0];have hx:=h.find h0 f;have hm:(HZ M o).length<=t/\∀ p∈HZ M o,p∈M:=by
  cases o with
  | none=>exact ⟨h.len,λ_ q=>q⟩
  | some q=>
   refine ⟨?_,λp hp=>List.mem_of_mem_eraseIdx hp⟩;have:=h.len;have:(M.eraseIdx q.1).length<=M.length:=List.length_eraseIdx_le ..;show ((M.eraseIdx q.1).length:Int)<=t;omega
 refine ⟨by simp only [aq];omega,λp hp=>?_⟩;rcases bm.1 hp with rfl| hp
 .refine ⟨by simp only [af,aD];omega,λx q=>?_⟩;rcases aY.1 q with q| q
  .have:=hx.2 x q;exact ⟨this.1,by omega,this.2.2⟩
  .obtain rfl:=aR.1 q;exact ⟨h0,by omega,hl,rfl⟩
 .have:=h.all p (hm.2 p hp);exact ⟨by omega,λx q=>by have:=this.2 x q;exact ⟨this.1,by omega,this.2.2⟩⟩
theorem SB (b:List UInt8) (i:Int):((az (ax (↑(cW (aK (kh (3:Nat)) [rowOf (List.drop (ax i) b) (3:Nat) (0:Nat)] (0:Int)).fst):Int)),az (ax (↑(cW (aK (kh (3:Nat)) [rowOf (List.drop (ax i) b) (3:Nat) (0:Nat)] (0:Int)).snd.fst):Int)),az (ax (↑(cW (aK (kh (3:Nat)) [rowOf (List.drop (ax i) b) (3:Nat) (0:Nat)] (0:Int)).snd.snd.fst):Int))):K3)=Jf b i:=by
 have e:∀ x:UInt8,az (ax (x.toNat:Int))=x:=λx=>by rw [aU,UInt8.ofNat_toNat]
 have g:∀ k,(List.drop (ax i) b).getD k 0=b.getD (i.toNat+k) 0:=λk=>by rw [ba,ba,List.getElem?_drop]
 rw [e,e,e];unfold Jf;rw [<-g 1,<-g 2,<-jP i.toNat,<-g 0];rfl
theorem Qq {M:ur} {k:K3} {o:Option (Nat×Value)} {xs:List Int} (f:FindM M k o xs):(Option.rec M (λval=>List.set M val.fst (k,val.snd,xs)) o:ur)=M:=by
 cases f with
 | «at» i v xs hi=>exact wj hi
 | no _=>rfl
theorem Vc {b:List UInt8} {x y:Int} (h:Jf b x=Jf b y) (hx:x+3<=b.length) (hy:y+3<=b.length) (x0:0<=x) (y0:0<=y) {k:Nat} (hk:k< 3):b[x.toNat+k]?=b[y.toNat+k]?:=by
 unfold Jf at h;have g:∀ j,j< b.length->b[j]?=some (b.getD j 0):=λj hj=>by rw [ba,ak hj];rfl
 rw [g _ (by omega),g _ (by omega)];simp only [Prod.mk.injEq] at h;obtain ⟨h1,h2,h3⟩:=h
 match k,hk with
 | 0,_=>rw [jP,jP,h1]
 | 1,_=>rw [h2]
 | 2,_=>rw [h3]
structure ajR (b:List UInt8) (a n back:Int):Prop where
 or:(n=0/\back=0)\/(3<=n/\n<=130/\1<=back/\back<=256/\back<=a/\a+n<=b.length/\∀ k,k< n.toNat->b[a.toNat+k]?=b[a.toNat - back.toNat+k]?)
end Go.Lm

namespace Go.Proofs
open Go Go.Lm Go.RowKit
set_option maxRecDepth 1000000
def ZI:Ct
 | [.v (.c (.m 0)),.v (.c cb),.v (.c (.k (.int .i64 a))),.v (.c (.k (.int .i64 t)))],[.ab (.ch 321 3 M)],Q=>(match (Ty.sl Ty.u8).of [cb] with
  | some (b,[])=>(0<=a/\a<=t/\t<=b.length)/\b.length<=1000000/\pA b a M/\∀ M',pA b t M'->Q .tx [.ab (.ch 321 3 M')]
  | _=>False)
 | _,_,_=>False
def agl:=agm.add ag0
abbrev UU (y0:Int) (y1:List (Ty.u8).den):=(az (ax (↑(cW (aK (kh eZ) [rowOf (List.drop (ax y0) y1) eZ bD] ah).1):Int)),az (ax (↑(cW (aK (kh eZ) [rowOf (List.drop (ax y0) y1) eZ bD] ah).2.1):Int)),az (ax (↑(cW (aK (kh eZ) [rowOf (List.drop (ax y0) y1) eZ bD] ah).2.2.1):Int)))
abbrev l8 {A0:Type} (y0:List A0) (R:Prop):=List.length y0< 9223372036854775807/\R
abbrev yh (y0:ur):=AbK.ch (321:TypeId) (3:TypeId) y0
abbrev qA (y0) (y1:List (Ty.u8).den):=List.drop (aZ y0) y1
def Ra (b:(List (Ty.u8).den)) (a t:Int) (M:ur):dE:=λQ=>cM b (cj a t (bp (λi ag=>br (decide (i.1.1< t)) (aF .i64 (i.1.1+3)/\(aL (dm b)->br (decide (i.1.1+3<=(aE b))) (0<=i.1.1/\i.1.1<=(aE b)/\3<=List.length (qA i.1.1 b)/\(Ty.ok (kh 
 eZ) (aK (kh eZ) [rowOf (qA i.1.1 b) eZ bD] ah)->l8 i.2.1 (∀ (o:Option (Nat×Value)) (xs:List Int) (st:Nat),FindM i.2.1 (UU i.1.1 b) o xs->(List.length xs+List.length [i.1.1])*8<=cw/\ 
 List.length xs+List.length [i.1.1]<=9223372036854775807/\(↑st:Int)=(↑st:Int)/\∀ (v:Value),cL i.1.1 (ag ((i.1.1+1,()),((UU i.1.1 b),v,xs++ [i.1.1])::Option.rec i.2.1 (λval=>List.eraseIdx i.2.1 val.1) o, 
 ()))))) (Q (SV.cJ []) [HO.ab (yh i.2.1)]))) (Q (SV.cJ []) [HO.ab (yh i.2.1)])) ((a,()),M,())))
theorem agU:cG 192 ZI:=by
 intro args H Q h;unfold ZI at h;split at h;rotate_left;cases h;rename_i cb a t M;split at h;rotate_left;cases h;rename_i b hb;refine Wp.said (args':=[.v (.c (.m 0)),.c (.d Ty.u8 b),.int a,.int t]) (λE g=>bC.cE (λ_ h=>h) (bC.cE (dI hb) (bC.cE (λ_ h=>h) (bC.cE (λ_ h=>h) (λ_ h=>h))))) ?_;clear hb;refine Wp.dJ agl fj ⟨[(2,⟨[(8,.int .i64)],[(0,.ab (.ch 321 3))]⟩)],[]⟩ Tryz.f192 (Ra b a t M) ?_;unfold Ra qA yh dm l8 cj cL cw cM aZ UU ah aE aL bD eZ;obtain ⟨⟨a0,a1,a2⟩,hl,hM,h⟩:=h;intro _ _ _;refine bp.intro (λi=>0<=i.1.1/\i.1.1<=t/\pA b i.1.1 i.2.1) (λi=>(t - i.1.1).toNat) ⟨a0,a1,hM⟩ ?_;rintro ⟨⟨i,_⟩,M1,_⟩ ⟨h0,h1,h2⟩;simp only at h0 h1 h2 ⊢;refine aw (λhc=>⟨by unfold aF;omega,λ_=>aw (λhd=>?_) (λ_=>?_)⟩) (λ_=>?_)
 .have hc:i< t:=of_decide_eq_true hc;have hd:i+3<=(b.length:Int):=of_decide_eq_true hd;rw [SB];refine ⟨h0,by omega,by rw [aN];omega,λ_=>⟨by have:=h2.len;omega,λo xs st hf=>?_⟩⟩;have:=h2.find h0 hf;exact ⟨by simp only [aD];omega,by simp only [aD];omega,trivial,λv=>⟨by unfold aF;omega,⟨by omega,by omega,h2.put h0 hd hf⟩,by omega⟩⟩
 .exact h M1 (h2.later h1)
 .exact h M1 (h2.later h1)
def Tn:Ct
 | [.v (.c (.m 0)),.v (.c cb),.v (.c (.k (.int .i64 a)))],[.ab (.ch 321 3 M)],Q=>(match (Ty.sl Ty.u8).of [cb] with
  | some (b,[])=>(0<=a/\a< b.length)/\b.length<=1000000/\pA b a M/\∀ n k,ajR b a n k->Q (.cJ [.c (.k (.int .i64 n)),.c (.k (.int .i64 k))]) [.ab (.ch 321 3 M)]
  | _=>False)
 | _,_,_=>False
def agk:=agl.add agU
abbrev O0 (y0:SV->List HO->Prop) (y1) (y2) (y3:ur) (y4:Int) (y5:List (Ty.u8).den) (y6:List Int) (y7:Option (Nat×Value)):=y0 (.cJ [.c (.k (aC y1)),.c (.k (aC y2))]) [HO.ab (AbK.ch (321:TypeId) (3:TypeId) (Option.rec y3 (λval=>List.set y3 val.1 ((UU y4 y5),val.2,y6)) y7))]
abbrev ot (y0:Int) (y1:List (Ty.u8).den):=List.drop (aZ y0) y1
abbrev yi:SV:=.cJ [.c (.k a6),.c (.k a6)]
def KW (b:(List (Ty.u8).den)) (a:Int) (M:ur):dE:=λQ=>cM b (aF .i64 a->br (cR a) (Q yi [HO.ab (yh M)]) (aF .i64 (a+3)/\(aL (dm b)->br (decide (a+3>(aE b))) (Q yi [HO.ab (yh M)]) (0<=a/\a<=(aE b)/\3<=List.length (ot a b)/\ 
 (Ty.ok (kh eZ) (aK (kh eZ) [rowOf (ot a b) eZ bD] ah)->∀ (o:Option (Nat×Value)) (xs:List Int),FindM M (UU a b) o xs->aL (List.length xs)->aF .i64 ((aE xs) - 1)/\bp (λi ag=>br (decide 
 (i.1.1≥0)) (0<=i.1.1/\i.1.1< (aE xs)/\0<=i.1.1/\i.1.1< (aE xs)/\(Ty.ok bF (aK bF xs i.1.1)->aF .i64 (a - aK bF xs i.1.1)/\br (decide (a - aK bF xs i.1.1>256)) (O0 Q i.1.2.1 i.1.2.2.1 M a b xs o) (0<=i.1.1 
 /\i.1.1< (aE xs)/\0<=i.1.1/\i.1.1< (aE xs)/\(Ty.ok bF (aK bF xs i.1.1)->(0<=a/\a<=(aE b))/\(0<=aK bF xs i.1.1/\aK bF xs i.1.1< a)/\List.length b<=1000000/\∀ (n:Int),0<=n->n<=130->a+n<=(aE b)-> 
 (∀ (k:Nat),k< ax n->b[ax a+k]?=b[ax (aK bF xs i.1.1)+k]?)->(n< 3->a+n< (aE b)->b[ax a+ax n]?≠b[ax (aK bF xs i.1.1)+ax n]?)->aF .i64 n->br (decide (n> 
 i.1.2.1)) (0<=i.1.1/\i.1.1< (aE xs)/\0<=i.1.1/\i.1.1< (aE xs)/\(Ty.ok bF (aK bF xs i.1.1)->aF .i64 (a - aK bF xs i.1.1)/\aF .i64 (i.1.1 - 1)/\ag ((i.1.1 - 1,n,a - aK bF xs i.1.1,()),()))) (aF .i64 (i.1.1 - 
 1)/\ag ((i.1.1 - 1,i.1.2),())))))) (O0 Q i.1.2.1 i.1.2.2.1 M a b xs o)) (((aE xs) - 1,ah,ah,()),()))))))
theorem ach:cG 191 Tn:=by
 intro args H Q h;unfold Tn at h;split at h;rotate_left;cases h;rename_i cb a M;split at h;rotate_left;cases h;rename_i b hb;refine Wp.said (args':=[.v (.c (.m 0)),.c (.d Ty.u8 b),.int a]) (λE g=>bC.cE (λ_ h=>h) (bC.cE (dI hb) (bC.cE (λ_ h=>h) (λ_ h=>h)))) ?_;clear hb;refine Wp.dJ agk fj ⟨[(6,⟨[(9,.int .i64),(6,.int .i64),(7,.int .i64)],[]⟩)],[]⟩ Tryz.f191 (KW b a M) (clo:=true) ?_;unfold KW yh yi ot O0 dm cR cM aZ a6 UU aC ah aE aL bD eZ bF;obtain ⟨⟨a0,a1⟩,hl,hM,h⟩:=h;have hz:=h 0 0 ⟨.inl ⟨rfl,rfl⟩⟩;intro _ _;refine aw (λ_=>hz) (λ_=>⟨by unfold aF;omega,λ_=>aw (λ_=>hz) (λhc=>?_)⟩);have hc:¬a+3>(b.length:Int):=of_decide_eq_false hc;rw [SB];refine ⟨a0,by omega,by rw [aN];omega,λ_ o xs hf _=>?_⟩;have hb:=Qq hf;have hx:=hM.find a0 hf;refine ⟨by unfold aF;omega,?_⟩;simp only [hb];refine bp.intro (λi=> -1<=i.1.1/\i.1.1< xs.length/\ajR b a i.1.2.1 i.1.2.2.1) (λi=>(i.1.1+1).toNat) ⟨by show -1<=(xs.length:Int) - 1;omega,by show (xs.length:Int) - 1< _;omega,⟨.inl ⟨rfl,rfl⟩⟩⟩ ?_;rintro ⟨⟨i,n,k,_⟩,_⟩ ⟨h0,h1,h2⟩;simp only at h0 h1 h2 ⊢;refine aw (λhc=>?_) (λ_=>h n k h2);have hc:i≥0:=of_decide_eq_true hc;have hm:=hx.2 _ (uF (e:=.int .i64) hc h1);generalize aK (Ty.int IntKind.i64) xs i=x at hm ⊢;refine ⟨hc,h1,hc,h1,λ_=>⟨by unfold aF;omega,aw (λ_=>h n k h2) (λhd=>?_)⟩⟩;have hd:¬a - x>256:=of_decide_eq_false hd;obtain ⟨x0,x1,x2,x3⟩:=hm;refine ⟨hc,h1,hc,h1,λ_=>⟨⟨a0,by omega⟩,⟨x0,x1⟩,by omega,λm m0 m1 m2 m3 m4 _=>aw (λhe=>?_) (λ_=>⟨by unfold aF;omega,⟨by omega,by omega,h2⟩,by omega⟩)⟩⟩;have m5:3<=m:=by
  rcases Int.lt_or_le m 3 with q| q;exact absurd (Vc x3.symm (by omega) x2 a0 x0 (by omega)) (m4 q (by omega));exact q
 exact ⟨hc,h1,hc,h1,λ_=>⟨by unfold aF;omega,by unfold aF;omega,⟨by omega,by omega,⟨.inr ⟨m5,m1,by omega,by omega,by omega,m2,λq hq=>by rw [m3 q hq,show x.toNat=a.toNat - (a - x).toNat by omega]⟩⟩⟩,by omega⟩⟩
def aiP:Ct:=cD .u8 λb=>c0 λQ=>b.length<=4096/\∀ y:List UInt8,DN y b->y.length<=2*b.length->Q (.cJ [.c (.d .u8 y),.c (.k (.int .i64 0))]) []
def agj:=agk.add ach
abbrev Ih (y0:Int):=ax (IntKind.wrap .u8 (y0+125))
abbrev Ic (y0:Int):=ax (IntKind.wrap .u8 (y0 - 1))
def Q8 (b:(List (Ty.u8).den)):dE:=λQ=>cM b (aL (dm b)->br (decide ((aE b)>(4096:Int))) (sw Q) (bp (λi ag=>cM b (br (decide (i.1.1< (aE b))) ((0<=i.1.1/\i.1.1< (aE b))/\List.length b<=1000000/\pA b i.1.1 i.2.1/\∀ (n k: 
 Int),ajR b i.1.1 n k->cj n k (br (n==0) (cL i.1.1 ((0<=i.1.1/\i.1.1<=i.1.1+1/\i.1.1+1<=(aE b))/\List.length b<=1000000/\pA b i.1.1 i.2.1/\∀ (M':ur),pA b (i.1.1+1) M'->cL i.1.1 (ag ((i.1.1+1, 
 i.1.2),M',())))) (0<=i.1.2.1/\i.1.2.1<=i.1.1/\i.1.1<=(aE b)/\∃ pre,DN i.1.2.2.1 pre/\List.length i.1.2.2.1+2*List.length (List.take (ax i.1.1 - ax i.1.2.1) (qA i.1.2.1 b))<=1000000000/\∀ (y:List 
 UInt8),DN y (pre++List.take (ax i.1.1 - ax i.1.2.1) (qA i.1.2.1 b))->List.length y<=List.length i.1.2.2.1+2*List.length (List.take (ax i.1.1 - ax i.1.2.1) (qA i.1.2.1 b))->aF .i64 (n+125)/\ 
 (aF .u8 (IntKind.wrap .u8 (n+125))->aF .i64 (k - 1)/\(aF .u8 (IntKind.wrap .u8 (k - 1))->(List.length y+List.length [az (Ih n),az (Ic k)])*1<=cw/\List.length y+List.length [az (Ih 
 n),az (Ic k)]<=9223372036854775807/\aF .i64 (i.1.1+n)/\(0<=i.1.1/\i.1.1<=i.1.1+n/\i.1.1+n<=(aE b))/\List.length b<=1000000/\pA b i.1.1 i.2.1/\∀ (M':ur),pA b (i.1.1+n) M'->aF .i64 (i.1.1+n)/\ 
 ag ((i.1.1+n,i.1.1+n,y++ [az (Ih n),az (Ic k)],()),M',())))))) (0<=i.1.2.1/\i.1.2.1<=(aE b)/\∃ pre,DN i.1.2.2.1 pre/\List.length i.1.2.2.1+2*List.length (qA i.1.2.1 b)<=1000000000/\∀ 
 (y:List UInt8),DN y (pre++List.drop (aZ i.1.2.1) b)->List.length y<=List.length i.1.2.2.1+2*List.length (qA i.1.2.1 b)->Q nr [.sl 5 Ty.u8 y]))) ((ah,ah,[],()),[],())))
theorem agT:cG 141 aiP:=fz<| lH λb=>iQ λQ h=>by
 refine Wp.aeY (e:=.u8) ?_;refine Wp.dJ agj fj ⟨[(8,⟨[(7,.int .i64),(6,.int .i64),(5,.own 5 .u8)],[(0,.ab (.ch 321 3))]⟩)],[]⟩ Tryz.f141 (Q8 b) ?_;unfold Q8 Ic Ih qA sw dm nr cj cL cw cM dL aZ a6 ah aE aL;obtain ⟨hl,h⟩:=h;refine λ_ _=>aw (λhc=>absurd (of_decide_eq_true hc) (by omega)) (λ_=>?_);refine bp.intro (λi=>0<=i.1.2.1/\i.1.2.1<=i.1.1/\i.1.1<=b.length/\pA b i.1.1 i.2.1/\DN i.1.2.2.1 (b.take i.1.2.1.toNat)/\i.1.2.2.1.length<=2*i.1.2.1.toNat) (λi=>b.length - i.1.1.toNat) ⟨by simp,by simp,by simp,pA.nil b,DN.nil,by simp⟩ ?_;rintro ⟨⟨a,f,x,_⟩,M,_⟩ ⟨h0,h1,h2,h3,h4,h5⟩;simp only at h0 h1 h2 h3 h4 h5 ⊢;refine λ_=>aw (λhc=>?_) (λhc=>?_)
 .have hc:a< (b.length:Int):=of_decide_eq_true hc;have ht:(b.drop f.toNat).take (a.toNat - f.toNat)=(b.take a.toNat).drop f.toNat:=by rw [jk]
  have eK:((b.drop f.toNat).take (a.toNat - f.toNat)).length=a.toNat - f.toNat:=by rw [aA,aN];omega
  have hj:b.take f.toNat++(b.drop f.toNat).take (a.toNat - f.toNat)=b.take a.toNat:=by
   rw [ht];have:=cv f.toNat (b.take a.toNat);rw [eF,dK (by omega)] at this;exact this
  refine ⟨⟨by omega,hc⟩,by omega,h3,λn k hcp _ _=>aw (λhn=>?_) (λhn=>?_)⟩;exact ⟨by unfold aF;omega,⟨by omega,by omega,by omega⟩,by omega,h3,λM' hM=>⟨by unfold aF;omega,⟨by omega,by omega,by omega,hM,h4,h5⟩,by omega⟩⟩
  .have hn:¬n=0:=by simpa using hn
   rcases hcp.or with ⟨q,_⟩| ⟨n0,n1,k0,k1,k2,n2,hk⟩;exact absurd q hn;refine ⟨h0,h1,h2,b.take f.toNat,h4,by rw [eK];omega,λy hy hyl=>?_⟩;rw [hj] at hy;rw [eK] at hyl;have w1:IntKind.wrap .u8 (n+125)=n+125:=oW (by simp [Lit.wf,IntKind.min,kc,eH,gY];omega);have w2:IntKind.wrap .u8 (k - 1)=k - 1:=oW (by simp [Lit.wf,IntKind.min,kc,eH,gY];omega);have e:=hy.copy (n:=n.toNat) (back:=k.toNat) (by omega) (by omega) (by omega) (by omega) (by omega) (by omega) hk;rw [w1,w2,show (n+125).toNat=n.toNat+125 by omega,show (k - 1).toNat=k.toNat - 1 by omega];refine ⟨by unfold aF;omega,λ_=>⟨by unfold aF;omega,λ_=>⟨by simp only [aq,aM];omega,by simp only [aq,aM];omega,by unfold aF;omega,⟨by omega,by omega,n2⟩,by omega,h3,λM' hM=>⟨by unfold aF;omega,⟨by omega,by omega,n2,hM,?_,?_⟩,by omega⟩⟩⟩⟩;rw [show (a+n).toNat=a.toNat+n.toNat by omega];exact e;simp only [af,aq,aM];omega
 .refine ⟨h0,by omega,b.take f.toNat,h4,by rw [aN];omega,λy hy hyl=>?_⟩;rw [cv] at hy;rw [aN] at hyl;exact .inr (.inr ⟨0,5,y,.int .i64 0,rfl,ay _,rfl,h y hy (by omega)⟩)
end Go.Proofs

namespace Go.Lm
open Go
def GI (n:Int):Int:=IntKind.wrap .u8 n
def GH (n:Int):Int:=IntKind.wrap .u8 (kD .i64 n 8)
def DV (n:Int):Int:=dc .xor .u8 (kc .u8) (dc .xor .u8 (GI n) (GH n))
def Vp (n:Int):List UInt8:=[az (GI n).toNat,az (GH n).toNat,az (DV n).toNat]
theorem qR (n:Int):(Vp n).length=3:=rfl
theorem J6 {n:Int}:0<=IntKind.wrap .u8 n/\IntKind.wrap .u8 n< 256:=by
 unfold IntKind.wrap;simp only [gY,eH];constructor;exact Int.emod_nonneg _ (by decide);exact Int.emod_lt_of_pos _ (by decide)
theorem afH {op:BinOp} {x y:Int}:0<=dc op .u8 x y/\dc op .u8 x y< 256:=by unfold dc;exact J6
theorem Pk {n:Int} (h0:0<=n) (h1:n< 256):((az n.toNat).toNat:Int)=n:=by
 rw [UInt8.toNat_ofNat',lS (by omega)];omega
theorem qc (n:Int):((az (GI n).toNat).toNat:Int)=GI n/\((az (GH n).toNat).toNat:Int)=GH n/\((az (DV n).toNat).toNat:Int)=DV n:=
 ⟨Pk J6.1 J6.2,Pk J6.1 J6.2,Pk afH.1 afH.2⟩
theorem ain {n:Int} (h0:0<=n) (h1:n< 65536):dc .or .i64 (GI n) (Aj .i64 (GH n) 8)=n:=by
 have e:=(qc n).2.1;have hw:GI n=n % 256:=by unfold GI IntKind.wrap;simp only [gY,eH];rfl
 have hs:kD .i64 n 8=n / 256:=by
  unfold kD;rw [Int.fdiv_eq_ediv_of_nonneg _ (by decide)];rfl
 have hb:GH n=n / 256:=by
  unfold GH;rw [hs];exact oW (by simp [Lit.wf,IntKind.min,kc,eH,gY];omega)
 have:=Yi (x:=GI n) (i:=1) (c:=az (GH n).toNat) (by decide) (by decide) (by rw [hw];omega) (by rw [hw];show n % 256< 256;omega);rw [e] at this;rw [show (8:Int)=8*1 by rfl,this,hw,hb];show n % 256+n / 256*256=n;omega
theorem acG:∀ l:Fin 256,dc .and .i64 (l.val:Int) 32768=0/\dc .andNot .i64 (l.val:Int) 32768=l.val/\dc .and .i64 ((l.val:Int)+32768) 32768=32768/\dc .andNot .i64 ((l.val:Int)+32768) 32768=l.val:=by decide+kernel
theorem aht {l:Nat} (h:l< 256):dc .and .i64 (l:Int) 32768=0/\dc .andNot .i64 (l:Int) 32768=l/\dc .and .i64 ((l:Int)+32768) 32768=32768/\dc .andNot .i64 ((l:Int)+32768) 32768=l:=acG ⟨l,h⟩
def Ao (T:List Int) (x:List UInt8) (m:Int):List UInt8:=Vp (x.length+m)++if x= [] then [] else aI 4 (cu T 0 x).toNat++x
theorem Yb (T:List Int):Ao T [] 0=Vp 0:=by unfold Ao;rw [if_pos rfl,aW];rfl
theorem IL {T:List Int} {x:List UInt8} {m:Int} (h:x≠ []):Ao T x m=Vp (x.length+m)++(aI 4 (cu T 0 x).toNat++x):=by unfold Ao;rw [if_neg h]
structure DM (T:List Int) (b x:List UInt8):Prop where
 or:(b= []/\x=Vp 0)\/∃ (p:List UInt8) (m:Int),0< b.length/\b.length<=128/\0< p.length/\p.length<=b.length/\(m=0/\DN p b\/m=32768/\p=b)/\x=Vp (p.length+m)++(aI 4 (cu T 0 p).toNat++p)
theorem DM.len {T:List Int} {b x:List UInt8} (h:DM T b x):3<=x.length/\x.length<=b.length+7:=by
 rcases h.or with ⟨rfl,rfl⟩| ⟨p,m,_,_,h3,h4,_,rfl⟩;exact ⟨ay 3,by decide⟩;rw [af,af,qR,aB];omega
theorem H9 {x y:List UInt8} {n:Int} (h:n=x.length):iZ (x++y) n=x/\F7 (x++y) n=0/\kF (x++y) n=y:=by
 have hn:¬n>((x++y).length:Int):=by rw [af];omega
 have e:n.toNat=x.length:=by omega
 unfold iZ F7 kF;rw [if_neg hn,if_neg hn,if_neg hn,e,List.take_left,eV];exact ⟨rfl,rfl,rfl⟩
theorem SP (n:Int):(GI n==((az (GI n).toNat).toNat:Int)&& (GH n==((az (GH n).toNat).toNat:Int)&& (DV n==((az (DV n).toNat).toNat:Int)&& true)))=true:=by
 rw [(qc n).1,(qc n).2.1,(qc n).2.2];simp
theorem adJ {n:Int} (h0:0<=n) (h1:n< 65536):dc .or .i64 ((aK .u8 (Vp n) 0).toNat:Int) (Aj .i64 ((aK .u8 (Vp n) 1).toNat:Int) 8)=n:=by
 show dc .or .i64 ((az (GI n).toNat).toNat:Int) (Aj .i64 ((az (GH n).toNat).toNat:Int) 8)=n;rw [(qc n).1,(qc n).2.1];exact ain h0 h1
structure Cut (im:List UInt8) (a:Int) (p:List UInt8) (s:Int) (st:Bool) (nx:Int):Prop where
 at0:0<=a
 at1:a<=im.length
 or:(p= []/\s=0/\st=false/\nx=a+3/\∃ r,im.drop a.toNat=Vp 0++r)\/(0< p.length/\p.length<=128/\nx=a+7+p.length/\(0<=s/\s<=4294967295)/\∃ r,im.drop a.toNat=Vp (p.length+if st then 32768 else 0)++(aI 4 s.toNat++(p++r)))
structure En (T:List Int) (im:List UInt8) (a:Int) (b:List UInt8) (nx:Int):Prop where
 at0:0<=a
 at1:a<=im.length
 ex:∃ x r,DM T b x/\im.drop a.toNat=x++r/\nx=a+x.length
structure ajQ (im:List UInt8) (a:Int) (p:List UInt8) (s:Int) (st:Bool) (nx e:Int):Prop where
 or:(a=im.length/\p= []/\s=0/\st=false/\nx=0/\e=2)\/(e=0/\Cut im a p s st nx)
structure FrE (T:List Int) (im:List UInt8) (a:Int) (b:List UInt8) (nx e:Int):Prop where
 or:(a=im.length/\b= []/\nx=0/\e=2)\/(e=0/\En T im a b nx)
theorem Cut.head {im:List UInt8} {a:Int} {p:List UInt8} {s:Int} {st:Bool} {nx:Int} (h:Cut im a p s st nx):p.length<=128/\(st=true->0< p.length)/\∃ q,im.drop a.toNat=Vp (p.length+if st then 32768 else 0)++q/\((p= []/\s=0/\st=false/\nx=a+3)\/(0< p.length/\nx=a+7+p.length/\(0<=s/\s<=4294967295)/\∃ r,q=aI 4 s.toNat++(p++r))):=by
 rcases h.or with ⟨rfl,rfl,rfl,h4,r,h5⟩| ⟨h1,h2,h3,h4,r,h5⟩;exact ⟨by simp,by simp,r,h5,.inl ⟨rfl,rfl,rfl,h4⟩⟩;exact ⟨h2,λ_=>h1,_,h5,.inr ⟨h1,h3,h4,r,rfl⟩⟩
theorem ahs {l:Nat} {st:Bool} (h:l< 256):(dc .and .i64 ((l:Int)+if st then 32768 else 0) 32768 !=0)=st/\dc .andNot .i64 ((l:Int)+if st then 32768 else 0) 32768=l:=by
 obtain ⟨a,b,c,d⟩:=aht h;cases st;simp [a,b];simp [c,d]
theorem ae7 {s:Int} (h0:0<=s) (h1:s<=4294967295):IntKind.wrap .u32 (bL (aI 4 s.toNat))=s:=by
 rw [CM 4 s.toNat (by omega),Int.toNat_of_nonneg h0];exact oW (by simp [Lit.wf,IntKind.min,kc,eH,gY];omega)
theorem En.cut {T:List Int} {im:List UInt8} {a:Int} {b:List UInt8} {nx:Int} (h:En T im a b nx) (hk:∀ p,0<=cu T 0 p/\cu T 0 p<=4294967295):∃ p s st,Cut im a p s st nx/\((p= []/\b= [])\/(0< p.length/\0< b.length/\b.length<=128/\s=cu T 0 p/\(st=true/\p=b\/st=false/\DN p b))):=by
 obtain ⟨a0,a1,x,r,hx,hd,hn⟩:=h;rcases hx.or with ⟨rfl,rfl⟩| ⟨p,m,b0,b1,p0,p1,hm,rfl⟩;exact ⟨[],0,false,⟨a0,a1,.inl ⟨rfl,rfl,rfl,hn,r,hd⟩⟩,.inl ⟨rfl,rfl⟩⟩
 .have hl:((Vp (p.length+m)++(aI 4 (cu T 0 p).toNat++p)).length:Int)=7+p.length:=by rw [af,af,qR,aB];omega
  rw [hl] at hn;rw [aG,aG] at hd;rcases hm with ⟨rfl,he⟩| ⟨rfl,rfl⟩;exact ⟨p,cu T 0 p,false,⟨a0,a1,.inr ⟨p0,by omega,by omega,hk p,r,hd⟩⟩,.inr ⟨p0,b0,b1,rfl,.inr ⟨rfl,he⟩⟩⟩;exact ⟨p,cu T 0 p,true,⟨a0,a1,.inr ⟨p0,by omega,by omega,hk p,r,hd⟩⟩,.inr ⟨p0,b0,b1,rfl,.inl ⟨rfl,rfl⟩⟩⟩
theorem al6 {op:BinOp} {x y:Int}:0<=dc op .u32 x y/\dc op .u32 x y<=4294967295:=by
 unfold dc IntKind.wrap;simp only [gY,eH];have:∀ z:Int,0<=z % 4294967296/\z % 4294967296<=4294967295:=λz=>by omega
 exact this _
theorem yS (T:List Int) (s:Int) (p:List UInt8):0<=cu T s p/\cu T s p<=4294967295:=by unfold cu Jy;exact al6
open Go Go.RowKit
def XB (l:Nat) (d:Cl):HO->HO
 | .cells t cs=>.cells t (RJ l d cs)
 | o=>o
def uI (n0:Nat):List Nat->SV->List HO->(SV->List HO->Prop)->Prop
 | [],sv,H',k=>k sv H'
 | l::r,sv,H',k=>match Nat.ble n0 l,lJ H' l with
  | true,.sl _ e xs=>uI n0 r (ahq l (.d e xs) sv) ((H'.set l .gone).map (XB l (.d e xs))) k
  | true,.held _ e xs=>uI n0 r (ahq l (.d e xs) sv) (H'.map (XB l (.d e xs))) k
  | _,_=>uI n0 r sv H' k
def tyS:Option Ty->S1->S1
 | some e,.c c=>match e.of [c] with
  | some (x,[])=>(match e.cells x with
   | [c']=>.c c'
   | _=>.c c)
  | _=>.c c
 | some e,.agg cs=>match e.of cs with
  | some (x,[])=>.agg (e.cells x)
  | _=>.agg cs
 | none,x=>x
def ahm:List (Option Ty)->List S1->List S1
 | t::ts,x::r=>tyS t x::ahm ts r
 | _,l=>l
def tyV:List (Option Ty)->SV->SV
 | [t],.v x=>.v (tyS t x)
 | ts,.cJ l=>.cJ (ahm ts l)
 | _,x=>x
section
variable {E:Env} {g:World}
theorem RS {t:Option Ty} {x:S1} {u:Value} (h:gm E g x u):gm E g (tyS t x) u:=by
 unfold tyS;split
 .rename_i e c;split
  .rename_i x hx;split
   .rename_i c' hc;obtain ⟨u1,u2,e1,h1,h2⟩:=of_cells e hx (show bA E g [c] [u] from ⟨u,[],rfl,h,rfl⟩);obtain rfl:u2= []:=h2;rw [aW] at e1;subst e1;have h3:=(eY E g e h1).1;rw [hc] at h3;obtain ⟨u',r,e2,h4,h5⟩:=h3;obtain rfl:=(List.cons.inj e2).1;exact h4
   .exact h
  .exact h
 .rename_i e cs;split
  .rename_i x hx;obtain ⟨us,h1,rfl⟩:=h;obtain ⟨u1,u2,e1,h3,h2⟩:=of_cells e hx h1;obtain rfl:u2= []:=h2;rw [aW] at e1;subst e1;exact ⟨_,(eY E g e h3).1,rfl⟩
  .exact h
 .exact h
theorem L6:∀ {ts:List (Option Ty)} {l:List S1} {us:List Value},gW E g l us->gW E g (ahm ts l) us
 | _::_,_::_,_,⟨u,r,e,h1,h2⟩=>⟨u,r,e,RS h1,L6 h2⟩
 | [],[],_,h=>h
 | [],_::_,_,h=>h
 | _::_,[],_,h=>h
theorem acT {ts:List (Option Ty)} {x:SV} {u:Value} (h:df E g x u):df E g (tyV ts x) u:=by
 unfold tyV;split;exact RS h
 .obtain ⟨us,h1,h2⟩:=h;exact ⟨us,L6 h1,h2⟩
 .exact h
theorem BQ {f:HO->HO} {F:List Atom} (hf:∀ (k:Nat) (o:HO) (h:Hp),(cF E k o).sat g h->(cF E k (f o)).sat g h):∀ {H:List HO} {k:Nat} {h:Hp},bq g (bj E k H++F) h->bq g (bj E k (H.map f)++F) h
 | [],_,_,s=>s
 | _::_,_,_,⟨h1,h2,ap,e,s1,s2⟩=>⟨h1,h2,ap,e,hf _ _ _ s1,BQ hf s2⟩
theorem Hn {l:Nat} {d:Cl} (hd:∀ u,E[l]?=some u->cr E g d u) {k:Nat} {o:HO} {h:Hp} (s:(cF E k o).sat g h):(cF E k (XB l d o)).sat g h:=by
 cases o with
 | cells t cs=>
  obtain ⟨b,us,h1,h2,h3⟩:=s;exact ⟨b,us,h1,xQ hd h2,h3⟩
 | _=>exact s
end
section
variable {P:Program} {I:cQ->Prop} {f:FuncId} {args:List SV} {H:List HO} {Q Q':SV->List HO->Prop}
theorem Wp.ald {n0:Nat} {ls:List Nat} (h:Wp I P f args H λsv H'=>uI n0 ls sv H' Q):Wp I P f args H Q:=λW hW g w E F vs hs hv=>
 (h W hW g w E F vs hs hv).mono λv w' ⟨E1,g1,sv,H1,e1,m1,s1,r1,q⟩=>by
  have key:∀ (ls:List Nat) (g1:World) (sv:SV) (H1:List HO),bx g g1->Sat W E1 g1 w' H1 F->df E1 g1 sv v->uI n0 ls sv H1 Q->∃ g2 sv2 H2,bx g g2/\Sat W E1 g2 w' H2 F/\df E1 g2 sv2 v/\Q sv2 H2:=by
   intro ls
   induction ls with
   | nil=>intro g1 sv H1 m1 s1 r1 q;exact ⟨g1,sv,H1,m1,s1,r1,q⟩
   | cons l ls ih=>
    intro g1 sv H1 m1 s1 r1 q;unfold uI at q;split at q
    .rename_i t e xs _ eh;have eK:l< H1.length:=by
      rcases dZ l H1.length with z| z;exact z;rw [nO z] at eh;cases eh
     have hl:H1[l]?=some (.sl t e xs):=by
      rw [ak eK,<-eh,mz (ak eK)]
     obtain ⟨u,hE⟩:∃ u,E1[l]?=some u:=⟨E1[l]'(by rw [s1.len];exact eK),ak _⟩;letI:=e.rep;have H2:SL W g1 w' (pj e t u xs::dC (bj E1 0 H1++F) l):=(s1.pick hl).cz λk ⟨h1,h2,ap,q,⟨u',x1,x2⟩,x3⟩=>⟨h1,h2,ap,q,by
      rw [hE] at x1;obtain rfl:=aj x1;exact x2,x3⟩
     obtain ⟨g2,m2,H3,hi⟩:=SL.qt (α:=e.den) H2;have S3:Sat W E1 g2 w' (H1.set l .gone) F:=Sat.back .gone s1.len hl (H3.cz λk s2=>⟨λ_=>none,k,λ_=>.inl rfl,rfl,trivial,s2⟩);have hd:∀ u',E1[l]?=some u'->cr E1 g2 (.d e xs) u':=λu' hu=>by
      rw [hE] at hu;obtain rfl:=aj hu;exact hi
     have S4:Sat W E1 g2 w' ((H1.set l .gone).map (XB l (.d e xs))) F:=⟨S3.sl.cz λ_ x=>BQ (λ_ _ _=>Hn hd) x,by rw [bH];exact S3.len⟩;exact ih g2 _ _ (m1.trans m2) S4 (L5 hd (r1.mono (bw.refl _) m2)) q
    .rename_i t e xs _ eh;have eK:l< H1.length:=by
      rcases dZ l H1.length with z| z;exact z;rw [nO z] at eh;cases eh
     have hl:H1[l]?=some (.held t e xs):=by
      rw [ak eK,<-eh,mz (ak eK)]
     obtain ⟨_,_,_,_,h1,h2,_,_,⟨u,hE,hi⟩,_⟩:=s1.pick hl;have hd:∀ u',E1[l]?=some u'->cr E1 g1 (.d e xs) u':=λu' hu=>by
      rw [hE] at hu;obtain rfl:=aj hu;exact hi
     have S4:Sat W E1 g1 w' (H1.map (XB l (.d e xs))) F:=⟨s1.sl.cz λ_ x=>BQ (λ_ _ _=>Hn hd) x,by rw [bH];exact s1.len⟩;exact ih g1 _ _ m1 S4 (L5 hd r1) q
    .exact ih g1 sv H1 m1 s1 r1 q
  obtain ⟨g2,sv2,H2,m2,s2,r2,q2⟩:=key ls g1 sv H1 m1 s1 r1 q;exact ⟨E1,g2,sv2,H2,e1,m2,s2,r2,q2⟩
theorem Wp.lq (ts:List (Option Ty)) (ls:List Nat) (h:Wp I P f args H λsv H'=>uI H.length ls sv H' λsv H'=>H.length<=H'.length/\Q ((tyV ts sv).fp (ic (bN H.length))) (Ls H.length H')):Wp I P f args H Q:=
 Wp.sel (Wp.res (Wp.ald (n0:=H.length) (ls:=ls) (h.mono λsv H' q=>by
  have key:∀ (ls:List Nat) (sv:SV) (H':List HO),uI H.length ls sv H' (λsv H'=>H.length<=H'.length/\Q ((tyV ts sv).fp (ic (bN H.length))) (Ls H.length H'))->uI H.length ls sv H' (λsv H'=>∃ JY,(∀ E g v,df E g sv v->df E g JY v)/\∃ ls:List Nat,ls.take H.length=bN H.length/\ls.Nodup/\(∀ l∈ls,l< H'.length)/\Q (JY.fp (ic ls)) (ls.map λl=>(lJ H' l).fp (ic ls))):=by
   intro ls
   induction ls with
   | nil=>exact λsv H' ⟨hl,q⟩=>⟨tyV ts sv,λE g v h=>acT h,bN H.length,by rw [OT _ _ (ay _)],List.nodup_range,λl wX=>by have:=dd.1 wX;omega,q⟩
   | cons l ls ih=>
    intro sv H' q;unfold uI at q ⊢;split at q;exact ih _ _ q;exact ih _ _ q;exact ih _ _ q
  exact key ls sv H' q)))
theorem Wp.ae6 (h:Wp I P f args H λsv H'=>Q sv (H'.map λ_=>HO.gone)):Wp I P f args H Q:=
 h.fin λW E g w F H' sv s q=>⟨g,_,bx.refl g,⟨s.sl.cz λ_ x=>by
  have key:∀ (H:List HO) (k:Nat) (h:Hp),bq g (bj E k H++F) h->bq g (bj E k (H.map λ_=>HO.gone)++F) h:=by
   intro H
   induction H with
   | nil=>exact λ_ _ s=>s
   | cons o H ih=>exact λk h ⟨h1,h2,ap,e,s1,s2⟩=>⟨h1,h2,ap,e,trivial,ih _ _ s2⟩
  exact key _ _ _ x,by rw [bH];exact s.len⟩,q⟩
end
end Go.Lm

namespace Go.Proofs
open Go Go.Lm Go.RowKit
set_option maxRecDepth 1000000
abbrev afw:Ty:=.pair (.sl .u8) (.pair (.int .u32) (.pair .bool (.pair (.int .i64) .unit)))
def aiZ:Ct:=cI λn=>c0 λQ=>Q (.v (.agg [.k (.int .u8 (GI n)),.k (.int .u8 (GH n)),.k (.int .u8 (DV n))])) []
def agi:=agj.add agT
abbrev O4 (y0:Int):=dc BinOp.xor .u8 (if eH .u8=true then (-1:Int) else kc .u8) (dc BinOp.xor .u8 (IntKind.wrap .u8 y0) (IntKind.wrap .u8 (kD .i64 y0 iA)))
abbrev jC:=(↑eZ:Int)
abbrev Ib (y0:Int):=IntKind.wrap .u8 (kD .i64 y0 iA)
def Rp (n:Int):dE:=λQ=>aF .i64 n->aF .u8 (qy n)->ah<=iA/\(aF .i64 (kD .i64 n iA)->aF .u8 (Ib n)->ah<=ah/\ah< jC/\ah<=bd/\bd< jC/\(aF .u8 (dc BinOp.xor .u8 (qy n) (Ib n))->aF 
 .u8 (O4 n)->ah<=di/\di< jC/\Q (SV.v (S1.agg [.k (.int .u8 (qy n)),.k (.int .u8 (Ib n)),.k (.int .u8 (O4 n))])) []))
theorem ag6:cG 140 aiZ:=fz<| nG λn=>iQ λQ h=>by
 refine Wp.dJ agi fj ⟨[],[]⟩ Tryz.f140 (Rp n) (hold:=[92]) ?_;unfold Rp Ib qy jC O4 ah bd di iA eZ;exact λ_ _=>⟨by decide,λ_ _=>⟨by decide,by decide,by decide,by decide,λ_ _=>⟨by decide,by decide,h⟩⟩⟩
def G8:Ct
 | [.v (.c cx),.v (.c (.k (.int .i64 m))),.v (.c (.p 0 0)),.v (.c (.p 1 0))],[.cells 174 [.k (.int .i64 0),.k (.slice none 0 0)],.cells 84 [.de (.int .u32) T 0 0]],Q=>(match (Ty.sl Ty.u8).of [cx] with
  | some (x,[])=>T.length=256/\x.length<=128/\(0<=m/\m<=32768)/\((0<=cu T 0 x/\cu T 0 x<=4294967295)->Q (.cJ [.c (.d .u8 (Ao T x m)),.c (.k (.int .i64 0))]) [.cells 174 [.k (.int .i64 0),.JX],.cells 84 [.de (.int .u32) T 0 0]])
  | _=>False)
 | _,_,_=>False
def agh:=agi.add ag6
abbrev Ml (y0:List (Ty.u8).den) (y1:Int) (y2:List Int):=[]++ [az (ax (GI ((aE y0)+y1))),az (ax (GH ((aE y0)+y1))),az (ax (DV ((aE y0)+y1)))]++aI cU (ax (cu y2 ah y0))++y0
abbrev Gd (y0:List (Ty.u8).den) (y1:Int):=[]++ [az (ax (GI ((aE y0)+y1))),az (ax (GH ((aE y0)+y1))),az (ax (DV ((aE y0)+y1)))]
abbrev eW:=(9223372036854775807:Nat)
abbrev Iz (y0:List Int) (y1:List (Ty.u8).den) (R:Prop):=aF .u32 (cu y0 ah y1)->ah=ah/\(bd<=cC/\cC<=cC)/\(0<=cu y0 ah y1/\cu y0 ah y1< 256 ^ cU)/\R
abbrev j5:=(100000000000:Nat)
abbrev gZ (y0:List (Ty.u8).den) (R:Prop):=List.length y0<=100000000/\R
def Bh (x:(List (Ty.u8).den)) (m:Int) (T:List Int):dE:=λQ=>cM x (aF .i64 m->aL (dm x)->aF .i64 ((aE x)+m)/\(aF .u8 (GI ((aE x)+m))->aF .u8 (GH ((aE x)+m))->aF .u8 (DV ((aE x)+m))->eZ<=eW/\0<=cn none 0/\cn none 0< jC/\ 
 cn none 0<=cn none jC/\cn none jC<=jC/\bt (bD<=j5/\List.length [az (ax (GI ((aE x)+m))),az (ax (GH ((aE x)+m))),az (ax (DV ((aE x)+ 
 m)))]<=100000000/\(aL (dm x)->br (decide ((aE x)>ah)) (dO T (Iz T x (List.length (Gd x m)<=100000000000/\bt (List.length ([]++ [az (ax (GI ((aE x)+m))),az (ax (GH 
 ((aE x)+m))),az (ax (DV ((aE x)+m)))]++aI cU (ax (cu T ah x)))<=100000000000/\gZ x (bt (List.length (Ml x m T)<=100000000000/\(List.length (Ml x m T)<=9223372036854775807-> 
 aF .i64 0->Q (SV.cJ [S1.c (Cl.d Ty.u8 (Ml x m T)),.c (.k a6)]) [.cells 174 [.k a6,.o 2],.cells 84 [Cl.de (.int .u32) T ah bD],.sl 5 Ty.u8 (Ml x m T)]))))))) (bt (List.length (Gd x m)<=100000000000/\ 
 (List.length (Gd x m)<=9223372036854775807->aF .i64 0->Q (SV.cJ [S1.c (Cl.d Ty.u8 (Gd x m)),.c (.k a6)]) [.cells 174 [.k a6,.o 2],.cells 84 [Cl.de (.int .u32) T ah bD],.sl 5 Ty.u8 (Gd x m)])))))))
theorem Ua:cG 139 G8:=by
 intro args H Q h;unfold G8 at h;split at h;rotate_left;cases h;rename_i cx m T;split at h;rotate_left;cases h;rename_i x hx;refine Wp.said (args':=[.c (.d Ty.u8 x),.int m,.v (.c (.p 0 0)),.v (.c (.p 1 0))]) (λE g=>bC.cE (dI hx) (bC.cE (λ_ h=>h) (bC.cE (λ_ h=>h) (bC.cE (λ_ h=>h) (λ_ h=>h))))) ?_;clear hx;refine Wp.lq [some (.sl .u8),none] [] ?_;refine Wp.dJ agh fj ⟨[],[]⟩ Tryz.f139 (Bh x m T) (hold:=[92]) ?_;unfold Bh jC gZ j5 bt Iz dm dO eW Gd Ml cM a6 ah bd cC aE aL bD bK eZ cU;obtain ⟨hT,hx,⟨m0,m1⟩,h⟩:=h;intro _ _ _;refine ⟨by unfold aF;omega,λ_ _ _=>⟨by decide,by decide,by decide,by decide,by decide,rfl,by decide,by show 3<=100000000;omega,λ_=>aw (λhc=>⟨hT,λhk=>?_⟩) (λhc=>?_)⟩⟩
 .have hc:(x.length:Int)>0:=of_decide_eq_true hc;have gx:¬x= []:=λe=>by rw [e] at hc;simp at hc
  have hk:0<=cu T 0 x/\cu T 0 x<=4294967295:=hk;rw [IL gx] at h;refine ⟨rfl,⟨by decide,by decide⟩,⟨hk.1,by have:=hk.2;show _< (4294967296:Int);omega⟩,by simp only [af,aq,aM];omega,rfl,by simp only [af,aB,aq,aM];omega,by omega,rfl,by simp only [af,aB,aq,aM];omega,λ_ _=>⟨by simp,?_⟩⟩;have h2:=h hk;rw [<-aG] at h2;exact h2
 .have hc:¬(x.length:Int)>0:=of_decide_eq_false hc;have he:x= []:=aJ (by omega);subst he;have h2:=h (yS T 0 []);unfold Ao at h2;rw [if_pos rfl,aW] at h2;exact ⟨rfl,by simp only [af,aq,aM];omega,λ_ _=>⟨by simp,h2⟩⟩
def alS:Ct:=cT λT=>cD .u8 λb=>c0 λQ=>T.length=256/\b.length<=128/\∀ x,DM T b x->Q (.cJ [.c (.d .u8 x),.c (.k (.int .i64 0))]) []
def agf:=agh.add Ua
abbrev kH:=(32768:Int)
def Xd (T:List Int) (b:(List (Ty.u8).den)):dE:=λQ=>cM b (aL (dm b)->br (decide ((aE b)>bG)) (sw Q) (aL (dm b)->br ((aE b)==0) (dO T (bD<=gg/\(ah<=ah/\ah<=kH)/\(0<=cu T ah []/\cu T ah []<= 
 4294967295->aL (List.length (Ao T [] ah))->aF .i64 0->Q (SV.cJ [S1.c (Cl.d Ty.u8 (Ao T [] ah)),.c (.k a6)]) []))) (List.length b<=4096/\∀ (y:List UInt8),DN y b->List.length y<=2*List.length b->cY y (aF 
 .i64 0->cY y (aL (dm b)->br (decide ((aE y)< (aE b))) (dO T (List.length y<=128/\(ah<=ah/\ah<=kH)/\(0<=cu T ah y/\cu T ah y<=4294967295->aL (List.length (Ao T y ah))->aF 
 .i64 0->Q (SV.cJ [S1.c (Cl.d Ty.u8 (Ao T y ah)),.c (.k a6)]) []))) (dO T (List.length b<=128/\(ah<=kH/\kH<=kH)/\(0<=cu T ah b/\cu T ah b<=4294967295->aL (List.length (Ao T b 
 kH))->aF .i64 0->Q (SV.cJ [S1.c (Cl.d Ty.u8 (Ao T b kH)),.c (.k a6)]) []))))))))
theorem akh:cG 89 alS:=fz<| okT λT=>lH λb=>iQ λQ h=>by
 refine Wp.lq [some (.sl .u8),none] [] ?_;refine Wp.dJ agf fj ⟨[],[]⟩ Tryz.f89 (Xd T b) (hold:=[92]) ?_;unfold Xd kH sw dm cY dO cM dL a6 ah bG aE aL bD gg bK;obtain ⟨hT,hb,h⟩:=h;refine λ_ _=>aw (λhc=>absurd (of_decide_eq_true hc) (by omega)) (λ_=>λ_=>aw (λhc=>?_) (λhc=>?_))
 .have hc:(b.length:Int)=0:=eq_of_beq hc;have he:b= []:=aJ (by omega);subst he;refine ⟨hT,by decide,by decide,λ_ _ _=>⟨ay _,?_⟩⟩;rw [Yb];exact h _ ⟨.inl ⟨rfl,rfl⟩⟩
 .have hc:¬(b.length:Int)=0:=by simpa using hc
  refine ⟨by omega,λy hy hyl _ _ _ _=>aw (λhd=>?_) (λhd=>?_)⟩
  .have hd:(y.length:Int)< b.length:=of_decide_eq_true hd;have hy0:y≠ []:=λe=>by
    subst e;have:=hy.done;rw [wb] at this;have:=aj this;subst this;simp at hd
   have:=List.length_pos_iff.2 hy0;refine ⟨hT,by omega,by decide,λ_ _ _=>⟨ay _,?_⟩⟩;rw [IL hy0];exact h _ ⟨.inr ⟨y,0,by omega,hb,by omega,by omega,.inl ⟨rfl,hy⟩,rfl⟩⟩
  .have hb0:b≠ []:=λe=>by rw [e] at hc;simp at hc
   refine ⟨hT,hb,by decide,λ_ _ _=>⟨ay _,?_⟩⟩;rw [IL hb0];exact h _ ⟨.inr ⟨b,32768,by omega,hb,by omega,ay _,.inr ⟨rfl,rfl⟩,rfl⟩⟩
def ai1:Ct:=cD .u8 λb=>cI λa=>c0 λQ=>b.length<=100000000/\∃ p s st nx e,ajQ b a p s st nx e/\Q (.cJ [.agg (afw.cells (p,s,st,nx,())),.c (.k (.int .i64 e))]) []
def age:=agf.add akh
abbrev zK (y0:SV->List HO->Prop):=y0 (SV.cJ [S1.agg [.k (.slice none 0 0),.k (.int .u32 ah),.k (.bool false),.k a6],.c (.k (.int .i64 2))]) []
abbrev ru (y0:Int) (y1:List (Ty.u8).den):=iZ (List.drop (aZ y0) y1) lh
abbrev Ga (y0:Int) (y1:List (Ty.u8).den):=aK (kh eZ) [rowOf (ru y0 y1) eZ bD] ah
abbrev vt (y0:Int) (y1:List (Ty.u8).den):=kF (List.drop (aZ y0) y1) lh
abbrev O5 (y0) (y1:Int) (y2:List (Ty.u8).den):=((GI y0==(↑(cW (Ga y1 y2).1):Int)&& (GH y0==(↑(cW (Ga y1 y2).2.1):Int)&& (DV y0==(↑(cW (Ga y1 y2).2.2.1):Int)&& true)),()),())
abbrev It (y0:Int) (y1:List (Ty.u8).den):=Aj .i64 (↑(cW (aK Ty.u8 (ru y0 y1) bd)):Int) iA
abbrev xU (y0:Int) (y1:List (Ty.u8).den):=List.drop 4 (vt y0 y1)
def Rr (b:(List (Ty.u8).den)) (a:Int):dE:=λQ=>cM b (aF .i64 a->br (cR a) (zK Q) (aL (dm b)->br (decide (a>(aE b))) (zK Q) (0<=a/\a<=(aE b)/\fa (List.length (ot a b))/\bt (ah<=lh/\fa (List.length (ot a b))/\(aL 
 (List.length (ru a b))->aF .i64 (F7 (ot a b) lh)->br (F7 (ot a b) lh !=0) (zK Q) (cV (λk=>ah<=ah/\ah< (a7 (ru a b))/\(Ty.ok Ty.u8 (aK Ty.u8 (ru a b) ah)->ah<=bd/\bd< 
 (a7 (ru a b))/\(Ty.ok Ty.u8 (aK Ty.u8 (ru a b) bd)->ah<=iA/\(aF .i64 (It a b)->aF .i64 (dc BinOp.or .i64 (↑(cW (aK Ty.u8 (ru a b) ah)):Int) (It a b))->k ((dc BinOp.or .i64 
 (↑(cW (aK Ty.u8 (ru a b) ah)):Int) (It a b),()),()))))) λi=>cV (λk=>(aF .u8 (GI i.1.1)->aF .u8 (GH i.1.1)->aF .u8 (DV i.1.1)->3<=List.length (ru a b)/\(Ty.ok (kh eZ) (Ga a b)->k 
 (O5 i.1.1 a b)))/\3<=List.length (ru a b)/\(Ty.ok (kh eZ) (Ga a b)->aF .u8 (GI i.1.1)->aF .u8 (GH i.1.1)->aF .u8 (DV i.1.1)->k (O5 i.1.1 a b))) λdu=>aF .i64 (dc BinOp.and .i64 i.1.1 kH)->aF 
 .i64 (a+3)/\cV (λk=>aF .i64 (dc BinOp.andNot .i64 i.1.1 kH)->k ((dc BinOp.andNot .i64 i.1.1 kH,()),())) λkV=>cV (λk=>br (!du.1.1) (zK Q) (br (decide (kV.1.1>128)) (zK Q) (br (kV.1.1== 
 0) (br (dc BinOp.and .i64 i.1.1 kH !=0) (zK Q) (k ((),()))) (k ((),()))))) λiT=>cV (λk=>br (decide (kV.1.1>0)) (F7 (ot a b) lh=ah/\bd<=cC/\cC<=cC/\cC<=(a7 (vt a b))/\ 
 fa (List.length (vt a b))/\(aF .i64 (bL (List.take cU (vt a b)))->aF .u32 (IntKind.wrap .u32 (bL (List.take cU (vt a b))))->bt (0<=kV.1.1/\fa (List.length (xU a b))/\(List.length (iZ (xU a 
 b) kV.1.1)<=9223372036854775807->aF .i64 (cC+kV.1.1)/\aF .i64 (a+3+(cC+kV.1.1))/\k ((),(F7 (xU a b) kV.1.1,kF (xU a b) kV.1.1,()),(iZ (xU a b) kV.1.1,IntKind.wrap .u32 (bL (List.take 
 cU (vt a b))),dc BinOp.and .i64 i.1.1 kH !=0,a+3+(cC+kV.1.1),()),()))))) (k ((),(F7 (ot a b) lh,kF (ot a b) lh,()),([],ah,dc BinOp.and .i64 i.1.1 kH !=0,a+3,()),()))) fun 
 i=>aF .i64 i.2.1.1->br (i.2.1.1 !=0) (zK Q) (Q (SV.cJ [S1.agg [Cl.d Ty.u8 i.2.2.1.1,.k (.int .u32 i.2.2.1.2.1),.k (.bool i.2.2.1.2.2.1),.k (aC i.2.2.1.2.2.2.1)],.c (.k a6)]) [])))))))
theorem ag9:cG 109 ai1:=fz<| lH λb=>nG λa=>iQ λQ h=>by
 refine Wp.lq [some afw,none] [] ?_;refine Wp.dJ age fj ⟨[],[(9,⟨[(8,.int .i64)],[]⟩),(10,⟨[(9,.bool)],[]⟩),(12,⟨[(8,.int .i64)],[]⟩),(14,⟨[],[]⟩),(18,⟨[],[(1,.cells 187 [.int .i64,.d .u8]),(2,.cells 197 [.d .u8,.int .u32,.bool,.int .i64])]⟩)]⟩ Tryz.f109 (Rr b a) (hold:=[92]) ?_;unfold Rr xU kH ot bt It dm O5 cR vt Ga ru zK cM aZ a6 aC ah bd lh cC iA a7 aE fa aL bD eZ cU;obtain ⟨hl,p,s,st,nx,e,hE,h⟩:=h;have ha:0<=a/\a<=(b.length:Int):=by
  rcases hE.or with ⟨h1,_⟩| ⟨_,hC⟩;omega;exact ⟨hC.at0,hC.at1⟩
 refine λ_ _=>aw (λhc=>?_) (λhc=>λ_=>aw (λhd=>?_) (λhd=>?_))
 .have hc:a< 0:=of_decide_eq_true hc;omega
 .have hd:a>b.length:=of_decide_eq_true hd;omega
 have hc:¬a< 0:=of_decide_eq_false hc;have hd:¬a>(b.length:Int):=of_decide_eq_false hd;have hz:(b.drop a.toNat).length=b.length - a.toNat:=aN;rcases hE.or with ⟨h1,rfl,rfl,rfl,rfl,rfl⟩| ⟨rfl,hC⟩
 .have e1:b.drop a.toNat= []:=j4 (by omega);rw [e1];exact ⟨by omega,by omega,by decide,rfl,by decide,by decide,λ_ _=>aw (λ_=>⟨ay _,h⟩) (λhq=>by cases hq)⟩
 obtain ⟨hp,CU,q,hdr,hq⟩:=hC.head;obtain ⟨n,hn⟩:∃ n:Int,n=p.length+if st then 32768 else 0:=⟨_,rfl⟩
 have hn0:0<=n/\n< 65536:=by cases st<;>simp at hn<;>omega
 have hsn:=ahs (st:=st) (show p.length< 256 by omega);rw [<-hn] at hdr hsn;have hql:q.length+3<=b.length:=by
  have:=congrArg List.length hdr;rw [af,qR] at this;omega
 obtain ⟨r1,r2,r3⟩:=H9 (x:=Vp n) (y:=q) (n:=3) rfl;rw [hdr,r1,r2,r3];refine ⟨by omega,by omega,by rw [af,qR];omega,rfl,by decide,by rw [af,qR];omega,λ_ _=>aw (λhq=>by cases hq) (λ_=>?_)⟩;refine cV.intro (λi=>i.1.1=n) ⟨by decide,by rw [qR];decide,λ_=>⟨by decide,by rw [qR];decide,λ_=>⟨by decide,λ_ _=>adJ hn0.1 hn0.2⟩⟩⟩ ?_;rintro ⟨⟨n',_⟩,_⟩ e;obtain rfl:n'=n:=e;simp only;refine cV.intro (λi=>i.1.1=true) ⟨λ_ _ _=>⟨ay 3,λ_=>SP _⟩,ay 3,λ_ _ _ _=>SP _⟩ ?_;rintro ⟨⟨g,_⟩,_⟩ e;obtain rfl:g=true:=e;simp only;rw [hsn.1];refine λ_=>⟨by unfold aF;omega,cV.intro (λi=>i.1.1=p.length) (λ_=>hsn.2) ?_⟩;rintro ⟨⟨l,_⟩,_⟩ e;obtain rfl:l=p.length:=e;simp only;refine cV.intro (λ_=>True) (aw (λhq=>by cases hq) (λ_=>aw (λhq=>absurd (of_decide_eq_true hq) (by omega)) (λ_=>aw (λhz=>aw (λhs=>?_) (λ_=>trivial)) (λ_=>trivial)))) ?_
 .have hz:(p.length:Int)=0:=eq_of_beq hz;have:=CU hs;omega
 intro _ _;refine cV.intro (λi=>i.2.1.1=0/\i.2.2.1=(p,s,st,nx,())) (aw (λhz=>?_) (λhz=>?_)) ?_
 .have hz:(p.length:Int)>0:=of_decide_eq_true hz;rcases hq with ⟨rfl,_⟩| ⟨p0,rfl,hs,r,rfl⟩
  .simp at hz
  have e4:List.take 4 (aI 4 s.toNat++(p++r))=aI 4 s.toNat:=List.take_left' (aB _ _);have e5:List.drop 4 (aI 4 s.toNat++(p++r))=p++r:=List.drop_left' (aB _ _);obtain ⟨q1,q2,q3⟩:=H9 (x:=p) (y:=r) (n:=p.length) rfl;rw [af,aB] at hql;rw [e4,e5,q1,q2,q3,ae7 hs.1 hs.2];have hpr:(p++r).length=p.length+r.length:=af;refine ⟨trivial,by decide,by decide,by rw [af,aB];omega,by rw [af,aB];omega,λ_ _=>⟨trivial,by omega,by omega,λ_=>⟨by unfold aF;omega,by unfold aF;omega,rfl,?_⟩⟩⟩;rw [show a+3+(4+(p.length:Int))=a+7+p.length by omega]
 .have hz:¬(p.length:Int)>0:=of_decide_eq_false hz;rcases hq with ⟨rfl,rfl,rfl,rfl⟩| ⟨p0,_⟩
  .exact ⟨rfl,rfl⟩
  .omega
 rintro ⟨_,⟨c,y,_⟩,cc,_⟩ ⟨e1,e2⟩;simp only at e1 e2;subst e1 e2;exact λ_=>aw (λhq=>by cases hq) (λ_=>⟨ay _,h⟩)
def aiK:Ct:=cD .u8 λb=>cI λa=>c0 λQ=>∃ p s st nx,b.length<=100000000/\Cut b a p s st nx/\Q (.cJ [.c (.k (.int .i64 nx)),.c (.k (.int .i64 0))]) []
def agd:=age.add ag9
def Q2 (b:(List (Ty.u8).den)) (a:Int):dE:=λQ=>cM b (aF .i64 a->gZ b (∃ p s st nx e,ajQ b a p s st nx e/\(aL (bO p)->aF .u32 s->cj nx e (Q (.cJ [.c (.k (aC nx)),.c (.k (aC e))]) []))))
theorem agO:cG 62 aiK:=fz<| lH λb=>nG λa=>iQ λQ h=>by
 refine Wp.dJ agd fj ⟨[],[]⟩ Tryz.f62 (Q2 b a) (hold:=[92]) ?_;unfold Q2 gZ cj bO cM aC aL;obtain ⟨p,s,st,nx,hl,hC,h⟩:=h;exact λ_ _=>⟨hl,p,s,st,nx,0,⟨.inr ⟨rfl,hC⟩⟩,λ_ _ _ _=>h⟩
def aiJ:Ct:=cT λT=>cD .u8 λb=>cI λa=>c0 λQ=>T.length=256/\b.length<=100000000/\∃ z nx e,FrE T b a z nx e/\Q (.cJ [.c (.d .u8 z),.c (.k (.int .i64 nx)),.c (.k (.int .i64 e))]) []
def agc:=agd.add agO
def Q0 (T:List Int) (b:(List (Ty.u8).den)) (a:Int):dE:=λQ=>cM b (aF .i64 a->gZ b (∃ p s st nx e,ajQ b a p s st nx e/\(aL (bO p)->aF .u32 s->cj nx e (br (e !=0) (Q (.cJ [.c dL,.c (.k a6),.c (.k (aC e))]) []) (aL (bO p)->br ((aE p)==0) (Q 
 (.cJ [.c dL,.c (.k (aC nx)),.c (.k a6)]) []) (dO T (aF .u32 (cu T ah p)->br (cu T ah p !=s) (Q (.cJ [.c dL,.c (.k a6),.c (.k (.int .i64 2))]) []) (br st (Q (SV.cJ [S1.c (Cl.d Ty.u8 p),.c (.k (aC 
 nx)),.c (.k a6)]) []) (∃ z,nF p []=some z/\(aE z)<=bG/\bG<=(1000000:Int)/\(aL (bO z)->aF .i64 0->aL (bO z)->br ((aE z)==0) (Q (.cJ [.c dL,.c (.k a6),.c (.k (.int .i64 2))]) []) (Q 
 (SV.cJ [S1.c (Cl.d Ty.u8 z),.c (.k (aC nx)),.c (.k a6)]) [])))))))))))
theorem agM:cG 63 aiJ:=fz<| okT λT=>lH λb=>nG λa=>iQ λQ h=>by
 refine Wp.lq [some (.sl .u8),none,none] [] ?_;refine Wp.dJ agc fj ⟨[],[]⟩ Tryz.f63 (Q0 T b a) (hold:=[92]) ?_;unfold Q0 gZ cj dO bO cM dL a6 aC ah bG aE aL bK;obtain ⟨hT,hl,z,nx,e,hE,h⟩:=h;refine λ_ _=>⟨hl,?_⟩;rcases hE.or with ⟨h1,rfl,rfl,rfl⟩| ⟨rfl,hF⟩;exact ⟨[],0,false,0,2,⟨.inl ⟨h1,rfl,rfl,rfl,rfl,rfl⟩⟩,λ_ _ _ _=>aw (λ_=>⟨ay _,h⟩) (λq=>by cases q)⟩;obtain ⟨p,s,st,hC,hk⟩:=hF.cut (yS T 0);refine ⟨p,s,st,nx,0,⟨.inr ⟨rfl,hC⟩⟩,λ_ _ _ _=>aw (λq=>by cases q) (λ_=>λ_=>aw (λhq=>?_) (λhq=>⟨hT,λ_=>aw (λhs=>?_) (λ_=>aw (λht=>?_) (λht=>?_))⟩))⟩
 .have hq:(p.length:Int)=0:=eq_of_beq hq;rcases hk with ⟨rfl,rfl⟩| ⟨p0,_⟩
  .exact ⟨ay _,h⟩
  .omega
 all_goals
  have hq:¬(p.length:Int)=0:=by simpa using hq
  rcases hk with ⟨rfl,_⟩| ⟨p0,b0,b1,rfl,hk⟩;exact absurd rfl hq
 .simp at hs
 .rcases hk with ⟨_,rfl⟩| ⟨rfl,_⟩
  .exact ⟨ay _,h⟩
  .cases ht
 .rcases hk with ⟨rfl,_⟩| ⟨_,he⟩
  .cases ht
  .exact ⟨z,he.done,by omega,by decide,λ_ _ _=>aw (λhz=>by have:(z.length:Int)=0:=eq_of_beq hz;omega) (λ_=>⟨ay _,h⟩)⟩
end Go.Proofs

namespace Go.Lm
open Go Go.RowKit
section
variable {P:Program} {I:cQ->Prop} {f:FuncId} {Q:SV->List HO->Prop} {tE:TypeId} {n:Int}
theorem Wp.aiu (h0:∀ w,Calls P f #[.slice none 0 0,.int .i64 0] w λe w'=>e= .returned (.slice none 0 0)/\w'=w)
  (h1:∀ (n:Nat) (w:World),0< n->n<=1000000000->Calls P f #[.slice none 0 0,.int .i64 n] w λe w'=>∃ (G:Nat) (cs:Array Value),e= .returned (.slice (some ⟨w.heap.size,0,none⟩) 0 G)/\w'=w.drew.alloc (.cells cs tE)/\cs.size=G/\G<=maxLen)
  (hn:0<=n/\n<=1000000000) (hq:Q (.c (.o 0)) [.sl tE .u8 []]):Wp I P f [.v (.c (.k (.slice none 0 0))),.v (.c (.k (.int .i64 n)))] [] Q:=by
 intro W hW g w E F vs S DR;obtain ⟨_,_,rfl,⟨rfl,_⟩,_,_,rfl,⟨rfl,_⟩,hz⟩:=DR;rw [show _= [] from hz];have hE:E= []:=aJ S.len;subst hE;letI:=Ty.u8.rep;by_cases e0:n=0
 .subst e0;refine Calls.mono (h0 w) ?_;rintro e w' ⟨rfl,rfl⟩;refine ⟨_,rfl,[.slice none 0 0],g,.c (.o 0),_,bw.app [] _,bx.refl g,⟨?_,rfl⟩,⟨rfl,none,0,0,rfl⟩,hq⟩;have H:=SL.zD Ty.u8.den tE S.sl;exact H.cz λh ⟨k1,k2,ap,e,s1,s2⟩=>⟨k1,k2,ap,e,⟨_,rfl,s1⟩,s2⟩
 .obtain ⟨m,rfl⟩:∃ m:Nat,n=m:=⟨n.toNat,by omega⟩;refine Calls.mono (h1 m w (by omega) (by omega)) ?_;rintro e w' ⟨G,cs,rfl,rfl,hs,hG⟩;refine ⟨_,rfl,[.slice (some ⟨w.heap.size,0,none⟩) 0 G],g,.c (.o 0),_,bw.app [] _,bx.refl g,⟨?_,rfl⟩,⟨rfl,_,0,G,rfl⟩,hq⟩;have H:=SL.new (S.sl.le (Le.drew w)) (xy.mk' w.drew (.cells cs tE));have H2:=SL.wc (size:=1) (cap:=G) 0 H (cq _) hG (by rw [hs,Nat.mul_one]);have H3:SL W g (w.drew.alloc (.cells cs tE)) (BK (α:=Ty.u8.den) tE (.slice (some ⟨w.heap.size,0,none⟩) 0 G) []::(bj [] 0 []++F)):=SL.XE (cs:=[]) trivial (by rw [Nat.zero_mul,List.take_zero] at H2;exact H2);exact H3.cz λh ⟨k1,k2,ap,e,s1,s2⟩=>⟨k1,k2,ap,e,⟨_,rfl,s1⟩,s2⟩
end
end Go.Lm

namespace Go.Proofs
open Go Go.Shelf Go.Lm
set_option maxRecDepth 1000000
def Tryz.Vq:Go.Shelf.Ren:=⟨fun| 4=>142| n=>n,fun| 22=>35| 25=>5| 3=>3| 4=>4| 9=>9| 20=>20| 0=>0| n=>n,fun| n=>n⟩
theorem Tryz.afs:Go.Proofs.Lays8.n4 cd Tryz.Vq:= {
 mixed:=by kernel_rfl
 f4:=⟨"slices.Grow[[]byte,byte]",by kernel_rfl,Tryz.func142.trans (congrArg some (by kernel_rfl))⟩
 t0:=Tryz.underlying0
 a0:=Tryz.isAgg0
 z0:=Tryz.sizeOf0
 v0:=Tryz.zeroValue0
 t3:=oT
 a3:=Tryz.isAgg3
 z3:=Tryz.sizeOf3
 v3:=Tryz.zeroValue3
 t4:=Tryz.underlying4
 a4:=Tryz.isAgg4
 z4:=Tryz.sizeOf4
 v4:=Tryz.zeroValue4
 t9:=Tryz.underlying9
 a9:=Tryz.isAgg9
 z9:=Tryz.sizeOf9
 v9:=Tryz.zeroValue9
 t20:=Tryz.underlying20
 a20:=Tryz.isAgg20
 z20:=Tryz.sizeOf20
 v20:=Tryz.zeroValue20
 t22:=Tryz.underlying35
 a22:=Tryz.isAgg35
 z22:=Tryz.sizeOf35
 v22:=Tryz.zeroValue35
}
theorem Tryz.alF (w:World):Calls cd 142 #[.slice none 0 0,.int .i64 0] w λe w'=>e= .returned (.slice none 0 0)/\w'=w:=Any8.slices_Grow_room Tryz.afs none 0 0 0 w (ay _) (by decide) (by decide) (by decide)
theorem Tryz.alE (n:Nat) (w:World) (h0:0< n) (h1:n<=1000000000):Calls cd 142 #[.slice none 0 0,.int .i64 n] w λe w'=>∃ (G:Nat) (cs:Array Value),e= .returned (.slice (some ⟨w.heap.size,0,none⟩) 0 G)/\w'=w.drew.alloc (.cells cs 5)/\cs.size=G/\G<=maxLen:=by
 obtain ⟨i0,DU⟩:=lR.1 (show (Tryz.prog.info? 5).isSome=true by kernel_rfl);have As:i0.zero=some (.int .u8 0):=by
  have:(Tryz.prog.info? 5).bind (·.zero)=some (.int .u8 0):=by kernel_rfl
  rw [DU] at this;exact this
 have hs0:i0.size=1:=by
  have:(Tryz.prog.info? 5).map (·.size)=some 1:=by kernel_rfl
  rw [DU] at this;exact aj this
 have hb0:i0.bytes=1:=by
  have:(Tryz.prog.info? 5).map (·.bytes)=some 1:=by kernel_rfl
  rw [DU] at this;exact aj this
 refine Calls.mono (Any8.slices_Grow_grow Tryz.afs i0 _ DU As (by omega) none 0 0 n [] w (ay _) (by omega) (by rw [hb0];omega) (by omega) (by simp) (λ_=>rfl) (λa q=>by cases q)) ?_;rintro e w' ⟨rfl,rfl⟩;rw [bW];refine ⟨_,_,rfl,rfl,?_,?_⟩
 .have:=grownCap_ge w n 0 5;simp [Builtin.zeroCells,Value.cells];show n+(grownCap w n 0 5 - n)=grownCap w n 0 5;omega
 .exact grownCap_le_maxLen w n 0 5 (by unfold maxLen;omega)
end Go.Proofs

namespace Go.Lm
open Go Go.RowKit
def jM (L:List HO) (v:Value):Atom:=⟨λg h=>∃ E:Env,E.length=L.length/\E[0]?=some v/\bq g (bj E 0 L) h,λm ⟨E,h1,h2,h3⟩=>⟨E,h1,h2,bq.mono m h3⟩⟩
def Ej (p n:Nat) (i:Nat):Option Nat:=some (if i=0 then p else n+(i - 1))
def Mw (p:Nat) (L H:List HO):List HO:=H.set p ((lJ L 0).fp (Ej p H.length))++L.tail.map (·.fp (Ej p H.length))
def Nb (p:Nat) (r:List Nat) (H:List HO):List HO:=(iw H (p::r)).set p (.abs (jM ((p::r).map λl=>(lJ H l).fp (ic (p::r)))))
section
variable {P:Program} {I:cQ->Prop} {f:FuncId} {args:List SV} {H:List HO} {Q Q':SV->List HO->Prop}
theorem wm {E E':Env} {g:World} {r:Nat->Option Nat} (hr:mH r E E'):∀ {L:List HO} {k m:Nat} {h:Hp},(∀ i,r (k+i)=some (m+i))->bq g (bj E k L) h->bq g (bj E' m (L.map (·.fp r))) h
 | [],_,_,_,_,s=>s
 | o::L,k,m,_,hi,⟨h1,h2,ap,e,s1,s2⟩=>⟨h1,h2,ap,e,cF.fp hr (hi 0) s1,wm hr (k:=k+1) (m:=m+1) (λi=>by have:=hi (i+1);rw [show k+1+i=k+(i+1) by omega,show m+1+i=m+(i+1) by omega];exact this) s2⟩
theorem Wp.Yk {p:Nat} {L:List HO} (hp:H[p]?=some (.abs (jM L))) (hL:0< L.length) (h:Wp I P f args (Mw p L H) Q):Wp I P f args H Q:=Wp.beg λW E g w F s1=>by
 have Au:=(au.1 hp).1;obtain ⟨E1,hE1⟩:∃ E1:List Value,(∃ v EL,E[p]?=some v/\EL.length=L.length/\EL[0]?=some v/\E1=E++EL.tail/\SL W g w (⟨λg h=>bq g (bj EL 0 L) h,λm=>bq.mono m⟩::(bj E 0 (H.set p .gone)++F))):=by
  obtain ⟨be,hs⟩:=s1.sl;have key:∀ h0,bq g (bj E 0 H++F) h0->∃ v EL,E[p]?=some v/\EL.length=L.length/\EL[0]?=some v/\bq g (⟨λg h=>bq g (bj EL 0 L) h,λm=>bq.mono m⟩::(bj E 0 (H.set p .gone)++F)) h0:=λh0 x=>by
   obtain ⟨h1,h2,ap,e,⟨v,hE,EL,a1,a2,a3⟩,x2⟩:=bq.rV hp x;exact ⟨v,EL,hE,a1,a2,h1,h2,ap,e,a3,x2⟩
  obtain ⟨se,hh,ow,x⟩:=hs;obtain ⟨v,EL,b1,b2,b3,b4⟩:=key _ x;exact ⟨_,v,EL,b1,b2,b3,rfl,be,se,hh,ow,b4⟩
 obtain ⟨v,EL,hE,hlen,h0,rfl,S⟩:=hE1;have hr:mH (Ej p H.length) EL (E++EL.tail):=λi i' u hi hu=>by
  unfold Ej at hi;have hi:=aj hi;by_cases e0:i=0
  .subst e0;rw [if_pos rfl] at hi;subst hi;rw [h0] at hu;obtain rfl:=aj hu;exact bw.app E _ _ _ hE
  .rw [if_neg e0] at hi;subst hi;rw [a8 (by rw [s1.len];omega),s1.len,show H.length+(i - 1) - H.length=i - 1 by omega];cases EL with
   | nil=>simp at hu
   | cons x EL=>
    obtain ⟨j,rfl⟩:∃ j,i=j+1:=⟨i - 1,by omega⟩;simpa using hu
 refine ⟨E++EL.tail,Mw p L H,bw.app E _,⟨S.cz λh0 x=>?_,?_⟩,h⟩
 .obtain ⟨h1,h2,ap,e,x1,x2⟩:=x;cases L with
  | nil=>simp at hL
  | cons o Lt=>
   obtain ⟨k1,k2,ap1,e1,y1,y2⟩:=x1;have y1:=cF.fp (E:=EL) hr (l:=0) (l':=p) rfl y1;have y2:=wm hr (k:=1) (m:=H.length) (λi=>by unfold Ej;rw [if_neg (by omega),show 1+i - 1=i by omega]) y2;have x2:=bj.env (bw.app E EL.tail) x2;subst e1;rw [e];obtain ⟨ap2,ap3⟩:=Hp.eP.1 ap.symm;have z:bq g (cF (E++EL.tail) p (o.fp (Ej p H.length))::(bj (E++EL.tail) H.length (Lt.map (·.fp (Ej p H.length)))++(bj (E++EL.tail) 0 (H.set p .gone)++F))) ((k1.join k2).join h2):=⟨k1,k2.join h2,Hp.eP.2 ⟨ap1,ap2.symm⟩,Hp.join_assoc ..,y1,bq.app ap3.symm y2 x2⟩;obtain ⟨m1,m2,ap4,e4,z1,z2⟩:=z;rw [e4];unfold Mw;rw [oJ,aG,bW,gE];refine bq.comm (B:=bj (E++EL.tail) 0 (H.set p (o.fp (Ej p H.length)))) (A:=bj (E++EL.tail) H.length (Lt.map (·.fp (Ej p H.length)))) ?_;refine bq.under (λh3 x3=>?_) (bq.toEnd (A:=bj (E++EL.tail) H.length (Lt.map (·.fp (Ej p H.length)))) (F:=bj (E++EL.tail) 0 (H.set p .gone)++F) ⟨m1,m2,ap4,rfl,z1,z2⟩);have:=bq.D6 (by rw [gE];exact Au) x3;rw [List.set_set] at this;exact this
 .unfold Mw;simp [s1.len,hlen]
theorem Wp.Zd (h:Wp I P f args H λsv H'=>∃ (p:Nat) (r:List Nat),(p::r).Nodup/\(∀ l∈p::r,l< H'.length)/\Q sv (Nb p r H')):Wp I P f args H Q:=
 h.fin λW E g w F H' sv s ⟨p,r,hn,eK,q⟩=>by
  refine ⟨g,_,bx.refl g,⟨s.sl.cz λh0 x=>?_,?_⟩,q⟩
  .have x1:=bq.qm (ob:=lJ H') hn (λl hl=>by
    have wX:=eK l hl;rw [ak wX,mz (ak wX)]) x
   obtain ⟨h1,h2,ap,e,y1,y2⟩:=bq.Xx (bq.comm x1);have vR:mH (ic (p::r)) E ((p::r).map λl=>(E[l]?).getD undef):=λl l' v h1 h2=>by
    have:=oD h1;rw [ck,this];simp [h2]
   have y3:=bq.xM (X:=[]) vR (k:=0) (λi l hi=>by rw [bW];exact qb hn hi) (by rw [aW];exact y1);rw [aW] at y3;unfold Nb;refine bq.D6 (by rw [mE];exact eK p (by simp)) ?_;have hp:p< E.length:=by rw [s.len];exact eK p (by simp)
   exact ⟨h1,h2,ap,e,⟨E[p],ak hp,_,by simp,by simp [ak hp],y3⟩,y2⟩
  .unfold Nb;rw [gE,mE];exact s.len
def uq (p:Nat) (r ls:List Nat) (n0:Nat) (Q:SV->List HO->Prop):SV->List HO->Prop:=λsv H'=>
 if nt (p::r)&& (nt ls&& ((p::r).all (λl=>gn l H'.length)&& (ls.all (λl=>gn l H'.length)&& (ls.take n0==bN n0)))) then Q (sv.fp (ic ls)) (ls.map λl=>(lJ (Nb p r H') l).fp (ic ls)) else False
theorem Wp.alK {p:Nat} {r ls:List Nat} {H0:List HO} {n0:Nat} (hn:H0.length=n0) (k:(∀ Q,Wp I P f args H Q->Wp I P f args H0 Q)) (h:Wp I P f args H (uq p r ls n0 Q)):Wp I P f args H0 Q:=
 Wp.sel (k _ (Wp.Zd (h.mono λsv H' q=>by
  unfold uq at q;obtain ⟨hc,q⟩:=cZ q;simp only [ao,bo] at hc;obtain ⟨c1,c2,c3,c4,c5⟩:=hc;refine ⟨p,r,jH.1 c1,λl hl=>by simpa using c3 l hl,ls,by rw [hn];exact eq_of_beq c5,jH.1 c2,λl hl=>?_,q⟩;unfold Nb;rw [gE,mE];simpa using c4 l hl)))
theorem Wp.Ek {q p:Nat} {r ls:List Nat} {L:List HO} (hp:H[q]?=some (.abs (jM L))) (hL:0< L.length) (h:Wp I P f args (Mw q L H) (uq p r ls H.length Q)):Wp I P f args H Q:=Wp.alK rfl (λ_ k=>Wp.Yk hp hL k) h
theorem Wp.Yv {p:Nat} {r ls:List Nat} (h:Wp I P f args H (uq p r ls H.length Q)):Wp I P f args H Q:=Wp.alK rfl (λ_ k=>k) h
end
end Go.Lm

namespace Go.Lm
open Go
structure Wi (T:List Int) (x y:List UInt8) (R:List UInt8) (fs:List (List UInt8)):Prop where
 flat:x=fs.flatten
 le:128*fs.length<=R.length
 rest:y=R.drop (128*fs.length)
 fr:∀ (i:Nat) z,fs[i]?=some z->DM T ((R.drop (128*i)).take 128) z
structure MW (T:List Int) (x y:List UInt8) (R:List UInt8) (fs:List (List UInt8)):Prop where
 g:Wi T x y R fs
 lt:y.length< 128
theorem MW.nil (T:List Int):MW T [] [] [] []:=⟨⟨rfl,ay _,rfl,λi z h=>by simp at h⟩,by decide⟩
theorem Wi.row {T:List Int} {x y R:List UInt8} {fs:List (List UInt8)} (h:Wi T x y R fs):R.length=128*fs.length+y.length:=by
 rw [h.rest,aN];have:=h.le;omega
theorem Wi.app {T:List Int} {x y R:List UInt8} {fs:List (List UInt8)} (h:Wi T x y R fs) (b:List UInt8):Wi T x (y++b) (R++b) fs:=by
 have hle:=h.le;refine ⟨h.flat,by rw [af];omega,?_,λi z hi=>?_⟩;rw [h.rest,da hle]
 .have eK:=(au.1 hi).1;have:=h.fr i z hi;rw [da (by omega),lT (by rw [aN];omega)];exact this
theorem Wi.step {T:List Int} {x y R z:List UInt8} {fs:List (List UInt8)} (h:Wi T x y R fs) (hy:128<=y.length) (hz:DM T (y.take 128) z):Wi T (x++z) (y.drop 128) R (fs++ [z]):=by
 have hr:=h.row;refine ⟨by rw [eU,<-h.flat,List.flatten_singleton],by rw [af,aD];omega,?_,λi q hi=>?_⟩;rw [h.rest,eG,af,aD,show 128*(fs.length+1)=128*fs.length+128 by omega]
 .rcases dZ i fs.length with hl| hl
  .rw [aV hl] at hi;exact h.fr i q hi
  .rw [a8 hl] at hi;have eK:=(au.1 hi).1;rw [aD] at eK;obtain rfl:i=fs.length:=by omega
   rw [Nat.sub_self] at hi;obtain rfl:z=q:=by simpa using hi
   rw [<-h.rest];exact hz
theorem Nc {T:List Int} {R:List UInt8}:∀ {fs:List (List UInt8)} {k:Nat},(∀ (i:Nat) z,fs[i]?=some z->DM T ((R.drop (128*(k+i))).take 128) z)->fs.flatten.length<=135*fs.length
 | [],_,_=>ay _
 | z::fs,k,h=>by
  have h1:=(h 0 z rfl).len.2;have h2:=Nc (fs:=fs) (k:=k+1) (λi z hz=>by rw [show k+1+i=k+(i+1) by omega];exact h (i+1) z (by simpa using hz));rw [aA] at h1;simp only [bI,af,aq];omega
theorem Wi.abR {T:List Int} {x y R:List UInt8} {fs:List (List UInt8)} (h:Wi T x y R fs):x.length<=135*fs.length:=by
 rw [h.flat];exact Nc (T:=T) (R:=R) (k:=0) (λi z hz=>by rw [bW];exact h.fr i z hz)
structure k7 (T:List Int) (fs:List (List UInt8)) (R:List UInt8):Prop where
 len:fs.length=(R.length+127) / 128
 fr:∀ (i:Nat) z,fs[i]?=some z->DM T ((R.drop (128*i)).take 128) z
def dU (fs:List (List UInt8)) (o:Nat):Nat:=256*(fs.take (o / 128)).flatten.length+o % 128
theorem MW.akJ {T:List Int} {x y R:List UInt8} {fs:List (List UInt8)} (h:MW T x y R fs) (hy:y= []):k7 T fs R/\x=fs.flatten:=by
 have hr:=h.g.row;subst hy;exact ⟨⟨by rw [hr,aM];omega,h.g.fr⟩,h.g.flat⟩
theorem MW.akI {T:List Int} {x y R z:List UInt8} {fs:List (List UInt8)} (h:MW T x y R fs) (hy:y≠ []) (hz:DM T y z):k7 T (fs++ [z]) R/\x++z=(fs++ [z]).flatten:=by
 have hr:=h.g.row;have hl:=h.lt;have h0:=List.length_pos_iff.2 hy;refine ⟨⟨by rw [af,aD];omega,λi q hi=>?_⟩,by rw [eU,<-h.g.flat,List.flatten_singleton]⟩;rcases dZ i fs.length with uG| uG
 .rw [aV uG] at hi;exact h.g.fr i q hi
 .rw [a8 uG] at hi;have eK:=(au.1 hi).1;rw [aD] at eK;obtain rfl:i=fs.length:=by omega
  rw [Nat.sub_self] at hi;obtain rfl:z=q:=by simpa using hi
  rw [<-h.g.rest,aT (by omega)];exact hz
theorem MW.ref {T:List Int} {x y R:List UInt8} {fs:List (List UInt8)} (h:MW T x y R fs) (gs:List (List UInt8)):256*x.length+y.length=dU (fs++gs) R.length:=by
 have hr:=h.g.row;have hl:=h.lt;have e1:R.length / 128=fs.length:=by omega
 have e2:R.length % 128=y.length:=by omega
 unfold dU;rw [e1,e2,List.take_left,<-h.g.flat]
abbrev dW:Ty:=.pair (.sl .u8) (.pair (.int .i64) .unit)
def fy (fs:List (List UInt8)) (k:Nat):Nat:=(fs.take k).flatten.length
def kZ (R:List UInt8) (k:Nat):List UInt8:=(R.drop (128*k)).take 128
def uJ (fs:List (List UInt8)) (R:List UInt8) (k:Nat):Int×dW.den:=((fy fs k:Int),kZ R k,(fy fs (k+1):Int),())
structure iI (T:List Int) (im:List UInt8) (a c:Int) (fs:List (List UInt8)) (R:List UInt8) (M:List (Int×dW.den)):Prop where
 a0:0<=a
 ac:c=a+fs.flatten.length
 ci:c<=im.length
 row:k7 T fs R
 at':∃ r,im.drop a.toNat=fs.flatten++r
 nxt:c=im.length\/∃ b nx,En T im c b nx
 all:∃ ks:List Nat,ks.Nodup/\(∀ k∈ks,k< fs.length)/\M=ks.map (uJ fs R)
structure agE (fs:List (List UInt8)) (R:List UInt8) (k:Nat) (h:dW.den) (ok:Bool):Prop where
 or:(ok=true/\k< fs.length/\h=(kZ R k,(fy fs (k+1):Int),()))\/(ok=false/\k=fs.length/\h=([],0,()))
theorem pig:∀ {n:Nat} {l:List Nat},l.Nodup->(∀ x∈l,x< n)->l.length<=n
 | 0,l,_,h=>by
  cases l with
  | nil=>exact ay 0
  | cons x l=>exact absurd (h x aX) (Nat.not_lt_zero x)
 | n+1,l,hn,h=>by
  by_cases hm:n∈l
  .have h1:(l.erase n).Nodup:=hn.erase n;have h2:(l.erase n).length<=n:=pig h1 λx hx=>by
    have h3:=List.mem_of_mem_erase hx;have h4:x≠n:=λe=>by
     subst e;exact absurd hx (by rw [hn.mem_erase_iff];simp)
    have:=h x h3;omega
   rw [List.length_erase_of_mem hm] at h2;omega
  .have:=pig (n:=n) hn λx hx=>by
    have h4:x≠n:=λe=>hm (e▸hx);have:=h x hx;omega
   omega
theorem nW {fs:List (List UInt8)} {k:Nat} (h:k< fs.length):fy fs (k+1)=fy fs k+fs[k].length:=by
 unfold fy;rw [bU h,eU,af,List.flatten_singleton]
theorem xo {T:List Int} {fs:List (List UInt8)} {R:List UInt8} (h:k7 T fs R):∀ {j k:Nat},j< k->k<=fs.length->fy fs j+3<=fy fs k
 | j,0,h1,_=>by omega
 | j,k+1,h1,h2=>by
  have e:=nW (fs:=fs) (k:=k) (by omega);have h3:=(h.fr k fs[k] (ak (by omega))).len.1;rcases dZ j k with q| q
  .have:=xo h q (by omega);omega
  .obtain rfl:j=k:=by omega
   omega
theorem JJ {T:List Int} {fs:List (List UInt8)} {R:List UInt8} (h:k7 T fs R):∀ {k:Nat},k<=fs.length->3*k<=fy fs k
 | 0,_=>by omega
 | k+1,hk=>by
  have:=JJ h (k:=k) (by omega);have:=xo h (j:=k) (k:=k+1) (by omega) hk;omega
theorem NY {T:List Int} {fs:List (List UInt8)} {R:List UInt8} (h:k7 T fs R) {j k:Nat} (hj:j<=fs.length) (hk:k<=fs.length) (e:fy fs j=fy fs k):j=k:=by
 rcases mK j k with q| q| q;have:=xo h q hk;omega;exact q;have:=xo h q hj;omega
theorem qg (fs:List (List UInt8)):fy fs fs.length=fs.flatten.length:=by unfold fy;rw [eN]
theorem xp {T:List Int} {fs:List (List UInt8)} {R:List UInt8} (h:k7 T fs R) {k:Nat} (hk:k<=fs.length):fy fs k<=fs.flatten.length:=by
 rw [<-qg];rcases dZ k fs.length with q| q;have:=xo h q (ay _);omega
 .obtain rfl:k=fs.length:=by omega
  exact ay _
theorem iI.get {T:List Int} {im:List UInt8} {a c:Int} {fs:List (List UInt8)} {R:List UInt8} {M:List (Int×dW.den)} (h:iI T im a c fs R M) {k:Nat} (hk:k<=fs.length):(Kk.get .int M (fy fs k:Int)=none/\(k< fs.length->iI T im a c fs R (Kk.put .int M (fy fs k:Int) (uJ fs R k).2))/\M.length<=fs.length)\/(k< fs.length/\Kk.get .int M (fy fs k:Int)=some (uJ fs R k).2):=by
 obtain ⟨ks,hn,hl,rfl⟩:=h.all;cases hg:Kk.get .int (ks.map (uJ fs R)) (fy fs k:Int) with
 | none=>
  have kB:∀ j∈ks,j≠k:=λj hj e=>by
   subst e;exact (nS (κ:=Int)).1 hg (uJ fs R j) (aP.2 ⟨j,hj,rfl⟩) rfl
  refine .inl ⟨rfl,λqP=>⟨h.a0,h.ac,h.ci,h.row,h.at',h.nxt,k::ks,eB.2 ⟨λq=>kB k q rfl,hn⟩,λj hj=>?_,?_⟩,by rw [bH];exact pig hn hl⟩
  .rcases bm.1 hj with rfl| hj
   .exact qP
   .exact hl j hj
  .show ((fy fs k:Int),(uJ fs R k).2)::mF (ks.map (uJ fs R)) (fy fs k:Int)=uJ fs R k::ks.map (uJ fs R);congr 1;unfold mF;refine ka.2 λp hp=>?_;obtain ⟨j,hj,rfl⟩:=aP.1 hp;have:(fy fs j:Int)≠fy fs k:=λe=>kB j hj (NY h.row (Nat.le_of_lt (hl j hj)) hk (by omega));show (!decide ((fy fs j:Int)=fy fs k))=true;simp [this]
 | some v=>
  have hm:=oF (κ:=Int) hg;obtain ⟨j,hj,hp⟩:=aP.1 hm;have hp1:(fy fs j:Int)=fy fs k:=congrArg Prod.fst hp;obtain rfl:j=k:=NY h.row (Nat.le_of_lt (hl j hj)) hk (by omega);exact .inr ⟨hl j hj,congrArg some (congrArg Prod.snd hp).symm⟩
theorem iI.take {T:List Int} {im:List UInt8} {a c:Int} {fs:List (List UInt8)} {R:List UInt8} {M:List (Int×dW.den)} (h:iI T im a c fs R M) {k:Nat} (hk:k< fs.length):En T im (a+fy fs k) (kZ R k) (a+fy fs (k+1))/\kZ R k≠ []:=by
 have ha:=h.a0;have hac:=h.ac;have hci:=h.ci;have hle:=xp h.row (Nat.le_of_lt hk);obtain ⟨r,hr⟩:=h.at';have GB:fs.flatten=(fs.take k).flatten++(fs[k]++(fs.drop (k+1)).flatten):=by
  conv=>lhs;rw [<-cv k fs,eU,cg hk,bI]
 refine ⟨⟨by omega,by omega,fs[k],(fs.drop (k+1)).flatten++r,h.row.fr k _ (ak hk),?_,by rw [nW hk];omega⟩,λe=>?_⟩
 .rw [show (a+(fy fs k:Int)).toNat=a.toNat+fy fs k by omega,<-eG,hr,GB,aG,aG];exact eV
 .have:=h.row.len;have e2:=congrArg List.length e;unfold kZ at e2;rw [aA,aN,aM] at e2;omega
structure pc (fs:List (List UInt8)) (R:List UInt8) (o n:Nat) (z:List UInt8) (nx e:Int):Prop where
 or:(o+n<=R.length/\z=(R.drop o).take n/\nx=(dU fs (o+n):Int)/\e=0)\/(R.length< o+n/\z= []/\nx=0/\e=2)
theorem UQ (fs:List (List UInt8)) (o:Nat):fQ (dU fs o:Int) 256=(fy fs (o / 128):Int)/\Int.tmod (dU fs o:Int) 256=((o % 128:Nat):Int):=by
 unfold dU;have:∀ s m:Nat,m< 256->fQ ((256*s+m:Nat):Int) 256=(s:Int)/\Int.tmod ((256*s+m:Nat):Int) 256=(m:Int):=λs m hm=>by
  rw [Int.tdiv_eq_ediv_of_nonneg (by omega),Int.tmod_eq_emod_of_nonneg (by omega)];omega
 exact this (fy fs (o / 128)) (o % 128) (by omega)
theorem Mq (R:List UInt8) (o c m:Nat):(R.drop o).take c++(R.drop (o+c)).take m=(R.drop o).take (c+m):=by
 rw [List.take_add,eG]
theorem aac (R:List UInt8) (p h:Nat) (hh:h<=128):((kZ R (p / 128)).drop (p % 128)).take (h - p % 128)=(R.drop p).take (h - p % 128):=by
 unfold kZ;rw [jk,eG,eF,show 128*(p / 128)+p % 128=p by omega,dK (by omega)]
theorem rb (R:List UInt8) (k:Nat):(kZ R k).length=min 128 (R.length - 128*k):=by
 unfold kZ;rw [aA,aN]
end Go.Lm

namespace Go.Proofs
open Go Go.Lm Go.RowKit
set_option maxRecDepth 1000000
def ai4:Ct:=cD .u8 λx=>c0 λQ=>x.length<=140737488355328/\Q (.c (.o 0)) [.sl 5 .u8 x]
def aaA:=agc.add agM
def Ry (x:(List (Ty.u8).den)):dE:=λQ=>cM x (zJ x Q)
theorem ahe:cG 38 ai4:=fz<| lH λx=>iQ λQ h=>by
 refine Wp.IM (t:=5) (e:=.u8) ?_;refine Wp.dJ aaA fj ⟨[],[]⟩ Tryz.f38 (Ry x) (hold:=[92]) ?_;unfold Ry zJ cw cM dL;obtain ⟨hl,h⟩:=h;refine λ_ c hc=>aw (λhb=>.inr ⟨rfl,?_⟩) (λhb=>⟨by omega,by omega,.inl h⟩);have hb:c=true:=hb;rw [hc hb] at h;exact h
def AQ:Ct
 | [.v (.c (.p 0 0)),.v (.c cb)],[.cells 150 [.de (.int .u32) T 0 0,.o 1,.o 2],.sl 5 .u8 x,.sl 5 .u8 y],Q=>(match (Ty.sl Ty.u8).of [cb] with
  | some (b,[])=>∃ R fs,T.length=256/\MW T x y R fs/\R.length+b.length<=10000000/\∀ x' y' fs',MW T x' y' (R++b) (fs++fs')->Q (.int (256*x.length+y.length)) [.cells 150 [.de (.int .u32) T 0 0,.o 3,.o 4],.gone,.gone,.sl 5 .u8 x',.sl 5 .u8 y']
  | _=>False)
 | _,_,_=>False
def agb:=aaA.add ahe
abbrev Cv {A0:Type} (y0:List A0) (y1:List UInt8) (R:Prop):=aF .i64 0->(List.length y0+List.length y1)*1<=cw/\List.length y0+List.length y1<=9223372036854775807/\R
def KS (b:(List (Ty.u8).den)) (T:List Int) (x y:List UInt8):dE:=λQ=>cM b (cY x (aF .i64 (fb*(aE x))/\(cY y (aF .i64 (fb*(aE x)+(aE y))/\yp y b (bp (λi ag=>gu i.2.1.2.2.1 (br (decide ((a7 i.2.1.2.2.1)≥bG)) (ah<=bG/\ 
 bG<=(a7 i.2.1.2.2.1)/\ah<=ah/\ah<=bG/\bG<=(a7 i.2.1.2.2.1)/\dO i.2.1.1 (List.length (List.take gg (List.drop 0 i.2.1.2.2.1))<=128/\∀ (x:List UInt8),DM i.2.1.1 (List.take gg (List.drop 0 
 i.2.1.2.2.1)) x->cY x (Cv i.2.1.2.1 x (ah<=bG/\bG<=(a7 i.2.1.2.2.1)/\fa (List.length (List.drop 128 i.2.1.2.2.1))/\ag ((),(i.2.1.1,i.2.1.2.1++x,List.drop gg i.2.1.2.2.1,()),()))))) (Q (.v (.c (.k 
 (.int .i64 (fb*(aE x)+(aE y)))))) [.cells 150 [Cl.de (.int .u32) i.2.1.1 ah bD,.o 3,.o 4],.gone,.gone,.sl 5 Ty.u8 i.2.1.2.1,.sl 5 Ty.u8 i.2.1.2.2.1]))) ((),(T,x,y++b,()),()))))))
theorem HE:cG 54 AQ:=by
 intro args H Q h;unfold AQ at h;split at h;rotate_left;cases h;rename_i cb T x y;split at h;rotate_left;cases h;rename_i b hb;refine Wp.said (args':=[.v (.c (.p 0 0)),.c (.d Ty.u8 b)]) (λE g=>bC.cE (λ_ h=>h) (bC.cE (dI hb) (λ_ h=>h))) ?_;clear hb;refine Wp.dJ agb fj ⟨[(4,⟨[],[(0,.cells 150 [.dp (.int .u32),.own 5 .u8,.own 5 .u8])]⟩)],[]⟩ Tryz.f54 (KS b T x y) (hold:=[89,38]) ?_;unfold KS yp cY Cv dO gu cw cM ah bG fb a7 aE fa aL bD gg bK;obtain ⟨R,fs,hT,hm,hl,h⟩:=h;have hr:=hm.g.row;have hx:=hm.g.abR;have eK:=hm.lt;refine λ_ _=>⟨by unfold aF;omega,λ_=>⟨by unfold aF;omega,by omega,by omega,?_⟩⟩;refine bp.intro (λi=>i.2.1.1=T/\∃ fs',Wi T i.2.1.2.1 i.2.1.2.2.1 (R++b) (fs++fs')) (λi=>i.2.1.2.2.1.length) ⟨rfl,[],by rw [aW];exact hm.g.app b⟩ ?_;rintro ⟨_,⟨T',x',y',_⟩,_⟩ ⟨rfl,fs',h1⟩;simp only at h1 ⊢;have h2:=h1.row;have h3:=h1.abR;rw [af] at h2;refine λ_=>aw (λhc=>?_) (λhc=>?_)
 .have hc:(y'.length:Int)≥128:=of_decide_eq_true hc;rw [pD];refine ⟨by decide,by omega,by decide,by decide,by omega,hT,by rw [aA];omega,λz hz _ _=>?_⟩;have hz2:=hz.len.2;rw [aA] at hz2;exact ⟨by omega,by omega,by decide,by omega,by rw [aN];omega,⟨trivial,fs'++ [z],by rw [<-aG];exact h1.step (by omega) hz⟩,by rw [aN];omega⟩
 .have hc:¬(y'.length:Int)≥128:=of_decide_eq_false hc;exact h x' y' fs' ⟨h1,by omega⟩
def NI:Ct
 | .v (.c (.p 0 0))::vs,[.abs a],Q=>∃ (T:List Int) (x:List UInt8) (y:List UInt8),a=jM [.cells 150 [.de (.int .u32) T 0 0,.o 1,.o 2],.sl 5 .u8 x,.sl 5 .u8 y]/\AQ (.v (.c (.p 0 0))::vs) [.cells 150 [.de (.int .u32) T 0 0,.o 1,.o 2],.sl 5 .u8 x,.sl 5 .u8 y] (uq 0 [3,4] [0] 1 Q)
 | _,_,_=>False
theorem A6:cG 54 NI:=λargs H Q h=>by
 unfold NI at h;split at h
 .obtain ⟨T,x,y,rfl,h⟩:=h;exact Wp.Ek (q:=0) (L:=[.cells 150 [.de (.int .u32) T 0 0,.o 1,.o 2],.sl 5 .u8 x,.sl 5 .u8 y]) rfl (gJ _) (HE _ _ _ h)
 .cases h
def Tl:Ct:=cT λT=>c0 λQ=>Q (.c (.p 0 0)) [.cells 150 [.de (.int .u32) T 0 0,.o 1,.o 2],.sl 5 .u8 [],.sl 5 .u8 []]
def amb:=(agb.add HE).add A6
def KR (T:List Int):dE:=λQ=>Q mN [.cells 150 [Cl.de (.int .u32) T ah bD,.k eT,.k eT]]
theorem QH:cG 47 Tl:=fz<| okT λT=>iQ λQ h=>by
 refine (λhh=>Wp.xi (p:=0) (t:=150) (tt:=5) (e:=.u8) (Wp.xi (p:=0) (t:=150) (tt:=5) (e:=.u8) hh)) ?_;refine Wp.dJ amb fj ⟨[],[]⟩ Tryz.f47 (KR T) (hold:=[89,38]) ?_;unfold KR mN eT ah bD;exact ⟨[_],[_],rfl,[_,_],[],rfl,h⟩
def ZL:Ct:=λargs H Q=>Tl args H (uq 0 [1,2] [0] H.length Q)
theorem Kd:cG 47 ZL:=λargs H Q h=>Wp.Yv (QH _ _ _ h)
def ZU:Ct
 | [.v (.c (.k (.slice none 0 0))),.v (.c (.k (.int .i64 n)))],[],Q=>(0<=n/\n<=1000000000)/\Q (.c (.o 0)) [.sl 5 .u8 []]
 | _,_,_=>False
theorem ag7:cG 142 ZU:=λargs H Q h=>by
 unfold ZU at h;split at h;exact Wp.aiu Tryz.alF Tryz.alE h.1 h.2;cases h
def Z5:Ct:=cD (Ty.sl Ty.u8) λl=>c0 λQ=>l.flatten.length<=100000000/\Q (.c (.d .u8 l.flatten)) []
def aga:=((((aaA.add HE).add A6).add QH).add Kd).add ag7
abbrev gA:=SV.v (S1.c (.o 0))
def Fu (l:(List ((Ty.sl Ty.u8)).den)):dE:=λQ=>List.length l<=9223372036854775807->aL (List.length l)->bp (λi ag=>br (decide (i.1.1< (aE l))) (0<=i.1.1/\i.1.1< (aE l)/\(Ty.ok bE (aK bE l i.1.1)->aL (List.length (aK bE l i.1.1))->aF .i64 
 (i.1.2.1+(a7 (aK bE l i.1.1)))/\br (decide (i.1.2.1+(a7 (aK bE l i.1.1))< ah)) False (cL i.1.1 (ag ((i.1.1+1,i.1.2.1+(a7 (aK bE l i.1.1)),()),()))))) ((0<=i.1.2.1/\i.1.2.1<=1000000000)/\(aL 
 (List.length l)->bp (λi ag=>br (decide (i.1.1< (aE l))) (0<=i.1.1/\i.1.1< (aE l)/\(Ty.ok bE (aK bE l i.1.1)->(List.length i.1.2.1+List.length (aK bE l i.1.1))*1<=cw/\List.length i.1.2.1+List.length (aK 
 bE l i.1.1)<=9223372036854775807/\cL i.1.1 (ag ((i.1.1+1,i.1.2.1++aK bE l i.1.1,()),())))) (Q gA [.sl 5 Ty.u8 i.1.2.1])) ((ah,[],()),())))) ((ah,ah,()),())
theorem WX:cG 90 Z5:=fz<| lH λl=>iQ λQ h=>by
 refine Wp.lq [some (.sl .u8)] [0] ?_;refine Wp.dJ aga fj ⟨[(4,⟨[(11,.int .i64),(3,.int .i64)],[]⟩),(12,⟨[(27,.int .i64),(6,.own 5 .u8)],[]⟩)],[]⟩ Tryz.f90 (Fu l) (hold:=[89,38]) ?_;unfold Fu gA cL cw ah a7 aE aL bE;obtain ⟨hl,h⟩:=h;have CU:∀ i:Int,0<=i->i< l.length->(l.take (i+1).toNat).flatten=(l.take i.toNat).flatten++aK (.sl .u8) l i:=λi h0 h1=>by
  rw [ixT (e:=.sl .u8) h0 h1,eU,List.flatten_singleton]
 have hle:∀ n:Nat,(l.take n).flatten.length<=l.flatten.length:=λn=>by
  conv=>rhs;rw [<-cv n l,eU,af]
  omega
 intro _ _;refine bp.intro (λi=>0<=i.1.1/\i.1.1<=l.length/\i.1.2.1=(l.take i.1.1.toNat).flatten.length) (λi=>l.length - i.1.1.toNat) ⟨by simp,by simp,by simp⟩ ?_;rintro ⟨⟨i,n,_⟩,_⟩ ⟨h0,h1,h2⟩;simp only at h0 h1 h2 ⊢;subst h2;have:=hle i.toNat
 refine aw (λhc=>?_) (λhc=>⟨by omega,λ_=>?_⟩)
 .have hc:i< (l.length:Int):=of_decide_eq_true hc;have e:=CU i h0 hc;have h3:=hle (i+1).toNat
  have e2:=congrArg List.length e;rw [af] at e2;generalize aK (.sl .u8) l i=z at*;exact ⟨h0,hc,λ_ _=>⟨by unfold aF;omega,aw (λhd=>by have hd:=of_decide_eq_true hd;omega) (λ_=>⟨by unfold aF;omega,⟨by omega,by omega,by omega⟩,by omega⟩)⟩⟩
 refine bp.intro (λi=>0<=i.1.1/\i.1.1<=l.length/\i.1.2.1=(l.take i.1.1.toNat).flatten) (λi=>l.length - i.1.1.toNat) ⟨by simp,by simp,by simp⟩ ?_;rintro ⟨⟨j,n,_⟩,_⟩ ⟨h0,h1,h2⟩;simp only at h0 h1 h2 ⊢;subst h2;refine aw (λhc=>?_) (λhc=>?_)
 .have hc:j< (l.length:Int):=of_decide_eq_true hc;have e:=CU j h0 hc;have h3:=hle (j+1).toNat
  have e2:=congrArg List.length e;rw [af] at e2;exact ⟨h0,hc,λ_=>⟨by omega,by omega,by unfold aF;omega,⟨by omega,by omega,e.symm⟩,by omega⟩⟩
 .have hc:¬j< (l.length:Int):=of_decide_eq_false hc;rw [aT (by omega)];exact ⟨cq _,h⟩
def xl:Ct
 | [.v (.c (.p 0 0))],[.cells 150 [.de (.int .u32) T 0 0,.o 1,.o 2],.sl 5 .u8 x,.sl 5 .u8 y],Q=>∃ R fs,T.length=256/\MW T x y R fs/\R.length<=10000000/\∀ fs',k7 T (fs++fs') R->Q (.c (.d .u8 (fs++fs').flatten)) [.gone,.gone,.gone]
 | _,_,_=>False
def af9:=aga.add WX
def ET (T:List Int) (x y:List UInt8):dE:=λQ=>List.length y<=9223372036854775807->br ((aE y)==0) (fa (List.length x)/\(cY x (Q (SV.v (S1.c (Cl.d Ty.u8 x))) [.cells 150 [Cl.de (.int .u32) T ah bD,.o 1,.o 2],HO.held (5:TypeId) Ty.u8 x,.sl 5 Ty.u8 
 y]))) (dO T (List.length y<=128/\∀ (rR:List UInt8),DM T y rR->cY rR (aF .i64 0->List.length (ae [x,rR])<=100000000/\(aL (List.length (ae [x,rR]))->Q (SV.v (S1.c (Cl.d Ty.u8 (ae [x, 
 rR])))) [.cells 150 [Cl.de (.int .u32) T ah bD,.o 1,.o 2],HO.held (5:TypeId) Ty.u8 x,HO.held (5:TypeId) Ty.u8 y]))))
theorem Ke:cG 55 xl:=by
 intro args H Q h;unfold xl at h;split at h;rotate_left;cases h;rename_i T x y;refine Wp.ae6 ?_;refine Wp.dJ af9 fj ⟨[],[]⟩ Tryz.f55 (ET T x y) (hold:=[89,38,90]) ?_;unfold ET cY dO ah aE fa aL bD bK;obtain ⟨R,fs,hT,hm,hl,h⟩:=h;have hr:=hm.g.row;have hx:=hm.g.abR;have eK:=hm.lt;refine λ_=>aw (λhc=>?_) (λhc=>?_)
 .have hc:(y.length:Int)=0:=eq_of_beq hc;obtain ⟨h1,h2⟩:=hm.akJ (aJ (by omega));have h3:=h [] (by rw [aW];exact h1);rw [aW,<-h2] at h3;exact ⟨by omega,λ_=>h3⟩
 .have hc:¬(y.length:Int)=0:=by simpa using hc
  refine ⟨hT,by omega,λz hz _ _=>?_⟩;obtain ⟨h1,h2⟩:=hm.akI (λe=>by rw [e] at hc;simp at hc) hz;have h3:=h [z] h1;rw [<-h2] at h3;have e:ae [x,z]=x++z:=by simp
  rw [e];have:=hz.len.2;exact ⟨by rw [af];omega,λ_=>h3⟩
def Ha:Ct
 | .v (.c (.p 0 0))::vs,[.abs a],Q=>∃ (T:List Int) (x:List UInt8) (y:List UInt8),a=jM [.cells 150 [.de (.int .u32) T 0 0,.o 1,.o 2],.sl 5 .u8 x,.sl 5 .u8 y]/\xl (.v (.c (.p 0 0))::vs) [.cells 150 [.de (.int .u32) T 0 0,.o 1,.o 2],.sl 5 .u8 x,.sl 5 .u8 y] (uq 0 [1,2] [0] 1 Q)
 | _,_,_=>False
theorem Ey:cG 55 Ha:=λargs H Q h=>by
 unfold Ha at h;split at h
 .obtain ⟨T,x,y,rfl,h⟩:=h;exact Wp.Ek (q:=0) (L:=[.cells 150 [.de (.int .u32) T 0 0,.o 1,.o 2],.sl 5 .u8 x,.sl 5 .u8 y]) rfl (gJ _) (Ke _ _ _ h)
 .cases h
def jf:List (Nat×Ty):=(281,dW)::fj
def xn:Ct
 | [.v (.c (.de (.int .u32) T 0 0)),.v (.c cim),.v (.c (.k (.int .i64 a))),.v (.c (.k (.int .i64 c)))],[],Q=>(match (Ty.sl Ty.u8).of [cim] with
  | some (im,[])=>im.length<=100000000/\Q (.c (.p 0 0)) [.cells 245 [.de (.int .u32) T 0 0,.d .u8 im,.k (.int .i64 a),.k (.int .i64 c),.m 1],.map 3 .int dW []]
  | _=>False)
 | _,_,_=>False
def af8:=(af9.add Ke).add Ey
def EV (T:List Int) (im:(List (Ty.u8).den)) (a c:Int):dE:=λQ=>cM im (cj a c (fa (dm im)/\(aL (dm im)->Q mN [.cells 245 [Cl.de (.int .u32) T ah bD,Cl.d Ty.u8 im,.k (aC a),.k (aC c),Cl.m bJ],HO.map eZ Kk.int dW []])))
theorem Kg:cG 103 xn:=by
 intro args H Q h;unfold xn at h;split at h;rotate_left;cases h;rename_i T cim a c;split at h;rotate_left;cases h;rename_i im Wc;refine Wp.said (args':=[.v (.c (.de (.int .u32) T 0 0)),.c (.d Ty.u8 im),.int a,.int c]) (λE g=>bC.cE (λ_ h=>h) (bC.cE (dI Wc) (bC.cE (λ_ h=>h) (bC.cE (λ_ h=>h) (λ_ h=>h))))) ?_;clear Wc;refine Wp.dJ af8 jf ⟨[],[]⟩ Tryz.f103 (EV T im a c) ?_;unfold EV mN dm cj cM aC ah fa aL bD bJ eZ;obtain ⟨hl,h⟩:=h;exact λ_ _ _=>⟨by omega,λ_=>h⟩
def aem:Ct:=cP<| cO λH Q=>match H with
 | [.cells 245 [.de (.int .u32) T 0 0,.d .u8 im,.k (.int .i64 a),.k (.int .i64 c),.m 1],.map 3 .int (.pair (.sl .u8) (.pair (.int .i64) .unit)) M]=>(0<=a/\a<=c/\c<=im.length)/\Q (.bool true) [.cells 245 [.de (.int .u32) T 0 0,.d .u8 im,.k (.int .i64 a),.k (.int .i64 c),.m 1],.map 3 .int dW M]
 | _=>False
def af7:=af8.add Kg
def KV (T:List Int) (im:List UInt8) (a c:Int) (M:(List (Int×dW.den))):dE:=λQ=>br (decide (a≥0)) (br (decide (a<=c)) (cY im (Q (.v (.c (.k (.bool (decide (c<=(aE im))))))) [.cells 245 [Cl.de (.int .u32) T ah bD,Cl.d Ty.u8 im,.k (aC a),.k (aC c),Cl.m bJ],HO.map (3: 
 TypeId) Kk.int dW M])) (Q kQ [.cells 245 [Cl.de (.int .u32) T ah bD,Cl.d Ty.u8 im,.k (aC a),.k (aC c),Cl.m bJ],HO.map (3:TypeId) Kk.int dW M])) (Q kQ [.cells 245 [Cl.de (.int .u32) T ah bD,Cl.d Ty.u8 
 im,.k (aC a),.k (aC c),Cl.m bJ],HO.map (3:TypeId) Kk.int dW M])
theorem acf:cG 194 aem:=fz<| rJ<| rK λH Q h=>by
 split at h;rotate_left;cases h;rename_i T im a c M;refine Wp.dJ af7 jf ⟨[],[]⟩ Tryz.f194 (KV T im a c M) ?_;unfold KV cY aC kQ ah aE aL bD bJ;obtain ⟨⟨h0,h1,h2⟩,h⟩:=h;refine aw (λ_=>aw (λ_=>λ_=>?_) (λhc=>absurd h1 (of_decide_eq_false hc))) (λhc=>absurd h0 (of_decide_eq_false hc));rw [decide_eq_true h2];exact h
def VE:Ct:=cP<| cI λr=>cO λH Q=>match H with
 | [.cells 245 [.de (.int .u32) T 0 0,.d .u8 im,.k (.int .i64 a),.k (.int .i64 c),.m 1],.map 3 .int (.pair (.sl .u8) (.pair (.int .i64) .unit)) M]=>∃ fs R,T.length=256/\im.length<=100000000/\iI T im a c fs R M/\∃ k:Nat,k<=fs.length/\r=(fy fs k:Int)/\∀ h ok M',iI T im a c fs R M'->agE fs R k h ok->Q (.cJ [.agg (dW.cells h),.c (.k (.bool ok))]) [.cells 245 [.de (.int .u32) T 0 0,.d .u8 im,.k (.int .i64 a),.k (.int .i64 c),.m 1],.map 3 .int dW M']
 | _=>False
def af6:=af7.add acf
abbrev Mm (y0:SV->List HO->Prop) (y1:List Int) (y2:List UInt8) (y3:Int) (y4:Int) (y5:List (Int×dW.den)):=y0 (SV.cJ [S1.agg [.k (.slice none 0 0),.k a6],.c (.k (.bool false))]) [.cells 245 [Cl.de (.int .u32) y1 ah bD,Cl.d Ty.u8 y2,.k (aC y3),.k (aC y4),Cl.m bJ],HO.map (3:TypeId) Kk.int dW y5]
abbrev Ij (y0:List (Int×dW.den)) (y1:Int):=gd (Kk.get Kk.int y0 y1) ([],ah,())
def Bj (r:Int) (T:List Int) (im:List UInt8) (a c:Int) (M:(List (Int×dW.den))):dE:=λQ=>aF .i64 r->Ty.ok dW (Ij M r)->br (Option.isSome (Kk.get Kk.int M r)) (Q (SV.cJ [S1.agg [Cl.d Ty.u8 (Ij M r).1,.k (.int .i64 (Ij M r).2.1)],.c (.k (.bool true))]) [.cells 245 [Cl.de (.int .u32) T 
 ah bD,Cl.d Ty.u8 im,.k (aC a),.k (aC c),Cl.m bJ],HO.map (3:TypeId) Kk.int dW M]) (aF .i64 (c - a)/\br (decide (r>c - a)) (Mm Q T im a c M) (aF .i64 (a+r)/\dO T (iN im (∃ z nx e,FrE T im (a+r) z 
 nx e/\(aL (bO z)->cj nx e (br (e !=0) (Mm Q T im a c M) (br (decide (nx>c)) (Mm Q T im a c M) (aL (bO z)->br ((aE z)==0) (Mm Q T im a c M) (aF .i64 (nx - a)/\List.length M< 9223372036854775807/\Q (SV.cJ 
 [S1.agg [Cl.d Ty.u8 z,.k (.int .i64 (nx - a))],.c (.k (.bool true))]) [.cells 245 [Cl.de (.int .u32) T ah bD,Cl.d Ty.u8 im,.k (aC a),.k (aC c),Cl.m bJ],HO.map (3:TypeId) Kk.int dW (Kk.put Kk.int M r (z,nx - a, 
 ()))])))))))))
theorem Ub:cG 195 VE:=fz<| rJ<| nG λr=>rK λH Q h=>by
 split at h;rotate_left;cases h;rename_i T im a c M;refine Wp.lq [some dW,none] [] ?_;refine Wp.dJ af6 jf ⟨[],[]⟩ Tryz.f195 (Bj r T im a c M) ?_;unfold Bj Ij iN cj dO bO Mm a6 aC ah aE aL bD bJ bK;obtain ⟨fs,R,hT,hl,hR,k,hk,rfl,h⟩:=h;have ha:=hR.a0;have hac:=hR.ac;have hci:=hR.ci;have hle:=xp hR.row hk;have jy:=qg fs;have hge:=JJ hR.row (ay _);refine λ_ _=>?_;rcases hR.get hk with ⟨hg,ah7,hM⟩| ⟨qP,hg⟩;rotate_left
 .rw [hg];exact aw (λ_=>⟨ay _,h _ true M hR ⟨.inl ⟨rfl,qP,rfl⟩⟩⟩) (λhc=>by cases hc)
 rw [hg];refine aw (λhc=>by cases hc) (λ_=>⟨by unfold aF;omega,aw (λhc=>by have hc:=of_decide_eq_true hc;omega) (λ_=>⟨by unfold aF;omega,hT,hl,?_⟩)⟩);rcases dZ k fs.length with qP| qP
 .obtain ⟨hF,gx⟩:=hR.take qP;have alk:=xp hR.row (show k+1<=fs.length by omega);refine ⟨_,_,0,⟨.inr ⟨rfl,hF⟩⟩,λ_ _ _=>aw (λhc=>by cases hc) (λ_=>aw (λhc=>by have hc:=of_decide_eq_true hc;omega) (λ_=>λ_=>aw (λhc=>?_) (λ_=>⟨by unfold aF;omega,by omega,ay _,?_⟩)))⟩
  .have hc:((kZ R k).length:Int)=0:=eq_of_beq hc;exact absurd (aJ (by omega)) gx
  .rw [show a+(fy fs (k+1):Int) - a=fy fs (k+1) by omega];exact h (uJ fs R k).2 true _ (ah7 qP) ⟨.inl ⟨rfl,qP,rfl⟩⟩
 .obtain rfl:k=fs.length:=by omega
  have kB:=h ([],0,()) false M hR ⟨.inr ⟨rfl,rfl,rfl⟩⟩;have anm:a+(fy fs fs.length:Int)=c:=by omega
  rw [anm];rcases hR.nxt with hc| ⟨b,nx,hF⟩;exact ⟨[],0,2,⟨.inl ⟨hc,rfl,rfl,rfl⟩⟩,λ_ _ _=>aw (λ_=>⟨ay _,kB⟩) (λhq=>by cases hq)⟩
  .obtain ⟨x,r,hx,_,hn⟩:=hF.ex;have:=hx.len.1;exact ⟨b,nx,0,⟨.inr ⟨rfl,hF⟩⟩,λ_ _ _=>aw (λhq=>by cases hq) (λ_=>aw (λ_=>⟨ay _,kB⟩) (λhq=>by have hq:=of_decide_eq_false hq;omega))⟩
def xm:Ct
 | [.v (.c (.p 0 0)),.v (.c (.k (.int .i64 r))),.v (.c (.k (.int .i64 n)))],[.cells 245 [.de (.int .u32) T 0 0,.d .u8 im,.k (.int .i64 a),.k (.int .i64 c),.m 1],.map 3 .int (.pair (.sl .u8) (.pair (.int .i64) .unit)) M],Q=>∃ fs R,T.length=256/\im.length<=100000000/\iI T im a c fs R M/\∃ o:Nat,o<=R.length/\R.length<=10000000/\r=(dU fs o:Int)/\(0<=n/\n<=10000000)/\∀ z nx e M',iI T im a c fs R M'->pc fs R o n.toNat z nx e->Q (.cJ [.c (.d .u8 z),.c (.k (.int .i64 nx)),.c (.k (.int .i64 e))]) [.cells 245 [.de (.int .u32) T 0 0,.d .u8 im,.k (.int .i64 a),.k (.int .i64 c),.m 1],.map 3 .int dW M']
 | _,_,_=>False
def af5:=af6.add Ub
abbrev B8 {A0 A3:Type} (y0:List A0) (y1) (y2:Int) (y3:List A3):=List.take (ax (min (a7 y0) (y1+y2 - (a7 y3))) - ax y1) (List.drop (aZ y1) y0)
abbrev R5 (y0:SV->List HO->Prop) (y1) (y2) (y3) (y4) (y5:List (Int×Ty.den dW)):=y0 (.cJ [.c dL,.c (.k a6),.c (.k (.int .i64 2))]) [.cells 245 [Cl.de (.int .u32) y1 ah bD,Cl.d Ty.u8 y2,.k (aC y3),.k (aC y4),Cl.m bJ],HO.map (3:TypeId) Kk.int dW y5]
abbrev O3 (y0:SV->List HO->Prop) (y1:List Int) (y2:List UInt8) (y3:Int) (y4:Int) (y5:List (Int×dW.den)):=y0 (.cJ [.c dL,.c (.k a6),.c (.k (.int .i64 1))]) [.cells 245 [Cl.de (.int .u32) y1 ah bD,Cl.d Ty.u8 y2,.k (aC y3),.k (aC y4),Cl.m bJ],HO.map (3:TypeId) Kk.int dW y5]
abbrev Co {A0 A3:Type} (y0:List A0) (y1) (y2:Int) (y3:List A3):=ax (min (a7 y0) (y1+y2 - (a7 y3))) - ax y1
def EU (r n:Int) (T:List Int) (im:List UInt8) (a c:Int) (M:(List (Int×dW.den))):dE:=λQ=>cj r n (br (cR r) (O3 Q T im a c M) (br (cR n) (O3 Q T im a c M) ((0<=a/\a<=c/\c<=(aE im))/\fb≠ah/\aF .i64 (fQ r fb)/\fb≠ah/\(aF .i64 (Int.tmod r 
 fb)->bp (λi ag=>gu i.1.2.2.1 (br (decide ((a7 i.1.2.2.1)< n)) (∃ fs R,dO i.2.1.1 (iN i.2.1.2.1 (iI i.2.1.1 i.2.1.2.1 i.2.1.2.2.1 i.2.1.2.2.2.1 fs R i.2.2.1/\∃ k,k<=List.length fs/\i.1.1=(↑(fy fs k): 
 Int)/\∀ (h:Ty.den dW) (ok:Bool) (M':List (Int×Ty.den dW)),iI i.2.1.1 i.2.1.2.1 i.2.1.2.2.1 i.2.1.2.2.2.1 fs R M'->agE fs R k h ok->aL (bO h.1)->aF .i64 h.2.1->br (!ok) (R5 Q i.2.1.1 i.2.1.2.1 i.2.1.2.2.1 
 i.2.1.2.2.2.1 M') (aL (bO h.1)->br (decide (i.1.2.1≥(a7 h.1))) (R5 Q i.2.1.1 i.2.1.2.1 i.2.1.2.2.1 i.2.1.2.2.2.1 M') (aL (bO h.1)->aF .i64 (i.1.2.1+n)/\(aL (bO i.1.2.2.1)->aF .i64 (i.1.2.1+n - (a7 
 i.1.2.2.1))/\0<=i.1.2.1/\i.1.2.1<=min (a7 h.1) (i.1.2.1+n - (a7 i.1.2.2.1))/\min (a7 h.1) (i.1.2.1+n - (a7 i.1.2.2.1))<=(a7 h.1)/\(List.length i.1.2.2.1+List.length (B8 h.1 i.1.2.1 n i.1.2.2.1))*1<=cw/\ 
 List.length i.1.2.2.1+List.length (B8 h.1 i.1.2.1 n i.1.2.2.1)<=9223372036854775807/\(List.length (B8 h.1 i.1.2.1 n i.1.2.2.1)<=9223372036854775807->aF .i64 (i.1.2.1+(↑(List.length (B8 h.1 i.1.2.1 n i.1.2.2.1)):Int))/\ 
 br (i.1.2.1+(↑(List.length (B8 h.1 i.1.2.1 n i.1.2.2.1)):Int)==128) (ag ((h.2.1,ah,i.1.2.2.1++List.take (Co h.1 i.1.2.1 n i.1.2.2.1) (qz i.1.2.1 h.1),()),(i.2.1.1,i.2.1.2.1,i.2.1.2.2.1,i.2.1.2.2.2.1,(),()), 
 M',())) (List.length (i.1.2.2.1++List.take (Co h.1 i.1.2.1 n i.1.2.2.1) (qz i.1.2.1 h.1))<=9223372036854775807->br (decide ((↑(List.length (i.1.2.2.1++List.take (Co h.1 i.1.2.1 n i.1.2.2.1) (qz i.1.2.1 h.1))):Int)< 
 n)) (R5 Q i.2.1.1 i.2.1.2.1 i.2.1.2.2.1 i.2.1.2.2.2.1 M') (ag ((i.1.1,i.1.2.1+(↑(List.length (B8 h.1 i.1.2.1 n i.1.2.2.1)):Int),i.1.2.2.1++List.take (Co h.1 i.1.2.1 n i.1.2.2.1) (qz i.1.2.1 h.1),()),(i.2.1.1, 
 i.2.1.2.1,i.2.1.2.2.1,i.2.1.2.2.2.1,(),()),M',())))))))))) (aF .i64 (fb*i.1.1)/\aF .i64 (fb*i.1.1+i.1.2.1)/\Q (SV.cJ [S1.c (.o 2),.c (.k (.int .i64 (fb*i.1.1+i.1.2.1))),.c (.k a6)]) [.cells 245 
 [Cl.de (.int .u32) i.2.1.1 ah bD,Cl.d Ty.u8 i.2.1.2.1,.k (aC i.2.1.2.2.1),.k (aC i.2.1.2.2.2.1),Cl.m bJ],HO.map (3:TypeId) Kk.int dW i.2.2.1,.sl 5 Ty.u8 i.1.2.2.1]))) ((fQ r fb,Int.tmod r fb,[], 
 ()),(T,im,a,c,(),()),M,())))))
theorem Kf:cG 147 xm:=by
 intro args H Q h;unfold xm at h;split at h;rotate_left;cases h;rename_i r n T im a c M;refine Wp.lq [some (.sl .u8),none,none] [2] ?_;refine Wp.dJ af5 jf ⟨[(8,⟨[(10,.int .i64),(11,.int .i64),(9,.own 5 .u8)],[(0,.cells 245 [.dp (.int .u32),.d .u8,.int .i64,.int .i64,.Jx (.m 1)]),(1,.map 3 .int dW)]⟩)],[(16,⟨[(10,.int .i64),(11,.int .i64)],[]⟩)]⟩ Tryz.f147 (EU r n T im a c M) ?_;unfold EU qz iN Co O3 cj cR dO R5 gu bO B8 cw dL aZ a6 aC ah fb a7 aE aL bD bJ bK;obtain ⟨fs,R,hT,hl,hR,o,ho,hRl,rfl,⟨n0,n1⟩,h⟩:=h;obtain ⟨n,rfl⟩:∃ k:Nat,n=k:=⟨n.toNat,by omega⟩;rw [aU] at h;have ha:=hR.a0;have hac:=hR.ac;have hci:=hR.ci;have jy:=qg fs;have hge:=JJ hR.row (ay _);have hfl:=hR.row.len;obtain ⟨s1,s2⟩:=UQ fs o;rw [s1,s2];have tU:=xp hR.row (show o / 128<=fs.length by omega);refine λ_ _=>aw (λhc=>by have hc:=of_decide_eq_true hc;omega) (λ_=>aw (λhc=>by have hc:=of_decide_eq_true hc;omega) (λ_=>⟨⟨ha,by omega,hci⟩,by decide,by unfold aF;omega,by decide,λ_=>?_⟩));refine bp.intro (λi=>i.2.1=(T,im,a,c,(),())/\iI T im a c fs R i.2.2.1/\∃ m:Nat,m<=n/\o+m<=R.length/\i.1=((fy fs ((o+m) / 128):Int),(((o+m) % 128:Nat):Int),(R.drop o).take m,())) (λi=>n - i.1.2.2.1.length) ⟨rfl,hR,0,cq _,ho,rfl⟩ ?_;rintro ⟨⟨at',q,out,_⟩,⟨T',im',a',c',_,_⟩,M1,_⟩ ⟨e1,hR1,m,hm,hom,e2⟩;simp only [Prod.mk.injEq] at e1 e2;obtain ⟨rfl,rfl,rfl,rfl,_⟩:=e1;obtain ⟨rfl,rfl,rfl,_⟩:=e2;simp only at hR1 ⊢;have qk:((R.drop o).take m).length=m:=by rw [aA,aN];omega
 rw [qk];have SN:(o+m) / 128<=fs.length:=by omega
 have aql:=xp hR.row SN;refine λ_=>aw (λhc=>?_) (λhc=>?_);rotate_left
 .have hc:¬(m:Int)< n:=of_decide_eq_false hc;obtain rfl:m=n:=by omega
  refine ⟨by unfold aF;omega,by unfold aF;omega,by simp,?_⟩;have:=h ((R.drop o).take m) (dU fs (o+m):Int) 0 M1 hR1 ⟨.inl ⟨hom,rfl,rfl,rfl⟩⟩;have e:(256*(fy fs ((o+m) / 128):Int)+(((o+m) % 128:Nat):Int))=(dU fs (o+m):Int):=by
   show _=((256*fy fs ((o+m) / 128)+(o+m) % 128:Nat):Int);omega
  rw [e];exact this
 have hc:(m:Int)< n:=of_decide_eq_true hc;refine ⟨fs,R,hT,hl,hR1,_,SN,rfl,λhh ok M2 hR2 hH _ _=>?_⟩;have aik:R.length< o+n->Q (.cJ [.c (.d .u8 []),.c (.k (.int .i64 0)),.c (.k (.int .i64 2))]) _:=λq=>h [] 0 2 M2 hR2 ⟨.inr ⟨q,rfl,rfl,rfl⟩⟩;rcases hH.or with ⟨rfl,hk,rfl⟩| ⟨rfl,hk,rfl⟩;rotate_left;exact aw (λ_=>⟨by simp,aik (by omega)⟩) (λhq=>by cases hq);refine aw (λhq=>by cases hq) (λ_=>λ_=>aw (λhq=>?_) (λhq=>?_))
 .have hq:=of_decide_eq_true hq;rw [rb] at hq;exact ⟨by simp,aik (by omega)⟩
 have hq:=of_decide_eq_false hq;have hbl:=rb R ((o+m) / 128);simp only at hq ⊢;generalize hz:(min ((kZ R ((o+m) / 128)).length:Int) ((((o+m) % 128:Nat):Int)+(n:Int) - (m:Int)))=z;obtain ⟨d,hd⟩:∃ d:Nat,z=(((o+m) % 128:Nat):Int)+d:=⟨(z - (((o+m) % 128:Nat):Int)).toNat,by omega⟩;have hp:List.take (z.toNat - (((o+m) % 128:Nat):Int).toNat) (List.drop (((o+m) % 128:Nat):Int).toNat (kZ R ((o+m) / 128)))=(R.drop (o+m)).take d:=by
  have:=aac R (o+m) ((o+m) % 128+d) (by omega);rw [aU,show z.toNat - (o+m) % 128=(o+m) % 128+d - (o+m) % 128 by omega,this,show (o+m) % 128+d - (o+m) % 128=d by omega]
 rw [hp];have hdl:((R.drop (o+m)).take d).length=d:=by rw [aA,aN];omega
 rw [hdl,Mq];have aib:((R.drop o).take (m+d)).length=m+d:=by rw [aA,aN];omega
 rw [aib];refine λ_=>⟨by unfold aF;omega,λ_=>⟨by unfold aF;omega,by omega,by omega,by omega,by omega,by omega,λ_=>⟨by unfold aF;omega,aw (λhe=>?_) (λhe=>λ_=>aw (λhf=>?_) (λhf=>?_))⟩⟩⟩
 .have he:(((o+m) % 128:Nat):Int)+(d:Int)=128:=eq_of_beq he;refine ⟨⟨trivial,hR2,m+d,by omega,by omega,?_⟩,by omega⟩;rw [show (o+(m+d)) / 128=(o+m) / 128+1 by omega,show (o+(m+d)) % 128=0 by omega];rfl
 .have hf:=of_decide_eq_true hf;have he:¬(((o+m) % 128:Nat):Int)+(d:Int)=128:=by simpa using he
  exact ⟨by simp,aik (by omega)⟩
 .have he:¬(((o+m) % 128:Nat):Int)+(d:Int)=128:=by simpa using he
  refine ⟨⟨trivial,hR2,m+d,by omega,by omega,?_⟩,by omega⟩;rw [show (o+(m+d)) / 128=(o+m) / 128 by omega,show (o+(m+d)) % 128=(o+m) % 128+d by omega];rfl
def Hb:Ct
 | .v (.c (.p 0 0))::vs,[.abs a],Q=>∃ (T:List Int) (im:List UInt8) (a1:Int) (c:Int) (M:List (Int×dW.den)),a=jM [.cells 245 [.de (.int .u32) T 0 0,.d .u8 im,.k (.int .i64 a1),.k (.int .i64 c),.m 1],.map 3 .int dW M]/\xm (.v (.c (.p 0 0))::vs) [.cells 245 [.de (.int .u32) T 0 0,.d .u8 im,.k (.int .i64 a1),.k (.int .i64 c),.m 1],.map 3 .int dW M] (uq 0 [1] [0] 1 Q)
 | _,_,_=>False
theorem Ez:cG 147 Hb:=λargs H Q h=>by
 unfold Hb at h;split at h
 .obtain ⟨T,im,a1,c,M,rfl,h⟩:=h;exact Wp.Ek (q:=0) (L:=[.cells 245 [.de (.int .u32) T 0 0,.d .u8 im,.k (.int .i64 a1),.k (.int .i64 c),.m 1],.map 3 .int dW M]) rfl (gJ _) (Kf _ _ _ h)
 .cases h
def Hc:Ct:=λargs H Q=>xn args H (uq 0 [1] [0] H.length Q)
theorem EA:cG 103 Hc:=λargs H Q h=>Wp.Yv (Kg _ _ _ h)
end Go.Proofs

namespace Go.Lm
open Go
structure TS (x:List Int):Prop where
 le:∀ i:Int,1<=i->i< x.length->aK (.int .i64) x (i - 1)<=aK (.int .i64) x i
abbrev od:Ty:=.pair (.int .i64) (.pair (.int .i64) (.pair (.int .i64) (.pair (.int .i64) (.pair (.int .i64) (.pair (.int .i64) (.pair (.int .i64) (.pair (.int .i64) (.pair (.int .i64) (.pair (.int .i64) .unit)))))))))
structure rD (s:od.den):Prop where
 p1:64<=s.2.2.1
 p2:s.2.2.1<=s.2.2.2.1
 p3:s.2.2.2.1<=s.2.2.2.2.1
 p4:s.2.2.2.2.1<=s.2.2.2.2.2.1
 p5:s.2.2.2.2.2.1<=s.2.2.2.2.2.2.1
 p6:s.2.2.2.2.2.2.1<=s.1
 p7:s.1<=1048576
 n1:1<=s.2.1/\s.2.1<=1024
 n2:1<=s.2.2.2.2.2.2.2.1/\s.2.2.2.2.2.2.2.1<=2048
 n3:0<=s.2.2.2.2.2.2.2.2.1/\s.2.2.2.2.2.2.2.2.1<=1024
 n4:0<=s.2.2.2.2.2.2.2.2.2.1/\s.2.2.2.2.2.2.2.2.2.1<=4294967295
theorem rD.ints {s:od.den} (h:rD s):∃ s0 s1 s2 s3 s4 s5 s6 s7 s8 s9:Int,s=(s0,s1,s2,s3,s4,s5,s6,s7,s8,s9,())/\64<=s2/\s2<=s3/\s3<=s4/\s4<=s5/\s5<=s6/\s6<=s0/\s0<=1048576/\(1<=s1/\s1<=1024)/\(1<=s7/\s7<=2048)/\(0<=s8/\s8<=1024)/\(0<=s9/\s9<=4294967295):=by
 obtain ⟨s0,s1,s2,s3,s4,s5,s6,s7,s8,s9,_⟩:=s;exact ⟨s0,s1,s2,s3,s4,s5,s6,s7,s8,s9,rfl,h.p1,h.p2,h.p3,h.p4,h.p5,h.p6,h.p7,h.n1,h.n2,h.n3,h.n4⟩
theorem ahv {a b c d e f:Int} (h1:64<=a) (h2:a<=b) (h3:b<=c) (h4:c<=d) (h5:d<=e) (h6:e<=f) (h7:f<=1048576):TS [64,a,b,c,d,e,f,1048576]:=⟨λi i0 i1=>by
 have i1:i< 8:=i1;have:i=1\/i=2\/i=3\/i=4\/i=5\/i=6\/i=7:=by omega
 rcases this with rfl| rfl| rfl| rfl| rfl| rfl| rfl<;>assumption⟩
def fR (s:od.den):List UInt8:=[76,77,76,65]++(aI 4 s.1.toNat++(aI 4 s.2.2.1.toNat++(aI 4 s.2.2.2.1.toNat++(aI 4 s.2.2.2.2.1.toNat++(aI 4 s.2.2.2.2.2.1.toNat++(aI 4 s.2.2.2.2.2.2.1.toNat++(aI 4 s.2.2.2.2.2.2.2.2.2.1.toNat++(aI 2 s.2.1.toNat++(aI 2 s.2.2.2.2.2.2.2.1.toNat++aI 2 s.2.2.2.2.2.2.2.2.1.toNat)))))))))
def fF (T:List Int) (s:od.den):List UInt8:=fR s++(aI 4 (cu T 0 (fR s)).toNat++av 22 0)
theorem uV (s:od.den):(fR s).length=38:=by
 unfold fR;simp only [af,aB,aq,aM]
theorem lY (T:List Int) (s:od.den):(fF T s).length=64:=by
 unfold fF;simp only [af,aB,uV,aS]
theorem iv (n x:Nat) (r:List UInt8):List.take n (aI n x++r)=aI n x:=List.take_left' (aB n x)
theorem ix (n x:Nat) (r:List UInt8):List.drop n (aI n x++r)=r:=List.drop_left' (aB n x)
theorem ef {n:Nat} {x:Int} (h0:0<=x) (h1:x< 256 ^ n):bL (aI n x.toNat)=x:=by
 have e:(x.toNat:Int)=x:=by omega
 rw [CM n x.toNat (by
  have:(x.toNat:Int)< ((256 ^ n:Nat):Int):=by rw [e];simpa using h1
  exact Int.ofNat_lt.1 this),e]
theorem ahD (z:List UInt8):iZ z (z.length:Int)=z/\F7 z (z.length:Int)=0:=by
 have:=H9 (x:=z) (y:=[]) (n:=z.length) rfl;rw [aW] at this;exact ⟨this.1,this.2.1⟩
theorem akQ:mJ (fD [76,77,76,65]) (ByteArray.mk #[(76:UInt8),(77:UInt8),(76:UInt8),(65:UInt8)])=true:=by decide+kernel
end Go.Lm

