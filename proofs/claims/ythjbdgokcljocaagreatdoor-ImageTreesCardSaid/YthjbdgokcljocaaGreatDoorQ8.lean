/- Texts of mine, laid together: H1 KQ H2 H3 H4 H5 LmWb LmFrame Frame. -/
import Derived.Test.YthjbdgokcljocaaGreatDoorQ7
import Derived.Test.YthjbdgokcljocaaGreatDoorProg
import Derived.Test.YthjbdgokcljocaaGreatDoorChecked
import Derived.Test.YthjbdgokcljocaaGreatDoorQ3
import Derived.Test.YthjbdgokcljocaaGreatDoorQ6
import Derived.Test.YthjbdgokcljocaaGreatDoorQ1
import Derived.HandedShaped
import Derived.ProofKit
import Derived.LaidMore
import Derived.OpenShut
import Derived.ShutString
import Derived.ChangeOld
import Derived.Below
import Derived.Stop.Joined
import Derived.Shelf.Vars
import Derived.SevenTiedAt
import Derived.Test.YthjbdgokcljocaaGreatDoorTie
import Derived.Lib.LaidU8
import Derived.MakeChecks
set_option linter.unusedVariables false
open Bool renaming and_eq_true → ak, false_or → eZ, false_and → fg, true_and → j5, true_or → lQ
open Int renaming toNat → ax, le_refl → bB
open List renaming length_append → af, length_cons → av, length_singleton → ay, mem_cons_of_mem → aF, length_take → aH, mem_cons_self → aK, append_assoc → aL, length_nil → aO, length_drop → aQ, take_of_length_le → aT, mem_singleton → aW, mem_append → aX, append_nil → bd, mem_cons → bz, take_succ_eq_append_getElem → bG, length_map → bR, take_append_drop → bX, getElem_mem → dA, cons_append → dV, take_length → eK, drop_eq_nil_of_le → eL, drop_drop → eP, pairwise_cons → eY, nil_append → hU, flatMap_append → ia, flatMap_cons → jA, pairwise_append → nC, drop_zero → pc
open Nat renaming eq_of_beq_eq_true → ai, le_refl → aG, zero_lt_succ → eS, zero_add → gC
open Option renaming getD → cA, isSome_iff_exists → gV, isSome → oc
open Option.some renaming inj → aj
open Go.Proofs.Tryz renaming prog → bQ
noncomputable section
namespace Go.Proofs
open Go Go.Lm Go.RowKit
set_option maxRecDepth 1000000
def afZ:Ct:=cD .str λa=>cD .str λb=>c0 λQ=>Q (.bool (decide (cmpL a b< 0))) []
def Lr (a b:(List (Ty.str).den)):dx:=λQ=>nq a b (aM (λi ag=>mM a (br (decide (i.1.1< (aA a))) (aJ (List.length b)->br (decide (i.1.1< (aA b))) (0<=i.1.1/\i.1.1< (aA a)/\(Ty.ok Ty.str (iz a i.1.1)->0<=i.1.1/\i.1.1< (aA b)/\ 
 (Ty.ok Ty.str (iz b i.1.1)->br (!kT (iz a i.1.1) (iz b i.1.1)) (0<=i.1.1/\i.1.1< (aA a)/\(Ty.ok Ty.str (iz a i.1.1)->0<=i.1.1/\i.1.1< (aA b)/\(Ty.ok Ty.str (iz b i.1.1)->Q (.v (.c (.k (.bool (rG (iz 
 a i.1.1) (iz b i.1.1)))))) []))) (dP i.1.1 ag)))) (oE a b (Q (.v (.c (.k (.bool (decide ((aA a)< (aA b))))))) []))) (oE a b (Q (.v (.c (.k (.bool (decide ((aA a)< (aA b))))))) [])))) dE)
theorem adZ:cu 66 afZ:=eQ<| jm λa=>jm λb=>gM λQ h=>by
 refine Wp.dC gJ dW ⟨[(3,⟨[(5,.int .i64)],[]⟩)],[]⟩ Tryz.f66 (Lr a b) ?_;unfold Lr iz mM oE dE nq dP ah aA aJ;intro _ _;refine aM.intro (λi=>0<=i.1.1/\i.1.1<=a.length/\i.1.1<=b.length/\cmpL (a.drop i.1.1.toNat) (b.drop i.1.1.toNat)=cmpL a b) (λi=>a.length - i.1.1.toNat) (by grind) ?_;rintro ⟨⟨i,_⟩,_⟩ ⟨h0,h1,h2,h3⟩;simp only at h0 h1 h2 h3 ⊢;rw [<-h3] at h;refine λ_=>aq (λha=>λ_=>aq (λhb=>?_) (λhb=>λ_ _=>?_)) (λha=>λ_ _=>?_)
 .have ha:i< (a.length:Int):=of_decide_eq_true ha;have hb:i< (b.length:Int):=of_decide_eq_true hb;rw [dc (e:=.str) h0 ha,dc (e:=.str) h0 hb,n5] at h h3;refine ⟨h0,ha,λ_=>⟨h0,hb,λ_=>aq (λhd=>⟨h0,ha,λ_=>⟨h0,hb,λ_=>?_⟩⟩) (λhd=>?_)⟩⟩
  .have hn:¬fK (aB .str a i) (aB .str b i)=0:=λe=>by
    rw [uq e,gD.2 rfl] at hd;cases hd
   simp_all [qF]
  .have e:aB .str a i=aB .str b i:=by grind [gD]
   rw [e,nZ,if_pos rfl] at h3
   grind [aD]
 .have hb:¬i< (b.length:Int):=of_decide_eq_false hb;rw [dj hb,Wu] at h
  grind
 .have ha:¬i< (a.length:Int):=of_decide_eq_false ha;rw [dj ha,Wv,aQ] at h;rw [show decide ((a.length:Int)< (b.length:Int))=decide (0< ((b.length - i.toNat:Nat):Int)) by rw [decide_eq_decide];omega];exact h
def WE:Ct:=cD noTy λl=>c0 λQ=>(l.length:Int)<=1000/\∀ L':List aZ,L'.Perm l->L'.Pairwise (λx y=>¬cmpL y.1 x.1< 0)->Q (.c (.o 0)) [.sl 38 noTy L']
def alp:=gJ.add adZ
abbrev aeD (y0) (y1) (y2:List (noTy).den) (y3) (R:Prop):=y0<=(aS y1)/\(0+List.length (List.take (ax y0 - 0) (List.drop 0 y1)))*136<=(140737488355328:Nat)/\0+List.length (List.take (ax y0 - 0) (List.drop 0 y1))<=9223372036854775807/\(List.length ([]++List.take (ax y0 - 0) (List.drop 0 y1))+List.length [aB noTy y2 y3])*136<=(140737488355328:Nat)/\List.length ([]++List.take (ax y0 - 0) (List.drop 0 y1))+List.length [aB noTy y2 y3]<=9223372036854775807/\(List.length ([]++List.take (ax y0 - 0) (List.drop 0 y1)++ [aB noTy y2 y3])+List.length ([]++List.take (ax (aS y1) - ax y0) (List.drop (ax y0) y1)))*136<=(140737488355328:Nat)/\List.length ([]++List.take (ax y0 - 0) (List.drop 0 y1)++ [aB noTy y2 y3])+List.length ([]++List.take (ax (aS y1) - ax y0) (List.drop (ax y0) y1))<=9223372036854775807/\aD .i64 (y3+1)/\R
abbrev SQ (y0) (y1) (y2) (y3:List (noTy).den):=((y0+1,[]++List.take (ax y1 - 0) (List.drop 0 y2)++ [aB noTy y3 y0]++([]++List.take (ax (aS y2) - ax y1) (List.drop (aU y1) y2)),()),())
abbrev Pv {A0:Type} (y0:List A0) (y1):=List.take (ax (aS y0) - ax y1) (List.drop (aU y1) y0)
def Br (l:(List (noTy).den)):dx:=λQ=>dG l (aM (λi ag=>dG l (br (eH i.1.1 l) (aJ (bw i.1.2.1)->cG (λk=>aM (λbE ag=>br (decide (bE.1.1>0)) (dz i.1.1 l (dY l i.1.1 (aD .i64 (bE.1.1 - 1)/\0<=bE.1.1 - 1/\bE.1.1 - 
 1< (aS i.1.2.1)/\0<=bE.1.1 - 1/\bE.1.1 - 1< (aS i.1.2.1)/\(Ty.ok noTy (aB noTy i.1.2.1 (bE.1.1 - 1))->br (decide (cmpL (cn l i.1.1).1 (aB noTy i.1.2.1 (bE.1.1 - 1)).1< 0)) (aD .i64 (bE.1.1 - 1)/\ag ((bE.1.1 - 1, 
 ()),())) (k bE))))) (k bE)) (((aS i.1.2.1),()),())) λbE=>vg bE.1.1 i.1.2.1 (vg bE.1.1 i.1.2.1 ((aS i.1.2.1)<=(aS i.1.2.1)/\(0+List.length (Pv i.1.2.1 bE.1.1))*136<=ck/\0+List.length (Pv 
 i.1.2.1 bE.1.1)<=9223372036854775807/\vg bE.1.1 i.1.2.1 (dz i.1.1 l (dY l i.1.1 (((ah<=ah/\0<=bE.1.1/\aeD bE.1.1 i.1.2.1 l i.1.1 (ag (SQ i.1.1 bE.1.1 i.1.2.1 l)))/\ah<=ah/\0<=bE.1.1/\aeD bE.1.1 
 i.1.2.1 l i.1.1 (ag (SQ i.1.1 bE.1.1 i.1.2.1 l)))/\ah<=ah/\0<=bE.1.1/\aeD bE.1.1 i.1.2.1 l i.1.1 (ag (SQ i.1.1 bE.1.1 i.1.2.1 l)))))))) (Q fh [.sl 38 noTy i.1.2.1]))) ((ah,[],()),()))
theorem UR:cu 36 WE:=eQ<| jm λl=>gM λQ h=>by
 refine Wp.dC alp dW ⟨[(4,⟨[(4,.int .i64),(3,.own 38 noTy)],[]⟩),(7,⟨[(5,.int .i64)],[]⟩)],[(9,⟨[(5,.int .i64)],[]⟩)]⟩ Tryz.f36 (Br l) ?_;unfold Br vg Pv dY fh eH dz SQ cn dG bw ck aU aeD ah aS aA aJ;obtain ⟨hl,h⟩:=h;intro _;refine aM.intro (λi=>0<=i.1.1/\i.1.1<=l.length/\i.1.2.1.Perm (l.take i.1.1.toNat)/\i.1.2.1.Pairwise (λx y=>¬cmpL y.1 x.1< 0)) (λi=>l.length - i.1.1.toNat) ⟨by simp,by simp,by simp,by simp⟩ ?_;rintro ⟨⟨i,out,_⟩,_⟩ ⟨h0,h1,h2,h3⟩;simp only at h0 h1 h2 h3 ⊢;refine λ_=>aq (λhc=>?_) (λhc=>?_)
 .have hc:i< (l.length:Int):=of_decide_eq_true hc;have pQ:out.length=i.toNat:=by rw [h2.length_eq,aH];omega
  have e1:l.take (i+1).toNat=l.take i.toNat++ [aB noTy l i]:=mq (e:=noTy) h0 hc;generalize aB noTy l i=x at*;intro _;refine cG.intro (λk=>0<=k.1.1/\k.1.1<=out.length/\(∀ y∈out.drop k.1.1.toNat,cmpL x.1 y.1< 0)/\∀ y∈out.take k.1.1.toNat,¬cmpL x.1 y.1< 0) ?_ ?_
  .refine aM.intro (λk=>0<=k.1.1/\k.1.1<=out.length/\∀ y∈out.drop k.1.1.toNat,cmpL x.1 y.1< 0) (λk=>k.1.1.toNat) ⟨by simp,by simp,by simp⟩ ?_;rintro ⟨⟨k,_⟩,_⟩ ⟨k0,k1,k2⟩;simp only at k0 k1 k2 ⊢;refine aq (λhk=>?_) (λhk=>?_)
   .have hk:k>0:=of_decide_eq_true hk;have e:=dc (e:=noTy) (l:=out) (k:=k - 1) (by omega) (by omega);have e3:=mq (e:=noTy) (l:=out) (k:=k - 1) (by omega) (by omega);rw [show k - 1+1=k by omega] at e e3;refine ⟨h0,hc,λ_=>⟨by unfold aD;omega,by omega,by omega,by omega,by omega,λ_=>aq (λhd=>?_) (λhd=>?_)⟩⟩
    .have hd:=of_decide_eq_true hd;refine ⟨by unfold aD;omega,⟨by omega,by omega,λy hy=>?_⟩,by omega⟩;rw [e] at hy;rcases bz.1 hy with rfl| hy
     .exact hd
     .exact k2 y hy
    .have hd:=of_decide_eq_false hd;refine ⟨k0,k1,k2,λy hy=>?_⟩;rw [e3] at hy;rcases aX.1 hy with hy| hy
     .have Dg:out=out.take (k - 1).toNat++(aB noTy out (k - 1)::out.drop k.toNat):=by rw [<-e,bX]
      rw [Dg] at h3;exact Au hd ((nC.1 h3).2.2 y hy _ aK)
     .obtain rfl:=aW.1 hy;exact hd
   .have hk:¬k>0:=of_decide_eq_false hk;refine ⟨k0,k1,k2,λy hy=>?_⟩;rw [show k.toNat=0 by omega] at hy;cases hy
  .rintro ⟨⟨k,_⟩,_⟩ ⟨k0,k1,k2,k3⟩;simp only at k0 k1 k2 k3 ⊢;have b1:cd (some k) 0=k:=rfl;have b2:cd (some k) (out.length:Int)=k:=rfl;have b3:cd none (out.length:Int)=out.length:=rfl;have b4:cd none 0=0:=rfl;have e5:List.take (ax (out.length:Int) - k.toNat) (out.drop k.toNat)=out.drop k.toNat:=aT (by rw [aQ];omega);simp only [e5,pc,Nat.sub_zero,hU];have fin:(0<=i+1/\i+1<=(l.length:Int)/\(out.take k.toNat++ [x]++out.drop k.toNat).Perm (l.take (i+1).toNat)/\(out.take k.toNat++ [x]++out.drop k.toNat).Pairwise (λx y=>¬cmpL y.1 x.1< 0))/\l.length - (i+1).toNat< l.length - i.toNat:=⟨⟨by omega,by omega,by rw [e1];exact Z8 h2,ajI h3 k2 k3⟩,by omega⟩;clear h k2 k3 h3 h2 e1
   repeat' (first| exact fin| apply And.intro| intro _)
   all_goals (first| omega| (unfold aD;omega)| (simp only [af,aH,aQ,av,aO];omega))
 .have hc:¬i< (l.length:Int):=of_decide_eq_false hc;rw [aT (by omega)] at h2;exact h out h2 h3
def Ob:Ct:=cD noTy λl=>c0 λQ=>(l.length:Int)<=1000/\Q (.c (.o 0)) [.sl 38 noTy (bJ l [])]
def wm (l:(List (noTy).den)):dx:=λQ=>dG l (aM (λi ag=>dG l (br (eH i.1.2.1 l) (dz i.1.2.1 l (dY l i.1.2.1 (aM (λbE ag_1=>br (decide (bE.1.1< i.1.2.1)) (dz bE.1.1 l (dY l bE.1.1 (dz i.1.2.1 l (dY l i.1.2.1 (br 
 ((cn l bE.1.1).2.1==(cn l i.1.2.1).2.1) (vt bE.1.1 i.1.2.2.1 (Ty.ok noTy (fb i.1.2.2.1 bE.1.1)->cF bE.1.1 (ag_1 ((bE.1.1+1,()),(bE.2.1.1,(fb i.1.2.2.1 bE.1.1).2.1,bE.2.1.2.2),())))) (cF bE.1.1 
 (ag_1 ((bE.1.1+1,()),bE.2)))))))) (br (bE.2.1.2.1==0) (cF i.1.1 ((List.length i.1.2.2.1+List.length [(bE.2.1.1,i.1.1,bE.2.1.2.2.1,(bE.2.1.2.2.2.1,bE.2.1.2.2.2.2.1,bE.2.1.2.2.2.2.2.1,()),bE.2.1.2.2.2.2.2.2)])*136 
 <=ck/\List.length i.1.2.2.1+List.length [(bE.2.1.1,i.1.1,bE.2.1.2.2.1,(bE.2.1.2.2.2.1,bE.2.1.2.2.2.2.1,bE.2.1.2.2.2.2.2.1,()),bE.2.1.2.2.2.2.2.2)]<=9223372036854775807/\cF i.1.2.1 (ag ((i.1.1+1,i.1.2.1+1, 
 i.1.2.2.1++ [(bE.2.1.1,i.1.1,bE.2.1.2.2.1,(bE.2.1.2.2.2.1,bE.2.1.2.2.2.2.1,bE.2.1.2.2.2.2.2.1,()),bE.2.1.2.2.2.2.2.2)],()),())))) ((List.length i.1.2.2.1+List.length [(bE.2.1.1,bE.2.1.2.1,bE.2.1.2.2.1, 
 (bE.2.1.2.2.2.1,bE.2.1.2.2.2.2.1,bE.2.1.2.2.2.2.2.1,()),bE.2.1.2.2.2.2.2.2)])*136<=ck/\List.length i.1.2.2.1+List.length [(bE.2.1.1,bE.2.1.2.1,bE.2.1.2.2.1,(bE.2.1.2.2.2.1,bE.2.1.2.2.2.2.1,bE.2.1.2.2.2.2.2.1, 
 ()),bE.2.1.2.2.2.2.2.2)]<=9223372036854775807/\cF i.1.2.1 (ag ((i.1.1,i.1.2.1+1,i.1.2.2.1++ [(bE.2.1.1,bE.2.1.2.1,bE.2.1.2.2.1,(bE.2.1.2.2.2.1,bE.2.1.2.2.2.2.1,bE.2.1.2.2.2.2.2.1,()),bE.2.1.2.2.2.2.2.2)],()), 
 ()))))) ((ah,()),((cn l i.1.2.1).1,ah,(cn l i.1.2.1).2.2.1,(cn l i.1.2.1).2.2.2.1.1,(cn l i.1.2.1).2.2.2.1.2.1,(cn l i.1.2.1).2.2.2.1.2.2.1,(cn l i.1.2.1).2.2.2.2),())))) (Q fh [.sl 38 noTy i.1.2.2.1]))) 
 ((aV,ah,[],()),()))
theorem Kv:cu 35 Ob:=eQ<| jm λl=>gM λQ h=>by
 refine Wp.dC gJ dW ⟨[(5,⟨[(4,.int .i64),(5,.int .i64),(3,.own 38 noTy)],[]⟩),(10,⟨[(7,.int .i64)],[(2,.cells 38 xV)]⟩)],[]⟩ Tryz.f35 (wm l) ?_;unfold wm fb dY vt fh eH dz cF cn dG ck ah aV aS aA;obtain ⟨hl,h⟩:=h;intro _;refine aM.intro (λi=>0<=i.1.2.1/\i.1.2.1<=l.length/\i.1.1=((da (l.take i.1.2.1.toNat) []).length:Int)+1/\i.1.2.2.1=bJ (l.take i.1.2.1.toNat) []) (λi=>l.length - i.1.2.1.toNat) ⟨by simp,by simp,by simp [da],by simp [bJ]⟩ ?_;rintro ⟨⟨nx,i,out,_⟩,_⟩ ⟨h0,h1,h2,h3⟩;simp only at h0 h1 h2 h3 ⊢;refine λ_=>aq (λhc=>?_) (λhc=>?_)
 .have hc:i< (l.length:Int):=of_decide_eq_true hc;have e1:l.take (i+1).toNat=l.take i.toNat++ [aB noTy l i]:=mq (e:=noTy) h0 hc;have Dh:=lq (l.take i.toNat) [];rw [aH,aO] at Dh;have pQ:out.length=i.toNat:=by rw [h3,iq,aH];omega
  generalize hx:aB noTy l i=x at*;have fin:∀ (v nx':Int),(Kk.get .int (da (l.take i.toNat) []) x.2.1=some v/\nx'=nx\/(Kk.get .int (da (l.take i.toNat) []) x.2.1=none/\v=nx/\nx'=nx+1))->(0<=i+1/\i+1<=(l.length:Int)/\nx'=((da (l.take (i+1).toNat) []).length:Int)+1/\out++ [aZ.gy x v]=bJ (l.take (i+1).toNat) [])/\l.length - (i+1).toNat< l.length - i.toNat:=λv nx' hv=>by
   obtain ⟨n1,n2⟩:=M6 (L:=l.take i.toNat) (x:=x) (v:=v) (by
    rcases hv with ⟨a,_⟩| ⟨a,b,_⟩;exact .inl a
    .exact .inr ⟨a,by rw [b,h2]⟩)
   rw [e1,n1,n2,h3];refine ⟨⟨by omega,by omega,?_,rfl⟩,by omega⟩;rcases hv with ⟨a,b⟩| ⟨a,_,b⟩;rw [if_neg (by rw [a];simp),b,h2];rw [if_pos a,b,h2]
  refine ⟨h0,hc,λ_=>?_⟩;refine aM.intro (λk=>0<=k.1.1/\k.1.1<=i/\∃ v:Int,k.2.1=(x.1,v,x.2.2.1,x.2.2.2.1.1,x.2.2.2.1.2.1,x.2.2.2.1.2.2.1,x.2.2.2.2)/\((v=0/\∀ y∈l.take k.1.1.toNat,y.2.1≠x.2.1)\/Kk.get .int (da (l.take i.toNat) []) x.2.1=some v)) (λk=>i.toNat - k.1.1.toNat) ⟨by simp,h0,0,rfl,.inl ⟨rfl,by simp⟩⟩ ?_;rintro ⟨⟨k,_⟩,_,_⟩ ⟨k0,k1,v,rfl,k2⟩;simp only at k0 k1 k2 ⊢;refine aq (λhk=>?_) (λhk=>?_)
  .have hk:k< i:=of_decide_eq_true hk;have NA:k< (l.length:Int):=by omega
   have hko:k< (out.length:Int):=by omega
   have e2:l.take (k+1).toNat=l.take k.toNat++ [aB noTy l k]:=mq (e:=noTy) k0 NA;refine ⟨k0,NA,λ_=>⟨h0,hc,λ_=>aq (λhd=>⟨k0,hko,k0,hko,λ_=>⟨by unfold aD;omega,⟨by omega,by omega,(aB noTy out k).2.1,rfl,.inr ?_⟩,by omega⟩⟩) (λhd=>⟨by unfold aD;omega,⟨by omega,by omega,v,rfl,?_⟩,by omega⟩)⟩⟩
   .have hd:(aB noTy l k).2.1=x.2.1:=eq_of_beq hd;have:=ajx (L:=l.take i.toNat) (j:=k) k0 (by rw [aH];omega);rw [ff (e:=noTy) k0 (by rw [aH];omega),List.getElem_take,<-ff (e:=noTy) k0 NA,hd] at this;rw [this,h3]
   .rcases k2 with ⟨k2,k3⟩| k2
    .refine .inl ⟨k2,λy hy=>?_⟩;rw [e2] at hy;rcases aX.1 hy with hy| hy
     .exact k3 y hy
     .obtain rfl:=aW.1 hy;simpa using hd
    .exact .inr k2
  .have hk:¬k< i:=of_decide_eq_false hk;obtain rfl:k=i:=by omega
   refine aq (λhd=>?_) (λhd=>?_)
   .have hd:v=0:=eq_of_beq hd;have hn:Kk.get .int (da (l.take k.toNat) []) x.2.1=none:=by
     rcases k2 with ⟨_,k3⟩| k2;exact (Ji (l.take k.toNat)).2 ⟨rfl,k3⟩
     .have:=AX (l.take k.toNat) (m:=[]) (λ_ _ q=>by cases q) _ _ k2;omega
    exact ⟨by unfold aD;omega,by simp only [ay];omega,by simp only [ay];omega,by unfold aD;omega,fin nx (nx+1) (.inr ⟨hn,rfl,rfl⟩)⟩
   .have hd:v≠0:=by simpa using hd
    exact ⟨by simp only [ay];omega,by simp only [ay];omega,by unfold aD;omega,fin v nx (.inl ⟨k2.resolve_left λq=>hd q.1,rfl⟩)⟩
 .have hc:¬i< (l.length:Int):=of_decide_eq_false hc;rw [aT (by omega)] at h3;rw [h3];exact h
theorem Cc:∀ a:List ByteArray,fZ a a=true
 | []=>rfl
 | x::a=>by unfold fZ;rw [gD.2 rfl,Cc a];rfl
theorem xC:∀ a:List uD,fG a a=true
 | []=>rfl
 | x::a=>by unfold fG pO JK;rw [gD.2 rfl,gD.2 rfl,xC a];rfl
theorem OC (x:aZ):iH x x=true:=by grind [iH, JK, gD, xC]
def afL:Ct:=cD noTy λa=>cD noTy λb=>c0 λQ=>a=b/\Q (.bool true) []
def alo:=(gJ.add xN).add KB
def K7 (a b:(List (noTy).den)):dx:=λQ=>dG a (gE b (gE a (gE b (br ((aA a) !=(aA b)) (bc Q) (aM (λi ag=>dG a (br (eH i.1.1 a) (dz i.1.1 a (dY a i.1.1 (dz i.1.1 b (dY b i.1.1 (dz i.1.1 a (dY a i.1.1 (dz 
 i.1.1 b (dY b i.1.1 (br (!fZ (cn a i.1.1).1 (cn b i.1.1).1) (bc Q) (br (!iH (cn a i.1.1) (cn b i.1.1)) (bc Q) (dz i.1.1 a (dY a i.1.1 (dz i.1.1 b (dY b i.1.1 (br ((cn a i.1.1).2.1 !=(cn b 
 i.1.1).2.1) (bc Q) (dP i.1.1 ag)))))))))))))))) (Q nF []))) dE)))))
theorem adH:cu 25 afL:=eQ<| jm λa=>jm λb=>gM λQ h=>by
 refine Wp.dC alo dW ⟨[(5,⟨[(5,.int .i64)],[]⟩)],[]⟩ Tryz.f25 (K7 a b) ?_;unfold K7 gE dY eH dE dz bc cn dG dP iX nF ah aA aJ;obtain ⟨rfl,h⟩:=h;intro _ _ _ _;refine aq (λh1=>by simp at h1) (λ_=>?_);refine aM.intro (λi=>0<=i.1.1) (λi=>a.length - i.1.1.toNat) (bB _) ?_;rintro ⟨⟨k,_⟩,_⟩ k0;rw [Cc,OC];refine λ_=>aq (λhc=>?_) (λ_=>h)
 grind [aq, aD]
def nA (x y:aZ):Bool:=x.2.1==y.2.1&& (x.2.2.1==1|| !iH x y)
def kh:List aZ->List aZ->Bool
 | _,[]=>false
 | pre,x::r=>pre.any (nA x)|| kh (pre++ [x]) r
def zk (l:List aZ):Int:=if mj l !=0 then mj l else if l.any (λx=> !gr x) then 7 else if kh [] l then 8 else 0
theorem Z6 {e:Ty} {l:List e.den} {k i:Int} (h0:0<=k) (h1:k< i):aB e (l.take i.toNat) k=aB e l k:=by
 grind [aB]
theorem W2 {x y:aZ} {r:List aZ}:(y::r).any (nA x)=(nA x y|| r.any (nA x)):=rfl
def abx:Ct:=cD noTy λl=>c0 λQ=>Q (.int (zk l)) []
def aln:=((gJ.add xN).add Rj).add UY
def FT (l:(List (noTy).den)):dx:=λQ=>dG l (aD .i64 (mj l)->br (mj l !=0) (Q (.v (.c (.k (.int .i64 (mj l))))) []) (aM (λi ag=>dG l (br (eH i.1.1 l) (dz i.1.1 l (dY l i.1.1 (br (!gr (cn l i.1.1)) (Q (.v (.c (.k (.int 
 .i64 7)))) []) (dP i.1.1 ag)))) (aM (λi ag=>dG l (br (eH i.1.1 l) (aM (λbE ag_1=>br (decide (bE.1.1< i.1.1)) (dz i.1.1 l (dY l i.1.1 (dz bE.1.1 l (dY l bE.1.1 (br ((cn l i.1.1).2.1==(cn 
 l bE.1.1).2.1) (dz i.1.1 l (dY l i.1.1 (br ((cn l i.1.1).2.2.1==1) (yr Q) (dz i.1.1 l (dY l i.1.1 (dz bE.1.1 l (dY l bE.1.1 (br (!iH (cn l i.1.1) (cn l bE.1.1)) (yr Q) (dP bE.1.1 
 ag_1))))))))) (dP bE.1.1 ag_1)))))) (dP i.1.1 ag)) dE) (iQ Q))) dE))) dE))
theorem Yg:cu 34 abx:=eQ<| jm λl=>gM λQ h=>by
 refine Wp.dC aln dW ⟨[(6,⟨[(4,.int .i64)],[]⟩),(12,⟨[(6,.int .i64)],[]⟩),(15,⟨[(7,.int .i64)],[]⟩)],[]⟩ Tryz.f34 (FT l) ?_;unfold FT yr dY iQ eH dE dz cn dG dP aR ah aA;intro _ _;unfold zk at h;refine aq (λhc=>?_) (λhc=>?_);rw [if_pos hc] at h;exact h;rw [if_neg (by rw [hc];simp)] at h;refine aM.intro (λi=>0<=i.1.1/\i.1.1<=l.length/\((l.drop i.1.1.toNat).any λx=> !gr x)=l.any λx=> !gr x) (λi=>l.length - i.1.1.toNat) ⟨by simp,by simp,by simp⟩ ?_;rintro ⟨⟨i,_⟩,_⟩ ⟨h0,h1,h2⟩;simp only at h0 h1 h2 ⊢;intro _;refine aq (λhc=>?_) (λhc=>?_)
 .have hc:i< l.length:=by simpa using hc
  rw [dc (e:=noTy) h0 hc,List.any_cons] at h2;refine ⟨h0,hc,λ_=>aq (λhb=>?_) (λhb=>?_)⟩
  .have hb:(!gr (aB noTy l i))=true:=hb;rw [hb,lQ] at h2;rw [<-h2,if_pos rfl] at h;exact h
  .have hb:(!gr (aB noTy l i))=false:=hb;rw [hb,eZ] at h2;exact ⟨by unfold aD;omega,⟨by omega,by omega,h2⟩,by omega⟩
 have hc:¬i< l.length:=by simpa using hc
 rw [dj hc,List.any_nil] at h2;rw [<-h2,if_neg (by decide)] at h;clear h0 h1 h2 hc;refine aM.intro (λi=>0<=i.1.1/\i.1.1<=l.length/\kh (l.take i.1.1.toNat) (l.drop i.1.1.toNat)=kh [] l) (λi=>l.length - i.1.1.toNat) ⟨by simp,by simp,by simp⟩ ?_;rintro ⟨⟨i,_⟩,_⟩ ⟨h0,h1,h2⟩;simp only at h0 h1 h2 ⊢;intro _;refine aq (λhc=>?_) (λhc=>?_)
 .have hc:i< l.length:=by simpa using hc
  rw [dc (e:=noTy) h0 hc] at h2;simp only [kh] at h2;have e1:l.take (i+1).toNat=l.take i.toNat++ [aB noTy l i]:=mq (e:=noTy) h0 hc;rw [<-e1] at h2;have hlen:((l.take i.toNat).length:Int)=i:=by rw [aH];omega
  refine aM.intro (λk=>0<=k.1.1/\k.1.1<=i/\((l.take i.toNat).drop k.1.1.toNat).any (nA (aB noTy l i))=(l.take i.toNat).any (nA (aB noTy l i))) (λk=>i.toNat - k.1.1.toNat) ⟨by simp,by omega,by simp⟩ ?_;rintro ⟨⟨k,_⟩,_⟩ ⟨k0,k1,k2⟩;simp only at k0 k1 k2 ⊢;refine aq (λhk=>?_) (λhk=>?_)
  .have hk:k< i:=by simpa using hk
   rw [dc (e:=noTy) k0 (by omega),Z6 (e:=noTy) k0 hk,W2] at k2;have fin:∀ v,nA (aB noTy l i) (aB noTy l k)=v->v=true->Q (.int 8) []:=λv e hv=>by
    rw [e,hv,lQ] at k2;rw [<-k2,lQ] at h2;rw [<-h2,if_pos rfl] at h;exact h
   have go:nA (aB noTy l i) (aB noTy l k)=false->((l.take i.toNat).drop (k+1).toNat).any (nA (aB noTy l i))=(l.take i.toNat).any (nA (aB noTy l i)):=λe=>by rw [e,eZ] at k2;exact k2
   refine ⟨h0,hc,λ_=>⟨k0,by omega,λ_=>aq (λa1=>?_) (λa1=>?_)⟩⟩
   .have e:nA (aB noTy l i) (aB noTy l k)=((aB noTy l i).2.2.1==1|| !iH (aB noTy l i) (aB noTy l k)):=by unfold nA;rw [a1,j5]
    refine ⟨h0,hc,λ_=>aq (λa2=>?_) (λa2=>⟨h0,hc,λ_=>⟨k0,by omega,λ_=>aq (λa4=>?_) (λa4=>?_)⟩⟩)⟩;exact fin _ e (by rw [a2,lQ])
    .have a4:(!iH (aB noTy l i) (aB noTy l k))=true:=a4;exact fin _ e (by rw [a2,a4];rfl)
    .have a4:(!iH (aB noTy l i) (aB noTy l k))=false:=a4;exact ⟨by unfold aD;omega,⟨by omega,by omega,go (by rw [e,a2,a4];rfl)⟩,by omega⟩
   .exact ⟨by unfold aD;omega,⟨by omega,by omega,go (by unfold nA;rw [a1,fg])⟩,by omega⟩
  .have hk:¬k< i:=by simpa using hk
   rw [eL (by omega),List.any_nil] at k2;rw [<-k2,eZ] at h2;exact ⟨by unfold aD;omega,⟨by omega,by omega,h2⟩,by omega⟩
 .have hc:¬i< l.length:=by simpa using hc
  rw [dj hc] at h2;simp only [kh] at h2;rw [<-h2,if_neg (by decide)] at h;exact h
def wO {α:Type} (R:α->α->Bool):List α->List α->Bool
 | _,[]=>false
 | pre,x::r=>pre.any (R x)|| wO R (pre++ [x]) r
theorem yQ {α:Type} {R:α->α->Bool}:∀ {r pre:List α},wO R pre r=false↔(∀ y∈pre,∀ x∈r,R x y=false)/\r.Pairwise λa b=>R b a=false
 | [],pre=>by simp [wO]
 | x::r,pre=>by
  unfold wO;rw [Bool.or_eq_false_iff,yQ (r:=r),List.any_eq_false,eY];constructor
  .rintro ⟨h1,h2,h3⟩;refine ⟨λy hy z hz=>?_,λz hz=>h2 x (by simp) z hz,h3⟩;rcases bz.1 hz with rfl| hz
   .simpa using h1 y hy
   .exact h2 y (by simp [hy]) z hz
  .rintro ⟨h1,h2,h3⟩;refine ⟨λy hy=>by simp [h1 y hy x (by simp)],λy hy z hz=>?_,h3⟩;rcases aX.1 hy with hy| hy
   .exact h1 y hy z (by simp [hz])
   .obtain rfl:y=x:=by simpa using hy
    exact h2 z hz
theorem Ns {α:Type} {p:α->Bool} {x:α} {r:List α} (hx:p x=true):∀ {pre:List α} {k:Int},decide (kj p (pre++x::r) k< k+pre.length)=pre.any p
 | [],k=>by simp [kj,hx]
 | y::pre,k=>by
  rw [dV,List.any_cons];unfold kj;by_cases hy:p y=true;rw [if_pos hy,hy];simp;omega
  .rw [if_neg hy];have:=Ns (r:=r) hx (pre:=pre) (k:=k+1);rw [show p y=false by simpa using hy,eZ,<-this,av,decide_eq_decide];omega
theorem wv:∀ {r pre:List aZ},ko (pre++r) r pre.length=wO (λx y=>kG x.1 y) pre r
 | [],_=>rfl
 | x::r,pre=>by
  unfold ko wO;have h1:=Ns (p:=kG x.1) (x:=x) (r:=r) (V8 x) (pre:=pre) (k:=0);rw [Int.zero_add] at h1;have h2:=wv (r:=r) (pre:=pre++ [x]);rw [aL,af] at h2;rw [h1,<-h2];rfl
theorem L1 {l:List aZ}:ko l l 0=false↔l.Pairwise λa b=>a.1≠b.1:=by
 have h:=wv (r:=l) (pre:=[]);have e:ko l l 0=wO (λx y=>kG x.1 y) [] l:=h;rw [e,yQ];have:∀ a b:aZ,kG b.1 a=false↔a.1≠b.1:=λa b=>by
  unfold kG;rw [<-Bool.not_eq_true,nQ]
 simp [this]
theorem vJ:∀ {l:List aZ} {m:List (Int×aZ)},iE l m=0\/iE l m=8
 | [],_=>.inl rfl
 | x::r,m=>by
  unfold iE;cases Kk.get .int m x.2.1 with
  | none=>exact vJ
  | some o=>
   simp only;split;exact .inr rfl;exact vJ
theorem Na (l:List aZ):iC l=oJ l:=by
 unfold iC oJ;by_cases h1:(gG l !=0)=true
 .grind
 .have e1:=ra (m:=[]) (ja (l:=l) (by simpa using h1));have e2:=L1 (l:=l);have e:(lN l []).isNone=ko l l 0:=by
   cases h:ko l l 0 with
   | false=>
    have:=e1.2 ⟨e2.1 h,λx _=>rfl⟩
    grind
   | true=>
    simp_all
  rw [e]
theorem To {l:List aZ} (h:iC l=0) {p:List ByteArray} (hp:∀ s∈p,dh s=0):(kE (fj l) p !=1)= !lz l p:=by
 obtain ⟨hN,hD,hs⟩:=qi (l:=l) (by rw [h];rfl);cases hm:lN l [] with
 | none=>grind
 | some m=>
  have e:fj l=m:=by grind [fj]
  have hg:=yX (ja hN) hm p hp;rw [e];unfold kE lz;rw [hg];cases l.find? (kG p) with
  | none=>rfl
  | some x=>rfl
theorem ajp {l:List aZ} (h:iC l=0):Eo (fj l) l=upB l:=by
 obtain ⟨hN,_,_⟩:=qi (l:=l) (by rw [h];rfl);have ok:tW l:=ja hN;unfold Eo upB;have key:∀ r:List aZ,(∀ x∈r,x∈l)->(r.any (λx:aZ=>decide ((x.1.length:Int) - 1≥0)&& (kE (fj l) (x.1.take (x.1.length - 1)) !=1)))=r.any λx=>decide ((x.1.length:Int)>0)&& !lz l (x.1.take (x.1.length - 1)):=by
  intro r hr
  induction r with
  | nil=>rfl
  | cons x r ih=>
   rw [List.any_cons,List.any_cons,ih λy hy=>hr y (aF _ hy)];rw [To h λs hs=>ok x (hr x aK) s (by grind)]
   grind
 grind
theorem Wy (l:List aZ):dv l=if mj l !=0 then mj l else if l.any (λx=> !gr x) then 7 else iE l []:=by
 unfold dv mj;rw [Na];by_cases h1:(l.length:Int)>1024;rw [if_pos h1,if_pos h1];rfl
 .rw [if_neg h1,if_neg h1];by_cases h2:(oJ l !=0)=true
  .rw [if_pos h2,if_pos h2,if_pos h2]
  .rw [if_neg h2,if_neg h2];have h0:iC l=0:=by rw [Na];simpa using h2
   rw [To h0 (λs hs=>by cases hs),ajp h0];cases lz l []<;>cases upB l<;>rfl
theorem uK:∀ {r pre:List aZ},kh pre r=wO nA pre r
 | [],_=>rfl
 | x::r,pre=>by unfold kh wO;rw [uK (r:=r)]
theorem WZ {a b:aZ}:nA b a=false↔(a.2.1=b.2.1->b.2.2.1≠1/\b.2.2=a.2.2):=by
 grind [nA, vY]
theorem ajD (l:List aZ):iE l []=if kh [] l then 8 else 0:=by
 have h:kh [] l=false↔iE l []=0:=by
  rw [uK,yQ,rb];simp only [WZ];exact ⟨λh=>⟨h.2,λ_ _ _ q=>by cases q⟩,by grind⟩
 grind [vJ]
theorem Wz (l:List aZ):zk l=dv l:=by
 rw [Wy,ajD];rfl
def aky:Ct:=λargs H Q=>∃ (ref:Int) (T:List Int) (im:List UInt8) (s0:Int) (s1:Int) (s2:Int) (s3:Int) (s4:Int) (s5:Int) (s6:Int) (s7:Int) (s8:Int) (s9:Int) (pl:List Int) (ids:List Int) (nm:Int) (R1:Value->Atom) (R2:Value->Atom) (R3:Value->Atom) (M:List (Int×Nat×bf.den)),args= [.v (.c (.p 0 0)),.int ref]/\H= [.cells 90 [.de (.int .u32) T 0 0,.d .u8 im,.k (.int .i64 s0),.k (.int .i64 s1),.k (.int .i64 s2),.k (.int .i64 s3),.k (.int .i64 s4),.k (.int .i64 s5),.k (.int .i64 s6),.k (.int .i64 s7),.k (.int .i64 s8),.k (.int .i64 s9),.d (.int .i64) pl,.d (.int .i64) ids,.p 1 0,.p 2 0,.p 3 0,.m 4,.k (.int .i64 nm)],.abs R1,.abs R2,.abs R3,.ab (.pm 3 82 bf M)]/\∃ (d:IR) (N:List aZ) (x:aZ),d.Ok T N/\(T=dB/\im=d.im T/\d.s=(s0,s1,s2,s3,s4,s5,s6,s7,s8,s9,())/\pl=d.pl/\ids=d.ids)/\xF d N M x ref/\x∈N/\x.2.2.1=3/\Q (.cH [.c (.k (.string x.2.2.2.2.2.1)),.c (.k (.int .i64 0))]) [.cells 90 [.de (.int .u32) T 0 0,.d .u8 im,.k (.int .i64 s0),.k (.int .i64 s1),.k (.int .i64 s2),.k (.int .i64 s3),.k (.int .i64 s4),.k (.int .i64 s5),.k (.int .i64 s6),.k (.int .i64 s7),.k (.int .i64 s8),.k (.int .i64 s9),.d (.int .i64) pl,.d (.int .i64) ids,.p 1 0,.p 2 0,.p 3 0,.m 4,.k (.int .i64 nm)],.abs R1,.abs R2,.abs R3,.ab (.pm 3 82 bf M)]
def RD (ref:Int) (T:List Int) (im:List UInt8) (s0 s1 s2 s3 s4 s5 s6 s7 s8 s9:Int) (pl ids:List Int) (nm:Int) (R1 R2 R3:Value->Atom) (M:(List (Int×Nat×bf.den))):dx:=λQ=>aD .i64 ref->(∃ p,p∈M/\p.1=ref)/\∀ (i bb:Nat) (r:Ty.den bf),pG M i ref bb r (br (r.1.1 !=3) (Q (.cH [.c (.k lj),.c (.k (.int .i64 1))]) [fJ T 
 im s0 s1 s2 s3 s4 s5 s6 s7 s8 s9 pl ids nm,HO.abs R1,HO.abs R2,HO.abs R3,fp (iP M i ref bb r)]) (Q (.cH [.c (.k (.string r.1.2.2.2.2.2.2.2.2.2.2.1)),.c (.k aR)]) [fJ T im s0 s1 s2 s3 s4 s5 s6 s7 s8 s9 pl ids nm,HO.abs R1, 
 HO.abs R2,HO.abs R3,fp (iP M i ref bb r)]))
theorem air:cu 264 aky:=by
 intro args H Q h;obtain ⟨ref,T,im,s0,s1,s2,s3,s4,s5,s6,s7,s8,s9,pl,ids,nm,R1,R2,R3,M,rfl,rfl,h⟩:=h;refine Wp.dC acQ dW ⟨[],[]⟩ Tryz.f264 (RD ref T im s0 s1 s2 s3 s4 s5 s6 s7 s8 s9 pl ids nm R1 R2 R3 M) (clo:=true) ?_;unfold RD iP pG lj aR fJ fp;obtain ⟨d,N,x,hd,⟨rfl,rfl,hs,rfl,rfl⟩,⟨⟨p0,Wb,Xp⟩,rT⟩,hx,h⟩:=h;refine λ_=>⟨⟨p0,Wb,Xp⟩,λi bb r hi _ _=>?_⟩;have hR:=rT i bb r hi;rw [nO hi];have hN:=hR.n;obtain ⟨kd,ekd⟩:∃ a:Int,a=r.1.1:=⟨_,rfl⟩;have Dk:kd=x.2.2.1:=by rw [ekd];exact hN.kind
 
 obtain ⟨hk3,h⟩:=h;rw [<-ekd];refine aq (λq=>?_) (λ_=>?_);rw [Dk,hk3] at q;cases q;rw [hN.tgt hk3];exact h
theorem VT {x:aZ} (h:gr x=true):(x.2.2.1≠2->x.2.2.2.2.1= [])/\(x.2.2.1≠3->x.2.2.2.2.2.1=⟨#[]⟩):=by
 unfold gr at h;split at h
 .simp only [ak,beq_iff_eq] at h;exact ⟨by simp_all,λ_=>gD.1 h.1.1.1.2⟩
 .split at h
  .simp only [ak] at h;exact ⟨by omega,λ_=>gD.1 h.1.1.1.2⟩
  simp_all
def ahe:Ct
 | [.v (.c (.p 0 0)),.v (.c (.k (.int .i64 ref)))],[.abs A],Q=>∃ (d:IR) (N:List aZ) (x:aZ),MB A d N/\x∈N/\Kk.get .int d.t.Mr x.2.1=some ref/\x.2.2.1=3/\Q (.cH [.c (.k (.string x.2.2.2.2.2.1)),.c (.k (.int .i64 0))]) [.abs A]
 | _,_,_=>False
theorem amj:cu 264 ahe:=λargs H Q h=>by
 unfold ahe at h;split at h
 .obtain ⟨d,N,x,hM,hx,hg,hk,h⟩:=h;obtain ⟨s0,s1,s2,s3,s4,s5,s6,s7,s8,s9,nm,R1,R2,R3,M,hs,hV,rfl⟩:=hM.ex;have hR:=hV.recAt hM.ok hM.tr.root.1 hM.tr.pos hx hg;exact Wp.zt (q:=0) (p:=0) (r:=[1,2,3,4]) (ls:=[0]) (L:=[.cells 90 [.de (.int .u32) dB 0 0,.d .u8 (d.im dB),.k (.int .i64 s0),.k (.int .i64 s1),.k (.int .i64 s2),.k (.int .i64 s3),.k (.int .i64 s4),.k (.int .i64 s5),.k (.int .i64 s6),.k (.int .i64 s7),.k (.int .i64 s8),.k (.int .i64 s9),.d (.int .i64) d.pl,.d (.int .i64) d.ids,.p 1 0,.p 2 0,.p 3 0,.m 4,.k (.int .i64 nm)],.abs R1,.abs R2,.abs R3,.ab (.pm 3 82 bf M)]) rfl (eS _) (air _ _ _ ⟨_,_,_,_,_,_,_,_,_,_,_,_,_,_,_,_,_,_,_,_,rfl,rfl,d,N,x,hM.ok,by grind,hR,hx,hk,NQ.mpr h⟩)
 grind
def JY:Ct
 | [.v (.c (.ue 25 (.p 0 0))),.v (.c (.k (.int .i64 ref)))],[.abs A],Q=>∃ (d:IR) (N:List aZ) (x:aZ),MB A d N/\x∈N/\Kk.get .int d.t.Mr x.2.1=some ref/\Q (.cH [.agg (noTy.cells (([],(0:Int),x.2.2):aZ)),.c (.k (.int .i64 0))]) [.abs A]
 | _,_,_=>False
def alm:=(((gJ.add amj).add apf).add ami).add ait
def R6 (ref:Int) (A:Value->Atom):dx:=λQ=>aD .i64 ref->∃ d N x,MB A d N/\x∈N/\Kk.get Kk.int d.t.Mr x.2.1=some ref/\(cz x.2.2.1 x.2.2.2.1.1 x.2.2.2.1.2.1 (aD .i64 x.2.2.2.1.2.2.1->aD .i64 (↑(oM N x.2.1):Int)->aD .i64 (B5 N x)->aD .i64 0->∃ 
 d N xK,MB A d N/\xK∈N/\Kk.get Kk.int d.t.Mr xK.2.1=some ref/\(aJ (bw xK.2.2.2.2.2.2.1)->aD .i64 0->br (x.2.2.1==2) (∃ d N Xj,MB A d N/\Xj∈N/\Kk.get Kk.int d.t.Mr Xj.2.1=some ref/\(aJ (List.length (rdN Xj 
 ah (4096:Int)))->aD .i64 (Zg Xj ah (4096:Int))->Q (SV.cH [S1.agg [.k bZ,.k aR,.k (aC x.2.2.1),.k (aC x.2.2.2.1.1),.k (aC x.2.2.2.1.2.1),.k (aC x.2.2.2.1.2.2.1),Cl.d Ty.u8 (rdN Xj ah (4096:Int)),.k 
 lj,Cl.d cZ xK.2.2.2.2.2.2.1,.k (.bool false)],.c (.k (.int .i64 (Zg Xj ah (4096:Int))))]) [HO.abs A])) (br (x.2.2.1==3) (∃ d N Xj,MB A d N/\Xj∈N/\Kk.get Kk.int d.t.Mr Xj.2.1=some ref/\Xj.2.2.1=jY/\ 
 (du Xj.2.2.2.2.2.1 (aD .i64 0->Q (SV.cH [S1.agg [.k bZ,.k aR,.k (aC x.2.2.1),.k (aC x.2.2.2.1.1),.k (aC x.2.2.2.1.2.1),.k (aC x.2.2.2.1.2.2.1),.k bZ,.k (.string Xj.2.2.2.2.2.1),Cl.d cZ xK.2.2.2.2.2.2.1, 
 .k (.bool false)],.c (.k aR)]) [HO.abs A]))) (Q (SV.cH [S1.agg [.k bZ,.k aR,.k (aC x.2.2.1),.k (aC x.2.2.2.1.1),.k (aC x.2.2.2.1.2.1),.k (aC x.2.2.2.1.2.2.1),.k bZ,.k lj,Cl.d cZ xK.2.2.2.2.2.2.1,.k 
 (.bool false)],.c (.k aR)]) [HO.abs A])))))
theorem X1:cu 42 JY:=by
 intro args H Q h;unfold JY at h;split at h;rotate_left;cases h;rename_i ref A;refine Wp.res ?_;refine Wp.dC alm dW ⟨[],[]⟩ Tryz.f42 (R6 ref A) ?_;unfold R6 lj du bw bZ aR cz aC ah jY aJ;obtain ⟨d,N,x,hM,hx,hg,h⟩:=h;have hm:=hM.ok.tok.may x hx;obtain ⟨t1,t2⟩:=jS hm;obtain ⟨t3,t4⟩:=VT hm;have hdl:=(oK hm).2;change Q (SV.cH [S1.agg [.d .str [],.k (.int .i64 0),.k (.int .i64 x.2.2.1),.k (.int .i64 x.2.2.2.1.1),.k (.int .i64 x.2.2.2.1.2.1),.k (.int .i64 x.2.2.2.1.2.2.1),.d .u8 x.2.2.2.2.1,.k (.string x.2.2.2.2.2.1),.d cZ x.2.2.2.2.2.2.1,.k (.bool x.2.2.2.2.2.2.2.1)],.c (.k (.int .i64 0))]) _ at h;rw [t1] at h;refine λ_=>⟨d,N,x,hM,hx,hg,λ_ _ _ _ _ _ _=>⟨d,N,x,hM,hx,hg,λ_ _=>aq (λk=>?_) (λk=>aq (λk3=>?_) (λk3=>?_))⟩⟩
 .have k:=eq_of_beq k;refine ⟨d,N,x,hM,hx,hg,λ_ _=>?_⟩;rw [show rdN x 0 4096=x.2.2.2.2.1 from (if_pos ⟨k,by omega,by omega⟩).trans (aT (by simp only [show (0:Int).toNat=0 from rfl,pc];omega)),show Zg x 0 4096=0 by unfold Zg;rw [if_neg (by omega),if_neg (by omega)]];rw [t4 (by omega)] at h;exact ⟨_,yd λ_ _ _=>fa (λ_=>oz (e:=.str)) λ_ h=>h,h⟩
 .have k3:=eq_of_beq k3;refine ⟨d,N,x,hM,hx,hg,k3,λ_ _=>?_⟩;rw [t3 (by omega)] at h;exact ⟨_,yd λ_ _ _=>fa (λ_=>oz (e:=.str)) λ_=>fa (λ_ h=>h) λ_=>fa (λ_ h=>h) λ_=>fa (λ_ h=>h) λ_=>fa (λ_ h=>h) λ_=>fa (λ_ h=>h) λ_=>fa (λ_=>oz (e:=.u8)) λ_ h=>h,h⟩
 .have k:x.2.2.1≠2:=by simpa using k
  have k3:x.2.2.1≠3:=by simpa using k3
  rw [t3 k,t4 k3] at h;exact ⟨_,yd λ_ _ _=>fa (λ_=>oz (e:=.str)) λ_=>fa (λ_ h=>h) λ_=>fa (λ_ h=>h) λ_=>fa (λ_ h=>h) λ_=>fa (λ_ h=>h) λ_=>fa (λ_ h=>h) λ_=>fa (λ_=>oz (e:=.u8)) λ_ h=>h,h⟩
def QS:Ct:=cD .str λx=>c0 λQ=>x.length<=1000/\Q (.c (.o 0)) [.sl 9 .str x]
def RH (x:(List (Ty.str).den)):dx:=λQ=>mM x (IB x Q)
theorem XF:cu 43 QS:=eQ<| jm λx=>gM λQ h=>by
 refine Wp.yR (t:=9) (e:=.str) ?_;refine Wp.dC gJ dW ⟨[],[]⟩ Tryz.f43 (RH x) ?_;unfold RH IB mM j8 fh fE ck bZ;intro _ c hc;refine aq (λhb=>.inr ⟨rfl,?_⟩) (λhb=>⟨by omega,by omega,.inl ?_⟩)
 .grind
 grind
structure Kh (d:IR) (N:List aZ) (k r:Int) (p:List ByteArray):Prop where
 k0:0<=k
 k1:k< (N.length:Int)
 p:p=(aB noTy N k).1
 r:Kk.get .int d.t.Mr (aB noTy N k).2.1=some r
def pN (n:Nat):Ct
 | [.v (.c (.k (.int .i64 r))),.v (.c cp),.v (.c (.p 0 0)),.v (.c (.p 2 0)),.v (.c (.p 4 0)),.v (.c (.p 6 0))],[.cells 71 [.ue 25 (.p 1 0)],.abs A,.cells 100 [.m 3],.map 3 .int (.int .i64) m,.cells 22 [.o 5],.sl 38 (.pair (.sl .str) (.pair (.int .i64) (.pair (.int .i64) (.pair (.pair (.int .i64) (.pair (.int .i64) (.pair (.int .i64) .unit))) (.pair (.sl .u8) (.pair .str (.pair (.sl (.pair .str (.pair (.sl .u8) .unit))) (.pair .bool .unit)))))))) out,.cells 101 [.fn 41 [.p 0 0,.p 2 0,.p 4 0,.p 6 0]]],Q=>(match (Ty.sl Ty.str).of [cp] with
  | some (p,[])=>∃ (d:IR) (N:List aZ) (k:Int),MB A d N/\Kh d N k r p/\17<=p.length+n/\out.length+(cR d.t.Mr N n k).length<=100000/\m.length+(cR d.t.Mr N n k).length<=100000/\Q (.c (.k (.int .i64 0))) [.cells 71 [.ue 25 (.p 1 0)],.abs A,.cells 100 [.m 3],.map 3 .int (.int .i64) (da (cR d.t.Mr N n k) m),.cells 22 [.o 7],.gone,.cells 101 [.fn 41 [.p 0 0,.p 2 0,.p 4 0,.p 6 0]],.sl 38 noTy (out++bJ (cR d.t.Mr N n k) m)]
  | _=>False)
 | _,_,_=>False
def acP (n:Nat):Vx:= {P:=bQ,ct:=[(41,(pN n)),(42,JY),(43,QS),(13,JX)],ty:=dW,hold:=[41]}
theorem Xc (n:Nat) (hn:cu 41 (pN n)):gO Inv bQ (acP n).ct:=gO.cons hn (gO.cons X1 (gO.cons XF (gO.cons XV (gO.nil _ _))))
def R9 (n:Nat) (r:Int) (p:(List (Ty.str).den)) (A:Value->Atom) (m:(List (Int×Int))) (out:List aZ):dx:=λQ=>aD .i64 r->aJ (List.length p)->∃ d N x,MB A d N/\x∈N/\Kk.get Kk.int d.t.Mr x.2.1=some r/\(aJ (List.length ([]:List ByteArray))->aD .i64 0->aD .i64 x.2.2.1->aD .i64 x.2.2.2.1.1->aD .i64 
 x.2.2.2.1.2.1->aD .i64 x.2.2.2.1.2.2.1->aJ (List.length x.2.2.2.2.1)->aJ (ByteArray.size x.2.2.2.2.2.1)->aJ (List.length x.2.2.2.2.2.2.1)->aD .i64 0->cG (λk=>Ty.ok bo (cA (Kk.get Kk.int m r) ah)->br 
 (!oc (Kk.get Kk.int m r)) (aJ (List.length m)->aD .i64 ((aA m)+1)/\List.length m< 9223372036854775807/\k ((),Kk.put Kk.int m r ((aA m)+1),())) (k ((),m,()))) λi=>cG (λk=>(Ty.ok bo (cA 
 (Kk.get Kk.int i.2.1 r) ah)->k ((),(p,cA (Kk.get Kk.int i.2.1 r) ah,x.2.2.1,x.2.2.2.1.1,x.2.2.2.1.2.1,x.2.2.2.1.2.2.1,x.2.2.2.2),()))/\(Ty.ok bo (cA (Kk.get Kk.int i.2.1 r) ah)->k ((),(p,cA 
 (Kk.get Kk.int i.2.1 r) ah,x.2.2.1,x.2.2.2.1.1,x.2.2.2.1.2.1,x.2.2.2.1.2.2.1,x.2.2.2.2),()))) λbE=>(List.length out+List.length [(bE.2.1.1,bE.2.1.2.1,bE.2.1.2.2.1,(bE.2.1.2.2.2.1,bE.2.1.2.2.2.2.1, 
 bE.2.1.2.2.2.2.2.1,()),bE.2.1.2.2.2.2.2.2)])*136<=(140737488355328:Nat)/\List.length out+List.length [(bE.2.1.1,bE.2.1.2.1,bE.2.1.2.2.1,(bE.2.1.2.2.2.1,bE.2.1.2.2.2.2.1,bE.2.1.2.2.2.2.2.1,()),bE.2.1.2.2.2.2.2.2)]<= 
 9223372036854775807/\br (bE.2.1.2.2.1 !=1) (Q (.v (.c (.k (.int .i64 0)))) [.cells 71 [Cl.ue (25:TypeId) (.p 1 0)],HO.abs A,.cells 100 [Cl.m eI],qf i.2.1,.cells 22 [.o 7],.gone,.cells 101 [Cl.fn (41:FuncId) [.p 0 0,.p 2 
 0,.p 4 0,.p 6 0]],.sl 38 noTy (out++ [(bE.2.1.1,bE.2.1.2.1,bE.2.1.2.2.1,(bE.2.1.2.2.2.1,bE.2.1.2.2.2.2.1,bE.2.1.2.2.2.2.2.1,()),bE.2.1.2.2.2.2.2.2)])]) (∃ d N x,MB A d N/\x∈N/\Kk.get Kk.int d.t.Mr x.2.1=some r/\∀ 
 (es:List (Ty.den cw)) (e:Int),HI d N x es e->aJ (List.length es)->aD .i64 e->aJ (List.length es)->aM (λi ag=>br (decide (i.1.1< (aA es))) (0<=i.1.1/\i.1.1< (aA es)/\(Ty.ok cw (aB cw es i.1.1)->br 
 (i.1.2.1==0) ((List.length p<=1000/\(List.length p+List.length [(aB cw es i.1.1).1])*16<=(140737488355328:Nat)/\List.length p+List.length [(aB cw es i.1.1).1]<=9223372036854775807/\∃ d N k,MB i.2.2.1 d N/\Kh d N k 
 (aB cw es i.1.1).2.2.1 (p++ [(aB cw es i.1.1).1])/\17<=List.length (p++ [(aB cw es i.1.1).1])+n/\List.length i.2.2.2.2.2.1.1+List.length (cR d.t.Mr N n k)<=100000/\List.length i.2.2.2.2.1+List.length (cR d.t.Mr N 
 n k)<=100000/\(aD .i64 0->aD .i64 (i.1.1+1)/\ag ((i.1.1+1,ah,()),((),()),i.2.2.1,((),()),da (cR d.t.Mr N n k) i.2.2.2.2.1,(i.2.2.2.2.2.1.1++bJ (cR d.t.Mr N n k) i.2.2.2.2.1,()),((),()),())))/\ 
 List.length p<=1000/\(List.length p+List.length [(aB cw es i.1.1).1])*16<=(140737488355328:Nat)/\List.length p+List.length [(aB cw es i.1.1).1]<=9223372036854775807/\∃ d N k,MB i.2.2.1 d N/\Kh d N k (aB cw es 
 i.1.1).2.2.1 (p++ [(aB cw es i.1.1).1])/\17<=List.length (p++ [(aB cw es i.1.1).1])+n/\List.length i.2.2.2.2.2.1.1+List.length (cR d.t.Mr N n k)<=100000/\List.length i.2.2.2.2.1+List.length (cR d.t.Mr N n k)<= 
 100000/\(aD .i64 0->aD .i64 (i.1.1+1)/\ag ((i.1.1+1,ah,()),((),()),i.2.2.1,((),()),da (cR d.t.Mr N n k) i.2.2.2.2.1,(i.2.2.2.2.2.1.1++bJ (cR d.t.Mr N n k) i.2.2.2.2.1,()),((),()),()))) (aD .i64 (i.1.1 
 +1)/\ag ((i.1.1+1,i.1.2),((),()),i.2.2.1,((),()),i.2.2.2.2.1,i.2.2.2.2.2.1,((),()),())))) (Q (.v (.c (.k (.int .i64 i.1.2.1)))) [.cells 71 [Cl.ue (25:TypeId) (.p 1 0)],HO.abs i.2.2.1,.cells 100 [Cl.m eI],qf 
 i.2.2.2.2.1,.cells 22 [.o 7],.gone,.cells 101 [Cl.fn (41:FuncId) [.p 0 0,.p 2 0,.p 4 0,.p 6 0]],.sl 38 noTy i.2.2.2.2.2.1.1])) ((ah,e,()),((),()),A,((),()),i.2.1,(out++ [(bE.2.1.1,bE.2.1.2.1,bE.2.1.2.2.1, 
 (bE.2.1.2.2.2.1,bE.2.1.2.2.2.2.1,bE.2.1.2.2.2.2.2.1,()),bE.2.1.2.2.2.2.2.2)],()),((),()),())))
theorem X4 (n:Nat) (hn:cu 41 (pN n)):∀ args H Q,pN (n+1) args H Q->Wp Inv bQ 41 args H Q:=by
 intro args H Q h;unfold pN at h;split at h;rotate_left;cases h;rename_i r cp A m out;split at h;rotate_left;cases h;rename_i p hp;refine Wp.said (args':=[.int r,.c (.d Ty.str p),.v (.c (.p 0 0)),.v (.c (.p 2 0)),.v (.c (.p 4 0)),.v (.c (.p 6 0))]) (λE g=>bm.cr (λ_ h=>h) (bm.cr (dH hp) (bm.cr (λ_ h=>h) (bm.cr (λ_ h=>h) (bm.cr (λ_ h=>h) (bm.cr (λ_ h=>h) (λ_ h=>h))))))) ?_;clear hp;refine Wp.JL (X:=(acP n)) (Xc n hn) ⟨[(14,⟨[(59,.int .i64),(10,.int .i64)],[(0,.cells 71 [.Dv (.ue 25 (.p 1 0))]),(1,.abs),(2,.cells 100 [.m 3]),(3,.map 3 .int (.int .i64)),(4,.cells 22 [.own 38 noTy]),(6,.cells 101 [.Dv (.fn 41 [.p 0 0,.p 2 0,.p 4 0,.p 6 0])])]⟩)],[(8,⟨[],[(3,.map 3 .int (.int .i64))]⟩),(9,⟨[],[(7,.cells 38 xV)]⟩)]⟩ (fn:=Tryz.f41) (V:=R9 n r p A m out) (by kernel_rfl) (λ_=>by kernel_rfl) ?_;unfold R9 ah aA aJ eI qf bo;obtain ⟨d,N,k,hM,⟨k0,k1,hp,hg⟩,hdp,ho,hm,hq⟩:=h;have hx:aB noTy N k∈N:=tk (e:=noTy) k0 k1;have afg:=hM.ok.tok.deep _ hx;have hKm:∀ a∈bY p N 0,0<=a/\a< (N.length:Int)/\(aB noTy N a).1.length=p.length+1/\pre p (aB noTy N a):=λa ha=>eJ ha;have hKo:(aB noTy N k).2.2.1≠1->bY p N 0= []:=λq=>by
  rw [List.eq_nil_iff_forall_not_mem];intro a ha;obtain ⟨a0,a1,al,ap⟩:=hKm a ha;rw [hp] at al ap;have:=hM.ok.tok.below hx q (tk (e:=noTy) a0 a1) ap;rw [this] at al;omega
 have hre:Em d.t.Mr (aB noTy N k).2.1=r:=by unfold Em;rw [hg];rfl
 rw [<-hp] at afg;rw [Cm,hre,<-hp] at ho hm hq;obtain ⟨x0,Ev⟩:∃ x0,aZ.gy (aB noTy N k) r=x0:=⟨_,rfl⟩;rw [Ev] at ho hm hq;have x0i:x0.2.1=r:=by rw [<-Ev];rfl
 have x0p:x0.1=p:=by rw [<-Ev,hp];rfl
 have x0k:x0.2.2=(aB noTy N k).2.2:=by rw [<-Ev];rfl
 have na:=lp [x0] ((bY p N 0).flatMap (cR d.t.Mr N n)) m;rw [List.singleton_append] at na;rw [na.1,na.2,S9,x0i] at hq;rw [av] at ho hm;refine λ_ _=>⟨d,N,aB noTy N k,hM,hx,hg,λ_ _ _ _ _ _ _ _ _ _=>?_⟩;refine cG.intro (λk=>k.2.1=da [x0] m) ?_ ?_
 .refine λ_=>aq (λhb=>λ_=>⟨by unfold aD;omega,by omega,?_⟩) (λhb=>?_)
  .have hg:Kk.get .int m x0.2.1=none:=by rw [x0i];simpa using hb
   show Kk.put .int m r _=da [x0] m;rw [gg hg,x0i];rfl
  .have hg:(Kk.get .int m x0.2.1).isSome=true:=by rw [x0i];simpa using hb
   obtain ⟨k,hk⟩:=gV.1 hg;exact (gf (r:=[]) hk).symm
 rintro ⟨_,m1,_⟩ OU;have OU:m1=da [x0] m:=OU;subst OU;have Dh:=lq [x0] m;rw [ay] at Dh;rw [<-x0k];refine cG.intro (λk=>k.2.1=(p,(Kk.get .int (da [x0] m) r).getD 0,x0.2.2.1,x0.2.2.2.1.1,x0.2.2.2.1.2.1,x0.2.2.2.1.2.2.1,x0.2.2.2.2)) ?_ ?_;exact ⟨λ_=>rfl,λ_=>rfl⟩;rintro ⟨_,c,_⟩ hc;have hc:c=_:=hc;subst hc;simp only;have Nz:((p,(Kk.get .int (da [x0] m) r).getD 0,x0.2.2.1,(x0.2.2.2.1.1,x0.2.2.2.1.2.1,x0.2.2.2.1.2.2.1,()),x0.2.2.2.2):aZ)=aZ.gy x0 ((Kk.get .int (da [x0] m) r).getD 0):=by rw [<-x0p];rfl
 rw [Nz];generalize aZ.gy x0 ((Kk.get .int (da [x0] m) r).getD 0)=x1 at*;refine ⟨(by simp only [ay];omega),(by simp only [ay];omega),aq (λhk=>?_) (λhk=>?_)⟩
 .have hk:x0.2.2.1≠1:=by simpa using hk
  rw [hKo (by rw [<-x0k];exact hk)] at hq;simp only [List.flatMap_nil,bJ,da,bd] at hq;exact hq
 have re:(aB noTy N k).2.2.1=1:=by rw [<-x0k];simpa using hk
 refine ⟨d,N,aB noTy N k,hM,hx,hg,λes e hL _ _ _=>?_⟩;rcases hL.or with ⟨rfl,_,_,hE⟩| ⟨_,q,_⟩;rotate_left;exact absurd re q;rw [<-hp] at hE;have Qn:=hE.len;clear hKo Nz hL Ev hk re na;generalize bY p N 0=KS at*;refine aM.intro (λi=>∃ j:Nat,j<=KS.length/\i.1.1=(j:Int)/\i.1.2.1=0/\A=i.2.2.1/\i.2.2.2.2.1=da ((KS.take j).flatMap (cR d.t.Mr N n)) (da [x0] m)/\i.2.2.2.2.2.1.1=(out++ [x1])++bJ ((KS.take j).flatMap (cR d.t.Mr N n)) (da [x0] m)) (λi=>es.length - i.1.1.toNat) ⟨0,by omega,rfl,rfl,rfl,by simp [da],by simp [bJ]⟩ ?_;rintro ⟨⟨i,e,_⟩,_,A1,_,m1,⟨o1,_⟩,_⟩ ⟨j,hj,i1,i2,i3,i4,i5⟩;simp only at i1 i2 i3 i4 i5;subst i1 i2 i3 i4 i5;simp only;refine aq (λhc=>?_) (λhc=>?_)
 .have hc:=of_decide_eq_true hc;have pt:j< KS.length:=by omega
  have hj3:j< es.length:=by omega
  have et:KS.take (j+1)=KS.take j++ [KS[j]]:=bG pt;obtain ⟨a0,a1,al,ap⟩:=hKm _ (dA pt);have f2:=(hE.at j pt hj3).2;have f1:p++ [es[j].1]=(aB noTy N KS[j]).1:=by rw [hE.ZJ j pt hj3];exact (nM al ap).symm
  rw [show aB cw es (j:Int)=es[j] from gH (e:=cw) hj3];have Dg:(KS.flatMap (cR d.t.Mr N n)).length=((KS.take j).flatMap (cR d.t.Mr N n)).length+((cR d.t.Mr N n KS[j]).length+((KS.drop (j+1)).flatMap (cR d.t.Mr N n)).length):=by
   conv=>lhs;rw [<-bX (j+1) KS,et]
   simp only [ia,jA,List.flatMap_nil,af,aO];omega
  have ap6:=lq ((KS.take j).flatMap (cR d.t.Mr N n)) (da [x0] m);have hgl:=iq ((KS.take j).flatMap (cR d.t.Mr N n)) (da [x0] m);have na2:=lp ((KS.take j).flatMap (cR d.t.Mr N n)) (cR d.t.Mr N n KS[j]) (da [x0] m);have go:(List.length p<=1000/\(List.length p+List.length [es[j].1])*16<=140737488355328/\List.length p+List.length [es[j].1]<=9223372036854775807/\Kh d N KS[j] es[j].2.2.1 (p++ [es[j].1])/\17<=List.length (p++ [es[j].1])+n):=⟨by omega,by rw [ay];omega,by rw [ay];omega,⟨a0,a1,f1,f2⟩,by rw [f1,al];omega⟩;obtain ⟨g1,g2,g3,g4,g5⟩:=go;have fin:∃ j':Nat,j'<=KS.length/\(j:Int)+1=(j':Int)/\True/\True/\da (cR d.t.Mr N n KS[j]) (da ((KS.take j).flatMap (cR d.t.Mr N n)) (da [x0] m))=da ((KS.take j').flatMap (cR d.t.Mr N n)) (da [x0] m)/\((out++ [x1])++bJ ((KS.take j).flatMap (cR d.t.Mr N n)) (da [x0] m))++bJ (cR d.t.Mr N n KS[j]) (da ((KS.take j).flatMap (cR d.t.Mr N n)) (da [x0] m))=(out++ [x1])++bJ ((KS.take j').flatMap (cR d.t.Mr N n)) (da [x0] m):=by
   refine ⟨j+1,pt,by omega,trivial,trivial,?_⟩;rw [et,ia,List.flatMap_singleton,na2.1,na2.2,aL];exact ⟨rfl,rfl⟩
  refine ⟨by omega,hc,λ_=>aq (λ_=>?_) (λhb=>by cases hb)⟩;have one:List.length ((out++ [x1])++bJ ((KS.take j).flatMap (cR d.t.Mr N n)) (da [x0] m))+(cR d.t.Mr N n KS[j]).length<=100000/\List.length (da ((KS.take j).flatMap (cR d.t.Mr N n)) (da [x0] m))+(cR d.t.Mr N n KS[j]).length<=100000:=⟨by simp only [af,av,aO];omega,by omega⟩;exact ⟨⟨g1,g2,g3,d,N,KS[j],hM,g4,g5,one.1,one.2,λ_=>⟨by unfold aD;omega,fin,by omega⟩⟩,g1,g2,g3,d,N,KS[j],hM,g4,g5,one.1,one.2,λ_=>⟨by unfold aD;omega,fin,by omega⟩⟩
 .have hc:=of_decide_eq_false hc;obtain rfl:j=KS.length:=by omega
  rw [eK];rw [<-aL] at hq;exact hq
theorem X5:∀ (n:Nat) args H Q,pN n args H Q->Wp Inv bQ 41 args H Q
 | 0=>by
  intro args H Q h;unfold pN at h;split at h
  .split at h
   .obtain ⟨d,N,k,hM,hB,hd,_⟩:=h;have:=hM.ok.tok.deep _ (tk (e:=noTy) hB.k0 hB.k1);rw [<-hB.p] at this;omega
   grind
  grind
 | n+1=>X4 n (X5 n)
def J1 (n:Nat):Ct
 | [.v (.c (.k (.int .i64 r))),.v (.c cp),.v (.c (.p 0 0)),.v (.c (.p 2 0)),.v (.c (.p 4 0)),.v (.c (.p 5 0))],[.cells 71 [.ue 25 (.p 1 0)],.abs A,.cells 100 [.m 3],.map 3 .int (.int .i64) m,.cells 22 [.k (.slice none 0 0)],.cells 101 [.fn 41 [.p 0 0,.p 2 0,.p 4 0,.p 5 0]]],Q=>(match (Ty.sl Ty.str).of [cp] with
  | some (p,[])=>∃ (d:IR) (N:List aZ) (k:Int),MB A d N/\Kh d N k r p/\17<=p.length+n/\(cR d.t.Mr N n k).length<=100000/\m.length+(cR d.t.Mr N n k).length<=100000/\Q (.c (.k (.int .i64 0))) [.cells 71 [.ue 25 (.p 1 0)],.abs A,.cells 100 [.m 3],.map 3 .int (.int .i64) (da (cR d.t.Mr N n k) m),.cells 22 [.o 6],.cells 101 [.fn 41 [.p 0 0,.p 2 0,.p 4 0,.p 5 0]],.sl 38 noTy (bJ (cR d.t.Mr N n k) m)]
  | _=>False)
 | _,_,_=>False
def acO (n:Nat):Vx:= {P:=bQ,ct:=[(41,(pN n)),(42,JY),(43,QS),(13,JX)],ty:=dW,hold:=[41]}
theorem Xb (n:Nat) (hn:cu 41 (pN n)):gO Inv bQ (acO n).ct:=gO.cons hn (gO.cons X1 (gO.cons XF (gO.cons XV (gO.nil _ _))))
def LF (n:Nat) (r:Int) (p:(List (Ty.str).den)) (A:Value->Atom) (m:(List (Int×Int))):dx:=λQ=>aD .i64 r->aJ (List.length p)->∃ d N x,MB A d N/\x∈N/\Kk.get Kk.int d.t.Mr x.2.1=some r/\(aJ (List.length ([]:List ByteArray))->aD .i64 0->aD .i64 x.2.2.1->aD .i64 x.2.2.2.1.1->aD .i64 
 x.2.2.2.1.2.1->aD .i64 x.2.2.2.1.2.2.1->aJ (List.length x.2.2.2.2.1)->aJ (ByteArray.size x.2.2.2.2.2.1)->aJ (List.length x.2.2.2.2.2.2.1)->aD .i64 0->cG (λk=>Ty.ok bo (cA (Kk.get Kk.int m r) ah)->br 
 (!oc (Kk.get Kk.int m r)) (aJ (List.length m)->aD .i64 ((aA m)+1)/\List.length m< 9223372036854775807/\k ((),Kk.put Kk.int m r ((aA m)+1),())) (k ((),m,()))) λi=>cG (λk=>(Ty.ok bo (cA 
 (Kk.get Kk.int i.2.1 r) ah)->k ((),(p,cA (Kk.get Kk.int i.2.1 r) ah,x.2.2.1,x.2.2.2.1.1,x.2.2.2.1.2.1,x.2.2.2.1.2.2.1,x.2.2.2.2),()))/\(Ty.ok bo (cA (Kk.get Kk.int i.2.1 r) ah)->k ((),(p,cA 
 (Kk.get Kk.int i.2.1 r) ah,x.2.2.1,x.2.2.2.1.1,x.2.2.2.1.2.1,x.2.2.2.1.2.2.1,x.2.2.2.2),()))) λbE=>List.length [(bE.2.1.1,bE.2.1.2.1,bE.2.1.2.2.1,(bE.2.1.2.2.2.1,bE.2.1.2.2.2.2.1,bE.2.1.2.2.2.2.2.1,()), 
 bE.2.1.2.2.2.2.2.2)]*(136:Nat)<=(140737488355328:Nat)/\br (bE.2.1.2.2.1 !=1) (Q (.v (.c (.k (.int .i64 0)))) [.cells 71 [Cl.ue (25:TypeId) (.p 1 0)],HO.abs A,.cells 100 [Cl.m eI],qf i.2.1,.cells 22 [.o 6],.cells 101 
 [Cl.fn (41:FuncId) [.p 0 0,.p 2 0,.p 4 0,.p 5 0]],.sl 38 noTy [(bE.2.1.1,bE.2.1.2.1,bE.2.1.2.2.1,(bE.2.1.2.2.2.1,bE.2.1.2.2.2.2.1,bE.2.1.2.2.2.2.2.1,()),bE.2.1.2.2.2.2.2.2)]]) (∃ d N x,MB A d N/\x∈N/\Kk.get Kk.int 
 d.t.Mr x.2.1=some r/\∀ (es:List (Ty.den cw)) (e:Int),HI d N x es e->aJ (List.length es)->aD .i64 e->aJ (List.length es)->aM (λi ag=>br (decide (i.1.1< (aA es))) (0<=i.1.1/\i.1.1< (aA es)/\(Ty.ok cw 
 (aB cw es i.1.1)->br (i.1.2.1==0) ((List.length p<=1000/\(List.length p+List.length [(aB cw es i.1.1).1])*16<=(140737488355328:Nat)/\List.length p+List.length [(aB cw es i.1.1).1]<=9223372036854775807/\∃ d N k,MB 
 i.2.2.1 d N/\Kh d N k (aB cw es i.1.1).2.2.1 (p++ [(aB cw es i.1.1).1])/\17<=List.length (p++ [(aB cw es i.1.1).1])+n/\List.length i.2.2.2.2.2.1.1+List.length (cR d.t.Mr N n k)<=100000/\List.length i.2.2.2.2.1+ 
 List.length (cR d.t.Mr N n k)<=100000/\(aD .i64 0->aD .i64 (i.1.1+1)/\ag ((i.1.1+1,ah,()),((),()),i.2.2.1,((),()),da (cR d.t.Mr N n k) i.2.2.2.2.1,(i.2.2.2.2.2.1.1++bJ (cR d.t.Mr N n k) i.2.2.2.2.1, 
 ()),((),()),())))/\List.length p<=1000/\(List.length p+List.length [(aB cw es i.1.1).1])*16<=(140737488355328:Nat)/\List.length p+List.length [(aB cw es i.1.1).1]<=9223372036854775807/\∃ d N k,MB i.2.2.1 d N/\Kh 
 d N k (aB cw es i.1.1).2.2.1 (p++ [(aB cw es i.1.1).1])/\17<=List.length (p++ [(aB cw es i.1.1).1])+n/\List.length i.2.2.2.2.2.1.1+List.length (cR d.t.Mr N n k)<=100000/\List.length i.2.2.2.2.1+List.length (cR 
 d.t.Mr N n k)<=100000/\(aD .i64 0->aD .i64 (i.1.1+1)/\ag ((i.1.1+1,ah,()),((),()),i.2.2.1,((),()),da (cR d.t.Mr N n k) i.2.2.2.2.1,(i.2.2.2.2.2.1.1++bJ (cR d.t.Mr N n k) i.2.2.2.2.1,()),((),()),()))) 
 (aD .i64 (i.1.1+1)/\ag ((i.1.1+1,i.1.2),((),()),i.2.2.1,((),()),i.2.2.2.2.1,i.2.2.2.2.2.1,((),()),())))) (Q (.v (.c (.k (.int .i64 i.1.2.1)))) [.cells 71 [Cl.ue (25:TypeId) (.p 1 0)],HO.abs i.2.2.1,.cells 100 [Cl.m 
 eI],qf i.2.2.2.2.1,.cells 22 [.o 6],.cells 101 [Cl.fn (41:FuncId) [.p 0 0,.p 2 0,.p 4 0,.p 5 0]],.sl 38 noTy i.2.2.2.2.2.1.1])) ((ah,e,()),((),()),A,((),()),i.2.1,([(bE.2.1.1,bE.2.1.2.1,bE.2.1.2.2.1, 
 (bE.2.1.2.2.2.1,bE.2.1.2.2.2.2.1,bE.2.1.2.2.2.2.2.1,()),bE.2.1.2.2.2.2.2.2)],()),((),()),())))
theorem U2 (n:Nat) (hn:cu 41 (pN n)):∀ args H Q,J1 (n+1) args H Q->Wp Inv bQ 41 args H Q:=by
 intro args H Q h;unfold J1 at h;split at h;rotate_left;cases h;rename_i r cp A m;split at h;rotate_left;cases h;rename_i p hp;refine Wp.said (args':=[.int r,.c (.d Ty.str p),.v (.c (.p 0 0)),.v (.c (.p 2 0)),.v (.c (.p 4 0)),.v (.c (.p 5 0))]) (λE g=>bm.cr (λ_ h=>h) (bm.cr (dH hp) (bm.cr (λ_ h=>h) (bm.cr (λ_ h=>h) (bm.cr (λ_ h=>h) (bm.cr (λ_ h=>h) (λ_ h=>h))))))) ?_;clear hp;refine Wp.JL (X:=(acO n)) (Xb n hn) ⟨[(14,⟨[(59,.int .i64),(10,.int .i64)],[(0,.cells 71 [.Dv (.ue 25 (.p 1 0))]),(1,.abs),(2,.cells 100 [.m 3]),(3,.map 3 .int (.int .i64)),(4,.cells 22 [.own 38 noTy]),(5,.cells 101 [.Dv (.fn 41 [.p 0 0,.p 2 0,.p 4 0,.p 5 0])])]⟩)],[(8,⟨[],[(3,.map 3 .int (.int .i64))]⟩),(9,⟨[],[(6,.cells 38 xV)]⟩)]⟩ (fn:=Tryz.f41) (V:=LF n r p A m) (by kernel_rfl) (λ_=>by kernel_rfl) ?_;unfold LF ah aA aJ eI qf bo;obtain ⟨d,N,k,hM,⟨k0,k1,hp,hg⟩,hdp,ho,hm,hq⟩:=h;have hx:aB noTy N k∈N:=tk (e:=noTy) k0 k1;have afg:=hM.ok.tok.deep _ hx;have hKm:∀ a∈bY p N 0,0<=a/\a< (N.length:Int)/\(aB noTy N a).1.length=p.length+1/\pre p (aB noTy N a):=λa ha=>eJ ha;have hKo:(aB noTy N k).2.2.1≠1->bY p N 0= []:=λq=>by
  rw [List.eq_nil_iff_forall_not_mem];intro a ha;obtain ⟨a0,a1,al,ap⟩:=hKm a ha;rw [hp] at al ap;have:=hM.ok.tok.below hx q (tk (e:=noTy) a0 a1) ap;rw [this] at al;omega
 have hre:Em d.t.Mr (aB noTy N k).2.1=r:=by unfold Em;rw [hg];rfl
 rw [<-hp] at afg;rw [Cm,hre,<-hp] at ho hm hq;obtain ⟨x0,Ev⟩:∃ x0,aZ.gy (aB noTy N k) r=x0:=⟨_,rfl⟩;rw [Ev] at ho hm hq;have x0i:x0.2.1=r:=by rw [<-Ev];rfl
 have x0p:x0.1=p:=by rw [<-Ev,hp];rfl
 have x0k:x0.2.2=(aB noTy N k).2.2:=by rw [<-Ev];rfl
 have na:=lp [x0] ((bY p N 0).flatMap (cR d.t.Mr N n)) m;rw [List.singleton_append] at na;rw [na.1,na.2,S9,x0i] at hq;rw [av] at ho hm;refine λ_ _=>⟨d,N,aB noTy N k,hM,hx,hg,λ_ _ _ _ _ _ _ _ _ _=>?_⟩;refine cG.intro (λk=>k.2.1=da [x0] m) ?_ ?_
 .refine λ_=>aq (λhb=>λ_=>⟨by unfold aD;omega,by omega,?_⟩) (λhb=>?_)
  .have hg:Kk.get .int m x0.2.1=none:=by rw [x0i];simpa using hb
   show Kk.put .int m r _=da [x0] m;rw [gg hg,x0i];rfl
  .have hg:(Kk.get .int m x0.2.1).isSome=true:=by rw [x0i];simpa using hb
   obtain ⟨k,hk⟩:=gV.1 hg;exact (gf (r:=[]) hk).symm
 rintro ⟨_,m1,_⟩ OU;have OU:m1=da [x0] m:=OU;subst OU;have Dh:=lq [x0] m;rw [ay] at Dh;rw [<-x0k];refine cG.intro (λk=>k.2.1=(p,(Kk.get .int (da [x0] m) r).getD 0,x0.2.2.1,x0.2.2.2.1.1,x0.2.2.2.1.2.1,x0.2.2.2.1.2.2.1,x0.2.2.2.2)) ?_ ?_;exact ⟨λ_=>rfl,λ_=>rfl⟩;rintro ⟨_,c,_⟩ hc;have hc:c=_:=hc;subst hc;simp only;have Nz:((p,(Kk.get .int (da [x0] m) r).getD 0,x0.2.2.1,(x0.2.2.2.1.1,x0.2.2.2.1.2.1,x0.2.2.2.1.2.2.1,()),x0.2.2.2.2):aZ)=aZ.gy x0 ((Kk.get .int (da [x0] m) r).getD 0):=by rw [<-x0p];rfl
 rw [Nz];generalize aZ.gy x0 ((Kk.get .int (da [x0] m) r).getD 0)=x1 at*;refine ⟨(by simp only [ay];omega),aq (λhk=>?_) (λhk=>?_)⟩
 .have hk:x0.2.2.1≠1:=by simpa using hk
  rw [hKo (by rw [<-x0k];exact hk)] at hq;simp only [List.flatMap_nil,bJ,da,bd] at hq;exact hq
 have re:(aB noTy N k).2.2.1=1:=by rw [<-x0k];simpa using hk
 refine ⟨d,N,aB noTy N k,hM,hx,hg,λes e hL _ _ _=>?_⟩;rcases hL.or with ⟨rfl,_,_,hE⟩| ⟨_,q,_⟩;rotate_left;exact absurd re q;rw [<-hp] at hE;have Qn:=hE.len;clear hKo Nz hL Ev hk re na;generalize bY p N 0=KS at*;refine aM.intro (λi=>∃ j:Nat,j<=KS.length/\i.1.1=(j:Int)/\i.1.2.1=0/\A=i.2.2.1/\i.2.2.2.2.1=da ((KS.take j).flatMap (cR d.t.Mr N n)) (da [x0] m)/\i.2.2.2.2.2.1.1= [x1]++bJ ((KS.take j).flatMap (cR d.t.Mr N n)) (da [x0] m)) (λi=>es.length - i.1.1.toNat) ⟨0,by omega,rfl,rfl,rfl,by simp [da],by simp [bJ]⟩ ?_;rintro ⟨⟨i,e,_⟩,_,A1,_,m1,⟨o1,_⟩,_⟩ ⟨j,hj,i1,i2,i3,i4,i5⟩;simp only at i1 i2 i3 i4 i5;subst i1 i2 i3 i4 i5;simp only;refine aq (λhc=>?_) (λhc=>?_)
 .have hc:=of_decide_eq_true hc;have pt:j< KS.length:=by omega
  have hj3:j< es.length:=by omega
  have et:KS.take (j+1)=KS.take j++ [KS[j]]:=bG pt;obtain ⟨a0,a1,al,ap⟩:=hKm _ (dA pt);have f2:=(hE.at j pt hj3).2;have f1:p++ [es[j].1]=(aB noTy N KS[j]).1:=by rw [hE.ZJ j pt hj3];exact (nM al ap).symm
  rw [show aB cw es (j:Int)=es[j] from gH (e:=cw) hj3];have Dg:(KS.flatMap (cR d.t.Mr N n)).length=((KS.take j).flatMap (cR d.t.Mr N n)).length+((cR d.t.Mr N n KS[j]).length+((KS.drop (j+1)).flatMap (cR d.t.Mr N n)).length):=by
   conv=>lhs;rw [<-bX (j+1) KS,et]
   simp only [ia,jA,List.flatMap_nil,af,aO];omega
  have ap6:=lq ((KS.take j).flatMap (cR d.t.Mr N n)) (da [x0] m);have hgl:=iq ((KS.take j).flatMap (cR d.t.Mr N n)) (da [x0] m);have na2:=lp ((KS.take j).flatMap (cR d.t.Mr N n)) (cR d.t.Mr N n KS[j]) (da [x0] m);have go:(List.length p<=1000/\(List.length p+List.length [es[j].1])*16<=140737488355328/\List.length p+List.length [es[j].1]<=9223372036854775807/\Kh d N KS[j] es[j].2.2.1 (p++ [es[j].1])/\17<=List.length (p++ [es[j].1])+n):=⟨by omega,by rw [ay];omega,by rw [ay];omega,⟨a0,a1,f1,f2⟩,by rw [f1,al];omega⟩;obtain ⟨g1,g2,g3,g4,g5⟩:=go;have fin:∃ j':Nat,j'<=KS.length/\(j:Int)+1=(j':Int)/\True/\True/\da (cR d.t.Mr N n KS[j]) (da ((KS.take j).flatMap (cR d.t.Mr N n)) (da [x0] m))=da ((KS.take j').flatMap (cR d.t.Mr N n)) (da [x0] m)/\([x1]++bJ ((KS.take j).flatMap (cR d.t.Mr N n)) (da [x0] m))++bJ (cR d.t.Mr N n KS[j]) (da ((KS.take j).flatMap (cR d.t.Mr N n)) (da [x0] m))= [x1]++bJ ((KS.take j').flatMap (cR d.t.Mr N n)) (da [x0] m):=by
   refine ⟨j+1,pt,by omega,trivial,trivial,?_⟩;rw [et,ia,List.flatMap_singleton,na2.1,na2.2,aL];exact ⟨rfl,rfl⟩
  refine ⟨by omega,hc,λ_=>aq (λ_=>?_) (λhb=>by cases hb)⟩;have one:List.length ([x1]++bJ ((KS.take j).flatMap (cR d.t.Mr N n)) (da [x0] m))+(cR d.t.Mr N n KS[j]).length<=100000/\List.length (da ((KS.take j).flatMap (cR d.t.Mr N n)) (da [x0] m))+(cR d.t.Mr N n KS[j]).length<=100000:=⟨by simp only [af,av,aO];omega,by omega⟩;exact ⟨⟨g1,g2,g3,d,N,KS[j],hM,g4,g5,one.1,one.2,λ_=>⟨by unfold aD;omega,fin,by omega⟩⟩,g1,g2,g3,d,N,KS[j],hM,g4,g5,one.1,one.2,λ_=>⟨by unfold aD;omega,fin,by omega⟩⟩
 .have hc:=of_decide_eq_false hc;obtain rfl:j=KS.length:=by omega
  rw [eK]
  skip
  exact hq
def abf:Ct
 | [r,p,a,b,c,d],H,Q=>J1 17 [r,p,a,b,c,d] H Q
 | _,_,_=>False
theorem aiI:cu 41 abf:=by
 intro args H Q h;unfold abf at h
 grind [U2, X5]
def Ue:Ct
 | [.v (.c (.ue 25 (.p 0 0)))],[.abs A],Q=>∃ (d:IR) (N:List aZ),MB A d N/\bJ N []=N/\Q (.cH [.c (.o 1),.c (.k (.int .i64 0))]) [.abs A,.sl 38 noTy N]
 | _,_,_=>False
def alk:=(gJ.add XG).add aiI
def LC (A:Value->Atom):dx:=λQ=>∃ d N,MB A d N/\∀ (ref:Int),Kk.get Kk.int d.t.Mr (oA N).2.1=some ref->aD .i64 ref->∃ d N k,MB A d N/\Kh d N k ref []/\(17:Nat)<=(17:Nat)/\List.length (cR d.t.Mr N (17:Nat) k)<=100000/\0+ 
 List.length (cR d.t.Mr N (17:Nat) k)<=100000/\(aD .i64 0->Q (SV.cH [S1.c (.o 1),.c (.k aR)]) [HO.abs A,.sl 38 noTy (bJ (cR d.t.Mr N (17:Nat) k) [])])
theorem ad5:cu 24 Ue:=by
 intro args H Q h;unfold Ue at h;split at h;rotate_left;cases h;rename_i A;refine Wp.dC alk dW ⟨[],[]⟩ Tryz.f24 (LC A) ?_;unfold LC oA aR ah;obtain ⟨d,N,hM,hs,h⟩:=h;have e:=Y6 hM.ok hM.tr hs;have hl:=VD (N:=N) d.t.Mr 17 0;have hv:=Bm hM.ok.tok hM.tr.root.1 hM.tr.pos;have hvl:=hv.length_eq;rw [bR,List.length_range] at hvl;have hN:=hM.ok.tok.len;refine ⟨d,N,hM,λref hr _=>⟨d,N,0,hM,⟨bB _,by have:=hM.tr.pos;omega,hM.tr.root.1.symm,hr⟩,aG _,by omega,by omega,λ_=>?_⟩⟩
 grind
def aby:Ct:=cD noTy λl=>c0 λQ=>(l.length:Int)<=1000/\br (dv l !=0) (Q (.cH [.c (.k (.slice none 0 0)),.c (.k (.int .i64 (dv l)))]) []) (∀ L':List aZ,L'.Perm l->L'.Pairwise (λx y=>¬cmpL y.1 x.1< 0)->Q (.cH [.c (.o 0),.c (.k (.int .i64 0))]) [.sl 38 noTy (bJ L' [])])
def alj:=((gJ.add Kv).add UR).add Yg
def FU (l:(List (noTy).den)):dx:=λQ=>dG l (aD .i64 (zk l)->br (zk l !=0) (Q (.cH [.c (.k bZ),.c (.k (.int .i64 (zk l)))]) []) ((aA l)<=(1000:Int)/\∀ (L':List aZ),List.Perm L' l->oG L' ((aS L')<=(1000:Int)/\Q ll [.sl 38 
 noTy (bJ L' [])])))
theorem Yh:cu 19 aby:=eQ<| jm λl=>gM λQ h=>by
 refine Wp.dC alj dW ⟨[],[]⟩ Tryz.f19 (FU l) (hold:=[35]) ?_;unfold FU oG ll dG bZ aR aS aA;obtain ⟨hl,h⟩:=h;rw [<-Wz] at h;refine λ_ _=>aq (λq=>?_) (λq=>⟨hl,λL' p o=>⟨by rw [p.length_eq];exact hl,?_⟩⟩);rw [q] at h;exact h;rw [q] at h;exact h L' p o
def c_ltrees:Ct
 | [.v (.c cl)],[],Q=>(match (Ty.sl noTy).of [cl] with
  | some (l,[])=>Q (.bool true) []
  | _=>False)
 | _,_,_=>False
def ali:=(((((gJ.add adH).add ad5).add Yh).add XN).add amx).add adG
abbrev pj (y0:List (noTy).den):=List.map TQ (List.take (40:Nat) y0)
abbrev vj (y0:List (noTy).den):=dv (pj y0) !=0
def Fo (l:(List (noTy).den)):dx:=λQ=>dG l ((aS (pj l))<=(40:Int)/\br (vj l) (aD .i64 (dv (pj l))->(aS (pj l))<=(1000:Int)/\br (vj l) (aD .i64 (dv (pj l))->br (dv (pj l) !=dv (pj l)) (bc Q) (br (!true 
 ==(vj l)) (bc Q) (Q nF []))) (∀ (L':List aZ),List.Perm L' (pj l)->oG L' (aD .i64 0->br (vj l) (bc Q) (bc Q)))) (∀ (A:Value->Atom) (d:IR) (N:List aZ),ada (pj l) N->MB A d N->aD .i64 0->(aS 
 (pj l))<=(1000:Int)/\br (vj l) (aD .i64 (dv (pj l))->br (ah !=dv (pj l)) (bc Q) (br (!(!true)==(vj l)) (bc Q) (∃ d N,MB A d N/\bJ N []=N/\(aD .i64 0->N= []/\Q (.v (.c (.k (.bool (ah 
 ==0))))) [])))) (∀ (L':List aZ),List.Perm L' (pj l)->oG L' (aD .i64 0->∃ d N,MB A d N/\bJ N []=N/\(aD .i64 0->N=bJ L' []/\Q (.v (.c (.k (.bool (ah==0))))) [])))))
theorem w_ltrees:cu 7 c_ltrees:=by
 intro args H Q h;unfold c_ltrees at h;split at h;rotate_left;cases h;rename_i cl;split at h;rotate_left;cases h;rename_i l hl;refine Wp.said (args':=[.c (.d noTy l)]) (λE g=>bm.cr (dH hl) (λ_ h=>h)) ?_;clear hl;refine Wp.dC ali dW ⟨[],[]⟩ Tryz.f7 (Fo l) (hold:=[10,19,25]) ?_;unfold Fo vj oG bc dG pj iX nF ah aS;have hF40:(List.map TQ (List.take 40 l)).length<=40:=by grind
 refine λ_=>⟨by omega,aq (λq=>λ_=>⟨by omega,?_⟩) (λq=>λA d N O hM _=>⟨by omega,?_⟩)⟩
 .grind [aq]
 .rw [q];exact λL' p o _=>⟨d,N,hM,O.self,λ_=>⟨(O.num L' p o).symm,h⟩⟩
end Go.Proofs

namespace Go.Lm
open Go Go.RowKit
section
variable {P:Program}
def Kf (P:Program) (t:TypeId) (e:Ty):Prop:= @D8 P t e.den e.rep
def D7 (P:Program) (fs:List Field) (off:Nat) (e:Ty):Prop:=
 ∀ {H:Type} (enc:TypeId×Value->H) (w:World) (base:Nat) (spare:Nat->Bool) (held:Bool) (fuel:Nat) (cs:List Value),cs.length=off+e.size->
  (∀ f∈fs,∃ y,DataW.trod enc P w base spare held fuel f.type ((cs.drop f.offset).take (P.cellsOf f.type))=some y)->∃ x:e.den,e.rep.rel w (cs.drop off) x
theorem PQ {off:Nat}:D7 P [] off .unit:=λ_ _ _ _ _ _ cs hl _=>⟨(),by
 exact eL (by rw [hl];exact aG _)⟩
theorem Ad {a b:Ty} {f:Field} {fs:List Field} {off:Nat} (ho:f.offset=off) (hs:P.cellsOf f.type=a.size) (h1:Kf P f.type a) (h2:D7 P fs (off+a.size) b):D7 P (f::fs) off (.pair a b):=λenc w base spare held fuel cs hl h=>by
 obtain ⟨y,hy⟩:=h f (by simp);obtain ⟨x,hx⟩:=h1 enc w base spare held fuel _ y hy;have Al:cs.length=off+(a.size+b.size):=hl;obtain ⟨r,hr⟩:=h2 enc w base spare held fuel cs (by omega) (by grind);rw [ho,hs] at hx;refine ⟨(x,r),_,_,?_,hx,hr⟩;rw [<-eP,bX]
theorem Ep {t:TypeId} {e:Ty} {fs:Array Field} (ht:P.underlying t=some (.struct fs)) (hs:P.cellsOf t=e.size) (h:D7 P fs.toList 0 e):Kf P t e:=λenc w base spare held fuel cs y hy=>by
 obtain ⟨xs,n,_,_,hlen,hxl,hf⟩:=DataW.trod_struct ht hy;obtain ⟨x,hx⟩:=h enc w base spare held n cs (by omega) (by grind [List.getElem?_of_mem])
 grind
theorem PS {k:IntKind} {t:TypeId} (ht:P.underlying t=some (.int k)):Kf P t (.int k):=λ_ _ _ _ _ _ _ _ h=>by
 obtain ⟨n,hc,_,hw⟩:=DataW.trod_int ht h;exact ⟨n,hc,hw⟩
def fit (P:Program):Ty->TypeId ⊕ (List Field×Nat)->Bool
 | .int k,.inl t=>match P.underlying t with
  | some (.int k')=>IntKind.beq k k'
  | _=>false
 | .u8,.inl t=>match P.underlying t with
  | some (.int .u8)=>true
  | _=>false
 | .str,.inl t=>match P.underlying t with
  | some .string=>true
  | _=>false
 | .bool,.inl t=>match P.underlying t with
  | some .bool=>true
  | _=>false
 | .sl e,.inl t=>match P.underlying t with
  | some (.slice et)=>Nat.beq (P.cellsOf et) e.size&& fit P e (.inl et)
  | _=>false
 | .unit,.inr ([],_)=>true
 | .pair a b,.inr (f::fs,off)=>Nat.beq f.offset off&& (Nat.beq (P.cellsOf f.type) a.size&& (fit P a (.inl f.type)&& fit P b (.inr (fs,off+a.size))))
 | .pair a b,.inl t=>match P.underlying t with
  | some (.struct fs)=>match fs.toList with
   | f::r=>Nat.beq (P.cellsOf t) (a.size+b.size)&& (Nat.beq f.offset 0&& (Nat.beq (P.cellsOf f.type) a.size&& (fit P a (.inl f.type)&& fit P b (.inr (r,a.size)))))
   | []=>false
  | _=>false
 | _,_=>false
theorem ze:∀ (e:Ty),(∀ t,fit P e (.inl t)=true->Kf P t e)/\∀ fs off,fit P e (.inr (fs,off))=true->D7 P fs off e
 | .int k=>by
  grind [fit, IntKind.eq_of_beq, PS]
 | .u8=>by
  refine ⟨λt h=>?_,by grind [fit]⟩;unfold fit at h;split at h
  .rename_i hk;exact PN hk
  grind
 | .Wl=>by grind [fit]
 | .str=>by
  refine ⟨λt h=>?_,by grind [fit]⟩;unfold fit at h;split at h
  .rename_i hk;exact VN hk
  grind
 | .bool=>by
  refine ⟨λt h=>?_,by grind [fit]⟩;unfold fit at h;split at h
  .rename_i hk;exact PO hk
  grind
 | .unit=>by
  refine ⟨by grind [fit],λfs off h=>?_⟩;cases fs with
  | nil=>exact PQ
  | cons f r=>trivial
 | .sl e=>by
  refine ⟨λt h=>?_,λfs off h=>by simp [fit] at h⟩;unfold fit at h;split at h
  .rename_i et hk;rw [ak] at h;exact @PM P t et e.den e.rep hk ((ai h.1).trans e.gz.symm) ((ze e).1 et h.2)
  .cases h
 | .pair a b=>by
  refine ⟨λt h=>?_,λfs off h=>?_⟩
  .unfold fit at h;split at h
   .rename_i fs hk;split at h
    .rename_i f r hf;simp only [ak] at h;obtain ⟨h1,h2,h3,h4,h5⟩:=h;refine Ep (e:=.pair a b) hk (ai h1) ?_;rw [hf];refine Ad (ai h2) (ai h3) ((ze a).1 _ h4) ?_;rw [gC];exact (ze b).2 _ _ h5
    .cases h
   .cases h
  .cases fs with
   | nil=>simp [fit] at h
   | cons f r=>
    unfold fit at h;simp only [ak] at h;obtain ⟨h2,h3,h4,h5⟩:=h;exact Ad (ai h2) (ai h3) ((ze a).1 _ h4) ((ze b).2 _ _ h5)
theorem open_sl {t:TypeId} {e:Ty} (hf:fit P (.sl e) (.inl t)=true) {H:Type} {enc:TypeId×Value->H} {w:World} {base:Nat} {spare:Nat->Bool} {held:Bool} {v:Value} {d:DataW H} {ps:List MemPlace}
  (hv:v.cells= #[v]) (h:DataW.Trod enc P w base spare held t v d ps):∃ x:List e.den,oa e w v x:=
 @Zy P t (List e.den) (AY e.den e.rep) ((ze (.sl e)).1 t hf) rfl H enc w base spare held v d ps hv h
theorem Wp.run {I:cX->Prop} {f:FuncId} {args:List SV} {vs:List Value} {w:World} {b:Bool} (hI:I {w:=w,g:=w}) (h:Wp I P f args [] λv _=>v=SV.bool b) (hv:bm [] w args vs):HH P f vs.toArray w λv w'=>v= .bool b/\Le w w':=by
 have S:SL {w:=w,g:=w} w w []:=SL.start (rC.refl w);refine (h {w:=w,g:=w} hI w w [] [] vs ⟨S,rfl⟩ hv).mono λv w' ⟨E',g',sv,H',_,_,S',r,q⟩=>?_;subst q;exact ⟨r.1,S'.sl.aph⟩
end
theorem returns_shaped_and {H:Type} {enc:TypeId×Value->H} {a:Assume} {C:Checked} {os:Os} {f:FuncId} {fn:Func} {s:ChangeSpec} {conds:List PathCond} {apart fresh handsOn again:Bool} {X:World->Array Value->Prop}
  (hX:∀ (w w':World) (args:Array Value),w.heap=w'.heap->X w args->X w' args)
  (own:ownKnob C.prog.godebug=none) (started:os.Started) (noInit:C.prog.inits.idxOf? f=none) (hfn:C.prog.funcs[f]?=some fn)
  (witness:∃ (w:World) (tape:Tape) (i:Input),w.os=os/\(w.forCall tape i).Shaped C.prog/\i.vars= []/\Input.okWide C.prog (w.forCall tape i) .any w.heap.size f i/\
   ((s.pre enc C.prog fn conds apart (w.forCall tape i).memory i.args/\X (w.forCall tape i).memory i.args)/\sizedMet enc C.prog fn (OpenSpec.ofChange s) apart (w.forCall tape i).memory i.args)/\a.holds C.prog (lone (Frame.enter C.prog f i.args .normal) [] (w.forCall tape i)))
  (contract:∀ (W:World) (base:Nat) (args:Array Value) (ds gs:List (DataW H)) (before:List MemPlace),
   (∀ (j:Nat) t v,fn.params[j]?=some t->args[j]?=some v->Value.okWide C.prog W .any base t v)->
   DataW.Whole enc C.prog fn.params.toList s.vars apart W args.toList ds gs before->X W args->W.ShapedOpen C.prog->
   (DataW.weightsEach C.prog (fn.params.toList++s.plain.varTypes C.prog) (ds++gs)).all (· <=reachBytes)=true->
   Calls C.prog f args W λe W'=>∃ v,e= .returned v/\s.post enc C.prog fn apart fresh handsOn again W args v W'):
  ReturnsInHanded a C os f .any (λw args=>(s.pre enc C.prog fn conds apart w args/\X w args)/\sizedMet enc C.prog fn (OpenSpec.ofChange s) apart w args) (s.post enc C.prog fn apart fresh handsOn again):=by
 refine returnsInHanded_of_calls own started noInit witness ?_;intro w tape i _ hsh _ rT apP aqh;obtain ⟨_,_,_,fn',aqk,_,_,_,_,hval⟩:=rT;obtain rfl:fn'=fn:=aj (aqk.symm.trans hfn);obtain ⟨⟨⟨ds,gs,before,hw,hc⟩,hx⟩,hz⟩:=apP;have hw':=DataW.Whole.of_heap (w':=w.forCall tape i) (by rfl) hw;refine (contract (w.forCall tape i) w.heap.size i.args ds gs before hval hw' (hX _ _ _ (by rfl) hx) hsh (hz.weights hw)).mono λe W' ⟨v,he,hp⟩=>?_;subst he;exact ChangeSpec.post_blind hp
theorem params_ok {P:Program} {ps:Array TypeId} (h:(ps.all λt=> !P.wantsStandIn t)=true) (j:Nat) (t:TypeId) (ht:ps[j]?=some t):P.wantsStandIn t=false:=by
 have:=Array.all_eq_true_iff_forall_mem.1 h t (Array.mem_of_getElem? ht);simpa using this
end Go.Lm

namespace Go.Proofs.YthjbdgokcljocaaGreatDoor
open Go Go.ChangeShapes Go.WideShapes Go.ChangeAt Go.RowKit Go.Lm
set_option maxRecDepth 1000000
set_option maxRecDepth 100000
def laidWorld (os:Os):World:=
 let w0:=World.doorLaid bQ 19 os
 {w0 with heap:=w0.heap.modify 1 fun
   | .cells _ t frozen=>.cells (Pinned.utf8FirstZ.map λ(n:Nat)=>Value.int .u8 n).toArray t frozen
   | o=>o}
theorem own:ownKnob Tryz.prog.godebug=none:=by kernel_rfl
theorem laidOut:laidOutB bQ=true:=by kernel_rfl
abbrev Sv:List (String×DataW Unit):=Rows.imageLinksRow.laid
theorem PK:(Sv.all λx=>x.2.handleName?.isNone)=true:=by kernel_rfl
theorem door_met (os:Os) (args:Array Value):laidMetH bQ Sv ((laidWorld os).forCall (λ_ _=>0) ⟨#[],args,[]⟩).memory:=by
 rw [MakeChecks.laidMetH_plain _ _ _ PK];exact laidMet_of_run' 8 (by kernel_rfl) (by kernel_rfl)
theorem door_shaped (os:Os) (args:Array Value):((laidWorld os).forCall (λ_ _=>0) ⟨#[],args,[]⟩).Shaped bQ:=World.shaped_of_RefB (by kernel_rfl) (by kernel_rfl)
end Go.Proofs.YthjbdgokcljocaaGreatDoor

