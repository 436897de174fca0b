/- Texts of mine, laid together: H1 KQ H2 H3 H4 H5 J1 J2 LmWb LmFrame Frame. -/
import Derived.Test.YthjbdgokcljocaaGreatDoorQ7
import Derived.Test.YthjbdgokcljocaaGreatDoorProg
import Derived.Test.YthjbdgokcljocaaGreatDoorChecked
import Derived.Test.YthjbdgokcljocaaGreatDoorQ3
import Derived.Test.YthjbdgokcljocaaGreatDoorQ6
import Derived.Test.YthjbdgokcljocaaGreatDoorQ1
import Derived.HandedShaped
import Derived.ProofKit
import Derived.LaidMore
import Derived.OpenShut
import Derived.ShutString
import Derived.ChangeOld
import Derived.Below
import Derived.Stop.Joined
import Derived.Shelf.Vars
import Derived.SevenTiedAt
import Derived.Test.YthjbdgokcljocaaGreatDoorTie
import Derived.Lib.LaidU8
import Derived.MakeChecks
set_option linter.unusedVariables false
open Bool renaming and_eq_true → ao, not_eq_true' → cY, false_and → eO, false_or → eW, true_and → jm, or_eq_true → kq, true_or → l5
open Int renaming toNat → ax, le_refl → bh
open List renaming length_append → af, length_cons → av, length_singleton → aE, length_take → aF, mem_cons_of_mem → aI, take_of_length_le → aL, append_assoc → aM, mem_cons_self → aN, length_drop → aR, mem_singleton → aU, mem_append → aV, length_nil → aY, mem_cons → bm, take_append_drop → bK, length_map → bT, getElem_mem → dA, cons_append → eH, drop_eq_nil_of_le → eJ, drop_drop → eN, pairwise_cons → eV, nil_append → gS, pairwise_append → iK, drop_zero → o9
open Nat renaming eq_of_beq_eq_true → ai, le_refl → aG, zero_le → cM, zero_lt_succ → fy, zero_add → gA
open Option.some renaming inj → aj
open Go.Proofs.Tryz renaming prog → cg
noncomputable section
namespace Go.Proofs
open Go Go.Lm Go.RowKit
set_option maxRecDepth 1000000
def afO:Ct:=cD .str λa=>cD .str λb=>c0 λQ=>Q (.bool (decide (cmpL a b< 0))) []
def Ls (a b:(List (Ty.str).den)):dq:=λQ=>gC a (aJ (eG b)->aK (λi ag=>gC a (br (decide (i.1.1< (ay a))) (aJ (eG b)->br (decide (i.1.1< (ay b))) (0<=i.1.1/\i.1.1< (ay a)/\(Ty.ok Ty.str (iv a i.1.1)->0<=i.1.1/\i.1.1< 
 (ay b)/\(Ty.ok Ty.str (iv b i.1.1)->br (!j9 (iv a i.1.1) (iv b i.1.1)) (0<=i.1.1/\i.1.1< (ay a)/\(Ty.ok Ty.str (iv a i.1.1)->0<=i.1.1/\i.1.1< (ay b)/\(Ty.ok Ty.str (iv b i.1.1)->Q (.v (.c (.k (.bool 
 (lS (iv a i.1.1) (iv b i.1.1)))))) []))) (dN i.1.1 ag)))) (mX a b (Q (.v (.c (.k (.bool (decide ((ay a)< (ay b))))))) []))) (mX a b (Q (.v (.c (.k (.bool (decide ((ay a)< (ay b))))))) [])))) du)
theorem adO:cq 66 afO:=eI<| iH λa=>iH λb=>gx λQ h=>by
 refine Wp.dy gp ee ⟨[(3,⟨[(5,.int .i64)],[]⟩)],[]⟩ Tryz.f66 (Ls a b) ?_;unfold Ls mX iv eG du gC dN ah ay aJ;intro _ _;refine aK.intro (λi=>0<=i.1.1/\i.1.1<=a.length/\i.1.1<=b.length/\cmpL (a.drop i.1.1.toNat) (b.drop i.1.1.toNat)=cmpL a b) (λi=>a.length - i.1.1.toNat) (by grind) ?_;rintro ⟨⟨i,_⟩,_⟩ ⟨h0,h1,h2,h3⟩;simp only at h0 h1 h2 h3 ⊢;rw [<-h3] at h;refine λ_=>ak (λha=>λ_=>ak (λhb=>?_) (λhb=>λ_ _=>?_)) (λha=>λ_ _=>?_)
 .have ha:i< (a.length:Int):=of_decide_eq_true ha;have hb:i< (b.length:Int):=of_decide_eq_true hb;rw [cR (e:=.str) h0 ha,cR (e:=.str) h0 hb,uB] at h h3;refine ⟨h0,ha,λ_=>⟨h0,hb,λ_=>ak (λhd=>⟨h0,ha,λ_=>⟨h0,hb,λ_=>?_⟩⟩) (λhd=>?_)⟩⟩
  .have hn:¬fM (aA .str a i) (aA .str b i)=0:=λe=>by
    rw [qv e,gO.2 rfl] at hd;cases hd
   simp_all [lu]
  .have e:aA .str a i=aA .str b i:=by grind [gO]
   rw [e,mB,if_pos rfl] at h3
   grind [aB]
 .have hb:¬i< (b.length:Int):=of_decide_eq_false hb;rw [cX hb,Wl] at h
  grind
 .have ha:¬i< (a.length:Int):=of_decide_eq_false ha;rw [cX ha,Wm,aR] at h;rw [show decide ((a.length:Int)< (b.length:Int))=decide (0< ((b.length - i.toNat:Nat):Int)) by rw [decide_eq_decide];omega];exact h
def Ww:Ct:=cD noTy λl=>c0 λQ=>(l.length:Int)<=1000/\∀ L':List bc,L'.Perm l->L'.Pairwise (λx y=>¬cmpL y.1 x.1< 0)->Q (.c (.o 0)) [.sl 38 noTy L']
def alf:=gp.add adO
abbrev aes (y0) (y1) (y2:List (noTy).den) (y3) (R:Prop):=y0<=(aP y1)/\(0+List.length (List.take (ax y0 - 0) (List.drop 0 y1)))*136<=(140737488355328:Nat)/\0+List.length (List.take (ax y0 - 0) (List.drop 0 y1))<=9223372036854775807/\(List.length ([]++List.take (ax y0 - 0) (List.drop 0 y1))+List.length [aA noTy y2 y3])*136<=(140737488355328:Nat)/\List.length ([]++List.take (ax y0 - 0) (List.drop 0 y1))+List.length [aA noTy y2 y3]<=9223372036854775807/\(List.length ([]++List.take (ax y0 - 0) (List.drop 0 y1)++ [aA noTy y2 y3])+List.length ([]++List.take (ax (aP y1) - ax y0) (List.drop (ax y0) y1)))*136<=(140737488355328:Nat)/\List.length ([]++List.take (ax y0 - 0) (List.drop 0 y1)++ [aA noTy y2 y3])+List.length ([]++List.take (ax (aP y1) - ax y0) (List.drop (ax y0) y1))<=9223372036854775807/\aB .i64 (y3+1)/\R
abbrev SO (y0) (y1) (y2) (y3:List (noTy).den):=((y0+1,[]++List.take (ax y1 - 0) (List.drop 0 y2)++ [aA noTy y3 y0]++([]++List.take (ax (aP y2) - ax y1) (List.drop (aS y1) y2)),()),())
abbrev CG {A1:Type} (y0) (y1:List A1) (R:Prop):=aB .i64 (y0 - 1)/\0<=y0 - 1/\y0 - 1< (aP y1)/\0<=y0 - 1/\y0 - 1< (aP y1)/\R
abbrev Pw {A0:Type} (y0:List A0) (y1):=List.take (ax (aP y0) - ax y1) (List.drop (aS y1) y0)
def Bt (l:(List (noTy).den)):dq:=λQ=>di l (aK (λi ag=>di l (br (eh i.1.1 l) (aJ (bw i.1.2.1)->cK (λk=>aK (λbG ag=>br (decide (bG.1.1>0)) (dL i.1.1 l (fm l i.1.1 (CG bG.1.1 i.1.2.1 (Ty.ok noTy (aA noTy i.1.2.1 
 (bG.1.1 - 1))->br (decide (cmpL (cH l i.1.1).1 (aA noTy i.1.2.1 (bG.1.1 - 1)).1< 0)) (aB .i64 (bG.1.1 - 1)/\ag ((bG.1.1 - 1,()),())) (k bG))))) (k bG)) (((aP i.1.2.1),()),())) λbG=>vt bG.1.1 i.1.2.1 (vt 
 bG.1.1 i.1.2.1 ((aP i.1.2.1)<=(aP i.1.2.1)/\(0+List.length (Pw i.1.2.1 bG.1.1))*136<=cd/\0+List.length (Pw i.1.2.1 bG.1.1)<=9223372036854775807/\vt bG.1.1 i.1.2.1 (dL i.1.1 l (fm l i.1.1 (((ah<= 
 ah/\0<=bG.1.1/\aes bG.1.1 i.1.2.1 l i.1.1 (ag (SO i.1.1 bG.1.1 i.1.2.1 l)))/\ah<=ah/\0<=bG.1.1/\aes bG.1.1 i.1.2.1 l i.1.1 (ag (SO i.1.1 bG.1.1 i.1.2.1 l)))/\ah<=ah/\0<=bG.1.1/\aes bG.1.1 i.1.2.1 
 l i.1.1 (ag (SO i.1.1 bG.1.1 i.1.2.1 l)))))))) (Q eY [.sl 38 noTy i.1.2.1]))) ((ah,[],()),()))
theorem UN:cq 36 Ww:=eI<| iH λl=>gx λQ h=>by
 refine Wp.dy alf ee ⟨[(4,⟨[(4,.int .i64),(3,.own 38 noTy)],[]⟩),(7,⟨[(5,.int .i64)],[]⟩)],[(9,⟨[(5,.int .i64)],[]⟩)]⟩ Tryz.f36 (Bt l) ?_;unfold Bt vt Pw fm CG eY eh dL cH SO bw di cd aS aes ah aP ay aJ;obtain ⟨hl,h⟩:=h;intro _;refine aK.intro (λi=>0<=i.1.1/\i.1.1<=l.length/\i.1.2.1.Perm (l.take i.1.1.toNat)/\i.1.2.1.Pairwise (λx y=>¬cmpL y.1 x.1< 0)) (λi=>l.length - i.1.1.toNat) ⟨by simp,by simp,by simp,by simp⟩ ?_;rintro ⟨⟨i,out,_⟩,_⟩ ⟨h0,h1,h2,h3⟩;simp only at h0 h1 h2 h3 ⊢;refine λ_=>ak (λhc=>?_) (λhc=>?_)
 .have hc:i< (l.length:Int):=of_decide_eq_true hc;have pL:out.length=i.toNat:=by rw [h2.length_eq,aF];omega
  have e1:l.take (i+1).toNat=l.take i.toNat++ [aA noTy l i]:=jo (e:=noTy) h0 hc;generalize aA noTy l i=x at*;intro _;refine cK.intro (λk=>0<=k.1.1/\k.1.1<=out.length/\(∀ y∈out.drop k.1.1.toNat,cmpL x.1 y.1< 0)/\∀ y∈out.take k.1.1.toNat,¬cmpL x.1 y.1< 0) ?_ ?_
  .refine aK.intro (λk=>0<=k.1.1/\k.1.1<=out.length/\∀ y∈out.drop k.1.1.toNat,cmpL x.1 y.1< 0) (λk=>k.1.1.toNat) ⟨by simp,by simp,by simp⟩ ?_;rintro ⟨⟨k,_⟩,_⟩ ⟨k0,k1,k2⟩;simp only at k0 k1 k2 ⊢;refine ak (λhk=>?_) (λhk=>?_)
   .have hk:k>0:=of_decide_eq_true hk;have e:=cR (e:=noTy) (l:=out) (k:=k - 1) (by omega) (by omega);have e3:=jo (e:=noTy) (l:=out) (k:=k - 1) (by omega) (by omega);rw [show k - 1+1=k by omega] at e e3;refine ⟨h0,hc,λ_=>⟨by unfold aB;omega,by omega,by omega,by omega,by omega,λ_=>ak (λhd=>?_) (λhd=>?_)⟩⟩
    .have hd:=of_decide_eq_true hd;refine ⟨by unfold aB;omega,⟨by omega,by omega,λy hy=>?_⟩,by omega⟩;rw [e] at hy;rcases bm.1 hy with rfl| hy
     .exact hd
     .exact k2 y hy
    .have hd:=of_decide_eq_false hd;refine ⟨k0,k1,k2,λy hy=>?_⟩;rw [e3] at hy;rcases aV.1 hy with hy| hy
     .have Df:out=out.take (k - 1).toNat++(aA noTy out (k - 1)::out.drop k.toNat):=by rw [<-e,bK]
      rw [Df] at h3;exact Au hd ((iK.1 h3).2.2 y hy _ aN)
     .obtain rfl:=aU.1 hy;exact hd
   .have hk:¬k>0:=of_decide_eq_false hk;refine ⟨k0,k1,k2,λy hy=>?_⟩;rw [show k.toNat=0 by omega] at hy;cases hy
  .rintro ⟨⟨k,_⟩,_⟩ ⟨k0,k1,k2,k3⟩;simp only at k0 k1 k2 k3 ⊢;have b1:bX (some k) 0=k:=rfl;have b2:bX (some k) (out.length:Int)=k:=rfl;have b3:bX none (out.length:Int)=out.length:=rfl;have b4:bX none 0=0:=rfl;have e5:List.take (ax (out.length:Int) - k.toNat) (out.drop k.toNat)=out.drop k.toNat:=aL (by rw [aR];omega);simp only [e5,o9,Nat.sub_zero,gS];have fin:(0<=i+1/\i+1<=(l.length:Int)/\(out.take k.toNat++ [x]++out.drop k.toNat).Perm (l.take (i+1).toNat)/\(out.take k.toNat++ [x]++out.drop k.toNat).Pairwise (λx y=>¬cmpL y.1 x.1< 0))/\l.length - (i+1).toNat< l.length - i.toNat:=⟨⟨by omega,by omega,by rw [e1];exact ZV h2,ajC h3 k2 k3⟩,by omega⟩;clear h k2 k3 h3 h2 e1
   repeat' (first| exact fin| apply And.intro| intro _)
   all_goals (first| omega| (unfold aB;omega)| (simp only [af,aF,aR,av,aY];omega))
 .have hc:¬i< (l.length:Int):=of_decide_eq_false hc;rw [aL (by omega)] at h2;exact h out h2 h3
def Oe:Ct:=cD noTy λl=>c0 λQ=>(l.length:Int)<=1000/\Q (.c (.o 0)) [.sl 38 noTy (cZ l [])]
abbrev ye {A2:Type} (y0) (y1:_->Prop) (y2:A2):=cj y0 (y1 ((y0+1,()),y2))
def wz (l:(List (noTy).den)):dq:=λQ=>di l (aK (λi ag=>di l (br (eh i.1.2.1 l) (dL i.1.2.1 l (fm l i.1.2.1 (aK (λbG ag_1=>br (decide (bG.1.1< i.1.2.1)) (dL bG.1.1 l (fm l bG.1.1 (dL i.1.2.1 l (fm l i.1.2.1 (br 
 ((cH l bG.1.1).2.1==(cH l i.1.2.1).2.1) (rG bG.1.1 i.1.2.2.1 (Ty.ok noTy (eX i.1.2.2.1 bG.1.1)->cj bG.1.1 (ag_1 ((bG.1.1+1,()),(bG.2.1.1,(eX i.1.2.2.1 bG.1.1).2.1,bG.2.1.2.2),())))) (ye bG.1.1 ag_1 
 bG.2)))))) (br (bG.2.1.2.1==0) (cj i.1.1 ((List.length i.1.2.2.1+List.length [(bG.2.1.1,i.1.1,bG.2.1.2.2.1,(bG.2.1.2.2.2.1,bG.2.1.2.2.2.2.1,bG.2.1.2.2.2.2.2.1,()),bG.2.1.2.2.2.2.2.2)])*136<=cd/\List.length 
 i.1.2.2.1+List.length [(bG.2.1.1,i.1.1,bG.2.1.2.2.1,(bG.2.1.2.2.2.1,bG.2.1.2.2.2.2.1,bG.2.1.2.2.2.2.2.1,()),bG.2.1.2.2.2.2.2.2)]<=9223372036854775807/\cj i.1.2.1 (ag ((i.1.1+1,i.1.2.1+1,i.1.2.2.1++ [(bG.2.1.1, 
 i.1.1,bG.2.1.2.2.1,(bG.2.1.2.2.2.1,bG.2.1.2.2.2.2.1,bG.2.1.2.2.2.2.2.1,()),bG.2.1.2.2.2.2.2.2)],()),())))) ((List.length i.1.2.2.1+List.length [(bG.2.1.1,bG.2.1.2.1,bG.2.1.2.2.1,(bG.2.1.2.2.2.1,bG.2.1.2.2.2.2.1, 
 bG.2.1.2.2.2.2.2.1,()),bG.2.1.2.2.2.2.2.2)])*136<=cd/\List.length i.1.2.2.1+List.length [(bG.2.1.1,bG.2.1.2.1,bG.2.1.2.2.1,(bG.2.1.2.2.2.1,bG.2.1.2.2.2.2.1,bG.2.1.2.2.2.2.2.1,()),bG.2.1.2.2.2.2.2.2)]<= 
 9223372036854775807/\cj i.1.2.1 (ag ((i.1.1,i.1.2.1+1,i.1.2.2.1++ [(bG.2.1.1,bG.2.1.2.1,bG.2.1.2.2.1,(bG.2.1.2.2.2.1,bG.2.1.2.2.2.2.1,bG.2.1.2.2.2.2.2.1,()),bG.2.1.2.2.2.2.2.2)],()),()))))) ((ah,()),((cH l 
 i.1.2.1).1,ah,(cH l i.1.2.1).2.2.1,(cH l i.1.2.1).2.2.2.1.1,(cH l i.1.2.1).2.2.2.1.2.1,(cH l i.1.2.1).2.2.2.1.2.2.1,(cH l i.1.2.1).2.2.2.2),())))) (Q eY [.sl 38 noTy i.1.2.2.1]))) ((aW,ah,[],()),()))
theorem Ky:cq 35 Oe:=eI<| iH λl=>gx λQ h=>by
 refine Wp.dy gp ee ⟨[(5,⟨[(4,.int .i64),(5,.int .i64),(3,.own 38 noTy)],[]⟩),(10,⟨[(7,.int .i64)],[(2,.cells 38 Ib)]⟩)],[]⟩ Tryz.f35 (wz l) ?_;unfold wz ye fm eX eY eh dL rG cH cj di cd ah aW aP ay;obtain ⟨hl,h⟩:=h;intro _;refine aK.intro (λi=>0<=i.1.2.1/\i.1.2.1<=l.length/\i.1.1=((ia (l.take i.1.2.1.toNat) []).length:Int)+1/\i.1.2.2.1=cZ (l.take i.1.2.1.toNat) []) (λi=>l.length - i.1.2.1.toNat) ⟨by simp,by simp,by simp [ia],by simp [cZ]⟩ ?_;rintro ⟨⟨nx,i,out,_⟩,_⟩ ⟨h0,h1,h2,h3⟩;simp only at h0 h1 h2 h3 ⊢;refine λ_=>ak (λhc=>?_) (λhc=>?_)
 .have hc:i< (l.length:Int):=of_decide_eq_true hc;have e1:l.take (i+1).toNat=l.take i.toNat++ [aA noTy l i]:=jo (e:=noTy) h0 hc;have JI:=tm (l.take i.toNat) [];rw [aF,aY] at JI;have pL:out.length=i.toNat:=by rw [h3,jw,aF];omega
  generalize hx:aA noTy l i=x at*;have fin:∀ (v nx':Int),(Kk.get .int (ia (l.take i.toNat) []) x.2.1=some v/\nx'=nx\/(Kk.get .int (ia (l.take i.toNat) []) x.2.1=none/\v=nx/\nx'=nx+1))->(0<=i+1/\i+1<=(l.length:Int)/\nx'=((ia (l.take (i+1).toNat) []).length:Int)+1/\out++ [bc.jG x v]=cZ (l.take (i+1).toNat) [])/\l.length - (i+1).toNat< l.length - i.toNat:=λv nx' hv=>by
   obtain ⟨n1,n2⟩:=M9 (L:=l.take i.toNat) (x:=x) (v:=v) (by
    rcases hv with ⟨a,_⟩| ⟨a,b,_⟩;exact .inl a
    .exact .inr ⟨a,by rw [b,h2]⟩)
   rw [e1,n1,n2,h3];refine ⟨⟨by omega,by omega,?_,rfl⟩,by omega⟩;rcases hv with ⟨a,b⟩| ⟨a,_,b⟩;rw [if_neg (by rw [a];simp),b,h2];rw [if_pos a,b,h2]
  refine ⟨h0,hc,λ_=>?_⟩;refine aK.intro (λk=>0<=k.1.1/\k.1.1<=i/\∃ v:Int,k.2.1=(x.1,v,x.2.2.1,x.2.2.2.1.1,x.2.2.2.1.2.1,x.2.2.2.1.2.2.1,x.2.2.2.2)/\((v=0/\∀ y∈l.take k.1.1.toNat,y.2.1≠x.2.1)\/Kk.get .int (ia (l.take i.toNat) []) x.2.1=some v)) (λk=>i.toNat - k.1.1.toNat) ⟨by simp,h0,0,rfl,.inl ⟨rfl,by simp⟩⟩ ?_;rintro ⟨⟨k,_⟩,_,_⟩ ⟨k0,k1,v,rfl,k2⟩;simp only at k0 k1 k2 ⊢;refine ak (λhk=>?_) (λhk=>?_)
  .have hk:k< i:=of_decide_eq_true hk;have ND:k< (l.length:Int):=by omega
   have hko:k< (out.length:Int):=by omega
   have e2:l.take (k+1).toNat=l.take k.toNat++ [aA noTy l k]:=jo (e:=noTy) k0 ND;refine ⟨k0,ND,λ_=>⟨h0,hc,λ_=>ak (λhd=>⟨k0,hko,k0,hko,λ_=>⟨by unfold aB;omega,⟨by omega,by omega,(aA noTy out k).2.1,rfl,.inr ?_⟩,by omega⟩⟩) (λhd=>⟨by unfold aB;omega,⟨by omega,by omega,v,rfl,?_⟩,by omega⟩)⟩⟩
   .have hd:(aA noTy l k).2.1=x.2.1:=eq_of_beq hd;have:=ajp (L:=l.take i.toNat) (j:=k) k0 (by rw [aF];omega);rw [fF (e:=noTy) k0 (by rw [aF];omega),List.getElem_take,<-fF (e:=noTy) k0 ND,hd] at this;rw [this,h3]
   .rcases k2 with ⟨k2,k3⟩| k2
    .refine .inl ⟨k2,λy hy=>?_⟩;rw [e2] at hy;rcases aV.1 hy with hy| hy
     .exact k3 y hy
     .obtain rfl:=aU.1 hy;simpa using hd
    .exact .inr k2
  .have hk:¬k< i:=of_decide_eq_false hk;obtain rfl:k=i:=by omega
   refine ak (λhd=>?_) (λhd=>?_)
   .have hd:v=0:=eq_of_beq hd;have hn:Kk.get .int (ia (l.take k.toNat) []) x.2.1=none:=by
     rcases k2 with ⟨_,k3⟩| k2;exact (Jm (l.take k.toNat)).2 ⟨rfl,k3⟩
     .have:=AZ (l.take k.toNat) (m:=[]) (λ_ _ q=>by cases q) _ _ k2;omega
    exact ⟨by unfold aB;omega,by simp only [aE];omega,by simp only [aE];omega,by unfold aB;omega,fin nx (nx+1) (.inr ⟨hn,rfl,rfl⟩)⟩
   .have hd:v≠0:=by simpa using hd
    exact ⟨by simp only [aE];omega,by simp only [aE];omega,by unfold aB;omega,fin v nx (.inl ⟨k2.resolve_left λq=>hd q.1,rfl⟩)⟩
 .have hc:¬i< (l.length:Int):=of_decide_eq_false hc;rw [aL (by omega)] at h3;rw [h3];exact h
def nM (x y:bc):Bool:=x.2.1==y.2.1&& (x.2.2.1==1|| !jE x y)
def kG:List bc->List bc->Bool
 | _,[]=>false
 | pre,x::r=>pre.any (nM x)|| kG (pre++ [x]) r
def zj (l:List bc):Int:=if mE l !=0 then mE l else if l.any (λx=> !gE x) then 7 else if kG [] l then 8 else 0
theorem ZT {e:Ty} {l:List e.den} {k i:Int} (h0:0<=k) (h1:k< i):aA e (l.take i.toNat) k=aA e l k:=by
 grind [aA]
theorem WU {x y:bc} {r:List bc}:(y::r).any (nM x)=(nM x y|| r.any (nM x)):=rfl
def abm:Ct:=cD noTy λl=>c0 λQ=>Q (.int (zj l)) []
def ale:=((gp.add EY).add Rj).add UT
def FX (l:(List (noTy).den)):dq:=λQ=>di l (aB .i64 (mE l)->br (mE l !=0) (Q (.v (.c (.k (.int .i64 (mE l))))) []) (aK (λi ag=>di l (br (eh i.1.1 l) (dL i.1.1 l (fm l i.1.1 (br (!gE (cH l i.1.1)) (Q (.v (.c (.k (.int 
 .i64 7)))) []) (dN i.1.1 ag)))) (aK (λi ag=>di l (br (eh i.1.1 l) (aK (λbG ag_1=>br (decide (bG.1.1< i.1.1)) (dL i.1.1 l (fm l i.1.1 (dL bG.1.1 l (fm l bG.1.1 (br ((cH l i.1.1).2.1==(cH 
 l bG.1.1).2.1) (dL i.1.1 l (fm l i.1.1 (br ((cH l i.1.1).2.2.1==1) (yn Q) (dL i.1.1 l (fm l i.1.1 (dL bG.1.1 l (fm l bG.1.1 (br (!jE (cH l i.1.1) (cH l bG.1.1)) (yn Q) (dN bG.1.1 
 ag_1))))))))) (dN bG.1.1 ag_1)))))) (dN i.1.1 ag)) du) (hU Q))) du))) du))
theorem X5:cq 34 abm:=eI<| iH λl=>gx λQ h=>by
 refine Wp.dy ale ee ⟨[(6,⟨[(4,.int .i64)],[]⟩),(12,⟨[(6,.int .i64)],[]⟩),(15,⟨[(7,.int .i64)],[]⟩)],[]⟩ Tryz.f34 (FX l) ?_;unfold FX yn fm hU eh dL du cH di dN aT ah ay;intro _ _;unfold zj at h;refine ak (λhc=>?_) (λhc=>?_);rw [if_pos hc] at h;exact h;rw [if_neg (by rw [hc];simp)] at h;refine aK.intro (λi=>0<=i.1.1/\i.1.1<=l.length/\((l.drop i.1.1.toNat).any λx=> !gE x)=l.any λx=> !gE x) (λi=>l.length - i.1.1.toNat) ⟨by simp,by simp,by simp⟩ ?_;rintro ⟨⟨i,_⟩,_⟩ ⟨h0,h1,h2⟩;simp only at h0 h1 h2 ⊢;intro _;refine ak (λhc=>?_) (λhc=>?_)
 .have hc:i< l.length:=by simpa using hc
  rw [cR (e:=noTy) h0 hc,List.any_cons] at h2;refine ⟨h0,hc,λ_=>ak (λhb=>?_) (λhb=>?_)⟩
  .have hb:(!gE (aA noTy l i))=true:=hb;rw [hb,l5] at h2;rw [<-h2,if_pos rfl] at h;exact h
  .have hb:(!gE (aA noTy l i))=false:=hb;rw [hb,eW] at h2;exact ⟨by unfold aB;omega,⟨by omega,by omega,h2⟩,by omega⟩
 have hc:¬i< l.length:=by simpa using hc
 rw [cX hc,List.any_nil] at h2;rw [<-h2,if_neg (by decide)] at h;clear h0 h1 h2 hc;refine aK.intro (λi=>0<=i.1.1/\i.1.1<=l.length/\kG (l.take i.1.1.toNat) (l.drop i.1.1.toNat)=kG [] l) (λi=>l.length - i.1.1.toNat) ⟨by simp,by simp,by simp⟩ ?_;rintro ⟨⟨i,_⟩,_⟩ ⟨h0,h1,h2⟩;simp only at h0 h1 h2 ⊢;intro _;refine ak (λhc=>?_) (λhc=>?_)
 .have hc:i< l.length:=by simpa using hc
  rw [cR (e:=noTy) h0 hc] at h2;simp only [kG] at h2;have e1:l.take (i+1).toNat=l.take i.toNat++ [aA noTy l i]:=jo (e:=noTy) h0 hc;rw [<-e1] at h2;have hlen:((l.take i.toNat).length:Int)=i:=by rw [aF];omega
  refine aK.intro (λk=>0<=k.1.1/\k.1.1<=i/\((l.take i.toNat).drop k.1.1.toNat).any (nM (aA noTy l i))=(l.take i.toNat).any (nM (aA noTy l i))) (λk=>i.toNat - k.1.1.toNat) ⟨by simp,by omega,by simp⟩ ?_;rintro ⟨⟨k,_⟩,_⟩ ⟨k0,k1,k2⟩;simp only at k0 k1 k2 ⊢;refine ak (λhk=>?_) (λhk=>?_)
  .have hk:k< i:=by simpa using hk
   rw [cR (e:=noTy) k0 (by omega),ZT (e:=noTy) k0 hk,WU] at k2;have fin:∀ v,nM (aA noTy l i) (aA noTy l k)=v->v=true->Q (.int 8) []:=λv e hv=>by
    rw [e,hv,l5] at k2;rw [<-k2,l5] at h2;rw [<-h2,if_pos rfl] at h;exact h
   have go:nM (aA noTy l i) (aA noTy l k)=false->((l.take i.toNat).drop (k+1).toNat).any (nM (aA noTy l i))=(l.take i.toNat).any (nM (aA noTy l i)):=λe=>by rw [e,eW] at k2;exact k2
   refine ⟨h0,hc,λ_=>⟨k0,by omega,λ_=>ak (λa1=>?_) (λa1=>?_)⟩⟩
   .have e:nM (aA noTy l i) (aA noTy l k)=((aA noTy l i).2.2.1==1|| !jE (aA noTy l i) (aA noTy l k)):=by unfold nM;rw [a1,jm]
    refine ⟨h0,hc,λ_=>ak (λa2=>?_) (λa2=>⟨h0,hc,λ_=>⟨k0,by omega,λ_=>ak (λa4=>?_) (λa4=>?_)⟩⟩)⟩;exact fin _ e (by rw [a2,l5])
    .have a4:(!jE (aA noTy l i) (aA noTy l k))=true:=a4;exact fin _ e (by rw [a2,a4];rfl)
    .have a4:(!jE (aA noTy l i) (aA noTy l k))=false:=a4;exact ⟨by unfold aB;omega,⟨by omega,by omega,go (by rw [e,a2,a4];rfl)⟩,by omega⟩
   .exact ⟨by unfold aB;omega,⟨by omega,by omega,go (by unfold nM;rw [a1,eO])⟩,by omega⟩
  .have hk:¬k< i:=by simpa using hk
   rw [eJ (by omega),List.any_nil] at k2;rw [<-k2,eW] at h2;exact ⟨by unfold aB;omega,⟨by omega,by omega,h2⟩,by omega⟩
 .have hc:¬i< l.length:=by simpa using hc
  rw [cX hc] at h2;simp only [kG] at h2;rw [<-h2,if_neg (by decide)] at h;exact h
def wT {α:Type} (R:α->α->Bool):List α->List α->Bool
 | _,[]=>false
 | pre,x::r=>pre.any (R x)|| wT R (pre++ [x]) r
theorem yP {α:Type} {R:α->α->Bool}:∀ {r pre:List α},wT R pre r=false↔(∀ y∈pre,∀ x∈r,R x y=false)/\r.Pairwise λa b=>R b a=false
 | [],pre=>by simp [wT]
 | x::r,pre=>by
  unfold wT;rw [Bool.or_eq_false_iff,yP (r:=r),List.any_eq_false,eV];constructor
  .rintro ⟨h1,h2,h3⟩;refine ⟨λy hy z hz=>?_,λz hz=>h2 x (by simp) z hz,h3⟩;rcases bm.1 hz with rfl| hz
   .simpa using h1 y hy
   .exact h2 y (by simp [hy]) z hz
  .rintro ⟨h1,h2,h3⟩;refine ⟨λy hy=>by simp [h1 y hy x (by simp)],λy hy z hz=>?_,h3⟩;rcases aV.1 hy with hy| hy
   .exact h1 y hy z (by simp [hz])
   .obtain rfl:y=x:=by simpa using hy
    exact h2 z hz
theorem Nw {α:Type} {p:α->Bool} {x:α} {r:List α} (hx:p x=true):∀ {pre:List α} {k:Int},decide (ic p (pre++x::r) k< k+pre.length)=pre.any p
 | [],k=>by simp [ic,hx]
 | y::pre,k=>by
  rw [eH,List.any_cons];unfold ic;by_cases hy:p y=true;rw [if_pos hy,hy];simp;omega
  .rw [if_neg hy];have:=Nw (r:=r) hx (pre:=pre) (k:=k+1);rw [show p y=false by simpa using hy,eW,<-this,av,decide_eq_decide];omega
theorem wD:∀ {r pre:List bc},kJ (pre++r) r pre.length=wT (λx y=>js x.1 y) pre r
 | [],_=>rfl
 | x::r,pre=>by
  unfold kJ wT;have h1:=Nw (p:=js x.1) (x:=x) (r:=r) (V2 x) (pre:=pre) (k:=0);rw [Int.zero_add] at h1;have h2:=wD (r:=r) (pre:=pre++ [x]);rw [aM,af] at h2;rw [h1,<-h2];rfl
theorem L3 {l:List bc}:kJ l l 0=false↔l.Pairwise λa b=>a.1≠b.1:=by
 have h:=wD (r:=l) (pre:=[]);have e:kJ l l 0=wT (λx y=>js x.1 y) [] l:=h;rw [e,yP];have:∀ a b:bc,js b.1 a=false↔a.1≠b.1:=λa b=>by
  unfold js;rw [<-Bool.not_eq_true,lf]
 simp [this]
theorem vR:∀ {l:List bc} {m:List (Int×bc)},iB l m=0\/iB l m=8
 | [],_=>.inl rfl
 | x::r,m=>by
  unfold iB;cases Kk.get .int m x.2.1 with
  | none=>exact vR
  | some o=>
   simp only;split;exact .inr rfl;exact vR
theorem Nd (l:List bc):iz l=oI l:=by
 unfold iz oI;by_cases h1:(gD l !=0)=true
 .grind
 .have e1:=re (m:=[]) (iZ (l:=l) (by simpa using h1));have e2:=L3 (l:=l);have e:(lW l []).isNone=kJ l l 0:=by
   cases h:kJ l l 0 with
   | false=>
    have:=e1.2 ⟨e2.1 h,λx _=>rfl⟩
    grind
   | true=>
    simp_all
  rw [e]
theorem Tl {l:List bc} (h:iz l=0) {p:List ByteArray} (hp:∀ s∈p,db s=0):(kU (fc l) p !=1)= !lH l p:=by
 obtain ⟨hN,hD,hs⟩:=qd (l:=l) (by rw [h];rfl);cases hm:lW l [] with
 | none=>grind
 | some m=>
  have e:fc l=m:=by grind [fc]
  have hg:=yV (iZ hN) hm p hp;rw [e];unfold kU lH;rw [hg];cases l.find? (js p) with
  | none=>rfl
  | some x=>rfl
theorem ajh {l:List bc} (h:iz l=0):En (fc l) l=upB l:=by
 obtain ⟨hN,_,_⟩:=qd (l:=l) (by rw [h];rfl);have ok:ud l:=iZ hN;unfold En upB;have key:∀ r:List bc,(∀ x∈r,x∈l)->(r.any (λx:bc=>decide ((x.1.length:Int) - 1≥0)&& (kU (fc l) (x.1.take (x.1.length - 1)) !=1)))=r.any λx=>decide ((x.1.length:Int)>0)&& !lH l (x.1.take (x.1.length - 1)):=by
  intro r hr
  induction r with
  | nil=>rfl
  | cons x r ih=>
   rw [List.any_cons,List.any_cons,ih λy hy=>hr y (aI _ hy)];rw [Tl h λs hs=>ok x (hr x aN) s (by grind)]
   grind
 grind
theorem Wq (l:List bc):dw l=if mE l !=0 then mE l else if l.any (λx=> !gE x) then 7 else iB l []:=by
 unfold dw mE;rw [Nd];by_cases h1:(l.length:Int)>1024;rw [if_pos h1,if_pos h1];rfl
 .rw [if_neg h1,if_neg h1];by_cases h2:(oI l !=0)=true
  .rw [if_pos h2,if_pos h2,if_pos h2]
  .rw [if_neg h2,if_neg h2];have h0:iz l=0:=by rw [Nd];simpa using h2
   rw [Tl h0 (λs hs=>by cases hs),ajh h0];cases lH l []<;>cases upB l<;>rfl
theorem uR:∀ {r pre:List bc},kG pre r=wT nM pre r
 | [],_=>rfl
 | x::r,pre=>by unfold kG wT;rw [uR (r:=r)]
theorem WT {a b:bc}:nM b a=false↔(a.2.1=b.2.1->b.2.2.1≠1/\b.2.2=a.2.2):=by
 grind [nM, wi]
theorem ajx (l:List bc):iB l []=if kG [] l then 8 else 0:=by
 have h:kG [] l=false↔iB l []=0:=by
  rw [uR,yP,rh];simp only [WT];exact ⟨λh=>⟨h.2,λ_ _ _ q=>by cases q⟩,by grind⟩
 grind [vR]
theorem Wr (l:List bc):zj l=dw l:=by
 rw [Wq,ajx];rfl
def afP:Ct:=cD .str λp=>c0 λQ=>0< p.length/\Q (.str (aA .str p ((p.length:Int) - 1))) []
def Lu (p:(List (Ty.str).den)):dq:=λQ=>gC p (aJ (eG p)->aB .i64 ((ay p) - 1)/\ah<=(ay p) - 1/\(ay p) - 1< (ay p)/\(Ty.ok Ty.str (aA Ty.str p ((ay p) - 1))->Q (.v (.c (.k (.string (aA Ty.str p ((ay p) - 1)))))) []))
theorem adP:cq 29 afP:=eI<| iH λp=>gx λQ h=>by
 refine Wp.dy gp ee ⟨[],[]⟩ Tryz.f29 (Lu p) ?_;unfold Lu eG gC ah ay aJ;obtain ⟨hp,h⟩:=h;exact λ_ _=>⟨by unfold aB;omega,by omega,by omega,λ_=>h⟩
def afT:Ct:=cD noTy λF=>cD .str λp=>c0 λQ=>F.length<=1000/\p.length<=1000/\∀ K,ac0 F p K->Q (.c (.o 0)) [.sl 3 (.int .i64) K]
def ak6:=(gp.add KE).add adP
abbrev Jb (y0:List (noTy).den) (y1) (y2):=aA Ty.str (aA noTy y0 (aA bq y1 (y2 - 1))).1 ((↑(List.length (aA noTy y0 (aA bq y1 (y2 - 1))).1):Int) - 1)
abbrev Px (y0) (y1) (y2) (y3:_->Prop):=rG y0 y1 (cj y2 (y3 ((y2+1,List.set y1 (aS y0) y2,()),())))
abbrev IB (y0:List (noTy).den) (y1):=aA Ty.str (cH y0 y1).1 ((fU y0 y1) - 1)
def Lz (F:(List (noTy).den)) (p:(List (Ty.str).den)):dq:=λQ=>di F (aJ (eG p)->aK (λi ag=>di F (br (eh i.1.1 F) (dL i.1.1 F (pj F i.1.1 (aJ (eG p)->aB .i64 ((ay p)+1)/\br ((fU F i.1.1) !=(ay p)+1) (yd i.1.1 ag i.1.2) (aJ (eG 
 p)->ah<=(ay p)/\(ay p)<=(fU F i.1.1)/\br (!gd (List.take (ax (ay p)) (cH F i.1.1).1) p) (yd i.1.1 ag i.1.2) (aJ (bw i.1.2.1)->(List.length i.1.2.1+List.length [i.1.1])*8<=cd/\List.length 
 i.1.2.1+List.length [i.1.1]<=9223372036854775807/\aK (λbG ag_1=>br (decide (bG.1.1>0)) (CG bG.1.1 bG.2.1 (Ty.ok bq (jR bG.2.1 bG.1.1)->0<=aA bq bG.2.1 (bG.1.1 - 1)/\aA bq bG.2.1 (bG.1.1 - 1)< 
 (ay F)/\(Ty.ok noTy (aA noTy F (jR bG.2.1 bG.1.1))->0< List.length (aA noTy F (jR bG.2.1 bG.1.1)).1/\(ByteArray.size (Jb F bG.2.1 bG.1.1)<=9223372036854775807->0< List.length (cH F i.1.1).1/\(ByteArray.size 
 (IB F i.1.1)<=9223372036854775807->br (!(lS (Jb F bG.2.1 bG.1.1) (IB F i.1.1)|| j9 (Jb F bG.2.1 bG.1.1) (IB F i.1.1))) (CG bG.1.1 bG.2.1 (Ty.ok bq (jR bG.2.1 bG.1.1)->rG bG.1.1 bG.2.1 (aB 
 .i64 (bG.1.1 - 1)/\ag_1 ((bG.1.1 - 1,()),List.set bG.2.1 (aS bG.1.1) (jR bG.2.1 bG.1.1),())))) (Px bG.1.1 bG.2.1 i.1.1 ag)))))) (Px bG.1.1 bG.2.1 i.1.1 ag)) (((aP i.1.2.1),()),i.1.2.1++ [i.1.1],())))))) (Q 
 eY [.sl 3 bq i.1.2.1]))) ((ah,[],()),()))
theorem adR:cq 12 afT:=eI<| iH λF=>iH λp=>gx λQ h=>by
 refine Wp.dy ak6 ee ⟨[(4,⟨[(6,.int .i64),(5,.own 3 (.int .i64))],[]⟩),(10,⟨[(8,.int .i64)],[(3,.sl 3 (.int .i64))]⟩)],[]⟩ Tryz.f12 (Lz F p) ?_;unfold Lz yd IB Px jR CG eY eG eh dL Jb rG cH cj pj bw di cd fU aS ah aP ay aJ bq;obtain ⟨hl,hp,h⟩:=h;intro _ _;refine aK.intro (λi=>0<=i.1.1/\i.1.1<=F.length/\nQ F p i.1.1.toNat i.1.2.1) (λi=>F.length - i.1.1.toNat) ⟨bh _,by simp,.start F p⟩ ?_;rintro ⟨⟨i,O,_⟩,_⟩ ⟨h0,h1,hQ⟩;simp only at h0 h1 hQ ⊢;refine λ_=>ak (λhc=>?_) (λhc=>h _ (hQ.all (by have:=of_decide_eq_false hc;omega)));have hc:i< (F.length:Int):=of_decide_eq_true hc;have skip:qh p (aA noTy F i)=false->aB .i64 (i+1)/\(0<=i+1/\i+1<=(F.length:Int)/\nQ F p (i+1).toNat O)/\F.length - (i+1).toNat< F.length - i.toNat:=λe=>⟨by unfold aB;omega,⟨by omega,by omega,hQ.skip h0 hc e⟩,by omega⟩;refine ⟨h0,hc,λ_ _ _=>⟨by unfold aB;omega,ak (λhn=>skip ?_) (λhn=>?_)⟩⟩
 .unfold qh;rw [show (((aA noTy F i).1.length:Int)==(p.length:Int)+1)=false by simpa using hn,eO]
 have hn:((aA noTy F i).1.length:Int)=(p.length:Int)+1:=by simpa using hn
 refine λ_=>⟨by omega,by omega,ak (λhs=>skip ?_) (λhs=>?_)⟩
 .have hs:gd ((aA noTy F i).1.take p.length) p=false:=by simpa using hs
  unfold qh;rw [hs,Bool.and_false,Bool.and_false]
 have hb:qh p (aA noTy F i)=true:=by
  have hs:gd ((aA noTy F i).1.take p.length) p=true:=by simpa using hs
  unfold qh;rw [hs,hn,Bool.and_true];simp only [BEq.rfl,jm,decide_eq_true_eq];omega
 have pL:=hQ.len;refine λ_=>⟨by rw [aE];omega,by rw [aE];omega,aK.intro (λk=>AP F p O i k.1.1 k.2.1) (λk=>k.1.1.toNat) (.start F p O i) ?_⟩;rintro ⟨⟨k,_⟩,L,_⟩ hI;simp only at hI ⊢;have hk0:=hI.k0;have tz:=hI.k1;have hlen:=hI.len;have fin:(0< k->lS (Ed F p i) (Ed F p (aA (.int .i64) L (k - 1)))=false)->0<=k/\k< (L.length:Int)/\0<=k/\k< (L.length:Int)/\aB .i64 (i+1)/\(0<=i+1/\i+1<=(F.length:Int)/\nQ F p (i+1).toNat (L.set k.toNat i))/\F.length - (i+1).toNat< F.length - i.toNat:=λq=>⟨hk0,by omega,hk0,by omega,by unfold aB;omega,⟨by omega,by omega,hI.fin hQ h0 hc hb q⟩,by omega⟩;refine ak (λhk=>?_) (λhk=>fin λq=>absurd q (of_decide_eq_false hk));have hk:0< k:=of_decide_eq_true hk;have he:=hI.elem hk;obtain ⟨o0,o1,o2⟩:=hQ.mem (show aA (.int .i64) L (k - 1)∈O by rw [he];exact tv (e:=.int .i64) (by omega) (by omega));have uI:=hI.step hk;generalize aA (.int .i64) L (k - 1)=o at*;rw [Nr o2,Nr (p:=p) (o:=i) (by omega)];refine ⟨by unfold aB;omega,by omega,by omega,by omega,by omega,λ_=>⟨o0,o1,λ_=>⟨by omega,λ_=>⟨by omega,λ_=>ak (λhd=>?_) (λhd=>fin λ_=>?_)⟩⟩⟩⟩
 .have hd:lS (Ed F p o) (Ed F p i)=false/\¬Ed F p o=Ed F p i:=by
   rw [cY,Bool.or_eq_false_iff] at hd;exact ⟨hd.1,λe=>by rw [gO.2 e] at hd;cases hd.2⟩
  exact ⟨by unfold aB;omega,by omega,by omega,by omega,by omega,λ_=>⟨by omega,by omega,by omega,by omega,by unfold aB;omega,uI (YR hd.1 (Ne.symm hd.2)),by omega⟩⟩
 .rw [Bool.not_eq_false',kq] at hd;cases q:lS (Ed F p i) (Ed F p o) with
  | false=>rfl
  | true=>
   rcases hd with e| e;exact absurd (Pf _ _ _ e q) (Ih _);rw [gO.1 e] at q;exact absurd q (Ih _)
def aaX:Ct:=cD noTy λl=>cI λi=>c0 λQ=>(0<=i/\i< (l.length:Int))/\l.length<=1100/\Q (.int (jD l (aA noTy l i).2.1:Nat)) []
def Fq (l:(List (noTy).den)) (i:Int):dq:=λQ=>di l (aB .i64 i->aK (λbG ag=>di l (br (eh bG.1.1 l) (br (decide (i≥0)) (aJ (List.length l)->br (decide (i< (ay l))) (SJ bG.1.1 l i bG.1.2.1 ag bG.1.2) (Q (fC bG.1.2.1) [])) (Q (fC 
 bG.1.2.1) [])) (Q (fC bG.1.2.1) []))) ((ah,ah,()),()))
theorem XL:cq 39 aaX:=eI<| iH λl=>nF λi=>gx λQ h=>by
 refine Wp.dy gp ee ⟨[(4,⟨[(6,.int .i64),(5,.int .i64)],[]⟩)],[]⟩ Tryz.f39 (Fq l i) ?_;unfold Fq fC eh SJ cH cj di aC ah ay aJ;obtain ⟨⟨i0,i1⟩,hl,h⟩:=h;refine λ_ _=>aK.intro (λk=>0<=k.1.1/\k.1.1<=l.length/\0<=k.1.2.1/\k.1.2.1+((l.drop k.1.1.toNat).countP (uH (aA noTy l i).2.1):Nat)=(jD l (aA noTy l i).2.1:Nat)) (λk=>l.length - k.1.1.toNat) ⟨by simp,by simp,bh _,by simp [jD]⟩ ?_;rintro ⟨⟨k,c,_⟩,_⟩ ⟨k0,k1,c0,hk⟩;simp only at k0 k1 c0 hk ⊢;have hle:jD l (aA noTy l i).2.1<=l.length:=List.countP_le_length;refine λ_=>ak (λhc=>ak (λ_=>λ_=>ak (λ_=>?_) (λq=>absurd i1 (of_decide_eq_false q))) (λq=>absurd i0 (of_decide_eq_false q))) (λhc=>?_)
 .have hc:=of_decide_eq_true hc;rw [ixR (e:=noTy) k0 hc,List.countP_cons] at hk;refine ⟨k0,hc,λ_=>⟨i0,i1,λ_=>ak (λe=>?_) (λe=>?_)⟩⟩
  .have e':uH (aA noTy l i).2.1 (aA noTy l k)=true:=e;rw [if_pos e'] at hk;exact ⟨by unfold aB;omega,by unfold aB;omega,⟨by omega,by omega,by omega,by omega⟩,by omega⟩
  .have e':uH (aA noTy l i).2.1 (aA noTy l k)=false:=e;rw [if_neg (by rw [e'];simp)] at hk;exact ⟨by unfold aB;omega,⟨by omega,by omega,by omega,by omega⟩,by omega⟩
 .have hc:=of_decide_eq_false hc;rw [cX hc,List.countP_nil] at hk;obtain rfl:c=(jD l (aA noTy l i).2.1:Nat):=by omega
  exact h
def aaL:Ct:=cD noTy λN=>cI λi=>c0 λQ=>(0<=i/\i< (N.length:Int))/\N.length<=1000/\(∀ x∈N,x.1.length<=1000/\(x.2.2.1=1\/x.2.2.1=2\/x.2.2.1=3))/\Q (.v (.agg [.k (.int .i64 (aA noTy N i).2.2.1),.k (.int .i64 (aA noTy N i).2.2.2.1.1),.k (.int .i64 (aA noTy N i).2.2.2.1.2.1),.k (.int .i64 (aA noTy N i).2.2.2.1.2.2.1),.k (.int .i64 (jD N (aA noTy N i).2.1:Nat)),.k (.int .i64 (mH N (aA noTy N i)))])) []
def ak5:=(gp.add adR).add XL
abbrev ajf (y0:List (noTy).den) (y1:Int) (y2:SV->List HO->Prop):=aB .i64 (↑(jD y0 (aA noTy y0 y1).2.1):Int)->br ((aA noTy y0 y1).2.2.1==2) (List.length (aA noTy y0 y1).2.2.2.2.1<=9223372036854775807->y2 (SV.v (S1.agg [.k (.int .i64 (aA noTy y0 y1).2.2.1),.k (.int .i64 (aA noTy y0 y1).2.2.2.1.1),.k (.int .i64 (aA noTy y0 y1).2.2.2.1.2.1),.k (.int .i64 (aA noTy y0 y1).2.2.2.1.2.2.1),.k (.int .i64 (↑(jD y0 (aA noTy y0 y1).2.1):Int)),.k (.int .i64 (↑(List.length (aA noTy y0 y1).2.2.2.2.1):Int))])) []) (br ((aA noTy y0 y1).2.2.1==1) (List.length y0<=1000/\List.length (aA noTy y0 y1).1<=1000/\∀ (K:List Int),ac0 y0 (aA noTy y0 y1).1 K->aJ (List.length K)->y2 (SV.v (S1.agg [.k (.int .i64 (aA noTy y0 y1).2.2.1),.k (.int .i64 (aA noTy y0 y1).2.2.2.1.1),.k (.int .i64 (aA noTy y0 y1).2.2.2.1.2.1),.k (.int .i64 (aA noTy y0 y1).2.2.2.1.2.2.1),.k (.int .i64 (↑(jD y0 (aA noTy y0 y1).2.1):Int)),.k (.int .i64 (ay K))])) []) (br ((aA noTy y0 y1).2.2.1==3) (y2 (SV.v (S1.agg [.k (.int .i64 (aA noTy y0 y1).2.2.1),.k (.int .i64 (aA noTy y0 y1).2.2.2.1.1),.k (.int .i64 (aA noTy y0 y1).2.2.2.1.2.1),.k (.int .i64 (aA noTy y0 y1).2.2.2.1.2.2.1),.k (.int .i64 (↑(jD y0 (aA noTy y0 y1).2.1):Int)),.k (.int .i64 (↑(ByteArray.size (aA noTy y0 y1).2.2.2.2.2.1):Int))])) []) (y2 (SV.v (S1.agg [.k (.int .i64 (aA noTy y0 y1).2.2.1),.k (.int .i64 (aA noTy y0 y1).2.2.2.1.1),.k (.int .i64 (aA noTy y0 y1).2.2.2.1.2.1),.k (.int .i64 (aA noTy y0 y1).2.2.2.1.2.2.1),.k (.int .i64 (↑(jD y0 (aA noTy y0 y1).2.1):Int)),.k (.int .i64 0)])) [])))
def Fg (N:(List (noTy).den)) (i:Int):dq:=λQ=>di N (aB .i64 i->0<=i/\i< (ay N)/\(Ty.ok noTy (aA noTy N i)->((0<=i/\i< (ay N))/\List.length N<=1100/\(ajf N i Q))/\(0<=i/\i< (ay N))/\List.length N<=1100/\(ajf N i Q)))
theorem Xv:cq 22 aaL:=eI<| iH λN=>nF λi=>gx λQ h=>by
 refine Wp.dy ak5 ee ⟨[],[]⟩ Tryz.f22 (Fg N i) (hold:=[12]) ?_;unfold Fg di ajf ay aJ;obtain ⟨⟨i0,i1⟩,hl,hk,h⟩:=h;obtain ⟨hn,Di⟩:=hk _ (tv (e:=noTy) i0 i1);clear hk;refine λ_ _=>⟨i0,i1,λ_=>⟨⟨⟨i0,i1⟩,by omega,λ_=>?_⟩,⟨i0,i1⟩,by omega,λ_=>?_⟩⟩
 all_goals
  generalize aA noTy N i=x at*;refine ak (λq=>λ_=>?_) (λq2=>ak (λq=>⟨hl,hn,λK hK _=>?_⟩) (λq1=>ak (λq=>?_) (λq3=>?_)))
  .have q:=eq_of_beq q;rw [show mH N x=(x.2.2.2.2.1.length:Int) by unfold mH;rw [if_neg (λe=>absurd (q.symm.trans e) (by decide)),if_pos q]] at h;exact h
  .have q:=eq_of_beq q;rw [show mH N x=(K.length:Int) by unfold mH;rw [if_pos q,hK.perm.length_eq]] at h;exact h
  .have q:=eq_of_beq q;rw [show mH N x=(x.2.2.2.2.2.1.size:Int) by unfold mH;rw [if_neg (λe=>absurd (q.symm.trans e) (by decide)),if_neg (λe=>absurd (q.symm.trans e) (by decide))]] at h;exact h
  .have q1:x.2.2.1≠1:=by simpa using q1
   have q2:x.2.2.1≠2:=by simpa using q2
   have q3:x.2.2.1≠3:=by simpa using q3
   exact (Di.resolve_left q1).elim (λe=>absurd e q2) (λe=>absurd e q3)
theorem ZY {q:bc->Bool}:∀ {l:List bc} {k:Int},(ic q l k= -1/\∀ x∈l,q x=false)\/(∃ j:Nat,∃ h:j< l.length,ic q l k=k+j/\q l[j]=true)
 | [],_=>.inl ⟨rfl,λ_ h=>by cases h⟩
 | x::r,k=>by
  unfold ic;by_cases hq:q x=true
  .rw [if_pos hq];exact .inr ⟨0,fy _,by simp,hq⟩
  .rw [if_neg hq];rcases ZY (q:=q) (l:=r) (k:=k+1) with ⟨h1,h2⟩| ⟨j,hj,h1,h2⟩
   .refine .inl ⟨h1,λy hy=>?_⟩;rcases bm.1 hy with rfl| hy
    .simpa using hq
    .exact h2 y hy
   .exact .inr ⟨j+1,by simpa using hj,by omega,by simpa using h2⟩
def aa8:Ct:=cD noTy λN=>cD .str λp=>c0 λQ=>∃ (ids:List Int) (F:List (Int×eA.den)),sb N ids F/\0< N.length/\(aA noTy N 0).1= []/\Q (.int (ju N (aA noTy N 0) p)) []
def ak4:=gp.add Rl
abbrev vB (y0) (y1:List (Ty.str).den):=js (List.take (aS y0) y1)
def FL (N:(List (noTy).den)) (p:(List (Ty.str).den)):dq:=λQ=>di N (aJ (eG p)->aK (λi ag=>gC p (br (decide (i.1.1< (ay p))) (0<=i.1.1/\i.1.1<=(ay p)/\(aB .i64 (ic (vB i.1.1 p) N ah)->br (decide (ic (vB i.1.1 p) N ah< ah)) (Q (.v (.c 
 (.k (.int .i64 20)))) []) (0<=ic (vB i.1.1 p) N ah/\ic (vB i.1.1 p) N ah< (ay N)/\(Ty.ok noTy (aA noTy N (ic (vB i.1.1 p) N ah))->br ((aA noTy N (ic (vB i.1.1 p) N ah)).2.2.1 !=1) (Q (.v (.c (.k 
 (.int .i64 24)))) []) (dN i.1.1 ag))))) (aB .i64 (ic (js p) N ah)->br (decide (ic (js p) N ah< ah)) (Q (.v (.c (.k (.int .i64 20)))) []) (hU Q)))) du)
theorem XW:cq 23 aa8:=eI<| iH λN=>iH λp=>gx λQ h=>by
 refine Wp.dy ak4 ee ⟨[(3,⟨[(5,.int .i64)],[]⟩)],[]⟩ Tryz.f23 (FL N p) ?_;unfold FL vB hU eG du gC di dN aT aS ah ay aJ;obtain ⟨ids,F,t,Tw,hr,h⟩:=h;have fd:∀ a:List ByteArray,(ic (js a) N 0= -1/\EA N a=none)\/(∃ j:Nat,∃ hj:j< N.length,ic (js a) N 0=(j:Int)/\EA N a=some N[j]/\N[j].1=a):=λa=>by
  rcases ZY (q:=js a) (l:=N) (k:=0) with ⟨q1,q2⟩| ⟨j,hj,q1,q2⟩
  .refine .inl ⟨q1,qp.2 λx hx e=>?_⟩;have:=q2 x hx;rw [show js a x=true from lf.2 e] at this;cases this
  .have e:N[j].1=a:=lf.1 q2;exact .inr ⟨j,hj,by omega,by rw [<-e];exact JO t (dA hj),e⟩
 have Z4:=JO t (tv (e:=noTy) (l:=N) (bh 0) (by omega));rw [hr] at Z4;refine λ_ _=>aK.intro (λi=>0<=i.1.1/\i.1.1<=p.length/\(∀ x,EA N (p.take i.1.1.toNat)=some x->ju N x (p.drop i.1.1.toNat)=ju N (aA noTy N 0) p)/\(EA N (p.take i.1.1.toNat)=none->ju N (aA noTy N 0) p=20)) (λi=>p.length - i.1.1.toNat) ⟨bh _,by simp,λx hx=>?_,λhx=>?_⟩ ?_
 .have hx:EA N []=some x:=hx;rw [Z4] at hx;obtain rfl:=aj hx;rfl
 .have hx:EA N []=none:=hx;rw [Z4] at hx;cases hx
 rintro ⟨⟨n,_⟩,_⟩ ⟨n0,n1,hs,kA⟩;simp only at n0 n1 hs kA ⊢;refine λ_=>ak (λhc=>?_) (λhc=>?_)
 .have hc:=of_decide_eq_true hc;rcases fd (p.take n.toNat) with ⟨q1,q2⟩| ⟨j,hj,q1,q2,q3⟩
  .rw [q1];refine ⟨n0,n1,λ_=>ak (λ_=>?_) (λq=>by cases q)⟩;rw [kA q2] at h;exact h
  .rw [q1];have hx:=hs _ q2;rw [cR (e:=.str) n0 hc] at hx;refine ⟨n0,n1,λ_=>ak (λq=>absurd (of_decide_eq_true q) (by omega)) (λ_=>⟨by omega,by omega,λ_=>?_⟩)⟩;rw [show aA noTy N (j:Int)=N[j] from gP (e:=noTy) hj]
   conv at hx=>lhs;unfold ju
   refine ak (λk=>?_) (λk=>?_)
   .have k:N[j].2.2.1≠1:=by simpa using k
    rw [if_neg k] at hx;rw [<-hx] at h;exact h
   .have k:N[j].2.2.1=1:=by simpa using k
    rw [if_pos k,q3,<-jo (e:=.str) n0 hc] at hx;exact ⟨by unfold aB;omega,⟨by omega,by omega,λx e=>by rw [e] at hx;exact hx,λe=>by rw [e] at hx;exact hx.symm⟩,by omega⟩
 .have hc:=of_decide_eq_false hc;rw [aL (by omega),cX hc] at hs;rw [aL (by omega)] at kA;rcases fd p with ⟨q1,q2⟩| ⟨j,hj,q1,q2,q3⟩
  .rw [q1];refine λ_=>ak (λ_=>?_) (λq=>by cases q);rw [kA q2] at h;exact h
  .rw [q1];refine λ_=>ak (λq=>absurd (of_decide_eq_true q) (by omega)) (λ_=>?_);rw [<-hs _ q2] at h;exact h
def aaO:Ct:=cD cU λa=>cD cU λb=>c0 λQ=>a=b/\Q (.bool true) []
def Fh (a b:(List (cU).den)):dq:=λQ=>jC a (aJ (jO b)->aJ (jO a)->aJ (jO b)->br ((ay a) !=(ay b)) (ba Q) (aK (λi ag=>jC a (br (decide (i.1.1< (ay a))) (0<=i.1.1/\i.1.1< (ay a)/\(Ty.ok cU (cG a i.1.1)->0<= 
 i.1.1/\i.1.1< (ay b)/\(Ty.ok cU (cG b i.1.1)->br (!j9 (cG a i.1.1).1 (cG b i.1.1).1) (ba Q) (0<=i.1.1/\i.1.1< (ay a)/\(Ty.ok cU (cG a i.1.1)->0<=i.1.1/\i.1.1< (ay b)/\(IK b i.1.1 a Q ag)))))) 
 (Q ml []))) du))
theorem Xx:cq 21 aaO:=eI<| iH λa=>iH λb=>gx λQ h=>by
 refine Wp.dy gp ee ⟨[(5,⟨[(5,.int .i64)],[]⟩)],[]⟩ Tryz.f21 (Fh a b) ?_;unfold Fh jO IK jC du cG ba dN iW ml ah ay aJ;obtain ⟨rfl,h⟩:=h;refine λ_ _ _ _=>ak (λq=>by simp at q) (λ_=>aK.intro (λi=>0<=i.1.1) (λi=>a.length - i.1.1.toNat) (bh _) ?_);rintro ⟨⟨k,_⟩,_⟩ k0;simp only at k0 ⊢;refine λ_=>ak (λhc=>?_) (λ_=>h);have hc:=of_decide_eq_true hc;exact ⟨k0,hc,λ_=>⟨k0,hc,λ_=>ak (λq=>by rw [gO.2 rfl] at q;cases q) (λ_=>⟨k0,hc,λ_=>⟨k0,hc,λ_=>ak (λq=>by rw [gO.2 rfl] at q;cases q) (λ_=>⟨by unfold aB;omega,by omega,by omega⟩)⟩⟩)⟩⟩
def WM:Ct:=cD noTy λl=>c0 λQ=>(l.length:Int)<=1000/\dw l=0/\∀ L':List bc,L'.Perm l->L'.Pairwise (λx y=>¬cmpL y.1 x.1< 0)->Q (.cC [.c (.d noTy (cZ L' [])),.c (.k (.int .i64 0))]) []
def ak3:=((gp.add Ky).add UN).add X5
def BO (l:(List (noTy).den)):dq:=λQ=>di l (aB .i64 (zj l)->br (zj l !=0) (Q (.cC [.c dD,.c (.k (.int .i64 (zj l)))]) []) ((ay l)<=(1000:Int)/\∀ (L':List bc),sW L' l ((aP L')<=(1000:Int)/\Q lD [.sl 38 noTy (ef 
 L')])))
theorem U2:cq 19 WM:=eI<| iH λl=>gx λQ h=>by
 refine Wp.kE [some (.sl noTy),none] [0] ?_;refine Wp.dy ak3 ee ⟨[],[]⟩ Tryz.f19 (BO l) (hold:=[35]) ?_;unfold BO sW ef lD di dD aT aP ay;obtain ⟨hl,hz,h⟩:=h;rw [<-Wr] at hz;exact λ_ _=>ak (λq=>by rw [hz] at q;cases q) (λ_=>⟨hl,λL' p o=>⟨by rw [p.length_eq];exact hl,cM _,h L' p o⟩⟩)
def c_lfinds:Ct
 | [.v (.c cl),.v (.c crows)],[],Q=>(match (Ty.sl noTy).of [cl] with
  | some (l,[])=>(match (Ty.sl (Ty.sl .str)).of [crows] with
  | some (rows,[])=>Q (.bool true) []
  | _=>False)
  | _=>False)
 | _,_,_=>False
def ak2:=((((((((((gp.add XW).add ao3).add Xv).add Xx).add ama).add aik).add Ro).add U2).add XE).add amo).add adu
abbrev jN (y0:List bc) (y1):=aA noTy (cZ y0 []) y1
abbrev sC (y0:List (noTy).den):=List.map N4 (List.take (40:Nat) y0)
abbrev sM (y0:List ((Ty.sl .str)).den) (y1):=aA (Ty.sl Ty.str) y0 y1
def Fs (l:(List (noTy).den)) (rows:(List ((Ty.sl .str)).den)):dq:=λQ=>di l (aJ (List.length rows)->(aP (sC l))<=(40:Int)/\br (dw (sC l) !=0) (aB .i64 (dw (sC l))->br (dw (sC l) !=0) (br (dw (sC l) !=0) (Q ml []) (ba Q)) (br (dw (sC l) 
 !=0) (Q ml []) (ba Q))) (∀ (A:Value->Atom) (d:IR) (N:List bc),acW (sC l) N->MB A d N->aB .i64 0->(aP (sC l))<=(1000:Int)/\dw (sC l)=ah/\∀ (L':List bc),List.Perm L' (sC l)->List.Pairwise 
 (λx y=>¬cmpL y.1 x.1< 0) L'->aJ (List.length (ef L'))->aB .i64 0->aK (λi ag=>List.length (ef L')<=9223372036854775807->br (decide (i.1.1< (aP (ef L')))) (0<=i.1.1/\i.1.1< (aP (ef L'))/\(Ty.ok 
 noTy (jN L' i.1.1)->∃ d N,MB i.2.1 d N/\∀ (ref:Int),Xc d N (jN L' i.1.1).1 ref->aB .i64 ref->aB .i64 (ju N (lC N) (jN L' i.1.1).1)->∃ d W9 x,MB i.2.1 d W9/\x∈W9/\Kk.get Kk.int d.t.Mr x.2.1=some ref/\ 
 (cr x.2.2.1 x.2.2.2.1.1 x.2.2.2.1.2.1 (aB .i64 x.2.2.2.1.2.2.1->aB .i64 (↑(jD W9 x.2.1):Int)->aB .i64 (mH W9 x)->aB .i64 0->∃ d N_2 zI,MB i.2.1 d N_2/\zI∈N_2/\Kk.get Kk.int d.t.Mr zI.2.1=some ref/\(aJ (bw 
 zI.2.2.2.2.2.2.1)->aB .i64 0->0<=i.1.1/\i.1.1< (aP (ef L'))/\(Ty.ok noTy (jN L' i.1.1)->zI.2.2.2.2.2.2.1=(jN L' i.1.1).2.2.2.2.2.2.1/\br (ju N (lC N) (jN L' i.1.1).1 !=0) (ba Q) ((0<=i.1.1/\i.1.1< 
 (aP (ef L')))/\List.length (ef L')<=1000/\(∀ (x:Ty.den noTy),List.Mem x (ef L')->List.length x.1<=1000/\(x.2.2.1=(1:Ty.den bq)\/x.2.2.1=(2:Ty.den bq)\/x.2.2.1=(3:Ty.den bq)))/\(aB .i64 (jN L' 
 i.1.1).2.2.1->aB .i64 (jN L' i.1.1).2.2.2.1.1->aB .i64 (jN L' i.1.1).2.2.2.1.2.1->aB .i64 (jN L' i.1.1).2.2.2.1.2.2.1->aB .i64 (↑(jD (ef L') (jN L' i.1.1).2.1):Int)->aB .i64 (mH (ef L') (jN L' i.1.1)) 
 ->br (!(x.2.2.1==(jN L' i.1.1).2.2.1&& (x.2.2.2.1.1==(jN L' i.1.1).2.2.2.1.1&& (x.2.2.2.1.2.1==(jN L' i.1.1).2.2.2.1.2.1&& (x.2.2.2.1.2.2.1==(jN L' i.1.1).2.2.2.1.2.2.1&& true))&& ((↑(jD W9 x.2.1):Int)== 
 (↑(jD (ef L') (jN L' i.1.1).2.1):Int)&& (mH W9 x==mH (ef L') (jN L' i.1.1)&& true))))) (ba Q) (0<=i.1.1/\i.1.1< (aP (ef L'))/\(Ty.ok noTy (jN L' i.1.1)->br ((jN L' i.1.1).2.2.1==2) (∃ d N 
 x,MB i.2.1 d N/\x∈N/\Kk.get Kk.int d.t.Mr x.2.1=some ref/\(aJ (List.length (rdN x ah (4096:Int)))->aB .i64 (Y5 x ah (4096:Int))->br (Y5 x ah (4096:Int) !=0) (ba Q) (0<=i.1.1/\i.1.1< (aP (ef L'))/\ 
 (Ty.ok noTy (jN L' i.1.1)->br (!j9 (fY (rdN x ah (4096:Int))) (fY (jN L' i.1.1).2.2.2.2.1)) (ba Q) (ye i.1.1 ag i.2))))) (ye i.1.1 ag i.2))))))))))) (aK (λi ag=>List.length rows<=9223372036854775807->br 
 (decide (i.1.1< (ay rows))) (br (decide (i.1.1< 20)) (0<=i.1.1/\i.1.1< (ay rows)/\(Ty.ok (Ty.sl Ty.str) (sM rows i.1.1)->∃ d N,MB i.2.1 d N/\∀ (ref:Int),Xc d N (sM rows i.1.1) ref->aB .i64 ref->aB .i64 (ju N 
 (lC N) (sM rows i.1.1))->0<=i.1.1/\i.1.1< (ay rows)/\(Ty.ok (Ty.sl Ty.str) (sM rows i.1.1)->∃ ids F,sb (ef L') ids F/\0< List.length (ef L')/\(qT L').1= []/\(aB .i64 (ju (ef L') (qT L') 
 (sM rows i.1.1))->br (ju N (lC N) (sM rows i.1.1) !=ju (ef L') (qT L') (sM rows i.1.1)) (ba Q) (ye i.1.1 ag i.2))))) (Q ml [])) (Q ml [])) ((ah,()),i.2))) ((ah,()),A,())))
theorem w_lfinds:cq 6 c_lfinds:=by
 intro args H Q h;unfold c_lfinds at h;split at h;rotate_left;cases h;rename_i cl crows;split at h;rotate_left;cases h;rename_i l hl;split at h;rotate_left;cases h;rename_i rows agK;refine Wp.said (args':=[.c (.d noTy l),.c (.d (Ty.sl .str) rows)]) (λE g=>bA.cE (dI hl) (bA.cE (dI agK) (λ_ h=>h))) ?_;clear hl agK;refine Wp.dy ak2 ee ⟨[(9,⟨[(10,.int .i64)],[(1,.abs)]⟩),(22,⟨[(20,.int .i64)],[(1,.abs)]⟩)],[]⟩ Tryz.f6 (Fs l rows) (hold:=[10,11,19]) ?_;unfold Fs ye sM lC qT ef ba sC jN cj bw di cr iW ml ah aP ay aJ bq;have hF40:(List.map N4 (List.take 40 l)).length<=40:=by rw [bT,aF];omega
 generalize List.map N4 (List.take 40 l)=F at*;refine λ_ _=>⟨by omega,ak (λq=>λ_=>?_) (λq=>λA d N O hM _=>⟨by omega,by simpa using q,λL' p o _ _=>?_⟩)⟩;rw [q];exact h;rw [O.num L' p o];have t:=hM.ok.tok;have hN:=t.len;have Tw:=hM.tr.pos;refine aK.intro (λi=>i.2.1=A/\0<=i.1.1/\i.1.1<=N.length) (λi=>N.length - i.1.1.toNat) ⟨rfl,bh _,by simp⟩ ?_;rintro ⟨⟨i,_⟩,A1,_⟩ ⟨e,i0,i1⟩;simp only at e i0 i1 ⊢;subst e;refine λ_=>ak (λhc=>?_) (λhc=>?_)
 .have hc:=of_decide_eq_true hc;have hy:aA noTy N i∈N:=tv (e:=noTy) i0 hc;have next:aB .i64 (i+1)/\(A1=A1/\0<=i+1/\i+1<=(N.length:Int))/\N.length - (i+1).toNat< N.length - i.toNat:=⟨by unfold aB;omega,⟨rfl,by omega,by omega⟩,by omega⟩
  generalize aA noTy N i=y at*;have z:=aao hM.tr (λa ha b hb q=>t.uniq ha hb q) y.1 (aA noTy N 0) y (tv (e:=noTy) (bh 0) (by omega)) hy (by rw [hM.tr.root.1];rfl);have hyl:=(oJ (t.may y hy)).2;refine ⟨i0,hc,λ_=>⟨d,N,hM,λref hr _ _=>?_⟩⟩;obtain ⟨w,hw,w1,w2⟩:=hr.ok z;obtain rfl:=t.uniq hw hy w1;rw [z];refine ⟨d,N,_,hM,hy,w2,λ_ _ _ _ _ _ _=>⟨d,N,_,hM,hy,w2,λ_ _=>⟨i0,hc,λ_=>⟨rfl,ak (λq=>by cases q) (λ_=>⟨⟨i0,hc⟩,by omega,λx hx=>⟨by have:=t.deep x hx;omega,(kc (t.may x hx)).2⟩,λ_ _ _ _ _ _=>ak (λq=>by simp at q) (λ_=>⟨i0,hc,λ_=>ak (λk=>⟨d,N,_,hM,hy,w2,λ_ _=>?_⟩) (λ_=>next)⟩)⟩)⟩⟩⟩⟩
  have k:=eq_of_beq k;rw [show rdN w 0 4096=w.2.2.2.2.1 from (if_pos ⟨k,by omega,by omega⟩).trans (aL (by simp only [show (0:Int).toNat=0 from rfl,o9];omega)),show Y5 w 0 4096=0 by unfold Y5;rw [if_neg (λe=>absurd (k.symm.trans e) (by decide)),if_neg (λe=>e.elim (λe=>absurd (k.symm.trans e) (by decide)) λe=>by omega)]];exact ak (λq=>by cases q) (λ_=>⟨i0,hc,λ_=>ak (λq=>by rw [gO.2 rfl] at q;cases q) (λ_=>next)⟩)
 refine aK.intro (λi=>i.2.1=A1/\0<=i.1.1/\i.1.1<=rows.length) (λi=>rows.length - i.1.1.toNat) ⟨rfl,bh _,by simp⟩ ?_;rintro ⟨⟨j,_⟩,A2,_⟩ ⟨e,j0,j1⟩;simp only at e j0 j1 ⊢;subst e;refine λ_=>ak (λhj=>ak (λ_=>?_) (λ_=>h)) (λ_=>h);have hj:=of_decide_eq_true hj;exact ⟨j0,hj,λ_=>⟨d,N,hM,λref _ _ _=>⟨j0,hj,λ_=>⟨d.ids,d.F,t,Tw,hM.tr.root.1,λ_=>ak (λq=>by simp at q) (λ_=>⟨by unfold aB;omega,⟨rfl,by omega,by omega⟩,by omega⟩)⟩⟩⟩⟩
end Go.Proofs

namespace Go.Lm
open Go Go.RowKit
section
variable {P:Program}
def Kj (P:Program) (t:TypeId) (e:Ty):Prop:= @D6 P t e.den e.rep
def D5 (P:Program) (fs:List Field) (off:Nat) (e:Ty):Prop:=
 ∀ {H:Type} (enc:TypeId×Value->H) (w:World) (base:Nat) (spare:Nat->Bool) (held:Bool) (fuel:Nat) (cs:List Value),cs.length=off+e.size->
  (∀ f∈fs,∃ y,DataW.trod enc P w base spare held fuel f.type ((cs.drop f.offset).take (P.cellsOf f.type))=some y)->∃ x:e.den,e.rep.rel w (cs.drop off) x
theorem PT {off:Nat}:D5 P [] off .unit:=λ_ _ _ _ _ _ cs hl _=>⟨(),by
 exact eJ (by rw [hl];exact aG _)⟩
theorem Ac {a b:Ty} {f:Field} {fs:List Field} {off:Nat} (ho:f.offset=off) (hs:P.cellsOf f.type=a.size) (h1:Kj P f.type a) (h2:D5 P fs (off+a.size) b):D5 P (f::fs) off (.pair a b):=λenc w base spare held fuel cs hl h=>by
 obtain ⟨y,hy⟩:=h f (by simp);obtain ⟨x,hx⟩:=h1 enc w base spare held fuel _ y hy;have Al:cs.length=off+(a.size+b.size):=hl;obtain ⟨r,hr⟩:=h2 enc w base spare held fuel cs (by omega) (by grind);rw [ho,hs] at hx;refine ⟨(x,r),_,_,?_,hx,hr⟩;rw [<-eN,bK]
theorem Eo {t:TypeId} {e:Ty} {fs:Array Field} (ht:P.underlying t=some (.struct fs)) (hs:P.cellsOf t=e.size) (h:D5 P fs.toList 0 e):Kj P t e:=λenc w base spare held fuel cs y hy=>by
 obtain ⟨xs,n,_,_,hlen,hxl,hf⟩:=DataW.trod_struct ht hy;obtain ⟨x,hx⟩:=h enc w base spare held n cs (by omega) (by grind [List.getElem?_of_mem])
 grind
theorem PU {k:IntKind} {t:TypeId} (ht:P.underlying t=some (.int k)):Kj P t (.int k):=λ_ _ _ _ _ _ _ _ h=>by
 obtain ⟨n,hc,_,hw⟩:=DataW.trod_int ht h;exact ⟨n,hc,hw⟩
def fit (P:Program):Ty->TypeId ⊕ (List Field×Nat)->Bool
 | .int k,.inl t=>match P.underlying t with
  | some (.int k')=>IntKind.beq k k'
  | _=>false
 | .u8,.inl t=>match P.underlying t with
  | some (.int .u8)=>true
  | _=>false
 | .str,.inl t=>match P.underlying t with
  | some .string=>true
  | _=>false
 | .bool,.inl t=>match P.underlying t with
  | some .bool=>true
  | _=>false
 | .sl e,.inl t=>match P.underlying t with
  | some (.slice et)=>Nat.beq (P.cellsOf et) e.size&& fit P e (.inl et)
  | _=>false
 | .unit,.inr ([],_)=>true
 | .pair a b,.inr (f::fs,off)=>Nat.beq f.offset off&& (Nat.beq (P.cellsOf f.type) a.size&& (fit P a (.inl f.type)&& fit P b (.inr (fs,off+a.size))))
 | .pair a b,.inl t=>match P.underlying t with
  | some (.struct fs)=>match fs.toList with
   | f::r=>Nat.beq (P.cellsOf t) (a.size+b.size)&& (Nat.beq f.offset 0&& (Nat.beq (P.cellsOf f.type) a.size&& (fit P a (.inl f.type)&& fit P b (.inr (r,a.size)))))
   | []=>false
  | _=>false
 | _,_=>false
theorem zc:∀ (e:Ty),(∀ t,fit P e (.inl t)=true->Kj P t e)/\∀ fs off,fit P e (.inr (fs,off))=true->D5 P fs off e
 | .int k=>by
  grind [fit, IntKind.eq_of_beq, PU]
 | .u8=>by
  refine ⟨λt h=>?_,by grind [fit]⟩;unfold fit at h;split at h
  .rename_i hk;exact PQ hk
  grind
 | .We=>by grind [fit]
 | .str=>by
  refine ⟨λt h=>?_,by grind [fit]⟩;unfold fit at h;split at h
  .rename_i hk;exact VI hk
  grind
 | .bool=>by
  refine ⟨λt h=>?_,by grind [fit]⟩;unfold fit at h;split at h
  .rename_i hk;exact PS hk
  grind
 | .unit=>by
  refine ⟨by grind [fit],λfs off h=>?_⟩;cases fs with
  | nil=>exact PT
  | cons f r=>trivial
 | .sl e=>by
  refine ⟨λt h=>?_,λfs off h=>by simp [fit] at h⟩;unfold fit at h;split at h
  .rename_i et hk;rw [ao] at h;exact @PO P t et e.den e.rep hk ((ai h.1).trans e.gw.symm) ((zc e).1 et h.2)
  .cases h
 | .pair a b=>by
  refine ⟨λt h=>?_,λfs off h=>?_⟩
  .unfold fit at h;split at h
   .rename_i fs hk;split at h
    .rename_i f r hf;simp only [ao] at h;obtain ⟨h1,h2,h3,h4,h5⟩:=h;refine Eo (e:=.pair a b) hk (ai h1) ?_;rw [hf];refine Ac (ai h2) (ai h3) ((zc a).1 _ h4) ?_;rw [gA];exact (zc b).2 _ _ h5
    .cases h
   .cases h
  .cases fs with
   | nil=>simp [fit] at h
   | cons f r=>
    unfold fit at h;simp only [ao] at h;obtain ⟨h2,h3,h4,h5⟩:=h;exact Ac (ai h2) (ai h3) ((zc a).1 _ h4) ((zc b).2 _ _ h5)
theorem open_sl {t:TypeId} {e:Ty} (hf:fit P (.sl e) (.inl t)=true) {H:Type} {enc:TypeId×Value->H} {w:World} {base:Nat} {spare:Nat->Bool} {held:Bool} {v:Value} {d:DataW H} {ps:List MemPlace}
  (hv:v.cells= #[v]) (h:DataW.Trod enc P w base spare held t v d ps):∃ x:List e.den,od e w v x:=
 @Zn P t (List e.den) (A4 e.den e.rep) ((zc (.sl e)).1 t hf) rfl H enc w base spare held v d ps hv h
theorem Wp.run {I:cV->Prop} {f:FuncId} {args:List SV} {vs:List Value} {w:World} {b:Bool} (hI:I {w:=w,g:=w}) (h:Wp I P f args [] λv _=>v=SV.bool b) (hv:bA [] w args vs):HM P f vs.toArray w λv w'=>v= .bool b/\Le w w':=by
 have S:SL {w:=w,g:=w} w w []:=SL.start (rC.refl w);refine (h {w:=w,g:=w} hI w w [] [] vs ⟨S,rfl⟩ hv).mono λv w' ⟨E',g',sv,H',_,_,S',r,q⟩=>?_;subst q;exact ⟨r.1,S'.sl.ao5⟩
end
theorem returns_shaped_and {H:Type} {enc:TypeId×Value->H} {a:Assume} {C:Checked} {os:Os} {f:FuncId} {fn:Func} {s:ChangeSpec} {conds:List PathCond} {apart fresh handsOn again:Bool} {X:World->Array Value->Prop}
  (hX:∀ (w w':World) (args:Array Value),w.heap=w'.heap->X w args->X w' args)
  (own:ownKnob C.prog.godebug=none) (started:os.Started) (noInit:C.prog.inits.idxOf? f=none) (hfn:C.prog.funcs[f]?=some fn)
  (witness:∃ (w:World) (tape:Tape) (i:Input),w.os=os/\(w.forCall tape i).Shaped C.prog/\i.vars= []/\Input.okWide C.prog (w.forCall tape i) .any w.heap.size f i/\
   ((s.pre enc C.prog fn conds apart (w.forCall tape i).memory i.args/\X (w.forCall tape i).memory i.args)/\sizedMet enc C.prog fn (OpenSpec.ofChange s) apart (w.forCall tape i).memory i.args)/\a.holds C.prog (lone (Frame.enter C.prog f i.args .normal) [] (w.forCall tape i)))
  (contract:∀ (W:World) (base:Nat) (args:Array Value) (ds gs:List (DataW H)) (before:List MemPlace),
   (∀ (j:Nat) t v,fn.params[j]?=some t->args[j]?=some v->Value.okWide C.prog W .any base t v)->
   DataW.Whole enc C.prog fn.params.toList s.vars apart W args.toList ds gs before->X W args->W.ShapedOpen C.prog->
   (DataW.weightsEach C.prog (fn.params.toList++s.plain.varTypes C.prog) (ds++gs)).all (· <=reachBytes)=true->
   Calls C.prog f args W λe W'=>∃ v,e= .returned v/\s.post enc C.prog fn apart fresh handsOn again W args v W'):
  ReturnsInHanded a C os f .any (λw args=>(s.pre enc C.prog fn conds apart w args/\X w args)/\sizedMet enc C.prog fn (OpenSpec.ofChange s) apart w args) (s.post enc C.prog fn apart fresh handsOn again):=by
 refine returnsInHanded_of_calls own started noInit witness ?_;intro w tape i _ hsh _ sa apC apZ;obtain ⟨_,_,_,fn',ap6,_,_,_,_,hval⟩:=sa;obtain rfl:fn'=fn:=aj (ap6.symm.trans hfn);obtain ⟨⟨⟨ds,gs,before,hw,hc⟩,hx⟩,hz⟩:=apC;have hw':=DataW.Whole.of_heap (w':=w.forCall tape i) (by rfl) hw;refine (contract (w.forCall tape i) w.heap.size i.args ds gs before hval hw' (hX _ _ _ (by rfl) hx) hsh (hz.weights hw)).mono λe W' ⟨v,he,hp⟩=>?_;subst he;exact ChangeSpec.post_blind hp
theorem params_ok {P:Program} {ps:Array TypeId} (h:(ps.all λt=> !P.wantsStandIn t)=true) (j:Nat) (t:TypeId) (ht:ps[j]?=some t):P.wantsStandIn t=false:=by
 have:=Array.all_eq_true_iff_forall_mem.1 h t (Array.mem_of_getElem? ht);simpa using this
end Go.Lm

namespace Go.Proofs.YthjbdgokcljocaaGreatDoor
open Go Go.ChangeShapes Go.WideShapes Go.ChangeAt Go.RowKit Go.Lm
set_option maxRecDepth 1000000
set_option maxRecDepth 100000
def laidWorld (os:Os):World:=
 let w0:=World.doorLaid cg 19 os
 {w0 with heap:=w0.heap.modify 1 fun
   | .cells _ t frozen=>.cells (Pinned.utf8FirstZ.map λ(n:Nat)=>Value.int .u8 n).toArray t frozen
   | o=>o}
theorem own:ownKnob Tryz.prog.godebug=none:=by kernel_rfl
theorem laidOut:laidOutB cg=true:=by kernel_rfl
abbrev Sq:List (String×DataW Unit):=Rows.imageLinksRow.laid
theorem PM:(Sq.all λx=>x.2.handleName?.isNone)=true:=by kernel_rfl
theorem door_met (os:Os) (args:Array Value):laidMetH cg Sq ((laidWorld os).forCall (λ_ _=>0) ⟨#[],args,[]⟩).memory:=by
 rw [MakeChecks.laidMetH_plain _ _ _ PM];exact laidMet_of_run' 8 (by kernel_rfl) (by kernel_rfl)
theorem door_shaped (os:Os) (args:Array Value):((laidWorld os).forCall (λ_ _=>0) ⟨#[],args,[]⟩).Shaped cg:=World.shaped_of_RefB (by kernel_rfl) (by kernel_rfl)
end Go.Proofs.YthjbdgokcljocaaGreatDoor

