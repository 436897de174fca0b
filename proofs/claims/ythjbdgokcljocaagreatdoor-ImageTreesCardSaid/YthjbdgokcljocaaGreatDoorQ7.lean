/- Texts of mine, laid together: D1 D2 LmZr D3 LmZs LmZt KO D4 LmZu E1 E2 LmVzg E3 LmZv E4 LmVzh E5 LmZ1 LmZ2 LmZ3 LmZ4 E6 F1 F2 F3 F4 G1 G2 G3 LmZ5 LmZ6. -/
import Derived.Test.YthjbdgokcljocaaGreatDoorQ6
import Derived.Test.YthjbdgokcljocaaGreatDoorProg
import Derived.Test.YthjbdgokcljocaaGreatDoorChecked
import Derived.Test.YthjbdgokcljocaaGreatDoorQ3
set_option linter.unusedVariables false
open Bool renaming and_eq_true → ak, not_eq_true' → dr, or_eq_true → lR
open Int renaming toNat → ax, le_refl → bB, toNat_natCast → bM, tdiv → gw
open List renaming flatten → ae, length_append → af, getElem?_eq_getElem → ao, replicate → au, length_cons → av, getElem?_eq_some_iff → aw, length_singleton → ay, mem_cons_of_mem → aF, length_take → aH, mem_cons_self → aK, append_assoc → aL, length_nil → aO, length_drop → aQ, take_of_length_le → aT, mem_singleton → aW, mem_append → aX, length_replicate → aY, append_nil → bd, mem_map → bq, mem_cons → bz, eq_nil_of_length_eq_zero → bA, getElem?_append_right → bD, take_succ_eq_append_getElem → bG, range → bL, getElem?_append_left → bN, length_map → bR, take_append_drop → bX, mem_append_left → cj, map_cons → cE, pairwise_iff_getElem → cQ, getElem?_map → dq, getElem_mem → dA, flatten_cons → dD, mem_range → dJ, cons_append → dV, getD_eq_getElem?_getD → ep, mem_iff_getElem → ev, take_length → eK, drop_drop → eP, drop_append_of_le_length → eT, pairwise_cons → eY, nodup_cons → gj, nodup_append → gx, nil_append → hU, flatMap_append → ia, map_append → jc, length_set → jd, flatMap_cons → jA, mem_of_getElem? → ka, drop_take → lG, drop_left → lH, take_take → o9, drop_zero → pc
open Nat renaming le_refl → aG, zero_le → cY, zero_lt_succ → eS, lt_or_ge → eW, min_eq_left → pB
open Option renaming getD → cA, isSome_iff_exists → gV, isSome → oc
open Option.some renaming inj → aj
open Go.Proofs.Tryz renaming prog → bQ
noncomputable section
namespace Go.Proofs
open Go Go.Lm Go.RowKit
set_option maxRecDepth 1000000
def pD:List (Nat×Ty):=(80,eC)::cC
def afT:Ct:=cI λx=>c0 λQ=>Q (.bool false) []
def acV:=(gJ.add XR).add Rh
def Lg (x:Int):dx:=λQ=>aD .i64 x->Q (.v (.c (.k (.bool (x !=x))))) []
theorem adS:cu 132 afT:=eQ<| nG λx=>gM λQ h=>by
 refine Wp.dC acV pD ⟨[],[]⟩ Tryz.f132 (Lg x) ?_;unfold Lg
 grind
def ahh:Ct:=cD (Ty.int .i64) λl=>cI λy=>c0 λQ=>(l.Pairwise λa b=>a< b)/\l.length<=100000/\alP l y/\∀ i:Int,0<=i->i< (l.length:Int)->l[i.toNat]?=some y->Q (.cH [.c (.k (.int .i64 i)),.c (.k (.bool true))]) []
def alI:=acV.add adS
def YC (l:(List ((Ty.int .i64)).den)) (y:Int):dx:=λQ=>iB l (aD .i64 y->aJ (List.length l)->aM (λi ag=>br (decide (i.1.1< i.1.2.1)) (aD .i64 (i.1.1+i.1.2.1)/\(qU i.1.1 i.1.2.1 (qV i.1.1 i.1.2.1 (yB i.1.1 i.1.2.1 l (Ty.ok bo (aB bo l (kA 
 i.1.1 i.1.2.1))->br (decide (aB bo l (kA i.1.1 i.1.2.1)< y)) (sW i.1.1 i.1.2.1 ag i.1.2) (sJ ag i.1.1 i.1.2.1)))))) (br (decide (i.1.1< (aA l))) (0<=i.1.1/\i.1.1< (aA l)/\(Ty.ok bo (aB bo l i.1.1)->br (aB 
 bo l i.1.1==y) (Q (.cH [.c (.k (aC i.1.1)),.c (.k (.bool true))]) []) (0<=i.1.1/\i.1.1< (aA l)/\(Ty.ok bo (aB bo l i.1.1)->Q (.cH [.c (.k (aC i.1.1)),.c (.k (.bool false))]) [])))) (Q (.cH [.c (.k (aC i.1.1)),.c 
 (.k (.bool false))]) []))) ((ah,(aA l),()),()))
theorem amz:cu 82 ahh:=eQ<| jm λl=>nG λy=>gM λQ h=>by
 refine Wp.dC alI pD ⟨[(4,⟨[(7,.int .i64),(8,.int .i64)],[]⟩)],[]⟩ Tryz.f82 (YC l y) ?_;unfold YC sJ yB qU qV kA iB sW iZ aC ah aV aA aJ qd bo iO;obtain ⟨hs,hl,⟨⟨k,hk⟩⟩,h⟩:=h;obtain ⟨re,r8⟩:=aw.1 hk;have fD:∀ a:Int,0<=a->a< (l.length:Int)->((aB (.int .i64) l a:Int)< y↔a< (k:Int)):=λa a0 a1=>by
  rw [ff (e:=.int .i64) a0 a1,<-r8];have P:=cQ.1 hs;constructor
  .intro q;rcases Nat.lt_trichotomy a.toNat k with z| z| z
   .omega
   .simp only [z,Int.lt_irrefl] at q
   .exact absurd q (Int.lt_asymm (P k a.toNat re (by omega) z))
  .intro q;exact P a.toNat k (by omega) re (by omega)
 refine λ_ _ _=>aM.intro (λi=>0<=i.1.1/\i.1.1<=(k:Int)/\(k:Int)<=i.1.2.1/\i.1.2.1<=l.length) (λi=>(i.1.2.1 - i.1.1).toNat) ⟨bB _,by show (0:Int)<=k;omega,by show (k:Int)<=l.length;omega,bB _⟩ ?_;rintro ⟨⟨i,j,_⟩,_⟩ ⟨h0,h1,h2,h3⟩;simp only at h0 h1 h2 h3 ⊢;refine aq (λhq=>?_) (λhq=>?_)
 .have hq:=of_decide_eq_true hq;refine ⟨by unfold aD;omega,λ_=>⟨by decide,λ_ _=>?_⟩⟩;rw [PY (n:=i+j) (by omega) (by omega)];refine ⟨by omega,by omega,λ_=>aq (λhd=>?_) (λhd=>?_)⟩
  .have:=(fD ((i+j) / 2) (by omega) (by omega)).1 (of_decide_eq_true hd);exact ⟨by unfold aD;omega,⟨by omega,by omega,by omega,by omega⟩,by omega⟩
  .have:¬(i+j) / 2< (k:Int):=λq=>absurd ((fD _ (by omega) (by omega)).2 q) (of_decide_eq_false hd);exact ⟨⟨by omega,by omega,by omega,by omega⟩,by omega⟩
 .have hq:=of_decide_eq_false hq;obtain rfl:i=(k:Int):=by omega
  have e:aB (.int .i64) l (k:Int)=y:=by rw [gH (e:=.int .i64) re];exact r8
  refine aq (λ_=>⟨by omega,by omega,λ_=>?_⟩) (λq=>absurd (of_decide_eq_false q) (by omega));rw [e];exact aq (λ_=>h k (by omega) (by omega) (by rw [bM];exact hk)) (λq=>by simp at q)
def Uo:Ct:=cP<| cN noTy λx=>cO λH Q=>match H with
 | [.cells 120 [.p 1 0,.p 2 0,.p 3 0,.d (.pair (.sl .str) (.pair (.int .i64) (.pair (.int .i64) (.pair (.pair (.int .i64) (.pair (.int .i64) (.pair (.int .i64) .unit))) (.pair (.sl .u8) (.pair .str (.pair (.sl (.pair .str (.pair (.sl .u8) .unit))) (.pair .bool .unit)))))))) L,.d (.int .i64) ids,.m 4,.m 5,.m 6],.abs A1,.abs A2,.abs A3,.map 3 .int (.int .i64) Mr,.map 3 .int (.pair (.int .i64) (.pair (.int .i64) (.pair (.int .i64) (.pair (.int .i64) (.pair (.int .i64) (.pair (.int .i64) (.pair (.int .i64) (.pair (.int .i64) (.pair (.int .i64) (.pair (.int .i64) (.pair .str .unit))))))))))) F,.map 9 .str (.int .i64) Ms]=>dF x.2.2.2.2.2.2.1=true/\∃ T RX fX,WB A3 T RX fX/\px fX RX Ms/\RX.length<=1000000/\Ms.length<=100000/\∀ A3' AO AM zG xa,WB A3' T AO AM->(∃ c,AO=RX++c/\c.length<=4100)->(∃ c,AM=fX++c)->px AM AO zG->zG.length<=Ms.length+1->W8 AM AO xa x.2.2.2.2.2.2.1->Q (.int xa) [.cells 120 [.p 1 0,.p 2 0,.p 3 0,.d noTy L,.d (.int .i64) ids,.m 4,.m 5,.m 6],.abs A1,.abs A2,.abs A3',.map 3 .int (.int .i64) Mr,.map 3 .int eC F,.map 9 .str (.int .i64) zG]
 | _=>False
def alH:=(gJ.add wg).add XI
def LS:((noTy).den)->(List aZ)->(List Int)->(Value->Atom)->(Value->Atom)->(Value->Atom)->(List (Int×Int))->(List (Int×eC.den))->(List (ByteArray×Int))->dx:=
 λx L ids A1 A2 A3 Mr F Ms Q=>fC x.1 (cz x.2.1 x.2.2.1 x.2.2.2.1.1 (cg x.2.2.2.1.2.1 x.2.2.2.1.2.2.1 (aJ (bw x.2.2.2.2.1)->du x.2.2.2.2.2.1 (aJ (bw x.2.2.2.2.2.2.1)->dF x.2.2.2.2.2.2.1=true/\∀ (z:List 
 UInt8) (e:Int),aoo x.2.2.2.2.2.2.1 z e->db z (aD .i64 e->br (e !=0) (Q (.v (.c (.k aR))) [wM L ids,HO.abs A1,HO.abs A2,HO.abs A3,qf Mr,wL F,kB Ms]) (Ty.ok bo (cA (qN Ms z) ah)->br 
 (!oc (qN Ms z)) (∃ T R fs,WB A3 T R fs/\List.length R+List.length z<=10000000/\∀ (A':Value->Atom) (r:Nat) (fs':List (List UInt8)),WB A' T (R++z) (fs++fs')->(∀ (gs:List (List UInt8)),r=dX (fs++gs) 
 (bw R))->aD .i64 (↑r:Int)->List.length Ms< 9223372036854775807/\aD .i64 ((↑r:Int)+1)/\Q (.v (.c (.k (.int .i64 ((↑r:Int)+1))))) [wM L ids,HO.abs A1,HO.abs A2,HO.abs A',qf Mr,wL F,kB (Kk.put Kk.str Ms (gu 
 z) (↑r:Int))]) (aD .i64 (cA (qN Ms z) ah+1)/\Q (.v (.c (.k (.int .i64 (cA (qN Ms z) ah+1))))) [wM L ids,HO.abs A1,HO.abs A2,HO.abs A3,qf Mr,wL F,kB Ms])))))))
theorem aeb:cu 83 Uo:=eQ<| r5<| PT λx=>r6 λH Q h=>by
 split at h;rotate_left;cases h;rename_i L ids A1 A2 A3 Mr F Ms;refine Wp.dC alH pD ⟨[],[]⟩ Tryz.f83 (LS x L ids A1 A2 A3 Mr F Ms) ?_;unfold LS qN db du cg fC bw aR cz ah aJ wM wL qf kB bo;obtain ⟨hx,T,RX,fX,hW,hS,hl,hM,h⟩:=h;obtain ⟨hm8,hl8⟩:=ml hx;have OR:(xsB x.2.2.2.2.2.2.1).length<=4100:=by
  have h1:=uX (HP hm8);have h2:=oh x.2.2.2.2.2.2.1;unfold xsB;rw [af,aE];omega
 refine λ_ _ _ _ _ _ _ _ _=>⟨hx,λz e hz _ _=>?_⟩;rcases hz.or with ⟨h1,rfl,rfl⟩| ⟨h1,rfl,rfl⟩;exact aq (λ_=>h A3 RX fX Ms 0 hW ⟨[],by simp,by simp⟩ ⟨[],by simp⟩ hS (by omega) ⟨.inl ⟨h1,rfl⟩,by decide⟩) (λq=>by cases q);obtain ⟨z,hzz⟩:∃ z,xsB x.2.2.2.2.2.2.1=z:=⟨_,rfl⟩;rw [hzz] at OR ⊢;refine aq (λq=>by cases q) (λ_=>λ_=>aq (λhg=>?_) (λhg=>?_))
 .obtain ⟨x',y',rfl,hT,hm⟩:=hW;refine ⟨T,RX,fX,⟨x',y',rfl,hT,hm⟩,by omega,λA' r fs' hW' hr _=>?_⟩;have hrl:=sA hm;have Nx:=hr [];rw [bd] at Nx;have hH:=Has.new (b:=z) (fs':=fs') hr;have h0:0<=(r:Int)/\(r:Int)<=4294967294:=by omega
  exact ⟨by omega,by unfold aD;omega,h A' _ _ _ _ hW' ⟨_,rfl,OR⟩ ⟨_,rfl⟩ ((hS.le ⟨_,rfl⟩ ⟨_,rfl⟩).put h0 hH) (MT _ _ _) ⟨.inr ⟨h1,by omega,by rw [show (r:Int)+1 - 1=r by omega,hzz];exact hH⟩,by omega⟩⟩
 .obtain ⟨v,hv⟩:∃ v:Int,Kk.get .str Ms (gu z)=some v:=gV.1 (show (Kk.get .str Ms (gu z)).isSome=true by simpa using hg);rw [hv,show (some v).getD 0=v from rfl];obtain ⟨h0,hH⟩:=hS.get hv;have h1v:1<=v+1/\0<=v+1/\v+1<=4294967295:=by omega
  have h2v:v+1 - 1=v:=by omega
  exact ⟨by unfold aD;omega,h A3 RX fX Ms (v+1) hW ⟨[],by simp,by simp⟩ ⟨[],by simp⟩ hS (by omega) ⟨.inr ⟨h1,h1v.1,by rw [h2v,hzz];exact hH⟩,h1v.2⟩⟩
structure Ws (A1 A2 A3:Value->Atom) (T:List Int) (s:BS):Prop where
 i:WB A1 T s.RI s.fI
 l:WB A2 T s.RL s.fL
 x:WB A3 T s.RX s.fX
structure HL (L:List aZ) (ids:List Int) (F:List (Int×eC.den)) (s t:BS) (e:Nat) (p:List ByteArray) (d:Nat):Prop where
 ok:Ed L ids F t e
 le:BS.Le s t
 cov:∀ y∈L,pre p y->d<=y.1.length->∃ r,Kk.get .int t.Mr y.2.1=some r
 new:∀ i r,Kk.get .int t.Mr i=some r->Kk.get .int s.Mr i=some r\/∃ y∈L,y.2.1=i/\pre p y/\d<=y.1.length
def jL (n:Nat):Ct
 | [.v (.c (.p 0 0)),.v (.c (.k (.int .i64 k)))],[.cells 120 [.p 1 0,.p 2 0,.p 3 0,.d (.pair (.sl .str) (.pair (.int .i64) (.pair (.int .i64) (.pair (.pair (.int .i64) (.pair (.int .i64) (.pair (.int .i64) .unit))) (.pair (.sl .u8) (.pair .str (.pair (.sl (.pair .str (.pair (.sl .u8) .unit))) (.pair .bool .unit)))))))) L,.d (.int .i64) ids,.m 4,.m 5,.m 6],.abs A1,.abs A2,.abs A3,.map 3 .int (.int .i64) Mr,.map 3 .int (.pair (.int .i64) (.pair (.int .i64) (.pair (.int .i64) (.pair (.int .i64) (.pair (.int .i64) (.pair (.int .i64) (.pair (.int .i64) (.pair (.int .i64) (.pair (.int .i64) (.pair (.int .i64) (.pair .str .unit))))))))))) F,.map 9 .str (.int .i64) Ms],Q=>sa L ids F/\(0<=k/\k< (L.length:Int)/\17<=(aB noTy L k).1.length+n)/\∃ T s,Ws A1 A2 A3 T s/\Mr=s.Mr/\Ms=s.Ms/\s.Ms.length<=s.Mr.length/\Ed L ids F s 0/\∀ A1' A2' A3' t r,Ws A1' A2' A3' T t->t.Ms.length<=t.Mr.length->HL L ids F s t 0 (aB noTy L k).1 (aB noTy L k).1.length->Kk.get .int t.Mr (aB noTy L k).2.1=some r->Q (.c (.k (.int .i64 r))) [.cells 120 [.p 1 0,.p 2 0,.p 3 0,.d noTy L,.d (.int .i64) ids,.m 4,.m 5,.m 6],.abs A1',.abs A2',.abs A3',.map 3 .int (.int .i64) t.Mr,.map 3 .int eC F,.map 9 .str (.int .i64) t.Ms]
 | _,_,_=>False
def J2 (n:Nat):Ct
 | [.v (.c (.p 0 0)),.v (.agg cx)],[.cells 120 [.p 1 0,.p 2 0,.p 3 0,.d (.pair (.sl .str) (.pair (.int .i64) (.pair (.int .i64) (.pair (.pair (.int .i64) (.pair (.int .i64) (.pair (.int .i64) .unit))) (.pair (.sl .u8) (.pair .str (.pair (.sl (.pair .str (.pair (.sl .u8) .unit))) (.pair .bool .unit)))))))) L,.d (.int .i64) ids,.m 4,.m 5,.m 6],.abs A1,.abs A2,.abs A3,.map 3 .int (.int .i64) Mr,.map 3 .int (.pair (.int .i64) (.pair (.int .i64) (.pair (.int .i64) (.pair (.int .i64) (.pair (.int .i64) (.pair (.int .i64) (.pair (.int .i64) (.pair (.int .i64) (.pair (.int .i64) (.pair (.int .i64) (.pair .str .unit))))))))))) F,.map 9 .str (.int .i64) Ms],Q=>(match (noTy).of cx with
  | some (x,[])=>sa L ids F/\(x∈L/\x.2.2.1=1/\16<=x.1.length+n)/\∃ T s,Ws A1 A2 A3 T s/\Mr=s.Mr/\Ms=s.Ms/\s.Ms.length<=s.Mr.length/\Ed L ids F s 0/\∀ A1' A2' A3' t r es,Ws A1' A2' A3' T t->t.Ms.length<=t.Mr.length->HL L ids F s t 1 x.1 (x.1.length+1)->iW ⟨#[]⟩ es->aii L t.Mr x.1.length (bY x.1 L 0) es->Has t.fL t.RL r (gU es)->(0<=r/\r<=4294967295)->(gU es).length<=10440->Q (.cH [.c (.k (.int .i64 r)),.c (.k (.int .i64 (gU es).length))]) [.cells 120 [.p 1 0,.p 2 0,.p 3 0,.d noTy L,.d (.int .i64) ids,.m 4,.m 5,.m 6],.abs A1',.abs A2',.abs A3',.map 3 .int (.int .i64) t.Mr,.map 3 .int eC F,.map 9 .str (.int .i64) t.Ms]
  | _=>False)
 | _,_,_=>False
def acU (n:Nat):Vx:= {P:=bQ,ct:=[(51,(jL n)),(129,abc),(130,Ox),(54,A9)],ty:=pD,hold:=[130]}
theorem Xf (n:Nat) (hn:cu 51 (jL n)):gO Inv bQ (acU n).ct:=gO.cons hn (gO.cons aiH (gO.cons KU (gO.cons wg (gO.nil _ _))))
abbrev Cx (y0:List (Int×Int)) (y1) (y2:List (ByteArray×Int)) (y3) (y4:List aZ) (y5:List Int) (y6:List (Int×eC.den)) (y7) (R:Prop):=y0=y1/\y2=y3/\List.length y3<=List.length y1/\Ed y4 y5 y6 y7 bx/\R
def LR:Nat->((noTy).den)->(List aZ)->(List Int)->(Value->Atom)->(Value->Atom)->(Value->Atom)->(List (Int×Int))->(List (Int×eC.den))->(List (ByteArray×Int))->dx:=
 λn x L ids A1 A2 A3 Mr F Ms Q=>fC x.1 (cz x.2.1 x.2.2.1 x.2.2.2.1.1 (cg x.2.2.2.1.2.1 x.2.2.2.1.2.2.1 (aJ (bw x.2.2.2.2.1)->du x.2.2.2.2.2.1 (aJ (bw x.2.2.2.2.2.2.1)->(List.length L<=1100/\List.length x.1<= 
 1000/\List.Pairwise (λa b=>cmpL a.1 b.1< 0) L)/\(aJ (List.length (bY x.1 L ah))->aJ (List.length (bY x.1 L ah))->aM (λi ag=>br (decide (i.1.1< (aS (bY x.1 L ah)))) (0<=i.1.1/\i.1.1< (aS 
 (bY x.1 L ah))/\(Ty.ok bo (aB bo (bY x.1 L ah) i.1.1)->0<=aB bo (bY x.1 L ah) i.1.1/\aB bo (bY x.1 L ah) i.1.1< (aS i.2.1.2.2.2.1)/\(Ty.ok noTy (aB noTy i.2.1.2.2.2.1 (aB bo (bY x.1 L 
 ah) i.1.1))->aJ (bw x.1)->ah<=(aS x.1)/\(aS x.1)< (↑(List.length (aB noTy i.2.1.2.2.2.1 (aB bo (bY x.1 L ah) i.1.1)).1):Int)/\(Ty.ok Ty.str (aB Ty.str (aB noTy i.2.1.2.2.2.1 (aB bo (bY x.1 L ah) 
 i.1.1)).1 (aS x.1))->sa i.2.1.2.2.2.1 i.2.1.2.2.2.2.1 i.2.2.2.2.2.2.1/\(0<=aB bo (bY x.1 L ah) i.1.1/\aB bo (bY x.1 L ah) i.1.1< (aS i.2.1.2.2.2.1)/\17<=List.length (aB noTy i.2.1.2.2.2.1 (aB bo (bY 
 x.1 L ah) i.1.1)).1+n)/\∃ T s,Ws i.2.2.1 i.2.2.2.1 i.2.2.2.2.1 T s/\Cx i.2.2.2.2.2.1 s.Mr i.2.2.2.2.2.2.2.1 s.Ms i.2.1.2.2.2.1 i.2.1.2.2.2.2.1 i.2.2.2.2.2.2.1 s (∀ (A1' A2' A3':Value->Atom) (t:BS) (r:Int),Ws A1' A2' A3' 
 T t->List.length t.Ms<=List.length t.Mr->HL i.2.1.2.2.2.1 i.2.1.2.2.2.2.1 i.2.2.2.2.2.2.1 s t bx (aB noTy i.2.1.2.2.2.1 (aB bo (bY x.1 L ah) i.1.1)).1 (List.length (aB noTy i.2.1.2.2.2.1 (aB bo (bY x.1 L ah) 
 i.1.1)).1)->Kk.get Kk.int t.Mr (aB noTy i.2.1.2.2.2.1 (aB bo (bY x.1 L ah) i.1.1)).2.1=some r->aD .i64 r->(List.length i.1.2.1+List.length [(aB Ty.str (aB noTy i.2.1.2.2.2.1 (aB bo (bY x.1 L ah) i.1.1)).1 
 (aS x.1),(aB noTy i.2.1.2.2.2.1 (aB bo (bY x.1 L ah) i.1.1)).2.2.1,r,())])*32<=140737488355328/\List.length i.1.2.1+List.length [(aB Ty.str (aB noTy i.2.1.2.2.2.1 (aB bo (bY x.1 L ah) i.1.1)).1 (aS x.1), 
 (aB noTy i.2.1.2.2.2.1 (aB bo (bY x.1 L ah) i.1.1)).2.2.1,r,())]<=9223372036854775807/\cF i.1.1 (ag ((i.1.1+1,i.1.2.1++ [(aB Ty.str (aB noTy i.2.1.2.2.2.1 (aB bo (bY x.1 L ah) i.1.1)).1 (aS x.1),(aB 
 noTy i.2.1.2.2.2.1 (aB bo (bY x.1 L ah) i.1.1)).2.2.1,r,())],()),((),(),(),i.2.1.2.2.2.1,i.2.1.2.2.2.2.1,(),(),(),()),A1',A2',A3',t.Mr,i.2.2.2.2.2.2.1,t.Ms,()))))))) ((iW ⟨#[]⟩ i.1.2.1/\List.length i.1.2.1 
 <=1024)/\(aJ (List.length (gU i.1.2.1))->aD .i64 0->∃ T R fs,WB i.2.2.2.1 T R fs/\List.length R+List.length (gU i.1.2.1)<=10000000/\∀ (A':Value->Atom) (r:Nat) (fs':List (List UInt8)),WB A' T (R++gU i.1.2.1) (fs 
 ++fs')->(∀ (gs:List (List UInt8)),r=dX (fs++gs) (bw R))->aD .i64 (↑r:Int)->aJ (List.length (gU i.1.2.1))->Q (.cH [.c (.k (.int .i64 (↑r:Int))),.c (.k (.int .i64 (aS (gU i.1.2.1))))]) [wM i.2.1.2.2.2.1 
 i.2.1.2.2.2.2.1,HO.abs i.2.2.1,HO.abs A',HO.abs i.2.2.2.2.1,qf i.2.2.2.2.2.1,wL i.2.2.2.2.2.2.1,kB i.2.2.2.2.2.2.2.1]))) ((ah,[],()),((),(),(),L,ids,(),(),(),()),A1,A2,A3,Mr,F,Ms,()))))))
theorem U8 (n:Nat) (hn:cu 51 (jL n)):cu 80 (J2 n):=by
 intro args H Q h;unfold J2 at h;split at h;rotate_left;cases h;rename_i cx L ids A1 A2 A3 Mr F Ms;split at h;rotate_left;cases h;rename_i x hx;refine Wp.said (args':=[.v (.c (.p 0 0)),.v (.agg (Ty.cells noTy x))]) (λE g=>bm.cr (λ_ h=>h) (bm.cr (Jd hx) (λ_ h=>h))) ?_;clear hx;refine Wp.JL (X:=(acU n)) (Xf n hn) ⟨[(4,⟨[(20,.int .i64),(6,.own 44 cw)],[(0,.cells 120 [.p 1 0,.p 2 0,.p 3 0,.d noTy,.d (.int .i64),.m 4,.m 5,.m 6]),(1,.abs),(2,.abs),(3,.abs),(4,.map 3 .int (.int .i64)),(5,.map 3 .int eC),(6,.map 9 .str (.int .i64))]⟩)],[]⟩ (fn:=Tryz.f80) (V:=LR n x L ids A1 A2 A3 Mr F Ms) (by kernel_rfl) (λ_=>by kernel_rfl) ?_;unfold LR Cx du cg cF fC bw cz ah aS aJ bx wM wL qf kB bo;obtain ⟨hT,⟨hx,hxk,hn⟩,T,s,hW,rfl,rfl,hM,hB,h⟩:=h;have hl:=hT.len;have hd:=hT.deep x hx;refine λ_ _ _ _ _ _ _ _ _=>⟨⟨by omega,by omega,hT.ord⟩,λ_ _=>?_⟩;have hKl:=kF x.1 (L:=L) (k:=0);have hKm:∀ k∈bY x.1 L 0,0<=k/\k< (L.length:Int)/\(aB noTy L k).1.length=x.1.length+1/\pre x.1 (aB noTy L k):=λk q=>eJ q;have hKo:=nV x.1 (L:=L) (k:=0);have hKe:∀ {t:BS} {es:List cw.den},Ed L ids F t 0->fY L t.Mr x.1.length (bY x.1 L 0) es->iW ⟨#[]⟩ es:=λq1 q2=>G7 hT (λi r q=>(q1.refs i r q).1) q2 (λk q=>q) hKo λk q=>by
  obtain ⟨k0,k1,k2,k3⟩:=hKm k q;refine aes (hT.nm _ (tk (e:=noTy) k0 k1) _ (Eq.mpr (congrArg (λl:List ByteArray=>(aB noTy L k).1.getD x.1.length ⟨#[]⟩∈l) (nM k2 k3)) ?_));exact List.mem_append_right _ aK
 have hKb:∀ y∈L,pre x.1 y->x.1.length+1<=y.1.length->∃ k∈bY x.1 L 0,pre (aB noTy L k).1 y:=λy q1 q2 q3=>uw hT (y.1.length - (x.1.length+1)) q1 q2 (by omega);generalize bY x.1 L 0=K at*;refine aM.intro (λi=>∃ (j:Nat) (t:BS) (B1 B2 B3:Value->Atom),j<=K.length/\i.1.1=(j:Int)/\fY L t.Mr x.1.length (K.take j) i.1.2.1/\i.2=(((),(),(),L,ids,(),(),(),()),B1,B2,B3,t.Mr,F,t.Ms,())/\Ws B1 B2 B3 T t/\t.Ms.length<=t.Mr.length/\Ed L ids F t 0/\BS.Le s t/\(∀ k∈K.take j,∀ y∈L,pre (aB noTy L k).1 y->∃ r,Kk.get .int t.Mr y.2.1=some r)/\∀ i r,Kk.get .int t.Mr i=some r->Kk.get .int s.Mr i=some r\/∃ y∈L,y.2.1=i/\pre x.1 y/\x.1.length+1<=y.1.length) (λi=>K.length - i.1.1.toNat) ⟨0,s,A1,A2,A3,cY _,rfl,trivial,rfl,hW,hM,hB,.refl s,by simp,λi r q=>.inl q⟩ ?_;rintro ⟨⟨i,es,_⟩,o⟩ ⟨j,t,B1,B2,B3,hj,h1,h2,h3,h4,h5,h6,h7,h8,h9⟩;simp only at h1 h2 h3 ⊢;subst h1 h3;dsimp only;have Qn:=h2.len;rw [aH,pB hj] at Qn;refine aq (λhc=>?_) (λhc=>?_)
 .have vP:(j:Int)< K.length:=of_decide_eq_true hc;have pt:j< K.length:=by omega
  have ht:K.take (j+1)=K.take j++ [K[j]]:=bG pt;have ek:aB (.int .i64) K (j:Int)=K[j]:=gH (e:=.int .i64) pt;have hkm:=hKm _ (dA pt);rw [ek];generalize K[j]=k at*;obtain ⟨k0,k1,kl,kp⟩:=hkm;refine ⟨by omega,vP,λ_=>⟨k0,k1,λ_ _=>⟨by omega,by omega,λ_=>⟨hT,⟨k0,k1,by omega⟩,T,t,h4,rfl,rfl,h5,h6,λC1 C2 C3 u r hW' hM' hP hr _=>⟨by simp only [ay];omega,by simp only [ay];omega,by unfold aD;omega,⟨j+1,u,C1,C2,C3,pt,by omega,?_,rfl,hW',hM',hP.ok,h7.trans hP.le,?_,?_⟩,by omega⟩⟩⟩⟩⟩
  .rw [ht];refine fY.snoc (h2.le hP.le.Mr) ⟨?_,rfl,hr,trivial⟩;show aB .str _ _=_;unfold aB;rw [bM];rfl
  .rw [ht];intro k' AK y hy hpy;rcases aX.1 AK with q| q
   .obtain ⟨r',q'⟩:=h8 k' q y hy hpy;exact ⟨r',hP.le.Mr _ _ q'⟩
   .obtain rfl:=aW.1 q;exact hP.cov y hy hpy (wN hpy)
  .intro i' r' q;rcases hP.new i' r' q with q| ⟨y,q1,q2,q3,q4⟩
   .exact h9 i' r' q
   .exact .inr ⟨y,q1,q2,yP (by omega) kp q3,by omega⟩
 .have hc:=of_decide_eq_false hc;obtain rfl:j=K.length:=by omega
  rw [eK] at h2 h8;have aj7:=hKe h6 h2;have hen:=xl aj7;have hBl:=h6.len;have hlL:=h6.lL;refine ⟨⟨aj7,by omega⟩,λ_ _=>⟨T,t.RL,t.fL,h4.l,by omega,λA' r fs' hW' hr _ _=>?_⟩⟩;obtain ⟨x',y',e',hT',hm⟩:=h4.l;have hrl:=sA hm;have Nx:=hr [];rw [bd] at Nx;have hle:=BS.Tj t (gU es) fs';exact h B1 A' B3 {t with RL:=t.RL++gU es,fL:=t.fL++fs'} r es ⟨h4.i,hW',h4.x⟩ h5 ⟨h6.list _ _ (by omega),h7.trans hle,λy q1 q2 q3=>(hKb y q1 q2 q3).elim λk q=>h8 k q.1 y q1 q.2,h9⟩ aj7 ⟨h2⟩ (Has.new hr) ⟨by omega,by omega⟩ (by omega)
def acT (n:Nat):Vx:= {P:=bQ,ct:=[(80,(J2 n)),(51,(jL n)),(82,ahh),(83,Uo),(81,T9),(84,JZ),(54,A9)],ty:=pD,hold:=[]}
theorem Xe (n:Nat) (hn:cu 51 (jL n)):gO Inv bQ (acT n).ct:=gO.cons (U8 n hn) (gO.cons hn (gO.cons amz (gO.cons aeb (gO.cons adY (gO.cons wi (gO.cons wg (gO.nil _ _)))))))
abbrev CQ (y0:List (Int×eC.den)) (y1:List aZ) (y2:Int):=cA (Kk.get Kk.int y0 (aB noTy y1 y2).2.1) (ah,ah,ah,ah,ah,ah,ah,ah,ah,ah,ByteArray.mk #[],())
abbrev Io (y0:List aZ) (y1:Int) (y2:Int) (y3:Int) (y4:Int) (y5:List (Int×eC.den)):=((aB noTy y0 y1).2.2.1,(aB noTy y0 y1).2.2.2.1.1,y2,y3,(↑(oM y0 (aB noTy y0 y1).2.1):Int),y4,(CQ y5 y0 y1).2.2.2.2.2.2.1,(CQ y5 y0 y1).2.2.2.2.2.2.2.1,(CQ y5 y0 y1).2.2.2.2.2.2.2.2.1,(CQ y5 y0 y1).2.2.2.2.2.2.2.2.2.1,(aB noTy y0 y1).2.2.2.2.2.1,())
abbrev wK {A5:Type} (y0:List aZ) (y1:Int) (y2:Int) (y3:Int) (y4:Int) (y5:A5) (y6:List (Ty.den cw)) (y7:List (Int×eC.den)):=((aB noTy y0 y1).2.2.1,(aB noTy y0 y1).2.2.2.1.1,y2,y3,(↑(oM y0 (aB noTy y0 y1).2.1):Int),y4,y5,(aS (gU y6)),(CQ y7 y0 y1).2.2.2.2.2.2.2.2.1,(CQ y7 y0 y1).2.2.2.2.2.2.2.2.2.1,(aB noTy y0 y1).2.2.2.2.2.1,())
abbrev MQ (y0:Int) (y1:List Int) (y2:List aZ) (y3:Int) (R:Prop):=0<=y0->y0< (aA y1)->y1[ax y0]?=some (aB noTy y2 y3).2.2.2.1.2.1->aD .i64 y0->List.Pairwise (λa b=>a< b) y1/\List.length y1<=100000/\alP y1 (aB noTy y2 y3).2.2.2.1.2.2.1/\R
abbrev MO (y0:List aZ) (y1:Int) (y2:List Int) (R:Prop):=aD .i64 (↑(oM y0 (aB noTy y0 y1).2.1):Int)->List.Pairwise (λa b=>a< b) y2/\List.length y2<=100000/\alP y2 (aB noTy y0 y1).2.2.2.1.2.1/\R
abbrev MN (y0:Int) (y1:List Int) (y2:List aZ) (y3:Int) (R:Prop):=0<=y0->y0< (aA y1)->y1[ax y0]?=some (aB noTy y2 y3).2.2.2.1.2.2.1->aD .i64 y0->dF (aB noTy y2 y3).2.2.2.2.2.2.1=true/\R
abbrev ML (y0:Value->Atom) (y1) (y2:List UInt8) (y3:List (List UInt8)) (y4) (y5) (y6:List (ByteArray×Int)) (y7:List (ByteArray×Int)) (R:Prop):=WB y0 y1 y2 y3->(∃ c,y2=y4++c/\List.length c<=4100)->(∃ c,y3=y5++c)->px y3 y2 y6->List.length y6<=List.length y7+1->R
abbrev PF (y0:List aZ) (y1) (y2:Int) (y3:List (Ty.den cw)) (y4) (y5) (y6) (R:Prop):=aii y0 y1 (List.length (aB noTy y0 y2).1) (bY (aB noTy y0 y2).1 y0 ah) y3->Has y4 y5 y6 (gU y3)->0<=y6/\y6<=4294967295->List.length (gU y3)<=10440->aD .i64 y6->aD .i64 (aS (gU y3))->(0<=y2/\y2< (aA y0))/\List.length y0<=1100/\R
abbrev CL (y0:Value->Atom) (y1) (y2) (y3) (y4:List (ByteArray×Int)) (R:Prop):=WB y0 y1 y2 y3/\px y3 y2 y4/\List.length y2<=1000000/\List.length y4<=100000/\R
abbrev CG (y0:Nat):SV:=.v (.c (.k (.int .i64 (↑y0:Int))))
abbrev Pw (y0:List aZ) (y1:Int) (y2:Nat):=List.Mem (gS y0 y1) y0/\(gS y0 y1).2.2.1=(1:Ty.den bo)/\16<=List.length (gS y0 y1).1+y2
abbrev CF (y0:List (Int×Int)) (y1:List aZ) (y2:Int) (y3:Nat):=Kk.put Kk.int y0 (gS y1 y2).2.1 (↑y3:Int)
abbrev CD (y0:List (List UInt8)) (y1:List UInt8) (y2:Int) (y3:List aZ) (y4:Int) (R:Prop):=W8 y0 y1 y2 (gS y3 y4).2.2.2.2.2.2.1->aD .i64 y2->R
def FX (n:Nat) (k:Int) (L:List aZ) (ids:List Int) (A1 A2 A3:Value->Atom) (Mr:(List (Int×Int))) (F:(List (Int×eC.den))) (Ms:(List (ByteArray×Int))):dx:=λQ=>aD .i64 k->0<=k/\k< (aA L)/\(Ty.ok noTy (gS L k)->Ty.ok bo (cA (Kk.get Kk.int Mr (gS L k).2.1) ah)->br (oc (Kk.get Kk.int Mr (gS L k).2.1)) (Q (.v (.c (.k 
 (.int .i64 (cA (Kk.get Kk.int Mr (gS L k).2.1) ah))))) [wM L ids,HO.abs A1,HO.abs A2,HO.abs A3,qf Mr,wL F,kB Ms]) ((Ty.ok eC (CQ F L k)->br ((gS L k).2.2.1==1) (sa L ids F/\(Pw L k n)/\∃ T s, 
 Ws A1 A2 A3 T s/\Cx Mr s.Mr Ms s.Ms L ids F s (∀ (A1' A2' A3':Value->Atom) (t:BS) (r:Int) (es:List (Ty.den cw)),Ws A1' A2' A3' T t->List.length t.Ms<=List.length t.Mr->HL L ids F s t bH (gS L k).1 (List.length 
 (gS L k).1+1)->iW ⟨#[]⟩ es->PF L t.Mr k es t.fL t.RL r (MO L k ids (∀ (i:Int),MQ i ids L k (∀ (bE:Int),MN bE ids L k (∃ T RX fX,CL A3' T RX fX t.Ms (∀ (A3':Value->Atom) (AO:List UInt8) (AM:List 
 (List UInt8)) (zG:List (ByteArray×Int)) (xa:Int),ML A3' T AO AM RX fX zG t.Ms (CD AM AO xa L k (o8 (wK L k i bE xa r es F)/\(List.length (fR (wK L k i bE xa r es F))<=9223372036854775807->aD .i64 0->∃ T 
 R fs,WB A1' T R fs/\List.length R+List.length (fR (wK L k i bE xa r es F))<=10000000/\∀ (A':Value->Atom) (r_1:Nat) (fs':List (List UInt8)),WB A' T (R++fR (wK L k i bE xa r es F)) (fs++fs')->(∀ (gs:List 
 (List UInt8)),r_1=dX (fs++gs) (bw R))->aD .i64 (↑r_1:Int)->lY t.Mr (Q (CG r_1) [wM L ids,HO.abs A',HO.abs A2',HO.abs A3',qf (CF t.Mr L k r_1),wL F,kB zG]))))))))))) ((0<=k/\k< (aA L))/\ 
 List.length L<=1100/\(MO L k ids (∀ (i:Int),MQ i ids L k (∀ (bE:Int),MN bE ids L k (∃ T RX fX,CL A3 T RX fX Ms (∀ (A3':Value->Atom) (AO:List UInt8) (AM:List (List UInt8)) (zG:List (ByteArray×Int)) (xa: 
 Int),ML A3' T AO AM RX fX zG Ms (CD AM AO xa L k (o8 (Io L k i bE xa F)/\(List.length (fR (Io L k i bE xa F))<=9223372036854775807->aD .i64 0->∃ T R fs,WB A1 T R fs/\List.length R+List.length (fR (Io L 
 k i bE xa F))<=10000000/\∀ (A':Value->Atom) (r:Nat) (fs':List (List UInt8)),WB A' T (R++fR (Io L k i bE xa F)) (fs++fs')->(∀ (gs:List (List UInt8)),r=dX (fs++gs) (bw R))->aD .i64 (↑r:Int)->List.length 
 Mr< 9223372036854775807/\Q (CG r) [wM L ids,HO.abs A',HO.abs A2,HO.abs A3',qf (CF Mr L k r),wL F,kB zG]))))))))))/\(Ty.ok eC (CQ F L k)->br ((gS L k).2.2.1==1) (sa L ids F/\(Pw L k n)/\∃ T s,Ws 
 A1 A2 A3 T s/\Cx Mr s.Mr Ms s.Ms L ids F s (∀ (A1' A2' A3':Value->Atom) (t:BS) (r:Int) (es:List (Ty.den cw)),Ws A1' A2' A3' T t->List.length t.Ms<=List.length t.Mr->HL L ids F s t bH (gS L k).1 (List.length 
 (gS L k).1+1)->iW ⟨#[]⟩ es->PF L t.Mr k es t.fL t.RL r (MO L k ids (∀ (i:Int),MQ i ids L k (∀ (bE:Int),MN bE ids L k (∃ T RX fX,CL A3' T RX fX t.Ms (∀ (A3':Value->Atom) (AO:List UInt8) (AM:List 
 (List UInt8)) (zG:List (ByteArray×Int)) (xa:Int),ML A3' T AO AM RX fX zG t.Ms (CD AM AO xa L k (o8 (wK L k i bE xa r es F)/\(List.length (fR (wK L k i bE xa r es F))<=9223372036854775807->aD .i64 0->∃ T 
 R fs,WB A1' T R fs/\List.length R+List.length (fR (wK L k i bE xa r es F))<=10000000/\∀ (A':Value->Atom) (r_1:Nat) (fs':List (List UInt8)),WB A' T (R++fR (wK L k i bE xa r es F)) (fs++fs')->(∀ (gs:List 
 (List UInt8)),r_1=dX (fs++gs) (bw R))->aD .i64 (↑r_1:Int)->lY t.Mr (Q (CG r_1) [wM L ids,HO.abs A',HO.abs A2',HO.abs A3',qf (CF t.Mr L k r_1),wL F,kB zG]))))))))))) ((0<=k/\k< (aA L))/\ 
 List.length L<=1100/\(MO L k ids (∀ (i:Int),MQ i ids L k (∀ (bE:Int),MN bE ids L k (∃ T RX fX,CL A3 T RX fX Ms (∀ (A3':Value->Atom) (AO:List UInt8) (AM:List (List UInt8)) (zG:List (ByteArray×Int)) (xa: 
 Int),ML A3' T AO AM RX fX zG Ms (CD AM AO xa L k (o8 (Io L k i bE xa F)/\(List.length (fR (Io L k i bE xa F))<=9223372036854775807->aD .i64 0->∃ T R fs,WB A1 T R fs/\List.length R+List.length (fR (Io L 
 k i bE xa F))<=10000000/\∀ (A':Value->Atom) (r:Nat) (fs':List (List UInt8)),WB A' T (R++fR (Io L k i bE xa F)) (fs++fs')->(∀ (gs:List (List UInt8)),r=dX (fs++gs) (bw R))->aD .i64 (↑r:Int)->List.length 
 Mr< 9223372036854775807/\Q (CG r) [wM L ids,HO.abs A',HO.abs A2,HO.abs A3',qf (CF Mr L k r),wL F,kB zG]))))))))))))
theorem O2 (n:Nat) (hn:cu 51 (jL n)):∀ args H Q,jL (n+1) args H Q->Wp Inv bQ 51 args H Q:=by
 intro args H Q h;unfold jL at h;split at h;rotate_left;cases h;rename_i k L ids A1 A2 A3 Mr F Ms;refine Wp.JL (X:=(acT n)) (Xe n hn) ⟨[],[]⟩ (fn:=Tryz.f51) (V:=FX n k L ids A1 A2 A3 Mr F Ms) (by kernel_rfl) (λ_=>by kernel_rfl) ?_;unfold FX Cx CD CF Pw CG gS lY CL PF ML MN MO MQ bw wK Io CQ ah aS aA bx bH wM wL qf kB bo;obtain ⟨hT,⟨k0,k1,kn⟩,T,s,hW,rfl,rfl,hM,hB,h⟩:=h;have hl:=hT.len;have hx:aB noTy L k∈L:=tk (e:=noTy) k0 k1;have hm:=vG (hT.may _ hx);have hil:=hT.idl;have hBl:=hB.len;have hBI:=hB.lI;have hBX:=hB.lX;refine λ_=>⟨k0,k1,λ_ _=>aq (λhg=>?_) (λhg=>both λ_=>aq (λhk=>?_) (λhk=>?_))⟩
 .obtain ⟨v,hv⟩:∃ v:Int,Kk.get .int s.Mr (aB noTy L k).2.1=some v:=gV.1 hg;rw [hv,show (some v).getD 0=v from rfl];exact h A1 A2 A3 s v hW hM ⟨hB,.refl s,λy q1 q2 q3=>hB.cov hT (y.1.length - (aB noTy L k).1.length) hx ⟨_,hv⟩ q1 q2 (by omega),λi r q=>.inl q⟩ hv
 .have We:Kk.get .int s.Mr (aB noTy L k).2.1=none:=by simpa using hg
  have re:(aB noTy L k).2.2.1=1:=eq_of_beq hk;have hnf:=hT.nofile _ hx (by rw [re];decide);refine ⟨hT,⟨hx,re,by omega⟩,T,s,hW,rfl,rfl,hM,hB,λA1' A2' A3' t r es hW' hM' hP hE hEm hHs anc hEl _ _=>?_⟩;have hBl:=hP.ok.len;have hBI:=hP.ok.lI;have hBX:=hP.ok.lX;have kZ:Kk.get .int t.Mr (aB noTy L k).2.1=none:=by
   rw [Option.eq_none_iff_forall_not_mem];intro v hv;rcases hP.new _ _ hv with q| ⟨y,q1,q2,q3,q4⟩;rw [We] at q;cases q
   .have:=(hT.one _ hx y q1 q2.symm).1 re;rw [<-this] at q4;omega
  obtain ⟨⟨iu',hu'⟩,⟨ig',hg'⟩⟩:=hT.uid _ hx;refine ⟨⟨k0,k1⟩,by omega,λ_=>⟨hT.Xk,by omega,⟨⟨_,hu'⟩⟩,λiu iu0 _ iu2 _=>⟨hT.Xk,by omega,⟨⟨_,hg'⟩⟩,λig ig0 _ ig2 _=>⟨hm.xa,T,t.RX,t.fX,hW'.x,hP.ok.aeq,by omega,by omega,λA3' AO AM zG xa hX1 hX2 hX3 hX4 hX5 hX6 _=>?_⟩⟩⟩⟩;have hN:=ZG hT hx re (s:= {t with RX:=AO,fX:=AM,Ms:=zG}) iu0 iu2 ig0 ig2 hX6 hE hEm.ok hHs anc hEl;rw [hnf];dsimp only [cA];have hrl:=Il hN.ok;refine ⟨hN.ok,λ_ _=>⟨T,t.RI,t.fI,hW'.i,by omega,λA' r1 fs' hW2 v7 _=>⟨by omega,?_⟩⟩⟩;obtain ⟨x1,x2,_,_,hmw⟩:=hW'.i;have hq:=sA hmw;have Nx:=v7 [];rw [bd] at Nx;obtain ⟨hBu,hLu⟩:=hP.ok.put (by omega) k0 k1 kZ hX2 hX3 hX4 (fs:=fs') v7 (by omega) (λo=>Cp hmw) hN;have Dh:(Kk.put .int t.Mr (aB noTy L k).2.1 (r1:Int):List (Int×Int)).length=t.Mr.length+1:=kD kZ;have Ak:Kk.get .int (Kk.put .int t.Mr (aB noTy L k).2.1 (r1:Int):List (Int×Int)) (aB noTy L k).2.1=some (r1:Int):=eR (k:=.int);exact h A' A2' A3' (t.put (aB noTy L k).2.1 r1 _ fs' AO AM zG) r1 ⟨hW2,hW'.l,hX1⟩ (by show zG.length<=(Kk.put .int t.Mr (aB noTy L k).2.1 (r1:Int):List (Int×Int)).length;rw [Dh];omega) ⟨hBu,hP.le.trans hLu,λy q1 q2 q3=>hBu.cov hT (y.1.length - (aB noTy L k).1.length) hx ⟨_,Ak⟩ q1 q2 (by omega),λi r q=>by
   by_cases hi:i=(aB noTy L k).2.1;exact .inr ⟨_,hx,hi.symm,tc _,aG _⟩
   .have q:Kk.get .int (Kk.put .int t.Mr (aB noTy L k).2.1 (r1:Int):List (Int×Int)) i=some r:=q;rw [iw (k:=.int) hi] at q;exact (hP.new i r q).imp_right λ⟨y,q1,q2,q3,q4⟩=>⟨y,q1,q2,q3,by omega⟩⟩ Ak
 .have We:Kk.get .int s.Mr (aB noTy L k).2.1=none:=by simpa using hg
  rcases hm.or with ⟨q,_⟩| ⟨r8,_⟩| ⟨hk3,_⟩;rw [q] at hk;cases hk
  .obtain ⟨st,fr,off,hF1,hF2⟩:=hT.file _ hx r8;obtain ⟨⟨iu',hu'⟩,⟨ig',hg'⟩⟩:=hT.uid _ hx;refine ⟨⟨k0,k1⟩,by omega,λ_=>⟨hT.Xk,by omega,⟨⟨_,hu'⟩⟩,λiu iu0 _ iu2 _=>⟨hT.Xk,by omega,⟨⟨_,hg'⟩⟩,λig ig0 _ ig2 _=>⟨hm.xa,T,s.RX,s.fX,hW.x,hB.aeq,by omega,by omega,λA3' AO AM zG xa hX1 hX2 hX3 hX4 hX5 hX6 _=>?_⟩⟩⟩⟩;have hN:=VR hT hx r8 (s:= {s with RX:=AO,fX:=AM,Ms:=zG}) iu0 iu2 ig0 ig2 hX6 hF1 hF2;rw [hF1];dsimp only [cA];have hrl:=Il hN.ok;refine ⟨hN.ok,λ_ _=>⟨T,s.RI,s.fI,hW.i,by omega,λA' r1 fs' hW2 v7 _=>⟨by omega,?_⟩⟩⟩;obtain ⟨x1,x2,_,_,hmw⟩:=hW.i;have hq:=sA hmw;have Nx:=v7 [];rw [bd] at Nx;obtain ⟨hBu,hLu⟩:=hB.put (by omega) k0 k1 We hX2 hX3 hX4 (fs:=fs') v7 (by omega) (λo=>Cp hmw) hN;have Dh:(Kk.put .int s.Mr (aB noTy L k).2.1 (r1:Int):List (Int×Int)).length=s.Mr.length+1:=kD We;have Ak:Kk.get .int (Kk.put .int s.Mr (aB noTy L k).2.1 (r1:Int):List (Int×Int)) (aB noTy L k).2.1=some (r1:Int):=eR (k:=.int);exact h A' A2 A3' (s.put (aB noTy L k).2.1 r1 _ fs' AO AM zG) r1 ⟨hW2,hW.l,hX1⟩ (by show zG.length<=(Kk.put .int s.Mr (aB noTy L k).2.1 (r1:Int):List (Int×Int)).length;rw [Dh];omega) ⟨hBu,hLu,λy q1 q2 q3=>hBu.cov hT (y.1.length - (aB noTy L k).1.length) hx ⟨_,Ak⟩ q1 q2 (by omega),λi r q=>by
    by_cases hi:i=(aB noTy L k).2.1;exact .inr ⟨_,hx,hi.symm,tc _,aG _⟩
    .have q:Kk.get .int (Kk.put .int s.Mr (aB noTy L k).2.1 (r1:Int):List (Int×Int)) i=some r:=q;rw [iw (k:=.int) hi] at q;exact .inl q⟩ Ak
  .have hnf:=hT.nofile _ hx (by rw [hk3];decide);obtain ⟨⟨iu',hu'⟩,⟨ig',hg'⟩⟩:=hT.uid _ hx;refine ⟨⟨k0,k1⟩,by omega,λ_=>⟨hT.Xk,by omega,⟨⟨_,hu'⟩⟩,λiu iu0 _ iu2 _=>⟨hT.Xk,by omega,⟨⟨_,hg'⟩⟩,λig ig0 _ ig2 _=>⟨hm.xa,T,s.RX,s.fX,hW.x,hB.aeq,by omega,by omega,λA3' AO AM zG xa hX1 hX2 hX3 hX4 hX5 hX6 _=>?_⟩⟩⟩⟩;have hN:=VQ hT hx hk3 (s:= {s with RX:=AO,fX:=AM,Ms:=zG}) iu0 iu2 ig0 ig2 hX6;rw [hnf];dsimp only [cA];have hrl:=Il hN.ok;refine ⟨hN.ok,λ_ _=>⟨T,s.RI,s.fI,hW.i,by omega,λA' r1 fs' hW2 v7 _=>⟨by omega,?_⟩⟩⟩;obtain ⟨x1,x2,_,_,hmw⟩:=hW.i;have hq:=sA hmw;have Nx:=v7 [];rw [bd] at Nx;obtain ⟨hBu,hLu⟩:=hB.put (by omega) k0 k1 We hX2 hX3 hX4 (fs:=fs') v7 (by omega) (λo=>Cp hmw) hN;have Dh:(Kk.put .int s.Mr (aB noTy L k).2.1 (r1:Int):List (Int×Int)).length=s.Mr.length+1:=kD We;have Ak:Kk.get .int (Kk.put .int s.Mr (aB noTy L k).2.1 (r1:Int):List (Int×Int)) (aB noTy L k).2.1=some (r1:Int):=eR (k:=.int);exact h A' A2 A3' (s.put (aB noTy L k).2.1 r1 _ fs' AO AM zG) r1 ⟨hW2,hW.l,hX1⟩ (by show zG.length<=(Kk.put .int s.Mr (aB noTy L k).2.1 (r1:Int):List (Int×Int)).length;rw [Dh];omega) ⟨hBu,hLu,λy q1 q2 q3=>hBu.cov hT (y.1.length - (aB noTy L k).1.length) hx ⟨_,Ak⟩ q1 q2 (by omega),λi r q=>by
    by_cases hi:i=(aB noTy L k).2.1;exact .inr ⟨_,hx,hi.symm,tc _,aG _⟩
    .have q:Kk.get .int (Kk.put .int s.Mr (aB noTy L k).2.1 (r1:Int):List (Int×Int)) i=some r:=q;rw [iw (k:=.int) hi] at q;exact .inl q⟩ Ak
theorem KW:∀ (n:Nat) args H Q,jL n args H Q->Wp Inv bQ 51 args H Q
 | 0=>by
  intro args H Q h;unfold jL at h;split at h
  .obtain ⟨hT,⟨k0,k1,k2⟩,_⟩:=h;have:=hT.deep _ (tk (e:=noTy) k0 k1);omega
  grind
 | n+1=>O2 n (KW n)
def WU:Ct:=jL 17
theorem U7:cu 51 WU:=KW 17
end Go.Proofs

namespace Go.Lm
open Go
abbrev ag7 (st sz fr off:Int):eC.den:=(0,0,0,0,0,0,st,sz,fr,off,⟨#[]⟩,())
structure agk (T:List Int) (fi:Int) (b row:List UInt8) (bg:List Int) (F:List (Int×eC.den)) (x:aZ):Prop where
 ex:∃ st fr off,Kk.get .int F x.2.1=some (ag7 st x.2.2.2.2.1.length fr off)/\zD T fi b st x.2.2.2.2.1/\o5 row bg fr off (x.2.2.2.2.1.drop (128*(x.2.2.2.2.1.length / 128)))
structure sb (R:List aZ) (T:List Int) (fi:Int) (b row:List UInt8) (bg:List Int) (F:List (Int×eC.den)):Prop where
 file:∀ x∈R,x.2.2.1=2->agk T fi b row bg F x
 no:∀ i r,Kk.get .int F i=some r->∃ x∈R,x.2.1=i/\x.2.2.1=2
 len:F.length<=R.length
variable {R:List aZ} {T:List Int} {fi:Int} {b row:List UInt8} {bg:List Int} {F:List (Int×eC.den)}
theorem sb.nil:sb [] T fi b row bg []:=⟨by grind,λi r h=>(by cases h),aG _⟩
theorem agk.app {x:aZ} (h:agk T fi b row bg F x) (c:List UInt8):agk T fi (b++c) row bg F x:=by
 obtain ⟨st,fr,off,h1,h2,h3⟩:=h;exact ⟨st,fr,off,h1,h2.app c,h3⟩
theorem sb.app (h:sb R T fi b row bg F) (c:List UInt8):sb R T fi (b++c) row bg F:=⟨λx hx hk=>(h.file x hx hk).app c,h.no,h.len⟩
theorem sb.skip (h:sb R T fi b row bg F) {x:aZ} (qp:∀ y∈R,y.2.1=x.2.1->y.2.2=x.2.2) (hx:x.2.2.1≠2\/Kk.get .int F x.2.1≠none):sb (R++ [x]) T fi b row bg F:=by
 refine ⟨λy hy hk=>?_,λi r q=>?_,by rw [af];have:=h.len;omega⟩
 .rcases aX.1 hy with hy| hy
  .exact h.file y hy hk
  .obtain rfl:=aW.1 hy;rcases hx with hx| hx
   .omega
   .obtain ⟨r,hr⟩:=Option.ne_none_iff_exists'.1 hx;obtain ⟨z,hz,e,hzk⟩:=h.no _ _ hr;obtain ⟨st,fr,off,h1,h2,h3⟩:=h.file z hz hzk;have e2:=qp z hz e;rw [e] at h1;rw [e2] at h1 h2 h3;exact ⟨st,fr,off,h1,h2,h3⟩
 .obtain ⟨z,hz,q⟩:=h.no i r q
  grind
theorem sb.put (h:sb R T fi b row bg F) {x:aZ} (hn:Kk.get .int F x.2.1=none) (hk:x.2.2.1=2) {b' lf:List UInt8} {zw:List Int} {st fr off:Int} (hb:∃ c,b'=b++c) (hS:zD T fi b' st x.2.2.2.2.1) (hT:o5 lf zw fr off (x.2.2.2.2.1.drop (128*(x.2.2.2.2.1.length / 128)))) (hK:∀ nu off u,o5 row bg nu off u->o5 lf zw nu off u):sb (R++ [x]) T fi b' lf zw (Kk.put .int F x.2.1 (ag7 st x.2.2.2.2.1.length fr off)):=by
 obtain ⟨c,rfl⟩:=hb;refine ⟨λy hy hyk=>?_,λi r q=>?_,?_⟩
 .rcases aX.1 hy with hy| hy
  .obtain ⟨st',fr',ajt,h1,h2,h3⟩:=h.file y hy hyk;refine ⟨st',fr',ajt,?_,h2.app c,hK _ _ _ h3⟩
   grind [iw]
  .obtain rfl:=aW.1 hy;exact ⟨st,fr,off,eR (k:=.int),hS,hT⟩
 .by_cases hi:i=x.2.1
  .grind
  .rw [iw (k:=.int) hi] at q;obtain ⟨z,hz,q⟩:=h.no i r q
   grind
 .rw [kD (k:=.int) hn,af];have:=h.len
  grind
structure rW (T:List Int) (fi:Int) (b:List UInt8) (bs:List (List UInt8)) (pl:List Int):Prop where
 len:pl.length=bs.length
 ats:∀ (i:Nat) a x,pl[i]?=some a->bs[i]?=some x->∃ (o:Nat) (z r:List UInt8),a=fi+o/\Ea T x z/\b.drop o=z++r/\o<=b.length
theorem rW.nil:rW T fi b [] []:=⟨rfl,by grind⟩
theorem rW.step {bs:List (List UInt8)} {pl:List Int} (h:rW T fi b bs pl) {x z:List UInt8} (hz:Ea T x z):rW T fi (b++z) (bs++ [x]) (pl++ [fi+b.length]):=by
 refine ⟨by simp [h.len],λi a y h1 h2=>?_⟩;rcases eW i pl.length with hl| hl
 .rw [bN hl] at h1;rw [bN (by rw [<-h.len];exact hl)] at h2;obtain ⟨o,w,r,q1,q2,q3,q4⟩:=h.ats i a y h1 h2;exact ⟨o,w,r++z,q1,q2,by rw [eT q4,q3,aL],by rw [af];omega⟩
 .have fD:=(aw.1 h1).1;rw [af,ay] at fD;obtain rfl:i=pl.length:=by omega
  rw [h.len,bD (aG _),Nat.sub_self] at h2;obtain rfl:fi+b.length=a:=by simpa using h1
  obtain rfl:x=y:=by simpa using h2
  exact ⟨b.length,z,[],rfl,hz,by rw [lH,bd],by rw [af];omega⟩
end Go.Lm

namespace Go.Proofs
open Go Go.Lm Go.RowKit
set_option maxRecDepth 1000000
def Hw:Ct
 | [.v (.c (.p 0 0)),.v (.c (.p 7 0))],[.cells 120 [.p 1 0,.p 2 0,.p 3 0,.d (.pair (.sl .str) (.pair (.int .i64) (.pair (.int .i64) (.pair (.pair (.int .i64) (.pair (.int .i64) (.pair (.int .i64) .unit))) (.pair (.sl .u8) (.pair .str (.pair (.sl (.pair .str (.pair (.sl .u8) .unit))) (.pair .bool .unit)))))))) L,.d (.int .i64) ids,.m 4,.m 5,.m 6],.abs A1,.abs A2,.abs A3,.map 3 .int (.int .i64) Mr,.map 3 .int (.pair (.int .i64) (.pair (.int .i64) (.pair (.int .i64) (.pair (.int .i64) (.pair (.int .i64) (.pair (.int .i64) (.pair (.int .i64) (.pair (.int .i64) (.pair (.int .i64) (.pair (.int .i64) (.pair .str .unit))))))))))) F,.map 9 .str (.int .i64) Ms,.abs AW],Q=>(L.length<=40/\(∀ x∈L,x.2.2.2.2.1.length<=4096)/\(∀ x∈L,∀ y∈L,x.2.1=y.2.1->x.2.2=y.2.2)/\F.length=0)/\∃ T fi,AW=jM [.cells 157 [.de (.int .u32) T 0 0,.k (.int .i64 fi),.o 1,.m 2],.sl 5 .u8 [],.map 9 .str (.int .i64) []]/\T.length=256/\(0<=fi/\fi<=1000000)/\∀ F' b' M' row bg pl,sb L T fi b' row bg F'->AQ row bg->rW T fi b' (lP row bg bg.length) pl->b'.length<=180000->pl.length<=40->Q (.c (.d (.int .i64) pl)) [.cells 120 [.p 1 0,.p 2 0,.p 3 0,.d noTy L,.d (.int .i64) ids,.m 4,.m 5,.m 6],.abs A1,.abs A2,.abs A3,.map 3 .int (.int .i64) Mr,.map 3 .int eC F',.map 9 .str (.int .i64) Ms,.abs (jM [.cells 157 [.de (.int .u32) T 0 0,.k (.int .i64 fi),.o 1,.m 2],.sl 5 .u8 b',.map 9 .str (.int .i64) M'])]
 | _,_,_=>False
def alG:=((((gJ.add Bk).add KR).add KM).add X7).add X6
abbrev SR (y0:List aZ) (y1):=List.drop (gd*(List.length (aB noTy y0 y1).2.2.2.2.1 / gd)) (aB noTy y0 y1).2.2.2.2.1
abbrev agz (y0:List aZ) (y1) (y2) (y3) (y4) (y5:_->Prop):=(List.length (aB noTy y0 y1).2.2.2.2.1<=9223372036854775807->∃ T fi b M,y2=jM [.cells 157 [Cl.de (.int .u32) T ah bx,.k (aC fi),.o 1,Cl.m a8],.sl 5 Ty.u8 b,kB M]/\((List.length T=bI/\List.length (aB noTy y0 y1).2.2.2.2.1<=4096/\DW fi b M)/\(0<=fi/\fi<=1000000)/\List.length b<=10000000/\List.length M<=100000)/\∀ (st:Int) (b':List UInt8) (M':List (ByteArray×Int)),DW fi b' M'->(∃ c,b'=b++c)->zD T fi b' st (aB noTy y0 y1).2.2.2.2.1->List.length b'<=List.length b+4320->List.length M'<=List.length M+1->aD .i64 st->aJ (List.length (SR y0 y1))->∃ row bg,y3=jM [.cells 213 [.o 1,.o 2],.sl 5 Ty.u8 row,.sl 3 bo bg]/\(AQ row bg/\List.length row<=10000000/\List.length bg<=100000/\List.length (SR y0 y1)< 128)/\∀ (nu off:Int) (lf:List UInt8) (zw:List Int),AQ lf zw->o5 lf zw nu off (SR y0 y1)->(∀ (nu off:Int) (u:List UInt8),o5 row bg nu off u->o5 lf zw nu off u)->List.length lf<=List.length row+128->List.length zw<=List.length bg+1->aD .i64 nu->aD .i64 off->List.length y4< 9223372036854775807/\aD .i64 (y1+1)/\y5 ((y1+1,()),Kk.put Kk.int y4 (aB noTy y0 y1).2.1 (ah,ah,ah,ah,ah,ah,st,(↑(List.length (aB noTy y0 y1).2.2.2.2.1):Int),nu,off,ByteArray.mk #[],()),jM [.cells 157 [Cl.de (.int .u32) T ah bx,.k (aC fi),.o 1,Cl.m a8],.sl 5 Ty.u8 b',kB M'],jM [.cells 213 [.o 1,.o 2],.sl 5 Ty.u8 lf,.sl 3 bo zw],()))
abbrev PH (y0) (y1:List aZ) (y2) (y3:_->Prop) (y4) (y5) (y6):=Ty.ok eC (CQ y0 y1 y2)->br (oc (Kk.get Kk.int y0 (aB noTy y1 y2).2.1)) (cF y2 (y3 ((y2+1,()),y4))) (br ((aB noTy y1 y2).2.2.1 !=2) (cF y2 (y3 ((y2+1,()),y4))) (agz y1 y2 y5 y6 y0 y3))
abbrev fW {A0:Type} (y0:List A0) (R:Prop):=List.length y0<=10000000/\R
abbrev sG (y0) (y1):=lP y0 y1 (bw y1)
def BN (L:List aZ) (ids:List Int) (A1 A2 A3:Value->Atom) (Mr:(List (Int×Int))) (F:(List (Int×eC.den))) (Ms:(List (ByteArray×Int))) (AW:Value->Atom):dx:=λQ=>List.length L<=9223372036854775807->aM (λi ag=>br (decide (i.1.1< (aA L))) (0<=i.1.1/\i.1.1< (aA L)/\(Ty.ok noTy (aB noTy L i.1.1)->(PH i.2.1 L i.1.1 ag i.2 i.2.2.1 i.2.2.2.1)/\ 
 (PH i.2.1 L i.1.1 ag i.2 i.2.2.1 i.2.2.2.1))) (∃ row bg,i.2.2.2.1=jM [.cells 213 [.o 1,.o 2],.sl 5 Ty.u8 row,.sl 3 bo bg]/\(AQ row bg/\fW row (List.length bg<=100000))/\(aJ (List.length (sG row bg))->aJ 
 (List.length (sG row bg))->aM (λbE ag=>br (decide (bE.1.1< (aS (sG row bg)))) (0<=bE.1.1/\bE.1.1< (aS (sG row bg))/\(Ty.ok bC (aB bC (sG row bg) bE.1.1)->∃ T fi b M,bE.2.1=jM [.cells 157 
 [Cl.de (.int .u32) T ah bx,.k (aC fi),.o 1,Cl.m a8],.sl 5 Ty.u8 b,kB M]/\dQ T (List.length (aB bC (sG row bg) bE.1.1)<=128/\(0<=fi/\fi<=1000000)/\je b (∀ (z:List UInt8),Ea T (aB bC (sG row 
 bg) bE.1.1) z->aD .i64 (fi+(aA b))->(List.length bE.1.2.1+List.length [fi+(aA b)])*8<=ck/\List.length bE.1.2.1+List.length [fi+(aA b)]<=9223372036854775807/\cF bE.1.1 (ag ((bE.1.1+1,bE.1.2.1++ [fi+ 
 (aA b)],()),jM (List.map (λl=>HO.fx (iG [bx,eI,a8]) (lr [.cells 157 [Cl.de (.int .u32) T ah bx,.k (aC fi),.o 3,Cl.m a8],.gone,kB M,.sl 5 Ty.u8 (b++z)] l)) [bx,eI,a8]),())))))) (Q 
 (SV.v (S1.c (.o 8))) [wM L ids,HO.abs A1,HO.abs A2,HO.abs A3,qf Mr,wL i.2.1,kB Ms,HO.abs bE.2.1,.sl 3 bo bE.1.2.1])) ((ah,[],()),i.2.2.1,())))) ((ah,()),F,AW,jM (List.map (λl=>HO.fx (iG [bx, 
 bH,a8]) (lr [.cells 213 [.o 1,.o 2],.sl 5 Ty.u8 [],.sl 3 bo []] l)) [bx,bH,a8]),())
theorem U9:cu 50 Hw:=by
 intro args H Q h;unfold Hw at h;split at h;rotate_left;cases h;rename_i L ids A1 A2 A3 Mr F Ms AW;refine Wp.kC [some (.sl (.int .i64))] [8] ?_;refine Wp.dC alG pD ⟨[(4,⟨[(22,.int .i64)],[(5,.map 3 .int eC),(7,.abs),(8,.abs)]⟩),(16,⟨[(74,.int .i64),(13,.own 3 (.int .i64))],[(7,.abs)]⟩)],[]⟩ Tryz.f50 (BN L ids A1 A2 A3 Mr F Ms AW) ?_;unfold BN sG je fW PH cF dQ agz SR bw ck aC CQ ah aS aA aJ bx bH gd a8 bI eI wM wL qf kB bC bo;obtain ⟨⟨hl,aqt,qp,hF0⟩,T,fi,rfl,hT,⟨f0,f1⟩,h⟩:=h;obtain rfl:=bA hF0;refine λ_=>aM.intro (λi=>∃ (j:Nat) (b:List UInt8) (M:List (ByteArray×Int)) (row:List UInt8) (bg:List Int),j<=L.length/\i.1.1=(j:Int)/\i.2.2.1=jM [.cells 157 [.de (.int .u32) T 0 0,.k (.int .i64 fi),.o 1,.m 2],.sl 5 .u8 b,.map 9 .str (.int .i64) M]/\i.2.2.2.1=jM [.cells 213 [.o 1,.o 2],.sl 5 .u8 row,.sl 3 (.int .i64) bg]/\sb (L.take j) T fi b row bg i.2.1/\DW fi b M/\AQ row bg/\b.length<=4320*j/\M.length<=j/\row.length<=128*j/\bg.length<=j) (λi=>L.length - i.1.1.toNat) ⟨0,[],[],[],[],cY _,rfl,rfl,rfl,sb.nil,⟨λp hp=>by cases hp⟩,AQ.nil,aG _,aG _,aG _,aG _⟩ ?_;rintro ⟨⟨i,_⟩,F,AW,AT,_⟩ ⟨j,b,M,row,bg,hj,h1,h2,h3,h4,h5,h6,h7,h8,h9,h10⟩;simp only at h1 h2 h3 h4 ⊢;subst h1 h2 h3
 try dsimp only
 refine aq (λhc=>?_) (λhc=>?_)
 .have vP:(j:Int)< L.length:=of_decide_eq_true hc;have pt:j< L.length:=by omega
  have ek:aB noTy L (j:Int)=L[j]:=gH (e:=noTy) pt;have ht:L.take (j+1)=L.take j++ [L[j]]:=bG pt;have hx:=aqt _ (dA pt);have ho:∀ y∈L.take j,y.2.1=(L[j]'pt).2.1->y.2.2=(L[j]'pt).2.2:=λy hy e=>qp y (List.mem_of_mem_take hy) _ (dA pt) e;have hFl:=h4.len;rw [aH] at hFl;rw [ek];generalize L[j]=x at ek ht hx ho ⊢;refine ⟨by omega,vP,λ_=>both λ_=>aq (λhg=>?_) (λhg=>aq (λhk=>?_) (λhk=>λ_=>?_))⟩;exact ⟨by unfold aD;omega,⟨j+1,b,M,row,bg,pt,by omega,rfl,rfl,by rw [ht];exact h4.skip ho (.inr (by intro e;rw [e] at hg;cases hg)),h5,h6,by omega,by omega,by omega,by omega⟩,by omega⟩;exact ⟨by unfold aD;omega,⟨j+1,b,M,row,bg,pt,by omega,rfl,rfl,by rw [ht];exact h4.skip ho (.inl (by simpa using hk)),h5,h6,by omega,by omega,by omega,by omega⟩,by omega⟩
  .have hn:Kk.get .int F x.2.1=none:=by simpa using hg
   have r8:x.2.2.1=2:=by simpa using hk
   have hdl:(x.2.2.2.2.1.drop (128*(x.2.2.2.2.1.length / 128))).length< 128:=by rw [aQ];omega
   exact ⟨T,fi,b,M,rfl,⟨⟨hT,hx,h5⟩,⟨f0,f1⟩,by omega,by omega⟩,λst b' M' d1 d2 d3 d4 d5 _ _=>⟨row,bg,rfl,⟨h6,by omega,by omega,hdl⟩,λnu off lf zw t1 t2 t3 t4 t5 _ _=>⟨by omega,by unfold aD;omega,⟨j+1,b',M',lf,zw,pt,by omega,rfl,rfl,by rw [ht];exact h4.put hn r8 d2 d3 t2 t3,d1,t1,by omega,by omega,by omega,by omega⟩,by omega⟩⟩⟩
 .have hc:=of_decide_eq_false hc;obtain rfl:j=L.length:=by omega
  rw [eK] at h4;refine ⟨row,bg,rfl,⟨h6,by omega,by omega⟩,λ_ _=>?_⟩;have hbl:=qw row bg bg.length;have hbm:=WV h6;have aaq:=λF' b' M' pl=>h F' b' M' row bg pl;clear h;generalize lP row bg bg.length=B at*;refine aM.intro (λi=>∃ (q:Nat) (c:List UInt8),q<=B.length/\i.1.1=(q:Int)/\i.2.1=jM [.cells 157 [.de (.int .u32) T 0 0,.k (.int .i64 fi),.o 1,.m 2],.sl 5 .u8 (b++c),.map 9 .str (.int .i64) M]/\c.length<=135*q/\rW T fi (b++c) (B.take q) i.1.2.1) (λi=>B.length - i.1.1.toNat) ⟨0,[],cY _,rfl,by rw [bd],aG _,rW.nil⟩ ?_;rintro ⟨⟨i,pl,_⟩,AW,_⟩ ⟨q,c,hq,k1,k2,Qp,k3⟩;simp only at k1 k2 k3 ⊢;subst k1 k2
  try dsimp only
  have JB:=k3.len;rw [aH,pB hq] at JB;refine aq (λhd=>?_) (λhd=>?_)
  .have hd1:(q:Int)< B.length:=of_decide_eq_true hd;have hq2:q< B.length:=by omega
   have ek:aB (.sl .u8) B (q:Int)=B[q]:=gH (e:=.sl .u8) hq2;have ht:B.take (q+1)=B.take q++ [B[q]]:=bG hq2;have hx:=hbm _ (dA hq2);rw [ek];generalize B[q]=x at ek ht hx ⊢;have hbc:(b++c).length<=180000:=by rw [af];omega
   refine ⟨by omega,hd1,λ_=>⟨T,fi,b++c,M,rfl,hT,hx.2,⟨f0,f1⟩,by omega,λz hz _=>⟨by simp only [ay];omega,by simp only [ay];omega,by unfold aD;omega,⟨q+1,c++z,hq2,by omega,by rw [<-aL];rfl,?_,?_⟩,by omega⟩⟩⟩
   .have:=hz.len;rw [af];omega
   .rw [ht,<-aL];exact k3.step hz
  .have hd:=of_decide_eq_false hd;obtain rfl:q=B.length:=by omega
   rw [eK] at k3;exact ⟨by show 8<=9;decide,aaq F (b++c) M pl (h4.app c) h6 k3 (by rw [af];omega) (by omega)⟩
end Go.Proofs

namespace Go.Lm
open Go
structure IR where
 s:ot.den
 b:List UInt8
 row:List UInt8
 bg:List Int
 pl:List Int
 ids:List Int
 F:List (Int×eC.den)
 t:BS
 fI:List (List UInt8)
 fL:List (List UInt8)
 fX:List (List UInt8)
 fP:List (List UInt8)
 fN:List (List UInt8)
def IR.im (d:IR) (T:List Int):List UInt8:=fM T d.s++(d.b++(d.fI.flatten++(d.fL.flatten++(d.fP.flatten++(d.fN.flatten++d.fX.flatten)))))
structure IR.Ok (d:IR) (T:List Int) (L:List aZ):Prop where
 tok:sa L d.ids d.F
 root:∃ x∈L,x.1= []/\x.2.2.1=1/\Kk.get .int d.t.Mr x.2.1=some d.s.2.2.2.2.2.2.2.2.2.1
 ok:Ed L d.ids d.F d.t 0
 all:∀ x∈L,∃ r,Kk.get .int d.t.Mr x.2.1=some r
 fl:sb L T 64 d.b d.row d.bg d.F
 pk:AQ d.row d.bg
 pls:rW T 64 d.b (lP d.row d.bg d.bg.length) d.pl
 rI:kM T d.fI d.t.RI/\∃ g,d.fI=d.t.fI++g
 rL:kM T d.fL d.t.RL/\∃ g,d.fL=d.t.fL++g
 rX:kM T d.fX d.t.RX/\∃ g,d.fX=d.t.fX++g
 rP:kM T d.fP (gA 4 d.pl)
 rN:kM T d.fN (gA 2 d.ids)
 idr:∀ y∈d.ids,0<=y/\y< 65536
 sup:rU d.s
 sI: @Eq Int d.s.2.2.1 (64+(d.b.length:Int))
 sL: @Eq Int d.s.2.2.2.1 (d.s.2.2.1+(d.fI.flatten.length:Int))
 sP: @Eq Int d.s.2.2.2.2.1 (d.s.2.2.2.1+(d.fL.flatten.length:Int))
 sN: @Eq Int d.s.2.2.2.2.2.1 (d.s.2.2.2.2.1+(d.fP.flatten.length:Int))
 sX: @Eq Int d.s.2.2.2.2.2.2.1 (d.s.2.2.2.2.2.1+(d.fN.flatten.length:Int))
 sZ: @Eq Int d.s.1 (d.s.2.2.2.2.2.2.1+(d.fX.flatten.length:Int))
 sn: @Eq Int d.s.2.1 ((d.t.Mr.length:Int))
 si: @Eq Int d.s.2.2.2.2.2.2.2.1 ((d.ids.length:Int))
 sf: @Eq Int d.s.2.2.2.2.2.2.2.2.1 ((d.pl.length:Int))
structure UG (im:List UInt8) (L:List aZ):Prop where
 ex:∃ d:IR,d.Ok dB L/\im=d.im dB
theorem kM.aaA {T:List Int} {fs:List (List UInt8)} {R:List UInt8} (h:kM T fs R):fs.flatten.length<=135*fs.length:=by
 have key:∀ n:Nat,n<=fs.length->fB fs n<=135*n:=by
  intro n
  induction n with
  | zero=>intro _;exact aG _
  | succ n ih=>
   intro hn;have hf:=(h.fr n fs[n] (by grind)).len
   grind [n9]
 grind [qx]
structure HG (l:List aZ):Prop where
 nm:∀ x∈l,∀ s∈x.1,dh s=0
 deep:∀ x∈l,x.1.length<=16
 tw:l.Pairwise λa b=>a.1≠b.1
 root:∃ x∈l,x.1= []/\x.2.2.1=1
 par:∀ x∈l,x.1.length≠0->∃ y∈l,y.2.2.1=1/\y.1=x.1.take (x.1.length - 1)
 may:∀ x∈l,gr x=true
 one:l.Pairwise λa b=>a.2.1=b.2.1->b.2.2.1≠1/\b.2.2=a.2.2
theorem jS {x:aZ} (h:gr x=true):x.2.2.2.2.2.2.2.1=false/\(x.2.2.1=1\/x.2.2.1=2\/x.2.2.1=3):=by
 grind [gr]
theorem VU {x:aZ} (h:gr x=true):P0 x=true:=by
 grind [jS, P0]
theorem HG.anN {l L:List aZ} (g:HG l) (hp:L.Perm l) (ho:L.Pairwise λx y=>¬cmpL y.1 x.1< 0):UH L:=by
 have tw:L.Pairwise λa b=>a.1≠b.1:=hp.symm.pairwise g.tw (by grind);refine ⟨λx hx=>g.nm x (hp.mem_iff.1 hx),xS ho tw,?_,λx hx e=>?_,λx hx h0=>?_,λx hx=>VU (g.may x (hp.mem_iff.1 hx)),?_⟩
 .obtain ⟨x,hx,e,_⟩:=g.root
  grind
 .obtain ⟨y,hy,e1,e2⟩:=g.root
  grind [ZI]
 .obtain ⟨y,hy,e⟩:=g.par x (hp.mem_iff.1 hx) h0
  grind
 .have h4:L.Pairwise λa b=>a.2.1=b.2.1->b.2.2.1≠1/\b.2.2=a.2.2:=hp.symm.pairwise g.one (by grind);refine h4.imp_of_mem λ{a b} _ hb h e=>⟨(h e).1,?_,(h e).2⟩;rcases (jS (g.may b (hp.mem_iff.1 hb))).2 with q| q| q<;>rw [q]<;>decide
structure uS (N:List aZ):Prop where
 nm:∀ x∈N,∀ s∈x.1,dh s=0
 ord:N.Pairwise λa b=>cmpL a.1 b.1< 0
 deep:∀ x∈N,x.1.length<=16
 par:∀ x∈N,x.1.length≠0->∃ y∈N,y.2.2.1=1/\y.1=x.1.take (x.1.length - 1)
 may:∀ x∈N,gr x=true
 one:∀ x∈N,∀ y∈N,x.2.1=y.2.1->(x.2.2.1=1->x=y)/\x.2.2=y.2.2
 ino:∀ x∈N,1<=x.2.1/\x.2.1<=(N.length:Int)
 pos:0< N.length
 root:(aB noTy N 0).1= []/\(aB noTy N 0).2.2.1=1/\(aB noTy N 0).2.1=1
 isB:∃ Y,IsB Y N
theorem PW:∀ (L:List aZ) {m:List (Int×Int)},(∀ i z,Kk.get .int m i=some z->z<=(m.length:Int))->∀ i z,Kk.get .int (da L m) i=some z->z<=((da L m).length:Int)
 | [],_,h,i,z,hz=>h i z hz
 | x::L,m,h,i,z,hz=>by
  cases hg:Kk.get .int m x.2.1 with
  | some k=>rw [gf hg] at hz ⊢;exact PW L h i z hz
  | none=>
   rw [gg hg] at hz ⊢;refine PW L (λj y hy=>?_) i z hz
   grind [kD, eR, iw]
theorem aeS {x:aZ} (p:List ByteArray) (i:Int):gr (p,i,x.2.2)=gr x:=rfl
theorem L3 {l L:List aZ} (g:HG l) (hp:L.Perm l) (ho:L.Pairwise λx y=>¬cmpL y.1 x.1< 0):uS (bJ L []):=by
 have gT:=g.anN hp ho;have hB:=aaB 0 0 gT;have ord:(bJ L []).Pairwise λa b=>cmpL a.1 b.1< 0:=aeO gT.ord;have mem:∀ c∈bJ L [],∃ x∈l,x.1=c.1/\x.2.2=c.2.2:=λc hc=>by
  obtain ⟨x,hx,q⟩:=Jh hc;exact ⟨x,hp.mem_iff.1 hx,q⟩
 have hlen:=iq L [];have xe:0< (bJ L []).length:=by
  obtain ⟨c,hc,_⟩:=hB.has;exact List.length_pos_of_mem hc
 have Dk:∀ c∈bJ L [],gr c=true:=λc hc=>by
  obtain ⟨x,hx,e1,e2⟩:=mem c hc;have:=g.may x hx;rw [<-aeS x.1 x.2.1,e2] at this;exact this
 have aqg:∀ x∈bJ L [],1<=x.2.1/\x.2.1<=((bJ L []).length:Int):=λx hx=>by
  obtain ⟨j,hj,rfl⟩:=ev.1 hx;have hk:=wR L [] j (by rw [<-hlen];exact hj);have h1:=AX L (m:=[]) (λi z q=>by cases q) _ _ hk;have h2:=PW L (m:=[]) (λi z q=>by cases q) _ _ hk;have h3:=lq L [];simp only [aO] at h3;exact ⟨h1,by omega⟩
 refine ⟨λx hx=>?_,ord,λx hx=>?_,λx hx h0=>?_,Dk,λx hx y hy e=>?_,aqg,xe,?_,⟨_,hB⟩⟩
 .obtain ⟨y,hy,e,_⟩:=mem x hx;rw [<-e];exact g.nm y hy
 .obtain ⟨y,hy,e,_⟩:=mem x hx;rw [<-e];exact g.deep y hy
 .obtain ⟨y,hy,hk,s,e⟩:=hB.par x hx (by intro q;rw [q] at h0;exact h0 rfl);exact ⟨y,hy,hk,by rw [e];simp⟩
 .have h1:=hB.get x hx;have h2:=hB.get y hy;rw [e,h2] at h1;have h3:=aj h1;have ox:=(jS (Dk x hx)).1;have oy:=(jS (Dk y hy)).1;refine ⟨λhk=>(hB.aaL x hx y hy (.inl hk) e.symm).symm,?_⟩;obtain ⟨x1,x2,x3,x4,x5,x6,x7,x8,x9⟩:=x;obtain ⟨y1,y2,y3,y4,y5,y6,y7,y8,y9⟩:=y;simp only at ox oy;subst ox oy;unfold aZ.bare at h3;simp only [Prod.mk.injEq] at h3 ⊢;simp_all
 .have hr:(aB noTy (bJ L []) 0).1= []:=by
   obtain ⟨c,hc,e⟩:=hB.has;obtain ⟨j,hj,rfl⟩:=ev.1 hc;have e0:aB noTy (bJ L []) 0=(bJ L [])[0]:=gH (e:=noTy) (k:=0) xe;rw [e0];rcases Nat.eq_zero_or_pos j with q| q;subst q;exact e
   .have:=cQ.1 ord 0 j xe hj q;rw [e] at this;exact absurd this (xq _)
  have hm:aB noTy (bJ L []) 0∈bJ L []:=tk (e:=noTy) (bB 0) (by omega);refine ⟨hr,?_,hB.root _ hm hr⟩;obtain ⟨x,hx,e1,e2⟩:=Jh hm;rw [<-e2];exact gT.agx x hx (by rw [e1,hr])
theorem C0 {m u g:Int} (h:AG m u g=true):(0<=u/\u<=65535)/\0<=g/\g<=65535:=by
 grind [AG, gW]
theorem oK {x:aZ} (h:gr x=true):((0<=uW x/\uW x<=65535)/\0<=zd x/\zd x<=65535)/\x.2.2.2.2.1.length<=4096:=by
 unfold gr at h;split at h
 .simp only [ak,beq_iff_eq] at h;exact ⟨C0 h.1.2,by omega⟩
 .split at h
  .simp only [ak,decide_eq_true_eq] at h;exact ⟨C0 h.1.2,by omega⟩
  .split at h
   .simp only [ak,beq_iff_eq] at h;exact ⟨C0 h.1.2,by omega⟩
   grind
theorem ajL {N:List aZ} {ys:List Int} (g:uS N) (h:ON N ys):∀ y∈ys,0<=y/\y< 65536:=λy hy=>by
 obtain ⟨n,hn,q⟩:=(h.mem y).1 hy;have:=(oK (g.may n hn)).1;omega
theorem ai5 {N:List aZ} {ys:List Int} {F:List (Int×eC.den)} {T:List Int} {b row:List UInt8} {bg:List Int} (g:uS N) (hl:N.length<=40) (hi:ON N ys) (hF:sb N T 64 b row bg F) (hP:AQ row bg) (hb:b.length<=180000) (hg:bg.length<=40):sa N ys F:=by
 refine ⟨hl,g.ord,g.nm,g.deep,g.par,g.may,g.one,λx hx=>by have:=g.ino x hx;omega,λx hx=>⟨?_,?_⟩,by have:=hi.len;omega,hi.Xk,λx hx hk=>?_,λx hx hk=>?_⟩;exact List.mem_iff_getElem?.1 ((hi.mem _).2 (by grind));exact List.mem_iff_getElem?.1 ((hi.mem _).2 (by grind))
 .obtain ⟨st,fr,off,h1,h2,h3⟩:=hF.file x hx hk;have hx4:=(oK (g.may x hx)).2;have htl:(x.2.2.2.2.1.drop (128*(x.2.2.2.2.1.length / 128))).length=x.2.2.2.2.1.length % 128:=by grind
  refine ⟨st,fr,off,h1,?_,by omega,?_,?_,?_⟩
  .rcases h2.or with ⟨_,rfl⟩| ⟨_,o,rfl,q⟩
   .decide
   .obtain ⟨_,_,_,_,_,q⟩:=q.ex;omega
  .rcases h3.or with ⟨_,rfl,_⟩| ⟨_,_,_,i,a,rfl,q,_⟩
   .decide
   grind
  .rcases h3.or with ⟨_,_,rfl⟩| ⟨q1,_,q2,i,a,_,q,q3,_⟩
   .decide
   .have:=hP.all i a q;omega
  .rcases h3.or with ⟨q0,rfl,rfl⟩| ⟨q1,_,q2,i,a,rfl,q,q3,_⟩
   .grind
   .omega
 .cases hq:Kk.get .int F x.2.1 with
  | none=>rfl
  | some r=>
   obtain ⟨y,hy,e,hyk⟩:=hF.no _ _ hq;have:=(g.one x hx y hy e.symm).2
   grind
theorem Ed.nil (L:List aZ) (ids:List Int) (F:List (Int×eC.den)):Ed L ids F ⟨[],[],[],[],[],[],[],[]⟩ 0:=⟨λi r q=>(by cases q),⟨by grind⟩,λi j r q=>(by cases q),by simp,aG _,aG _,aG _,List.nodup_nil⟩
theorem Zp {T:List Int} {b:List UInt8} {bs:List (List UInt8)} {pl:List Int} (h:rW T 64 b bs pl) (hb:b.length<=2000000):∀ x∈pl,0<=x/\x< 4294967296:=λx hx=>by
 obtain ⟨i,hi⟩:=List.mem_iff_getElem?.1 hx;have hl:=(aw.1 hi).1;rw [h.len] at hl;obtain ⟨o,z,r,e,_,_,q⟩:=h.ats i x _ hi (ao hl);omega
theorem QH (T:List Int) (s:ot.den) (x:List UInt8):mF (au 64 (0:Ty.den Ty.u8)++x) 0 (fM T s)=fM T s++x:=by
 simp [lT, mF, aT]
theorem ajK {N:List aZ} {b row:List UInt8} {bg pl ids:List Int} {F:List (Int×eC.den)} {t:BS} {fI fL fX fP fN:List (List UInt8)} {q1 q2 q3 q4 q5:List UInt8} {r:Int} (e1:fI.flatten=q1) (e2:fL.flatten=q2) (e3:fP.flatten=q3) (e4:fN.flatten=q4) (e5:fX.flatten=q5) (tok:sa N ids F) (root:∃ x∈N,x.1= []/\x.2.2.1=1/\Kk.get .int t.Mr x.2.1=some r) (ok:Ed N ids F t 0) (all:∀ x∈N,∃ r,Kk.get .int t.Mr x.2.1=some r) (fl:sb N dB 64 b row bg F) (pk:AQ row bg) (pls:rW dB 64 b (lP row bg bg.length) pl) (rI:kM dB fI t.RI/\∃ g,fI=t.fI++g) (rL:kM dB fL t.RL/\∃ g,fL=t.fL++g) (rX:kM dB fX t.RX/\∃ g,fX=t.fX++g) (rP:kM dB fP (gA 4 pl)) (rN:kM dB fN (gA 2 ids)) (idr:∀ y∈ids,0<=y/\y< 65536) (hS:rU ((((au 64 (0:Ty.den Ty.u8)++b++q1++q2++q3++q4++q5).length:Nat):Int),((t.Mr.length:Nat):Int),(((au 64 (0:Ty.den Ty.u8)++b).length:Nat):Int),(((au 64 (0:Ty.den Ty.u8)++b++q1).length:Nat):Int),(((au 64 (0:Ty.den Ty.u8)++b++q1++q2).length:Nat):Int),(((au 64 (0:Ty.den Ty.u8)++b++q1++q2++q3).length:Nat):Int),(((au 64 (0:Ty.den Ty.u8)++b++q1++q2++q3++q4).length:Nat):Int),((ids.length:Nat):Int),((pl.length:Nat):Int),r,())):UG (mF (au 64 (0:Ty.den Ty.u8)++b++q1++q2++q3++q4++q5) 0 (fM dB ((((au 64 (0:Ty.den Ty.u8)++b++q1++q2++q3++q4++q5).length:Nat):Int),((t.Mr.length:Nat):Int),(((au 64 (0:Ty.den Ty.u8)++b).length:Nat):Int),(((au 64 (0:Ty.den Ty.u8)++b++q1).length:Nat):Int),(((au 64 (0:Ty.den Ty.u8)++b++q1++q2).length:Nat):Int),(((au 64 (0:Ty.den Ty.u8)++b++q1++q2++q3).length:Nat):Int),(((au 64 (0:Ty.den Ty.u8)++b++q1++q2++q3++q4).length:Nat):Int),((ids.length:Nat):Int),((pl.length:Nat):Int),r,()))) N:=by
 refine ⟨⟨((((au 64 (0:Ty.den Ty.u8)++b++q1++q2++q3++q4++q5).length:Nat):Int),((t.Mr.length:Nat):Int),(((au 64 (0:Ty.den Ty.u8)++b).length:Nat):Int),(((au 64 (0:Ty.den Ty.u8)++b++q1).length:Nat):Int),(((au 64 (0:Ty.den Ty.u8)++b++q1++q2).length:Nat):Int),(((au 64 (0:Ty.den Ty.u8)++b++q1++q2++q3).length:Nat):Int),(((au 64 (0:Ty.den Ty.u8)++b++q1++q2++q3++q4).length:Nat):Int),((ids.length:Nat):Int),((pl.length:Nat):Int),r,()),b,row,bg,pl,ids,F,t,fI,fL,fX,fP,fN⟩,⟨tok,root,ok,all,fl,pk,pls,rI,rL,rX,rP,rN,idr,hS,?_,?_,?_,?_,?_,?_,rfl,rfl,rfl⟩,?_⟩
 .show (((au 64 (0:Ty.den Ty.u8)++b).length:Nat):Int)=_;rw [af,aY];rfl
 .show (((au 64 (0:Ty.den Ty.u8)++b++q1).length:Nat):Int)=(((au 64 (0:Ty.den Ty.u8)++b).length:Nat):Int)+(fI.flatten.length:Int);rw [e1,af (bs:=q1)];rfl
 .show (((au 64 (0:Ty.den Ty.u8)++b++q1++q2).length:Nat):Int)=(((au 64 (0:Ty.den Ty.u8)++b++q1).length:Nat):Int)+(fL.flatten.length:Int);rw [e2,af (bs:=q2)];rfl
 .show (((au 64 (0:Ty.den Ty.u8)++b++q1++q2++q3).length:Nat):Int)=(((au 64 (0:Ty.den Ty.u8)++b++q1++q2).length:Nat):Int)+(fP.flatten.length:Int);rw [e3,af (bs:=q3)];rfl
 .grind
 .grind
 .unfold IR.im;rw [show (au 64 (0:Ty.den Ty.u8)++b++q1++q2++q3++q4++q5)=au 64 (0:Ty.den Ty.u8)++(b++(q1++(q2++(q3++(q4++q5))))) by simp only [aL],QH,<-e1,<-e2,<-e3,<-e4,<-e5]
end Go.Lm

namespace Go.Proofs
open Go Go.Lm Go.RowKit
set_option maxRecDepth 1000000
theorem TI {a b:List UInt8}:JK a b=true↔a=b:=by
 grind [JK, gD, gu]
theorem Q3 {x y:uD}:pO x y=true↔x=y:=by
 grind [pO, gD, TI]
theorem Ax:∀ {a b:List uD},fG a b=true↔a=b
 | [],[]=>by simp [fG]
 | [],_::_=>by simp [fG]
 | _::_,[]=>by simp [fG]
 | x::a,y::b=>by
  unfold fG;rw [ak,Q3,Ax];simp
theorem vY {x y:aZ}:iH x y=true↔x.2.2=y.2.2:=by
 unfold iH;simp only [ak,gD,TI,Ax,beq_iff_eq,Bool.and_true]
 grind
theorem nQ:∀ {a b:List ByteArray},fZ a b=true↔a=b
 | [],[]=>by simp [fZ]
 | [],_::_=>by simp [fZ]
 | _::_,[]=>by simp [fZ]
 | x::a,y::b=>by
  unfold fZ;rw [ak,gD,nQ];simp
theorem qk {k:Kk} {α:Type} {l:List (k.den×α)} {x:k.den} {v:α}:Kk.get k (Kk.put k l x v) x=some v:=by
 unfold Kk.get Kk.put iT qX;simp
theorem wZ {k:Kk} {α:Type} {l:List (k.den×α)} {x y:k.den} {v:α} (h:y≠x):Kk.get k (Kk.put k l x v) y=Kk.get k l y:=by
 grind [Kk.get, Kk.put, iT, qX, pf]
theorem V8 (x:aZ):kG x.1 x=true:=by simp [kG, nQ]
def tW (l:List aZ):Prop:=∀ x∈l,∀ s∈x.1,dh s=0
theorem GP {p q:List ByteArray} (hp:∀ s∈p,dh s=0) (hq:∀ s∈q,dh s=0) (h:ql p=ql q):p=q:=by
 have e:=Go.LmN.Z4 (p:=p) (q:=q) (λs hs=>by rw [uU];exact hp s hs) (λs hs=>by rw [uU];exact hq s hs)
 grind [Go.LmN.ya, Go.LmN.ZY]
theorem ra:∀ {l:List aZ} {m:List (ByteArray×aZ)},tW l->((lN l m).isSome=true↔(l.Pairwise λa b=>a.1≠b.1)/\∀ x∈l,Kk.get .str m (ql x.1)=none)
 | [],m,_=>by simp [lN]
 | x::r,m,ok=>by
  have okr:tW r:=λy hy=>ok y (aF _ hy);unfold lN;cases hg:Kk.get .str m (ql x.1) with
  | some o=>
   grind
  | none=>
   rw [if_neg (by simp),ra okr,eY];constructor
   .rintro ⟨h1,h2⟩;refine ⟨⟨λy hy e=>?_,h1⟩,λy hy=>?_⟩
    .have:=h2 y hy;rw [<-e,qk] at this;cases this
    .rcases bz.1 hy with rfl| hy
     .exact hg
     .have:=h2 y hy;by_cases e:ql y.1=ql x.1
      .rw [e,qk] at this;cases this
      .rwa [wZ (k:=.str) e] at this
   .rintro ⟨⟨h1,h2⟩,h3⟩;refine ⟨h2,λy hy=>?_⟩;rw [wZ (k:=.str) λe=>h1 y hy (GP (ok x aK) (okr y hy) e.symm)];exact h3 y (aF _ hy)
theorem yX:∀ {l:List aZ} {m m':List (ByteArray×aZ)},tW l->lN l m=some m'->∀ p:List ByteArray,(∀ s∈p,dh s=0)->Kk.get .str m' (ql p)=match l.find? (kG p) with
   | some x=>some x
   | none=>Kk.get .str m (ql p)
 | [],m,m',_,h,p,_=>by
  obtain rfl:m=m':=aj h;rfl
 | x::r,m,m',ok,h,p,hp=>by
  have okr:tW r:=λy hy=>ok y (aF _ hy);have hs:=(ra ok).1 (by rw [h];rfl);unfold lN at h;split at h;cases h
  .rw [yX okr h p hp,List.find?_cons];by_cases e:x.1=p
   .grind [kG, eY, nQ, qk]
   .have hn:kG p x=false:=by
     unfold kG;rw [<-Bool.not_eq_true,nQ];exact e
    rw [hn];cases r.find? (kG p) with
    | some y=>rfl
    | none=>exact wZ λq=>e (GP (ok x aK) hp q.symm)
theorem rb:∀ {l:List aZ} {m:List (Int×aZ)},iE l m=0↔(l.Pairwise λa b=>a.2.1=b.2.1->b.2.2.1≠1/\b.2.2=a.2.2)/\∀ x∈l,∀ o,Kk.get .int m x.2.1=some o->x.2.2.1≠1/\x.2.2=o.2.2
 | [],m=>by simp [iE]
 | x::r,m=>by
  unfold iE;rw [eY];cases hg:Kk.get .int m x.2.1 with
  | none=>
   rw [rb (l:=r)];constructor
   .rintro ⟨h1,h2⟩;refine ⟨⟨λy hy e=>h2 y hy x (by rw [<-e];exact qk),h1⟩,λy hy o ho=>?_⟩;rcases bz.1 hy with rfl| hy
    .rw [hg] at ho;cases ho
    .by_cases e:y.2.1=x.2.1
     .rw [e,hg] at ho;cases ho
     .exact h2 y hy o (by rw [wZ (k:=.int) e];exact ho)
   .rintro ⟨⟨h1,h2⟩,h3⟩;refine ⟨h2,λy hy o ho=>?_⟩;by_cases e:y.2.1=x.2.1
    .rw [e,qk] at ho;obtain rfl:=aj ho;exact h1 y hy e.symm
    .rw [wZ (k:=.int) e] at ho;exact h3 y (aF _ hy) o ho
  | some o=>
   simp only;by_cases hb:(x.2.2.1==1|| !iH x o)=true
   .rw [if_pos hb];constructor
    .intro h;cases h
    .rintro ⟨_,h⟩;obtain ⟨h1,h2⟩:=h x aK o hg;rw [vY.2 h2] at hb;simp [h1] at hb
   .rw [if_neg hb,rb (l:=r)];simp only [lR,beq_iff_eq,dr,not_or,Bool.not_eq_false,vY] at hb;constructor
    .rintro ⟨h1,h2⟩;refine ⟨⟨λy hy e=>?_,h1⟩,λy hy o' ho=>?_⟩
     .obtain ⟨h3,h4⟩:=h2 y hy o (by rw [<-e];exact hg);exact ⟨h3,h4.trans hb.2.symm⟩
     .rcases bz.1 hy with rfl| hy
      .rw [hg] at ho;obtain rfl:=aj ho;exact hb
      .exact h2 y hy o' ho
    .rintro ⟨⟨_,h2⟩,h3⟩;exact ⟨h2,λy hy o' ho=>h3 y (aF _ hy) o' ho⟩
theorem Nn {l:List aZ} (h:iC l=0) {p:List ByteArray} (hp:∀ s∈p,dh s=0) (hk:kE (fj l) p=1):∃ x∈l,x.1=p/\x.2.2.1=1:=by
 obtain ⟨hN,hD,hs⟩:=qi (l:=l) (by rw [h];rfl);have ok:tW l:=ja hN;cases hm:lN l [] with
 | none=>grind
 | some m=>
  have e:fj l=m:=by grind [fj]
  have hg:=yX ok hm p hp;rw [e] at hk;unfold kE at hk;rw [hg] at hk;cases hf:l.find? (kG p) with
  | none=>rw [hf] at hk;exact absurd hk (show ¬((0:Int)=1) by decide)
  | some x=>
   grind [kG, nQ]
theorem L4 {l:List aZ} (h:dv l=0):HG l:=by
 obtain ⟨_,h2,h3,h4,h5,h6⟩:=N3 h;obtain ⟨hN,hD,hs⟩:=qi (l:=l) (by rw [h2];rfl);have ok:=ja hN;have tw:=((ra (m:=[]) ok).1 hs).1;refine ⟨ok,λx hx=>A4 hD hx,tw,?_,λx hx h0=>?_,h5,(rb.1 h6).1⟩
 .grind [Nn]
 .have hq:(kE (fj l) (x.1.take (x.1.length - 1)) !=1)=false:=by
   grind [Eo]
  grind [Nn]
def af7:Ct:=cD (Ty.int .i64) λl=>cI λn=>cT λT=>c0 λQ=>T.length=256/\((n=2\/n=4)/\(∀ x∈l,0<=x/\x< 256 ^ n.toNat)/\l.length<=100000)/\∀ fs,kM T fs (gA n.toNat l)->Q (.c (.d .u8 fs.flatten)) []
def alF:=(((gJ.add ES).add Bf).add wg).add HS
abbrev yk (y0) (y1:List (List UInt8)):=List.length (ae (y0++y1))
def LQ (l:(List ((Ty.int .i64)).den)) (n:Int) (T:List Int):dx:=λQ=>iB l (aD .i64 n->dQ T (∀ (A:Value->Atom),WB A T [] []->(n=dw\/n=cL)/\(∀ (x:Ty.den bo),x∈l->(0:Ty.den bo)<=x/\x< (256:Ty.den bo) ^ ax n)/\List.length l<=100000/\(aJ 
 (List.length (gA (aU n) l))->aD .i64 0->∃ T R fs,WB A T R fs/\List.length R+List.length (gA (aU n) l)<=10000000/\∀ (A':Value->Atom) (r:Nat) (fs':List (List UInt8)),WB A' T (R++gA (aU n) l) (fs++fs')-> 
 (∀ (gs:List (List UInt8)),r=dX (fs++gs) (bw R))->aD .i64 (↑r:Int)->∃ T R fs,WB A' T R fs/\fW R (∀ (A':Value->Atom) (fs':List (List UInt8)),kM T (fs++fs') R->aJ (yk fs fs')->Q (SV.v (S1.c (Cl.d Ty.u8 
 (ae (fs++fs'))))) []))))
theorem aea:cu 52 af7:=eQ<| jm λl=>nG λn=>okT λT=>gM λQ h=>by
 refine Wp.dC alF pD ⟨[],[]⟩ Tryz.f52 (LQ l n T) (hold:=[47]) ?_;unfold LQ yk iB fW dQ bw aU dw cL aJ bI bo;have hnl:=jR n.toNat l;have hb:(gA n.toNat l).length<=400000:=by
  grind
 grind
def TV:Ct
 | [.v (.c cl)],[],Q=>(match (Ty.sl noTy).of [cl] with
  | some (l,[])=>(l.length:Int)<=1000/\dv l≠0/\Q (.cH [.c (.d noTy []),.c (.k (.int .i64 (dv l)))]) []
  | _=>False)
 | _,_,_=>False
def TU:Ct
 | [.v (.c cl)],[],Q=>(match (Ty.sl noTy).of [cl] with
  | some (l,[])=>(l.length:Int)<=1000/\dv l=0/\∀ L':List aZ,L'.Perm l->L'.Pairwise (λx y=>¬cmpL y.1 x.1< 0)->Q (.cH [.c (.d noTy (bJ L' [])),.c (.k (.int .i64 0))]) []
  | _=>False)
 | _,_,_=>False
theorem adD:cu 45 TV:=λargs H Q h=>by
 unfold TV at h;split at h
 .refine Kr _ _ _ ?_;unfold xu;split at h
  .rename_i hq;simp only [hq];exact ⟨h.1,by rw [show (dv _ !=0)=true by simpa using h.2.1];exact h.2.2⟩
  grind
 grind
theorem adC:cu 45 TU:=λargs H Q h=>by
 unfold TU at h;split at h
 .refine Kr _ _ _ ?_;unfold xu;split at h
  .rename_i hq;simp only [hq];exact ⟨h.1,by rw [show (dv _ !=0)=false by simpa using h.2.1];exact h.2.2⟩
  grind
 grind
def DP:Ct
 | [.v (.c cl)],[],Q=>(match (Ty.sl noTy).of [cl] with
  | some (l,[])=>(l.length:Int)<=40/\dv l≠0/\Q (.cH [.c (.d .u8 []),.c (.k (.int .i64 (dv l)))]) []
  | _=>False)
 | _,_,_=>False
def alE:=gJ.add adD
def FW (l:(List (noTy).den)):dx:=λQ=>dG l ((aA l)<=(1000:Int)/\dv l≠0/\(bx<=eU->aD .i64 (dv l)->br (dv l !=0) (Q (.cH [.c (.k bZ),.c (.k (.int .i64 (dv l)))]) []) False))
theorem Yj:cu 26 DP:=by
 intro args H Q h;unfold DP at h;split at h;rotate_left;cases h;rename_i cl;split at h;rotate_left;cases h;rename_i l hl;refine Wp.said (args':=[.c (.d noTy l)]) (λE g=>bm.cr (dH hl) (λ_ h=>h)) ?_;clear hl;refine Wp.kC [some (.sl .u8),none] [0] ?_;refine Wp.dC alE pD ⟨[],[]⟩ Tryz.f26 (FW l) (unr:=[(15,7)]) ?_;unfold FW dG eU bZ aA bx;obtain ⟨hl,hc,h⟩:=h;refine λ_=>⟨by omega,hc,λ_ _=>aq (λ_=>⟨cY _,h⟩) (by grind)⟩
def DO:Ct
 | [.v (.c cl)],[],Q=>(match (Ty.sl noTy).of [cl] with
  | some (l,[])=>(l.length:Int)<=40/\dv l=0/\∀ L' im,L'.Perm l->L'.Pairwise (λx y=>¬cmpL y.1 x.1< 0)->UG im (bJ L' [])->Q (.cH [.c (.d .u8 im),.c (.k (.int .i64 0))]) []
  | _=>False)
 | _,_,_=>False
def alD:=((((((((((gJ.add Bh).add E8).add KN).add agp).add Bf).add HS).add Bl).add adC).add U9).add U7).add aea
abbrev Iy (R:Prop):=bI=bI/\bI=bI/\ah<=ah/\ah< (↑bI:Int)/\bI=bI/\R
abbrev Cz (y0:List aZ):=aB noTy (bJ y0 []) ah
def FV (l:(List (noTy).den)):dx:=λQ=>dG l ((aA l)<=(1000:Int)/\dv l=ah/\∀ (L':List aZ),List.Perm L' l->oG L' (aJ (List.length (bJ L' []))->aD .i64 0->bj (Iy (∀ (A:Value->Atom),WB A dB [] []->ah<=ah/\ah< 
 oB/\bI=bI/\∀ (A_1:Value->Atom),WB A_1 dB [] []->ah<=ah/\ah< oB/\bI=bI/\∀ (A_2:Value->Atom),WB A_2 dB [] []->List.length (bJ L' [])<=1100/\∀ (ys:List Int),ON (bJ L' 
 []) ys->aJ (List.length ys)->ah<=ah/\ah< oB/\(List.length (bJ L' [])<=40/\(∀ (x:Ty.den (noTy)),List.Mem x (bJ L' [])->List.length x.2.2.2.2.1<=4096)/\(∀ (x:Ty.den (noTy)),List.Mem x (bJ L' [])->∀ (y 
 :Ty.den (noTy)),List.Mem y (bJ L' [])->x.2.1=y.2.1->x.2.2=y.2.2)/\bx=bx)/\∃ T fi,jM (List.map (λl=>HO.fx (iG [bx,a8,bH]) (lr [.cells 157 [Cl.de (.int .u32) dB ah bx,.k (.int .i64 64),.o 
 2,Cl.m bH],kB [],.sl 5 Ty.u8 []] l)) [bx,a8,bH])=jM [.cells 157 [Cl.de (.int .u32) T ah bx,.k (aC fi),.o 1,Cl.m a8],.sl 5 Ty.u8 [],kB []]/\dQ T ((0<=fi/\fi<=1000000)/\∀ (F':List (Int× 
 Ty.den eC)) (b':List UInt8) (M':List (Kk.den Kk.str×Ty.den bo)) (row:List UInt8) (bg pl:List Int),sb (bJ L' []) T fi b' row bg F'->AQ row bg->rW T fi b' (lP row bg (List.length bg)) pl->List.length b'<=180000 
 ->List.length pl<=40->aJ (List.length pl)->sa (bJ L' []) ys F'/\(ah<=ah/\ah< (aS (bJ L' []))/\17<=List.length (Cz L').1+17)/\∃ T_1 s,Ws A A_1 A_2 T_1 s/\ []=s.Mr/\ []=s.Ms/\List.length s.Ms<= 
 List.length s.Mr/\Ed (bJ L' []) ys F' s bx/\∀ (A1' A2' A3':Value->Atom) (t:BS) (r:Int),Ws A1' A2' A3' T_1 t->List.length t.Ms<=List.length t.Mr->HL (bJ L' []) ys F' s t bx (Cz L').1 (List.length (Cz 
 L').1)->Kk.get Kk.int t.Mr (Cz L').2.1=some r->aD .i64 r->aJ (bw t.Mr)->aJ (List.length ys)->aJ (List.length pl)->gn=gn/\ah<=gn/\gn<=(140737488355328:Int)/\∃ T_2 fi_1 b M,jM [.cells 157 
 [Cl.de (.int .u32) T ah bx,.k (aC fi),.o 1,Cl.m a8],.sl 5 Ty.u8 b',kB M']=jM [.cells 157 [Cl.de (.int .u32) T_2 ah bx,.k (aC fi_1),.o 1,Cl.m a8],.sl 5 Ty.u8 b,kB M]/\je b (aJ (bw b)->∃ T R 
 fs,WB A1' T R fs/\fW R (∀ (A':Value->Atom) (fs':List (List UInt8)),kM T (fs++fs') R->aJ (yk fs fs')->∃ T R bT,WB A2' T R bT/\fW R (∀ (A':Value->Atom) (a7:List (List UInt8)),kM T (bT++a7) R 
 ->aJ (yk bT a7)->ah<=ah/\ah< oB/\bI=bI/\((cL=dw\/cL=cL)/\(∀ (x:Ty.den bo),x∈pl->(0:Ty.den bo)<=x/\x< (256:Ty.den bo) ^ cW)/\List.length pl<=100000)/\∀ 
 (bW:List (List UInt8)),kM dB bW (gA cW pl)->aJ (List.length (ae bW))->ah<=ah/\ah< oB/\bI=bI/\((dw=dw\/dw=cL)/\(∀ (x:Ty.den bo),x∈ys->(0:Ty.den bo) 
 <=x/\x< (256:Ty.den bo) ^ a8)/\List.length ys<=100000)/\∀ (bU:List (List UInt8)),kM dB bU (gA a8 ys)->aJ (List.length (ae bU))->∃ T R bS,WB A3' T R bS/\fW R (∀ (A':Value->Atom) 
 (a6:List (List UInt8)),kM T (bS++a6) R->aJ (yk bS a6)->Ab<=eU/\ah<=ah/\ah< (↑Ab:Int)/\ah<=ah/\ah< (↑(List.length [b,ae (fs++fs'),ae (bT++a7), 
 ae bW,ae bU,ae (bS++a6)]):Int)/\ah<=ah/\ah< (↑(List.length [b,ae (fs++fs'),ae (bT++a7),ae bW,ae bU,ae (bS++ 
 a6)]):Int)/\(Ty.ok bC (aB bC [b,ae (fs++fs'),ae (bT++a7),ae bW,ae bU,ae (bS++a6)] ah)->(64+List.length (aB bC [b,ae (fs++fs'), 
 ae (bT++a7),ae bW,ae bU,ae (bS++a6)] ah))*1<=ck/\64+List.length (aB bC [b,ae (fs++fs'),ae (bT++a7),ae bW,ae 
 bU,ae (bS++a6)] ah)<=9223372036854775807/\(aJ (List.length (au ew eD++aB bC [b,ae (fs++fs'),ae (bT++a7),ae bW,ae bU,ae 
 (bS++a6)] ah))->aD .i64 dK/\ah<=ah+1/\ah+1< (↑Ab:Int)/\ah<=ah+1/\ah+1< (↑(List.length [b,ae (fs++fs'),ae (bT++a7),ae bW,ae bU, 
 ae (bS++a6)]):Int)/\ah<=ah+1/\ah+1< (↑(List.length [b,ae (fs++fs'),ae (bT++a7),ae bW,ae bU,ae (bS++a6)]):Int)/\(Ty.ok bC 
 (aB bC [b,ae (fs++fs'),ae (bT++a7),ae bW,ae bU,ae (bS++a6)] dK)->(List.length (au ew eD++aB bC [b,ae (fs++fs'), 
 ae (bT++a7),ae bW,ae bU,ae (bS++a6)] ah)+List.length (aB bC [b,ae (fs++fs'),ae (bT++a7),ae bW,ae bU,ae 
 (bS++a6)] dK))*1<=ck/\List.length (au ew eD++aB bC [b,ae (fs++fs'),ae (bT++a7),ae bW,ae bU,ae (bS++a6)] ah)+List.length 
 (aB bC [b,ae (fs++fs'),ae (bT++a7),ae bW,ae bU,ae (bS++a6)] dK)<=9223372036854775807/\(aJ (List.length (au ew eD++aB bC [b, 
 ae (fs++fs'),ae (bT++a7),ae bW,ae bU,ae (bS++a6)] ah++aB bC [b,ae (fs++fs'),ae (bT++a7),ae bW,ae bU, 
 ae (bS++a6)] dK))->aD .i64 dR/\ah<=ah+1+1/\ah+1+1< (↑Ab:Int)/\ah<=ah+1+1/\ah+1+1< (↑(List.length [b,ae (fs++fs'),ae (bT++a7), 
 ae bW,ae bU,ae (bS++a6)]):Int)/\ah<=ah+1+1/\ah+1+1< (↑(List.length [b,ae (fs++fs'),ae (bT++a7),ae bW,ae bU, 
 ae (bS++a6)]):Int)/\(Ty.ok bC (aB bC [b,ae (fs++fs'),ae (bT++a7),ae bW,ae bU,ae (bS++a6)] dR)->(List.length (au ew eD 
 ++aB bC [b,ae (fs++fs'),ae (bT++a7),ae bW,ae bU,ae (bS++a6)] ah++aB bC [b,ae (fs++fs'),ae (bT++a7),ae bW, 
 ae bU,ae (bS++a6)] dK)+List.length (aB bC [b,ae (fs++fs'),ae (bT++a7),ae bW,ae bU,ae (bS++a6)] dR))*1<=ck/\ 
 List.length (au ew eD++aB bC [b,ae (fs++fs'),ae (bT++a7),ae bW,ae bU,ae (bS++a6)] ah++aB bC [b,ae (fs++fs'), 
 ae (bT++a7),ae bW,ae bU,ae (bS++a6)] dK)+List.length (aB bC [b,ae (fs++fs'),ae (bT++a7),ae bW,ae bU,ae 
 (bS++a6)] dR)<=9223372036854775807/\(aJ (List.length (au ew eD++aB bC [b,ae (fs++fs'),ae (bT++a7),ae bW,ae bU,ae (bS++a6)] 
 ah++aB bC [b,ae (fs++fs'),ae (bT++a7),ae bW,ae bU,ae (bS++a6)] dK++aB bC [b,ae (fs++fs'),ae (bT++a7),ae 
 bW,ae bU,ae (bS++a6)] dR))->aD .i64 eu/\ah<=ah+1+1+1/\ah+1+1+1< (↑Ab:Int)/\ah<=ah+1+1+1/\ah+1+1+1< (↑(List.length [b,ae (fs++fs'), 
 ae (bT++a7),ae bW,ae bU,ae (bS++a6)]):Int)/\ah<=ah+1+1+1/\ah+1+1+1< (↑(List.length [b,ae (fs++fs'),ae (bT++a7), 
 ae bW,ae bU,ae (bS++a6)]):Int)/\(Ty.ok bC (aB bC [b,ae (fs++fs'),ae (bT++a7),ae bW,ae bU,ae (bS++a6)] eu)-> 
 (List.length (au ew eD++aB bC [b,ae (fs++fs'),ae (bT++a7),ae bW,ae bU,ae (bS++a6)] ah++aB bC [b,ae (fs++fs'), 
 ae (bT++a7),ae bW,ae bU,ae (bS++a6)] dK++aB bC [b,ae (fs++fs'),ae (bT++a7),ae bW,ae bU,ae (bS++ 
 a6)] dR)+List.length (aB bC [b,ae (fs++fs'),ae (bT++a7),ae bW,ae bU,ae (bS++a6)] eu))*1<=ck/\List.length (au ew eD++aB 
 bC [b,ae (fs++fs'),ae (bT++a7),ae bW,ae bU,ae (bS++a6)] ah++aB bC [b,ae (fs++fs'),ae (bT++a7),ae bW, 
 ae bU,ae (bS++a6)] dK++aB bC [b,ae (fs++fs'),ae (bT++a7),ae bW,ae bU,ae (bS++a6)] dR)+List.length (aB bC [b, 
 ae (fs++fs'),ae (bT++a7),ae bW,ae bU,ae (bS++a6)] eu)<=9223372036854775807/\(aJ (List.length (au ew eD++aB bC [b,ae (fs++ 
 fs'),ae (bT++a7),ae bW,ae bU,ae (bS++a6)] ah++aB bC [b,ae (fs++fs'),ae (bT++a7),ae bW,ae bU,ae (bS 
 ++a6)] dK++aB bC [b,ae (fs++fs'),ae (bT++a7),ae bW,ae bU,ae (bS++a6)] dR++aB bC [b,ae (fs++fs'),ae (bT++a7), 
 ae bW,ae bU,ae (bS++a6)] eu))->aD .i64 eV/\fU (ah+1+1+1+1< (↑Ab:Int)/\fU (ah+1+1+1+1< (↑(List.length [b,ae (fs++fs'),ae (bT++ 
 a7),ae bW,ae bU,ae (bS++a6)]):Int)/\fU (ah+1+1+1+1< (↑(List.length [b,ae (fs++fs'),ae (bT++a7),ae bW,ae bU, 
 ae (bS++a6)]):Int)/\(Ty.ok bC (aB bC [b,ae (fs++fs'),ae (bT++a7),ae bW,ae bU,ae (bS++a6)] eV)->(List.length (au ew eD 
 ++aB bC [b,ae (fs++fs'),ae (bT++a7),ae bW,ae bU,ae (bS++a6)] ah++aB bC [b,ae (fs++fs'),ae (bT++a7),ae bW, 
 ae bU,ae (bS++a6)] dK++aB bC [b,ae (fs++fs'),ae (bT++a7),ae bW,ae bU,ae (bS++a6)] dR++aB bC [b,ae (fs++ 
 fs'),ae (bT++a7),ae bW,ae bU,ae (bS++a6)] eu)+List.length (aB bC [b,ae (fs++fs'),ae (bT++a7),ae bW,ae bU, 
 ae (bS++a6)] eV))*1<=ck/\List.length (au ew eD++aB bC [b,ae (fs++fs'),ae (bT++a7),ae bW,ae bU,ae (bS++a6)] ah 
 ++aB bC [b,ae (fs++fs'),ae (bT++a7),ae bW,ae bU,ae (bS++a6)] dK++aB bC [b,ae (fs++fs'),ae (bT++a7),ae bW, 
 ae bU,ae (bS++a6)] dR++aB bC [b,ae (fs++fs'),ae (bT++a7),ae bW,ae bU,ae (bS++a6)] eu)+List.length (aB bC [b, 
 ae (fs++fs'),ae (bT++a7),ae bW,ae bU,ae (bS++a6)] eV)<=9223372036854775807/\(aJ (List.length (au ew eD++aB bC [b,ae (fs++ 
 fs'),ae (bT++a7),ae bW,ae bU,ae (bS++a6)] ah++aB bC [b,ae (fs++fs'),ae (bT++a7),ae bW,ae bU,ae (bS 
 ++a6)] dK++aB bC [b,ae (fs++fs'),ae (bT++a7),ae bW,ae bU,ae (bS++a6)] dR++aB bC [b,ae (fs++fs'),ae (bT++a7), 
 ae bW,ae bU,ae (bS++a6)] eu++aB bC [b,ae (fs++fs'),ae (bT++a7),ae bW,ae bU,ae (bS++a6)] eV))->aD .i64 fV/\ 
 ah<=ah+1+1+1+1+1/\ah+1+1+1+1+1< (↑Ab:Int)/\ah<=ah+1+1+1+1+1/\ah+1+1+1+1+1< (↑(List.length [b,ae (fs++fs'),ae (bT++a7),ae bW, 
 ae bU,ae (bS++a6)]):Int)/\ah<=ah+1+1+1+1+1/\ah+1+1+1+1+1< (↑(List.length [b,ae (fs++fs'),ae (bT++a7),ae bW,ae bU, 
 ae (bS++a6)]):Int)/\(Ty.ok bC (aB bC [b,ae (fs++fs'),ae (bT++a7),ae bW,ae bU,ae (bS++a6)] fV)->(List.length (au ew eD 
 ++aB bC [b,ae (fs++fs'),ae (bT++a7),ae bW,ae bU,ae (bS++a6)] ah++aB bC [b,ae (fs++fs'),ae (bT++a7),ae bW, 
 ae bU,ae (bS++a6)] dK++aB bC [b,ae (fs++fs'),ae (bT++a7),ae bW,ae bU,ae (bS++a6)] dR++aB bC [b,ae (fs++ 
 fs'),ae (bT++a7),ae bW,ae bU,ae (bS++a6)] eu++aB bC [b,ae (fs++fs'),ae (bT++a7),ae bW,ae bU,ae (bS 
 ++a6)] eV)+List.length (aB bC [b,ae (fs++fs'),ae (bT++a7),ae bW,ae bU,ae (bS++a6)] fV))*1<=ck/\List.length (au ew eD++aB 
 bC [b,ae (fs++fs'),ae (bT++a7),ae bW,ae bU,ae (bS++a6)] ah++aB bC [b,ae (fs++fs'),ae (bT++a7),ae bW, 
 ae bU,ae (bS++a6)] dK++aB bC [b,ae (fs++fs'),ae (bT++a7),ae bW,ae bU,ae (bS++a6)] dR++aB bC [b,ae (fs++ 
 fs'),ae (bT++a7),ae bW,ae bU,ae (bS++a6)] eu++aB bC [b,ae (fs++fs'),ae (bT++a7),ae bW,ae bU,ae (bS 
 ++a6)] eV)+List.length (aB bC [b,ae (fs++fs'),ae (bT++a7),ae bW,ae bU,ae (bS++a6)] fV)<=9223372036854775807/\(aJ (List.length (au 
 ew eD++aB bC [b,ae (fs++fs'),ae (bT++a7),ae bW,ae bU,ae (bS++a6)] ah++aB bC [b,ae (fs++fs'),ae (bT++a7), 
 ae bW,ae bU,ae (bS++a6)] dK++aB bC [b,ae (fs++fs'),ae (bT++a7),ae bW,ae bU,ae (bS++a6)] dR++aB bC [b, 
 ae (fs++fs'),ae (bT++a7),ae bW,ae bU,ae (bS++a6)] eu++aB bC [b,ae (fs++fs'),ae (bT++a7),ae bW,ae bU, 
 ae (bS++a6)] eV++aB bC [b,ae (fs++fs'),ae (bT++a7),ae bW,ae bU,ae (bS++a6)] fV))->aD .i64 kU/\br (decide ((aS (au 
 ew eD++aB bC [b,ae (fs++fs'),ae (bT++a7),ae bW,ae bU,ae (bS++a6)] ah++aB bC [b,ae (fs++fs'),ae (bT++a7), 
 ae bW,ae bU,ae (bS++a6)] dK++aB bC [b,ae (fs++fs'),ae (bT++a7),ae bW,ae bU,ae (bS++a6)] dR++aB bC [b, 
 ae (fs++fs'),ae (bT++a7),ae bW,ae bU,ae (bS++a6)] eu++aB bC [b,ae (fs++fs'),ae (bT++a7),ae bW,ae bU, 
 ae (bS++a6)] eV++aB bC [b,ae (fs++fs'),ae (bT++a7),ae bW,ae bU,ae (bS++a6)] fV))>(1048576:Int))) (sR Q) (ah<=ah/\ah< 
 oB/\bI=bI/\rU ((aS (au ew eD++aB bC [b,ae (fs++fs'),ae (bT++a7),ae bW,ae bU,ae (bS++a6)] ah++aB bC [b, 
 ae (fs++fs'),ae (bT++a7),ae bW,ae bU,ae (bS++a6)] dK++aB bC [b,ae (fs++fs'),ae (bT++a7),ae bW,ae bU, 
 ae (bS++a6)] dR++aB bC [b,ae (fs++fs'),ae (bT++a7),ae bW,ae bU,ae (bS++a6)] eu++aB bC [b,ae (fs++fs'),ae 
 (bT++a7),ae bW,ae bU,ae (bS++a6)] eV++aB bC [b,ae (fs++fs'),ae (bT++a7),ae bW,ae bU,ae (bS++a6)] fV)), 
 (aS t.Mr),(aS (au ew eD++aB bC [b,ae (fs++fs'),ae (bT++a7),ae bW,ae bU,ae (bS++a6)] ah)),(aS (au ew eD++aB 
 bC [b,ae (fs++fs'),ae (bT++a7),ae bW,ae bU,ae (bS++a6)] ah++aB bC [b,ae (fs++fs'),ae (bT++a7),ae bW, 
 ae bU,ae (bS++a6)] dK)),(aS (au ew eD++aB bC [b,ae (fs++fs'),ae (bT++a7),ae bW,ae bU,ae (bS++a6)] ah 
 ++aB bC [b,ae (fs++fs'),ae (bT++a7),ae bW,ae bU,ae (bS++a6)] dK++aB bC [b,ae (fs++fs'),ae (bT++a7),ae bW, 
 ae bU,ae (bS++a6)] dR)),(aS (au ew eD++aB bC [b,ae (fs++fs'),ae (bT++a7),ae bW,ae bU,ae (bS++a6)] ah 
 ++aB bC [b,ae (fs++fs'),ae (bT++a7),ae bW,ae bU,ae (bS++a6)] dK++aB bC [b,ae (fs++fs'),ae (bT++a7),ae bW, 
 ae bU,ae (bS++a6)] dR++aB bC [b,ae (fs++fs'),ae (bT++a7),ae bW,ae bU,ae (bS++a6)] eu)),(aS (au ew eD 
 ++aB bC [b,ae (fs++fs'),ae (bT++a7),ae bW,ae bU,ae (bS++a6)] ah++aB bC [b,ae (fs++fs'),ae (bT++a7),ae bW, 
 ae bU,ae (bS++a6)] dK++aB bC [b,ae (fs++fs'),ae (bT++a7),ae bW,ae bU,ae (bS++a6)] dR++aB bC [b,ae (fs++ 
 fs'),ae (bT++a7),ae bW,ae bU,ae (bS++a6)] eu++aB bC [b,ae (fs++fs'),ae (bT++a7),ae bW,ae bU,ae (bS 
 ++a6)] eV)),(aA ys),(aA pl),r,())/\(List.length (fM dB ((aS (au ew eD++aB bC [b,ae (fs++fs'),ae (bT++a7),ae bW,ae bU,ae 
 (bS++a6)] ah++aB bC [b,ae (fs++fs'),ae (bT++a7),ae bW,ae bU,ae (bS++a6)] dK++aB bC [b,ae (fs++fs'),ae (bT++a7), 
 ae bW,ae bU,ae (bS++a6)] dR++aB bC [b,ae (fs++fs'),ae (bT++a7),ae bW,ae bU,ae (bS++a6)] eu++aB bC [b, 
 ae (fs++fs'),ae (bT++a7),ae bW,ae bU,ae (bS++a6)] eV++aB bC [b,ae (fs++fs'),ae (bT++a7),ae bW,ae bU, 
 ae (bS++a6)] fV)),(aS t.Mr),(aS (au ew eD++aB bC [b,ae (fs++fs'),ae (bT++a7),ae bW,ae bU,ae (bS++a6)] ah)), 
 (aS (au ew eD++aB bC [b,ae (fs++fs'),ae (bT++a7),ae bW,ae bU,ae (bS++a6)] ah++aB bC [b,ae (fs++fs'),ae 
 (bT++a7),ae bW,ae bU,ae (bS++a6)] dK)),(aS (au ew eD++aB bC [b,ae (fs++fs'),ae (bT++a7),ae bW,ae bU, 
 ae (bS++a6)] ah++aB bC [b,ae (fs++fs'),ae (bT++a7),ae bW,ae bU,ae (bS++a6)] dK++aB bC [b,ae (fs++fs'),ae 
 (bT++a7),ae bW,ae bU,ae (bS++a6)] dR)),(aS (au ew eD++aB bC [b,ae (fs++fs'),ae (bT++a7),ae bW,ae bU, 
 ae (bS++a6)] ah++aB bC [b,ae (fs++fs'),ae (bT++a7),ae bW,ae bU,ae (bS++a6)] dK++aB bC [b,ae (fs++fs'),ae 
 (bT++a7),ae bW,ae bU,ae (bS++a6)] dR++aB bC [b,ae (fs++fs'),ae (bT++a7),ae bW,ae bU,ae (bS++a6)] eu)), 
 (aS (au ew eD++aB bC [b,ae (fs++fs'),ae (bT++a7),ae bW,ae bU,ae (bS++a6)] ah++aB bC [b,ae (fs++fs'),ae 
 (bT++a7),ae bW,ae bU,ae (bS++a6)] dK++aB bC [b,ae (fs++fs'),ae (bT++a7),ae bW,ae bU,ae (bS++a6)] dR++ 
 aB bC [b,ae (fs++fs'),ae (bT++a7),ae bW,ae bU,ae (bS++a6)] eu++aB bC [b,ae (fs++fs'),ae (bT++a7),ae bW, 
 ae bU,ae (bS++a6)] eV)),(aA ys),(aA pl),r,()))<=9223372036854775807->aD .i64 0->Q ll [.sl 5 Ty.u8 (mF (au ew eD++aB bC [b,ae (fs++fs'),ae 
 (bT++a7),ae bW,ae bU,ae (bS++a6)] ah++aB bC [b,ae (fs++fs'),ae (bT++a7),ae bW,ae bU,ae (bS++a6)] dK++ 
 aB bC [b,ae (fs++fs'),ae (bT++a7),ae bW,ae bU,ae (bS++a6)] dR++aB bC [b,ae (fs++fs'),ae (bT++a7),ae bW, 
 ae bU,ae (bS++a6)] eu++aB bC [b,ae (fs++fs'),ae (bT++a7),ae bW,ae bU,ae (bS++a6)] eV++aB bC [b,ae (fs++ 
 fs'),ae (bT++a7),ae bW,ae bU,ae (bS++a6)] fV) bx (fM dB ((aS (au ew eD++aB bC [b,ae (fs++fs'),ae (bT++a7), 
 ae bW,ae bU,ae (bS++a6)] ah++aB bC [b,ae (fs++fs'),ae (bT++a7),ae bW,ae bU,ae (bS++a6)] dK++aB bC [b, 
 ae (fs++fs'),ae (bT++a7),ae bW,ae bU,ae (bS++a6)] dR++aB bC [b,ae (fs++fs'),ae (bT++a7),ae bW,ae bU, 
 ae (bS++a6)] eu++aB bC [b,ae (fs++fs'),ae (bT++a7),ae bW,ae bU,ae (bS++a6)] eV++aB bC [b,ae (fs++fs'),ae 
 (bT++a7),ae bW,ae bU,ae (bS++a6)] fV)),(aS t.Mr),(aS (au ew eD++aB bC [b,ae (fs++fs'),ae (bT++a7),ae bW, 
 ae bU,ae (bS++a6)] ah)),(aS (au ew eD++aB bC [b,ae (fs++fs'),ae (bT++a7),ae bW,ae bU,ae (bS++a6)] ah 
 ++aB bC [b,ae (fs++fs'),ae (bT++a7),ae bW,ae bU,ae (bS++a6)] dK)),(aS (au ew eD++aB bC [b,ae (fs++fs'),ae 
 (bT++a7),ae bW,ae bU,ae (bS++a6)] ah++aB bC [b,ae (fs++fs'),ae (bT++a7),ae bW,ae bU,ae (bS++a6)] dK++ 
 aB bC [b,ae (fs++fs'),ae (bT++a7),ae bW,ae bU,ae (bS++a6)] dR)),(aS (au ew eD++aB bC [b,ae (fs++fs'),ae 
 (bT++a7),ae bW,ae bU,ae (bS++a6)] ah++aB bC [b,ae (fs++fs'),ae (bT++a7),ae bW,ae bU,ae (bS++a6)] dK++ 
 aB bC [b,ae (fs++fs'),ae (bT++a7),ae bW,ae bU,ae (bS++a6)] dR++aB bC [b,ae (fs++fs'),ae (bT++a7),ae bW, 
 ae bU,ae (bS++a6)] eu)),(aS (au ew eD++aB bC [b,ae (fs++fs'),ae (bT++a7),ae bW,ae bU,ae (bS++a6)] ah 
 ++aB bC [b,ae (fs++fs'),ae (bT++a7),ae bW,ae bU,ae (bS++a6)] dK++aB bC [b,ae (fs++fs'),ae (bT++a7),ae bW, 
 ae bU,ae (bS++a6)] dR++aB bC [b,ae (fs++fs'),ae (bT++a7),ae bW,ae bU,ae (bS++a6)] eu++aB bC [b,ae (fs++ 
 fs'),ae (bT++a7),ae bW,ae bU,ae (bS++a6)] eV)),(aA ys),(aA pl),r,())))]))))))))))))))))))))))))))
theorem Yi:cu 26 DO:=by
 intro args H Q h;unfold DO at h;split at h;rotate_left;cases h;rename_i cl;split at h;rotate_left;cases h;rename_i l hl;refine Wp.said (args':=[.c (.d noTy l)]) (λE g=>bm.cr (dH hl) (λ_ h=>h)) ?_;clear hl;refine Wp.kC [some (.sl .u8),none] [0] ?_;refine Wp.dC alD pD ⟨[],[]⟩ Tryz.f26 (FV l) (hold:=[47,49,57,52]) (unr:=[(15,7)]) ?_;unfold FV Cz oB yk Iy je bj sR oG ll fW dQ dK fU dG eU eD bw dR kU eu fV ck eV bZ aR aC ah dw cL gn aS aA aJ bx bH a8 bI cW Ab ew kB bC bo;obtain ⟨hl,hc,h⟩:=h;refine λ_=>⟨by omega,hc,λL' hp ho hnl _=>?_⟩;have g:=L3 (L4 hc) hp ho;have hN40:(bJ L' []).length<=40:=by rw [iq,hp.length_eq];omega
 have aaq:=λim=>h L' im hp ho;clear h;generalize bJ L' []=N at*;have xe:=g.pos;obtain ⟨gr1,gr2,gr3⟩:=g.root;have hm0:aB noTy N 0∈N:=tk (e:=noTy) (bB 0) (by omega);refine ⟨rfl,rfl,rfl,by decide,by decide,rfl,λA1 hA1=>⟨by decide,by decide,rfl,λA2 hA2=>⟨by decide,by decide,rfl,λA3 hA3=>⟨by omega,λys Nu _=>⟨by decide,by decide,⟨hN40,λx hx=>(oK (g.may x hx)).2,λx hx y hy e=>(g.one x hx y hy e).2,rfl⟩,dB,64,rfl,rfl,⟨by decide,by decide⟩,λF' b' M' row bg pl hF hP hPl hb JB _=>?_⟩⟩⟩⟩⟩;have hbg:bg.length<=40:=by have:=hPl.len;rw [qw] at this;omega
 have hTok:=ai5 g hN40 Nu hF hP hb hbg;refine ⟨hTok,⟨bB _,by omega,by omega⟩,dB,⟨[],[],[],[],[],[],[],[]⟩,⟨hA1,hA2,hA3⟩,rfl,rfl,aG _,Ed.nil _ _ _,λB1 B2 B3 t r hW hM hP2 hr _ _ _ _=>?_⟩;have Dh:=hP2.ok.len;have hRI:=hP2.ok.lI;have hRL:=hP2.ok.lL;have hRX:=hP2.ok.lX;have hil:=hTok.idl;have za:=ajL g Nu;refine ⟨rfl,by decide,by decide,dB,64,b',M',rfl,by omega,λ_=>⟨dB,t.RI,t.fI,hW.i,by omega,λ_ gI kI _=>⟨dB,t.RL,t.fL,hW.l,by omega,λ_ gL kL _=>⟨by decide,by decide,rfl,⟨.inr rfl,Zp hPl (by omega),by omega⟩,λfP kP _=>⟨by decide,by decide,rfl,⟨.inl rfl,za,by omega⟩,λfN kN _=>⟨dB,t.RX,t.fX,hW.x,by omega,λ_ gX kX _=>?_⟩⟩⟩⟩⟩⟩;have nI:=kI.aaA;have nL:=kL.aaA;have nP:=kP.aaA;have nN:=kN.aaA;have nX:=kX.aaA;rw [kI.len] at nI;rw [kL.len] at nL;rw [kP.len,jR] at nP;rw [kN.len,jR] at nN;rw [kX.len] at nX;obtain ⟨q1,e1⟩:∃ q,(t.fI++gI).flatten=q:=⟨_,rfl⟩;obtain ⟨q2,e2⟩:∃ q,(t.fL++gL).flatten=q:=⟨_,rfl⟩;obtain ⟨q3,e3⟩:∃ q,fP.flatten=q:=⟨_,rfl⟩;obtain ⟨q4,e4⟩:∃ q,fN.flatten=q:=⟨_,rfl⟩;obtain ⟨q5,e5⟩:∃ q,(t.fX++gX).flatten=q:=⟨_,rfl⟩;rw [e1] at nI;rw [e2] at nL;rw [e3] at nP;rw [e4] at nN;rw [e5] at nX;rw [e1,e2,e3,e4,e5];have v7:=(hP2.ok.refs _ _ hr).1;have hMr:0< t.Mr.length:=List.length_pos_of_mem (oT (κ:=Int) hr);have hyl:0< ys.length:=List.length_pos_of_mem ((Nu.mem _).2 ⟨_,hm0,.inl rfl⟩);have six:(List.length [b',q1,q2,q3,q4,q5])=6:=rfl;have x0:aB (Ty.sl Ty.u8) [b',q1,q2,q3,q4,q5] ((0:Int))=b':=rfl;have x1:aB (Ty.sl Ty.u8) [b',q1,q2,q3,q4,q5] ((0:Int)+(1:Int))=q1:=rfl;have x2:aB (Ty.sl Ty.u8) [b',q1,q2,q3,q4,q5] ((0:Int)+(1:Int)+(1:Int))=q2:=rfl;have x3:aB (Ty.sl Ty.u8) [b',q1,q2,q3,q4,q5] ((0:Int)+(1:Int)+(1:Int)+(1:Int))=q3:=rfl;have x4:aB (Ty.sl Ty.u8) [b',q1,q2,q3,q4,q5] ((0:Int)+(1:Int)+(1:Int)+(1:Int)+(1:Int))=q4:=rfl;have x5:aB (Ty.sl Ty.u8) [b',q1,q2,q3,q4,q5] ((0:Int)+(1:Int)+(1:Int)+(1:Int)+(1:Int)+(1:Int))=q5:=rfl;simp only [x0,x1,x2,x3,x4,x5,six];clear x0 x1 x2 x3 x4 x5 six;have hS:∀ z0 z2 z3 z4 z5 z6:Int,z2=64+(b'.length:Int)->z3=z2+q1.length->z4=z3+q2.length->z5=z4+q3.length->z6=z5+q4.length->z0=z6+q5.length->rU (z0,(t.Mr.length:Int),z2,z3,z4,z5,z6,(ys.length:Int),(pl.length:Int),r,()):=λz0 z2 z3 z4 z5 z6 w2 w3 w4 w5 w6 w0=>⟨by show (64:Int)<=z2;omega,by show z2<=z3;omega,by show z3<=z4;omega,by show z4<=z5;omega,by show z5<=z6;omega,by show z6<=z0;omega,by show z0<=1048576;omega,by show (1:Int)<=(t.Mr.length:Int)/\(t.Mr.length:Int)<=1024;omega,by show (1:Int)<=(ys.length:Int)/\(ys.length:Int)<=2048;omega,by show (0:Int)<=(pl.length:Int)/\(pl.length:Int)<=1024;omega,v7⟩;refine ⟨by decide,by decide,by decide,by decide,by decide,by decide,by decide,λ_=>⟨by first| omega| (simp only [af,aY];omega),by first| omega| (simp only [af,aY];omega),λ_=>⟨by unfold aD;omega,⟨by decide,by decide,by decide,by decide,by decide,by decide,λ_=>⟨by first| omega| (simp only [af,aY];omega),by first| omega| (simp only [af,aY];omega),λ_=>⟨by unfold aD;omega,⟨by decide,by decide,by decide,by decide,by decide,by decide,λ_=>⟨by first| omega| (simp only [af,aY];omega),by first| omega| (simp only [af,aY];omega),λ_=>⟨by unfold aD;omega,⟨by decide,by decide,by decide,by decide,by decide,by decide,λ_=>⟨by first| omega| (simp only [af,aY];omega),by first| omega| (simp only [af,aY];omega),λ_=>⟨by unfold aD;omega,⟨by decide,by decide,by decide,by decide,by decide,by decide,λ_=>⟨by first| omega| (simp only [af,aY];omega),by first| omega| (simp only [af,aY];omega),λ_=>⟨by unfold aD;omega,⟨by decide,by decide,by decide,by decide,by decide,by decide,λ_=>⟨by first| omega| (simp only [af,aY];omega),by first| omega| (simp only [af,aY];omega),λ_=>⟨by unfold aD;omega,aq (λhq=>absurd (of_decide_eq_true hq) (by first| omega| (simp only [af,aY];omega))) (λ_=>⟨by decide,by decide,by trivial,hS _ _ _ _ _ _ (by first| omega| (simp only [af,aY];omega)) (by first| omega| (simp only [af,aY];omega)) (by first| omega| (simp only [af,aY];omega)) (by first| omega| (simp only [af,aY];omega)) (by first| omega| (simp only [af,aY];omega)) (by first| omega| (simp only [af,aY];omega)),λ_ _=>?_⟩)⟩⟩⟩⟩⟩⟩⟩⟩⟩⟩⟩⟩⟩⟩⟩⟩⟩⟩
 exact ⟨cY _,aaq _ (ajK e1 e2 e3 e4 e5 hTok ⟨_,hm0,gr1,gr2,hr⟩ hP2.ok (λx hx=>hP2.cov x hx (by unfold pre;rw [gr1];rfl) (by rw [gr1];exact cY _)) hF hP hPl ⟨kI,gI,rfl⟩ ⟨kL,gL,rfl⟩ ⟨kX,gX,rfl⟩ kP kN za (hS _ _ _ _ _ _ (by first| omega| (simp only [af,aY];omega)) (by first| omega| (simp only [af,aY];omega)) (by first| omega| (simp only [af,aY];omega)) (by first| omega| (simp only [af,aY];omega)) (by first| omega| (simp only [af,aY];omega)) (by first| omega| (simp only [af,aY];omega))))⟩
def Un:Ct
 | [.v (.c cl)],[],Q=>(match (Ty.sl noTy).of [cl] with
  | some (l,[])=>(l.length:Int)<=40/\br (dv l !=0) (Q (.cH [.c (.d .u8 []),.c (.k (.int .i64 (dv l)))]) []) (∀ L' im,L'.Perm l->L'.Pairwise (λx y=>¬cmpL y.1 x.1< 0)->UG im (bJ L' [])->Q (.cH [.c (.d .u8 im),.c (.k (.int .i64 0))]) [])
  | _=>False)
 | _,_,_=>False
theorem ad9:cu 26 Un:=λargs H Q h=>by
 unfold Un at h;split at h
 .rename_i cl;cases hq:(Ty.sl noTy).of [cl] with
  | none=>rw [hq] at h;exact h.elim
  | some q=>
   obtain ⟨l,r⟩:=q;rw [hq] at h;cases r with
   | cons a r=>exact h.elim
   | nil=>
    obtain ⟨h1,h2⟩:=h;by_cases hc:dv l=0
    .refine Yi _ _ _ ?_;unfold DO;simp only [hq];rw [show (dv l !=0)=false by simpa using hc] at h2;exact ⟨h1,hc,h2⟩
    .refine Yj _ _ _ ?_;unfold DP;simp only [hq];rw [show (dv l !=0)=true by simpa using hc] at h2;exact ⟨h1,hc,h2⟩
 .cases h
end Go.Proofs

namespace Go.Lm
open Go
theorem MI {T:List Int} {im A:List UInt8} {a c:Int} {fs S:List (List UInt8)} {R:List UInt8} (e:im=A++(fs.flatten++S.flatten)) (ea:a=A.length) (ec:c=a+fs.flatten.length) (h:kM T fs R) (hS:∀ z∈S,∃ x,Ea T x z):iY T im a c fs R []:=by
 subst e ea ec;refine ⟨by omega,rfl,by grind,h,by simp,?_,by simp⟩;cases S with
 | nil=>grind
 | cons z S=>
  obtain ⟨x,hx⟩:=hS z aK;refine .inr ⟨x,_,by omega,by grind,z,S.flatten,hx,?_,rfl⟩;rw [show ((A.length:Int)+(fs.flatten.length:Int)).toNat=A.length+fs.flatten.length by omega,<-eP,lH,lH,dD]
theorem kM.frm {T:List Int} {fs:List (List UInt8)} {R:List UInt8} (h:kM T fs R):∀ z∈fs,∃ x,Ea T x z:=λz hz=>by
 obtain ⟨i,hi⟩:=List.mem_iff_getElem?.1 hz;exact ⟨_,h.fr i z hi⟩
structure Rds (T:List Int) (im:List UInt8) (d:IR):Prop where
 I:iY T im d.s.2.2.1 d.s.2.2.2.1 d.fI d.t.RI []
 L:iY T im d.s.2.2.2.1 d.s.2.2.2.2.1 d.fL d.t.RL []
 P:iY T im d.s.2.2.2.2.1 d.s.2.2.2.2.2.1 d.fP (gA 4 d.pl) []
 N:iY T im d.s.2.2.2.2.2.1 d.s.2.2.2.2.2.2.1 d.fN (gA 2 d.ids) []
 X:iY T im d.s.2.2.2.2.2.2.1 d.s.1 d.fX d.t.RX []
theorem aqL {P:List UInt8->Prop} {S S':List (List UInt8)} (h:∀ z∈S,P z) (h':∀ z∈S',P z):∀ z∈S++S',P z:=by grind
theorem IR.Ok.rds {d:IR} {T:List Int} {L:List aZ} (h:d.Ok T L):Rds T (d.im T) d:=by
 have fL:=h.rL.1.frm;have fX:=h.rX.1.frm;have fP:=h.rP.frm;have fN:=h.rN.frm;have e0:=lT T d.s;have sI:=h.sI;have sL:=h.sL;have sP:=h.sP;have sN:=h.sN;have sX:=h.sX;have sZ:=h.sZ;unfold IR.im;refine ⟨MI (A:=fM T d.s++d.b) (S:=d.fL++(d.fP++(d.fN++d.fX))) ?_ ?_ sL h.rI.1 (by grind),
  MI (A:=fM T d.s++d.b++d.fI.flatten) (S:=d.fP++(d.fN++d.fX)) ?_ ?_ sP h.rL.1 (by grind),
  MI (A:=fM T d.s++d.b++d.fI.flatten++d.fL.flatten) (S:=d.fN++d.fX) ?_ ?_ sN h.rP (aqL fN fX),
  MI (A:=fM T d.s++d.b++d.fI.flatten++d.fL.flatten++d.fP.flatten) (S:=d.fX) ?_ ?_ sX h.rN fX,
  MI (A:=fM T d.s++d.b++d.fI.flatten++d.fL.flatten++d.fP.flatten++d.fN.flatten) (S:=[]) ?_ ?_ sZ h.rX.1 (by grind)⟩
 all_goals grind
theorem IR.Z9 {d:IR} {T:List Int} {L:List aZ} (h:d.Ok T L): @Eq Int d.s.1 (d.im T).length:=by
 have:=h.sI;have:=h.sL;have:=h.sP;have:=h.sN;have:=h.sX;have:=h.sZ
 grind [IR.im, lT]
theorem IR.Ok.small {d:IR} {T:List Int} {L:List aZ} (h:d.Ok T L):(d.im T).length<=1048576/\d.b.length<=1048576/\d.t.RI.length<=8800/\d.t.RL.length<=420000/\d.t.RX.length<=168000/\d.pl.length<=1024/\d.ids.length<=80/\d.t.Mr.length<=40:=by
 have e:=IR.Z9 h;have p7:=h.sup.p7;have n3:=h.sup.n3;have sf:=h.sf;have hl:=h.tok.len;have hm:=h.ok.len;have hI:=h.ok.lI;have hL:=h.ok.lL;have hX:=h.ok.lX;have hi:=h.tok.idl
 grind [IR.im]
theorem Has.at {fs g:List (List UInt8)} {R b:List UInt8} {r:Int} (h:Has fs R r b):∃ o:Nat,o<=R.length/\r=(dX (fs++g) o:Nat)/\∃ q,R.drop o=b++q:=by
 obtain ⟨o,q,h1,h2⟩:=h;exact ⟨o,h1.le,h1.ref g,q,h2⟩
theorem zD.im {T:List Int} {im A b C x:List UInt8} {st:Int} (e:im=A++(b++C)) (ha:A.length=64) (hx:128<=x.length) (h:zD T 64 b st x):∃ fs,D9 T im st x fs/\64<=st/\st+fs.flatten.length<=64+b.length:=by
 rcases h.or with ⟨q,_⟩| ⟨_,o,rfl,q⟩;omega
 .obtain ⟨fs,r,h1,h2,h3,h4⟩:=q;have hl:=congrArg List.length h3;rw [aQ,af] at hl;refine ⟨fs,⟨h1,h2,by omega,by grind,r++C,?_⟩,by omega,by omega⟩;rw [e,show ((64:Int)+(o:Int)).toNat=A.length+o by omega,<-eP,lH,eT h4,h3,aL]
theorem zD.im0 {T:List Int} {im x:List UInt8} (hx:x.length< 128):D9 T im 0 x []:=by
 exact ⟨by grind,zE.nil T x,bB _,by omega,im,rfl⟩
abbrev bf:Ty:=.pair eC (.pair (.int .i64) (.pair (.sl cw) (.pair (.sl cZ) .unit)))
abbrev fp (M:List (Int×Nat×bf.den)):HO:=.ab (.pm 3 82 bf M)
structure rV (d:IR) (N:List aZ) (x:aZ) (nm:Int) (r:bf.den):Prop where
 n:rD N d.ids d.F d.t x r.1
 nm:r.2.1=nm
 list:(x.2.2.1=1/\iW ⟨#[]⟩ r.2.2.1/\fY N d.t.Mr x.1.length (bY x.1 N 0) r.2.2.1)\/(x.2.2.1≠1/\r.2.2.1= [])
 xa:r.2.2.2.1=x.2.2.2.2.2.2.1
theorem rD.same {N:List aZ} {ids:List Int} {F:List (Int×eC.den)} {s:BS} {x y:aZ} {i:eC.den} (t:sa N ids F) (hx:x∈N) (hy:y∈N) (e:y.2.1=x.2.1) (h:rD N ids F s y i):rD N ids F s x i:=by
 obtain ⟨h1,h2⟩:=t.one x hx y hy e.symm;by_cases hk:x.2.2.1=1
 .grind
 .obtain ⟨y1,y2,y3⟩:=y;subst h2 e;obtain ⟨q1,q2,q3,q4,q5,q6,q7,q8⟩:=h;refine ⟨q1,q2,q3,q4,q5,q6,q7,?_⟩
  grind
theorem IR.Ok.fileAt {d:IR} {T:List Int} {N:List aZ} (h:d.Ok T N) {x:aZ} (hx:x∈N) (hk:x.2.2.1=2) {i:eC.den} (hi:rD N d.ids d.F d.t x i):∃ fs,D9 T (d.im T) i.2.2.2.2.2.2.1 x.2.2.2.2.1 fs/\ @Eq Int i.2.2.2.2.2.2.2.1 x.2.2.2.2.1.length/\(128<=x.2.2.2.2.1.length->(64:Int)<=i.2.2.2.2.2.2.1)/\(i.2.2.2.2.2.2.1:Int)+(fs.flatten.length:Int)<=d.s.2.2.1/\o5 d.row d.bg i.2.2.2.2.2.2.2.2.1 i.2.2.2.2.2.2.2.2.2.1 (x.2.2.2.2.1.drop (128*(x.2.2.2.2.1.length / 128))):=by
 have sI:=h.sI;obtain ⟨st,fr,off,h1,h2,h3⟩:=h.fl.file x hx hk;rcases hi.or with ⟨q,_⟩| ⟨_,q⟩| ⟨q,_⟩;rw [hk] at q;exact absurd q (by decide)
 .rw [h1] at q;have q:=aj q;have e1:st=i.2.2.2.2.2.2.1:=congrArg (λz:eC.den=>z.2.2.2.2.2.2.1) q;have e2:(x.2.2.2.2.1.length:Int)=i.2.2.2.2.2.2.2.1:=congrArg (λz:eC.den=>z.2.2.2.2.2.2.2.1) q;have e3:fr=i.2.2.2.2.2.2.2.2.1:=congrArg (λz:eC.den=>z.2.2.2.2.2.2.2.2.1) q;have e4:off=i.2.2.2.2.2.2.2.2.2.1:=congrArg (λz:eC.den=>z.2.2.2.2.2.2.2.2.2.1) q;rw [<-e1,<-e2,<-e3,<-e4];rcases eW x.2.2.2.2.1.length 128 with hl| hl
  .rcases h2.or with ⟨_,rfl⟩| ⟨q,_⟩
   .refine ⟨[],zD.im0 hl,rfl,λq=>by omega,?_,h3⟩;rw [sI];show (0:Int)+((0:Nat):Int)<=64+(d.b.length:Int);omega
   .omega
  .obtain ⟨fs,q1,q2,q3⟩:=zD.im (C:=d.fI.flatten++(d.fL.flatten++(d.fP.flatten++(d.fN.flatten++d.fX.flatten)))) (im:=d.im T) rfl (lT T d.s) hl h2;exact ⟨fs,q1,rfl,λ_=>q2,by rw [sI];exact q3,h3⟩
 .rw [hk] at q;exact absurd q (by decide)
theorem IR.Ok.ZT {d:IR} {T:List Int} {N:List aZ} (h:d.Ok T N) {x:aZ} (hk:x.2.2.1=1) {i:eC.den} (hi:rD N d.ids d.F d.t x i):∃ es,iW ⟨#[]⟩ es/\fY N d.t.Mr x.1.length (bY x.1 N 0) es/\es.length<=1024/\ @Eq Int i.2.2.2.2.2.2.2.1 (gU es).length/\∃ o:Nat,o+(gU es).length<=d.t.RL.length/\(i.2.2.2.2.2.2.1:Int)=(dX d.fL o:Nat)/\(d.t.RL.drop o).take (gU es).length=gU es:=by
 rcases hi.or with ⟨_,es,h1,h2,h3,h4⟩| ⟨q,_⟩| ⟨q,_⟩
 .obtain ⟨_,g,eg⟩:=h.rL;obtain ⟨o,q1,q2,q,q3⟩:=h3.at (g:=g);have hl:=congrArg List.length q3;have hes:=h2.len;have NA:=kF x.1 (L:=N) (k:=0);have hN:=h.tok.len
  grind [List.take_left]
 .omega
 omega
theorem IR.Ok.amg {d:IR} {T:List Int} {N:List aZ} (h:d.Ok T N) {x:aZ} (hx:x∈N) {i:eC.den} (hi:rD N d.ids d.F d.t x i):((i.2.2.2.2.2.1:Int)=0/\x.2.2.2.2.2.2.1= [])\/((1:Int)<=i.2.2.2.2.2.1/\x.2.2.2.2.2.2.1≠ []/\dF x.2.2.2.2.2.2.1=true/\∃ o:Nat,o<=d.t.RX.length/\(i.2.2.2.2.2.1:Int) - 1=(dX d.fX o:Nat)/\∃ q,d.t.RX.drop o=xsB x.2.2.2.2.2.2.1++q):=by
 rcases hi.xa.or with ⟨q1,q2⟩| ⟨q1,q2,q3⟩
 .grind
 .obtain ⟨_,g,eg⟩:=h.rX;obtain ⟨o,p1,p2,q,p3⟩:=q3.at (g:=g);rw [<-eg] at p2;exact .inr ⟨q2,q1,(vG (h.tok.may x hx)).xa,o,p1,p2,q,p3⟩
theorem IR.Ok.recAt {d:IR} {T:List Int} {N:List aZ} (h:d.Ok T N) {x:aZ} (hx:x∈N) {ref:Int} (hg:Kk.get .int d.t.Mr x.2.1=some ref):∃ i,rD N d.ids d.F d.t x i/\∃ o:Nat,o<=d.t.RI.length/\ref=(dX d.fI o:Nat)/\∃ q,d.t.RI.drop o=fR i++q:=by
 obtain ⟨_,y,hy,ei,i,hH,hN⟩:=h.ok.refs _ _ hg;obtain ⟨_,g,eg⟩:=h.rI;obtain ⟨o,q1,q2,q,q3⟩:=hH.at (g:=g);rw [<-eg] at q2;exact ⟨i,hN.same h.tok hx hy ei,o,q1,q2,q,q3⟩
theorem IR.Ok.aqG {d:IR} {T:List Int} {N:List aZ} (h:d.Ok T N) {x:aZ} (hx:x∈N) {i:eC.den} (hi:rD N d.ids d.F d.t x i):(i.2.2.2.2.2.2.2.2.1:Int)<=(d.pl.length:Int):=by
 rcases hi.ok.or with ⟨_,_,_,q,_⟩| ⟨q,_⟩| ⟨_,_,_,_,q,_⟩
 .grind
 .obtain ⟨fs,_,_,_,_,q5⟩:=h.fileAt hx (by rw [<-hi.kind];exact q) hi;have hl:=h.pls.len;rw [qw] at hl;rcases q5.or with ⟨_,q,_⟩| ⟨_,_,_,j,a,q,q6,_⟩
  .grind
  grind
 grind
end Go.Lm

namespace Go.Proofs
open Go Go.Lm Go.RowKit
set_option maxRecDepth 1000000
def dW:List (Nat×Ty):=(82,bf)::pD
def afS:Ct:=λargs H Q=>∃ (a:Int) (c:Int) (T:List Int) (im:List UInt8) (s0:Int) (s1:Int) (s2:Int) (s3:Int) (s4:Int) (s5:Int) (s6:Int) (s7:Int) (s8:Int) (s9:Int) (nm:Int) (M:List (Int×Nat×bf.den)),args= [.v (.c (.p 0 0)),.int a,.int c]/\H= [.cells 90 [.de (.int .u32) T 0 0,.d .u8 im,.k (.int .i64 s0),.k (.int .i64 s1),.k (.int .i64 s2),.k (.int .i64 s3),.k (.int .i64 s4),.k (.int .i64 s5),.k (.int .i64 s6),.k (.int .i64 s7),.k (.int .i64 s8),.k (.int .i64 s9),.k (.slice none 0 0),.k (.slice none 0 0),.k (.pointer none),.k (.pointer none),.k (.pointer none),.m 1,.k (.int .i64 nm)],.ab (.pm 3 82 bf M)]/\T.length=256/\im.length<=100000000/\∃ fs R,R.length<=10000000/\iY T im a c fs R []/\∀ A,RB A fs R->Q (.c (.p 2 0)) [.cells 90 [.de (.int .u32) T 0 0,.d .u8 im,.k (.int .i64 s0),.k (.int .i64 s1),.k (.int .i64 s2),.k (.int .i64 s3),.k (.int .i64 s4),.k (.int .i64 s5),.k (.int .i64 s6),.k (.int .i64 s7),.k (.int .i64 s8),.k (.int .i64 s9),.k (.slice none 0 0),.k (.slice none 0 0),.k (.pointer none),.k (.pointer none),.k (.pointer none),.m 1,.k (.int .i64 nm)],.ab (.pm 3 82 bf M),.abs A]
def Ke:=gJ.add Ku
abbrev sD (y0:List Int) (y1:List UInt8):=dQ y0 (List.length y1<=100000000)
def Lf (a c:Int) (T:List Int) (im:List UInt8) (s0 s1 s2 s3 s4 s5 s6 s7 s8 s9 nm:Int) (M:(List (Int×Nat×bf.den))):dx:=λQ=>cg a c ((sD T im)/\∃ fs R,fW R (iY T im a c fs R []/\∀ (A:Value->Atom),RB A fs R->Q (SV.v (S1.c (.p 2 0))) [.cells 90 [Cl.de (.int .u32) T ah bx,Cl.d Ty.u8 
 im,.k (aC s0),.k (aC s1),.k (aC s2),.k (aC s3),.k (aC s4),.k (aC s5),.k (aC s6),.k (aC s7),.k (aC s8),.k (aC s9),.k bZ,.k bZ,.k (.pointer none),.k (.pointer none),.k (.pointer none),Cl.m bH,.k 
 (aC nm)],fp M,HO.abs A]))
theorem adQ:cu 59 afS:=by
 intro args H Q h;obtain ⟨a,c,T,im,s0,s1,s2,s3,s4,s5,s6,s7,s8,s9,nm,M,rfl,rfl,h⟩:=h;refine Wp.dC Ke dW ⟨[],[]⟩ Tryz.f59 (Lf a c T im s0 s1 s2 s3 s4 s5 s6 s7 s8 s9 nm M) ?_;unfold Lf sD fW cg dQ bZ aC ah bx bH bI fp
 grind
def afR:Ct:=λargs H Q=>∃ (a:Int) (c:Int) (T:List Int) (im:List UInt8) (s0:Int) (s1:Int) (s2:Int) (s3:Int) (s4:Int) (s5:Int) (s6:Int) (s7:Int) (s8:Int) (s9:Int) (nm:Int) (R1:Value->Atom) (R2:Value->Atom) (R3:Value->Atom) (M:List (Int×Nat×bf.den)),args= [.v (.c (.p 0 0)),.int a,.int c]/\H= [.cells 90 [.de (.int .u32) T 0 0,.d .u8 im,.k (.int .i64 s0),.k (.int .i64 s1),.k (.int .i64 s2),.k (.int .i64 s3),.k (.int .i64 s4),.k (.int .i64 s5),.k (.int .i64 s6),.k (.int .i64 s7),.k (.int .i64 s8),.k (.int .i64 s9),.k (.slice none 0 0),.k (.slice none 0 0),.p 1 0,.p 2 0,.p 3 0,.m 4,.k (.int .i64 nm)],.abs R1,.abs R2,.abs R3,.ab (.pm 3 82 bf M)]/\T.length=256/\im.length<=100000000/\∃ fs R,R.length<=10000000/\iY T im a c fs R []/\∀ A,RB A fs R->Q (.c (.p 5 0)) [.cells 90 [.de (.int .u32) T 0 0,.d .u8 im,.k (.int .i64 s0),.k (.int .i64 s1),.k (.int .i64 s2),.k (.int .i64 s3),.k (.int .i64 s4),.k (.int .i64 s5),.k (.int .i64 s6),.k (.int .i64 s7),.k (.int .i64 s8),.k (.int .i64 s9),.k (.slice none 0 0),.k (.slice none 0 0),.p 1 0,.p 2 0,.p 3 0,.m 4,.k (.int .i64 nm)],.abs R1,.abs R2,.abs R3,.ab (.pm 3 82 bf M),.abs A]
abbrev lW:=SV.v (S1.c (.p 5 0))
def Ld (a c:Int) (T:List Int) (im:List UInt8) (s0 s1 s2 s3 s4 s5 s6 s7 s8 s9 nm:Int) (R1 R2 R3:Value->Atom) (M:(List (Int×Nat×bf.den))):dx:=λQ=>cg a c ((sD T im)/\∃ fs R,fW R (iY T im a c fs R []/\∀ (A:Value->Atom),RB A fs R->Q lW [.cells 90 [Cl.de (.int .u32) T ah bx,Cl.d Ty.u8 im,.k 
 (aC s0),.k (aC s1),.k (aC s2),.k (aC s3),.k (aC s4),.k (aC s5),.k (aC s6),.k (aC s7),.k (aC s8),.k (aC s9),.k bZ,.k bZ,.p 1 0,.p 2 0,.p 3 0,Cl.m cW,.k (aC nm)],HO.abs R1,HO.abs R2,HO.abs R3, 
 fp M,HO.abs A]))
theorem adP:cu 59 afR:=by
 intro args H Q h;obtain ⟨a,c,T,im,s0,s1,s2,s3,s4,s5,s6,s7,s8,s9,nm,R1,R2,R3,M,rfl,rfl,h⟩:=h;refine Wp.dC Ke dW ⟨[],[]⟩ Tryz.f59 (Ld a c T im s0 s1 s2 s3 s4 s5 s6 s7 s8 s9 nm R1 R2 R3 M) ?_;unfold Ld sD lW fW cg dQ bZ aC ah bx bI cW fp
 grind
def afQ:Ct:=λargs H Q=>∃ (a:Int) (c:Int) (T:List Int) (im:List UInt8) (s0:Int) (s1:Int) (s2:Int) (s3:Int) (s4:Int) (s5:Int) (s6:Int) (s7:Int) (s8:Int) (s9:Int) (pl:List Int) (nm:Int) (R1:Value->Atom) (R2:Value->Atom) (R3:Value->Atom) (M:List (Int×Nat×bf.den)),args= [.v (.c (.p 0 0)),.int a,.int c]/\H= [.cells 90 [.de (.int .u32) T 0 0,.d .u8 im,.k (.int .i64 s0),.k (.int .i64 s1),.k (.int .i64 s2),.k (.int .i64 s3),.k (.int .i64 s4),.k (.int .i64 s5),.k (.int .i64 s6),.k (.int .i64 s7),.k (.int .i64 s8),.k (.int .i64 s9),.d (.int .i64) pl,.k (.slice none 0 0),.p 1 0,.p 2 0,.p 3 0,.m 4,.k (.int .i64 nm)],.abs R1,.abs R2,.abs R3,.ab (.pm 3 82 bf M)]/\T.length=256/\im.length<=100000000/\∃ fs R,R.length<=10000000/\iY T im a c fs R []/\∀ A,RB A fs R->Q (.c (.p 5 0)) [.cells 90 [.de (.int .u32) T 0 0,.d .u8 im,.k (.int .i64 s0),.k (.int .i64 s1),.k (.int .i64 s2),.k (.int .i64 s3),.k (.int .i64 s4),.k (.int .i64 s5),.k (.int .i64 s6),.k (.int .i64 s7),.k (.int .i64 s8),.k (.int .i64 s9),.d (.int .i64) pl,.k (.slice none 0 0),.p 1 0,.p 2 0,.p 3 0,.m 4,.k (.int .i64 nm)],.abs R1,.abs R2,.abs R3,.ab (.pm 3 82 bf M),.abs A]
def Lc (a c:Int) (T:List Int) (im:List UInt8) (s0 s1 s2 s3 s4 s5 s6 s7 s8 s9:Int) (pl:List Int) (nm:Int) (R1 R2 R3:Value->Atom) (M:(List (Int×Nat×bf.den))):dx:=λQ=>cg a c ((sD T im)/\∃ fs R,fW R (iY T im a c fs R []/\∀ (A:Value->Atom),RB A fs R->Q lW [.cells 90 [Cl.de (.int .u32) T ah bx,Cl.d Ty.u8 im,.k 
 (aC s0),.k (aC s1),.k (aC s2),.k (aC s3),.k (aC s4),.k (aC s5),.k (aC s6),.k (aC s7),.k (aC s8),.k (aC s9),Cl.d bo pl,.k bZ,.p 1 0,.p 2 0,.p 3 0,Cl.m cW,.k (aC nm)],HO.abs R1,HO.abs R2,HO.abs 
 R3,fp M,HO.abs A]))
theorem adO:cu 59 afQ:=by
 intro args H Q h;obtain ⟨a,c,T,im,s0,s1,s2,s3,s4,s5,s6,s7,s8,s9,pl,nm,R1,R2,R3,M,rfl,rfl,h⟩:=h;refine Wp.dC Ke dW ⟨[],[]⟩ Tryz.f59 (Lc a c T im s0 s1 s2 s3 s4 s5 s6 s7 s8 s9 pl nm R1 R2 R3 M) ?_;unfold Lc sD lW fW cg dQ bZ aC ah bx bI cW fp bo
 grind
def imP (o:HO) (k:List Int->List UInt8->Int->Int->Int->Int->Int->Int->Int->Int->Int->Int->Cl->Cl->Cl->Cl->Cl->Cl->Int->Prop):Prop:=(match o with
 | .cells 90 cs=>(match cs with
 | [c0,c1,c2,c3,c4,c5,c6,c7,c8,c9,c10,c11,c12,c13,c14,c15,c16,c17,c18]=>(match c0 with
 | .de (.int .u32) T 0 0=>(match c1 with
 | .d .u8 im=>(match c2 with
 | .k (.int .i64 s0)=>(match c3 with
 | .k (.int .i64 s1)=>(match c4 with
 | .k (.int .i64 s2)=>(match c5 with
 | .k (.int .i64 s3)=>(match c6 with
 | .k (.int .i64 s4)=>(match c7 with
 | .k (.int .i64 s5)=>(match c8 with
 | .k (.int .i64 s6)=>(match c9 with
 | .k (.int .i64 s7)=>(match c10 with
 | .k (.int .i64 s8)=>(match c11 with
 | .k (.int .i64 s9)=>(match c18 with
 | .k (.int .i64 nm)=>k T im s0 s1 s2 s3 s4 s5 s6 s7 s8 s9 c12 c13 c14 c15 c16 c17 nm
 | _=>False)
 | _=>False)
 | _=>False)
 | _=>False)
 | _=>False)
 | _=>False)
 | _=>False)
 | _=>False)
 | _=>False)
 | _=>False)
 | _=>False)
 | _=>False)
 | _=>False)
 | _=>False)
 | _=>False)
def Xl (o:HO) (k:List Int->List UInt8->Int->Int->Int->Int->Int->Int->Int->Int->Int->Int->Cl->Cl->Int->Prop):Prop:=imP o λT im s0 s1 s2 s3 s4 s5 s6 s7 s8 s9 c12 c13 c14 c15 c16 c17 nm=>(match c14 with
 | .p 1 0=>(match c15 with
 | .p 2 0=>(match c16 with
 | .p 3 0=>(match c17 with
 | .m 4=>k T im s0 s1 s2 s3 s4 s5 s6 s7 s8 s9 c12 c13 nm
 | _=>False)
 | _=>False)
 | _=>False)
 | _=>False)
def imR (o:HO) (k:List Int->List UInt8->Int->Int->Int->Int->Int->Int->Int->Int->Int->Int->List Int->List Int->Int->Prop):Prop:=Xl o λT im s0 s1 s2 s3 s4 s5 s6 s7 s8 s9 c12 c13 nm=>(match c12 with
 | .d (.int .i64) pl=>(match c13 with
 | .d (.int .i64) ids=>k T im s0 s1 s2 s3 s4 s5 s6 s7 s8 s9 pl ids nm
 | _=>False)
 | _=>False)
def MU (o:HO) (k:List (Int×Nat×Ty.den (.pair ((.pair (.int .i64) (.pair (.int .i64) (.pair (.int .i64) (.pair (.int .i64) (.pair (.int .i64) (.pair (.int .i64) (.pair (.int .i64) (.pair (.int .i64) (.pair (.int .i64) (.pair (.int .i64) (.pair .str .unit)))))))))))) (.pair (.int .i64) (.pair (.sl (.pair .str (.pair (.int .i64) (.pair (.int .i64) .unit)))) (.pair (.sl (.pair .str (.pair (.sl .u8) .unit))) .unit)))))->Prop):Prop:=match o with
 | .ab (.pm 3 82 (.pair ((.pair (.int .i64) (.pair (.int .i64) (.pair (.int .i64) (.pair (.int .i64) (.pair (.int .i64) (.pair (.int .i64) (.pair (.int .i64) (.pair (.int .i64) (.pair (.int .i64) (.pair (.int .i64) (.pair .str .unit)))))))))))) (.pair (.int .i64) (.pair (.sl (.pair .str (.pair (.int .i64) (.pair (.int .i64) .unit)))) (.pair (.sl (.pair .str (.pair (.sl .u8) .unit))) .unit)))) M)=>k M
 | _=>False
def DG:Ct:=λargs H Q=>(match args with
 | [.v (.c (.p 0 0)),.v (.c (.k (.int .i64 a))),.v (.c (.k (.int .i64 c)))]=>(match H with
 | [o0,o1]=>imP o0 λT im s0 s1 s2 s3 s4 s5 s6 s7 s8 s9 c12 c13 c14 c15 c16 c17 nm=>(match c12 with
 | .k (.slice none 0 0)=>(match c13 with
 | .k (.slice none 0 0)=>(match c14 with
 | .k (.pointer none)=>(match c15 with
 | .k (.pointer none)=>(match c16 with
 | .k (.pointer none)=>(match c17 with
 | .m 1=>MU o1 λM=>T.length=256/\im.length<=100000000/\∃ fs R,R.length<=10000000/\iY T im a c fs R []/\∀ A,RB A fs R->Q (.c (.p 2 0)) [.cells 90 [.de (.int .u32) T 0 0,.d .u8 im,.k (.int .i64 s0),.k (.int .i64 s1),.k (.int .i64 s2),.k (.int .i64 s3),.k (.int .i64 s4),.k (.int .i64 s5),.k (.int .i64 s6),.k (.int .i64 s7),.k (.int .i64 s8),.k (.int .i64 s9),.k (.slice none 0 0),.k (.slice none 0 0),.k (.pointer none),.k (.pointer none),.k (.pointer none),.m 1,.k (.int .i64 nm)],.ab (.pm 3 82 bf M),.abs A]
 | _=>False)
 | _=>False)
 | _=>False)
 | _=>False)
 | _=>False)
 | _=>False)
 | _=>False)
 | _=>False)
theorem XM:cu 59 DG:=λargs H Q h=>by
 unfold DG MU imP at h
 repeat (split at h;rotate_left;exact h.elim)
 exact adQ _ _ _ ⟨_,_,_,_,_,_,_,_,_,_,_,_,_,_,_,_,rfl,rfl,h⟩
def DF:Ct:=λargs H Q=>(match args with
 | [.v (.c (.p 0 0)),.v (.c (.k (.int .i64 a))),.v (.c (.k (.int .i64 c)))]=>(match H with
 | [o0,o1,o2,o3,o4]=>Xl o0 λT im s0 s1 s2 s3 s4 s5 s6 s7 s8 s9 c12 c13 nm=>(match c12 with
 | .k (.slice none 0 0)=>(match c13 with
 | .k (.slice none 0 0)=>(match o1 with
 | .abs R1=>(match o2 with
 | .abs R2=>(match o3 with
 | .abs R3=>MU o4 λM=>T.length=256/\im.length<=100000000/\∃ fs R,R.length<=10000000/\iY T im a c fs R []/\∀ A,RB A fs R->Q (.c (.p 5 0)) [.cells 90 [.de (.int .u32) T 0 0,.d .u8 im,.k (.int .i64 s0),.k (.int .i64 s1),.k (.int .i64 s2),.k (.int .i64 s3),.k (.int .i64 s4),.k (.int .i64 s5),.k (.int .i64 s6),.k (.int .i64 s7),.k (.int .i64 s8),.k (.int .i64 s9),.k (.slice none 0 0),.k (.slice none 0 0),.p 1 0,.p 2 0,.p 3 0,.m 4,.k (.int .i64 nm)],.abs R1,.abs R2,.abs R3,.ab (.pm 3 82 bf M),.abs A]
 | _=>False)
 | _=>False)
 | _=>False)
 | _=>False)
 | _=>False)
 | _=>False)
 | _=>False)
theorem XL:cu 59 DF:=λargs H Q h=>by
 unfold DF MU Xl imP at h
 repeat (split at h;rotate_left;exact h.elim)
 exact adP _ _ _ ⟨_,_,_,_,_,_,_,_,_,_,_,_,_,_,_,_,_,_,_,rfl,rfl,h⟩
def DE:Ct:=λargs H Q=>(match args with
 | [.v (.c (.p 0 0)),.v (.c (.k (.int .i64 a))),.v (.c (.k (.int .i64 c)))]=>(match H with
 | [o0,o1,o2,o3,o4]=>Xl o0 λT im s0 s1 s2 s3 s4 s5 s6 s7 s8 s9 c12 c13 nm=>(match c12 with
 | .d (.int .i64) pl=>(match c13 with
 | .k (.slice none 0 0)=>(match o1 with
 | .abs R1=>(match o2 with
 | .abs R2=>(match o3 with
 | .abs R3=>MU o4 λM=>T.length=256/\im.length<=100000000/\∃ fs R,R.length<=10000000/\iY T im a c fs R []/\∀ A,RB A fs R->Q (.c (.p 5 0)) [.cells 90 [.de (.int .u32) T 0 0,.d .u8 im,.k (.int .i64 s0),.k (.int .i64 s1),.k (.int .i64 s2),.k (.int .i64 s3),.k (.int .i64 s4),.k (.int .i64 s5),.k (.int .i64 s6),.k (.int .i64 s7),.k (.int .i64 s8),.k (.int .i64 s9),.d (.int .i64) pl,.k (.slice none 0 0),.p 1 0,.p 2 0,.p 3 0,.m 4,.k (.int .i64 nm)],.abs R1,.abs R2,.abs R3,.ab (.pm 3 82 bf M),.abs A]
 | _=>False)
 | _=>False)
 | _=>False)
 | _=>False)
 | _=>False)
 | _=>False)
 | _=>False)
theorem XK:cu 59 DE:=λargs H Q h=>by
 unfold DE MU Xl imP at h
 repeat (split at h;rotate_left;exact h.elim)
 exact adO _ _ _ ⟨_,_,_,_,_,_,_,_,_,_,_,_,_,_,_,_,_,_,_,_,rfl,rfl,h⟩
def TY:Ct:=λargs H Q=>match H with
 | .cells _ (_::_::_::_::_::_::_::_::_::_::_::_::c::_)::_=>(match c with
  | .k _=>DF args H Q
  | _=>DE args H Q)
 | _=>False
theorem adL:cu 59 TY:=λargs H Q h=>by
 unfold TY at h
 grind [XL, XK]
def akO:Ct:=cD (Ty.int .i64) λx=>c0 λQ=>x.length<=1000000/\Q (.c (.d (.int .i64) x)) []
def R8 (x:(List ((Ty.int .i64)).den)):dx:=λQ=>iB x (∀ (c:Bool),(c=true->x= [])->br (j8 c) (Q fE []) ((0+List.length x)*8<=ck/\0+List.length x<=9223372036854775807/\Q fh [.sl 3 bo ([]++x)]))
theorem X3:cu 107 akO:=eQ<| jm λx=>gM λQ h=>by
 refine Wp.Jc (e:=.int .i64) ?_;refine Wp.dC gJ dW ⟨[],[]⟩ Tryz.f107 (R8 x) ?_;unfold R8 j8 fh fE iB ck bZ bo;refine λ_ c hc=>aq (λhb=>.inr (.inl ⟨rfl,?_⟩)) (by grind)
 grind
def akN:Ct:=cD (Ty.int .i64) λx=>c0 λQ=>(x.Pairwise λa b=>a< b)/\Q (.c (.d (.int .i64) x)) []
def alC:=gJ.add X3
def R7 (x:(List ((Ty.int .i64)).den)):dx:=λQ=>iB x (aJ (List.length x)->br (decide ((aA x)< dw)) (Q (SV.v (S1.c (Cl.d bo x))) []) (aM (λi ag=>iB x (br (decide (i.1.1< (aA x))) (0<=i.1.1/\i.1.1< (aA x)/\(yD x i.1.1 (Ty.ok bo (aB bo 
 x (i.1.1 - 1))->br (aB bo x i.1.1==aB bo x (i.1.1 - 1)) (0<=i.1.1/\i.1.1<=(aA x)/\False) (dP i.1.1 ag)))) (Q (SV.v (S1.c (Cl.d bo x))) []))) ((aV,()),())))
theorem aiJ:cu 106 akN:=eQ<| jm λx=>gM λQ h=>by
 refine Wp.dC alC dW ⟨[(5,⟨[(3,.int .i64)],[]⟩)],[]⟩ Tryz.f106 (R7 x) ?_;unfold R7 yD iB dP aV dw aA aJ bo;obtain ⟨hs,h⟩:=h;refine λ_ _=>aq (λ_=>h) (λhc=>aM.intro (λi=>1<=i.1.1/\i.1.1<=(x.length:Int)) (λi=>x.length - i.1.1.toNat) ⟨bB _,by have:=of_decide_eq_false hc;show (1:Int)<=_;omega⟩ ?_);rintro ⟨⟨i,_⟩,_⟩ ⟨h0,h1⟩;simp only at h0 h1 ⊢;refine λ_=>aq (λhd=>?_) (λ_=>h);have hd:=of_decide_eq_true hd;have P:=cQ.1 hs (i - 1).toNat i.toNat (by omega) (by omega) (by omega);rw [<-ff (e:=.int .i64) (by omega) (by omega),<-ff (e:=.int .i64) (by omega) hd] at P;refine ⟨by omega,hd,λ_=>⟨by unfold aD;omega,by omega,by omega,λ_=>aq (λq=>?_) (λ_=>⟨by unfold aD;omega,⟨by omega,by omega⟩,by omega⟩)⟩⟩;have q:aB (.int .i64) x i=aB (.int .i64) x (i - 1):=eq_of_beq q;rw [q] at P;exact absurd P (Int.lt_irrefl _)
def aaX:Ct:=λargs H Q=>∃ (T:List Int) (im:List UInt8) (s0:Int) (s1:Int) (s2:Int) (s3:Int) (s4:Int) (s5:Int) (s6:Int) (s7:Int) (s8:Int) (s9:Int) (nm:Int) (R1:Value->Atom) (R2:Value->Atom) (R3:Value->Atom) (M:List (Int×Nat×bf.den)),args= [.v (.c (.p 0 0))]/\H= [.cells 90 [.de (.int .u32) T 0 0,.d .u8 im,.k (.int .i64 s0),.k (.int .i64 s1),.k (.int .i64 s2),.k (.int .i64 s3),.k (.int .i64 s4),.k (.int .i64 s5),.k (.int .i64 s6),.k (.int .i64 s7),.k (.int .i64 s8),.k (.int .i64 s9),.k (.slice none 0 0),.k (.slice none 0 0),.p 1 0,.p 2 0,.p 3 0,.m 4,.k (.int .i64 nm)],.abs R1,.abs R2,.abs R3,.ab (.pm 3 82 bf M)]/\∃ (d:IR) (N:List aZ),d.Ok T N/\T.length=256/\im=d.im T/\d.s=(s0,s1,s2,s3,s4,s5,s6,s7,s8,s9,())/\Q (.bool true) [.cells 90 [.de (.int .u32) T 0 0,.d .u8 im,.k (.int .i64 s0),.k (.int .i64 s1),.k (.int .i64 s2),.k (.int .i64 s3),.k (.int .i64 s4),.k (.int .i64 s5),.k (.int .i64 s6),.k (.int .i64 s7),.k (.int .i64 s8),.k (.int .i64 s9),.d (.int .i64) d.pl,.d (.int .i64) d.ids,.p 1 0,.p 2 0,.p 3 0,.m 4,.k (.int .i64 nm)],.abs R1,.abs R2,.abs R3,.ab (.pm 3 82 bf M)]
def alB:=((((gJ.add EP).add Bg).add adL).add X3).add aiJ
def Ff (T:List Int) (im:List UInt8) (s0 s1 s2 s3 s4 s5 s6 s7 s8 s9 nm:Int) (R1 R2 R3:Value->Atom) (M:(List (Int×Nat×bf.den))):dx:=λQ=>dQ T (je im (∃ fs R,fW R (iY T im s4 s5 fs R []/\∀ (A:Value->Atom),RB A fs R->∃ fs R,RB A fs R/\(cL=dw\/cL=cL)/\∃ l,(∀ (x:Int),x∈l->0<= 
 x/\x< 256 ^ cW)/\R=gA cW l/\s8=(aA l)/\List.length l<=100000/\∀ (A':Value->Atom),RB A' fs R->aJ (bw l)->aD .i64 0->dQ T (je im (∃ fs R,fW R (iY T im s5 s6 fs R []/\∀ (A:Value->Atom),RB A 
 fs R->∃ fs R,RB A fs R/\(dw=dw\/dw=cL)/\∃ Et,(∀ (x:Int),x∈Et->0<=x/\x< 256 ^ a8)/\R=gA a8 Et/\s7=(aA Et)/\List.length Et<=100000/\∀ (A':Value->Atom),RB A' fs R->aJ (bw Et)-> 
 aD .i64 0->UE Et/\(aJ (bw Et)->List.length Et<=1000000/\(aJ (bw Et)->List.Pairwise (λa b=>a< b) Et/\(aJ (bw Et)->aJ (bw Et)->Q (.v (.c (.k (.bool ((aA Et)==(aA Et)))))) [fJ T im s0 s1 
 s2 s3 s4 s5 s6 s7 s8 s9 l Et nm,HO.abs R1,HO.abs R2,HO.abs R3,fp M])))))))))
theorem XD:cu 60 aaX:=by
 intro args H Q h;obtain ⟨T,im,s0,s1,s2,s3,s4,s5,s6,s7,s8,s9,nm,R1,R2,R3,M,rfl,rfl,h⟩:=h;refine Wp.dC alB dW ⟨[],[]⟩ Tryz.f60 (Ff T im s0 s1 s2 s3 s4 s5 s6 s7 s8 s9 nm R1 R2 R3 M) ?_;unfold Ff je fW dQ bw dw cL aA aJ a8 bI cW fJ fp;obtain ⟨d,N,hd,hT,rfl,hs,h⟩:=h;obtain ⟨z1,z2,z3,z4,z5,z6,z7,z8⟩:=hd.small;have hr:=hd.rds;have hP:=hr.P;have hN:=hr.N;have hf:=hd.sf;have hi:=hd.si;rw [hs] at hP hN hf hi;have n4:=jR 4 d.pl;have n2:=jR 2 d.ids;refine ⟨hT,by omega,d.fP,gA 4 d.pl,by omega,hP,λA hA=>⟨d.fP,_,hA,.inr rfl,d.pl,Zp hd.pls (by omega),rfl,hf,by omega,λA' _ _ _=>⟨hT,by omega,d.fN,gA 2 d.ids,by omega,hN,λB hB=>⟨d.fN,_,hB,.inl rfl,d.ids,hd.idr,rfl,hi,by omega,λB' _ _ _=>⟨⟨λi i1 i2=>?_⟩,λ_=>⟨by omega,λ_=>⟨hd.tok.Xk,λ_ _=>?_⟩⟩⟩⟩⟩⟩⟩
 .have P:=cQ.1 hd.tok.Xk (i - 1).toNat i.toNat (by omega) (by omega) (by omega);rw [ff (e:=.int .i64) (by omega) (by omega),ff (e:=.int .i64) (by omega) i2];exact Int.le_of_lt P
 .rw [show (((d.ids.length:Nat):Int)==((d.ids.length:Nat):Int))=true by simp];exact h
def Hi:Ct:=λargs H Q=>(match args with
 | [.v (.c (.p 0 0))]=>(match H with
 | [o0,o1,o2,o3,o4]=>Xl o0 λT im s0 s1 s2 s3 s4 s5 s6 s7 s8 s9 c12 c13 nm=>(match c12 with
 | .k (.slice none 0 0)=>(match c13 with
 | .k (.slice none 0 0)=>(match o1 with
 | .abs R1=>(match o2 with
 | .abs R2=>(match o3 with
 | .abs R3=>MU o4 λM=>∃ (d:IR) (N:List aZ),d.Ok T N/\T.length=256/\im=d.im T/\d.s=(s0,s1,s2,s3,s4,s5,s6,s7,s8,s9,())/\Q (.bool true) [.cells 90 [.de (.int .u32) T 0 0,.d .u8 im,.k (.int .i64 s0),.k (.int .i64 s1),.k (.int .i64 s2),.k (.int .i64 s3),.k (.int .i64 s4),.k (.int .i64 s5),.k (.int .i64 s6),.k (.int .i64 s7),.k (.int .i64 s8),.k (.int .i64 s9),.d (.int .i64) d.pl,.d (.int .i64) d.ids,.p 1 0,.p 2 0,.p 3 0,.m 4,.k (.int .i64 nm)],.abs R1,.abs R2,.abs R3,.ab (.pm 3 82 bf M)]
 | _=>False)
 | _=>False)
 | _=>False)
 | _=>False)
 | _=>False)
 | _=>False)
 | _=>False)
theorem UO:cu 60 Hi:=λargs H Q h=>by
 unfold Hi MU Xl imP at h;dsimp only at h
 repeat (split at h;rotate_left;exact h.elim)
 exact XD _ _ _ ⟨_,_,_,_,_,_,_,_,_,_,_,_,_,_,_,_,_,rfl,rfl,h⟩
end Go.Proofs

namespace Go.Lm
open Go Go.RowKit
section
variable {I:cX->Prop} {P:Program} {f:FuncId} {args:List SV} {H:List HO} {Q:SV->List HO->Prop}
theorem Wp.cellOf {p:Nat} {t:TypeId} {e:Ty} (h:Wp I P f args H λsv H'=>∃ cs x,H'[p]?=some (.cells t cs)/\e.of cs=some (x,[])/\Q sv (H'.set p (.cells t (e.cells x)))):Wp I P f args H Q:=λW hW g w E F vs hs hv=>
 (h W hW g w E F vs hs hv).mono λv w' ⟨E1,g1,sv,H1,e1,m1,s1,r1,cs,x,hp,ho,hq⟩=>by
  have JB:=(aw.1 hp).1;have hlen:E1.length=H1.length:=s1.len;refine ⟨E1,g1,sv,_,e1,m1,⟨?_,by simp [hlen]⟩,r1,hq⟩;refine s1.sl.cJ λk s=>?_;obtain ⟨k1,k2,ap,e2,⟨bb,us,hE,hrel,hblk⟩,s2⟩:=bh.sk hp s;obtain ⟨u1,u2,e3,h3,h4⟩:=of_cells e ho hrel;obtain rfl:u2= []:=h4;rw [bd] at e3;subst e3;have s3:bh g1 (cM E1 p (.cells t (e.cells x))::(ba E1 0 (H1.set p .gone)++F)) k:=⟨k1,k2,ap,e2,⟨bb,_,hE,(fz E1 g1 e h3).1,hblk⟩,s2⟩;have s4:=bh.En (l:=p) (by simp;omega) s3;rw [List.set_set] at s4;exact s4
end
end Go.Lm

namespace Go.Proofs
open Go Go.Lm Go.RowKit
set_option maxRecDepth 1000000
def afU:Ct:=λargs H Q=>∃ (ref:Int) (kd:Int) (T:List Int) (im:List UInt8) (s0:Int) (s1:Int) (s2:Int) (s3:Int) (s4:Int) (s5:Int) (s6:Int) (s7:Int) (s8:Int) (s9:Int) (pl:List Int) (ids:List Int) (nm:Int) (R1:Value->Atom) (R2:Value->Atom) (R3:Value->Atom) (M:List (Int×Nat×bf.den)),args= [.v (.c (.p 0 0)),.int ref,.int kd]/\H= [.cells 90 [.de (.int .u32) T 0 0,.d .u8 im,.k (.int .i64 s0),.k (.int .i64 s1),.k (.int .i64 s2),.k (.int .i64 s3),.k (.int .i64 s4),.k (.int .i64 s5),.k (.int .i64 s6),.k (.int .i64 s7),.k (.int .i64 s8),.k (.int .i64 s9),.d (.int .i64) pl,.d (.int .i64) ids,.p 1 0,.p 2 0,.p 3 0,.m 4,.k (.int .i64 nm)],.abs R1,.abs R2,.abs R3,.ab (.pm 3 82 bf M)]/\∃ (d:IR) (N:List aZ),d.Ok T N/\(T=dB/\im=d.im T/\d.s=(s0,s1,s2,s3,s4,s5,s6,s7,s8,s9,())/\pl=d.pl/\ids=d.ids)/\(RB R1 d.fI d.t.RI/\RB R2 d.fL d.t.RL/\RB R3 d.fX d.t.RX)/\∃ x∈N,kd=x.2.2.1/\Kk.get .int d.t.Mr x.2.1=some ref/\∀ B1 B2 B3 r,RB B1 d.fI d.t.RI->RB B2 d.fL d.t.RL->RB B3 d.fX d.t.RX->rV d N x 0 r->Q (.c (.p 5 0)) [.cells 90 [.de (.int .u32) T 0 0,.d .u8 im,.k (.int .i64 s0),.k (.int .i64 s1),.k (.int .i64 s2),.k (.int .i64 s3),.k (.int .i64 s4),.k (.int .i64 s5),.k (.int .i64 s6),.k (.int .i64 s7),.k (.int .i64 s8),.k (.int .i64 s9),.d (.int .i64) pl,.d (.int .i64) ids,.p 1 0,.p 2 0,.p 3 0,.m 4,.k (.int .i64 nm)],.abs B1,.abs B2,.abs B3,.ab (.pm 3 82 bf M),.cells 82 (bf.cells r)]
def alA:=((((gJ.add E9).add Kt).add Rs).add Rc).add KG
abbrev sS:SV:=.v (.c (.k (.pointer none)))
abbrev Ps (y0) (y1:List UInt8) (y2) (y3) (y4) (y5) (y6:Int) (R:Prop):=D9 y0 y1 y2 y3 y4/\y5=(aA y3)/\List.length y3<=4096/\y2+(aS (ae y4))<=y6/\R
def Lj (ref kd:Int) (T:List Int) (im:List UInt8) (s0 s1 s2 s3 s4 s5 s6 s7 s8 s9:Int) (pl ids:List Int) (nm:Int) (R1 R2 R3:Value->Atom) (M:(List (Int×Nat×bf.den))):dx:=λQ=>cg ref kd (∃ fs R,RB R1 fs R/\∃ o,o<=List.length R/\ref=(↑(dX fs o):Int)/\∃ i q,o8 i/\List.drop o R=fR i++q/\∀ (A':Value->Atom),RB A' 
 fs R->cz i.1 i.2.1 i.2.2.1 (cz i.2.2.2.1 i.2.2.2.2.1 i.2.2.2.2.2.1 (cz i.2.2.2.2.2.2.1 i.2.2.2.2.2.2.2.1 i.2.2.2.2.2.2.2.2.1 (aD .i64 i.2.2.2.2.2.2.2.2.2.1->du i.2.2.2.2.2.2.2.2.2.2.1 (aD .i64 (↑(dX fs (o+List.length 
 (fR i))):Int)->aD .i64 0->br (i.1 !=kd) (Q sS [fJ T im s0 s1 s2 s3 s4 s5 s6 s7 s8 s9 pl ids nm,HO.abs A',HO.abs R2,HO.abs R3,fp M]) (aJ (List.length ids)->br (decide (max i.2.2.1 i.2.2.2.1≥(aA ids))) (Q sS 
 [fJ T im s0 s1 s2 s3 s4 s5 s6 s7 s8 s9 pl ids nm,HO.abs A',HO.abs R2,HO.abs R3,fp M]) (br (decide (i.2.2.2.2.2.2.2.2.1>s8)) (Q sS [fJ T im s0 s1 s2 s3 s4 s5 s6 s7 s8 s9 pl ids nm,HO.abs A',HO.abs R2,HO.abs R3,fp M]) 
 (br (decide (i.2.2.2.2.2.1>0)) (aD .i64 (i.2.2.2.2.2.1 - 1)/\∃ fs R,RB R3 fs R/\∃ o,o<=List.length R/\i.2.2.2.2.2.1 - 1=(↑(dX fs o):Int)/\∃ l q,dF l=true/\l≠ []/\List.drop o R=xsB l++q/\∀ (Ee:Value-> 
 Atom),RB Ee fs R->aJ (bw l)->aD .i64 0->br (kd==2) (je im (∃ T_1 x fs,Ps T_1 im i.2.2.2.2.2.2.1 x fs i.2.2.2.2.2.2.2.1 s2 (aD .i64 (i.2.2.2.2.2.2.1+(aS (ae fs)))->aD .i64 0->br (decide 
 (i.2.2.2.2.2.2.2.1≥128)) (br (decide (i.2.2.2.2.2.2.1< 64)) (Q sS [fJ T im s0 s1 s2 s3 s4 s5 s6 s7 s8 s9 pl ids nm,HO.abs A',HO.abs R2,HO.abs Ee,fp M]) (Q lW [fJ T im s0 s1 s2 s3 s4 s5 s6 s7 s8 s9 pl ids nm,HO.abs 
 A',HO.abs R2,HO.abs Ee,fp M,.cells 82 [.k (aC i.1),.k (aC i.2.1),.k (aC i.2.2.1),.k (aC i.2.2.2.1),.k (aC i.2.2.2.2.1),.k (aC i.2.2.2.2.2.1),.k (aC i.2.2.2.2.2.2.1),.k (aC i.2.2.2.2.2.2.2.1),.k (aC 
 i.2.2.2.2.2.2.2.2.1),.k (aC i.2.2.2.2.2.2.2.2.2.1),.k (.string i.2.2.2.2.2.2.2.2.2.2.1),.k aR,.k bZ,Cl.d cZ l]])) (Q lW [fJ T im s0 s1 s2 s3 s4 s5 s6 s7 s8 s9 pl ids nm,HO.abs A',HO.abs R2,HO.abs Ee,fp M,.cells 
 82 [.k (aC i.1),.k (aC i.2.1),.k (aC i.2.2.1),.k (aC i.2.2.2.1),.k (aC i.2.2.2.2.1),.k (aC i.2.2.2.2.2.1),.k (aC i.2.2.2.2.2.2.1),.k (aC i.2.2.2.2.2.2.2.1),.k (aC i.2.2.2.2.2.2.2.2.1),.k (aC 
 i.2.2.2.2.2.2.2.2.2.1),.k (.string i.2.2.2.2.2.2.2.2.2.2.1),.k aR,.k bZ,Cl.d cZ l]])))) (br (kd==1) (∃ fs R,RB R2 fs R/\∃ o,vy o R i.2.2.2.2.2.2.1 fs i.2.2.2.2.2.2.2.1 (∀ (alT:Value->Atom) (z:List UInt8) (nx e: 
 Int),RB alT fs R->py fs R o (aU i.2.2.2.2.2.2.2.1) z nx e->db z (cg nx e (br (e !=0) (Q sS [fJ T im s0 s1 s2 s3 s4 s5 s6 s7 s8 s9 pl ids nm,HO.abs A',HO.abs alT,HO.abs Ee,fp M]) (∃ Et,iW ⟨#[]⟩ Et/\ 
 List.length Et<=1024/\z=gU Et/\(aJ (bw Et)->aD .i64 0->Q lW [fJ T im s0 s1 s2 s3 s4 s5 s6 s7 s8 s9 pl ids nm,HO.abs A',HO.abs alT,HO.abs Ee,fp M,.cells 82 [.k (aC i.1),.k (aC i.2.1),.k (aC i.2.2.1), 
 .k (aC i.2.2.2.1),.k (aC i.2.2.2.2.1),.k (aC i.2.2.2.2.2.1),.k (aC i.2.2.2.2.2.2.1),.k (aC i.2.2.2.2.2.2.2.1),.k (aC i.2.2.2.2.2.2.2.2.1),.k (aC i.2.2.2.2.2.2.2.2.2.1),.k (.string i.2.2.2.2.2.2.2.2.2.2.1),.k aR, 
 Cl.d cw Et,Cl.d cZ l]])))))) (Q lW [fJ T im s0 s1 s2 s3 s4 s5 s6 s7 s8 s9 pl ids nm,HO.abs A',HO.abs R2,HO.abs Ee,fp M,.cells 82 [.k (aC i.1),.k (aC i.2.1),.k (aC i.2.2.1),.k (aC i.2.2.2.1),.k (aC 
 i.2.2.2.2.1),.k (aC i.2.2.2.2.2.1),.k (aC i.2.2.2.2.2.2.1),.k (aC i.2.2.2.2.2.2.2.1),.k (aC i.2.2.2.2.2.2.2.2.1),.k (aC i.2.2.2.2.2.2.2.2.2.1),.k (.string i.2.2.2.2.2.2.2.2.2.2.1),.k aR,.k bZ,Cl.d cZ l]]))) (br 
 (kd==2) (je im (∃ T_1 x fs,Ps T_1 im i.2.2.2.2.2.2.1 x fs i.2.2.2.2.2.2.2.1 s2 (aD .i64 (i.2.2.2.2.2.2.1+(aS (ae fs)))->aD .i64 0->br (decide (i.2.2.2.2.2.2.2.1≥128)) (br (decide (i.2.2.2.2.2.2.1< 64)) (Q 
 sS [fJ T im s0 s1 s2 s3 s4 s5 s6 s7 s8 s9 pl ids nm,HO.abs A',HO.abs R2,HO.abs R3,fp M]) (Q lW [fJ T im s0 s1 s2 s3 s4 s5 s6 s7 s8 s9 pl ids nm,HO.abs A',HO.abs R2,HO.abs R3,fp M,.cells 82 [.k (aC i.1),.k (aC 
 i.2.1),.k (aC i.2.2.1),.k (aC i.2.2.2.1),.k (aC i.2.2.2.2.1),.k (aC i.2.2.2.2.2.1),.k (aC i.2.2.2.2.2.2.1),.k (aC i.2.2.2.2.2.2.2.1),.k (aC i.2.2.2.2.2.2.2.2.1),.k (aC i.2.2.2.2.2.2.2.2.2.1),.k (.string 
 i.2.2.2.2.2.2.2.2.2.2.1),.k aR,.k bZ,.k bZ]])) (Q lW [fJ T im s0 s1 s2 s3 s4 s5 s6 s7 s8 s9 pl ids nm,HO.abs A',HO.abs R2,HO.abs R3,fp M,.cells 82 [.k (aC i.1),.k (aC i.2.1),.k (aC i.2.2.1),.k (aC 
 i.2.2.2.1),.k (aC i.2.2.2.2.1),.k (aC i.2.2.2.2.2.1),.k (aC i.2.2.2.2.2.2.1),.k (aC i.2.2.2.2.2.2.2.1),.k (aC i.2.2.2.2.2.2.2.2.1),.k (aC i.2.2.2.2.2.2.2.2.2.1),.k (.string i.2.2.2.2.2.2.2.2.2.2.1),.k aR,.k bZ,.k 
 bZ]])))) (br (kd==1) (∃ fs R,RB R2 fs R/\∃ o,vy o R i.2.2.2.2.2.2.1 fs i.2.2.2.2.2.2.2.1 (∀ (Ee:Value->Atom) (z:List UInt8) (nx e:Int),RB Ee fs R->py fs R o (aU i.2.2.2.2.2.2.2.1) z nx e->db z (cg nx 
 e (br (e !=0) (Q sS [fJ T im s0 s1 s2 s3 s4 s5 s6 s7 s8 s9 pl ids nm,HO.abs A',HO.abs Ee,HO.abs R3,fp M]) (∃ l,iW ⟨#[]⟩ l/\List.length l<=1024/\z=gU l/\(aJ (bw l)->aD .i64 0->Q lW [fJ T im s0 s1 s2 
 s3 s4 s5 s6 s7 s8 s9 pl ids nm,HO.abs A',HO.abs Ee,HO.abs R3,fp M,.cells 82 [.k (aC i.1),.k (aC i.2.1),.k (aC i.2.2.1),.k (aC i.2.2.2.1),.k (aC i.2.2.2.2.1),.k (aC i.2.2.2.2.2.1),.k (aC i.2.2.2.2.2.2.1),.k 
 (aC i.2.2.2.2.2.2.2.1),.k (aC i.2.2.2.2.2.2.2.2.1),.k (aC i.2.2.2.2.2.2.2.2.2.1),.k (.string i.2.2.2.2.2.2.2.2.2.2.1),.k aR,Cl.d cw l,.k bZ]])))))) (Q lW [fJ T im s0 s1 s2 s3 s4 s5 s6 s7 s8 s9 pl ids nm,HO.abs A', 
 HO.abs R2,HO.abs R3,fp M,.cells 82 [.k (aC i.1),.k (aC i.2.1),.k (aC i.2.2.1),.k (aC i.2.2.2.1),.k (aC i.2.2.2.2.1),.k (aC i.2.2.2.2.2.1),.k (aC i.2.2.2.2.2.2.1),.k (aC i.2.2.2.2.2.2.2.1),.k (aC 
 i.2.2.2.2.2.2.2.2.1),.k (aC i.2.2.2.2.2.2.2.2.2.1),.k (.string i.2.2.2.2.2.2.2.2.2.2.1),.k aR,.k bZ,.k bZ]])))))))))))
theorem adT:cu 108 afU:=by
 intro args H Q h;obtain ⟨ref,kd,T,im,s0,s1,s2,s3,s4,s5,s6,s7,s8,s9,pl,ids,nm,R1,R2,R3,M,rfl,rfl,h⟩:=h;refine Wp.cellOf (p:=5) (t:=82) (e:=bf) ?_;refine Wp.dC alA dW ⟨[],[]⟩ Tryz.f108 (Lj ref kd T im s0 s1 s2 s3 s4 s5 s6 s7 s8 s9 pl ids nm R1 R2 R3 M) ?_;unfold Lj Ps je lW sS vy db du cg bw bZ aU aR cz aC aS aA aJ fJ fp;obtain ⟨d,N,hd,⟨rfl,rfl,hs,rfl,rfl⟩,⟨hR1,hR2,hR3⟩,x,hx,rfl,hg,h⟩:=h;obtain ⟨z1,z2,z3,z4,z5,z6,z7,z8⟩:=hd.small;obtain ⟨i,hN,o,ho,hro,q,hq⟩:=hd.recAt hx hg;have Xr:=hd.aqG hx hN;have hf:=hd.sf;have hs2:(d.s.2.2.1:Int)<=s2:=by rw [hs];exact bB _
 rw [hs] at hf;have hf:s8=(d.pl.length:Int):=hf;obtain ⟨fr,efr⟩:∃ a:Int,a=i.2.2.2.2.2.2.2.2.1:=⟨_,rfl⟩;obtain ⟨xv,exv⟩:∃ a:Int,a=i.2.2.2.2.2.1:=⟨_,rfl⟩;obtain ⟨sz,esz⟩:∃ a:Int,a=i.2.2.2.2.2.2.2.1:=⟨_,rfl⟩;obtain ⟨st,est⟩:∃ a:Int,a=i.2.2.2.2.2.2.1:=⟨_,rfl⟩;have Xr:fr<=(d.pl.length:Int):=by rw [efr];exact Xr
 have hu:=JA hN.uid;have hgd:=JA hN.gid;have hu0:=hN.ok.cm.q2.1;have hg0:=hN.ok.cm.q3.1;have hxc:=hN.ok.cm.q5;refine λ_ _=>⟨d.fI,d.t.RI,hR1,o,ho,hro,i,q,hN.ok,hq,λB1 hB1 _ _ _ _ _ _ _ _ _ _ _ _ _=>aq (λe=>?_) (λ_=>λ_=>aq (λe=>?_) (λ_=>aq (λe=>?_) (λ_=>aq (λhxa=>?_) (λhxa=>?_))))⟩
 .rw [hN.kind] at e;simp at e
 .have e:=of_decide_eq_true e;have e:(d.ids.length:Int)<=max (i.2.2.1:Int) (i.2.2.2.1:Int):=e;have u0:(0:Int)<=(i.2.2.1:Int):=hu0;have g0:(0:Int)<=(i.2.2.2.1:Int):=hg0;omega
 .have e:=of_decide_eq_true e;have e:s8< fr:=by rw [efr];exact e
  omega
 .have hxa:=of_decide_eq_true hxa;have hxa:0< xv:=by rw [exv];exact hxa
  rcases hd.amg hx hN with ⟨w1,_⟩| ⟨w1,w2,w3,o3,w4,w5,q3,w6⟩
  .have w1:xv=0:=by rw [exv];exact w1
   omega
  have hxc:xv<=4294967295:=by rw [exv];exact hxc.2
  refine ⟨by rw [<-exv];unfold aD;omega,d.fX,d.t.RX,hR3,o3,w4,w5,x.2.2.2.2.2.2.1,q3,w3,w2,w6,λB3 hB3 _ _=>?_⟩;refine aq (λhk=>?_) (λhk=>aq (λre=>?_) (λre=>⟨_,(i,0,[],x.2.2.2.2.2.2.1,()),rfl,rfl,h B1 R2 B3 (i,0,[],x.2.2.2.2.2.2.1,()) hB1 hR2 hB3 ⟨hN,rfl,(.inr ⟨by first| (rw [eq_of_beq hk];decide)| simpa using re,rfl⟩),rfl⟩⟩))
  .obtain ⟨fs,f1,f2,f3,f4,_⟩:=hd.fileAt hx (eq_of_beq hk) hN;have hx4:=(oK (hd.tok.may x hx)).2;refine ⟨by omega,dB,x.2.2.2.2.1,fs,f1,f2,hx4,Int.le_trans f4 hs2,λ_ _=>aq (λq=>aq (λq2=>?_) (λ_=>⟨_,(i,0,[],x.2.2.2.2.2.2.1,()),rfl,rfl,h B1 R2 B3 (i,0,[],x.2.2.2.2.2.2.1,()) hB1 hR2 hB3 ⟨hN,rfl,(.inr ⟨by first| (rw [eq_of_beq hk];decide)| simpa using re,rfl⟩),rfl⟩⟩)) (λ_=>⟨_,(i,0,[],x.2.2.2.2.2.2.1,()),rfl,rfl,h B1 R2 B3 (i,0,[],x.2.2.2.2.2.2.1,()) hB1 hR2 hB3 ⟨hN,rfl,(.inr ⟨by first| (rw [eq_of_beq hk];decide)| simpa using re,rfl⟩),rfl⟩⟩)⟩
   have q:(128:Int)<=sz:=by rw [esz];exact of_decide_eq_true q
   have q2:st< 64:=by rw [est];exact of_decide_eq_true q2
   have f2:sz=(x.2.2.2.2.1.length:Int):=by rw [esz];exact f2
   have f3:64<=st:=by rw [est];exact f3 (by omega)
   omega
  .obtain ⟨es,l1,l2,l3,l4,o2,p1,p2,p3⟩:=hd.ZT (eq_of_beq re) hN;have hen:((i.2.2.2.2.2.2.2.1:Int)).toNat=(gU es).length:=by rw [l4];rfl
   refine ⟨d.fL,d.t.RL,hR2,o2,by omega,p2,⟨by rw [l4];exact Int.natCast_nonneg _,by rw [l4];show ((gU es).length:Int)<=10000000;omega⟩,λB2 z nx e hB2 hz _ _ _=>?_⟩;rw [hen] at hz;obtain ⟨rfl,_,rfl⟩:=hz.ok p1;refine aq (λq=>by cases q) (λ_=>⟨es,l1,l3,p3,λ_ _=>⟨_,(i,0,es,x.2.2.2.2.2.2.1,()),rfl,rfl,h B1 B2 B3 (i,0,es,x.2.2.2.2.2.2.1,()) hB1 hB2 hB3 ⟨hN,rfl,(.inl ⟨eq_of_beq re,l1,l2⟩),rfl⟩⟩⟩)
 .have hxa:=of_decide_eq_false hxa;have hxa:¬0< xv:=by rw [exv];exact hxa
  rcases hd.amg hx hN with ⟨_,w1⟩| ⟨w1,_⟩;rotate_left
  .have w1:1<=xv:=by rw [exv];exact w1
   omega
  refine aq (λhk=>?_) (λhk=>aq (λre=>?_) (λre=>⟨_,(i,0,[],[],()),rfl,rfl,h B1 R2 R3 (i,0,[],[],()) hB1 hR2 hR3 ⟨hN,rfl,(.inr ⟨by first| (rw [eq_of_beq hk];decide)| simpa using re,rfl⟩),w1.symm⟩⟩))
  .obtain ⟨fs,f1,f2,f3,f4,_⟩:=hd.fileAt hx (eq_of_beq hk) hN;have hx4:=(oK (hd.tok.may x hx)).2;refine ⟨by omega,dB,x.2.2.2.2.1,fs,f1,f2,hx4,Int.le_trans f4 hs2,λ_ _=>aq (λq=>aq (λq2=>?_) (λ_=>⟨_,(i,0,[],[],()),rfl,rfl,h B1 R2 R3 (i,0,[],[],()) hB1 hR2 hR3 ⟨hN,rfl,(.inr ⟨by first| (rw [eq_of_beq hk];decide)| simpa using re,rfl⟩),w1.symm⟩⟩)) (λ_=>⟨_,(i,0,[],[],()),rfl,rfl,h B1 R2 R3 (i,0,[],[],()) hB1 hR2 hR3 ⟨hN,rfl,(.inr ⟨by first| (rw [eq_of_beq hk];decide)| simpa using re,rfl⟩),w1.symm⟩⟩)⟩
   have q:(128:Int)<=sz:=by rw [esz];exact of_decide_eq_true q
   have q2:st< 64:=by rw [est];exact of_decide_eq_true q2
   have f2:sz=(x.2.2.2.2.1.length:Int):=by rw [esz];exact f2
   have f3:64<=st:=by rw [est];exact f3 (by omega)
   omega
  .obtain ⟨es,l1,l2,l3,l4,o2,p1,p2,p3⟩:=hd.ZT (eq_of_beq re) hN;have hen:((i.2.2.2.2.2.2.2.1:Int)).toNat=(gU es).length:=by rw [l4];rfl
   refine ⟨d.fL,d.t.RL,hR2,o2,by omega,p2,⟨by rw [l4];exact Int.natCast_nonneg _,by rw [l4];show ((gU es).length:Int)<=10000000;omega⟩,λB2 z nx e hB2 hz _ _ _=>?_⟩;rw [hen] at hz;obtain ⟨rfl,_,rfl⟩:=hz.ok p1;refine aq (λq=>by cases q) (λ_=>⟨es,l1,l3,p3,λ_ _=>⟨_,(i,0,es,[],()),rfl,rfl,h B1 B2 R3 (i,0,es,[],()) hB1 hB2 hR3 ⟨hN,rfl,(.inl ⟨eq_of_beq re,l1,l2⟩),w1.symm⟩⟩⟩)
def DI:Ct:=λargs H Q=>(match args with
 | [.v (.c (.p 0 0)),.v (.c (.k (.int .i64 ref))),.v (.c (.k (.int .i64 kd)))]=>(match H with
 | [o0,o1,o2,o3,o4]=>imR o0 λT im s0 s1 s2 s3 s4 s5 s6 s7 s8 s9 pl ids nm=>(match o1 with
 | .abs R1=>(match o2 with
 | .abs R2=>(match o3 with
 | .abs R3=>MU o4 λM=>∃ (d:IR) (N:List aZ),d.Ok T N/\(T=dB/\im=d.im T/\d.s=(s0,s1,s2,s3,s4,s5,s6,s7,s8,s9,())/\pl=d.pl/\ids=d.ids)/\(RB R1 d.fI d.t.RI/\RB R2 d.fL d.t.RL/\RB R3 d.fX d.t.RX)/\∃ x∈N,kd=x.2.2.1/\Kk.get .int d.t.Mr x.2.1=some ref/\∀ B1 B2 B3 r,RB B1 d.fI d.t.RI->RB B2 d.fL d.t.RL->RB B3 d.fX d.t.RX->rV d N x 0 r->Q (.c (.p 5 0)) [.cells 90 [.de (.int .u32) T 0 0,.d .u8 im,.k (.int .i64 s0),.k (.int .i64 s1),.k (.int .i64 s2),.k (.int .i64 s3),.k (.int .i64 s4),.k (.int .i64 s5),.k (.int .i64 s6),.k (.int .i64 s7),.k (.int .i64 s8),.k (.int .i64 s9),.d (.int .i64) pl,.d (.int .i64) ids,.p 1 0,.p 2 0,.p 3 0,.m 4,.k (.int .i64 nm)],.abs B1,.abs B2,.abs B3,.ab (.pm 3 82 bf M),.cells 82 [.k (.int .i64 r.1.1),.k (.int .i64 r.1.2.1),.k (.int .i64 r.1.2.2.1),.k (.int .i64 r.1.2.2.2.1),.k (.int .i64 r.1.2.2.2.2.1),.k (.int .i64 r.1.2.2.2.2.2.1),.k (.int .i64 r.1.2.2.2.2.2.2.1),.k (.int .i64 r.1.2.2.2.2.2.2.2.1),.k (.int .i64 r.1.2.2.2.2.2.2.2.2.1),.k (.int .i64 r.1.2.2.2.2.2.2.2.2.2.1),.k (.string r.1.2.2.2.2.2.2.2.2.2.2.1),.k (.int .i64 r.2.1),.d cw r.2.2.1,.d cZ r.2.2.2.1]]
 | _=>False)
 | _=>False)
 | _=>False)
 | _=>False)
 | _=>False)
theorem XS:cu 108 DI:=λargs H Q h=>by
 unfold DI MU imR Xl imP at h;dsimp only at h
 repeat (split at h;rotate_left;exact h.elim)
 exact adT _ _ _ ⟨_,_,_,_,_,_,_,_,_,_,_,_,_,_,_,_,_,_,_,_,_,rfl,rfl,h⟩
end Go.Proofs

namespace Go.Lm
open Go
def mI (N:List aZ):Nat->Int->List Int
 | 0,_=>[]
 | n+1,k=>k::(bY (aB noTy N k).1 N 0).flatMap (mI N n)
variable {N:List aZ} {ids:List Int} {F:List (Int×eC.den)}
theorem Qa (t:sa N ids F) {a b:Int} (a0:0<=a) (a1:a< (N.length:Int)) (b0:0<=b) (b1:b< (N.length:Int)) (h:(aB noTy N a).1=(aB noTy N b).1):a=b:=by
 rw [ff (e:=noTy) a0 a1,ff (e:=noTy) b0 b1] at h;have P:=cQ.1 t.ord;rcases Int.lt_trichotomy a b with q| q| q
 .have:=P a.toNat b.toNat (by omega) (by omega) (by omega);rw [h,ju] at this;exact absurd this (by decide)
 .exact q
 .have:=P b.toNat a.toNat (by omega) (by omega) (by omega);rw [h,ju] at this;exact absurd this (by decide)
theorem mi (t:sa N ids F):∀ (n:Nat) {k:Int},0<=k->k< (N.length:Int)->17<=(aB noTy N k).1.length+n->∀ j:Int,j∈mI N n k↔0<=j/\j< (N.length:Int)/\pre (aB noTy N k).1 (aB noTy N j)
 | 0,k,k0,k1,hn,j=>by
  have:=t.deep _ (tk (e:=noTy) k0 k1);omega
 | n+1,k,k0,k1,hn,j=>by
  unfold mI;rw [bz,List.mem_flatMap];constructor
  .rintro (rfl| ⟨a,ha,hj⟩)
   .exact ⟨k0,k1,tc _⟩
   .obtain ⟨a0,a1,al,ap⟩:=eJ ha;obtain ⟨j0,j1,jp⟩:=(mi t n a0 a1 (by omega) j).1 hj;exact ⟨j0,j1,yP (by omega) ap jp⟩
  .rintro ⟨j0,j1,jp⟩;have hl:=wN jp;rcases Nat.eq_or_lt_of_le hl with q| q
   .have e:(aB noTy N j).1=(aB noTy N k).1:=by
     unfold pre at jp;rw [aT (by omega)] at jp;exact jp
    exact .inl (Qa t j0 j1 k0 k1 e)
   .obtain ⟨a,ha,hp⟩:=uw t (p:=(aB noTy N k).1) ((aB noTy N j).1.length - ((aB noTy N k).1.length+1)) (tk (e:=noTy) j0 j1) jp (by omega);obtain ⟨a0,a1,al,_⟩:=eJ ha;exact .inr ⟨a,ha,(mi t n a0 a1 (by omega) j).2 ⟨j0,j1,hp⟩⟩
theorem CY {α β:Type} {f:α->List β}:∀ {l:List α},l.Nodup->(∀ a∈l,(f a).Nodup)->(∀ a∈l,∀ b∈l,a≠b->∀ x∈f a,x ∉ f b)->(l.flatMap f).Nodup
 | [],_,_,_=>List.nodup_nil
 | a::l,hn,h1,h2=>by
  obtain ⟨n1,n2⟩:=gj.1 hn;rw [jA,gx];refine ⟨h1 a aK,CY n2 (λb hb=>h1 b (aF _ hb)) λb hb c hc=>h2 b (aF _ hb) c (aF _ hc),λx hx y hy e=>?_⟩;subst e;obtain ⟨b,hb,hq⟩:=List.mem_flatMap.1 hy;exact h2 a aK b (aF _ hb) (λe=>n1 (e▸hb)) x hx hq
theorem Fa (t:sa N ids F):∀ (n:Nat) {k:Int},0<=k->k< (N.length:Int)->17<=(aB noTy N k).1.length+n->(mI N n k).Nodup
 | 0,k,k0,k1,hn=>List.nodup_nil
 | n+1,k,k0,k1,hn=>by
  unfold mI;have hK:=nV (aB noTy N k).1 (L:=N) (k:=0);refine gj.2 ⟨λq=>?_,CY (hK.imp λh e=>by rw [e] at h;exact Int.lt_irrefl _ h) (λa ha=>?_) λa ha b hb hab x hx hy=>?_⟩
  .obtain ⟨a,ha,hq⟩:=List.mem_flatMap.1 q;obtain ⟨a0,a1,al,_⟩:=eJ ha;have:=wN ((mi t n a0 a1 (by omega) k).1 hq).2.2;omega
  .obtain ⟨a0,a1,al,_⟩:=eJ ha;exact Fa t n a0 a1 (by omega)
  .obtain ⟨a0,a1,al,_⟩:=eJ ha;obtain ⟨b0,b1,bl,_⟩:=eJ hb;have p1:=((mi t n a0 a1 (by omega) x).1 hx).2.2;have p2:=((mi t n b0 b1 (by omega) x).1 hy).2.2;refine hab (Qa t a0 a1 b0 b1 ?_);unfold pre at p1 p2;rw [<-p1,<-p2,al,bl]
theorem amP:∀ {l:List Int} {n:Nat},l.Nodup->(∀ x∈l,0<=x/\x< (n:Int))->l.length<=n:=λ{l n} h1 h2=>by
 have:=pig (n:=n) (l:=l.map ax) ?_ ?_
 .rwa [bR] at this
 .rw [List.Nodup,List.pairwise_map];refine h1.imp_of_mem λ{a b} ha hb hab e=>hab ?_;have:=h2 a ha;have:=h2 b hb;omega
 .intro x hx;obtain ⟨y,hy,rfl⟩:=bq.1 hx;have:=h2 y hy;omega
def EC (N:List aZ) (V:List Int) (i:Int):Nat:=V.countP λv=>(aB noTy N v).2.1==i
structure mh (d:IR) (N:List aZ) (V:List Int) (M:List (Int×Nat×bf.den)):Prop where
 keys:(M.map (·.1)).Nodup
 k8:∀ p∈M,∃ k∈V,Kk.get .int d.t.Mr (aB noTy N k).2.1=some p.1/\rV d N (aB noTy N k) (EC N V (aB noTy N k).2.1:Nat) p.2.2
 has:∀ k∈V,∃ p∈M,Kk.get .int d.t.Mr (aB noTy N k).2.1=some p.1
theorem mh.nil (d:IR) (N:List aZ):mh d N [] []:=⟨List.nodup_nil,λp hp=>(by cases hp),λk hk=>(by cases hk)⟩
theorem uo (N:List aZ) (V:List Int) (k i:Int):EC N (V++ [k]) i=EC N V i+if (aB noTy N k).2.1=i then 1 else 0:=by
 unfold EC;rw [List.countP_append,List.countP_singleton];by_cases h:(aB noTy N k).2.1=i;rw [if_pos h,if_pos (by simpa using h)];rw [if_neg h,if_neg (by simpa using h)]
theorem mh.new {d:IR} {T:List Int} {V:List Int} {M:List (Int×Nat×bf.den)} (hd:d.Ok T N) (h:mh d N V M) {k ref:Int} (hr:Kk.get .int d.t.Mr (aB noTy N k).2.1=some ref) (kZ:∀ p∈M,p.1≠ref) {bb:Nat} {r:bf.den} (hR:rV d N (aB noTy N k) 1 r):mh d N (V++ [k]) ((ref,bb,r)::M):=by
 have jb:∀ v∈V,(aB noTy N v).2.1≠(aB noTy N k).2.1:=λv hv e=>by
  obtain ⟨p,hp,hg⟩:=h.has v hv;rw [e,hr] at hg;exact kZ p hp (aj hg).symm
 have h0:EC N V (aB noTy N k).2.1=0:=by
  unfold EC;rw [List.countP_eq_zero];intro v hv;simpa using jb v hv
 refine ⟨?_,λp hp=>?_,λv hv=>?_⟩
 .rw [cE,gj];refine ⟨λq=>?_,h.keys⟩;obtain ⟨p,hp,e⟩:=bq.1 q;exact kZ p hp e
 .rcases bz.1 hp with rfl| hp
  .refine ⟨k,List.mem_append_right _ aK,hr,?_⟩;rw [uo,h0,if_pos rfl];exact hR
  .obtain ⟨v,hv,h1,h2⟩:=h.k8 p hp;refine ⟨v,cj _ hv,h1,?_⟩;rw [uo,if_neg (λe=>jb v hv e.symm)];exact h2
 .rcases aX.1 hv with hv| hv
  .obtain ⟨p,hp,hg⟩:=h.has v hv;exact ⟨p,aF _ hp,hg⟩
  .obtain rfl:=aW.1 hv;exact ⟨_,aK,hr⟩
theorem mh.again {d:IR} {T:List Int} {V:List Int} {M:List (Int×Nat×bf.den)} (hd:d.Ok T N) (h:mh d N V M) {k ref:Int} (hr:Kk.get .int d.t.Mr (aB noTy N k).2.1=some ref) {i:Nat} {bb:Nat} {r:bf.den} (hi:M[i]?=some (ref,bb,r)):mh d N (V++ [k]) (M.set i (ref,bb,(r.1,((r.2.1:Int)+1:Int),r.2.2))):=by
 obtain ⟨hl,r9⟩:=aw.1 hi;have r7:(ref,bb,r)∈M:=r9▸dA hl;have Am:(M.set i (ref,bb,(r.1,((r.2.1:Int)+1:Int),r.2.2))).map (·.1)=M.map (·.1):=by
  rw [List.map_set];have:(M.map (·.1)).set i ref=M.map (·.1):=by
   have e:(M.map (·.1))[i]'(by rw [bR];exact hl)=ref:=by rw [List.getElem_map,r9]
   rw [<-e,List.set_getElem_self]
  exact this
 have apS:∀ (j:Nat) (hj:j< M.length),M[j].1=ref->j=i:=λj hj e=>by
  refine (List.getElem_inj (h₀:=by rw [bR];exact hj) (h₁:=by rw [bR];exact hl) h.keys).1 ?_;rw [List.getElem_map,List.getElem_map,r9];exact e
 refine ⟨by rw [Am];exact h.keys,λp hp=>?_,λv hv=>?_⟩
 .obtain ⟨j,hj,rfl⟩:=ev.1 hp;rw [jd] at hj;rw [List.getElem_set];by_cases e:i=j
  .rw [if_pos e];obtain ⟨v,hv,h1,h2⟩:=h.k8 _ r7;have he:=hd.ok.inj _ _ _ h1 hr;refine ⟨v,cj _ hv,h1,⟨h2.n,?_,h2.list,h2.xa⟩⟩;rw [uo,if_pos he.symm];have:=h2.nm;show (r.2.1:Int)+1=_;rw [this];rfl
  .rw [if_neg e];obtain ⟨v,hv,h1,h2⟩:=h.k8 _ (dA hj);refine ⟨v,cj _ hv,h1,?_⟩;rw [uo,if_neg (λq=>e (apS j hj (by rw [<-q,hr] at h1;exact (aj h1).symm)).symm)];exact h2
 .have hk:∀ q,(∃ p∈M,some q=some p.1)->∃ p∈M.set i (ref,bb,(r.1,((r.2.1:Int)+1:Int),r.2.2)),some q=some p.1:=λq ⟨p,hp,e⟩=>by
   have:p.1∈M.map (·.1):=bq.2 ⟨p,hp,rfl⟩;rw [<-Am] at this;obtain ⟨p',hp',e'⟩:=bq.1 this;exact ⟨p',hp',by rw [e,e']⟩
  rcases aX.1 hv with hv| hv
  .obtain ⟨p,hp,hg⟩:=h.has v hv;obtain ⟨p',h1,h2⟩:=hk p.1 ⟨p,hp,rfl⟩;exact ⟨p',h1,by rw [hg];exact h2⟩
  .obtain rfl:=aW.1 hv;obtain ⟨p',h1,h2⟩:=hk ref ⟨_,r7,rfl⟩;exact ⟨p',h1,by rw [hr];exact h2⟩
theorem Va {d:IR} {T:List Int} {V:List Int} {M:List (Int×Nat×bf.den)} (hd:d.Ok T N) (h:mh d N V M) {n:Nat} {k ref:Int} (k0:0<=k) (k1:k< (N.length:Int)) (hV:∀ v∈V,0<=v/\v< (N.length:Int)) (hnd:(V++mI N (n+1) k).Nodup) (hr:Kk.get .int d.t.Mr (aB noTy N k).2.1=some ref) {i:Nat} {bb:Nat} {r:bf.den} (hi:M[i]?=some (ref,bb,r)):(aB noTy N k).2.2.1≠1/\r.1.1=(aB noTy N k).2.2.1/\mI N (n+1) k= [k]:=by
 obtain ⟨hl,r9⟩:=aw.1 hi;have r7:(ref,bb,r)∈M:=r9▸dA hl;obtain ⟨v,hv,h1,h2⟩:=h.k8 _ r7;have he:=hd.ok.inj _ _ _ h1 hr;obtain ⟨v0,v1⟩:=hV v hv;have hmk:aB noTy N k∈N:=tk (e:=noTy) k0 k1;have hmv:aB noTy N v∈N:=tk (e:=noTy) v0 v1;obtain ⟨o1,o2⟩:=hd.tok.one _ hmk _ hmv he.symm;have jb:(aB noTy N k).2.2.1≠1:=λhk=>by
  have:=Qa hd.tok v0 v1 k0 k1 (by rw [<-o1 hk]);subst this;exact (gx.1 hnd).2.2 _ hv _ (by unfold mI;exact aK) rfl
 refine ⟨jb,?_,?_⟩;rw [h2.n.kind,o2]
 .unfold mI;have:bY (aB noTy N k).1 N 0= []:=by
   rw [List.eq_nil_iff_forall_not_mem];intro a ha;obtain ⟨a0,a1,al,ap⟩:=eJ ha;have:=hd.tok.below hmk jb (tk (e:=noTy) a0 a1) ap;rw [this] at al;omega
  rw [this];rfl
theorem fY.at {M:List (Int×Int)} {d:Nat}:∀ {ks:List Int} {es:List cw.den},fY N M d ks es->∀ (j:Nat) (h1:j< ks.length) (h2:j< es.length),es[j].2.1=(aB noTy N ks[j]).2.2.1/\Kk.get .int M (aB noTy N ks[j]).2.1=some es[j].2.2.1
 | [],[],_,_,h,_=>by simp at h
 | _::_,_::_,⟨_,q2,q3,_⟩,0,_,_=>⟨q2,q3⟩
 | _::_,_::_,⟨_,_,_,q4⟩,j+1,h1,h2=>fY.at q4 j (by simpa using h1) (by simpa using h2)
 | [],_::_,h,_,_,_=>h.elim
 | _::_,[],h,_,_,_=>h.elim
theorem aec (N:List aZ) (n:Nat) (V:List Int) (k:Int) {K:List Int} {j:Nat} (hj:j< K.length):(V++k::(K.take j).flatMap (mI N n))++mI N n K[j]=V++k::(K.take (j+1)).flatMap (mI N n)/\∃ q,V++k::K.flatMap (mI N n)=(V++k::(K.take (j+1)).flatMap (mI N n))++q:=by
 have e:K.take (j+1)=K.take j++ [K[j]]:=bG hj;refine ⟨by rw [e,ia,aL];simp,(K.drop (j+1)).flatMap (mI N n),?_⟩
 conv=>lhs;rw [<-bX (j+1) K,ia]
 simp
end Go.Lm

namespace Go.Proofs
open Go Go.Lm Go.RowKit
set_option maxRecDepth 1000000
def rA (n:Nat):Ct:=λargs H Q=>(match args with
 | [.v (.c (.p 0 0)),.v (.c (.k (.int .i64 ref))),.v (.c (.k (.int .i64 kd))),.v (.c (.k (.int .i64 dp)))]=>(match H with
 | [o0,o1,o2,o3,o4]=>imR o0 λT im s0 s1 s2 s3 s4 s5 s6 s7 s8 s9 pl ids nm=>(match o1 with
 | .abs R1=>(match o2 with
 | .abs R2=>(match o3 with
 | .abs R3=>MU o4 λM=>∃ (d:IR) (N:List aZ),d.Ok T N/\(T=dB/\im=d.im T/\d.s=(s0,s1,s2,s3,s4,s5,s6,s7,s8,s9,())/\pl=d.pl/\ids=d.ids)/\(RB R1 d.fI d.t.RI/\RB R2 d.fL d.t.RL/\RB R3 d.fX d.t.RX)/\∃ (V:List Int) (k:Int),mh d N V M/\nm=V.length/\(V++mI N n k).Nodup/\(∀ v∈V,0<=v/\v< (N.length:Int))/\(0<=k/\k< (N.length:Int)/\dp=(aB noTy N k).1.length/\17<=(aB noTy N k).1.length+n)/\kd=(aB noTy N k).2.2.1/\Kk.get .int d.t.Mr (aB noTy N k).2.1=some ref/\∀ B1 B2 B3 M',RB B1 d.fI d.t.RI->RB B2 d.fL d.t.RL->RB B3 d.fX d.t.RX->mh d N (V++mI N n k) M'->Q (.bool true) [.cells 90 [.de (.int .u32) T 0 0,.d .u8 im,.k (.int .i64 s0),.k (.int .i64 s1),.k (.int .i64 s2),.k (.int .i64 s3),.k (.int .i64 s4),.k (.int .i64 s5),.k (.int .i64 s6),.k (.int .i64 s7),.k (.int .i64 s8),.k (.int .i64 s9),.d (.int .i64) pl,.d (.int .i64) ids,.p 1 0,.p 2 0,.p 3 0,.m 4,.k (.int .i64 ((V++mI N n k).length:Nat))],.abs B1,.abs B2,.abs B3,.ab (.pm 3 82 bf M')]
 | _=>False)
 | _=>False)
 | _=>False)
 | _=>False)
 | _=>False)
def akw (n:Nat):Ct:=λargs H Q=>∃ (ref:Int) (kd:Int) (dp:Int) (T:List Int) (im:List UInt8) (s0:Int) (s1:Int) (s2:Int) (s3:Int) (s4:Int) (s5:Int) (s6:Int) (s7:Int) (s8:Int) (s9:Int) (pl:List Int) (ids:List Int) (nm:Int) (R1:Value->Atom) (R2:Value->Atom) (R3:Value->Atom) (M:List (Int×Nat×bf.den)),args= [.v (.c (.p 0 0)),.int ref,.int kd,.int dp]/\H= [.cells 90 [.de (.int .u32) T 0 0,.d .u8 im,.k (.int .i64 s0),.k (.int .i64 s1),.k (.int .i64 s2),.k (.int .i64 s3),.k (.int .i64 s4),.k (.int .i64 s5),.k (.int .i64 s6),.k (.int .i64 s7),.k (.int .i64 s8),.k (.int .i64 s9),.d (.int .i64) pl,.d (.int .i64) ids,.p 1 0,.p 2 0,.p 3 0,.m 4,.k (.int .i64 nm)],.abs R1,.abs R2,.abs R3,.ab (.pm 3 82 bf M)]/\∃ (d:IR) (N:List aZ),d.Ok T N/\(T=dB/\im=d.im T/\d.s=(s0,s1,s2,s3,s4,s5,s6,s7,s8,s9,())/\pl=d.pl/\ids=d.ids)/\(RB R1 d.fI d.t.RI/\RB R2 d.fL d.t.RL/\RB R3 d.fX d.t.RX)/\∃ (V:List Int) (k:Int),mh d N V M/\nm=V.length/\(V++mI N n k).Nodup/\(∀ v∈V,0<=v/\v< (N.length:Int))/\(0<=k/\k< (N.length:Int)/\dp=(aB noTy N k).1.length/\17<=(aB noTy N k).1.length+n)/\kd=(aB noTy N k).2.2.1/\Kk.get .int d.t.Mr (aB noTy N k).2.1=some ref/\∀ B1 B2 B3 M',RB B1 d.fI d.t.RI->RB B2 d.fL d.t.RL->RB B3 d.fX d.t.RX->mh d N (V++mI N n k) M'->Q (.bool true) [.cells 90 [.de (.int .u32) T 0 0,.d .u8 im,.k (.int .i64 s0),.k (.int .i64 s1),.k (.int .i64 s2),.k (.int .i64 s3),.k (.int .i64 s4),.k (.int .i64 s5),.k (.int .i64 s6),.k (.int .i64 s7),.k (.int .i64 s8),.k (.int .i64 s9),.d (.int .i64) pl,.d (.int .i64) ids,.p 1 0,.p 2 0,.p 3 0,.m 4,.k (.int .i64 ((V++mI N n k).length:Nat))],.abs B1,.abs B2,.abs B3,.ab (.pm 3 82 bf M')]
def acS (n:Nat):Vx:= {P:=bQ,ct:=[(61,(rA n)),(108,DI)],ty:=dW,hold:=[],clo:=true,cloH:=true}
theorem Xd (n:Nat) (hn:cu 61 (rA n)):gO Inv bQ (acS n).ct:=gO.cons hn (gO.cons XS (gO.nil _ _))
abbrev vm:=Int×Nat×Ty.den bf
abbrev CB (y0:List (Int×Nat×bf.den)) (y1:Int):=(∀ (p:Int×Nat×Ty.den bf),p∈y0->p.1≠y1)
def RA (n:Nat) (ref kd dp:Int) (T:List Int) (im:List UInt8) (s0 s1 s2 s3 s4 s5 s6 s7 s8 s9:Int) (pl ids:List Int) (nm:Int) (R1 R2 R3:Value->Atom) (M:(List (Int×Nat×bf.den))):dx:=λQ=>cz ref kd dp (cF nm (br (decide (dp>16)) (Q iX [fJ T im s0 s1 s2 s3 s4 s5 s6 s7 s8 s9 pl ids (nm+1),HO.abs R1,HO.abs R2,HO.abs R3,fp M]) (br 
 (decide (nm+1>(1024:Int))) (Q iX [fJ T im s0 s1 s2 s3 s4 s5 s6 s7 s8 s9 pl ids (nm+1),HO.abs R1,HO.abs R2,HO.abs R3,fp M]) (((CB M ref)->∃ d N,IR.Ok d T N/\(T=dB/\im=IR.im d T/\d.s=(s0,s1,s2,s3,s4,s5, 
 s6,s7,s8,s9,())/\pl=d.pl/\ids=d.ids)/\(RB R1 d.fI d.t.RI/\RB R2 d.fL d.t.RL/\RB R3 d.fX d.t.RX)/\∃ x,x∈N/\kd=x.2.2.1/\Kk.get Kk.int d.t.Mr x.2.1=some ref/\∀ (B1 B2 B3:Value->Atom) (r:Ty.den bf),RB B1 d.fI 
 d.t.RI->RB B2 d.fL d.t.RL->RB B3 d.fX d.t.RX->rV d N x ah r->(CB M ref)/\List.length M< 9223372036854775807/\∀ (bb:Nat),fC r.2.2.1 (aM (λi ag=>br (decide (i.1.1< (aS r.2.2.1))) (0<=i.1.1/\i.1.1< (aS 
 r.2.2.1)/\(Ty.ok cw (aB cw r.2.2.1 i.1.1)->cF dp (∃ d N,IR.Ok d i.2.1.1 N/\(i.2.1.1=dB/\i.2.1.2.1=IR.im d i.2.1.1/\d.s=(i.2.1.2.2.1,i.2.1.2.2.2.1,i.2.1.2.2.2.2.1,i.2.1.2.2.2.2.2.1,i.2.1.2.2.2.2.2.2.1, 
 i.2.1.2.2.2.2.2.2.2.1,i.2.1.2.2.2.2.2.2.2.2.1,i.2.1.2.2.2.2.2.2.2.2.2.1,i.2.1.2.2.2.2.2.2.2.2.2.2.1,i.2.1.2.2.2.2.2.2.2.2.2.2.2.1,())/\i.2.1.2.2.2.2.2.2.2.2.2.2.2.2.1=d.pl/\i.2.1.2.2.2.2.2.2.2.2.2.2.2.2.2.1=d.ids)/\(RB i.2.2.1 
 d.fI d.t.RI/\RB i.2.2.2.1 d.fL d.t.RL/\RB i.2.2.2.2.1 d.fX d.t.RX)/\∃ V k,mh d N V i.2.2.2.2.2.1/\i.2.1.2.2.2.2.2.2.2.2.2.2.2.2.2.2.2.2.2.2.1=(aA V)/\List.Pairwise (λx1 x2=>x1≠x2) (V++mI N n k)/\(∀ (v:Int),v∈V-> 
 0<=v/\v< (aA N))/\(0<=k/\k< (aA N)/\dp+1=(gR N k)/\17<=List.length (fb N k).1+n)/\(aB cw r.2.2.1 i.1.1).2.1=(fb N k).2.2.1/\Kk.get Kk.int d.t.Mr (fb N k).2.1=some (aB cw r.2.2.1 i.1.1).2.2.1/\ 
 ∀ (B1 B2 B3:Value->Atom) (M':List vm),RB B1 d.fI d.t.RI->RB B2 d.fL d.t.RL->RB B3 d.fX d.t.RX->mh d N (V++mI N n k) M'->cF i.1.1 (ag ((i.1.1+1,()),(i.2.1.1,i.2.1.2.1,i.2.1.2.2.1,i.2.1.2.2.2.1,i.2.1.2.2.2.2.1, 
 i.2.1.2.2.2.2.2.1,i.2.1.2.2.2.2.2.2.1,i.2.1.2.2.2.2.2.2.2.1,i.2.1.2.2.2.2.2.2.2.2.1,i.2.1.2.2.2.2.2.2.2.2.2.1,i.2.1.2.2.2.2.2.2.2.2.2.2.1,i.2.1.2.2.2.2.2.2.2.2.2.2.2.1,i.2.1.2.2.2.2.2.2.2.2.2.2.2.2.1, 
 i.2.1.2.2.2.2.2.2.2.2.2.2.2.2.2.1,(),(),(),(),(aS (V++mI N n k)),()),B1,B2,B3,M',()))))) (Q nF [fJ i.2.1.1 i.2.1.2.1 i.2.1.2.2.1 i.2.1.2.2.2.1 i.2.1.2.2.2.2.1 i.2.1.2.2.2.2.2.1 i.2.1.2.2.2.2.2.2.1 i.2.1.2.2.2.2.2.2.2.1 
 i.2.1.2.2.2.2.2.2.2.2.1 i.2.1.2.2.2.2.2.2.2.2.2.1 i.2.1.2.2.2.2.2.2.2.2.2.2.1 i.2.1.2.2.2.2.2.2.2.2.2.2.2.1 i.2.1.2.2.2.2.2.2.2.2.2.2.2.2.1 i.2.1.2.2.2.2.2.2.2.2.2.2.2.2.2.1 i.2.1.2.2.2.2.2.2.2.2.2.2.2.2.2.2.2.2.2.2.1,HO.abs i.2.2.1, 
 HO.abs i.2.2.2.1,HO.abs i.2.2.2.2.1,fp i.2.2.2.2.2.1])) ((ah,()),(T,im,s0,s1,s2,s3,s4,s5,s6,s7,s8,s9,pl,ids,(),(),(),(),nm+1,()),B1,B2,B3,List.set ((ref,bb,Ty.NV bf)::M) bx (ref,bb,r.1,aV, 
 r.2.2),())))/\∀ (i bb:Nat) (x:Ty.den bf),M[i]?=some (ref,bb,x)->Ty.ok bf x->cF x.2.1 (br (kd !=1) (Q (.v (.c (.k (.bool (x.1.1==kd))))) [fJ T im s0 s1 s2 s3 s4 s5 s6 s7 s8 s9 pl ids (nm+1),HO.abs R1,HO.abs R2, 
 HO.abs R3,fp (List.set M i (ref,bb,x.1,x.2.1+1,x.2.2))]) (Q iX [fJ T im s0 s1 s2 s3 s4 s5 s6 s7 s8 s9 pl ids (nm+1),HO.abs R1,HO.abs R2,HO.abs R3,fp (List.set M i (ref,bb,x.1,x.2.1+1,x.2.2))]))))))
theorem Xz (n:Nat) (hn:cu 61 (rA n)):∀ args H Q,akw (n+1) args H Q->Wp Inv bQ 61 args H Q:=by
 intro args H Q h;obtain ⟨ref,kd,dp,T,im,s0,s1,s2,s3,s4,s5,s6,s7,s8,s9,pl,ids,nm,R1,R2,R3,M,rfl,rfl,h⟩:=h;refine Wp.JL (X:=(acS n)) (Xd n hn) ⟨[(15,⟨[(78,.int .i64)],[(0,.cells 90 [.dp (.int .u32),.d .u8,.int .i64,.int .i64,.int .i64,.int .i64,.int .i64,.int .i64,.int .i64,.int .i64,.int .i64,.int .i64,.d (.int .i64),.d (.int .i64),.p 1 0,.p 2 0,.p 3 0,.m 4,.int .i64]),(1,.abs),(2,.abs),(3,.abs),(4,.ab (.pm 3 82 bf))]⟩)],[]⟩ (fn:=Tryz.f61) (V:=RA n ref kd dp T im s0 s1 s2 s3 s4 s5 s6 s7 s8 s9 pl ids nm R1 R2 R3 M) (by kernel_rfl) (λ_=>by kernel_rfl) ?_;unfold RA CB vm fb cF fC gR cz iX nF ah aV aS aA bx fJ fp;obtain ⟨d,N,hd,⟨rfl,rfl,hs,rfl,rfl⟩,⟨hR1,hR2,hR3⟩,V,k,hV,rfl,hnd,hVr,⟨k0,k1,rfl,hkn⟩,rfl,hg,h⟩:=h;have hx:aB noTy N k∈N:=tk (e:=noTy) k0 k1;have afg:=hd.tok.deep _ hx;have hN40:=hd.tok.len;have hvm:=mi hd.tok (n+1) k0 k1 hkn;have ajT:∀ v∈V++mI N (n+1) k,0<=v/\v< (N.length:Int):=λv hv=>(aX.1 hv).elim (hVr v) λq=>⟨((hvm v).1 q).1,((hvm v).1 q).2.1⟩;have hlen:=amP (n:=N.length) hnd ajT;have hv1:mI N (n+1) k=k::(bY (aB noTy N k).1 N 0).flatMap (mI N n):=rfl;have hVl:V.length+1<=40:=by rw [hv1,af,av] at hlen;omega
 refine λ_ _ _=>⟨by unfold aD;omega,aq (λq=>absurd (of_decide_eq_true q) (by omega)) (λ_=>aq (λq=>absurd (of_decide_eq_true q) (by omega)) (λ_=>⟨λkZ=>?_,λi bb x hi _=>?_⟩))⟩;rotate_left
 .obtain ⟨a1,a2,a3⟩:=Va hd hV k0 k1 hVr hnd hg hi;rw [a3] at h;obtain ⟨v,hv,_,h2⟩:=hV.k8 _ (ka hi);have hc:EC N V (aB noTy N v).2.1<=V.length:=List.countP_le_length;obtain ⟨nm,hnm⟩:∃ a:Int,a=x.2.1:=⟨_,rfl⟩;have asa:nm=(EC N V (aB noTy N v).2.1:Nat):=by rw [hnm];exact h2.nm
  have hf:=h R1 R2 R3 _ hR1 hR2 hR3 (hV.again hd hg hi);have e1:((V++ [k]).length:Int)=(V.length:Int)+1:=by simp
  rw [e1] at hf;refine ⟨by rw [<-hnm];unfold aD;omega,aq (λ_=>?_) (λq=>absurd (by simpa using q) a1)⟩;rw [a2,show ((aB noTy N k).2.2.1==(aB noTy N k).2.2.1)=true by simp];exact hf
 have hMl:M.length<=4294967296:=by
  have:=amP (l:=M.map (·.1)) (n:=4294967296) hV.keys λr hr=>by
   obtain ⟨p,hp,rfl⟩:=bq.1 hr;obtain ⟨v,_,hq,_⟩:=hV.k8 p hp;have:=(hd.ok.refs _ _ hq).1;omega
  rwa [bR] at this
 refine ⟨d,N,hd,⟨rfl,rfl,hs,rfl,rfl⟩,⟨hR1,hR2,hR3⟩,_,hx,rfl,hg,λB1 B2 B3 r hB1 hB2 hB3 hr=>⟨kZ,by omega,λbb _=>?_⟩⟩;have hE:fY N d.t.Mr (aB noTy N k).1.length (bY (aB noTy N k).1 N 0) r.2.2.1:=by
  rcases hr.list with ⟨_,_,q⟩| ⟨q,e⟩;exact q
  .rw [e];have:bY (aB noTy N k).1 N 0= []:=by
    rw [List.eq_nil_iff_forall_not_mem];intro a ha;obtain ⟨a0,a1,al,ap⟩:=eJ ha;have:=hd.tok.below hx q (tk (e:=noTy) a0 a1) ap;rw [this] at al;omega
   rw [this];trivial
 have hEl:=hE.len;have uB:=hV.new hd hg kZ (bb:=bb) (r:=(r.1,(1:Int),r.2.2)) ⟨hr.n,rfl,hr.list,hr.xa⟩;have hKm:∀ a∈bY (aB noTy N k).1 N 0,0<=a/\a< (N.length:Int)/\(aB noTy N a).1.length=(aB noTy N k).1.length+1:=λa ha=>⟨(eJ ha).1,(eJ ha).2.1,(eJ ha).2.2.1⟩;have hKl:=kF (aB noTy N k).1 (L:=N) (k:=0);rw [hv1] at hnd ajT h;generalize bY (aB noTy N k).1 N 0=K at*;refine aM.intro (λi=>∃ (j:Nat) (C1 C2 C3:Value->Atom) (M':List (Int×Nat×bf.den)),j<=K.length/\i.1.1=(j:Int)/\(RB C1 d.fI d.t.RI/\RB C2 d.fL d.t.RL/\RB C3 d.fX d.t.RX)/\mh d N (V++k::(K.take j).flatMap (mI N n)) M'/\i.2=((dB,d.im dB,s0,s1,s2,s3,s4,s5,s6,s7,s8,s9,d.pl,d.ids,(),(),(),(),(((V++k::(K.take j).flatMap (mI N n)).length:Nat):Int),()),C1,C2,C3,M',())) (λi=>K.length - i.1.1.toNat) ⟨0,B1,B2,B3,_,cY _,rfl,⟨hB1,hB2,hB3⟩,uB,by rw [show ((V.length:Int)+1)=(((V++k::((K.take 0).flatMap (mI N n))).length:Nat):Int) by simp];rfl⟩ ?_;rintro ⟨⟨i,_⟩,o⟩ ⟨j,C1,C2,C3,M',hj,h1,⟨c1,c2,c3⟩,hV',h2⟩;simp only at h1 h2 ⊢;subst h1 h2;dsimp only;refine aq (λhc=>?_) (λhc=>?_)
 .have vP:=of_decide_eq_true hc;have pt:j< K.length:=by omega
  have hj3:j< r.2.2.1.length:=by omega
  obtain ⟨e1,e2⟩:=aec N n V k pt;obtain ⟨q,e2⟩:=e2;obtain ⟨f1,f2⟩:=hE.at j pt hj3;obtain ⟨a0,a1,al⟩:=hKm _ (dA pt);have ek:aB cw r.2.2.1 (j:Int)=r.2.2.1[j]:=gH (e:=cw) hj3;rw [ek];have ap0:((V++k::(K.take j).flatMap (mI N n))++mI N n K[j]).Nodup:=by
   rw [e1];rw [e2] at hnd;exact (gx.1 hnd).1
  refine ⟨by omega,by omega,λ_=>⟨by unfold aD;omega,d,N,hd,⟨rfl,rfl,hs,rfl,rfl⟩,⟨c1,c2,c3⟩,_,K[j],hV',rfl,ap0,λv hv=>ajT v ?_,⟨a0,a1,by omega,by omega⟩,f1,f2,λD1 D2 D3 M2 d1 d2 d3 hV2=>⟨by unfold aD;omega,⟨j+1,D1,D2,D3,M2,pt,by omega,⟨d1,d2,d3⟩,e1▸hV2,by rw [e1]⟩,by omega⟩⟩⟩;rw [e2,<-e1];exact cj _ (cj _ hv)
 .have hc:=of_decide_eq_false hc;obtain rfl:j=K.length:=by omega
  rw [eK] at hV' ⊢;exact h C1 C2 C3 M' c1 c2 c3 hV'
theorem Ra:∀ (n:Nat) args H Q,rA n args H Q->Wp Inv bQ 61 args H Q
 | 0=>λargs H Q h=>by
  unfold rA MU imR Xl imP at h;dsimp only at h
  repeat (split at h;rotate_left;exact h.elim)
  obtain ⟨d,N,hd,_,_,V,k,_,_,_,_,⟨k0,k1,_,hkn⟩,_⟩:=h;have:=hd.tok.deep _ (tk (e:=noTy) k0 k1);omega
 | n+1=>λargs H Q h=>by
  unfold rA MU imR Xl imP at h;dsimp only at h
  repeat (split at h;rotate_left;exact h.elim)
  exact Xz n (Ra n) _ _ _ ⟨_,_,_,_,_,_,_,_,_,_,_,_,_,_,_,_,_,_,_,_,_,_,rfl,rfl,h⟩
def afC:Ct:=rA 17
theorem adw:cu 61 afC:=Ra 17
end Go.Proofs

namespace Go.Lm
open Go Go.RowKit
section
variable {I:cX->Prop} {P:Program} {f:FuncId} {args:List SV} {H:List HO} {Q:SV->List HO->Prop}
theorem Wp.ajJ {p l:Nat} {t u:TypeId} {e:Ty} {xs:List e.den} {cs:List Cl} (hp:H[p]?=some (.cells t (.oe l 1 0 0::cs))) (hl:H[l]?=some (.held u e xs)) (hx:0< xs.length) (h1:e.size=1) (h:Wp I P f args (H.set p (.cells t (.de e xs 0 0::cs))) Q):Wp I P f args H Q:=Wp.beg λW E g w F hs=>by
 have JB:=(aw.1 hp).1;have hlen:E.length=H.length:=hs.len;obtain ⟨_,_,_,_,q1,q2,_,_,⟨v0,hE,hi⟩,_⟩:=hs.pick hl;refine ⟨E,_,bu.refl E,⟨hs.sl.cJ λk s=>?_,by simp [hlen]⟩,h⟩;obtain ⟨k1,k2,ap,e2,⟨bb,us,hEp,hrel,hblk⟩,s2⟩:=bh.sk hp s;obtain ⟨u1,r,rfl,⟨v,z1,z2,_⟩,h4⟩:=hrel;rw [hE] at z1;obtain rfl:=aj z1;have hd:cq E g (.de e xs 0 0) u1:=⟨⟨bB _,by omega,cY _⟩,v0,hi,by rw [h1];exact z2⟩;have s3:bh g (cM E p (.cells t (.de e xs 0 0::cs))::(ba E 0 (H.set p .gone)++F)) k:=⟨k1,k2,ap,e2,⟨bb,_,hEp,bp.cons hd h4,hblk⟩,s2⟩;have s4:=bh.En (l:=p) (by simp;omega) s3;rw [List.set_set] at s4;exact s4
theorem Wp.ajo {p:Nat} (h:Wp I P f args H λsv H'=>∃ kt tR e M hz mb,H'[p]?=some (.ab (.pz kt tR e M hz mb))/\Q sv (H'.set p (.ab (.pm kt tR e M)))):Wp I P f args H Q:=λW hW g w E F vs hs hv=>
 (h W hW g w E F vs hs hv).mono λv w' ⟨E1,g1,sv,H1,e1,m1,s1,r1,kt,tR,e,M,hz,mb,hp,hq⟩=>by
  have JB:=(aw.1 hp).1;have hlen:E1.length=H1.length:=s1.len;refine ⟨E1,g1,sv,_,e1,m1,⟨?_,by simp [hlen]⟩,r1,hq⟩;refine s1.sl.cJ λk s=>?_;obtain ⟨k1,k2,ap,e2,⟨v0,hE,h1,h2,h3⟩,s2⟩:=bh.sk hp s;have s3:bh g1 (cM E1 p (.ab (.pm kt tR e M))::(ba E1 0 (H1.set p .gone)++F)) k:=⟨k1,k2,ap,e2,⟨v0,hE,h3⟩,s2⟩;have s4:=bh.En (l:=p) (by simp;omega) s3;rw [List.set_set] at s4;exact s4
end
end Go.Lm

namespace Go.Proofs
open Go Go.Lm Go.RowKit
set_option maxRecDepth 1000000
def afP:Ct:=λargs H Q=>∃ (a:Int) (c:Int) (T:List Int) (im:List UInt8) (s0:Int) (s1:Int) (s2:Int) (s3:Int) (s4:Int) (s5:Int) (s6:Int) (s7:Int) (s8:Int) (s9:Int) (nm:Int) (M:List (Int×Nat×bf.den)),args= [.v (.c (.p 0 0)),.int a,.int c]/\H= [.cells 90 [.de (.int .u32) T 0 0,.d .u8 im,.k (.int .i64 s0),.k (.int .i64 s1),.k (.int .i64 s2),.k (.int .i64 s3),.k (.int .i64 s4),.k (.int .i64 s5),.k (.int .i64 s6),.k (.int .i64 s7),.k (.int .i64 s8),.k (.int .i64 s9),.k (.slice none 0 0),.k (.slice none 0 0),.k (.pointer none),.k (.pointer none),.k (.pointer none),.m 2,.k (.int .i64 nm)],.held 109 (.int .u32) T,.ab (.pm 3 82 bf M)]/\T.length=256/\im.length<=100000000/\∃ fs R,R.length<=10000000/\iY T im a c fs R []/\∀ A,RB A fs R->Q (.c (.p 3 0)) [.cells 90 [.de (.int .u32) T 0 0,.d .u8 im,.k (.int .i64 s0),.k (.int .i64 s1),.k (.int .i64 s2),.k (.int .i64 s3),.k (.int .i64 s4),.k (.int .i64 s5),.k (.int .i64 s6),.k (.int .i64 s7),.k (.int .i64 s8),.k (.int .i64 s9),.k (.slice none 0 0),.k (.slice none 0 0),.k (.pointer none),.k (.pointer none),.k (.pointer none),.m 2,.k (.int .i64 nm)],.held 109 (.int .u32) T,.ab (.pm 3 82 bf M),.abs A]
def Lb (a c:Int) (T:List Int) (im:List UInt8) (s0 s1 s2 s3 s4 s5 s6 s7 s8 s9 nm:Int) (M:(List (Int×Nat×bf.den))):dx:=λQ=>cg a c ((sD T im)/\∃ fs R,fW R (iY T im a c fs R []/\∀ (A:Value->Atom),RB A fs R->Q (SV.v (S1.c (.p 3 0))) [.cells 90 [Cl.de (.int .u32) T ah bx,Cl.d Ty.u8 
 im,.k (aC s0),.k (aC s1),.k (aC s2),.k (aC s3),.k (aC s4),.k (aC s5),.k (aC s6),.k (aC s7),.k (aC s8),.k (aC s9),.k bZ,.k bZ,.k (.pointer none),.k (.pointer none),.k (.pointer none),Cl.m a8,.k 
 (aC nm)],HO.held (109:TypeId) (.int .u32) T,fp M,HO.abs A]))
theorem adN:cu 59 afP:=by
 intro args H Q h;obtain ⟨a,c,T,im,s0,s1,s2,s3,s4,s5,s6,s7,s8,s9,nm,M,rfl,rfl,h⟩:=h;refine Wp.dC Ke dW ⟨[],[]⟩ Tryz.f59 (Lb a c T im s0 s1 s2 s3 s4 s5 s6 s7 s8 s9 nm M) ?_;unfold Lb sD fW cg dQ bZ aC ah bx a8 bI fp;obtain ⟨hT,hi,fs,R,hR,h1,h⟩:=h;exact λ_ _=>⟨⟨hT,hi⟩,fs,R,hR,h1,h⟩
def DD:Ct:=λargs H Q=>(match args with
 | [.v (.c (.p 0 0)),.v (.c (.k (.int .i64 a))),.v (.c (.k (.int .i64 c)))]=>(match H with
 | [o0,o1,o2]=>(match o0 with
 | .cells 90 cs=>(match cs with
 | [c0,c1,c2,c3,c4,c5,c6,c7,c8,c9,c10,c11,c12,c13,c14,c15,c16,c17,c18]=>(match c0 with
 | .oe 1 1 0 0=>(match c1 with
 | .d .u8 im=>(match c2 with
 | .k (.int .i64 s0)=>(match c3 with
 | .k (.int .i64 s1)=>(match c4 with
 | .k (.int .i64 s2)=>(match c5 with
 | .k (.int .i64 s3)=>(match c6 with
 | .k (.int .i64 s4)=>(match c7 with
 | .k (.int .i64 s5)=>(match c8 with
 | .k (.int .i64 s6)=>(match c9 with
 | .k (.int .i64 s7)=>(match c10 with
 | .k (.int .i64 s8)=>(match c11 with
 | .k (.int .i64 s9)=>(match c12 with
 | .k (.slice none 0 0)=>(match c13 with
 | .k (.slice none 0 0)=>(match c14 with
 | .k (.pointer none)=>(match c15 with
 | .k (.pointer none)=>(match c16 with
 | .k (.pointer none)=>(match c17 with
 | .m 2=>(match c18 with
 | .k (.int .i64 nm)=>(match o1 with
 | .held 109 (.int .u32) T=>(match o2 with
 | .ab (.pm 3 82 (.pair ((.pair (.int .i64) (.pair (.int .i64) (.pair (.int .i64) (.pair (.int .i64) (.pair (.int .i64) (.pair (.int .i64) (.pair (.int .i64) (.pair (.int .i64) (.pair (.int .i64) (.pair (.int .i64) (.pair .str .unit)))))))))))) (.pair (.int .i64) (.pair (.sl (.pair .str (.pair (.int .i64) (.pair (.int .i64) .unit)))) (.pair (.sl (.pair .str (.pair (.sl .u8) .unit))) .unit)))) M)=>0< T.length/\(T.length=256/\im.length<=100000000/\∃ fs R,R.length<=10000000/\iY T im a c fs R []/\∀ A,RB A fs R->Q (.c (.p 3 0)) [.cells 90 [.de (.int .u32) T 0 0,.d .u8 im,.k (.int .i64 s0),.k (.int .i64 s1),.k (.int .i64 s2),.k (.int .i64 s3),.k (.int .i64 s4),.k (.int .i64 s5),.k (.int .i64 s6),.k (.int .i64 s7),.k (.int .i64 s8),.k (.int .i64 s9),.k (.slice none 0 0),.k (.slice none 0 0),.k (.pointer none),.k (.pointer none),.k (.pointer none),.m 2,.k (.int .i64 nm)],.held 109 (.int .u32) T,.ab (.pm 3 82 bf M),.abs A])
 | _=>False)
 | _=>False)
 | _=>False)
 | _=>False)
 | _=>False)
 | _=>False)
 | _=>False)
 | _=>False)
 | _=>False)
 | _=>False)
 | _=>False)
 | _=>False)
 | _=>False)
 | _=>False)
 | _=>False)
 | _=>False)
 | _=>False)
 | _=>False)
 | _=>False)
 | _=>False)
 | _=>False)
 | _=>False)
 | _=>False)
 | _=>False)
 | _=>False)
theorem XJ:cu 59 DD:=λargs H Q h=>by
 unfold DD at h
 repeat (split at h;rotate_left;exact h.elim)
 exact Wp.ajJ (p:=0) (l:=1) rfl rfl h.1 rfl (adN _ _ _ ⟨_,_,_,_,_,_,_,_,_,_,_,_,_,_,_,_,rfl,rfl,h.2⟩)
def TZ:Ct:=λargs H Q=>match H with
 | [_,_]=>DG args H Q
 | _=>DD args H Q
theorem adM:cu 59 TZ:=λargs H Q h=>by
 unfold TZ at h;split at h;exact XM _ _ _ h;exact XJ _ _ _ h
end Go.Proofs

namespace Go.Lm
open Go
variable {N:List aZ} {ids:List Int} {F:List (Int×eC.den)}
theorem AR (t:sa N ids F) (hr:(aB noTy N 0).1= []) (hp:0< N.length):(mI N 17 0).Nodup/\∀ j:Int,j∈mI N 17 0↔0<=j/\j< (N.length:Int):=by
 have h17:17<=(aB noTy N 0).1.length+17:=by omega
 refine ⟨Fa t 17 (bB 0) (by omega) h17,λj=>?_⟩;rw [mi t 17 (bB 0) (by omega) h17,hr];exact ⟨λh=>⟨h.1,h.2.1⟩,λh=>⟨h.1,h.2,rfl⟩⟩
theorem Bm (t:sa N ids F) (hr:(aB noTy N 0).1= []) (hp:0< N.length):(mI N 17 0).Perm ((bL N.length).map Int.ofNat):=by
 obtain ⟨h1,h2⟩:=AR t hr hp;refine (List.perm_ext_iff_of_nodup h1 ?_).2 λj=>?_
 .rw [List.Nodup,List.pairwise_map];exact List.nodup_range.imp λe q=>e (Int.ofNat.inj q)
 .rw [h2,bq];constructor
  .rintro ⟨a,b⟩;exact ⟨j.toNat,dJ.2 (by omega),by show ((j.toNat:Nat):Int)=j;omega⟩
  .rintro ⟨n,hn,rfl⟩;have:=dJ.1 hn;show 0<=(n:Int)/\(n:Int)< _;omega
theorem ZQ {N:List aZ}:((bL N.length).map Int.ofNat).map (λv=>aB noTy N v)=N:=by
 refine List.ext_getElem (by simp) λi h1 h2=>?_;rw [List.getElem_map,List.getElem_map,List.getElem_range];exact gH (e:=noTy) h2
theorem TP (t:sa N ids F) (hr:(aB noTy N 0).1= []) (hp:0< N.length) (i:Int):EC N (mI N 17 0) i=oM N i:=by
 unfold EC oM;rw [(Bm t hr hp).countP_eq]
 conv=>rhs;rw [<-ZQ (N:=N)]
 rw [List.countP_map,List.countP_map,List.countP_map];rfl
theorem mh.count {d:IR} {T:List Int} {M:List (Int×Nat×bf.den)} (hd:d.Ok T N) (hr:(aB noTy N 0).1= []) (hp:0< N.length) (h:mh d N (mI N 17 0) M):M.length=d.t.Mr.length:=by
 have jC:=(AR hd.tok hr hp).2;have key:(M.map (·.1)).Perm (d.t.Mr.map (·.2)):=by
  refine (List.perm_ext_iff_of_nodup h.keys ?_).2 λr=>?_
  .have hk:=hd.ok.kn;rw [List.Nodup,List.pairwise_map] at hk ⊢;refine hk.imp_of_mem λ{a b} ha hb hab e=>hab ?_;have ga:Kk.get .int d.t.Mr a.1=some a.2:=kV (κ:=Int) hd.ok.kn ha;have gb:Kk.get .int d.t.Mr b.1=some b.2:=kV (κ:=Int) hd.ok.kn hb;exact hd.ok.inj _ _ _ ga (e▸gb)
  .rw [bq,bq];constructor
   .rintro ⟨p,hpM,rfl⟩;obtain ⟨k,hk,hg,_⟩:=h.k8 p hpM;exact ⟨_,oT (κ:=Int) hg,rfl⟩
   .rintro ⟨q,hq,rfl⟩;obtain ⟨V,v1,v2,v3⟩:=hd.ok.keys;have:q.1∈d.t.Mr.map (·.1):=bq.2 ⟨q,hq,rfl⟩;rw [v3] at this;obtain ⟨v,hv,e⟩:=bq.1 this;have hvl:=v2 v hv;obtain ⟨p,hpM,hg⟩:=h.has (v:Int) ((jC _).2 ⟨by omega,by omega⟩);have gq:Kk.get .int d.t.Mr q.1=some q.2:=kV (κ:=Int) hd.ok.kn hq;have e:(aB noTy N (v:Int)).2.1=q.1:=e;rw [e,gq] at hg;exact ⟨p,hpM,(aj hg).symm⟩
 have:=key.length_eq
 rwa [bR,bR] at this
end Go.Lm

namespace Go.Lm
open Go
def TE (N:List aZ) (p:List ByteArray):Option aZ:=N.find? λx=>decide (x.1=p)
theorem aaC {N:List aZ} {p:List ByteArray} {x:aZ} (h:TE N p=some x):x∈N/\x.1=p:=by
 unfold TE at h;exact ⟨List.mem_of_find?_eq_some h,by simpa using List.find?_some h⟩
theorem xj {N:List aZ} {p:List ByteArray}:TE N p=none↔∀ x∈N,x.1≠p:=by
 unfold TE;rw [List.find?_eq_none];exact ⟨λh x hx e=>h x hx (by simpa using e),λh x hx e=>h x hx (by simpa using e)⟩
variable {N:List aZ} {ids:List Int} {F:List (Int×eC.den)}
theorem aaD (t:sa N ids F) {x:aZ} (hx:x∈N):TE N x.1=some x:=by
 cases h:TE N x.1 with
 | none=>exact absurd rfl (xj.1 h x hx)
 | some y=>
  obtain ⟨h1,h2⟩:=aaC h;rw [t.uniq h1 hx h2]
def mz (N:List aZ) (x:aZ) (s:ByteArray):Int:=if x.2.2.1=1 then (match TE N (x.1++ [s]) with
 | some _=>0
 | none=>20) else 24
def nw (N:List aZ):aZ->List ByteArray->Int
 | _,[]=>0
 | x,s::r=>if x.2.2.1=1 then (match TE N (x.1++ [s]) with
  | some y=>nw N y r
  | none=>20) else 24
structure aij (d:IR) (N:List aZ) (y:aZ) (s:ByteArray) (e:cw.den):Prop where
 nm:e.1=s
 kind:e.2.1=y.2.2.1
 ref:Kk.get .int d.t.Mr y.2.1=some e.2.2.1
theorem fY.ZJ {M:List (Int×Int)} {d:Nat}:∀ {ks:List Int} {es:List cw.den},fY N M d ks es->∀ (j:Nat) (h1:j< ks.length) (h2:j< es.length),es[j].1=(aB noTy N ks[j]).1.getD d ⟨#[]⟩
 | [],[],_,_,h,_=>by simp at h
 | _::_,_::_,⟨q1,_,_,_⟩,0,_,_=>q1
 | _::_,_::_,⟨_,_,_,q4⟩,j+1,h1,h2=>fY.ZJ q4 j (by simpa using h1) (by simpa using h2)
 | [],_::_,h,_,_,_=>h.elim
 | _::_,[],h,_,_,_=>h.elim
theorem afp (t:sa N ids F) {d:IR} {p:List ByteArray} {es:List cw.den} (hE:fY N d.t.Mr p.length (bY p N 0) es) {j:Nat} (hj:j< es.length):∃ y∈N,y.1=p++ [es[j].1]/\aij d N y es[j].1 es[j]:=by
 have hl:=hE.len;have hjk:j< (bY p N 0).length:=by omega
 obtain ⟨a0,a1,al,ap⟩:=eJ (dA hjk);obtain ⟨h1,h2⟩:=hE.at j hjk hj;refine ⟨_,tk (e:=noTy) a0 a1,?_,rfl,h1,h2⟩;rw [hE.ZJ j hjk hj];exact nM al ap
theorem aeZ (t:sa N ids F) {d:IR} {p:List ByteArray} {es:List cw.den} (hE:fY N d.t.Mr p.length (bY p N 0) es) {y:aZ} {s:ByteArray} (hy:y∈N) (e:y.1=p++ [s]):∃ (j:Nat) (h:j< es.length),es[j].1=s:=by
 obtain ⟨k,hk,rfl⟩:=Jt hy (by rw [e];simp) (show pre p y by unfold pre;rw [e,List.take_left]);obtain ⟨j,hj,rfl⟩:=ev.1 hk;have hl:=hE.len;refine ⟨j,by omega,?_⟩;rw [hE.ZJ j hj (by omega),e,ep,bD (aG _),Nat.sub_self];rfl
theorem G6:∀ {last:ByteArray} {es:List cw.den},iW last es->(∀ x∈es,rG last x.1=true)/\es.Pairwise λa b=>rG a.1 b.1=true
 | _,[],_=>⟨λx h=>(by cases h),List.Pairwise.nil⟩
 | last,x::r,⟨h1,h2⟩=>by
  obtain ⟨q1,q2⟩:=G6 h2;refine ⟨λy hy=>?_,eY.2 ⟨q1,q2⟩⟩;rcases bz.1 hy with rfl| hy;exact h1.lt
  .have a:=h1.lt;have b:=q1 y hy;rw [qF,decide_eq_true_eq] at a b ⊢;exact rr a b
end Go.Lm

namespace Go.Lm
open Go
variable {N:List aZ} {ids:List Int} {F:List (Int×eC.den)}
theorem rV.same {d:IR} {T:List Int} (hd:d.Ok T N) {x y:aZ} (hx:x∈N) (hy:y∈N) (e:y.2.1=x.2.1) {nm:Int} {r:bf.den} (h:rV d N y nm r):rV d N x nm r:=by
 obtain ⟨h1,h2⟩:=hd.tok.one x hx y hy e.symm;by_cases hk:x.2.2.1=1;rw [h1 hk];exact h
 .refine ⟨h.n.same hd.tok hx hy e,h.nm,?_,by rw [h2];exact h.xa⟩;rcases h.list with ⟨q,_⟩| ⟨_,q⟩
  .rw [h2] at hk;exact absurd q hk
  .exact .inr ⟨hk,q⟩
structure xF (d:IR) (N:List aZ) (M:List (Int×Nat×bf.den)) (x:aZ) (ref:Int):Prop where
 ex:∃ p∈M,p.1=ref
 ok:∀ (i bb:Nat) (r:bf.den),M[i]?=some (ref,bb,r)->rV d N x (oM N x.2.1:Nat) r
theorem mh.recAt {d:IR} {T:List Int} {M:List (Int×Nat×bf.den)} (hd:d.Ok T N) (hr:(aB noTy N 0).1= []) (hp:0< N.length) (h:mh d N (mI N 17 0) M) {x:aZ} (hx:x∈N) {ref:Int} (hg:Kk.get .int d.t.Mr x.2.1=some ref):xF d N M x ref:=by
 have jC:=(AR hd.tok hr hp).2;obtain ⟨k,hk,rfl⟩:=Tg hx;refine ⟨?_,λi bb r hi=>?_⟩
 .obtain ⟨p,hpM,h1⟩:=h.has (k:Int) ((jC _).2 ⟨by omega,by omega⟩);rw [hg] at h1;exact ⟨p,hpM,(aj h1).symm⟩
 .obtain ⟨v,hv,h1,h2⟩:=h.k8 _ (ka hi);obtain ⟨v0,v1⟩:=(jC v).1 hv;have e:=hd.ok.inj _ _ _ h1 hg;rw [TP hd.tok hr hp,e] at h2;exact rV.same hd hx (tk (e:=noTy) v0 v1) e h2
def B5 (N:List aZ) (x:aZ):Int:=if x.2.2.1=1 then ((bY x.1 N 0).length:Int) else if x.2.2.1=2 then (x.2.2.2.2.1.length:Int) else (x.2.2.2.2.2.1.size:Int)
theorem rV.Nh {d:IR} {x:aZ} {nm:Int} {r:bf.den} (h:rV d N x nm r) (hk:x.2.2.1=1):r.2.2.1.length=(bY x.1 N 0).length:=by
 rcases h.list with ⟨_,_,q⟩| ⟨q,_⟩;exact q.len;exact absurd hk q
theorem rD.tgt {s:BS} {x:aZ} {i:eC.den} (h:rD N ids F s x i) (hk:x.2.2.1=3):i.2.2.2.2.2.2.2.2.2.2.1=x.2.2.2.2.2.1:=by
 rcases h.or with ⟨q,_⟩| ⟨q,_⟩| ⟨_,q⟩;rw [hk] at q;exact absurd q (by decide);rw [hk] at q;exact absurd q (by decide);exact q
theorem IR.Ok.ai4 {d:IR} {T:List Int} (h:d.Ok T N) {nu off:Int} {t:List UInt8} (ht:o5 d.row d.bg nu off t) (h0:0< t.length):0<=off/\∃ (i:Nat) (a:Int) (z:List UInt8) (nx:Int),nu=(i:Int)+1/\d.pl[i]?=some a/\EG T (d.im T) a z nx/\0< z.length/\z.length<=128/\off+t.length<=z.length/\(z.drop off.toNat).take t.length=t:=by
 obtain ⟨o0,i,z,e1,hi,hz,z0,z1,hle,hzt⟩:=ht.pd h.pk h0;have hl:=h.pls.len;rw [qw] at hl;obtain ⟨o,w,r,q1,q2,q3,q4⟩:=h.pls.ats i d.pl[i] z (ao (by omega)) hz;have e0:=lT T d.s;refine ⟨o0,i,d.pl[i],z,d.pl[i]+w.length,e1,ao (by omega),⟨by omega,?_,w,r++(d.fI.flatten++(d.fL.flatten++(d.fP.flatten++(d.fN.flatten++d.fX.flatten)))),q2,?_,rfl⟩,z0,z1,hle,hzt⟩
 .unfold IR.im;simp only [af];omega
 .unfold IR.im;rw [q1,show ((64:Int)+(o:Int)).toNat=(fM T d.s).length+o by omega,<-eP,lH,eT q4,q3,aL]
theorem Zd {x:List UInt8} {o n c:Nat} (hc:128*c<=x.length) (h:o+n<=x.length):((x.take (128*c)).drop o).take n++((x.drop (128*c)).drop (o - 128*c)).take (n - (((x.take (128*c)).drop o).take n).length)=(x.drop o).take n:=by
 rcases eW o (128*c) with q| q
 .have e1:((x.take (128*c)).drop o).take n=(x.drop o).take (min n (128*c - o)):=by rw [lG,o9]
  have e2:((x.drop o).take (min n (128*c - o))).length=min n (128*c - o):=by rw [aH,aQ];omega
  rw [e1,e2,show o - 128*c=0 by omega,pc];rcases eW n (128*c - o) with q2| q2;rw [show n - min n (128*c - o)=0 by omega,List.take_zero,bd,show min n (128*c - o)=n by omega]
  .rw [show min n (128*c - o)=128*c - o by omega];have e3:x.drop (128*c)=(x.drop o).drop (128*c - o):=by rw [eP];congr 1;omega
   rw [e3]
   conv=>rhs;rw [show n=(128*c - o)+(n - (128*c - o)) by omega]
   rw [List.take_add]
 .rw [List.drop_of_length_le (by rw [aH];omega),List.take_nil,hU,aO,Nat.sub_zero,eP,show 128*c+(o - 128*c)=o by omega]
end Go.Lm

namespace Go.Lm
open Go
theorem Jj:∀ (L:List aZ) {m:List (Int×Int)},(∀ i z,Kk.get .int m i=some z->z<=(m.length:Int))->(∀ i j z,Kk.get .int m i=some z->Kk.get .int m j=some z->i=j)->∀ i j z,Kk.get .int (da L m) i=some z->Kk.get .int (da L m) j=some z->i=j
 | [],_,_,h,i,j,z,hi,hj=>h i j z hi hj
 | x::L,m,hl,h,i,j,z,hi,hj=>by
  cases hg:Kk.get .int m x.2.1 with
  | some k=>rw [gf hg] at hi hj;exact Jj L hl h i j z hi hj
  | none=>
   rw [gg hg] at hi hj;have e:((Kk.put .int m x.2.1 ((m.length:Int)+1):List (Int×Int)).length:Int)=(m.length:Int)+1:=by rw [kD (k:=.int) hg];rfl
   refine Jj L (λj y hy=>?_) (λa b y ha hb=>?_) i j z hi hj
   .rw [e];by_cases hj:j=x.2.1
    .rw [hj,eR] at hy;obtain rfl:=aj hy;exact bB _
    .rw [iw (k:=.int) hj] at hy;have:=hl j y hy;omega
   .by_cases ea:a=x.2.1
    .by_cases eb:b=x.2.1
     .rw [ea,eb]
     .rw [ea,eR] at ha;rw [iw (k:=.int) eb] at hb;have:=hl b y hb;have:=aj ha;omega
    .rw [iw (k:=.int) ea] at ha;by_cases eb:b=x.2.1
     .rw [eb,eR] at hb;have:=hl a y ha;have:=aj hb;omega
     .rw [iw (k:=.int) eb] at hb;exact h a b y ha hb
structure ada (F N:List aZ):Prop where
 l:HG F
 tr:uS N
 to:∀ y∈F,∃ x∈N,x.1=y.1/\x.2.2=y.2.2
 of:∀ x∈N,∃ y∈F,y.1=x.1/\y.2.2=x.2.2
 ino:∀ y∈F,∀ y'∈F,∀ x∈N,∀ x'∈N,x.1=y.1->x'.1=y'.1->(x.2.1=x'.2.1↔y.2.1=y'.2.1)
 len:N.length=F.length
 num:∀ L':List aZ,L'.Perm F->L'.Pairwise (λx y=>¬cmpL y.1 x.1< 0)->bJ L' []=N
 self:bJ N []=N
theorem ai3 {F:List aZ} (tw:F.Pairwise λa b=>a.1≠b.1) {a b:aZ} (ha:a∈F) (hb:b∈F) (h:a.1=b.1):a=b:=by
 obtain ⟨i,hi,rfl⟩:=ev.1 ha;obtain ⟨j,hj,rfl⟩:=ev.1 hb;have P:=cQ.1 tw;rcases Nat.lt_trichotomy i j with q| q| q;exact absurd h (P i j hi hj q);subst q;rfl;exact absurd h.symm (P j i hj hi q)
theorem aeL {F L:List aZ} (g:HG F) (hp:L.Perm F) (ho:L.Pairwise λx y=>¬cmpL y.1 x.1< 0):ada F (bJ L []):=by
 have at':∀ (j:Nat) (hj:j< L.length),∃ h2:j< (bJ L []).length,(bJ L [])[j].1=L[j].1/\(bJ L [])[j].2.2=L[j].2.2:=λj hj=>by
  have h2:j< (bJ L []).length:=by rw [iq];exact hj
  have e:=congrArg (λl=>l[j]?) (qh L []);simp only [dq,ao hj,ao h2,Option.map_some,Option.some.injEq,Prod.mk.injEq] at e;exact ⟨h2,e.1,e.2⟩
 have tN:=L3 g hp ho;have tw:L.Pairwise λa b=>a.1≠b.1:=hp.symm.pairwise g.tw (λh=>Ne.symm h);have back:∀ y∈L,∀ x∈bJ L [],x.1=y.1->Kk.get .int (da L []) y.2.1=some x.2.1:=λy hy x hx e=>by
  obtain ⟨j,hj,rfl⟩:=ev.1 hx;have pt:j< L.length:=by rw [iq] at hj;exact hj
  obtain ⟨_,e1,_⟩:=at' j pt;have:y=L[j]:=ai3 tw hy (dA pt) (by rw [<-e,e1]);rw [this];exact wR L [] j pt
 refine ⟨g,tN,λy hy=>?_,λx hx=>?_,λy hy y' OS x hx x' OT e e'=>?_,by rw [iq,hp.length_eq],λL' p o=>?_,?_⟩
 .obtain ⟨j,hj,rfl⟩:=ev.1 (hp.mem_iff.2 hy);obtain ⟨h2,e1,e2⟩:=at' j hj;exact ⟨_,dA h2,e1,e2⟩
 .obtain ⟨y,hy,q⟩:=Jh hx;exact ⟨y,hp.mem_iff.1 hy,q⟩
 .have h1:=back y (hp.mem_iff.2 hy) x hx e;have h2:=back y' (hp.mem_iff.2 OS) x' OT e';constructor
  .intro q;rw [<-q] at h2;exact Jj L (λi z q=>by cases q) (λi j z q=>by cases q) _ _ _ h1 h2
  .intro q;rw [q,h2] at h1;exact (aj h1).symm
 .have tw':L'.Pairwise λa b=>a.1≠b.1:=p.symm.pairwise g.tw (λh=>Ne.symm h);rw [Mb (p.trans hp.symm) (xS o tw') (xS ho tw)]
 .have:=vE id (λ_=>rfl) L [] [] (λi k q=>by cases q) rfl (λk q=>absurd rfl q);simpa using this
end Go.Lm

namespace Go.Proofs
open Go Go.Lm Go.RowKit
set_option maxRecDepth 1000000
def DK:Ct
 | [.v (.c cim)],[],Q=>(match (Ty.sl Ty.u8).of [cim] with
  | some (im,[])=>∃ (N:List aZ) (d:IR),uS N/\d.Ok dB N/\im=d.im dB/\∀ A1 A2 A3 M,RB A1 d.fI d.t.RI->RB A2 d.fL d.t.RL->RB A3 d.fX d.t.RX->mh d N (mI N 17 0) M->Q (.cH [.c (.p 0 0),.c (.k (.int .i64 0))]) [.cells 90 [.de (.int .u32) dB 0 0,.d .u8 (d.im dB),.k (.int .i64 d.s.1),.k (.int .i64 d.s.2.1),.k (.int .i64 d.s.2.2.1),.k (.int .i64 d.s.2.2.2.1),.k (.int .i64 d.s.2.2.2.2.1),.k (.int .i64 d.s.2.2.2.2.2.1),.k (.int .i64 d.s.2.2.2.2.2.2.1),.k (.int .i64 d.s.2.2.2.2.2.2.2.1),.k (.int .i64 d.s.2.2.2.2.2.2.2.2.1),.k (.int .i64 d.s.2.2.2.2.2.2.2.2.2.1),.d (.int .i64) d.pl,.d (.int .i64) d.ids,.p 1 0,.p 2 0,.p 3 0,.m 4,.k (.int .i64 ((mI N 17 0).length:Nat))],.abs A1,.abs A2,.abs A3,.ab (.pm 3 82 bf M)]
  | _=>False)
 | _,_,_=>False
def alz:=(((((gJ.add zK).add Bl).add adw).add UO).add adM).add O1
abbrev PG (y0) (y1) (y2) (y3) (R:Prop):=mh y0 y1 y2 []/\ah=(aA y2)/\List.Pairwise (λx1 x2=>x1≠x2) (y2++mI y1 (17:Nat) y3)/\(∀ (v:Int),v∈y2->0<=v/\v< (aA y1))/\(0<=y3/\y3< (aA y1)/\ah=(gR y1 y3)/\17<=List.length (aB noTy y1 y3).1+17)/\aV=(aB noTy y1 y3).2.2.1/\R
abbrev CK (y0:SV->List HO->Prop):=y0 (.cH [.c (.k (.pointer none)),.c (.k (.int .i64 2))]) []
abbrev yy:=SV.cH [S1.c (.p 0 0),.c (.k aR)]
def Fm (im:(List (Ty.u8).den)):dx:=λQ=>cU im (bj (Iy (iA im (∃ s r,rU s/\im=fM dB s++r/\s.1=(↑(dy im):Ty.den bo)/\(cz s.1 s.2.1 s.2.2.1 (cz s.2.2.2.1 s.2.2.2.2.1 s.2.2.2.2.2.1 (cz s.2.2.2.2.2.2.1 s.2.2.2.2.2.2.2.1 
 s.2.2.2.2.2.2.2.2.1 (aD .i64 s.2.2.2.2.2.2.2.2.2.1->aD .i64 0->(fc (dy im)/\(aJ (dy im)->bx< bI/\bI=bI/\iA im (∃ fs R,fW R (iY dB im s.2.2.1 s.2.2.2.1 fs R []/\∀ (A:Value->Atom),RB 
 A fs R->bI=bI/\iA im (∃ fs R,fW R (iY dB im s.2.2.2.1 s.2.2.2.2.1 fs R []/\∀ (A_1:Value->Atom),RB A_1 fs R->bI=bI/\iA im (∃ fs R,fW R (iY dB im s.2.2.2.2.2.2.1 s.1 fs R []/\∀ (A_2 
 :Value->Atom),RB A_2 fs R->∃ d N,IR.Ok d dB N/\bI=bI/\im=IR.im d dB/\d.s=s/\∃ qv N,IR.Ok qv dB N/\(dB=dB/\im=IR.im qv dB/\qv.s=s/\d.pl=qv.pl/\d.ids=qv.ids)/\(RB A qv.fI qv.t.RI/\ 
 RB A_1 qv.fL qv.t.RL/\RB A_2 qv.fX qv.t.RX)/\∃ V k,PG qv N V k (Kk.get Kk.int qv.t.Mr (fb N k).2.1=some s.2.2.2.2.2.2.2.2.2.1/\∀ (B1 B2 B3:Value->Atom) (M':List vm),RB B1 qv.fI qv.t.RI->RB B2 qv.fL qv.t.RL 
 ->RB B3 qv.fX qv.t.RX->mh qv N (V++mI N (17:Nat) k) M'->aJ (List.length M')->br ((aS M') !=s.2.1) (CK Q) (∀ (hz:Hp) (mb:Nat),aif (PUnit×(Hp×Nat×List (Int×Nat×(Int×Int×Int×Int×Int×Int×Int× 
 Int×Int×Int×ByteArray×PUnit)×Int×List (ByteArray×Int×Int×PUnit)×List (ByteArray×List UInt8×PUnit)×PUnit)×Option (Int×Nat×(Int×Int×Int×Int×Int×Int×Int×Int×Int×Int×ByteArray×PUnit)×Int× 
 List (ByteArray×Int×Int×PUnit)×List (ByteArray×List UInt8×PUnit)×PUnit))×PUnit) (λi ag=>hz=i.2.1.1/\mb=i.2.1.2.1/\(i.2.1.2.2.1= []->Q yy [fJ dB im s.1 s.2.1 s.2.2.1 s.2.2.2.1 s.2.2.2.2.1 s.2.2.2.2.2.1 
 s.2.2.2.2.2.2.1 s.2.2.2.2.2.2.2.1 s.2.2.2.2.2.2.2.2.1 s.2.2.2.2.2.2.2.2.2.1 d.pl d.ids (aS (V++mI N (17:Nat) k)),HO.abs B1,HO.abs B2,HO.abs B3,HO.ab (AbK.pz (3:TypeId) (82:TypeId) bf M' hz mb)])/\∀ (x:Int) (bb:Nat) (y 
 :Ty.den bf) (mA:List vm),List.Perm i.2.1.2.2.1 ((x,bb,y)::mA)->aD .i64 x->∃ xK bb_1 y_1,hz=i.2.1.1/\mb=i.2.1.2.1/\some (x,bb,y)=some (xK,bb_1,y_1)/\(aD .i64 xK->∃ p,p∈M'/\p.2.1=bb_1/\(Ty.ok 
 bf p.2.2->∃ p_1,p_1∈M'/\p_1.2.1=bb_1/\(Ty.ok bf p_1.2.2->br (p.2.2.2.1 !=p_1.2.2.1.2.2.2.2.1) (CK Q) (ag ((),(i.2.1.1,i.2.1.2.1,mA,some (x,bb,y)),())))))) ((),(hz,mb,M',none),())))))))))))/\fc (dy 
 im)/\(aJ (dy im)->bx< bI/\bI=bI/\iA im (∃ fs R,fW R (iY dB im s.2.2.1 s.2.2.2.1 fs R []/\∀ (A:Value->Atom),RB A fs R->bI=bI/\iA im (∃ fs R,fW R (iY dB im s.2.2.2.1 
 s.2.2.2.2.1 fs R []/\∀ (A_1:Value->Atom),RB A_1 fs R->bI=bI/\iA im (∃ fs R,fW R (iY dB im s.2.2.2.2.2.2.1 s.1 fs R []/\∀ (A_2:Value->Atom),RB A_2 fs R->∃ d N,IR.Ok d dB N/\bI=bI/\im= 
 IR.im d dB/\d.s=s/\∃ qv N,IR.Ok qv dB N/\(dB=dB/\im=IR.im qv dB/\qv.s=s/\d.pl=qv.pl/\d.ids=qv.ids)/\(RB A qv.fI qv.t.RI/\RB A_1 qv.fL qv.t.RL/\RB A_2 qv.fX qv.t.RX)/\∃ V k,PG qv N V k 
 (Kk.get Kk.int qv.t.Mr (fb N k).2.1=some s.2.2.2.2.2.2.2.2.2.1/\∀ (B1 B2 B3:Value->Atom) (M':List vm),RB B1 qv.fI qv.t.RI->RB B2 qv.fL qv.t.RL->RB B3 qv.fX qv.t.RX->mh qv N (V++mI N (17:Nat) k) M'->aJ 
 (List.length M')->br ((aS M') !=s.2.1) (CK Q) (∀ (hz:Hp) (mb:Nat),aif (PUnit×(Hp×Nat×List (Int×Nat×(Int×Int×Int×Int×Int×Int×Int×Int×Int×Int×ByteArray×PUnit)×Int×List (ByteArray×Int×Int 
 ×PUnit)×List (ByteArray×List UInt8×PUnit)×PUnit)×Option (Int×Nat×(Int×Int×Int×Int×Int×Int×Int×Int×Int×Int×ByteArray×PUnit)×Int×List (ByteArray×Int×Int×PUnit)×List (ByteArray×List UInt8× 
 PUnit)×PUnit))×PUnit) (λi ag=>hz=i.2.1.1/\mb=i.2.1.2.1/\(i.2.1.2.2.1= []->Q yy [fJ dB im s.1 s.2.1 s.2.2.1 s.2.2.2.1 s.2.2.2.2.1 s.2.2.2.2.2.1 s.2.2.2.2.2.2.1 s.2.2.2.2.2.2.2.1 s.2.2.2.2.2.2.2.2.1 
 s.2.2.2.2.2.2.2.2.2.1 d.pl d.ids (aS (V++mI N (17:Nat) k)),HO.abs B1,HO.abs B2,HO.abs B3,HO.ab (AbK.pz (3:TypeId) (82:TypeId) bf M' hz mb)])/\∀ (x:Int) (bb:Nat) (y:Ty.den bf) (mA:List vm),List.Perm 
 i.2.1.2.2.1 ((x,bb,y)::mA)->aD .i64 x->∃ xK bb_1 y_1,hz=i.2.1.1/\mb=i.2.1.2.1/\some (x,bb,y)=some (xK,bb_1,y_1)/\(aD .i64 xK->∃ p,p∈M'/\p.2.1=bb_1/\(Ty.ok bf p.2.2->∃ p_1,p_1∈M'/\p_1.2.1=bb_1/\ 
 (Ty.ok bf p_1.2.2->br (p.2.2.2.1 !=p_1.2.2.1.2.2.2.2.1) (CK Q) (ag ((),(i.2.1.1,i.2.1.2.1,mA,some (x,bb,y)),())))))) ((),(hz,mb,M',none),()))))))))))))))))))
theorem XT:cu 27 DK:=by
 intro args H Q h;unfold DK at h;split at h;rotate_left;cases h;rename_i cim;split at h;rotate_left;cases h;rename_i im Xq;refine Wp.said (args':=[.c (.d Ty.u8 im)]) (λE g=>bm.cr (dH Xq) (λ_ h=>h)) ?_;clear Xq;refine (λhh=>Wp.ajo (p:=4) hh) ?_;refine Wp.dC alz dW ⟨[(11,⟨[],[(7,.ab (.PL 3 2 bf))]⟩)],[]⟩ Tryz.f27 (Fm im) (hold:=[58]) (clo:=true) (cloH:=true) (pmT:=[(88,82,bf)]) ?_;unfold Fm vm Iy fb iA yy bj dy CK fW PG gR cU aR cz ah aV aS aA fc aJ bx bI fJ bo;obtain ⟨N,d,tr,hd,rfl,h⟩:=h;obtain ⟨z1,z2,z3,z4,z5,z6,z7,z8⟩:=hd.small;have hr:=hd.rds;have hlen:=IR.Z9 hd;obtain ⟨r1,r2,r3⟩:=tr.root;have xe:=tr.pos;obtain ⟨x0,Ev,e1,e2,e3⟩:=hd.root;obtain rfl:=hd.tok.uniq Ev (tk (e:=noTy) (bB 0) (by omega)) (e1.trans r1.symm);have hnd:=(AR hd.tok r1 xe).1;refine λ_=>⟨rfl,rfl,rfl,by decide,by decide,rfl,by omega,d.s,_,hd.sup,rfl,hlen,λ_ _ _ _ _ _ _ _ _ _ _=>both ⟨by omega,λ_=>⟨by decide,rfl,by omega,d.fI,d.t.RI,by omega,hr.I,λA1 hA1=>⟨rfl,by omega,d.fL,d.t.RL,by omega,hr.L,λA2 hA2=>⟨rfl,by omega,d.fX,d.t.RX,by omega,hr.X,λA3 hA3=>⟨d,N,hd,rfl,rfl,rfl,d,N,hd,⟨rfl,rfl,rfl,rfl,rfl⟩,⟨hA1,hA2,hA3⟩,[],0,mh.nil d N,rfl,hnd,(λv hv=>by cases hv),⟨by decide,by omega,by rw [r1];rfl,by omega⟩,r2.symm,e3,λB1 B2 B3 M h1 h2 h3 hV _=>?_⟩⟩⟩⟩⟩⟩;have hV:mh d N (mI N 17 0) M:=hV;have hc:=hV.count hd r1 xe;have hsn:=hd.sn;refine aq (λq=>?_) (λ_=>λhz mb=>?_)
 .rw [hc,hsn] at q;simp at q
 refine aM.intro (λi=>i.2.1.1=hz/\i.2.1.2.1=mb/\∀ p∈i.2.1.2.2.1,p∈M) (λi=>i.2.1.2.2.1.length) ⟨rfl,rfl,λp hp=>hp⟩ ?_;rintro ⟨_,⟨Xm,OQ,left,cur⟩,_⟩ ⟨rfl,rfl,hl⟩;simp only at hl ⊢;refine ⟨trivial,trivial,λ_=>⟨_,_,_,_,_,_,rfl,h B1 B2 B3 M h1 h2 h3 hV⟩,λx bb y mA hp _=>?_⟩;have hm:(x,bb,y)∈M:=hl _ (hp.mem_iff.2 aK);refine ⟨x,bb,y,trivial,trivial,rfl,λ_=>⟨(x,bb,y),hm,rfl,λ_=>⟨(x,bb,y),hm,rfl,λ_=>aq (λq=>?_) (λ_=>⟨⟨trivial,trivial,λp hp'=>hl p (hp.mem_iff.2 (aF _ hp'))⟩,by rw [hp.length_eq];exact Nat.lt_succ_self _⟩)⟩⟩⟩;obtain ⟨k,_,_,hk⟩:=hV.k8 _ hm;have q1:=hk.nm;have q2:=hk.n.lnk;rw [TP hd.tok r1 xe] at q1;have q3:(y.2.1:Int)=y.1.2.2.2.2.1:=q1.trans q2.symm;simp [q3] at q
def af0:Ct:=λargs H Q=>∃ (ref:Int) (T:List Int) (im:List UInt8) (s0:Int) (s1:Int) (s2:Int) (s3:Int) (s4:Int) (s5:Int) (s6:Int) (s7:Int) (s8:Int) (s9:Int) (pl:List Int) (ids:List Int) (nm:Int) (R1:Value->Atom) (R2:Value->Atom) (R3:Value->Atom) (M:List (Int×Nat×bf.den)),args= [.v (.c (.p 0 0)),.int ref]/\H= [.cells 90 [.de (.int .u32) T 0 0,.d .u8 im,.k (.int .i64 s0),.k (.int .i64 s1),.k (.int .i64 s2),.k (.int .i64 s3),.k (.int .i64 s4),.k (.int .i64 s5),.k (.int .i64 s6),.k (.int .i64 s7),.k (.int .i64 s8),.k (.int .i64 s9),.d (.int .i64) pl,.d (.int .i64) ids,.p 1 0,.p 2 0,.p 3 0,.m 4,.k (.int .i64 nm)],.abs R1,.abs R2,.abs R3,.ab (.pm 3 82 bf M)]/\(∃ p∈M,p.1=ref)/\∀ (i bb:Nat) (r:bf.den),M[i]?=some (ref,bb,r)->bf.ok r->Q (.cH [.c (.p 5 0),.c (.k (.int .i64 0))]) [.cells 90 [.de (.int .u32) T 0 0,.d .u8 im,.k (.int .i64 s0),.k (.int .i64 s1),.k (.int .i64 s2),.k (.int .i64 s3),.k (.int .i64 s4),.k (.int .i64 s5),.k (.int .i64 s6),.k (.int .i64 s7),.k (.int .i64 s8),.k (.int .i64 s9),.d (.int .i64) pl,.d (.int .i64) ids,.p 1 0,.p 2 0,.p 3 0,.m 4,.k (.int .i64 nm)],.abs R1,.abs R2,.abs R3,.pQ (.pm 3 82 bf M i ref bb) 5,.cells 82 [.k (.int .i64 r.1.1),.k (.int .i64 r.1.2.1),.k (.int .i64 r.1.2.2.1),.k (.int .i64 r.1.2.2.2.1),.k (.int .i64 r.1.2.2.2.2.1),.k (.int .i64 r.1.2.2.2.2.2.1),.k (.int .i64 r.1.2.2.2.2.2.2.1),.k (.int .i64 r.1.2.2.2.2.2.2.2.1),.k (.int .i64 r.1.2.2.2.2.2.2.2.2.1),.k (.int .i64 r.1.2.2.2.2.2.2.2.2.2.1),.k (.string r.1.2.2.2.2.2.2.2.2.2.2.1),.k (.int .i64 r.2.1),.d cw r.2.2.1,.d cZ r.2.2.2.1]]
def Ls (ref:Int) (T:List Int) (im:List UInt8) (s0 s1 s2 s3 s4 s5 s6 s7 s8 s9:Int) (pl ids:List Int) (nm:Int) (R1 R2 R3:Value->Atom) (M:(List (Int×Nat×bf.den))):dx:=λQ=>aD .i64 ref->((CB M ref)->Q (.cH [.c (.k (.pointer none)),.c (.k (.int .i64 1))]) [fJ T im s0 s1 s2 s3 s4 s5 s6 s7 s8 s9 pl ids nm,HO.abs R1,HO.abs R2,HO.abs 
 R3,fp M])/\∀ (i bb:Nat) (x:Ty.den bf),M[i]?=some (ref,bb,x)->Ty.ok bf x->Q (SV.cH [S1.c (.p 5 0),.c (.k aR)]) [fJ T im s0 s1 s2 s3 s4 s5 s6 s7 s8 s9 pl ids nm,HO.abs R1,HO.abs R2,HO.abs R3,HO.pQ (HK.pm (3: 
 TypeId) (82:TypeId) bf M i ref bb) jX,.cells 82 [.k (aC x.1.1),.k (aC x.1.2.1),.k (aC x.1.2.2.1),.k (aC x.1.2.2.2.1),.k (aC x.1.2.2.2.2.1),.k (aC x.1.2.2.2.2.2.1),.k (aC x.1.2.2.2.2.2.2.1),.k (aC 
 x.1.2.2.2.2.2.2.2.1),.k (aC x.1.2.2.2.2.2.2.2.2.1),.k (aC x.1.2.2.2.2.2.2.2.2.2.1),.k (.string x.1.2.2.2.2.2.2.2.2.2.2.1),.k (aC x.2.1),Cl.d cw x.2.2.1,Cl.d cZ x.2.2.2.1]]
theorem Ri:cu 30 af0:=by
 intro args H Q h;obtain ⟨ref,T,im,s0,s1,s2,s3,s4,s5,s6,s7,s8,s9,pl,ids,nm,R1,R2,R3,M,rfl,rfl,h⟩:=h;refine Wp.dC gJ dW ⟨[],[]⟩ Tryz.f30 (Ls ref T im s0 s1 s2 s3 s4 s5 s6 s7 s8 s9 pl ids nm R1 R2 R3 M) ?_;unfold Ls CB aR aC jX fJ fp;obtain ⟨⟨p,hp,e⟩,h⟩:=h;exact λ_=>⟨λkZ=>absurd e (kZ p hp),λi bb r hi ho=>h i bb r hi ho⟩
def Of:Ct:=λargs H Q=>(match args with
 | [.v (.c (.p 0 0)),.v (.c (.k (.int .i64 ref)))]=>(match H with
 | [o0,o1,o2,o3,o4]=>imR o0 λT im s0 s1 s2 s3 s4 s5 s6 s7 s8 s9 pl ids nm=>(match o1 with
 | .abs R1=>(match o2 with
 | .abs R2=>(match o3 with
 | .abs R3=>MU o4 λM=>(∃ p∈M,p.1=ref)/\∀ (i bb:Nat) (r:bf.den),M[i]?=some (ref,bb,r)->bf.ok r->Q (.cH [.c (.p 5 0),.c (.k (.int .i64 0))]) [.cells 90 [.de (.int .u32) T 0 0,.d .u8 im,.k (.int .i64 s0),.k (.int .i64 s1),.k (.int .i64 s2),.k (.int .i64 s3),.k (.int .i64 s4),.k (.int .i64 s5),.k (.int .i64 s6),.k (.int .i64 s7),.k (.int .i64 s8),.k (.int .i64 s9),.d (.int .i64) pl,.d (.int .i64) ids,.p 1 0,.p 2 0,.p 3 0,.m 4,.k (.int .i64 nm)],.abs R1,.abs R2,.abs R3,.pQ (.pm 3 82 bf M i ref bb) 5,.cells 82 [.k (.int .i64 r.1.1),.k (.int .i64 r.1.2.1),.k (.int .i64 r.1.2.2.1),.k (.int .i64 r.1.2.2.2.1),.k (.int .i64 r.1.2.2.2.2.1),.k (.int .i64 r.1.2.2.2.2.2.1),.k (.int .i64 r.1.2.2.2.2.2.2.1),.k (.int .i64 r.1.2.2.2.2.2.2.2.1),.k (.int .i64 r.1.2.2.2.2.2.2.2.2.1),.k (.int .i64 r.1.2.2.2.2.2.2.2.2.2.1),.k (.string r.1.2.2.2.2.2.2.2.2.2.2.1),.k (.int .i64 r.2.1),.d cw r.2.2.1,.d cZ r.2.2.2.1]]
 | _=>False)
 | _=>False)
 | _=>False)
 | _=>False)
 | _=>False)
theorem wh:cu 30 Of:=λargs H Q h=>by
 unfold Of MU imR Xl imP at h;dsimp only at h
 repeat (split at h;rotate_left;exact h.elim)
 exact Ri _ _ _ ⟨_,_,_,_,_,_,_,_,_,_,_,_,_,_,_,_,_,_,_,_,rfl,rfl,h⟩
structure HI (d:IR) (N:List aZ) (x:aZ) (es:List cw.den) (e:Int):Prop where
 or:(e=0/\x.2.2.1=1/\iW ⟨#[]⟩ es/\fY N d.t.Mr x.1.length (bY x.1 N 0) es)\/(e=24/\x.2.2.1≠1/\es= [])
structure ade (d:IR) (N:List aZ) (x:aZ) (s:ByteArray) (v:cw.den) (e:Int):Prop where
 eq:e=mz N x s
 ok:e=0->∃ y∈N,y.1=x.1++ [s]/\aij d N y s v
def rdN (x:aZ) (off n:Int):List UInt8:=if x.2.2.1=2/\0<=off/\0<=n then (x.2.2.2.2.1.drop off.toNat).take n.toNat else []
def Zg (x:aZ) (off n:Int):Int:=if x.2.2.1=1 then 25 else if x.2.2.1=3\/off< 0\/n< 0 then 1 else 0
structure BsR (l:List cw.den) (s:ByteArray) (i:Int) (b:Bool):Prop where
 r:0<=i/\i<=(l.length:Int)
 yes:b=true->i< (l.length:Int)/\(aB cw l i).1=s
 no:b=false->∀ x∈l,x.1≠s
def akU:Ct:=cN cw λx=>cS λs=>c0 λQ=>Q (.int (fK x.1 s)) []
def acR:=gJ.add Ri
def Sj:((cw).den)->(ByteArray)->dx:=
 λx s Q=>iR x.1 (cg x.2.1 x.2.2.1 (Iz s x.1 Q))
theorem aiS:cu 266 akU:=eQ<| PT λx=>ZA λs=>gM λQ h=>by
 refine Wp.dC acR dW ⟨[],[]⟩ Tryz.f266 (Sj x s) ?_;unfold Sj Iz iQ oF iR du cg aR aJ;refine λ_ _ _ _=>aq (λq=>?_) (λq=>aq (λq2=>?_) (λq2=>?_))
 .rw [qF,decide_eq_true_eq] at q;rcases jK x.1 s with ⟨_,e⟩| ⟨_,e⟩| ⟨_,e⟩<;>rw [e] at h q
  .exact h
  .exact absurd q (by decide)
  .exact absurd q (by decide)
 .rw [qF,decide_eq_false_iff_not] at q;rcases jK x.1 s with ⟨_,e⟩| ⟨_,e⟩| ⟨_,e⟩
  .rw [e] at q;exact absurd (by decide) q
  .rw [gD.2 (uq e)] at q2;simp at q2
  .rw [e] at h;exact h
 .rw [q] at q2;have q3:kT x.1 s=true:=by simpa using q2
  rw [gD.1 q3,nZ] at h;exact h
def ahi:Ct
 | [.v (.c cl),.v (.c (.k (.string s))),.v (.c (.fn 266 []))],[],Q=>(match (Ty.sl cw).of [cl] with
  | some (l,[])=>(l.Pairwise λa b=>rG a.1 b.1=true)/\l.length<=100000/\∀ (i:Int) (b:Bool),BsR l s i b->Q (.cH [.c (.k (.int .i64 i)),.c (.k (.bool b))]) []
  | _=>False)
 | _,_,_=>False
def aly:=acR.add aiS
def YD (l:(List (cw).den)) (s:ByteArray):dx:=λQ=>List.length l<=9223372036854775807->du s (aJ (List.length l)->aM (λi ag=>br (decide (i.1.1< i.1.2.1)) (aD .i64 (i.1.1+i.1.2.1)/\(qU i.1.1 i.1.2.1 (qV i.1.1 i.1.2.1 (0<=iO (iZ i.1.1 i.1.2.1)/\ 
 iO (iZ i.1.1 i.1.2.1)< (aA l)/\(Ty.ok cw (aB cw l (kA i.1.1 i.1.2.1))->aD .i64 (fK (aB cw l (kA i.1.1 i.1.2.1)).1 s)->br (decide (fK (aB cw l (kA i.1.1 i.1.2.1)).1 s< 0)) (sW i.1.1 i.1.2.1 ag 
 i.1.2) (sJ ag i.1.1 i.1.2.1)))))) (br (decide (i.1.1< (aA l))) (0<=i.1.1/\i.1.1< (aA l)/\(Ty.ok cw (ij l i.1.1)->aD .i64 (fK (ij l i.1.1).1 s)->Q (.cH [.c (.k (aC i.1.1)),.c (.k (.bool (fK (ij l 
 i.1.1).1 s==0)))]) [])) (Q (.cH [.c (.k (aC i.1.1)),.c (.k (.bool false))]) []))) ((ah,(aA l),()),()))
theorem amA:cu 265 ahi:=by
 intro args H Q h;unfold ahi at h;split at h;rotate_left;cases h;rename_i cl s;split at h;rotate_left;cases h;rename_i l hl;refine Wp.said (args':=[.c (.d cw l),.str s,.v (.c (.fn 266 []))]) (λE g=>bm.cr (dH hl) (bm.cr (λ_ h=>h) (bm.cr (λ_ h=>h) (λ_ h=>h)))) ?_;clear hl;refine Wp.dC aly dW ⟨[(4,⟨[(9,.int .i64),(10,.int .i64)],[]⟩)],[]⟩ Tryz.f265 (YD l s) ?_;unfold YD ij sJ qU qV kA du sW iZ aC ah aV aA aJ qd iO;obtain ⟨hs,hl,h⟩:=h;have hP:∀ a c:Int,0<=a->a< c->c< (l.length:Int)->fK (aB cw l a).1 (aB cw l c).1< 0:=λa c a0 ac c1=>by
  have:=cQ.1 hs a.toNat c.toNat (by omega) (by omega) (by omega);rw [<-ff (e:=cw) a0 (by omega),<-ff (e:=cw) (by omega) c1,qF,decide_eq_true_eq] at this;exact this
 refine λ_ _ _=>aM.intro (λi=>0<=i.1.1/\i.1.1<=i.1.2.1/\i.1.2.1<=l.length/\(∀ a,0<=a->a< i.1.1->fK (aB cw l a).1 s< 0)/\∀ a,i.1.2.1<=a->a< (l.length:Int)->¬fK (aB cw l a).1 s< 0) (λi=>(i.1.2.1 - i.1.1).toNat) ⟨bB _,by show (0:Int)<=l.length;omega,bB _,λa a0 a1=>by have a1:a< 0:=a1;omega,λa a0 a1=>by have a0:(l.length:Int)<=a:=a0;omega⟩ ?_;rintro ⟨⟨i,j,_⟩,_⟩ ⟨h0,h1,h2,h3,h4⟩;simp only at h0 h1 h2 h3 h4 ⊢;refine aq (λhq=>?_) (λhq=>?_)
 .have hq:=of_decide_eq_true hq;refine ⟨by unfold aD;omega,λ_=>⟨by decide,λ_ _=>?_⟩⟩;rw [PY (n:=i+j) (by omega) (by omega)];refine ⟨by omega,by omega,λ_ _=>aq (λhd=>?_) (λhd=>?_)⟩
  .have hd:=of_decide_eq_true hd;refine ⟨by unfold aD;omega,⟨by omega,by omega,by omega,λa a0 a1=>?_,h4⟩,by omega⟩;rcases Int.lt_or_le a ((i+j) / 2) with q| q
   .exact rr (hP a ((i+j) / 2) a0 q (by omega)) hd
   .obtain rfl:a=(i+j) / 2:=by omega
    exact hd
  .have hd:=of_decide_eq_false hd;refine ⟨⟨by omega,by omega,by omega,h3,λa a0 a1 hc=>?_⟩,by omega⟩;rcases Int.lt_or_le ((i+j) / 2) a with q| q
   .exact hd (rr (hP ((i+j) / 2) a (by omega) q a1) hc)
   .obtain rfl:a=(i+j) / 2:=by omega
    exact hd hc
 .have hq:=of_decide_eq_false hq;obtain rfl:i=j:=by omega
  have kZ:(∀ c:Int,c=i->c< (l.length:Int)->(aB cw l c).1≠s)->∀ x∈l,x.1≠s:=λhi x hx e=>by
   obtain ⟨k,hk,rfl⟩:=ev.1 hx;rw [<-gH (e:=cw) hk] at e;rcases Int.lt_trichotomy (k:Int) i with q| q| q
   .have:=h3 k (by omega) q;rw [e,nZ] at this;exact absurd this (by decide)
   .exact hi k q (by omega) e
   .have:=hP i k h0 q (by omega);rw [e] at this;exact h4 i (bB _) (by omega) this
  refine aq (λhi=>⟨h0,of_decide_eq_true hi,λ_ _=>h i _ ⟨⟨h0,h2⟩,λe=>⟨of_decide_eq_true hi,uq (eq_of_beq e)⟩,λe=>kZ λc hc Qp q=>?_⟩⟩) (λhi=>h i false ⟨⟨h0,h2⟩,(λe=>by cases e),λ_=>kZ λc hc Qp=>absurd (hc▸Qp) (of_decide_eq_false hi)⟩);subst hc;rw [q,nZ] at e;exact absurd e (by decide)
def akT:Ct:=cD cw λx=>c0 λQ=>x.length<=1000000/\Q (.c (.d cw x)) []
def Si (x:(List (cw).den)):dx:=λQ=>List.length x<=9223372036854775807->∀ (c:Bool),(c=true->x= [])->br (j8 c) (Q fE []) ((0+List.length x)*32<=140737488355328/\0+List.length x<=9223372036854775807/\Q fh [.sl 44 cw ([]++x)])
theorem aiR:cu 31 akT:=eQ<| jm λx=>gM λQ h=>by
 refine Wp.Jc (e:=cw) ?_;refine Wp.dC gJ dW ⟨[],[]⟩ Tryz.f31 (Si x) ?_;unfold Si j8 fh fE bZ;obtain ⟨hl,h⟩:=h;refine λ_ c hc=>aq (λhb=>.inr (.inl ⟨rfl,?_⟩)) (λhb=>⟨by omega,by omega,.inr (.inr ⟨0,44,x,rfl,aG 0,rfl,h⟩)⟩);rw [hc hb] at h;exact h
def akt:Ct:=cD cZ λx=>c0 λQ=>x.length<=1000/\Q (.c (.o 0)) [.sl 96 cZ x]
def Rx (x:(List (cZ).den)):dx:=λQ=>kz x (IK x Q)
theorem aim:cu 37 akt:=eQ<| jm λx=>gM λQ h=>by
 refine Wp.yR (t:=96) (e:=cZ) ?_;refine Wp.dC gJ dW ⟨[],[]⟩ Tryz.f37 (Rx x) ?_;unfold Rx IK kz j8 fh fE ck bZ;obtain ⟨hl,h⟩:=h;refine λ_ c hc=>aq (λhb=>.inr ⟨rfl,?_⟩) (λhb=>⟨by omega,by omega,.inl h⟩);have hb:c=true:=hb;rw [hc hb] at h;exact h
theorem nO {α:Type} {l:List α} {i:Nat} {a:α} (h:l[i]?=some a):l.set i a=l:=by
 obtain ⟨h1,rfl⟩:=aw.1 h;exact List.set_getElem_self _
theorem aab {l:List Int} {i y:Int} (h:l[i.toNat]?=some y) (h0:0<=i):i< (l.length:Int)/\aB (.int .i64) l i=y:=by
 obtain ⟨h1,rfl⟩:=aw.1 h;exact ⟨by omega,ff (e:=.int .i64) h0 (by omega)⟩
def afJ:Ct:=λargs H Q=>∃ (ref:Int) (T:List Int) (im:List UInt8) (s0:Int) (s1:Int) (s2:Int) (s3:Int) (s4:Int) (s5:Int) (s6:Int) (s7:Int) (s8:Int) (s9:Int) (pl:List Int) (ids:List Int) (nm:Int) (R1:Value->Atom) (R2:Value->Atom) (R3:Value->Atom) (M:List (Int×Nat×bf.den)),args= [.v (.c (.p 0 0)),.int ref]/\H= [.cells 90 [.de (.int .u32) T 0 0,.d .u8 im,.k (.int .i64 s0),.k (.int .i64 s1),.k (.int .i64 s2),.k (.int .i64 s3),.k (.int .i64 s4),.k (.int .i64 s5),.k (.int .i64 s6),.k (.int .i64 s7),.k (.int .i64 s8),.k (.int .i64 s9),.d (.int .i64) pl,.d (.int .i64) ids,.p 1 0,.p 2 0,.p 3 0,.m 4,.k (.int .i64 nm)],.abs R1,.abs R2,.abs R3,.ab (.pm 3 82 bf M)]/\∃ (d:IR) (N:List aZ) (x:aZ),d.Ok T N/\(T=dB/\im=d.im T/\d.s=(s0,s1,s2,s3,s4,s5,s6,s7,s8,s9,())/\pl=d.pl/\ids=d.ids)/\xF d N M x ref/\x∈N/\Q (.cH [.agg [.k (.int .i64 x.2.2.1),.k (.int .i64 x.2.2.2.1.1),.k (.int .i64 x.2.2.2.1.2.1),.k (.int .i64 x.2.2.2.1.2.2.1),.k (.int .i64 (oM N x.2.1:Nat)),.k (.int .i64 (B5 N x))],.c (.k (.int .i64 0))]) [.cells 90 [.de (.int .u32) T 0 0,.d .u8 im,.k (.int .i64 s0),.k (.int .i64 s1),.k (.int .i64 s2),.k (.int .i64 s3),.k (.int .i64 s4),.k (.int .i64 s5),.k (.int .i64 s6),.k (.int .i64 s7),.k (.int .i64 s8),.k (.int .i64 s9),.d (.int .i64) pl,.d (.int .i64) ids,.p 1 0,.p 2 0,.p 3 0,.m 4,.k (.int .i64 nm)],.abs R1,.abs R2,.abs R3,.ab (.pm 3 82 bf M)]
def acQ:=gJ.add wh
abbrev pG (y0:List (Int×Nat×bf.den)) (y1:Nat) (y2:Int) (y3:Nat) (y4:Ty.den bf) (R:Prop):=y0[y1]?=some (y2,y3,y4)->Ty.ok bf y4->aD .i64 0->R
abbrev iP (y0:List (Int×Nat×bf.den)) (y1:Nat) (y2:Int) (y3:Nat) (y4:Ty.den bf):=List.set y0 y1 (y2,y3,y4)
def K5 (ref:Int) (T:List Int) (im:List UInt8) (s0 s1 s2 s3 s4 s5 s6 s7 s8 s9:Int) (pl ids:List Int) (nm:Int) (R1 R2 R3:Value->Atom) (M:(List (Int×Nat×bf.den))):dx:=λQ=>aD .i64 ref->(∃ p,p∈M/\p.1=ref)/\∀ (i bb:Nat) (r:Ty.den bf),pG M i ref bb r (0<=r.1.2.2.1/\r.1.2.2.1< (aA ids)/\(Ty.ok bo (aB bo ids 
 r.1.2.2.1)->0<=r.1.2.2.2.1/\r.1.2.2.2.1< (aA ids)/\(Ty.ok bo (aB bo ids r.1.2.2.2.1)->br (r.1.1==1) (aJ (bw r.2.2.1)->Q (SV.cH [S1.agg [.k (aC r.1.1),.k (aC r.1.2.1),.k (.int .i64 (aB bo ids r.1.2.2.1)),.k 
 (.int .i64 (aB bo ids r.1.2.2.2.1)),.k (aC r.1.2.2.2.2.1),.k (.int .i64 (aS r.2.2.1))],.c (.k aR)]) [fJ T im s0 s1 s2 s3 s4 s5 s6 s7 s8 s9 pl ids nm,HO.abs R1,HO.abs R2,HO.abs R3,fp (iP M i ref bb r)]) (br (r.1.1== 
 3) (Q (SV.cH [S1.agg [.k (aC r.1.1),.k (aC r.1.2.1),.k (.int .i64 (aB bo ids r.1.2.2.1)),.k (.int .i64 (aB bo ids r.1.2.2.2.1)),.k (aC r.1.2.2.2.2.1),.k (.int .i64 (gY r.1.2.2.2.2.2.2.2.2.2.2.1))],.c (.k aR)]) [fJ 
 T im s0 s1 s2 s3 s4 s5 s6 s7 s8 s9 pl ids nm,HO.abs R1,HO.abs R2,HO.abs R3,fp (iP M i ref bb r)]) (Q (SV.cH [S1.agg [.k (aC r.1.1),.k (aC r.1.2.1),.k (.int .i64 (aB bo ids r.1.2.2.1)),.k (.int .i64 (aB bo ids 
 r.1.2.2.2.1)),.k (aC r.1.2.2.2.2.1),.k (aC r.1.2.2.2.2.2.2.2.1)],.c (.k aR)]) [fJ T im s0 s1 s2 s3 s4 s5 s6 s7 s8 s9 pl ids nm,HO.abs R1,HO.abs R2,HO.abs R3,fp (iP M i ref bb r)])))))
theorem adE:cu 16 afJ:=by
 intro args H Q h;obtain ⟨ref,T,im,s0,s1,s2,s3,s4,s5,s6,s7,s8,s9,pl,ids,nm,R1,R2,R3,M,rfl,rfl,h⟩:=h;refine Wp.dC acQ dW ⟨[],[]⟩ Tryz.f16 (K5 ref T im s0 s1 s2 s3 s4 s5 s6 s7 s8 s9 pl ids nm R1 R2 R3 M) (clo:=true) ?_;unfold K5 iP pG gY bw aR aC aS aA aJ fJ fp bo;obtain ⟨d,N,x,hd,⟨rfl,rfl,hs,rfl,rfl⟩,⟨⟨p0,Wb,Xp⟩,rT⟩,hx,h⟩:=h;refine λ_=>⟨⟨p0,Wb,Xp⟩,λi bb r hi _ _=>?_⟩;have hR:=rT i bb r hi;rw [nO hi];have hN:=hR.n;have hmk:=(jS (hd.tok.may x hx)).2;obtain ⟨kd,ekd⟩:∃ a:Int,a=r.1.1:=⟨_,rfl⟩;have Dk:kd=x.2.2.1:=by rw [ekd];exact hN.kind
 
 obtain ⟨u1,u2⟩:=aab hN.uid hN.ok.cm.q2.1;obtain ⟨g1,g2⟩:=aab hN.gid hN.ok.cm.q3.1;rw [u2,g2];have key:∀ z:Int,z=B5 N x->Q (.cH [.agg [.k (.int .i64 r.1.1),.k (.int .i64 r.1.2.1),.k (.int .i64 (uW x)),.k (.int .i64 (zd x)),.k (.int .i64 r.1.2.2.2.2.1),.k (.int .i64 z)],.c (.k (.int .i64 0))]) [.cells 90 [.de (.int .u32) dB 0 0,.d .u8 (d.im dB),.k (.int .i64 s0),.k (.int .i64 s1),.k (.int .i64 s2),.k (.int .i64 s3),.k (.int .i64 s4),.k (.int .i64 s5),.k (.int .i64 s6),.k (.int .i64 s7),.k (.int .i64 s8),.k (.int .i64 s9),.d (.int .i64) d.pl,.d (.int .i64) d.ids,.p 1 0,.p 2 0,.p 3 0,.m 4,.k (.int .i64 nm)],.abs R1,.abs R2,.abs R3,.ab (.pm 3 82 bf M)]:=λz hz=>by
  rw [hz,show r.1.1=x.2.2.1 from hN.kind,show r.1.2.1=x.2.2.2.1.1 from hN.mode,show r.1.2.2.2.2.1=((oM N x.2.1:Nat):Int) from hN.lnk];exact h
 rw [<-ekd] at key ⊢;refine ⟨hN.ok.cm.q2.1,u1,λ_=>⟨hN.ok.cm.q3.1,g1,λ_=>aq (λq=>λ_=>key _ ?_) (λq=>aq (λq3=>key _ ?_) (λq3=>key _ ?_))⟩⟩
 .have hk:x.2.2.1=1:=Dk.symm.trans (eq_of_beq q);unfold B5;rw [if_pos hk,hR.Nh hk]
 .have hk:x.2.2.1=3:=Dk.symm.trans (eq_of_beq q3);unfold B5;rw [if_neg (by rw [hk];decide),if_neg (by rw [hk];decide),<-hN.tgt hk]
 .have h1:x.2.2.1≠1:=λe=>by rw [Dk,e] at q;cases q
  have h3:x.2.2.1≠3:=λe=>by rw [Dk,e] at q3;cases q3
  have hk:x.2.2.1=2:=by
   rcases hmk with e| e| e;exact absurd e h1;exact e;exact absurd e h3
  obtain ⟨fs,f1,f2,_⟩:=hd.fileAt hx hk hN;unfold B5;rw [if_neg h1,if_pos hk];exact f2
def afX:Ct:=λargs H Q=>∃ (ref:Int) (T:List Int) (im:List UInt8) (s0:Int) (s1:Int) (s2:Int) (s3:Int) (s4:Int) (s5:Int) (s6:Int) (s7:Int) (s8:Int) (s9:Int) (pl:List Int) (ids:List Int) (nm:Int) (R1:Value->Atom) (R2:Value->Atom) (R3:Value->Atom) (M:List (Int×Nat×bf.den)),args= [.v (.c (.p 0 0)),.int ref]/\H= [.cells 90 [.de (.int .u32) T 0 0,.d .u8 im,.k (.int .i64 s0),.k (.int .i64 s1),.k (.int .i64 s2),.k (.int .i64 s3),.k (.int .i64 s4),.k (.int .i64 s5),.k (.int .i64 s6),.k (.int .i64 s7),.k (.int .i64 s8),.k (.int .i64 s9),.d (.int .i64) pl,.d (.int .i64) ids,.p 1 0,.p 2 0,.p 3 0,.m 4,.k (.int .i64 nm)],.abs R1,.abs R2,.abs R3,.ab (.pm 3 82 bf M)]/\∃ (d:IR) (N:List aZ) (x:aZ),d.Ok T N/\(T=dB/\im=d.im T/\d.s=(s0,s1,s2,s3,s4,s5,s6,s7,s8,s9,())/\pl=d.pl/\ids=d.ids)/\xF d N M x ref/\x∈N/\∀ es e,HI d N x es e->Q (.cH [.c (.d cw es),.c (.k (.int .i64 e))]) [.cells 90 [.de (.int .u32) T 0 0,.d .u8 im,.k (.int .i64 s0),.k (.int .i64 s1),.k (.int .i64 s2),.k (.int .i64 s3),.k (.int .i64 s4),.k (.int .i64 s5),.k (.int .i64 s6),.k (.int .i64 s7),.k (.int .i64 s8),.k (.int .i64 s9),.d (.int .i64) pl,.d (.int .i64) ids,.p 1 0,.p 2 0,.p 3 0,.m 4,.k (.int .i64 nm)],.abs R1,.abs R2,.abs R3,.ab (.pm 3 82 bf M)]
def alx:=(gJ.add aiR).add wh
def Lo (ref:Int) (T:List Int) (im:List UInt8) (s0 s1 s2 s3 s4 s5 s6 s7 s8 s9:Int) (pl ids:List Int) (nm:Int) (R1 R2 R3:Value->Atom) (M:(List (Int×Nat×bf.den))):dx:=λQ=>aD .i64 ref->(∃ p,p∈M/\p.1=ref)/\∀ (i bb:Nat) (r:Ty.den bf),pG M i ref bb r (br (r.1.1 !=1) (Q (.cH [.c (.k bZ),.c (.k (.int .i64 24))]) [fJ T 
 im s0 s1 s2 s3 s4 s5 s6 s7 s8 s9 pl ids nm,HO.abs R1,HO.abs R2,HO.abs R3,fp (iP M i ref bb r)]) (List.length r.2.2.1<=1000000/\(aJ (bw r.2.2.1)->Q (SV.cH [S1.c (Cl.d cw r.2.2.1),.c (.k aR)]) [fJ T im s0 s1 s2 s3 
 s4 s5 s6 s7 s8 s9 pl ids nm,HO.abs R1,HO.abs R2,HO.abs R3,fp (iP M i ref bb r)])))
theorem Rg:cu 13 afX:=by
 intro args H Q h;obtain ⟨ref,T,im,s0,s1,s2,s3,s4,s5,s6,s7,s8,s9,pl,ids,nm,R1,R2,R3,M,rfl,rfl,h⟩:=h;refine Wp.kC [some (.sl cw),none] [] ?_;refine Wp.dC alx dW ⟨[],[]⟩ Tryz.f13 (Lo ref T im s0 s1 s2 s3 s4 s5 s6 s7 s8 s9 pl ids nm R1 R2 R3 M) (clo:=true) ?_;unfold Lo iP pG bw bZ aR aJ fJ fp;obtain ⟨d,N,x,hd,⟨rfl,rfl,hs,rfl,rfl⟩,⟨⟨p0,Wb,Xp⟩,rT⟩,hx,h⟩:=h;refine λ_=>⟨⟨p0,Wb,Xp⟩,λi bb r hi _ _=>?_⟩;have hR:=rT i bb r hi;rw [nO hi];have hN:=hR.n;have hmk:=(jS (hd.tok.may x hx)).2;obtain ⟨kd,ekd⟩:∃ a:Int,a=r.1.1:=⟨_,rfl⟩;have Dk:kd=x.2.2.1:=by rw [ekd];exact hN.kind
 
 rw [<-ekd];refine aq (λq=>⟨aG _,h [] 24 ⟨.inr ⟨rfl,λe=>?_,rfl⟩⟩⟩) (λq=>?_);rw [Dk,e] at q;cases q;have hk:x.2.2.1=1:=by
  have:kd=1:=by simpa using q
  rw [<-Dk];exact this
 have hl:=hR.Nh hk;have v8:=kF x.1 (L:=N) (k:=0);have hl3:=hd.tok.len;refine ⟨by omega,λ_=>⟨aG _,h r.2.2.1 0 ⟨.inl ⟨rfl,hk,?_⟩⟩⟩⟩;rcases hR.list with ⟨_,a,b⟩| ⟨a,_⟩;exact ⟨a,b⟩;exact absurd hk a
def Oe:Ct:=λargs H Q=>(match args with
 | [.v (.c (.p 0 0)),.v (.c (.k (.int .i64 ref)))]=>(match H with
 | [o0,o1,o2,o3,o4]=>imR o0 λT im s0 s1 s2 s3 s4 s5 s6 s7 s8 s9 pl ids nm=>(match o1 with
 | .abs R1=>(match o2 with
 | .abs R2=>(match o3 with
 | .abs R3=>MU o4 λM=>∃ (d:IR) (N:List aZ) (x:aZ),d.Ok T N/\(T=dB/\im=d.im T/\d.s=(s0,s1,s2,s3,s4,s5,s6,s7,s8,s9,())/\pl=d.pl/\ids=d.ids)/\xF d N M x ref/\x∈N/\∀ es e,HI d N x es e->Q (.cH [.c (.d cw es),.c (.k (.int .i64 e))]) [.cells 90 [.de (.int .u32) T 0 0,.d .u8 im,.k (.int .i64 s0),.k (.int .i64 s1),.k (.int .i64 s2),.k (.int .i64 s3),.k (.int .i64 s4),.k (.int .i64 s5),.k (.int .i64 s6),.k (.int .i64 s7),.k (.int .i64 s8),.k (.int .i64 s9),.d (.int .i64) pl,.d (.int .i64) ids,.p 1 0,.p 2 0,.p 3 0,.m 4,.k (.int .i64 nm)],.abs R1,.abs R2,.abs R3,.ab (.pm 3 82 bf M)]
 | _=>False)
 | _=>False)
 | _=>False)
 | _=>False)
 | _=>False)
theorem XU:cu 13 Oe:=λargs H Q h=>by
 unfold Oe MU imR Xl imP at h;dsimp only at h
 repeat (split at h;rotate_left;exact h.elim)
 exact Rg _ _ _ ⟨_,_,_,_,_,_,_,_,_,_,_,_,_,_,_,_,_,_,_,_,rfl,rfl,h⟩
def afW:Ct:=λargs H Q=>∃ (ref:Int) (s:ByteArray) (T:List Int) (im:List UInt8) (s0:Int) (s1:Int) (s2:Int) (s3:Int) (s4:Int) (s5:Int) (s6:Int) (s7:Int) (s8:Int) (s9:Int) (pl:List Int) (ids:List Int) (nm:Int) (R1:Value->Atom) (R2:Value->Atom) (R3:Value->Atom) (M:List (Int×Nat×bf.den)),args= [.v (.c (.p 0 0)),.int ref,.str s]/\H= [.cells 90 [.de (.int .u32) T 0 0,.d .u8 im,.k (.int .i64 s0),.k (.int .i64 s1),.k (.int .i64 s2),.k (.int .i64 s3),.k (.int .i64 s4),.k (.int .i64 s5),.k (.int .i64 s6),.k (.int .i64 s7),.k (.int .i64 s8),.k (.int .i64 s9),.d (.int .i64) pl,.d (.int .i64) ids,.p 1 0,.p 2 0,.p 3 0,.m 4,.k (.int .i64 nm)],.abs R1,.abs R2,.abs R3,.ab (.pm 3 82 bf M)]/\∃ (d:IR) (N:List aZ) (x:aZ),d.Ok T N/\(T=dB/\im=d.im T/\d.s=(s0,s1,s2,s3,s4,s5,s6,s7,s8,s9,())/\pl=d.pl/\ids=d.ids)/\xF d N M x ref/\x∈N/\∀ v e,ade d N x s v e->Q (.cH [.agg (cw.cells v),.c (.k (.int .i64 e))]) [.cells 90 [.de (.int .u32) T 0 0,.d .u8 im,.k (.int .i64 s0),.k (.int .i64 s1),.k (.int .i64 s2),.k (.int .i64 s3),.k (.int .i64 s4),.k (.int .i64 s5),.k (.int .i64 s6),.k (.int .i64 s7),.k (.int .i64 s8),.k (.int .i64 s9),.d (.int .i64) pl,.d (.int .i64) ids,.p 1 0,.p 2 0,.p 3 0,.m 4,.k (.int .i64 nm)],.abs R1,.abs R2,.abs R3,.ab (.pm 3 82 bf M)]
def alw:=(gJ.add amA).add XU
def Ln (ref:Int) (s:ByteArray) (T:List Int) (im:List UInt8) (s0 s1 s2 s3 s4 s5 s6 s7 s8 s9:Int) (pl ids:List Int) (nm:Int) (R1 R2 R3:Value->Atom) (M:(List (Int×Nat×bf.den))):dx:=λQ=>aD .i64 ref->du s (∃ d N x,IR.Ok d T N/\(T=dB/\im=IR.im d T/\d.s=(s0,s1,s2,s3,s4,s5,s6,s7,s8,s9,())/\pl=d.pl/\ids=d.ids)/\xF d N M 
 x ref/\x∈N/\∀ (es:List (Ty.den cw)) (e:Int),HI d N x es e->aJ (List.length es)->aD .i64 e->br (e !=0) (Q (SV.cH [S1.agg [.k lj,.k aR,.k aR],.c (.k (aC e))]) [fJ T im s0 s1 s2 s3 s4 s5 s6 s7 s8 s9 pl 
 ids nm,HO.abs R1,HO.abs R2,HO.abs R3,fp M]) (List.Pairwise (λa b=>rG a.1 b.1=true) es/\List.length es<=100000/\∀ (i:Int) (b:Bool),BsR es s i b->aD .i64 i->br (!b) (Q (SV.cH [S1.agg [.k lj,.k aR,.k aR], 
 .c (.k (.int .i64 20))]) [fJ T im s0 s1 s2 s3 s4 s5 s6 s7 s8 s9 pl ids nm,HO.abs R1,HO.abs R2,HO.abs R3,fp M]) (0<=i/\i< (aA es)/\(Ty.ok cw (aB cw es i)->Q (SV.cH [S1.agg [.k (.string (aB cw es i).1),.k (.int .i64 
 (aB cw es i).2.1),.k (.int .i64 (aB cw es i).2.2.1)],.c (.k aR)]) [fJ T im s0 s1 s2 s3 s4 s5 s6 s7 s8 s9 pl ids nm,HO.abs R1,HO.abs R2,HO.abs R3,fp M]))))
theorem adX:cu 263 afW:=by
 intro args H Q h;obtain ⟨ref,s,T,im,s0,s1,s2,s3,s4,s5,s6,s7,s8,s9,pl,ids,nm,R1,R2,R3,M,rfl,rfl,h⟩:=h;refine Wp.dC alw dW ⟨[],[]⟩ Tryz.f263 (Ln ref s T im s0 s1 s2 s3 s4 s5 s6 s7 s8 s9 pl ids nm R1 R2 R3 M) (clo:=true) ?_;unfold Ln lj du aR aC aA aJ fJ fp;obtain ⟨d,N,x,hd,⟨rfl,rfl,hs,rfl,rfl⟩,⟨⟨p0,Wb,Xp⟩,rT⟩,hx,h⟩:=h;refine λ_ _=>⟨d,N,x,hd,⟨rfl,rfl,hs,rfl,rfl⟩,⟨⟨p0,Wb,Xp⟩,rT⟩,hx,λes e hL _ _=>?_⟩;rcases hL.or with ⟨rfl,hk,ho,hE⟩| ⟨rfl,hk,rfl⟩;rotate_left;exact aq (λ_=>h (⟨#[]⟩,(0:Int),(0:Int),()) 24 ⟨by unfold mz;rw [if_neg hk],λq=>by cases q⟩) (λq=>by cases q);have hl:=hE.len;have v8:=kF x.1 (L:=N) (k:=0);have hl3:=hd.tok.len;refine aq (λq=>by cases q) (λ_=>⟨(G6 ho).2,by omega,λi b hB _=>aq (λq=>?_) (λq=>?_)⟩)
 .have kZ:=hB.no (by simpa using q);refine h (⟨#[]⟩,(0:Int),(0:Int),()) 20 ⟨?_,λq=>by cases q⟩;have:TE N (x.1++ [s])=none:=xj.2 λy hy e=>by
   obtain ⟨j,hj,ej⟩:=aeZ hd.tok hE hy e;exact kZ _ (dA hj) ej
  unfold mz;rw [if_pos hk,this]
 .obtain ⟨hi,hs'⟩:=hB.yes (by simpa using q);obtain ⟨h0,_⟩:=hB.r;refine ⟨h0,hi,λ_=>?_⟩;obtain ⟨j,rfl⟩:∃ j:Nat,i=j:=⟨i.toNat,by omega⟩;have hj:j< es.length:=by omega
  obtain ⟨y,hy,e1,e2⟩:=afp hd.tok hE hj;have ex:aB cw es (j:Int)=es[j]:=gH (e:=cw) hj;rw [ex] at hs' ⊢;rw [hs'] at e1 e2;refine h es[j] 0 ⟨?_,λ_=>⟨y,hy,e1,e2⟩⟩;unfold mz;rw [if_pos hk];cases hf:TE N (x.1++ [s]) with
  | none=>exact absurd e1 (xj.1 hf y hy)
  | some v=>rfl
def aku:Ct:=λargs H Q=>∃ (ref:Int) (T:List Int) (im:List UInt8) (s0:Int) (s1:Int) (s2:Int) (s3:Int) (s4:Int) (s5:Int) (s6:Int) (s7:Int) (s8:Int) (s9:Int) (pl:List Int) (ids:List Int) (nm:Int) (R1:Value->Atom) (R2:Value->Atom) (R3:Value->Atom) (M:List (Int×Nat×bf.den)),args= [.v (.c (.p 0 0)),.int ref]/\H= [.cells 90 [.de (.int .u32) T 0 0,.d .u8 im,.k (.int .i64 s0),.k (.int .i64 s1),.k (.int .i64 s2),.k (.int .i64 s3),.k (.int .i64 s4),.k (.int .i64 s5),.k (.int .i64 s6),.k (.int .i64 s7),.k (.int .i64 s8),.k (.int .i64 s9),.d (.int .i64) pl,.d (.int .i64) ids,.p 1 0,.p 2 0,.p 3 0,.m 4,.k (.int .i64 nm)],.abs R1,.abs R2,.abs R3,.ab (.pm 3 82 bf M)]/\∃ (d:IR) (N:List aZ) (x:aZ),d.Ok T N/\(T=dB/\im=d.im T/\d.s=(s0,s1,s2,s3,s4,s5,s6,s7,s8,s9,())/\pl=d.pl/\ids=d.ids)/\xF d N M x ref/\x∈N/\Q (.cH [.c (.d cZ x.2.2.2.2.2.2.1),.c (.k (.int .i64 0))]) [.cells 90 [.de (.int .u32) T 0 0,.d .u8 im,.k (.int .i64 s0),.k (.int .i64 s1),.k (.int .i64 s2),.k (.int .i64 s3),.k (.int .i64 s4),.k (.int .i64 s5),.k (.int .i64 s6),.k (.int .i64 s7),.k (.int .i64 s8),.k (.int .i64 s9),.d (.int .i64) pl,.d (.int .i64) ids,.p 1 0,.p 2 0,.p 3 0,.m 4,.k (.int .i64 nm)],.abs R1,.abs R2,.abs R3,.ab (.pm 3 82 bf M)]
def alv:=((gJ.add O1).add aim).add wh
abbrev Cy:=SV.cH [S1.c (.o 5),.c (.k aR)]
def Ry (ref:Int) (T:List Int) (im:List UInt8) (s0 s1 s2 s3 s4 s5 s6 s7 s8 s9:Int) (pl ids:List Int) (nm:Int) (R1 R2 R3:Value->Atom) (M:(List (Int×Nat×bf.den))):dx:=λQ=>aD .i64 ref->(∃ p,p∈M/\p.1=ref)/\∀ (i bb:Nat) (r:Ty.den bf),pG M i ref bb r (List.length r.2.2.2.1<=1000/\(aJ (bw r.2.2.2.1)->aM (λbE 
 ag=>br (decide (bE.1.1< (aS r.2.2.2.1))) (vt bE.1.1 bE.1.2.1 (Ty.ok cZ (dd bE.1.2.1 bE.1.1)->List.length (dd bE.1.2.1 bE.1.1).2.1<=140737488355328/\(IU bE.1.2.1 bE.1.1 (cF bE.1.1 (ag ((bE.1.1+1, 
 List.set bE.1.2.1 (aU bE.1.1) (dd bE.1.2.1 bE.1.1),()),())))))) (Q Cy [fJ T im s0 s1 s2 s3 s4 s5 s6 s7 s8 s9 pl ids nm,HO.abs R1,HO.abs R2,HO.abs R3,fp (iP M i ref bb r),.sl 96 cZ bE.1.2.1])) ((ah, 
 r.2.2.2),())))
theorem ain:cu 20 aku:=by
 intro args H Q h;obtain ⟨ref,T,im,s0,s1,s2,s3,s4,s5,s6,s7,s8,s9,pl,ids,nm,R1,R2,R3,M,rfl,rfl,h⟩:=h;refine Wp.kC [some (.sl cZ),none] [5] ?_;refine Wp.dC alv dW ⟨[(7,⟨[(26,.int .i64),(8,.own 96 cZ)],[]⟩)],[]⟩ Tryz.f20 (Ry ref T im s0 s1 s2 s3 s4 s5 s6 s7 s8 s9 pl ids nm R1 R2 R3 M) (clo:=true) ?_;unfold Ry Cy iP pG vt IU dd cF bw aU aR ah aS aJ fJ fp;obtain ⟨d,N,x,hd,⟨rfl,rfl,hs,rfl,rfl⟩,⟨⟨p0,Wb,Xp⟩,rT⟩,hx,h⟩:=h;refine λ_=>⟨⟨p0,Wb,Xp⟩,λi bb r hi _ _=>?_⟩;have hR:=rT i bb r hi;rw [nO hi];have hN:=hR.n;have hmk:=(jS (hd.tok.may x hx)).2;obtain ⟨kd,ekd⟩:∃ a:Int,a=r.1.1:=⟨_,rfl⟩;have Dk:kd=x.2.2.1:=by rw [ekd];exact hN.kind
 
 obtain ⟨hm8,hl8⟩:=ml (vG (hd.tok.may x hx)).xa;rw [<-hR.xa] at h hm8 hl8;clear rT hR hN hi;refine ⟨by omega,λ_=>aM.intro (λi=>0<=i.1.1/\i.1.2.1=r.2.2.2.1) (λi=>r.2.2.2.1.length - i.1.1.toNat) ⟨bB _,rfl⟩ ?_⟩;rintro ⟨⟨k,l,_⟩,_⟩ ⟨k0,e⟩;simp only at k0 e ⊢;subst e;refine aq (λhc=>?_) (λ_=>⟨(show 5<=6 by decide),h⟩);have hc:=of_decide_eq_true hc;have r7:aB cZ r.2.2.2.1 k∈r.2.2.2.1:=tk (e:=cZ) k0 hc;have hv:=(hm8 _ r7).2;refine ⟨k0,hc,k0,hc,λ_=>⟨by omega,λ_=>⟨k0,hc,k0,hc,by unfold aD;omega,⟨by omega,nO ?_⟩,by omega⟩⟩⟩;rw [ao (by omega),ff (e:=cZ) k0 hc]
structure aoq (pl:List Int) (nu a:Int):Prop where
 ex:∃ i:Nat,nu=(i:Int)+1/\pl[i]?=some a
theorem aek {z t:List UInt8} {a b k:Nat} (h:(z.drop a).take t.length=t) (hk:b+k<=t.length):(z.drop (a+b)).take k=(t.drop b).take k:=by
 grind [lG, eP]
theorem Ve {l:List UInt8} {n:Nat}:l.take (min n l.length)=l.take n:=by
 grind
def ahf:Ct
 | [.v (.c (.de (.int .u32) T 0 0)),.v (.c cim),.v (.c cpl),.v (.c (.k (.int .i64 nu))),.v (.c (.k (.int .i64 off))),.v (.c (.k (.int .i64 n)))],[],Q=>(match (Ty.sl Ty.u8).of [cim] with
  | some (im,[])=>(match (Ty.sl (Ty.int .i64)).of [cpl] with
   | some (pl,[])=>(T.length=256/\im.length<=100000000/\pl.length<=100000)/\∃ (a:Int) (z:List UInt8) (nx:Int),aoq pl nu a/\EG T im a z nx/\0< z.length/\z.length<=128/\0<=off/\0<=n/\off+n<=z.length/\Q (.cH [.c (.d .u8 ((z.drop off.toNat).take n.toNat)),.c (.k (.int .i64 0))]) []
   | _=>False)
  | _=>False)
 | _,_,_=>False
theorem amn:cu 33 ahf:=λargs H Q h=>by
 refine O0 _ _ _ ?_;unfold ahf at h;split at h
 .rename_i T cim cpl nu off n;unfold vV;cases q1:(Ty.sl Ty.u8).of [cim] with
  | none=>rw [q1] at h;exact h.elim
  | some p1=>
   obtain ⟨im,r1⟩:=p1;cases r1 with
   | cons a r1=>rw [q1] at h;exact h.elim
   | nil=>
    simp only [q1] at h ⊢;cases q2:(Ty.sl (Ty.int .i64)).of [cpl] with
    | none=>rw [q2] at h;exact h.elim
    | some p2=>
     obtain ⟨pl,r2⟩:=p2;cases r2 with
     | cons a r2=>rw [q2] at h;exact h.elim
     | nil=>
      simp only [q2] at h ⊢;obtain ⟨h0,a,z,nx,⟨⟨i,h1,h2⟩⟩,h3⟩:=h;exact ⟨h0,i,a,z,nx,h1,h2,h3⟩
 .cases h
def anW:Ct:=λargs H Q=>∃ (ref:Int) (off:Int) (n:Int) (T:List Int) (im:List UInt8) (s0:Int) (s1:Int) (s2:Int) (s3:Int) (s4:Int) (s5:Int) (s6:Int) (s7:Int) (s8:Int) (s9:Int) (pl:List Int) (ids:List Int) (nm:Int) (R1:Value->Atom) (R2:Value->Atom) (R3:Value->Atom) (M:List (Int×Nat×bf.den)),args= [.v (.c (.p 0 0)),.int ref,.int off,.int n]/\H= [.cells 90 [.de (.int .u32) T 0 0,.d .u8 im,.k (.int .i64 s0),.k (.int .i64 s1),.k (.int .i64 s2),.k (.int .i64 s3),.k (.int .i64 s4),.k (.int .i64 s5),.k (.int .i64 s6),.k (.int .i64 s7),.k (.int .i64 s8),.k (.int .i64 s9),.d (.int .i64) pl,.d (.int .i64) ids,.p 1 0,.p 2 0,.p 3 0,.m 4,.k (.int .i64 nm)],.abs R1,.abs R2,.abs R3,.ab (.pm 3 82 bf M)]/\∃ (d:IR) (N:List aZ) (x:aZ),d.Ok T N/\(T=dB/\im=d.im T/\d.s=(s0,s1,s2,s3,s4,s5,s6,s7,s8,s9,())/\pl=d.pl/\ids=d.ids)/\xF d N M x ref/\x∈N/\Q (.cH [.c (.d .u8 (rdN x off n)),.c (.k (.int .i64 (Zg x off n)))]) [.cells 90 [.de (.int .u32) T 0 0,.d .u8 im,.k (.int .i64 s0),.k (.int .i64 s1),.k (.int .i64 s2),.k (.int .i64 s3),.k (.int .i64 s4),.k (.int .i64 s5),.k (.int .i64 s6),.k (.int .i64 s7),.k (.int .i64 s8),.k (.int .i64 s9),.d (.int .i64) pl,.d (.int .i64) ids,.p 1 0,.p 2 0,.p 3 0,.m 4,.k (.int .i64 nm)],.abs R1,.abs R2,.abs R3,.ab (.pm 3 82 bf M)]
def alu:=((gJ.add Rt).add amn).add wh
abbrev pn {A3:Type} (y0:Int) (y1) (y2:Int) (y3:List A3):=List.take (ax (min y0 (y1 - y2))) (List.drop (ax y2) (List.take (gd*(List.length y3 / gd)) y3))
abbrev yC (y0:Int) (y1):=y0 - gw y1 bF*128
abbrev CC (y0) (y1:Int) (y2):=ax (y0+max (yC y1 y2) ah)
def Yo (ref off n:Int) (T:List Int) (im:List UInt8) (s0 s1 s2 s3 s4 s5 s6 s7 s8 s9:Int) (pl ids:List Int) (nm:Int) (R1 R2 R3:Value->Atom) (M:(List (Int×Nat×bf.den))):dx:=λQ=>cz ref off n ((∃ p,p∈M/\p.1=ref)/\∀ (i bb:Nat) (r:Ty.den bf),pG M i ref bb r (br (r.1.1==1) (Q (.cH [.c (.k bZ),.c (.k (.int .i64 25))]) 
 [fJ T im s0 s1 s2 s3 s4 s5 s6 s7 s8 s9 pl ids nm,HO.abs R1,HO.abs R2,HO.abs R3,fp (iP M i ref bb r)]) (br (r.1.1==3) (Q kf [fJ T im s0 s1 s2 s3 s4 s5 s6 s7 s8 s9 pl ids nm,HO.abs R1,HO.abs R2,HO.abs R3,fp (iP M 
 i ref bb r)]) (br (cV off) (Q kf [fJ T im s0 s1 s2 s3 s4 s5 s6 s7 s8 s9 pl ids nm,HO.abs R1,HO.abs R2,HO.abs R3,fp (iP M i ref bb r)]) (br (cV n) (Q kf [fJ T im s0 s1 s2 s3 s4 s5 s6 s7 s8 s9 pl ids nm,HO.abs R1, 
 HO.abs R2,HO.abs R3,fp (iP M i ref bb r)]) (br (decide (off≥r.1.2.2.2.2.2.2.2.1)) (Q (.cH [.c (.k bZ),.c (.k aR)]) [fJ T im s0 s1 s2 s3 s4 s5 s6 s7 s8 s9 pl ids nm,HO.abs R1,HO.abs R2,HO.abs R3,fp (iP M i ref 
 bb r)]) (aD .i64 (r.1.2.2.2.2.2.2.2.1 - off)/\dQ T (je im (∃ x fs,D9 T im r.1.2.2.2.2.2.2.1 x fs/\r.1.2.2.2.2.2.2.2.1=(aA x)/\List.length x<=4096/\0<=off/\(0<=min n (r.1.2.2.2.2.2.2.2.1 - off)/\min n 
 (r.1.2.2.2.2.2.2.2.1 - off)<=4096)/\(aD .i64 0->List.length (pn n r.1.2.2.2.2.2.2.2.1 off x)<=9223372036854775807->br ((↑(List.length (pn n r.1.2.2.2.2.2.2.2.1 off x)):Int)==min n (r.1.2.2.2.2.2.2.2.1 - off)) (Q Cy [fJ 
 T im s0 s1 s2 s3 s4 s5 s6 s7 s8 s9 pl ids nm,HO.abs R1,HO.abs R2,HO.abs R3,fp (iP M i ref bb r),.sl 5 Ty.u8 (pn n r.1.2.2.2.2.2.2.2.1 off x)]) (Ix r.1.2.2.2.2.2.2.2.1 (aD .i64 (yC off r.1.2.2.2.2.2.2.2.1)/\ 
 (List.length (pn n r.1.2.2.2.2.2.2.2.1 off x)<=9223372036854775807->aD .i64 (min n (r.1.2.2.2.2.2.2.2.1 - off) - (↑(List.length (pn n r.1.2.2.2.2.2.2.2.1 off x)):Int))/\aD .i64 (r.1.2.2.2.2.2.2.2.2.2.1+max (yC off 
 r.1.2.2.2.2.2.2.2.1) ah)/\(dQ T (je im (List.length pl<=100000)))/\∃ a z nx,aoq pl r.1.2.2.2.2.2.2.2.2.1 a/\EG T im a z nx/\0< List.length z/\List.length z<=128/\0<=r.1.2.2.2.2.2.2.2.2.2.1+max (yC off 
 r.1.2.2.2.2.2.2.2.1) ah/\0<=min n (r.1.2.2.2.2.2.2.2.1 - off) - (↑(List.length (pn n r.1.2.2.2.2.2.2.2.1 off x)):Int)/\r.1.2.2.2.2.2.2.2.2.2.1+max (yC off r.1.2.2.2.2.2.2.2.1) ah+(min n (r.1.2.2.2.2.2.2.2.1 - off) - 
 (↑(List.length (pn n r.1.2.2.2.2.2.2.2.1 off x)):Int))<=(aA z)/\(List.length (List.take (ax (min n (r.1.2.2.2.2.2.2.2.1 - off) - (↑(List.length (pn n r.1.2.2.2.2.2.2.2.1 off x)):Int))) (List.drop (CC 
 r.1.2.2.2.2.2.2.2.2.2.1 off r.1.2.2.2.2.2.2.2.1) z))<=9223372036854775807->aD .i64 0->(List.length (pn n r.1.2.2.2.2.2.2.2.1 off x)+List.length (List.take (ax (min n (r.1.2.2.2.2.2.2.2.1 - off) - (↑(List.length (pn n 
 r.1.2.2.2.2.2.2.2.1 off x)):Int))) (List.drop (CC r.1.2.2.2.2.2.2.2.2.2.1 off r.1.2.2.2.2.2.2.2.1) z)))*1<=ck/\List.length (pn n r.1.2.2.2.2.2.2.2.1 off x)+List.length (List.take (ax (min n (r.1.2.2.2.2.2.2.2.1 - 
 off) - (↑(List.length (pn n r.1.2.2.2.2.2.2.2.1 off x)):Int))) (List.drop (CC r.1.2.2.2.2.2.2.2.2.2.1 off r.1.2.2.2.2.2.2.2.1) z))<=9223372036854775807/\Q Cy [fJ T im s0 s1 s2 s3 s4 s5 s6 s7 s8 s9 pl ids nm,HO.abs R1, 
 HO.abs R2,HO.abs R3,fp (iP M i ref bb r),.sl 5 Ty.u8 (List.take (ax (min n (r.1.2.2.2.2.2.2.2.1 - off))) (List.drop (aU off) (List.take (gd*(List.length x / gd)) x))++List.take (ax (min n 
 (r.1.2.2.2.2.2.2.2.1 - off) - (↑(List.length (pn n r.1.2.2.2.2.2.2.2.1 off x)):Int))) (List.drop (CC r.1.2.2.2.2.2.2.2.2.2.1 off r.1.2.2.2.2.2.2.2.1) z))]))))))))))))))
theorem amk:cu 18 anW:=by
 intro args H Q h;obtain ⟨ref,off,n,T,im,s0,s1,s2,s3,s4,s5,s6,s7,s8,s9,pl,ids,nm,R1,R2,R3,M,rfl,rfl,h⟩:=h;refine Wp.kC [some (.sl .u8),none] [5] ?_;refine Wp.dC alu dW ⟨[],[]⟩ Tryz.f18 (Yo ref off n T im s0 s1 s2 s3 s4 s5 s6 s7 s8 s9 pl ids nm R1 R2 R3 M) (clo:=true) ?_;unfold Yo Cy CC iP Ix je pG yC cV dQ kf ck bZ aU aR cz pn ah bF aA gd bI fJ fp;obtain ⟨d,N,x,hd,⟨rfl,rfl,hs,rfl,rfl⟩,⟨⟨p0,Wb,Xp⟩,rT⟩,hx,h⟩:=h;refine λ_ _ _=>⟨⟨p0,Wb,Xp⟩,λi bb r hi _ _=>?_⟩;have hR:=rT i bb r hi;rw [nO hi];have hN:=hR.n;have hmk:=(jS (hd.tok.may x hx)).2;obtain ⟨kd,ekd⟩:∃ a:Int,a=r.1.1:=⟨_,rfl⟩;have Dk:kd=x.2.2.1:=by rw [ekd];exact hN.kind
 
 obtain ⟨sz,esz⟩:∃ a:Int,a=r.1.2.2.2.2.2.2.2.1:=⟨_,rfl⟩;rw [<-ekd,<-esz];have aav:¬(x.2.2.1=2/\0<=off/\0<=n)->rdN x off n= []:=λq=>if_neg q;have qp:x.2.2.1≠1->(x.2.2.1=3\/off< 0\/n< 0)->Zg x off n=1:=λa b=>by unfold Zg;rw [if_neg a,if_pos b]
 refine aq (λq=>?_) (λq1=>?_)
 .have hk:x.2.2.1=1:=Dk.symm.trans (eq_of_beq q);rw [aav (λz=>by rw [hk] at z;exact absurd z.1 (by decide)),show Zg x off n=25 from if_pos hk] at h;exact ⟨aG _,h⟩
 have k1:x.2.2.1≠1:=λe=>by rw [Dk,e] at q1;cases q1
 refine aq (λq=>?_) (λq3=>?_)
 .have hk:x.2.2.1=3:=Dk.symm.trans (eq_of_beq q);rw [aav (λz=>by rw [hk] at z;exact absurd z.1 (by decide)),qp k1 (.inl hk)] at h;exact ⟨aG _,h⟩
 have k3:x.2.2.1≠3:=λe=>by rw [Dk,e] at q3;cases q3
 refine aq (λq=>?_) (λqo=>?_)
 .have q:=of_decide_eq_true q;rw [aav (λz=>by omega),qp k1 (.inr (.inl q))] at h;exact ⟨aG _,h⟩
 have qo:=of_decide_eq_false qo;refine aq (λq=>?_) (λqn=>?_)
 .have q:=of_decide_eq_true q;rw [aav (λz=>by omega),qp k1 (.inr (.inr q))] at h;exact ⟨aG _,h⟩
 have qn:=of_decide_eq_false qn;have hk:x.2.2.1=2:=by
  rcases hmk with e| e| e;exact absurd e k1;exact e;exact absurd e k3
 obtain ⟨fs,f1,f2,f3,f4,f5⟩:=hd.fileAt hx hk hN;have hD:=(oK (hd.tok.may x hx)).2;have e0:Zg x off n=0:=by unfold Zg;rw [if_neg k1,if_neg (by omega)]
 have e1:rdN x off n=(x.2.2.2.2.1.drop off.toNat).take n.toNat:=if_pos ⟨hk,by omega,by omega⟩;rw [e0,e1] at h;have f2:sz=(x.2.2.2.2.1.length:Int):=by rw [esz];exact f2
 clear aav qp e0 e1 hR rT f3 f4;generalize x.2.2.2.2.1=D at*;obtain ⟨o,rfl⟩:∃ o:Nat,off=o:=⟨off.toNat,by omega⟩;obtain ⟨q,rfl⟩:∃ q:Nat,n=q:=⟨n.toNat,by omega⟩;simp only [bM] at h;refine aq (λqs=>?_) (λqs=>?_)
 .have qs:=of_decide_eq_true qs;rw [List.drop_of_length_le (by omega),List.take_nil] at h;exact ⟨aG _,h⟩
 have qs:=of_decide_eq_false qs;obtain ⟨m,hm⟩:∃ m:Nat,m=min q (D.length - o):=⟨_,rfl⟩;have hmi:min (q:Int) (sz - (o:Int))=(m:Int):=by omega
 have hmd:(D.drop o).take q=(D.drop o).take m:=by rw [hm,<-aQ];exact Ve.symm
 rw [hmd] at h;rw [hmi,bM,bM];obtain ⟨c,hc⟩:∃ c,D.length / 128=c:=⟨_,rfl⟩;have hA:=Zd (x:=D) (o:=o) (n:=m) (c:=c) (by omega) (by omega);refine ⟨by unfold aD;omega,rfl,by have:=hd.small.1;omega,D,fs,f1,f2,hD,by omega,⟨by omega,by omega⟩,λ_ _=>?_⟩;rw [hc];have hAl:(((D.take (128*c)).drop o).take m).length=min m (128*c - o):=by rw [aH,aQ,aH];omega
 obtain ⟨B,hB⟩:∃ B,((D.take (128*c)).drop o).take m=B:=⟨_,rfl⟩;rw [hB] at hA hAl;rw [hB];refine aq (λqe=>?_) (λqe=>?_)
 .have qe:B.length=m:=by
   have:=eq_of_beq qe;omega
  rw [qe,Nat.sub_self,List.take_zero,bd] at hA;rw [<-hA] at h;exact ⟨(show 5<=6 by decide),h⟩
 have qe:B.length≠m:=λe=>by rw [e] at qe;simp at qe
 obtain ⟨t,ht⟩:∃ t,D.drop (128*(D.length / 128))=t:=⟨_,rfl⟩;rw [ht] at f5;rw [hc] at ht;have htl:t.length=D.length - 128*c:=by rw [<-ht,aQ]
 rw [ht] at hA;obtain ⟨fo,efo⟩:∃ a:Int,a=r.1.2.2.2.2.2.2.2.2.2.1:=⟨_,rfl⟩;obtain ⟨o0,i,a,z,nx,w1,w2,w3,w4,w5,w6,w7⟩:=hd.ai4 f5 (by omega);rw [<-efo] at o0 w6 w7;rw [<-efo,f2,AS,hc];have mx:max ((o:Int) - (c:Int)*128) 0=((o - 128*c:Nat):Int):=by omega
 rw [mx];have e3:fo+((o - 128*c:Nat):Int)=((fo.toNat+(o - 128*c):Nat):Int):=by omega
 rw [e3];have e4:(m:Int) - (B.length:Int)=((m - B.length:Nat):Int):=by omega
 rw [e4,bM,bM];have hp:=hd.small;refine ⟨by decide,by unfold aD;omega,by unfold aD;omega,by unfold aD;omega,λ_=>⟨by unfold aD;omega,by unfold aD;omega,⟨rfl,by omega,by omega⟩,a,z,nx,⟨⟨i,w1,w2⟩⟩,w3,w4,w5,Int.natCast_nonneg _,by omega,?_,λ_ _=>?_⟩⟩
 .have w6':=w6;have asT:=hAl;clear h hd hN hp hA w7 w3 w2 f5;show ((fo.toNat+(o - 128*c):Nat):Int)+((m - B.length:Nat):Int)<=(z.length:Int);omega
 rw [aek w7 (by omega),hA];refine ⟨?_,?_,(show 5<=6 by decide),h⟩;rw [aH,aQ];omega;rw [aH,aQ];omega
def afM:Ct:=λargs H Q=>∃ (T:List Int) (im:List UInt8) (s0:Int) (s1:Int) (s2:Int) (s3:Int) (s4:Int) (s5:Int) (s6:Int) (s7:Int) (s8:Int) (s9:Int) (pl:List Int) (ids:List Int) (nm:Int) (R1:Value->Atom) (R2:Value->Atom) (R3:Value->Atom) (M:List (Int×Nat×bf.den)),args= [.v (.c (.p 0 0))]/\H= [.cells 90 [.de (.int .u32) T 0 0,.d .u8 im,.k (.int .i64 s0),.k (.int .i64 s1),.k (.int .i64 s2),.k (.int .i64 s3),.k (.int .i64 s4),.k (.int .i64 s5),.k (.int .i64 s6),.k (.int .i64 s7),.k (.int .i64 s8),.k (.int .i64 s9),.d (.int .i64) pl,.d (.int .i64) ids,.p 1 0,.p 2 0,.p 3 0,.m 4,.k (.int .i64 nm)],.abs R1,.abs R2,.abs R3,.ab (.pm 3 82 bf M)]/\Q (.int s9) [.cells 90 [.de (.int .u32) T 0 0,.d .u8 im,.k (.int .i64 s0),.k (.int .i64 s1),.k (.int .i64 s2),.k (.int .i64 s3),.k (.int .i64 s4),.k (.int .i64 s5),.k (.int .i64 s6),.k (.int .i64 s7),.k (.int .i64 s8),.k (.int .i64 s9),.d (.int .i64) pl,.d (.int .i64) ids,.p 1 0,.p 2 0,.p 3 0,.m 4,.k (.int .i64 nm)],.abs R1,.abs R2,.abs R3,.ab (.pm 3 82 bf M)]
def K8 (T:List Int) (im:List UInt8) (s0 s1 s2 s3 s4 s5 s6 s7 s8 s9:Int) (pl ids:List Int) (nm:Int) (R1 R2 R3:Value->Atom) (M:(List (Int×Nat×bf.den))):dx:=λQ=>Q (gF s9) [fJ T im s0 s1 s2 s3 s4 s5 s6 s7 s8 s9 pl ids nm,HO.abs R1,HO.abs R2,HO.abs R3,fp M]
theorem adI:cu 17 afM:=by
 intro args H Q h;obtain ⟨T,im,s0,s1,s2,s3,s4,s5,s6,s7,s8,s9,pl,ids,nm,R1,R2,R3,M,rfl,rfl,h⟩:=h;refine Wp.dC gJ dW ⟨[],[]⟩ Tryz.f17 (K8 T im s0 s1 s2 s3 s4 s5 s6 s7 s8 s9 pl ids nm R1 R2 R3 M) ?_;unfold K8 gF aC fJ fp;exact h
structure MB (A:Value->Atom) (d:IR) (N:List aZ):Prop where
 ok:d.Ok dB N
 tr:uS N
 ex:∃ (s0 s1 s2 s3 s4 s5 s6 s7 s8 s9 nm:Int) (R1 R2 R3:Value->Atom) (M:List (Int×Nat×bf.den)),d.s=(s0,s1,s2,s3,s4,s5,s6,s7,s8,s9,())/\mh d N (mI N 17 0) M/\A=jM [.cells 90 [.de (.int .u32) dB 0 0,.d .u8 (d.im dB),.k (.int .i64 s0),.k (.int .i64 s1),.k (.int .i64 s2),.k (.int .i64 s3),.k (.int .i64 s4),.k (.int .i64 s5),.k (.int .i64 s6),.k (.int .i64 s7),.k (.int .i64 s8),.k (.int .i64 s9),.d (.int .i64) d.pl,.d (.int .i64) d.ids,.p 1 0,.p 2 0,.p 3 0,.m 4,.k (.int .i64 nm)],.abs R1,.abs R2,.abs R3,.ab (.pm 3 82 bf M)]
theorem NQ {T:List Int} {im:List UInt8} {s0 s1 s2 s3 s4 s5 s6 s7 s8 s9 nm:Int} {pl ids:List Int} {R1 R2 R3:Value->Atom} {M:List (Int×Nat×bf.den)} {Q:SV->List HO->Prop} {sv:SV}:uC 0 [1,2,3,4] [0] 1 Q sv [.cells 90 [.de (.int .u32) T 0 0,.d .u8 im,.k (.int .i64 s0),.k (.int .i64 s1),.k (.int .i64 s2),.k (.int .i64 s3),.k (.int .i64 s4),.k (.int .i64 s5),.k (.int .i64 s6),.k (.int .i64 s7),.k (.int .i64 s8),.k (.int .i64 s9),.d (.int .i64) pl,.d (.int .i64) ids,.p 1 0,.p 2 0,.p 3 0,.m 4,.k (.int .i64 nm)],.abs R1,.abs R2,.abs R3,.ab (.pm 3 82 bf M)]=Q (sv.fx (iG [0])) [.abs (jM [.cells 90 [.de (.int .u32) T 0 0,.d .u8 im,.k (.int .i64 s0),.k (.int .i64 s1),.k (.int .i64 s2),.k (.int .i64 s3),.k (.int .i64 s4),.k (.int .i64 s5),.k (.int .i64 s6),.k (.int .i64 s7),.k (.int .i64 s8),.k (.int .i64 s9),.d (.int .i64) pl,.d (.int .i64) ids,.p 1 0,.p 2 0,.p 3 0,.m 4,.k (.int .i64 nm)],.abs R1,.abs R2,.abs R3,.ab (.pm 3 82 bf M)])]:=by kernel_rfl
def aa1:Ct
 | [.v (.c (.p 0 0))],[.abs A],Q=>∃ (d:IR) (N:List aZ),MB A d N/\∀ ref:Int,Kk.get .int d.t.Mr (aB noTy N 0).2.1=some ref->Q (.int ref) [.abs A]
 | _,_,_=>False
theorem MB.root {A:Value->Atom} {d:IR} {N:List aZ} (h:MB A d N):Kk.get .int d.t.Mr (aB noTy N 0).2.1=some d.s.2.2.2.2.2.2.2.2.2.1:=by
 obtain ⟨x0,Ev,e1,_,e3⟩:=h.ok.root;have hp:=h.tr.pos;obtain rfl:=h.ok.tok.uniq Ev (tk (e:=noTy) (bB 0) (by omega)) (e1.trans h.tr.root.1.symm);exact e3
theorem XG:cu 17 aa1:=λargs H Q h=>by
 unfold aa1 at h;split at h
 .obtain ⟨d,N,hM,h⟩:=h;have hr:=hM.root;obtain ⟨s0,s1,s2,s3,s4,s5,s6,s7,s8,s9,nm,R1,R2,R3,M,hs,hV,rfl⟩:=hM.ex;rw [hs] at hr;exact Wp.zt (q:=0) (p:=0) (r:=[1,2,3,4]) (ls:=[0]) (L:=[.cells 90 [.de (.int .u32) dB 0 0,.d .u8 (d.im dB),.k (.int .i64 s0),.k (.int .i64 s1),.k (.int .i64 s2),.k (.int .i64 s3),.k (.int .i64 s4),.k (.int .i64 s5),.k (.int .i64 s6),.k (.int .i64 s7),.k (.int .i64 s8),.k (.int .i64 s9),.d (.int .i64) d.pl,.d (.int .i64) d.ids,.p 1 0,.p 2 0,.p 3 0,.m 4,.k (.int .i64 nm)],.abs R1,.abs R2,.abs R3,.ab (.pm 3 82 bf M)]) rfl (eS _) (adI _ _ _ ⟨_,_,_,_,_,_,_,_,_,_,_,_,_,_,_,_,_,_,_,rfl,rfl,NQ.mpr (h s9 hr)⟩)
 grind
def aaY:Ct
 | [.v (.c (.p 0 0)),.v (.c (.k (.int .i64 ref)))],[.abs A],Q=>∃ (d:IR) (N:List aZ) (x:aZ),MB A d N/\x∈N/\Kk.get .int d.t.Mr x.2.1=some ref/\Q (.cH [.agg [.k (.int .i64 x.2.2.1),.k (.int .i64 x.2.2.2.1.1),.k (.int .i64 x.2.2.2.1.2.1),.k (.int .i64 x.2.2.2.1.2.2.1),.k (.int .i64 (oM N x.2.1:Nat)),.k (.int .i64 (B5 N x))],.c (.k (.int .i64 0))]) [.abs A]
 | _,_,_=>False
theorem ait:cu 16 aaY:=λargs H Q h=>by
 unfold aaY at h;split at h
 .obtain ⟨d,N,x,hM,hx,hg,h⟩:=h;obtain ⟨s0,s1,s2,s3,s4,s5,s6,s7,s8,s9,nm,R1,R2,R3,M,hs,hV,rfl⟩:=hM.ex;have hR:=hV.recAt hM.ok hM.tr.root.1 hM.tr.pos hx hg;exact Wp.zt (q:=0) (p:=0) (r:=[1,2,3,4]) (ls:=[0]) (L:=[.cells 90 [.de (.int .u32) dB 0 0,.d .u8 (d.im dB),.k (.int .i64 s0),.k (.int .i64 s1),.k (.int .i64 s2),.k (.int .i64 s3),.k (.int .i64 s4),.k (.int .i64 s5),.k (.int .i64 s6),.k (.int .i64 s7),.k (.int .i64 s8),.k (.int .i64 s9),.d (.int .i64) d.pl,.d (.int .i64) d.ids,.p 1 0,.p 2 0,.p 3 0,.m 4,.k (.int .i64 nm)],.abs R1,.abs R2,.abs R3,.ab (.pm 3 82 bf M)]) rfl (eS _) (adE _ _ _ ⟨_,_,_,_,_,_,_,_,_,_,_,_,_,_,_,_,_,_,_,_,rfl,rfl,d,N,x,hM.ok,by grind,hR,hx,NQ.mpr (h)⟩)
 grind
def JX:Ct
 | [.v (.c (.p 0 0)),.v (.c (.k (.int .i64 ref)))],[.abs A],Q=>∃ (d:IR) (N:List aZ) (x:aZ),MB A d N/\x∈N/\Kk.get .int d.t.Mr x.2.1=some ref/\∀ es e,HI d N x es e->Q (.cH [.c (.d cw es),.c (.k (.int .i64 e))]) [.abs A]
 | _,_,_=>False
theorem XV:cu 13 JX:=λargs H Q h=>by
 unfold JX at h;split at h
 .obtain ⟨d,N,x,hM,hx,hg,h⟩:=h;obtain ⟨s0,s1,s2,s3,s4,s5,s6,s7,s8,s9,nm,R1,R2,R3,M,hs,hV,rfl⟩:=hM.ex;have hR:=hV.recAt hM.ok hM.tr.root.1 hM.tr.pos hx hg;exact Wp.zt (q:=0) (p:=0) (r:=[1,2,3,4]) (ls:=[0]) (L:=[.cells 90 [.de (.int .u32) dB 0 0,.d .u8 (d.im dB),.k (.int .i64 s0),.k (.int .i64 s1),.k (.int .i64 s2),.k (.int .i64 s3),.k (.int .i64 s4),.k (.int .i64 s5),.k (.int .i64 s6),.k (.int .i64 s7),.k (.int .i64 s8),.k (.int .i64 s9),.d (.int .i64) d.pl,.d (.int .i64) d.ids,.p 1 0,.p 2 0,.p 3 0,.m 4,.k (.int .i64 nm)],.abs R1,.abs R2,.abs R3,.ab (.pm 3 82 bf M)]) rfl (eS _) (Rg _ _ _ ⟨_,_,_,_,_,_,_,_,_,_,_,_,_,_,_,_,_,_,_,_,rfl,rfl,d,N,x,hM.ok,by grind,hR,hx,by assumption⟩)
 grind
def aa7:Ct
 | [.v (.c (.p 0 0)),.v (.c (.k (.int .i64 ref))),.v (.c (.k (.string s)))],[.abs A],Q=>∃ (d:IR) (N:List aZ) (x:aZ),MB A d N/\x∈N/\Kk.get .int d.t.Mr x.2.1=some ref/\∀ v e,ade d N x s v e->Q (.cH [.agg (cw.cells v),.c (.k (.int .i64 e))]) [.abs A]
 | _,_,_=>False
theorem aiD:cu 263 aa7:=λargs H Q h=>by
 unfold aa7 at h;split at h
 .obtain ⟨d,N,x,hM,hx,hg,h⟩:=h;obtain ⟨s0,s1,s2,s3,s4,s5,s6,s7,s8,s9,nm,R1,R2,R3,M,hs,hV,rfl⟩:=hM.ex;have hR:=hV.recAt hM.ok hM.tr.root.1 hM.tr.pos hx hg;exact Wp.zt (q:=0) (p:=0) (r:=[1,2,3,4]) (ls:=[0]) (L:=[.cells 90 [.de (.int .u32) dB 0 0,.d .u8 (d.im dB),.k (.int .i64 s0),.k (.int .i64 s1),.k (.int .i64 s2),.k (.int .i64 s3),.k (.int .i64 s4),.k (.int .i64 s5),.k (.int .i64 s6),.k (.int .i64 s7),.k (.int .i64 s8),.k (.int .i64 s9),.d (.int .i64) d.pl,.d (.int .i64) d.ids,.p 1 0,.p 2 0,.p 3 0,.m 4,.k (.int .i64 nm)],.abs R1,.abs R2,.abs R3,.ab (.pm 3 82 bf M)]) rfl (eS _) (adX _ _ _ ⟨_,_,_,_,_,_,_,_,_,_,_,_,_,_,_,_,_,_,_,_,_,rfl,rfl,d,N,x,hM.ok,by grind,hR,hx,by assumption⟩)
 grind
def ahd:Ct
 | [.v (.c (.p 0 0)),.v (.c (.k (.int .i64 ref)))],[.abs A],Q=>∃ (d:IR) (N:List aZ) (x:aZ),MB A d N/\x∈N/\Kk.get .int d.t.Mr x.2.1=some ref/\Q (.cH [.c (.d cZ x.2.2.2.2.2.2.1),.c (.k (.int .i64 0))]) [.abs A]
 | _,_,_=>False
theorem ami:cu 20 ahd:=λargs H Q h=>by
 unfold ahd at h;split at h
 .obtain ⟨d,N,x,hM,hx,hg,h⟩:=h;obtain ⟨s0,s1,s2,s3,s4,s5,s6,s7,s8,s9,nm,R1,R2,R3,M,hs,hV,rfl⟩:=hM.ex;have hR:=hV.recAt hM.ok hM.tr.root.1 hM.tr.pos hx hg;exact Wp.zt (q:=0) (p:=0) (r:=[1,2,3,4]) (ls:=[0]) (L:=[.cells 90 [.de (.int .u32) dB 0 0,.d .u8 (d.im dB),.k (.int .i64 s0),.k (.int .i64 s1),.k (.int .i64 s2),.k (.int .i64 s3),.k (.int .i64 s4),.k (.int .i64 s5),.k (.int .i64 s6),.k (.int .i64 s7),.k (.int .i64 s8),.k (.int .i64 s9),.d (.int .i64) d.pl,.d (.int .i64) d.ids,.p 1 0,.p 2 0,.p 3 0,.m 4,.k (.int .i64 nm)],.abs R1,.abs R2,.abs R3,.ab (.pm 3 82 bf M)]) rfl (eS _) (ain _ _ _ ⟨_,_,_,_,_,_,_,_,_,_,_,_,_,_,_,_,_,_,_,_,rfl,rfl,d,N,x,hM.ok,by grind,hR,hx,NQ.mpr (h)⟩)
 grind
def anX:Ct
 | [.v (.c (.p 0 0)),.v (.c (.k (.int .i64 ref))),.v (.c (.k (.int .i64 off))),.v (.c (.k (.int .i64 n)))],[.abs A],Q=>∃ (d:IR) (N:List aZ) (x:aZ),MB A d N/\x∈N/\Kk.get .int d.t.Mr x.2.1=some ref/\Q (.cH [.c (.d .u8 (rdN x off n)),.c (.k (.int .i64 (Zg x off n)))]) [.abs A]
 | _,_,_=>False
theorem apf:cu 18 anX:=λargs H Q h=>by
 unfold anX at h;split at h
 .obtain ⟨d,N,x,hM,hx,hg,h⟩:=h;obtain ⟨s0,s1,s2,s3,s4,s5,s6,s7,s8,s9,nm,R1,R2,R3,M,hs,hV,rfl⟩:=hM.ex;have hR:=hV.recAt hM.ok hM.tr.root.1 hM.tr.pos hx hg;exact Wp.zt (q:=0) (p:=0) (r:=[1,2,3,4]) (ls:=[0]) (L:=[.cells 90 [.de (.int .u32) dB 0 0,.d .u8 (d.im dB),.k (.int .i64 s0),.k (.int .i64 s1),.k (.int .i64 s2),.k (.int .i64 s3),.k (.int .i64 s4),.k (.int .i64 s5),.k (.int .i64 s6),.k (.int .i64 s7),.k (.int .i64 s8),.k (.int .i64 s9),.d (.int .i64) d.pl,.d (.int .i64) d.ids,.p 1 0,.p 2 0,.p 3 0,.m 4,.k (.int .i64 nm)],.abs R1,.abs R2,.abs R3,.ab (.pm 3 82 bf M)]) rfl (eS _) (amk _ _ _ ⟨_,_,_,_,_,_,_,_,_,_,_,_,_,_,_,_,_,_,_,_,_,_,rfl,rfl,d,N,x,hM.ok,by grind,hR,hx,NQ.mpr (h)⟩)
 grind
theorem akk {T:List Int} {im:List UInt8} {s0 s1 s2 s3 s4 s5 s6 s7 s8 s9 nm:Int} {pl ids:List Int} {R1 R2 R3:Value->Atom} {M:List (Int×Nat×bf.den)} {Q:SV->List HO->Prop} {sv:SV}:uC 0 [1,2,3,4] [0] 0 Q sv [.cells 90 [.de (.int .u32) T 0 0,.d .u8 im,.k (.int .i64 s0),.k (.int .i64 s1),.k (.int .i64 s2),.k (.int .i64 s3),.k (.int .i64 s4),.k (.int .i64 s5),.k (.int .i64 s6),.k (.int .i64 s7),.k (.int .i64 s8),.k (.int .i64 s9),.d (.int .i64) pl,.d (.int .i64) ids,.p 1 0,.p 2 0,.p 3 0,.m 4,.k (.int .i64 nm)],.abs R1,.abs R2,.abs R3,.ab (.pm 3 82 bf M)]=Q (sv.fx (iG [0])) [.abs (jM [.cells 90 [.de (.int .u32) T 0 0,.d .u8 im,.k (.int .i64 s0),.k (.int .i64 s1),.k (.int .i64 s2),.k (.int .i64 s3),.k (.int .i64 s4),.k (.int .i64 s5),.k (.int .i64 s6),.k (.int .i64 s7),.k (.int .i64 s8),.k (.int .i64 s9),.d (.int .i64) pl,.d (.int .i64) ids,.p 1 0,.p 2 0,.p 3 0,.m 4,.k (.int .i64 nm)],.abs R1,.abs R2,.abs R3,.ab (.pm 3 82 bf M)])]:=by kernel_rfl
def T7:Ct
 | [.v (.c cim)],[],Q=>(match (Ty.sl Ty.u8).of [cim] with
  | some (im,[])=>∃ (N:List aZ) (d:IR),uS N/\d.Ok dB N/\im=d.im dB/\∀ A,MB A d N->Q (.cH [.c (.p 0 0),.c (.k (.int .i64 0))]) [.abs A]
  | _=>False)
 | _,_,_=>False
theorem adV:cu 27 T7:=λargs H Q h=>by
 unfold T7 at h;split at h
 .rename_i cim;cases hq:(Ty.sl Ty.u8).of [cim] with
  | none=>grind
  | some p=>
   obtain ⟨im,r⟩:=p;rw [hq] at h;cases r with
   | cons a r=>grind
   | nil=>
    obtain ⟨N,d,tr,hd,e,h⟩:=h;refine Wp.ZN (p:=0) (r:=[1,2,3,4]) (ls:=[0]) (XT _ _ _ ?_);unfold DK;simp only [hq];exact ⟨N,d,tr,hd,e,λA1 A2 A3 M h1 h2 h3 hV=>akk.mpr (h _ ⟨hd,tr,_,_,_,_,_,_,_,_,_,_,_,A1,A2,A3,M,rfl,hV,rfl⟩)⟩
 grind
def akG:Ct:=cD noTy λl=>c0 λQ=>(l.length:Int)<=40/\br (dv l !=0) (Q (.cH [.c (.k (.pointer none)),.c (.k (.int .i64 (dv l)))]) []) (∀ A d N,ada l N->MB A d N->Q (.cH [.c (.p 0 0),.c (.k (.int .i64 0))]) [.abs A])
def als:=(gJ.add ad9).add adV
def RR (l:(List (noTy).den)):dx:=λQ=>dG l ((aA l)<=(40:Int)/\br (dv l !=0) (bx<=eU->aD .i64 (dv l)->br (dv l !=0) (Q (.cH [.c (.k (.pointer none)),.c (.k (.int .i64 (dv l)))]) []) (∃ N d,uS N/\IR.Ok d dB N/\ []=IR.im d 
 dB/\∀ (A:Value->Atom),MB A d N->aD .i64 0->Q yy [HO.abs A])) (∀ (L':List aZ) (im:List UInt8),List.Perm L' l->oG L' (UG im (bJ L' [])->db im (aD .i64 0->∃ N d,uS N/\IR.Ok d dB N/\im=IR.im d 
 dB/\∀ (A:Value->Atom),MB A d N->aD .i64 0->Q yy [HO.abs A]))))
theorem XN:cu 10 akG:=eQ<| jm λl=>gM λQ h=>by
 refine Wp.dC als dW ⟨[],[]⟩ Tryz.f10 (RR l) ?_;unfold RR yy oG db dG eU aR aA aJ bx;obtain ⟨hl,h⟩:=h;refine λ_=>⟨hl,aq (λq=>λ_ _=>?_) (λq=>λL' im hp ho hI _ _=>?_)⟩;rw [q] at h ⊢;exact h
 .rw [q] at h;obtain ⟨d,hd,rfl⟩:=hI.ex;have O:=aeL (L4 (show dv l=0 by simpa using q)) hp ho;exact ⟨bJ L' [],d,O.tr,hd,rfl,λA hA _=>h A d _ O hA⟩
structure agj (d:IR) (N:List aZ) (p:List ByteArray) (ref:Int):Prop where
 ok:nw N (aB noTy N 0) p=0->∃ y∈N,y.1=p/\Kk.get .int d.t.Mr y.2.1=some ref
theorem afk {N:List aZ} {x:aZ} {s:ByteArray} {r:List ByteArray} (h:mz N x s≠0):nw N x (s::r)=mz N x s:=by
 grind [nw, mz]
theorem akh {N:List aZ} {x y:aZ} {s:ByteArray} {r:List ByteArray} (h:mz N x s=0) (hf:TE N (x.1++ [s])=some y):nw N x (s::r)=nw N y r:=by
 grind [mz, nw]
def Ug:Ct
 | [.v (.c (.ue 25 (.p 0 0))),.v (.c cp)],[.abs A],Q=>(match (Ty.sl Ty.str).of [cp] with
  | some (p,[])=>∃ d N,MB A d N/\∀ ref,agj d N p ref->Q (.cH [.c (.k (.int .i64 ref)),.c (.k (.int .i64 (nw N (aB noTy N 0) p)))]) [.abs A]
  | _=>False)
 | _,_,_=>False
def alr:=(gJ.add XG).add aiD
abbrev oA (y0):=aB noTy y0 ah
def LD (p:(List (Ty.str).den)) (A:Value->Atom):dx:=λQ=>mM p (∃ d N,MB A d N/\∀ (ref:Int),Kk.get Kk.int d.t.Mr (oA N).2.1=some ref->aD .i64 ref->aJ (List.length p)->aM (λi ag=>br (decide (i.1.1< (aA p))) (0<=i.1.1/\i.1.1< (aA p)/\(Ty.ok Ty.str 
 (iz p i.1.1)->∃ d N x,MB i.2.1 d N/\x∈N/\Kk.get Kk.int d.t.Mr x.2.1=some i.1.2.1/\∀ (v:Ty.den cw) (e:Int),ade d N x (iz p i.1.1) v e->du v.1 (cz v.2.1 v.2.2.1 e (br (e !=0) (Q (.cH [.c (.k aR),.c (.k 
 (aC e))]) [HO.abs i.2.1]) (cF i.1.1 (ag ((i.1.1+1,v.2.2),i.2))))))) (Q (.cH [.c (.k (aC i.1.2.1)),.c (.k aR)]) [HO.abs i.2.1])) ((ah,ref,()),A,()))
theorem ad7:cu 11 Ug:=by
 intro args H Q h;unfold Ug at h;split at h;rotate_left;cases h;rename_i cp A;split at h;rotate_left;cases h;rename_i p hp;refine Wp.said (args':=[.v (.c (.ue 25 (.p 0 0))),.c (.d Ty.str p)]) (λE g=>bm.cr (λ_ h=>h) (bm.cr (dH hp) (λ_ h=>h))) ?_;clear hp;refine Wp.dC alr dW ⟨[(4,⟨[(15,.int .i64),(6,.int .i64)],[(0,.abs)]⟩)],[]⟩ Tryz.f11 (LD p A) ?_;unfold LD oA iz mM du cF aR cz aC ah aA aJ;obtain ⟨d,N,hM,h⟩:=h;have r1:=hM.tr.root.1;have hp:=hM.tr.pos;refine λ_=>⟨d,N,hM,λr0 Nx _ _=>aM.intro (λi=>i.2.1=A/\0<=i.1.1/\i.1.1<=p.length/\∃ x∈N,x.1=p.take i.1.1.toNat/\Kk.get .int d.t.Mr x.2.1=some i.1.2.1/\nw N x (p.drop i.1.1.toNat)=nw N (aB noTy N 0) p) (λi=>p.length - i.1.1.toNat) ⟨rfl,bB _,by simp,aB noTy N 0,tk (e:=noTy) (bB 0) (by omega),r1,Nx,rfl⟩ ?_⟩;rintro ⟨⟨i,rf,_⟩,A1,_⟩ ⟨e,i0,i1,x,hx,hx1,hx2,hx3⟩;simp only at e i0 i1 hx1 hx2 hx3 ⊢;subst e;refine aq (λhc=>?_) (λhc=>?_)
 .have hc:=of_decide_eq_true hc;refine ⟨i0,hc,λ_=>⟨d,N,x,hM,hx,hx2,λv e hL _ _ _ _=>?_⟩⟩;rw [dc (e:=.str) i0 hc] at hx3;have ht:=mq (e:=.str) i0 hc;obtain ⟨s,es⟩:∃ s,aB .str p i=s:=⟨_,rfl⟩;rw [es] at hx3 hL ht;have hE:=hL.eq;refine aq (λq=>?_) (λq=>?_)
  .have he:e≠0:=by simpa using q
   have hz:nw N (aB noTy N 0) p=e:=by rw [<-hx3,afk (by rw [<-hE];exact he),hE]
   have:=h 0 ⟨λz=>absurd (hz.symm.trans z) he⟩;rw [hz] at this;exact this
  .have he:e=0:=by simpa using q
   obtain ⟨y,hy,y1,y2⟩:=hL.ok he;have hf:TE N (x.1++ [s])=some y:=by rw [<-y1];exact aaD hM.ok.tok hy
   rw [akh (by rw [<-hE];exact he) hf] at hx3;exact ⟨by unfold aD;omega,⟨rfl,by omega,by omega,y,hy,by rw [y1,hx1,ht],y2.ref,hx3⟩,by omega⟩
 .have hc:=of_decide_eq_false hc;rw [dj hc] at hx3;have hz:nw N (aB noTy N 0) p=0:=hx3.symm;have:=h rf ⟨λ_=>⟨x,hx,by rw [hx1,aT (by omega)],hx2⟩⟩;rw [hz] at this;exact this
abbrev xV:List Sh:=[.d .str,.int .i64,.int .i64,.int .i64,.int .i64,.int .i64,.d .u8,.str,.d cZ,.bool]
def aoa:Ct:=cD noTy λl=>c0 λQ=>Q (.c (.o 0)) [.sl 38 noTy ((l.take 40).map TQ)]
def YB (l:(List (noTy).den)):dx:=λQ=>dG l (aM (λi ag=>dG l (br (eH i.1.1 l) (br (decide (i.1.1< 40)) (dz i.1.1 l (dY l i.1.1 (cG (λk=>List.length (cn l i.1.1).1<=9223372036854775807->br (decide ((gR l i.1.1)>(18:Int))) 
 (ah<=(18:Int)/\(18:Int)<=(gR l i.1.1)/\k ((),(List.take (18:Nat) (cn l i.1.1).1,(cn l i.1.1).2.1,(cn l i.1.1).2.2.1,(cn l i.1.1).2.2.2.1.1,(cn l i.1.1).2.2.2.1.2.1,(cn l i.1.1).2.2.2.1.2.2.1,(cn l 
 i.1.1).2.2.2.2.1,(cn l i.1.1).2.2.2.2.2.1,(cn l i.1.1).2.2.2.2.2.2.1,(cn l i.1.1).2.2.2.2.2.2.2.1,()),())) (k ((),((cn l i.1.1).1,(cn l i.1.1).2.1,(cn l i.1.1).2.2.1,(cn l i.1.1).2.2.2.1.1,(cn l 
 i.1.1).2.2.2.1.2.1,(cn l i.1.1).2.2.2.1.2.2.1,(cn l i.1.1).2.2.2.2.1,(cn l i.1.1).2.2.2.2.2.1,(cn l i.1.1).2.2.2.2.2.2.1,(cn l i.1.1).2.2.2.2.2.2.2.1,()),()))) λbE=>cG (λk=>fC bE.2.1.2.2.2.2.2.2.1 (br 
 (decide ((aS bE.2.1.2.2.2.2.2.2.1)>(1500:Int))) (ah<=(1500:Int)/\(1500:Int)<=(aS bE.2.1.2.2.2.2.2.2.1)/\k ((),(bE.2.1.1,bE.2.1.2.1,bE.2.1.2.2.1,bE.2.1.2.2.2.1,bE.2.1.2.2.2.2.1,bE.2.1.2.2.2.2.2.1,List.take 
 (1500:Nat) bE.2.1.2.2.2.2.2.2.1,bE.2.1.2.2.2.2.2.2.2.1,bE.2.1.2.2.2.2.2.2.2.2.1,bE.2.1.2.2.2.2.2.2.2.2.2.1,()),())) (k ((),(bE.2.1.1,bE.2.1.2.1,bE.2.1.2.2.1,bE.2.1.2.2.2.1,bE.2.1.2.2.2.2.1,bE.2.1.2.2.2.2.2.1, 
 bE.2.1.2.2.2.2.2.2.1,bE.2.1.2.2.2.2.2.2.2.1,bE.2.1.2.2.2.2.2.2.2.2.1,bE.2.1.2.2.2.2.2.2.2.2.2.1,()),())))) λkH=>cG (λk=>fC kH.2.1.2.2.2.2.2.2.2.2.1 (br (decide ((aS kH.2.1.2.2.2.2.2.2.2.2.1)>(10:Int))) 
 (ah<=(10:Int)/\(10:Int)<=(aS kH.2.1.2.2.2.2.2.2.2.2.1)/\k ((),(kH.2.1.1,kH.2.1.2.1,kH.2.1.2.2.1,kH.2.1.2.2.2.1,kH.2.1.2.2.2.2.1,kH.2.1.2.2.2.2.2.1,kH.2.1.2.2.2.2.2.2.1,kH.2.1.2.2.2.2.2.2.2.1,List.take (10: 
 Nat) kH.2.1.2.2.2.2.2.2.2.2.1,kH.2.1.2.2.2.2.2.2.2.2.2.1,()),())) (k ((),(kH.2.1.1,kH.2.1.2.1,kH.2.1.2.2.1,kH.2.1.2.2.2.1,kH.2.1.2.2.2.2.1,kH.2.1.2.2.2.2.2.1,kH.2.1.2.2.2.2.2.2.1,kH.2.1.2.2.2.2.2.2.2.1, 
 kH.2.1.2.2.2.2.2.2.2.2.1,kH.2.1.2.2.2.2.2.2.2.2.2.1,()),())))) λjU=>(List.length i.1.2.1+List.length [(jU.2.1.1,jU.2.1.2.1,jU.2.1.2.2.1,(jU.2.1.2.2.2.1,jU.2.1.2.2.2.2.1,jU.2.1.2.2.2.2.2.1,()),jU.2.1.2.2.2.2.2.2.1, 
 jU.2.1.2.2.2.2.2.2.2.1,jU.2.1.2.2.2.2.2.2.2.2.1,jU.2.1.2.2.2.2.2.2.2.2.2.1,())])*136<=ck/\List.length i.1.2.1+List.length [(jU.2.1.1,jU.2.1.2.1,jU.2.1.2.2.1,(jU.2.1.2.2.2.1,jU.2.1.2.2.2.2.1,jU.2.1.2.2.2.2.2.1,()), 
 jU.2.1.2.2.2.2.2.2.1,jU.2.1.2.2.2.2.2.2.2.1,jU.2.1.2.2.2.2.2.2.2.2.1,jU.2.1.2.2.2.2.2.2.2.2.2.1,())]<=9223372036854775807/\cF i.1.1 (ag ((i.1.1+1,i.1.2.1++ [(jU.2.1.1,jU.2.1.2.1,jU.2.1.2.2.1,(jU.2.1.2.2.2.1, 
 jU.2.1.2.2.2.2.1,jU.2.1.2.2.2.2.2.1,()),jU.2.1.2.2.2.2.2.2.1,jU.2.1.2.2.2.2.2.2.2.1,jU.2.1.2.2.2.2.2.2.2.2.1,jU.2.1.2.2.2.2.2.2.2.2.2.1,())],()),()))))) (Q fh [.sl 38 noTy i.1.2.1])) (Q fh [.sl 38 noTy i.1.2.1]))) 
 ((ah,[],()),()))
theorem amx:cu 9 aoa:=eQ<| jm λl=>gM λQ h=>by
 refine Wp.dC gJ dW ⟨[(4,⟨[(4,.int .i64),(3,.own 38 noTy)],[]⟩)],[(9,⟨[],[(2,.cells 38 xV)]⟩),(11,⟨[],[(2,.cells 38 xV)]⟩),(13,⟨[],[(2,.cells 38 xV)]⟩)]⟩ Tryz.f9 (YB l) ?_;unfold YB dY fh eH dz cF fC cn dG gR ck ah aS aA;intro hl0;refine aM.intro (λi=>0<=i.1.1/\i.1.1<=l.length/\i.1.1<=40/\i.1.2.1=(l.take i.1.1.toNat).map TQ) (λi=>l.length - i.1.1.toNat) ⟨by simp,by simp,by simp,by simp⟩ ?_;rintro ⟨⟨i,out,_⟩,_⟩ ⟨h0,h1,h2,h3⟩;simp only at h0 h1 h2 h3 ⊢;intro _;have fin:¬(i< l.length/\i< 40)->Q (.c (.o 0)) [.sl 38 noTy out]:=λhn=>by
  have:l.take i.toNat=l.take 40:=by
   by_cases h4:i< l.length
   .have:i=40:=by omega
    subst this;rfl
   .rw [aT (by omega),aT (by omega)]
  rw [h3,this];exact h
 refine aq (λhc=>aq (λzc=>?_) (λzc=>fin ?_)) (λhc=>fin ?_)
 .have hc:i< l.length:=by simpa using hc
  have zc:i< 40:=by simpa using zc
  refine ⟨h0,hc,λ_=>?_⟩;have ht:=mq (e:=noTy) h0 hc;generalize aB noTy l i=x at ht ⊢;refine cG.intro (λk=>k.2.1=(x.1.take 18,x.2.1,x.2.2.1,x.2.2.2.1.1,x.2.2.2.1.2.1,x.2.2.2.1.2.2.1,x.2.2.2.2.1,x.2.2.2.2.2.1,x.2.2.2.2.2.2.1,x.2.2.2.2.2.2.2.1,())) ?_ ?_
  .intro _;refine aq (λh4=>?_) (λh4=>?_)
   .have h4:(18:Int)< x.1.length:=by simpa using h4
    exact ⟨by decide,by omega,rfl⟩
   .have h4:¬(18:Int)< x.1.length:=by simpa using h4
    have h5:x.1.take 18=x.1:=aT (by omega);simp [h5]
  rintro ⟨_,k1,_⟩ hk;simp only at hk;subst hk;dsimp only;refine cG.intro (λk=>k.2.1=(x.1.take 18,x.2.1,x.2.2.1,x.2.2.2.1.1,x.2.2.2.1.2.1,x.2.2.2.1.2.2.1,x.2.2.2.2.1.take 1500,x.2.2.2.2.2.1,x.2.2.2.2.2.2.1,x.2.2.2.2.2.2.2.1,())) ?_ ?_
  .intro _;refine aq (λh4=>?_) (λh4=>?_)
   .have h4:(1500:Int)< x.2.2.2.2.1.length:=by simpa using h4
    exact ⟨by decide,by omega,rfl⟩
   .have h4:¬(1500:Int)< x.2.2.2.2.1.length:=by simpa using h4
    have h5:x.2.2.2.2.1.take 1500=x.2.2.2.2.1:=aT (by omega);simp [h5]
  rintro ⟨_,k1,_⟩ hk;simp only at hk;subst hk;dsimp only;refine cG.intro (λk=>k.2.1=(x.1.take 18,x.2.1,x.2.2.1,x.2.2.2.1.1,x.2.2.2.1.2.1,x.2.2.2.1.2.2.1,x.2.2.2.2.1.take 1500,x.2.2.2.2.2.1,x.2.2.2.2.2.2.1.take 10,x.2.2.2.2.2.2.2.1,())) ?_ ?_
  .intro _;refine aq (λh4=>?_) (λh4=>?_)
   .have h4:(10:Int)< x.2.2.2.2.2.2.1.length:=by simpa using h4
    exact ⟨by decide,by omega,rfl⟩
   .have h4:¬(10:Int)< x.2.2.2.2.2.2.1.length:=by simpa using h4
    have h5:x.2.2.2.2.2.2.1.take 10=x.2.2.2.2.2.2.1:=aT (by omega);simp [h5]
  rintro ⟨_,k1,_⟩ hk;simp only at hk;subst hk;dsimp only;have hlen:out.length=i.toNat:=by rw [h3,bR,aH];omega
  refine ⟨by simp only [av,aO,hlen];omega,by simp only [av,aO,hlen];omega,by unfold aD;omega,⟨by omega,by omega,by omega,?_⟩,by omega⟩;rw [ht,jc,<-h3];rfl
 .have:¬i< 40:=by simpa using zc
  omega
 .have:¬i< l.length:=by simpa using hc
  omega
abbrev YU:List aZ:=[([],(1:Int),(1:Int),((0:Int),(0:Int),(0:Int),()),[],⟨#[]⟩,[],false,()),([⟨#[97]⟩],(2:Int),(2:Int),((0:Int),(0:Int),(0:Int),()),[],⟨#[]⟩,[],false,())]
theorem xU {N:List aZ} {d:IR} (O:ada YU N) (hd:d.Ok dB N):nw N (aB noTy N 0) [⟨#[97]⟩]=0/\nw N (aB noTy N 0) [⟨#[97]⟩,⟨#[98]⟩]=24/\nw N (aB noTy N 0) [⟨#[98]⟩]=20:=by
 obtain ⟨r1,r2,_⟩:=O.tr.root;obtain ⟨x,hx,x1,x2⟩:=O.to _ (aF _ aK:([⟨#[97]⟩],(2:Int),(2:Int),((0:Int),(0:Int),(0:Int),()),([]:List UInt8),⟨#[]⟩,[],false,())∈YU);have x1:x.1= [⟨#[97]⟩]:=x1;have hf:TE N ((aB noTy N 0).1++ [⟨#[97]⟩])=some x:=by rw [r1,hU,<-x1];exact aaD hd.tok hx
 have hn:TE N ((aB noTy N 0).1++ [⟨#[98]⟩])=none:=xj.2 λy hy e=>by
  obtain ⟨z,hz,z1,_⟩:=O.of y hy
  grind
 grind [nw]
def afK:Ct:=c0 λQ=>Q (.bool true) []
def alq:=(gJ.add XN).add ad7
def K6:dx:=
 λQ=>(↑a8:Int)<=(40:Int)/\∀ (A:Value->Atom) (d:IR) (N:List aZ),ada [(([]:List ByteArray),aV,aV,(ah,ah,ah,()),[],ByteArray.mk #[],[],false,()),([ByteArray.mk #[(97:UInt8)]],dw,dw, 
 (ah,ah,ah,()),[],ByteArray.mk #[],[],false,())] N->MB A d N->aD .i64 0->∃ d N,MB A d N/\∀ (ref:Int),agj d N [ByteArray.mk #[(97:UInt8)]] ref->aD .i64 ref->aD .i64 (nw N (oA N) [ByteArray.mk #[(97: 
 UInt8)]])->∃ d N_1,MB A d N_1/\∀ (ref:Int),agj d N_1 [ByteArray.mk #[(97:UInt8)],ByteArray.mk #[(98:UInt8)]] ref->aD .i64 ref->aD .i64 (nw N_1 (oA N_1) [ByteArray.mk #[(97:UInt8)],ByteArray.mk #[(98:UInt8)]])->∃ 
 d N_2,MB A d N_2/\∀ (ref:Int),agj d N_2 [ByteArray.mk #[(98:UInt8)]] ref->aD .i64 ref->aD .i64 (nw N_2 (oA N_2) [ByteArray.mk #[(98:UInt8)]])->br (nw N (oA N) [ByteArray.mk #[(97:UInt8)]]==0) (br (nw N_1 
 (oA N_1) [ByteArray.mk #[(97:UInt8)],ByteArray.mk #[(98:UInt8)]]==24) (Q (.v (.c (.k (.bool (nw N_2 (oA N_2) [ByteArray.mk #[(98:UInt8)]]==20))))) []) (bc Q)) (bc Q)
theorem adG:cu 8 afK:=eQ<| gM λQ h=>by
 refine Wp.dC alq dW ⟨[],[]⟩ Tryz.f8 K6 (hold:=[10,11]) ?_;unfold K6 oA bc iX ah aV dw a8;refine ⟨by decide,λA d N O hM _=>?_⟩;have e1:nw N (aB noTy N 0) [⟨#[97]⟩]=0:=(xU O hM.ok).1;have e2:nw N (aB noTy N 0) [⟨#[97]⟩,⟨#[98]⟩]=24:=(xU O hM.ok).2.1;have e3:nw N (aB noTy N 0) [⟨#[98]⟩]=20:=(xU O hM.ok).2.2;refine ⟨d,N,hM,λ_ _ _ _=>⟨d,N,hM,λ_ _ _ _=>⟨d,N,hM,λ_ _ _ _=>?_⟩⟩⟩;rw [e1,e2,e3];exact h
end Go.Proofs

namespace Go.Lm
open Go
variable {F N:List aZ} {ids:List Int} {G:List (Int×eC.den)}
variable {p:List ByteArray} {K L:List Int} {i k:Int}
end Go.Lm

namespace Go.Lm
open Go
variable {N:List aZ} {ids:List Int} {F:List (Int×eC.den)}
theorem N0:∀ {p q:List ByteArray} (x y:List ByteArray),p.length=q.length->cmpL p q< 0->cmpL (p++x) (q++y)< 0
 | [],[],_,_,_,h=>absurd h (by decide)
 | [],_::_,_,_,h,_=>by cases h
 | _::_,[],_,_,h,_=>by cases h
 | a::p,b::q,x,y,hl,h=>by
  rw [n5] at h;rw [dV,dV,n5];by_cases e:fK a b=0
  .rw [if_pos e] at h ⊢;exact N0 x y (by simpa using hl) h
  .rw [if_neg e] at h ⊢;exact h
theorem aaR (t:sa N ids F) {a b:Int} (a0:0<=a) (a1:a< (N.length:Int)) (b0:0<=b) (b1:b< (N.length:Int)) (h:cmpL (aB noTy N a).1 (aB noTy N b).1< 0):a< b:=by
 rw [ff (e:=noTy) a0 a1,ff (e:=noTy) b0 b1] at h;have P:=cQ.1 t.ord
 grind [ju, ru]
theorem I0 {p:List ByteArray} {y:aZ} (h:pre p y):y.1=p++y.1.drop p.length:=by
 conv=>lhs;rw [<-bX p.length y.1]
 rw [show y.1.take p.length=p from h]
theorem Rw (t:sa N ids F):∀ (n:Nat) {k:Int},0<=k->k< (N.length:Int)->17<=(aB noTy N k).1.length+n->(mI N n k).Pairwise λa b=>a< b
 | 0,_,_,_,_=>List.Pairwise.nil
 | n+1,k,k0,k1,hn=>by
  refine eY.2 ⟨λj hj=>?_,List.pairwise_flatMap.2 ⟨λa ha=>?_,(nV _).imp_of_mem λ{a b} ha hb hab x hx y hy=>?_⟩⟩
  .obtain ⟨a,ha,hj⟩:=List.mem_flatMap.1 hj;obtain ⟨a0,a1,al,ap⟩:=eJ ha;obtain ⟨j0,j1,jp⟩:=(mi t n a0 a1 (by omega) j).1 hj;have hp:=yP (by omega) ap jp;have hl:=wN jp;refine aaR t k0 k1 j0 j1 ?_;rw [I0 hp];cases hd:(aB noTy N j).1.drop (aB noTy N k).1.length with
   | nil=>
    grind
   | cons s q=>simp [N1]
  .obtain ⟨a0,a1,al,_⟩:=eJ ha;exact Rw t n a0 a1 (by omega)
  .obtain ⟨a0,a1,al,_⟩:=eJ ha;obtain ⟨b0,b1,bl,_⟩:=eJ hb;obtain ⟨x0,x1,xp⟩:=(mi t n a0 a1 (by omega) x).1 hx;obtain ⟨y0,y1,yp⟩:=(mi t n b0 b1 (by omega) y).1 hy;refine aaR t x0 x1 y0 y1 ?_;rw [I0 xp,I0 yp];refine N0 _ _ (by omega) ?_;have:=cQ.1 t.ord a.toNat b.toNat (by omega) (by omega) (by omega);simp_all [ff]
theorem aiV (t:sa N ids F) (hr:(aB noTy N 0).1= []) (hp:0< N.length):mI N 17 0=(bL N.length).map Int.ofNat:=by
 refine List.Perm.eq_of_pairwise (le:=λa b=>a< b) (by omega) (Rw t 17 (bB 0) (by omega) (by omega)) ?_ (Bm t hr hp);rw [List.pairwise_map];exact List.pairwise_lt_range.imp (by grind)
def Em (M:List (Int×Int)) (i:Int):Int:=(Kk.get .int M i).getD 0
def cR (M:List (Int×Int)) (N:List aZ) (n:Nat) (k:Int):List aZ:=(mI N n k).map λj=>aZ.gy (aB noTy N j) (Em M (aB noTy N j).2.1)
theorem Cm (M:List (Int×Int)) (N:List aZ) (n:Nat) (k:Int):cR M N (n+1) k=aZ.gy (aB noTy N k) (Em M (aB noTy N k).2.1)::(bY (aB noTy N k).1 N 0).flatMap (cR M N n):=by
 unfold cR
 grind [mI, List.map_flatMap]
theorem Jg (f:Int->Int):∀ (L:List aZ) {m m':List (Int×Int)},(∀ x∈L,∀ y∈L,f x.2.1=f y.2.1->x.2.1=y.2.1)->m'.length=m.length->(∀ x∈L,Kk.get .int m' (f x.2.1)=Kk.get .int m x.2.1)->bJ (L.map λx=>x.gy (f x.2.1)) m'=bJ L m
 | [],_,_,_,_,_=>rfl
 | x::L,m,m',hf,hl,hg=>by
  have hx:=hg x aK;have hf':=λy hy z hz=>hf y (aF x hy) z (aF x hz);rw [cE];cases h:Kk.get .int m x.2.1 with
  | some k=>
   rw [gp h,gp (x:=x.gy (f x.2.1)) (hx.trans h),Jg f L hf' hl λy hy=>hg y (aF _ hy)];rfl
  | none=>
   have h':Kk.get .int m' (x.gy (f x.2.1)).2.1=none:=hx.trans h;rw [fO h,fO h',hl];congr 1;refine Jg f L hf' (by rw [kD (k:=.int) h,kD (k:=.int) h',hl]) λy hy=>?_;show Kk.get .int (Kk.put .int m' (f x.2.1) _) _=_;by_cases e:y.2.1=x.2.1;rw [e,eR,eR]
   .rw [iw (k:=.int) e,iw (k:=.int) λq=>e (hf _ (aF _ hy) _ aK q)];exact hg y (aF _ hy)
theorem Y6 {d:IR} {T:List Int} (hd:d.Ok T N) (tr:uS N) (hs:bJ N []=N):bJ (cR d.t.Mr N 17 0) []=N:=by
 unfold cR;rw [aiV hd.tok tr.root.1 tr.pos];have e:((bL N.length).map Int.ofNat).map (λj=>aZ.gy (aB noTy N j) (Em d.t.Mr (aB noTy N j).2.1))=N.map λx=>x.gy (Em d.t.Mr x.2.1):=by
  conv=>rhs;rw [<-ZQ (N:=N)]
  simp
 rw [e,Jg (Em d.t.Mr) N (m:=[]) (m':=[]) (λx hx y hy q=>?_) rfl λ_ _=>rfl];exact hs
 .obtain ⟨a,ha⟩:=hd.all x hx;obtain ⟨b,hb⟩:=hd.all y hy;unfold Em at q;rw [ha,hb] at q;subst q;exact hd.ok.inj _ _ _ ha hb
theorem VD (M:List (Int×Int)) (n:Nat) (k:Int):(cR M N n k).length=(mI N n k).length:=bR ..
end Go.Lm

