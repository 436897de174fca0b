/- Texts of mine, laid together: D1 D2 LmZr D3 LmZs LmZt KO D4 LmZu E1 E2 LmVzg E3 LmZv E4 LmVzh E5 LmZ1 LmZ2 LmZ3 LmZ4 E6 F1 F2 F3 F4 G1 G2 G3 LmZ5 LmZ6. -/
import Derived.Test.YthjbdgokcljocaaGreatDoorQ6
import Derived.Test.YthjbdgokcljocaaGreatDoorProg
import Derived.Test.YthjbdgokcljocaaGreatDoorChecked
import Derived.Test.YthjbdgokcljocaaGreatDoorQ3
set_option linter.unusedVariables false
open Bool renaming and_eq_true → ao, not_eq_true' → cY, or_eq_true → kq
open Int renaming toNat → ax, le_refl → bh, toNat_natCast → bL, tdiv → gu
open List renaming flatten → ae, length_append → af, getElem?_eq_getElem → aq, replicate → au, length_cons → av, getElem?_eq_some_iff → aw, length_singleton → aE, length_take → aF, mem_cons_of_mem → aI, take_of_length_le → aL, append_assoc → aM, mem_cons_self → aN, length_drop → aR, mem_singleton → aU, mem_append → aV, length_replicate → aX, length_nil → aY, append_nil → bf, mem_cons → bm, mem_map → bp, eq_nil_of_length_eq_zero → bB, getElem?_append_right → bD, getElem?_append_left → bF, take_append_drop → bK, range → bQ, length_map → bT, mem_append_left → bW, take_succ_eq_append_getElem → bY, map_cons → cw, getD_eq_getElem?_getD → dh, getElem?_map → dj, pairwise_iff_getElem → dx, flatten_cons → dz, getElem_mem → dA, mem_range → dF, mem_iff_getElem → dZ, cons_append → eH, drop_drop → eN, drop_append_of_le_length → eQ, pairwise_cons → eV, take_length → fz, nodup_cons → gj, nodup_append → gv, nil_append → gS, pairwise_append → iK, map_append → jb, length_set → jc, mem_of_getElem? → kz, drop_take → lQ, drop_left → lR, getElem?_take → mT, take_take → o8, drop_zero → o9, flatMap_cons → pd
open Nat renaming le_refl → aG, zero_le → cM, lt_or_ge → eT, zero_lt_succ → fy, min_eq_left → py
open Option renaming getD → gB, isSome_iff_exists → mS
open Option.some renaming inj → aj
open Go.Proofs.Tryz renaming prog → cg
noncomputable section
namespace Go.Proofs
open Go Go.Lm Go.RowKit
set_option maxRecDepth 1000000
def pB:List (Nat×Ty):=(80,eA)::cu
def afI:Ct:=cI λx=>c0 λQ=>Q (.bool false) []
def acH:=(gp.add XH).add Rh
def Lh (x:Int):dq:=λQ=>aB .i64 x->Q (.v (.c (.k (.bool (x !=x))))) []
theorem adG:cq 132 afI:=eI<| nF λx=>gx λQ h=>by
 refine Wp.dy acH pB ⟨[],[]⟩ Tryz.f132 (Lh x) ?_;unfold Lh
 grind
def ag9:Ct:=cD (Ty.int .i64) λl=>cI λy=>c0 λQ=>(l.Pairwise λa b=>a< b)/\l.length<=100000/\alH l y/\∀ i:Int,0<=i->i< (l.length:Int)->l[i.toNat]?=some y->Q (.cC [.c (.k (.int .i64 i)),.c (.k (.bool true))]) []
def alA:=acH.add adG
def Yr (l:(List ((Ty.int .i64)).den)) (y:Int):dq:=λQ=>ix l (aB .i64 y->aJ (List.length l)->aK (λi ag=>br (decide (i.1.1< i.1.2.1)) (aB .i64 (i.1.1+i.1.2.1)/\(qU i.1.1 i.1.2.1 (qV i.1.1 i.1.2.1 (yz i.1.1 i.1.2.1 l (Ty.ok bq (aA bq l (kR 
 i.1.1 i.1.2.1))->br (decide (aA bq l (kR i.1.1 i.1.2.1)< y)) (tc i.1.1 i.1.2.1 ag i.1.2) (sO ag i.1.1 i.1.2.1)))))) (br (decide (i.1.1< (ay l))) (0<=i.1.1/\i.1.1< (ay l)/\(Ty.ok bq (aA bq l i.1.1)->br (aA 
 bq l i.1.1==y) (Q (.cC [.c (.k (aC i.1.1)),.c (.k (.bool true))]) []) (0<=i.1.1/\i.1.1< (ay l)/\(Ty.ok bq (aA bq l i.1.1)->Q (.cC [.c (.k (aC i.1.1)),.c (.k (.bool false))]) [])))) (Q (.cC [.c (.k (aC i.1.1)),.c 
 (.k (.bool false))]) []))) ((ah,(ay l),()),()))
theorem amq:cq 82 ag9:=eI<| iH λl=>nF λy=>gx λQ h=>by
 refine Wp.dy alA pB ⟨[(4,⟨[(7,.int .i64),(8,.int .i64)],[]⟩)],[]⟩ Tryz.f82 (Yr l y) ?_;unfold Yr sO yz qU qV kR ix tc iY aC ah aW ay aJ pZ bq iM;obtain ⟨hs,hl,⟨⟨k,hk⟩⟩,h⟩:=h;obtain ⟨tz,r7⟩:=aw.1 hk;have fB:∀ a:Int,0<=a->a< (l.length:Int)->((aA (.int .i64) l a:Int)< y↔a< (k:Int)):=λa a0 a1=>by
  rw [fF (e:=.int .i64) a0 a1,<-r7];have P:=dx.1 hs;constructor
  .intro q;rcases Nat.lt_trichotomy a.toNat k with z| z| z
   .omega
   .simp only [z,Int.lt_irrefl] at q
   .exact absurd q (Int.lt_asymm (P k a.toNat tz (by omega) z))
  .intro q;exact P a.toNat k (by omega) tz (by omega)
 refine λ_ _ _=>aK.intro (λi=>0<=i.1.1/\i.1.1<=(k:Int)/\(k:Int)<=i.1.2.1/\i.1.2.1<=l.length) (λi=>(i.1.2.1 - i.1.1).toNat) ⟨bh _,by show (0:Int)<=k;omega,by show (k:Int)<=l.length;omega,bh _⟩ ?_;rintro ⟨⟨i,j,_⟩,_⟩ ⟨h0,h1,h2,h3⟩;simp only at h0 h1 h2 h3 ⊢;refine ak (λhq=>?_) (λhq=>?_)
 .have hq:=of_decide_eq_true hq;refine ⟨by unfold aB;omega,λ_=>⟨by decide,λ_ _=>?_⟩⟩;rw [P0 (n:=i+j) (by omega) (by omega)];refine ⟨by omega,by omega,λ_=>ak (λhd=>?_) (λhd=>?_)⟩
  .have:=(fB ((i+j) / 2) (by omega) (by omega)).1 (of_decide_eq_true hd);exact ⟨by unfold aB;omega,⟨by omega,by omega,by omega,by omega⟩,by omega⟩
  .have:¬(i+j) / 2< (k:Int):=λq=>absurd ((fB _ (by omega) (by omega)).2 q) (of_decide_eq_false hd);exact ⟨⟨by omega,by omega,by omega,by omega⟩,by omega⟩
 .have hq:=of_decide_eq_false hq;obtain rfl:i=(k:Int):=by omega
  have e:aA (.int .i64) l (k:Int)=y:=by rw [gP (e:=.int .i64) tz];exact r7
  refine ak (λ_=>⟨by omega,by omega,λ_=>?_⟩) (λq=>absurd (of_decide_eq_false q) (by omega));rw [e];exact ak (λ_=>h k (by omega) (by omega) (by rw [bL];exact hk)) (λq=>by simp at q)
def Uk:Ct:=cP<| cN noTy λx=>cO λH Q=>match H with
 | [.cells 120 [.p 1 0,.p 2 0,.p 3 0,.d (.pair (.sl .str) (.pair (.int .i64) (.pair (.int .i64) (.pair (.pair (.int .i64) (.pair (.int .i64) (.pair (.int .i64) .unit))) (.pair (.sl .u8) (.pair .str (.pair (.sl (.pair .str (.pair (.sl .u8) .unit))) (.pair .bool .unit)))))))) L,.d (.int .i64) ids,.m 4,.m 5,.m 6],.abs A1,.abs A2,.abs A3,.map 3 .int (.int .i64) Mr,.map 3 .int (.pair (.int .i64) (.pair (.int .i64) (.pair (.int .i64) (.pair (.int .i64) (.pair (.int .i64) (.pair (.int .i64) (.pair (.int .i64) (.pair (.int .i64) (.pair (.int .i64) (.pair (.int .i64) (.pair .str .unit))))))))))) F,.map 9 .str (.int .i64) Ms]=>dC x.2.2.2.2.2.2.1=true/\∃ T RX fX,WB A3 T RX fX/\pt fX RX Ms/\RX.length<=1000000/\Ms.length<=100000/\∀ A3' AO AM zE xa,WB A3' T AO AM->(∃ c,AO=RX++c/\c.length<=4100)->(∃ c,AM=fX++c)->pt AM AO zE->zE.length<=Ms.length+1->WZ AM AO xa x.2.2.2.2.2.2.1->Q (.int xa) [.cells 120 [.p 1 0,.p 2 0,.p 3 0,.d noTy L,.d (.int .i64) ids,.m 4,.m 5,.m 6],.abs A1,.abs A2,.abs A3',.map 3 .int (.int .i64) Mr,.map 3 .int eA F,.map 9 .str (.int .i64) zE]
 | _=>False
def alz:=(gp.add wq).add Xz
def LU:((noTy).den)->(List bc)->(List Int)->(Value->Atom)->(Value->Atom)->(Value->Atom)->(List (Int×Int))->(List (Int×eA.den))->(List (ByteArray×Int))->dq:=
 λx L ids A1 A2 A3 Mr F Ms Q=>fA x.1 (cr x.2.1 x.2.2.1 x.2.2.2.1.1 (bZ x.2.2.2.1.2.1 x.2.2.2.1.2.2.1 (aJ (bw x.2.2.2.2.1)->dv x.2.2.2.2.2.1 (aJ (bw x.2.2.2.2.2.2.1)->dC x.2.2.2.2.2.2.1=true/\∀ (z:List 
 UInt8) (e:Int),aod x.2.2.2.2.2.2.1 z e->cW z (aB .i64 e->br (e !=0) (Q (.v (.c (.k aT))) [wS L ids,HO.abs A1,HO.abs A2,HO.abs A3,wQ Mr,wR F,kT Ms]) (Ty.ok bq (gB (qM Ms z) ah)->br 
 (!Option.isSome (qM Ms z)) (∃ T R fs,WB A3 T R fs/\List.length R+List.length z<=10000000/\∀ (A':Value->Atom) (r:Nat) (fs':List (List UInt8)),WB A' T (R++z) (fs++fs')->(∀ (gs:List (List UInt8)),r=dS (fs++gs) 
 (bw R))->aB .i64 (↑r:Int)->List.length Ms< 9223372036854775807/\aB .i64 ((↑r:Int)+1)/\Q (.v (.c (.k (.int .i64 ((↑r:Int)+1))))) [wS L ids,HO.abs A1,HO.abs A2,HO.abs A',wQ Mr,wR F,kT (Kk.put Kk.str Ms (fY 
 z) (↑r:Int))]) (aB .i64 (gB (qM Ms z) ah+1)/\Q (.v (.c (.k (.int .i64 (gB (qM Ms z) ah+1))))) [wS L ids,HO.abs A1,HO.abs A2,HO.abs A3,wQ Mr,wR F,kT Ms])))))))
theorem adY:cq 83 Uk:=eI<| rZ<| PV λx=>r5 λH Q h=>by
 split at h;rotate_left;cases h;rename_i L ids A1 A2 A3 Mr F Ms;refine Wp.dy alz pB ⟨[],[]⟩ Tryz.f83 (LU x L ids A1 A2 A3 Mr F Ms) ?_;unfold LU qM cW dv bZ fA bw aT cr ah aJ wS wR wQ kT bq;obtain ⟨hx,T,RX,fX,hW,hS,hl,hM,h⟩:=h;obtain ⟨hm8,hl8⟩:=mF hx;have OT:(xsB x.2.2.2.2.2.2.1).length<=4100:=by
  have h1:=vg (HT hm8);have h2:=om x.2.2.2.2.2.2.1;unfold xsB;rw [af,aD];omega
 refine λ_ _ _ _ _ _ _ _ _=>⟨hx,λz e hz _ _=>?_⟩;rcases hz.or with ⟨h1,rfl,rfl⟩| ⟨h1,rfl,rfl⟩;exact ak (λ_=>h A3 RX fX Ms 0 hW ⟨[],by simp,by simp⟩ ⟨[],by simp⟩ hS (by omega) ⟨.inl ⟨h1,rfl⟩,by decide⟩) (λq=>by cases q);obtain ⟨z,hzz⟩:∃ z,xsB x.2.2.2.2.2.2.1=z:=⟨_,rfl⟩;rw [hzz] at OT ⊢;refine ak (λq=>by cases q) (λ_=>λ_=>ak (λhg=>?_) (λhg=>?_))
 .obtain ⟨x',y',rfl,hT,hm⟩:=hW;refine ⟨T,RX,fX,⟨x',y',rfl,hT,hm⟩,by omega,λA' r fs' hW' hr _=>?_⟩;have hrl:=sA hm;have NB:=hr [];rw [bf] at NB;have hH:=Has.new (b:=z) (fs':=fs') hr;have h0:0<=(r:Int)/\(r:Int)<=4294967294:=by omega
  exact ⟨by omega,by unfold aB;omega,h A' _ _ _ _ hW' ⟨_,rfl,OT⟩ ⟨_,rfl⟩ ((hS.le ⟨_,rfl⟩ ⟨_,rfl⟩).put h0 hH) (MX _ _ _) ⟨.inr ⟨h1,by omega,by rw [show (r:Int)+1 - 1=r by omega,hzz];exact hH⟩,by omega⟩⟩
 .obtain ⟨v,hv⟩:∃ v:Int,Kk.get .str Ms (fY z)=some v:=mS.1 (show (Kk.get .str Ms (fY z)).isSome=true by simpa using hg);rw [hv,show (some v).getD 0=v from rfl];obtain ⟨h0,hH⟩:=hS.get hv;have h1v:1<=v+1/\0<=v+1/\v+1<=4294967295:=by omega
  have h2v:v+1 - 1=v:=by omega
  exact ⟨by unfold aB;omega,h A3 RX fX Ms (v+1) hW ⟨[],by simp,by simp⟩ ⟨[],by simp⟩ hS (by omega) ⟨.inr ⟨h1,h1v.1,by rw [h2v,hzz];exact hH⟩,h1v.2⟩⟩
structure Ws (A1 A2 A3:Value->Atom) (T:List Int) (s:BS):Prop where
 i:WB A1 T s.RI s.fI
 l:WB A2 T s.RL s.fL
 x:WB A3 T s.RX s.fX
structure HP (L:List bc) (ids:List Int) (F:List (Int×eA.den)) (s t:BS) (e:Nat) (p:List ByteArray) (d:Nat):Prop where
 ok:Eb L ids F t e
 le:BS.Le s t
 cov:∀ y∈L,pre p y->d<=y.1.length->∃ r,Kk.get .int t.Mr y.2.1=some r
 new:∀ i r,Kk.get .int t.Mr i=some r->Kk.get .int s.Mr i=some r\/∃ y∈L,y.2.1=i/\pre p y/\d<=y.1.length
def jZ (n:Nat):Ct
 | [.v (.c (.p 0 0)),.v (.c (.k (.int .i64 k)))],[.cells 120 [.p 1 0,.p 2 0,.p 3 0,.d (.pair (.sl .str) (.pair (.int .i64) (.pair (.int .i64) (.pair (.pair (.int .i64) (.pair (.int .i64) (.pair (.int .i64) .unit))) (.pair (.sl .u8) (.pair .str (.pair (.sl (.pair .str (.pair (.sl .u8) .unit))) (.pair .bool .unit)))))))) L,.d (.int .i64) ids,.m 4,.m 5,.m 6],.abs A1,.abs A2,.abs A3,.map 3 .int (.int .i64) Mr,.map 3 .int (.pair (.int .i64) (.pair (.int .i64) (.pair (.int .i64) (.pair (.int .i64) (.pair (.int .i64) (.pair (.int .i64) (.pair (.int .i64) (.pair (.int .i64) (.pair (.int .i64) (.pair (.int .i64) (.pair .str .unit))))))))))) F,.map 9 .str (.int .i64) Ms],Q=>sb L ids F/\(0<=k/\k< (L.length:Int)/\17<=(aA noTy L k).1.length+n)/\∃ T s,Ws A1 A2 A3 T s/\Mr=s.Mr/\Ms=s.Ms/\s.Ms.length<=s.Mr.length/\Eb L ids F s 0/\∀ A1' A2' A3' t r,Ws A1' A2' A3' T t->t.Ms.length<=t.Mr.length->HP L ids F s t 0 (aA noTy L k).1 (aA noTy L k).1.length->Kk.get .int t.Mr (aA noTy L k).2.1=some r->Q (.c (.k (.int .i64 r))) [.cells 120 [.p 1 0,.p 2 0,.p 3 0,.d noTy L,.d (.int .i64) ids,.m 4,.m 5,.m 6],.abs A1',.abs A2',.abs A3',.map 3 .int (.int .i64) t.Mr,.map 3 .int eA F,.map 9 .str (.int .i64) t.Ms]
 | _,_,_=>False
def J6 (n:Nat):Ct
 | [.v (.c (.p 0 0)),.v (.agg cx)],[.cells 120 [.p 1 0,.p 2 0,.p 3 0,.d (.pair (.sl .str) (.pair (.int .i64) (.pair (.int .i64) (.pair (.pair (.int .i64) (.pair (.int .i64) (.pair (.int .i64) .unit))) (.pair (.sl .u8) (.pair .str (.pair (.sl (.pair .str (.pair (.sl .u8) .unit))) (.pair .bool .unit)))))))) L,.d (.int .i64) ids,.m 4,.m 5,.m 6],.abs A1,.abs A2,.abs A3,.map 3 .int (.int .i64) Mr,.map 3 .int (.pair (.int .i64) (.pair (.int .i64) (.pair (.int .i64) (.pair (.int .i64) (.pair (.int .i64) (.pair (.int .i64) (.pair (.int .i64) (.pair (.int .i64) (.pair (.int .i64) (.pair (.int .i64) (.pair .str .unit))))))))))) F,.map 9 .str (.int .i64) Ms],Q=>(match (noTy).of cx with
  | some (x,[])=>sb L ids F/\(x∈L/\x.2.2.1=1/\16<=x.1.length+n)/\∃ T s,Ws A1 A2 A3 T s/\Mr=s.Mr/\Ms=s.Ms/\s.Ms.length<=s.Mr.length/\Eb L ids F s 0/\∀ A1' A2' A3' t r es,Ws A1' A2' A3' T t->t.Ms.length<=t.Mr.length->HP L ids F s t 1 x.1 (x.1.length+1)->iV ⟨#[]⟩ es->ah9 L t.Mr x.1.length (bU x.1 L 0) es->Has t.fL t.RL r (gM es)->(0<=r/\r<=4294967295)->(gM es).length<=10440->Q (.cC [.c (.k (.int .i64 r)),.c (.k (.int .i64 (gM es).length))]) [.cells 120 [.p 1 0,.p 2 0,.p 3 0,.d noTy L,.d (.int .i64) ids,.m 4,.m 5,.m 6],.abs A1',.abs A2',.abs A3',.map 3 .int (.int .i64) t.Mr,.map 3 .int eA F,.map 9 .str (.int .i64) t.Ms]
  | _=>False)
 | _,_,_=>False
def acG (n:Nat):Vx:= {P:=cg,ct:=[(51,(jZ n)),(129,aa2),(130,OA),(54,Bb)],ty:=pB,hold:=[130]}
theorem W7 (n:Nat) (hn:cq 51 (jZ n)):jJ Inv cg (acG n).ct:=jJ.cons hn (jJ.cons aiz (jJ.cons KW (jJ.cons wq (jJ.nil _ _))))
abbrev Cv (y0:List (Int×Int)) (y1) (y2:List (ByteArray×Int)) (y3) (y4:List bc) (y5:List Int) (y6:List (Int×eA.den)) (y7) (R:Prop):=y0=y1/\y2=y3/\List.length y3<=List.length y1/\Eb y4 y5 y6 y7 bx/\R
def LS:Nat->((noTy).den)->(List bc)->(List Int)->(Value->Atom)->(Value->Atom)->(Value->Atom)->(List (Int×Int))->(List (Int×eA.den))->(List (ByteArray×Int))->dq:=
 λn x L ids A1 A2 A3 Mr F Ms Q=>fA x.1 (cr x.2.1 x.2.2.1 x.2.2.2.1.1 (bZ x.2.2.2.1.2.1 x.2.2.2.1.2.2.1 (aJ (bw x.2.2.2.2.1)->dv x.2.2.2.2.2.1 (aJ (bw x.2.2.2.2.2.2.1)->(List.length L<=1100/\List.length x.1<= 
 1000/\List.Pairwise (λa b=>cmpL a.1 b.1< 0) L)/\(aJ (List.length (bU x.1 L ah))->aJ (List.length (bU x.1 L ah))->aK (λi ag=>br (decide (i.1.1< (aP (bU x.1 L ah)))) (0<=i.1.1/\i.1.1< (aP 
 (bU x.1 L ah))/\(Ty.ok bq (aA bq (bU x.1 L ah) i.1.1)->0<=aA bq (bU x.1 L ah) i.1.1/\aA bq (bU x.1 L ah) i.1.1< (aP i.2.1.2.2.2.1)/\(Ty.ok noTy (aA noTy i.2.1.2.2.2.1 (aA bq (bU x.1 L 
 ah) i.1.1))->aJ (bw x.1)->ah<=(aP x.1)/\(aP x.1)< (↑(List.length (aA noTy i.2.1.2.2.2.1 (aA bq (bU x.1 L ah) i.1.1)).1):Int)/\(Ty.ok Ty.str (aA Ty.str (aA noTy i.2.1.2.2.2.1 (aA bq (bU x.1 L ah) 
 i.1.1)).1 (aP x.1))->sb i.2.1.2.2.2.1 i.2.1.2.2.2.2.1 i.2.2.2.2.2.2.1/\(0<=aA bq (bU x.1 L ah) i.1.1/\aA bq (bU x.1 L ah) i.1.1< (aP i.2.1.2.2.2.1)/\17<=List.length (aA noTy i.2.1.2.2.2.1 (aA bq (bU 
 x.1 L ah) i.1.1)).1+n)/\∃ T s,Ws i.2.2.1 i.2.2.2.1 i.2.2.2.2.1 T s/\Cv i.2.2.2.2.2.1 s.Mr i.2.2.2.2.2.2.2.1 s.Ms i.2.1.2.2.2.1 i.2.1.2.2.2.2.1 i.2.2.2.2.2.2.1 s (∀ (A1' A2' A3':Value->Atom) (t:BS) (r:Int),Ws A1' A2' A3' 
 T t->List.length t.Ms<=List.length t.Mr->HP i.2.1.2.2.2.1 i.2.1.2.2.2.2.1 i.2.2.2.2.2.2.1 s t bx (aA noTy i.2.1.2.2.2.1 (aA bq (bU x.1 L ah) i.1.1)).1 (List.length (aA noTy i.2.1.2.2.2.1 (aA bq (bU x.1 L ah) 
 i.1.1)).1)->Kk.get Kk.int t.Mr (aA noTy i.2.1.2.2.2.1 (aA bq (bU x.1 L ah) i.1.1)).2.1=some r->aB .i64 r->(List.length i.1.2.1+List.length [(aA Ty.str (aA noTy i.2.1.2.2.2.1 (aA bq (bU x.1 L ah) i.1.1)).1 
 (aP x.1),(aA noTy i.2.1.2.2.2.1 (aA bq (bU x.1 L ah) i.1.1)).2.2.1,r,())])*32<=140737488355328/\List.length i.1.2.1+List.length [(aA Ty.str (aA noTy i.2.1.2.2.2.1 (aA bq (bU x.1 L ah) i.1.1)).1 (aP x.1), 
 (aA noTy i.2.1.2.2.2.1 (aA bq (bU x.1 L ah) i.1.1)).2.2.1,r,())]<=9223372036854775807/\cj i.1.1 (ag ((i.1.1+1,i.1.2.1++ [(aA Ty.str (aA noTy i.2.1.2.2.2.1 (aA bq (bU x.1 L ah) i.1.1)).1 (aP x.1),(aA 
 noTy i.2.1.2.2.2.1 (aA bq (bU x.1 L ah) i.1.1)).2.2.1,r,())],()),((),(),(),i.2.1.2.2.2.1,i.2.1.2.2.2.2.1,(),(),(),()),A1',A2',A3',t.Mr,i.2.2.2.2.2.2.1,t.Ms,()))))))) ((iV ⟨#[]⟩ i.1.2.1/\List.length i.1.2.1 
 <=1024)/\(aJ (List.length (gM i.1.2.1))->aB .i64 0->∃ T R fs,WB i.2.2.2.1 T R fs/\List.length R+List.length (gM i.1.2.1)<=10000000/\∀ (A':Value->Atom) (r:Nat) (fs':List (List UInt8)),WB A' T (R++gM i.1.2.1) (fs 
 ++fs')->(∀ (gs:List (List UInt8)),r=dS (fs++gs) (bw R))->aB .i64 (↑r:Int)->aJ (List.length (gM i.1.2.1))->Q (.cC [.c (.k (.int .i64 (↑r:Int))),.c (.k (.int .i64 (aP (gM i.1.2.1))))]) [wS i.2.1.2.2.2.1 
 i.2.1.2.2.2.2.1,HO.abs i.2.2.1,HO.abs A',HO.abs i.2.2.2.2.1,wQ i.2.2.2.2.2.1,wR i.2.2.2.2.2.2.1,kT i.2.2.2.2.2.2.2.1]))) ((ah,[],()),((),(),(),L,ids,(),(),(),()),A1,A2,A3,Mr,F,Ms,()))))))
theorem U4 (n:Nat) (hn:cq 51 (jZ n)):cq 80 (J6 n):=by
 intro args H Q h;unfold J6 at h;split at h;rotate_left;cases h;rename_i cx L ids A1 A2 A3 Mr F Ms;split at h;rotate_left;cases h;rename_i x hx;refine Wp.said (args':=[.v (.c (.p 0 0)),.v (.agg (Ty.cells noTy x))]) (λE g=>bA.cE (λ_ h=>h) (bA.cE (Ji hx) (λ_ h=>h))) ?_;clear hx;refine Wp.QC (X:=(acG n)) (W7 n hn) ⟨[(4,⟨[(20,.int .i64),(6,.own 44 dg)],[(0,.cells 120 [.p 1 0,.p 2 0,.p 3 0,.d noTy,.d (.int .i64),.m 4,.m 5,.m 6]),(1,.abs),(2,.abs),(3,.abs),(4,.map 3 .int (.int .i64)),(5,.map 3 .int eA),(6,.map 9 .str (.int .i64))]⟩)],[]⟩ (fn:=Tryz.f80) (V:=LS n x L ids A1 A2 A3 Mr F Ms) (by kernel_rfl) (λ_=>by kernel_rfl) ?_;unfold LS Cv dv bZ cj fA bw cr ah aP aJ bx wS wR wQ kT bq;obtain ⟨hT,⟨hx,hxk,hn⟩,T,s,hW,rfl,rfl,hM,hB,h⟩:=h;have hl:=hT.len;have hd:=hT.deep x hx;refine λ_ _ _ _ _ _ _ _ _=>⟨⟨by omega,by omega,hT.ord⟩,λ_ _=>?_⟩;have hKl:=jV x.1 (L:=L) (k:=0);have hKm:∀ k∈bU x.1 L 0,0<=k/\k< (L.length:Int)/\(aA noTy L k).1.length=x.1.length+1/\pre x.1 (aA noTy L k):=λk q=>fH q;have hKo:=qg x.1 (L:=L) (k:=0);have hKe:∀ {t:BS} {es:List dg.den},Eb L ids F t 0->fZ L t.Mr x.1.length (bU x.1 L 0) es->iV ⟨#[]⟩ es:=λq1 q2=>Ha hT (λi r q=>(q1.refs i r q).1) q2 (λk q=>q) hKo λk q=>by
  obtain ⟨k0,k1,k2,k3⟩:=hKm k q;refine aeg (hT.nm _ (tv (e:=noTy) k0 k1) _ (Eq.mpr (congrArg (λl:List ByteArray=>(aA noTy L k).1.getD x.1.length ⟨#[]⟩∈l) (tW k2 k3)) ?_));exact List.mem_append_right _ aN
 have hKb:∀ y∈L,pre x.1 y->x.1.length+1<=y.1.length->∃ k∈bU x.1 L 0,pre (aA noTy L k).1 y:=λy q1 q2 q3=>uD hT (y.1.length - (x.1.length+1)) q1 q2 (by omega);generalize bU x.1 L 0=K at*;refine aK.intro (λi=>∃ (j:Nat) (t:BS) (B1 B2 B3:Value->Atom),j<=K.length/\i.1.1=(j:Int)/\fZ L t.Mr x.1.length (K.take j) i.1.2.1/\i.2=(((),(),(),L,ids,(),(),(),()),B1,B2,B3,t.Mr,F,t.Ms,())/\Ws B1 B2 B3 T t/\t.Ms.length<=t.Mr.length/\Eb L ids F t 0/\BS.Le s t/\(∀ k∈K.take j,∀ y∈L,pre (aA noTy L k).1 y->∃ r,Kk.get .int t.Mr y.2.1=some r)/\∀ i r,Kk.get .int t.Mr i=some r->Kk.get .int s.Mr i=some r\/∃ y∈L,y.2.1=i/\pre x.1 y/\x.1.length+1<=y.1.length) (λi=>K.length - i.1.1.toNat) ⟨0,s,A1,A2,A3,cM _,rfl,trivial,rfl,hW,hM,hB,.refl s,by simp,λi r q=>.inl q⟩ ?_;rintro ⟨⟨i,es,_⟩,o⟩ ⟨j,t,B1,B2,B3,hj,h1,h2,h3,h4,h5,h6,h7,h8,h9⟩;simp only at h1 h2 h3 ⊢;subst h1 h3;dsimp only;have V9:=h2.len;rw [aF,py hj] at V9;refine ak (λhc=>?_) (λhc=>?_)
 .have vX:(j:Int)< K.length:=of_decide_eq_true hc;have uS:j< K.length:=by omega
  have ht:K.take (j+1)=K.take j++ [K[j]]:=bY uS;have ek:aA (.int .i64) K (j:Int)=K[j]:=gP (e:=.int .i64) uS;have hkm:=hKm _ (dA uS);rw [ek];generalize K[j]=k at*;obtain ⟨k0,k1,kl,kp⟩:=hkm;refine ⟨by omega,vX,λ_=>⟨k0,k1,λ_ _=>⟨by omega,by omega,λ_=>⟨hT,⟨k0,k1,by omega⟩,T,t,h4,rfl,rfl,h5,h6,λC1 C2 C3 u r hW' hM' hP hr _=>⟨by simp only [aE];omega,by simp only [aE];omega,by unfold aB;omega,⟨j+1,u,C1,C2,C3,uS,by omega,?_,rfl,hW',hM',hP.ok,h7.trans hP.le,?_,?_⟩,by omega⟩⟩⟩⟩⟩
  .rw [ht];refine fZ.snoc (h2.le hP.le.Mr) ⟨?_,rfl,hr,trivial⟩;show aA .str _ _=_;unfold aA;rw [bL];rfl
  .rw [ht];intro k' AK y hy Z5;rcases aV.1 AK with q| q
   .obtain ⟨r',q'⟩:=h8 k' q y hy Z5;exact ⟨r',hP.le.Mr _ _ q'⟩
   .obtain rfl:=aU.1 q;exact hP.cov y hy Z5 (AY Z5)
  .intro i' r' q;rcases hP.new i' r' q with q| ⟨y,q1,q2,q3,q4⟩
   .exact h9 i' r' q
   .exact .inr ⟨y,q1,q2,GD (by omega) kp q3,by omega⟩
 .have hc:=of_decide_eq_false hc;obtain rfl:j=K.length:=by omega
  rw [fz] at h2 h8;have aj0:=hKe h6 h2;have hen:=xp aj0;have hBl:=h6.len;have hlL:=h6.lL;refine ⟨⟨aj0,by omega⟩,λ_ _=>⟨T,t.RL,t.fL,h4.l,by omega,λA' r fs' hW' hr _ _=>?_⟩⟩;obtain ⟨x',y',e',hT',hm⟩:=h4.l;have hrl:=sA hm;have NB:=hr [];rw [bf] at NB;have hle:=BS.Tg t (gM es) fs';exact h B1 A' B3 {t with RL:=t.RL++gM es,fL:=t.fL++fs'} r es ⟨h4.i,hW',h4.x⟩ h5 ⟨h6.list _ _ (by omega),h7.trans hle,λy q1 q2 q3=>(hKb y q1 q2 q3).elim λk q=>h8 k q.1 y q1 q.2,h9⟩ aj0 ⟨h2⟩ (Has.new hr) ⟨by omega,by omega⟩ (by omega)
def acF (n:Nat):Vx:= {P:=cg,ct:=[(80,(J6 n)),(51,(jZ n)),(82,ag9),(83,Uk),(81,T6),(84,J5),(54,Bb)],ty:=pB,hold:=[]}
theorem W6 (n:Nat) (hn:cq 51 (jZ n)):jJ Inv cg (acF n).ct:=jJ.cons (U4 n hn) (jJ.cons hn (jJ.cons amq (jJ.cons adY (jJ.cons adN (jJ.cons wv (jJ.cons wq (jJ.nil _ _)))))))
abbrev CO (y0:List (Int×eA.den)) (y1:List bc) (y2:Int):=gB (Kk.get Kk.int y0 (aA noTy y1 y2).2.1) (ah,ah,ah,ah,ah,ah,ah,ah,ah,ah,ByteArray.mk #[],())
abbrev Iu (y0:List bc) (y1:Int) (y2:Int) (y3:Int) (y4:Int) (y5:List (Int×eA.den)):=((aA noTy y0 y1).2.2.1,(aA noTy y0 y1).2.2.2.1.1,y2,y3,(↑(jD y0 (aA noTy y0 y1).2.1):Int),y4,(CO y5 y0 y1).2.2.2.2.2.2.1,(CO y5 y0 y1).2.2.2.2.2.2.2.1,(CO y5 y0 y1).2.2.2.2.2.2.2.2.1,(CO y5 y0 y1).2.2.2.2.2.2.2.2.2.1,(aA noTy y0 y1).2.2.2.2.2.1,())
abbrev wP {A5:Type} (y0:List bc) (y1:Int) (y2:Int) (y3:Int) (y4:Int) (y5:A5) (y6:List (Ty.den dg)) (y7:List (Int×eA.den)):=((aA noTy y0 y1).2.2.1,(aA noTy y0 y1).2.2.2.1.1,y2,y3,(↑(jD y0 (aA noTy y0 y1).2.1):Int),y4,y5,(aP (gM y6)),(CO y7 y0 y1).2.2.2.2.2.2.2.2.1,(CO y7 y0 y1).2.2.2.2.2.2.2.2.2.1,(aA noTy y0 y1).2.2.2.2.2.1,())
abbrev MT (y0:Int) (y1:List Int) (y2:List bc) (y3:Int) (R:Prop):=0<=y0->y0< (ay y1)->y1[ax y0]?=some (aA noTy y2 y3).2.2.2.1.2.1->aB .i64 y0->List.Pairwise (λa b=>a< b) y1/\List.length y1<=100000/\alH y1 (aA noTy y2 y3).2.2.2.1.2.2.1/\R
abbrev MR (y0:List bc) (y1:Int) (y2:List Int) (R:Prop):=aB .i64 (↑(jD y0 (aA noTy y0 y1).2.1):Int)->List.Pairwise (λa b=>a< b) y2/\List.length y2<=100000/\alH y2 (aA noTy y0 y1).2.2.2.1.2.1/\R
abbrev MQ (y0:Int) (y1:List Int) (y2:List bc) (y3:Int) (R:Prop):=0<=y0->y0< (ay y1)->y1[ax y0]?=some (aA noTy y2 y3).2.2.2.1.2.2.1->aB .i64 y0->dC (aA noTy y2 y3).2.2.2.2.2.2.1=true/\R
abbrev MO (y0:Value->Atom) (y1) (y2:List UInt8) (y3:List (List UInt8)) (y4) (y5) (y6:List (ByteArray×Int)) (y7:List (ByteArray×Int)) (R:Prop):=WB y0 y1 y2 y3->(∃ c,y2=y4++c/\List.length c<=4100)->(∃ c,y3=y5++c)->pt y3 y2 y6->List.length y6<=List.length y7+1->R
abbrev PH (y0:List bc) (y1) (y2:Int) (y3:List (Ty.den dg)) (y4) (y5) (y6) (R:Prop):=ah9 y0 y1 (List.length (aA noTy y0 y2).1) (bU (aA noTy y0 y2).1 y0 ah) y3->Has y4 y5 y6 (gM y3)->0<=y6/\y6<=4294967295->List.length (gM y3)<=10440->aB .i64 y6->aB .i64 (aP (gM y3))->(0<=y2/\y2< (ay y0))/\List.length y0<=1100/\R
abbrev CJ (y0:Value->Atom) (y1) (y2) (y3) (y4:List (ByteArray×Int)) (R:Prop):=WB y0 y1 y2 y3/\pt y3 y2 y4/\List.length y2<=1000000/\List.length y4<=100000/\R
abbrev CD (y0:Nat):SV:=.v (.c (.k (.int .i64 (↑y0:Int))))
abbrev Py (y0:List bc) (y1:Int) (y2:Nat):=List.Mem (gK y0 y1) y0/\(gK y0 y1).2.2.1=(1:Ty.den bq)/\16<=List.length (gK y0 y1).1+y2
abbrev CC (y0:List (Int×Int)) (y1:List bc) (y2:Int) (y3:Nat):=Kk.put Kk.int y0 (gK y1 y2).2.1 (↑y3:Int)
abbrev CA (y0:List (List UInt8)) (y1:List UInt8) (y2:Int) (y3:List bc) (y4:Int) (R:Prop):=WZ y0 y1 y2 (gK y3 y4).2.2.2.2.2.2.1->aB .i64 y2->R
def F5 (n:Nat) (k:Int) (L:List bc) (ids:List Int) (A1 A2 A3:Value->Atom) (Mr:(List (Int×Int))) (F:(List (Int×eA.den))) (Ms:(List (ByteArray×Int))):dq:=λQ=>aB .i64 k->0<=k/\k< (ay L)/\(Ty.ok noTy (gK L k)->Ty.ok bq (gB (Kk.get Kk.int Mr (gK L k).2.1) ah)->br (Option.isSome (Kk.get Kk.int Mr (gK L k).2.1)) (Q (.v (.c (.k 
 (.int .i64 (gB (Kk.get Kk.int Mr (gK L k).2.1) ah))))) [wS L ids,HO.abs A1,HO.abs A2,HO.abs A3,wQ Mr,wR F,kT Ms]) ((Ty.ok eA (CO F L k)->br ((gK L k).2.2.1==1) (sb L ids F/\(Py L k n)/\∃ T s, 
 Ws A1 A2 A3 T s/\Cv Mr s.Mr Ms s.Ms L ids F s (∀ (A1' A2' A3':Value->Atom) (t:BS) (r:Int) (es:List (Ty.den dg)),Ws A1' A2' A3' T t->List.length t.Ms<=List.length t.Mr->HP L ids F s t bH (gK L k).1 (List.length 
 (gK L k).1+1)->iV ⟨#[]⟩ es->PH L t.Mr k es t.fL t.RL r (MR L k ids (∀ (i:Int),MT i ids L k (∀ (bG:Int),MQ bG ids L k (∃ T RX fX,CJ A3' T RX fX t.Ms (∀ (A3':Value->Atom) (AO:List UInt8) (AM:List 
 (List UInt8)) (zE:List (ByteArray×Int)) (xa:Int),MO A3' T AO AM RX fX zE t.Ms (CA AM AO xa L k (o7 (wP L k i bG xa r es F)/\(List.length (fO (wP L k i bG xa r es F))<=9223372036854775807->aB .i64 0->∃ T 
 R fs,WB A1' T R fs/\List.length R+List.length (fO (wP L k i bG xa r es F))<=10000000/\∀ (A':Value->Atom) (r_1:Nat) (fs':List (List UInt8)),WB A' T (R++fO (wP L k i bG xa r es F)) (fs++fs')->(∀ (gs:List 
 (List UInt8)),r_1=dS (fs++gs) (bw R))->aB .i64 (↑r_1:Int)->mc t.Mr (Q (CD r_1) [wS L ids,HO.abs A',HO.abs A2',HO.abs A3',wQ (CC t.Mr L k r_1),wR F,kT zE]))))))))))) ((0<=k/\k< (ay L))/\ 
 List.length L<=1100/\(MR L k ids (∀ (i:Int),MT i ids L k (∀ (bG:Int),MQ bG ids L k (∃ T RX fX,CJ A3 T RX fX Ms (∀ (A3':Value->Atom) (AO:List UInt8) (AM:List (List UInt8)) (zE:List (ByteArray×Int)) (xa: 
 Int),MO A3' T AO AM RX fX zE Ms (CA AM AO xa L k (o7 (Iu L k i bG xa F)/\(List.length (fO (Iu L k i bG xa F))<=9223372036854775807->aB .i64 0->∃ T R fs,WB A1 T R fs/\List.length R+List.length (fO (Iu L 
 k i bG xa F))<=10000000/\∀ (A':Value->Atom) (r:Nat) (fs':List (List UInt8)),WB A' T (R++fO (Iu L k i bG xa F)) (fs++fs')->(∀ (gs:List (List UInt8)),r=dS (fs++gs) (bw R))->aB .i64 (↑r:Int)->List.length 
 Mr< 9223372036854775807/\Q (CD r) [wS L ids,HO.abs A',HO.abs A2,HO.abs A3',wQ (CC Mr L k r),wR F,kT zE]))))))))))/\(Ty.ok eA (CO F L k)->br ((gK L k).2.2.1==1) (sb L ids F/\(Py L k n)/\∃ T s,Ws 
 A1 A2 A3 T s/\Cv Mr s.Mr Ms s.Ms L ids F s (∀ (A1' A2' A3':Value->Atom) (t:BS) (r:Int) (es:List (Ty.den dg)),Ws A1' A2' A3' T t->List.length t.Ms<=List.length t.Mr->HP L ids F s t bH (gK L k).1 (List.length 
 (gK L k).1+1)->iV ⟨#[]⟩ es->PH L t.Mr k es t.fL t.RL r (MR L k ids (∀ (i:Int),MT i ids L k (∀ (bG:Int),MQ bG ids L k (∃ T RX fX,CJ A3' T RX fX t.Ms (∀ (A3':Value->Atom) (AO:List UInt8) (AM:List 
 (List UInt8)) (zE:List (ByteArray×Int)) (xa:Int),MO A3' T AO AM RX fX zE t.Ms (CA AM AO xa L k (o7 (wP L k i bG xa r es F)/\(List.length (fO (wP L k i bG xa r es F))<=9223372036854775807->aB .i64 0->∃ T 
 R fs,WB A1' T R fs/\List.length R+List.length (fO (wP L k i bG xa r es F))<=10000000/\∀ (A':Value->Atom) (r_1:Nat) (fs':List (List UInt8)),WB A' T (R++fO (wP L k i bG xa r es F)) (fs++fs')->(∀ (gs:List 
 (List UInt8)),r_1=dS (fs++gs) (bw R))->aB .i64 (↑r_1:Int)->mc t.Mr (Q (CD r_1) [wS L ids,HO.abs A',HO.abs A2',HO.abs A3',wQ (CC t.Mr L k r_1),wR F,kT zE]))))))))))) ((0<=k/\k< (ay L))/\ 
 List.length L<=1100/\(MR L k ids (∀ (i:Int),MT i ids L k (∀ (bG:Int),MQ bG ids L k (∃ T RX fX,CJ A3 T RX fX Ms (∀ (A3':Value->Atom) (AO:List UInt8) (AM:List (List UInt8)) (zE:List (ByteArray×Int)) (xa: 
 Int),MO A3' T AO AM RX fX zE Ms (CA AM AO xa L k (o7 (Iu L k i bG xa F)/\(List.length (fO (Iu L k i bG xa F))<=9223372036854775807->aB .i64 0->∃ T R fs,WB A1 T R fs/\List.length R+List.length (fO (Iu L 
 k i bG xa F))<=10000000/\∀ (A':Value->Atom) (r:Nat) (fs':List (List UInt8)),WB A' T (R++fO (Iu L k i bG xa F)) (fs++fs')->(∀ (gs:List (List UInt8)),r=dS (fs++gs) (bw R))->aB .i64 (↑r:Int)->List.length 
 Mr< 9223372036854775807/\Q (CD r) [wS L ids,HO.abs A',HO.abs A2,HO.abs A3',wQ (CC Mr L k r),wR F,kT zE]))))))))))))
theorem O3 (n:Nat) (hn:cq 51 (jZ n)):∀ args H Q,jZ (n+1) args H Q->Wp Inv cg 51 args H Q:=by
 intro args H Q h;unfold jZ at h;split at h;rotate_left;cases h;rename_i k L ids A1 A2 A3 Mr F Ms;refine Wp.QC (X:=(acF n)) (W6 n hn) ⟨[],[]⟩ (fn:=Tryz.f51) (V:=F5 n k L ids A1 A2 A3 Mr F Ms) (by kernel_rfl) (λ_=>by kernel_rfl) ?_;unfold F5 Cv CA CC Py CD gK mc CJ PH MO MQ MR MT bw wP Iu CO ah aP ay bx bH wS wR wQ kT bq;obtain ⟨hT,⟨k0,k1,kn⟩,T,s,hW,rfl,rfl,hM,hB,h⟩:=h;have hl:=hT.len;have hx:aA noTy L k∈L:=tv (e:=noTy) k0 k1;have hm:=vO (hT.may _ hx);have hil:=hT.idl;have hBl:=hB.len;have hBI:=hB.lI;have hBX:=hB.lX;refine λ_=>⟨k0,k1,λ_ _=>ak (λhg=>?_) (λhg=>both λ_=>ak (λhk=>?_) (λhk=>?_))⟩
 .obtain ⟨v,hv⟩:∃ v:Int,Kk.get .int s.Mr (aA noTy L k).2.1=some v:=mS.1 hg;rw [hv,show (some v).getD 0=v from rfl];exact h A1 A2 A3 s v hW hM ⟨hB,.refl s,λy q1 q2 q3=>hB.cov hT (y.1.length - (aA noTy L k).1.length) hx ⟨_,hv⟩ q1 q2 (by omega),λi r q=>.inl q⟩ hv
 .have V7:Kk.get .int s.Mr (aA noTy L k).2.1=none:=by simpa using hg
  have tz:(aA noTy L k).2.2.1=1:=eq_of_beq hk;have hnf:=hT.nofile _ hx (by rw [tz];decide);refine ⟨hT,⟨hx,tz,by omega⟩,T,s,hW,rfl,rfl,hM,hB,λA1' A2' A3' t r es hW' hM' hP hE hEm hHs am1 hEl _ _=>?_⟩;have hBl:=hP.ok.len;have hBI:=hP.ok.lI;have hBX:=hP.ok.lX;have kA:Kk.get .int t.Mr (aA noTy L k).2.1=none:=by
   rw [Option.eq_none_iff_forall_not_mem];intro v hv;rcases hP.new _ _ hv with q| ⟨y,q1,q2,q3,q4⟩;rw [V7] at q;cases q
   .have:=(hT.one _ hx y q1 q2.symm).1 tz;rw [<-this] at q4;omega
  obtain ⟨⟨iu',hu'⟩,⟨ig',hg'⟩⟩:=hT.uid _ hx;refine ⟨⟨k0,k1⟩,by omega,λ_=>⟨hT.Md,by omega,⟨⟨_,hu'⟩⟩,λiu iu0 _ iu2 _=>⟨hT.Md,by omega,⟨⟨_,hg'⟩⟩,λig ig0 _ ig2 _=>⟨hm.xa,T,t.RX,t.fX,hW'.x,hP.ok.aee,by omega,by omega,λA3' AO AM zE xa hX1 hX2 hX3 hX4 hX5 hX6 _=>?_⟩⟩⟩⟩;have hN:=Zv hT hx tz (s:= {t with RX:=AO,fX:=AM,Ms:=zE}) iu0 iu2 ig0 ig2 hX6 hE hEm.ok hHs am1 hEl;rw [hnf];dsimp only [gB];have hrl:=Ir hN.ok;refine ⟨hN.ok,λ_ _=>⟨T,t.RI,t.fI,hW'.i,by omega,λA' r1 fs' hW2 wj _=>⟨by omega,?_⟩⟩⟩;obtain ⟨x1,x2,_,_,hmw⟩:=hW'.i;have hq:=sA hmw;have NB:=wj [];rw [bf] at NB;obtain ⟨hBu,hLu⟩:=hP.ok.put (by omega) k0 k1 kA hX2 hX3 hX4 (fs:=fs') wj (by omega) (λo=>Co hmw) hN;have JI:(Kk.put .int t.Mr (aA noTy L k).2.1 (r1:Int):List (Int×Int)).length=t.Mr.length+1:=mu kA;have Ak:Kk.get .int (Kk.put .int t.Mr (aA noTy L k).2.1 (r1:Int):List (Int×Int)) (aA noTy L k).2.1=some (r1:Int):=fq (k:=.int);exact h A' A2' A3' (t.put (aA noTy L k).2.1 r1 _ fs' AO AM zE) r1 ⟨hW2,hW'.l,hX1⟩ (by show zE.length<=(Kk.put .int t.Mr (aA noTy L k).2.1 (r1:Int):List (Int×Int)).length;rw [JI];omega) ⟨hBu,hP.le.trans hLu,λy q1 q2 q3=>hBu.cov hT (y.1.length - (aA noTy L k).1.length) hx ⟨_,Ak⟩ q1 q2 (by omega),λi r q=>by
   by_cases hi:i=(aA noTy L k).2.1;exact .inr ⟨_,hx,hi.symm,tj _,aG _⟩
   .have q:Kk.get .int (Kk.put .int t.Mr (aA noTy L k).2.1 (r1:Int):List (Int×Int)) i=some r:=q;rw [iR (k:=.int) hi] at q;exact (hP.new i r q).imp_right λ⟨y,q1,q2,q3,q4⟩=>⟨y,q1,q2,q3,by omega⟩⟩ Ak
 .have V7:Kk.get .int s.Mr (aA noTy L k).2.1=none:=by simpa using hg
  rcases hm.or with ⟨q,_⟩| ⟨r7,_⟩| ⟨hk3,_⟩;rw [q] at hk;cases hk
  .obtain ⟨st,fr,off,hF1,hF2⟩:=hT.file _ hx r7;obtain ⟨⟨iu',hu'⟩,⟨ig',hg'⟩⟩:=hT.uid _ hx;refine ⟨⟨k0,k1⟩,by omega,λ_=>⟨hT.Md,by omega,⟨⟨_,hu'⟩⟩,λiu iu0 _ iu2 _=>⟨hT.Md,by omega,⟨⟨_,hg'⟩⟩,λig ig0 _ ig2 _=>⟨hm.xa,T,s.RX,s.fX,hW.x,hB.aee,by omega,by omega,λA3' AO AM zE xa hX1 hX2 hX3 hX4 hX5 hX6 _=>?_⟩⟩⟩⟩;have hN:=VM hT hx r7 (s:= {s with RX:=AO,fX:=AM,Ms:=zE}) iu0 iu2 ig0 ig2 hX6 hF1 hF2;rw [hF1];dsimp only [gB];have hrl:=Ir hN.ok;refine ⟨hN.ok,λ_ _=>⟨T,s.RI,s.fI,hW.i,by omega,λA' r1 fs' hW2 wj _=>⟨by omega,?_⟩⟩⟩;obtain ⟨x1,x2,_,_,hmw⟩:=hW.i;have hq:=sA hmw;have NB:=wj [];rw [bf] at NB;obtain ⟨hBu,hLu⟩:=hB.put (by omega) k0 k1 V7 hX2 hX3 hX4 (fs:=fs') wj (by omega) (λo=>Co hmw) hN;have JI:(Kk.put .int s.Mr (aA noTy L k).2.1 (r1:Int):List (Int×Int)).length=s.Mr.length+1:=mu V7;have Ak:Kk.get .int (Kk.put .int s.Mr (aA noTy L k).2.1 (r1:Int):List (Int×Int)) (aA noTy L k).2.1=some (r1:Int):=fq (k:=.int);exact h A' A2 A3' (s.put (aA noTy L k).2.1 r1 _ fs' AO AM zE) r1 ⟨hW2,hW.l,hX1⟩ (by show zE.length<=(Kk.put .int s.Mr (aA noTy L k).2.1 (r1:Int):List (Int×Int)).length;rw [JI];omega) ⟨hBu,hLu,λy q1 q2 q3=>hBu.cov hT (y.1.length - (aA noTy L k).1.length) hx ⟨_,Ak⟩ q1 q2 (by omega),λi r q=>by
    by_cases hi:i=(aA noTy L k).2.1;exact .inr ⟨_,hx,hi.symm,tj _,aG _⟩
    .have q:Kk.get .int (Kk.put .int s.Mr (aA noTy L k).2.1 (r1:Int):List (Int×Int)) i=some r:=q;rw [iR (k:=.int) hi] at q;exact .inl q⟩ Ak
  .have hnf:=hT.nofile _ hx (by rw [hk3];decide);obtain ⟨⟨iu',hu'⟩,⟨ig',hg'⟩⟩:=hT.uid _ hx;refine ⟨⟨k0,k1⟩,by omega,λ_=>⟨hT.Md,by omega,⟨⟨_,hu'⟩⟩,λiu iu0 _ iu2 _=>⟨hT.Md,by omega,⟨⟨_,hg'⟩⟩,λig ig0 _ ig2 _=>⟨hm.xa,T,s.RX,s.fX,hW.x,hB.aee,by omega,by omega,λA3' AO AM zE xa hX1 hX2 hX3 hX4 hX5 hX6 _=>?_⟩⟩⟩⟩;have hN:=VL hT hx hk3 (s:= {s with RX:=AO,fX:=AM,Ms:=zE}) iu0 iu2 ig0 ig2 hX6;rw [hnf];dsimp only [gB];have hrl:=Ir hN.ok;refine ⟨hN.ok,λ_ _=>⟨T,s.RI,s.fI,hW.i,by omega,λA' r1 fs' hW2 wj _=>⟨by omega,?_⟩⟩⟩;obtain ⟨x1,x2,_,_,hmw⟩:=hW.i;have hq:=sA hmw;have NB:=wj [];rw [bf] at NB;obtain ⟨hBu,hLu⟩:=hB.put (by omega) k0 k1 V7 hX2 hX3 hX4 (fs:=fs') wj (by omega) (λo=>Co hmw) hN;have JI:(Kk.put .int s.Mr (aA noTy L k).2.1 (r1:Int):List (Int×Int)).length=s.Mr.length+1:=mu V7;have Ak:Kk.get .int (Kk.put .int s.Mr (aA noTy L k).2.1 (r1:Int):List (Int×Int)) (aA noTy L k).2.1=some (r1:Int):=fq (k:=.int);exact h A' A2 A3' (s.put (aA noTy L k).2.1 r1 _ fs' AO AM zE) r1 ⟨hW2,hW.l,hX1⟩ (by show zE.length<=(Kk.put .int s.Mr (aA noTy L k).2.1 (r1:Int):List (Int×Int)).length;rw [JI];omega) ⟨hBu,hLu,λy q1 q2 q3=>hBu.cov hT (y.1.length - (aA noTy L k).1.length) hx ⟨_,Ak⟩ q1 q2 (by omega),λi r q=>by
    by_cases hi:i=(aA noTy L k).2.1;exact .inr ⟨_,hx,hi.symm,tj _,aG _⟩
    .have q:Kk.get .int (Kk.put .int s.Mr (aA noTy L k).2.1 (r1:Int):List (Int×Int)) i=some r:=q;rw [iR (k:=.int) hi] at q;exact .inl q⟩ Ak
theorem KY:∀ (n:Nat) args H Q,jZ n args H Q->Wp Inv cg 51 args H Q
 | 0=>by
  intro args H Q h;unfold jZ at h;split at h
  .obtain ⟨hT,⟨k0,k1,k2⟩,_⟩:=h;have:=hT.deep _ (tv (e:=noTy) k0 k1);omega
  grind
 | n+1=>O3 n (KY n)
def WN:Ct:=jZ 17
theorem U3:cq 51 WN:=KY 17
end Go.Proofs

namespace Go.Lm
open Go
abbrev ag0 (st sz fr off:Int):eA.den:=(0,0,0,0,0,0,st,sz,fr,off,⟨#[]⟩,())
structure aga (T:List Int) (fi:Int) (b row:List UInt8) (bg:List Int) (F:List (Int×eA.den)) (x:bc):Prop where
 ex:∃ st fr off,Kk.get .int F x.2.1=some (ag0 st x.2.2.2.2.1.length fr off)/\zB T fi b st x.2.2.2.2.1/\oZ row bg fr off (x.2.2.2.2.1.drop (128*(x.2.2.2.2.1.length / 128)))
structure r9 (R:List bc) (T:List Int) (fi:Int) (b row:List UInt8) (bg:List Int) (F:List (Int×eA.den)):Prop where
 file:∀ x∈R,x.2.2.1=2->aga T fi b row bg F x
 no:∀ i r,Kk.get .int F i=some r->∃ x∈R,x.2.1=i/\x.2.2.1=2
 len:F.length<=R.length
variable {R:List bc} {T:List Int} {fi:Int} {b row:List UInt8} {bg:List Int} {F:List (Int×eA.den)}
theorem r9.nil:r9 [] T fi b row bg []:=⟨by grind,λi r h=>(by cases h),aG _⟩
theorem aga.app {x:bc} (h:aga T fi b row bg F x) (c:List UInt8):aga T fi (b++c) row bg F x:=by
 obtain ⟨st,fr,off,h1,h2,h3⟩:=h;exact ⟨st,fr,off,h1,h2.app c,h3⟩
theorem r9.app (h:r9 R T fi b row bg F) (c:List UInt8):r9 R T fi (b++c) row bg F:=⟨λx hx hk=>(h.file x hx hk).app c,h.no,h.len⟩
theorem r9.skip (h:r9 R T fi b row bg F) {x:bc} (ql:∀ y∈R,y.2.1=x.2.1->y.2.2=x.2.2) (hx:x.2.2.1≠2\/Kk.get .int F x.2.1≠none):r9 (R++ [x]) T fi b row bg F:=by
 refine ⟨λy hy hk=>?_,λi r q=>?_,by rw [af];have:=h.len;omega⟩
 .rcases aV.1 hy with hy| hy
  .exact h.file y hy hk
  .obtain rfl:=aU.1 hy;rcases hx with hx| hx
   .omega
   .obtain ⟨r,hr⟩:=Option.ne_none_iff_exists'.1 hx;obtain ⟨z,hz,e,hzk⟩:=h.no _ _ hr;obtain ⟨st,fr,off,h1,h2,h3⟩:=h.file z hz hzk;have e2:=ql z hz e;rw [e] at h1;rw [e2] at h1 h2 h3;exact ⟨st,fr,off,h1,h2,h3⟩
 .obtain ⟨z,hz,q⟩:=h.no i r q
  grind
theorem r9.put (h:r9 R T fi b row bg F) {x:bc} (hn:Kk.get .int F x.2.1=none) (hk:x.2.2.1=2) {b' lz:List UInt8} {zt:List Int} {st fr off:Int} (hb:∃ c,b'=b++c) (hS:zB T fi b' st x.2.2.2.2.1) (hT:oZ lz zt fr off (x.2.2.2.2.1.drop (128*(x.2.2.2.2.1.length / 128)))) (hK:∀ nu off u,oZ row bg nu off u->oZ lz zt nu off u):r9 (R++ [x]) T fi b' lz zt (Kk.put .int F x.2.1 (ag0 st x.2.2.2.2.1.length fr off)):=by
 obtain ⟨c,rfl⟩:=hb;refine ⟨λy hy hyk=>?_,λi r q=>?_,?_⟩
 .rcases aV.1 hy with hy| hy
  .obtain ⟨st',fr',ajl,h1,h2,h3⟩:=h.file y hy hyk;refine ⟨st',fr',ajl,?_,h2.app c,hK _ _ _ h3⟩
   grind [iR]
  .obtain rfl:=aU.1 hy;exact ⟨st,fr,off,fq (k:=.int),hS,hT⟩
 .by_cases hi:i=x.2.1
  .grind
  .rw [iR (k:=.int) hi] at q;obtain ⟨z,hz,q⟩:=h.no i r q
   grind
 .rw [mu (k:=.int) hn,af];have:=h.len
  grind
structure rV (T:List Int) (fi:Int) (b:List UInt8) (bs:List (List UInt8)) (pl:List Int):Prop where
 len:pl.length=bs.length
 ats:∀ (i:Nat) a x,pl[i]?=some a->bs[i]?=some x->∃ (o:Nat) (z r:List UInt8),a=fi+o/\D8 T x z/\b.drop o=z++r/\o<=b.length
theorem rV.nil:rV T fi b [] []:=⟨rfl,by grind⟩
theorem rV.step {bs:List (List UInt8)} {pl:List Int} (h:rV T fi b bs pl) {x z:List UInt8} (hz:D8 T x z):rV T fi (b++z) (bs++ [x]) (pl++ [fi+b.length]):=by
 refine ⟨by simp [h.len],λi a y h1 h2=>?_⟩;rcases eT i pl.length with hl| hl
 .rw [bF hl] at h1;rw [bF (by rw [<-h.len];exact hl)] at h2;obtain ⟨o,w,r,q1,q2,q3,q4⟩:=h.ats i a y h1 h2;exact ⟨o,w,r++z,q1,q2,by rw [eQ q4,q3,aM],by rw [af];omega⟩
 .have fB:=(aw.1 h1).1;rw [af,aE] at fB;obtain rfl:i=pl.length:=by omega
  rw [h.len,bD (aG _),Nat.sub_self] at h2;obtain rfl:fi+b.length=a:=by simpa using h1
  obtain rfl:x=y:=by simpa using h2
  exact ⟨b.length,z,[],rfl,hz,by rw [lR,bf],by rw [af];omega⟩
end Go.Lm

namespace Go.Proofs
open Go Go.Lm Go.RowKit
set_option maxRecDepth 1000000
def HE:Ct
 | [.v (.c (.p 0 0)),.v (.c (.p 7 0))],[.cells 120 [.p 1 0,.p 2 0,.p 3 0,.d (.pair (.sl .str) (.pair (.int .i64) (.pair (.int .i64) (.pair (.pair (.int .i64) (.pair (.int .i64) (.pair (.int .i64) .unit))) (.pair (.sl .u8) (.pair .str (.pair (.sl (.pair .str (.pair (.sl .u8) .unit))) (.pair .bool .unit)))))))) L,.d (.int .i64) ids,.m 4,.m 5,.m 6],.abs A1,.abs A2,.abs A3,.map 3 .int (.int .i64) Mr,.map 3 .int (.pair (.int .i64) (.pair (.int .i64) (.pair (.int .i64) (.pair (.int .i64) (.pair (.int .i64) (.pair (.int .i64) (.pair (.int .i64) (.pair (.int .i64) (.pair (.int .i64) (.pair (.int .i64) (.pair .str .unit))))))))))) F,.map 9 .str (.int .i64) Ms,.abs AW],Q=>(L.length<=40/\(∀ x∈L,x.2.2.2.2.1.length<=4096)/\(∀ x∈L,∀ y∈L,x.2.1=y.2.1->x.2.2=y.2.2)/\F.length=0)/\∃ T fi,AW=j4 [.cells 157 [.de (.int .u32) T 0 0,.k (.int .i64 fi),.o 1,.m 2],.sl 5 .u8 [],.map 9 .str (.int .i64) []]/\T.length=256/\(0<=fi/\fi<=1000000)/\∀ F' b' M' row bg pl,r9 L T fi b' row bg F'->AR row bg->rV T fi b' (lZ row bg bg.length) pl->b'.length<=180000->pl.length<=40->Q (.c (.d (.int .i64) pl)) [.cells 120 [.p 1 0,.p 2 0,.p 3 0,.d noTy L,.d (.int .i64) ids,.m 4,.m 5,.m 6],.abs A1,.abs A2,.abs A3,.map 3 .int (.int .i64) Mr,.map 3 .int eA F',.map 9 .str (.int .i64) Ms,.abs (j4 [.cells 157 [.de (.int .u32) T 0 0,.k (.int .i64 fi),.o 1,.m 2],.sl 5 .u8 b',.map 9 .str (.int .i64) M'])]
 | _,_,_=>False
def aly:=((((gp.add Bm).add KV).add KR).add XV).add XU
abbrev SP (y0:List bc) (y1):=List.drop (gf*(List.length (aA noTy y0 y1).2.2.2.2.1 / gf)) (aA noTy y0 y1).2.2.2.2.1
abbrev agp (y0:List bc) (y1) (y2) (y3) (y4) (y5:_->Prop):=(List.length (aA noTy y0 y1).2.2.2.2.1<=9223372036854775807->∃ T fi b M,y2=j4 [.cells 157 [Cl.de (.int .u32) T ah bx,.k (aC fi),.o 1,Cl.m a7],.sl 5 Ty.u8 b,kT M]/\((List.length T=bI/\List.length (aA noTy y0 y1).2.2.2.2.1<=4096/\DW fi b M)/\(0<=fi/\fi<=1000000)/\List.length b<=10000000/\List.length M<=100000)/\∀ (st:Int) (b':List UInt8) (M':List (ByteArray×Int)),DW fi b' M'->(∃ c,b'=b++c)->zB T fi b' st (aA noTy y0 y1).2.2.2.2.1->List.length b'<=List.length b+4320->List.length M'<=List.length M+1->aB .i64 st->aJ (List.length (SP y0 y1))->∃ row bg,y3=j4 [.cells 213 [.o 1,.o 2],.sl 5 Ty.u8 row,.sl 3 bq bg]/\(AR row bg/\List.length row<=10000000/\List.length bg<=100000/\List.length (SP y0 y1)< 128)/\∀ (nu off:Int) (lz:List UInt8) (zt:List Int),AR lz zt->oZ lz zt nu off (SP y0 y1)->(∀ (nu off:Int) (u:List UInt8),oZ row bg nu off u->oZ lz zt nu off u)->List.length lz<=List.length row+128->List.length zt<=List.length bg+1->aB .i64 nu->aB .i64 off->List.length y4< 9223372036854775807/\aB .i64 (y1+1)/\y5 ((y1+1,()),Kk.put Kk.int y4 (aA noTy y0 y1).2.1 (ah,ah,ah,ah,ah,ah,st,(↑(List.length (aA noTy y0 y1).2.2.2.2.1):Int),nu,off,ByteArray.mk #[],()),j4 [.cells 157 [Cl.de (.int .u32) T ah bx,.k (aC fi),.o 1,Cl.m a7],.sl 5 Ty.u8 b',kT M'],j4 [.cells 213 [.o 1,.o 2],.sl 5 Ty.u8 lz,.sl 3 bq zt],()))
abbrev PJ (y0) (y1:List bc) (y2) (y3:_->Prop) (y4) (y5) (y6):=Ty.ok eA (CO y0 y1 y2)->br (Option.isSome (Kk.get Kk.int y0 (aA noTy y1 y2).2.1)) (cj y2 (y3 ((y2+1,()),y4))) (br ((aA noTy y1 y2).2.2.1 !=2) (cj y2 (y3 ((y2+1,()),y4))) (agp y1 y2 y5 y6 y0 y3))
abbrev fV {A0:Type} (y0:List A0) (R:Prop):=List.length y0<=10000000/\R
abbrev sJ (y0) (y1):=lZ y0 y1 (bw y1)
def BP (L:List bc) (ids:List Int) (A1 A2 A3:Value->Atom) (Mr:(List (Int×Int))) (F:(List (Int×eA.den))) (Ms:(List (ByteArray×Int))) (AW:Value->Atom):dq:=λQ=>List.length L<=9223372036854775807->aK (λi ag=>br (decide (i.1.1< (ay L))) (0<=i.1.1/\i.1.1< (ay L)/\(Ty.ok noTy (aA noTy L i.1.1)->(PJ i.2.1 L i.1.1 ag i.2 i.2.2.1 i.2.2.2.1)/\ 
 (PJ i.2.1 L i.1.1 ag i.2 i.2.2.1 i.2.2.2.1))) (∃ row bg,i.2.2.2.1=j4 [.cells 213 [.o 1,.o 2],.sl 5 Ty.u8 row,.sl 3 bq bg]/\(AR row bg/\fV row (List.length bg<=100000))/\(aJ (List.length (sJ row bg))->aJ 
 (List.length (sJ row bg))->aK (λbG ag=>br (decide (bG.1.1< (aP (sJ row bg)))) (0<=bG.1.1/\bG.1.1< (aP (sJ row bg))/\(Ty.ok bC (aA bC (sJ row bg) bG.1.1)->∃ T fi b M,bG.2.1=j4 [.cells 157 
 [Cl.de (.int .u32) T ah bx,.k (aC fi),.o 1,Cl.m a7],.sl 5 Ty.u8 b,kT M]/\dO T (List.length (aA bC (sJ row bg) bG.1.1)<=128/\(0<=fi/\fi<=1000000)/\jd b (∀ (z:List UInt8),D8 T (aA bC (sJ row 
 bg) bG.1.1) z->aB .i64 (fi+(ay b))->(List.length bG.1.2.1+List.length [fi+(ay b)])*8<=cd/\List.length bG.1.2.1+List.length [fi+(ay b)]<=9223372036854775807/\cj bG.1.1 (ag ((bG.1.1+1,bG.1.2.1++ [fi+ 
 (ay b)],()),j4 (List.map (λl=>HO.fj (iD [bx,eZ,a7]) (lF [.cells 157 [Cl.de (.int .u32) T ah bx,.k (aC fi),.o 3,Cl.m a7],.gone,kT M,.sl 5 Ty.u8 (b++z)] l)) [bx,eZ,a7]),())))))) (Q 
 (SV.v (S1.c (.o 8))) [wS L ids,HO.abs A1,HO.abs A2,HO.abs A3,wQ Mr,wR i.2.1,kT Ms,HO.abs bG.2.1,.sl 3 bq bG.1.2.1])) ((ah,[],()),i.2.2.1,())))) ((ah,()),F,AW,j4 (List.map (λl=>HO.fj (iD [bx, 
 bH,a7]) (lF [.cells 213 [.o 1,.o 2],.sl 5 Ty.u8 [],.sl 3 bq []] l)) [bx,bH,a7]),())
theorem U5:cq 50 HE:=by
 intro args H Q h;unfold HE at h;split at h;rotate_left;cases h;rename_i L ids A1 A2 A3 Mr F Ms AW;refine Wp.kE [some (.sl (.int .i64))] [8] ?_;refine Wp.dy aly pB ⟨[(4,⟨[(22,.int .i64)],[(5,.map 3 .int eA),(7,.abs),(8,.abs)]⟩),(16,⟨[(74,.int .i64),(13,.own 3 (.int .i64))],[(7,.abs)]⟩)],[]⟩ Tryz.f50 (BP L ids A1 A2 A3 Mr F Ms AW) ?_;unfold BP sJ jd fV PJ dO cj agp SP bw cd aC CO ah aP ay aJ bx bH gf a7 bI eZ wS wR wQ kT bC bq;obtain ⟨⟨hl,aqf,ql,hF0⟩,T,fi,rfl,hT,⟨f0,f1⟩,h⟩:=h;obtain rfl:=bB hF0;refine λ_=>aK.intro (λi=>∃ (j:Nat) (b:List UInt8) (M:List (ByteArray×Int)) (row:List UInt8) (bg:List Int),j<=L.length/\i.1.1=(j:Int)/\i.2.2.1=j4 [.cells 157 [.de (.int .u32) T 0 0,.k (.int .i64 fi),.o 1,.m 2],.sl 5 .u8 b,.map 9 .str (.int .i64) M]/\i.2.2.2.1=j4 [.cells 213 [.o 1,.o 2],.sl 5 .u8 row,.sl 3 (.int .i64) bg]/\r9 (L.take j) T fi b row bg i.2.1/\DW fi b M/\AR row bg/\b.length<=4320*j/\M.length<=j/\row.length<=128*j/\bg.length<=j) (λi=>L.length - i.1.1.toNat) ⟨0,[],[],[],[],cM _,rfl,rfl,rfl,r9.nil,⟨λp hp=>by cases hp⟩,AR.nil,aG _,aG _,aG _,aG _⟩ ?_;rintro ⟨⟨i,_⟩,F,AW,AT,_⟩ ⟨j,b,M,row,bg,hj,h1,h2,h3,h4,h5,h6,h7,h8,h9,h10⟩;simp only at h1 h2 h3 h4 ⊢;subst h1 h2 h3
 try dsimp only
 refine ak (λhc=>?_) (λhc=>?_)
 .have vX:(j:Int)< L.length:=of_decide_eq_true hc;have uS:j< L.length:=by omega
  have ek:aA noTy L (j:Int)=L[j]:=gP (e:=noTy) uS;have ht:L.take (j+1)=L.take j++ [L[j]]:=bY uS;have hx:=aqf _ (dA uS);have ho:∀ y∈L.take j,y.2.1=(L[j]'uS).2.1->y.2.2=(L[j]'uS).2.2:=λy hy e=>ql y (List.mem_of_mem_take hy) _ (dA uS) e;have hFl:=h4.len;rw [aF] at hFl;rw [ek];generalize L[j]=x at ek ht hx ho ⊢;refine ⟨by omega,vX,λ_=>both λ_=>ak (λhg=>?_) (λhg=>ak (λhk=>?_) (λhk=>λ_=>?_))⟩;exact ⟨by unfold aB;omega,⟨j+1,b,M,row,bg,uS,by omega,rfl,rfl,by rw [ht];exact h4.skip ho (.inr (by intro e;rw [e] at hg;cases hg)),h5,h6,by omega,by omega,by omega,by omega⟩,by omega⟩;exact ⟨by unfold aB;omega,⟨j+1,b,M,row,bg,uS,by omega,rfl,rfl,by rw [ht];exact h4.skip ho (.inl (by simpa using hk)),h5,h6,by omega,by omega,by omega,by omega⟩,by omega⟩
  .have hn:Kk.get .int F x.2.1=none:=by simpa using hg
   have r7:x.2.2.1=2:=by simpa using hk
   have hdl:(x.2.2.2.2.1.drop (128*(x.2.2.2.2.1.length / 128))).length< 128:=by rw [aR];omega
   exact ⟨T,fi,b,M,rfl,⟨⟨hT,hx,h5⟩,⟨f0,f1⟩,by omega,by omega⟩,λst b' M' d1 d2 d3 d4 d5 _ _=>⟨row,bg,rfl,⟨h6,by omega,by omega,hdl⟩,λnu off lz zt t1 t2 t3 t4 t5 _ _=>⟨by omega,by unfold aB;omega,⟨j+1,b',M',lz,zt,uS,by omega,rfl,rfl,by rw [ht];exact h4.put hn r7 d2 d3 t2 t3,d1,t1,by omega,by omega,by omega,by omega⟩,by omega⟩⟩⟩
 .have hc:=of_decide_eq_false hc;obtain rfl:j=L.length:=by omega
  rw [fz] at h4;refine ⟨row,bg,rfl,⟨h6,by omega,by omega⟩,λ_ _=>?_⟩;have hbl:=qw row bg bg.length;have hbm:=WO h6;have aaf:=λF' b' M' pl=>h F' b' M' row bg pl;clear h;generalize lZ row bg bg.length=B at*;refine aK.intro (λi=>∃ (q:Nat) (c:List UInt8),q<=B.length/\i.1.1=(q:Int)/\i.2.1=j4 [.cells 157 [.de (.int .u32) T 0 0,.k (.int .i64 fi),.o 1,.m 2],.sl 5 .u8 (b++c),.map 9 .str (.int .i64) M]/\c.length<=135*q/\rV T fi (b++c) (B.take q) i.1.2.1) (λi=>B.length - i.1.1.toNat) ⟨0,[],cM _,rfl,by rw [bf],aG _,rV.nil⟩ ?_;rintro ⟨⟨i,pl,_⟩,AW,_⟩ ⟨q,c,hq,k1,k2,Qq,k3⟩;simp only at k1 k2 k3 ⊢;subst k1 k2
  try dsimp only
  have JF:=k3.len;rw [aF,py hq] at JF;refine ak (λhd=>?_) (λhd=>?_)
  .have hd1:(q:Int)< B.length:=of_decide_eq_true hd;have hq2:q< B.length:=by omega
   have ek:aA (.sl .u8) B (q:Int)=B[q]:=gP (e:=.sl .u8) hq2;have ht:B.take (q+1)=B.take q++ [B[q]]:=bY hq2;have hx:=hbm _ (dA hq2);rw [ek];generalize B[q]=x at ek ht hx ⊢;have hbc:(b++c).length<=180000:=by rw [af];omega
   refine ⟨by omega,hd1,λ_=>⟨T,fi,b++c,M,rfl,hT,hx.2,⟨f0,f1⟩,by omega,λz hz _=>⟨by simp only [aE];omega,by simp only [aE];omega,by unfold aB;omega,⟨q+1,c++z,hq2,by omega,by rw [<-aM];rfl,?_,?_⟩,by omega⟩⟩⟩
   .have:=hz.len;rw [af];omega
   .rw [ht,<-aM];exact k3.step hz
  .have hd:=of_decide_eq_false hd;obtain rfl:q=B.length:=by omega
   rw [fz] at k3;exact ⟨by show 8<=9;decide,aaf F (b++c) M pl (h4.app c) h6 k3 (by rw [af];omega) (by omega)⟩
end Go.Proofs

namespace Go.Lm
open Go
structure IR where
 s:ov.den
 b:List UInt8
 row:List UInt8
 bg:List Int
 pl:List Int
 ids:List Int
 F:List (Int×eA.den)
 t:BS
 fI:List (List UInt8)
 fL:List (List UInt8)
 fX:List (List UInt8)
 fP:List (List UInt8)
 fN:List (List UInt8)
def IR.im (d:IR) (T:List Int):List UInt8:=fJ T d.s++(d.b++(d.fI.flatten++(d.fL.flatten++(d.fP.flatten++(d.fN.flatten++d.fX.flatten)))))
structure IR.Ok (d:IR) (T:List Int) (L:List bc):Prop where
 tok:sb L d.ids d.F
 root:∃ x∈L,x.1= []/\x.2.2.1=1/\Kk.get .int d.t.Mr x.2.1=some d.s.2.2.2.2.2.2.2.2.2.1
 ok:Eb L d.ids d.F d.t 0
 all:∀ x∈L,∃ r,Kk.get .int d.t.Mr x.2.1=some r
 fl:r9 L T 64 d.b d.row d.bg d.F
 pk:AR d.row d.bg
 pls:rV T 64 d.b (lZ d.row d.bg d.bg.length) d.pl
 rI:kZ T d.fI d.t.RI/\∃ g,d.fI=d.t.fI++g
 rL:kZ T d.fL d.t.RL/\∃ g,d.fL=d.t.fL++g
 rX:kZ T d.fX d.t.RX/\∃ g,d.fX=d.t.fX++g
 rP:kZ T d.fP (gy 4 d.pl)
 rN:kZ T d.fN (gy 2 d.ids)
 idr:∀ y∈d.ids,0<=y/\y< 65536
 sup:rT d.s
 sI: @Eq Int d.s.2.2.1 (64+(d.b.length:Int))
 sL: @Eq Int d.s.2.2.2.1 (d.s.2.2.1+(d.fI.flatten.length:Int))
 sP: @Eq Int d.s.2.2.2.2.1 (d.s.2.2.2.1+(d.fL.flatten.length:Int))
 sN: @Eq Int d.s.2.2.2.2.2.1 (d.s.2.2.2.2.1+(d.fP.flatten.length:Int))
 sX: @Eq Int d.s.2.2.2.2.2.2.1 (d.s.2.2.2.2.2.1+(d.fN.flatten.length:Int))
 sZ: @Eq Int d.s.1 (d.s.2.2.2.2.2.2.1+(d.fX.flatten.length:Int))
 sn: @Eq Int d.s.2.1 ((d.t.Mr.length:Int))
 si: @Eq Int d.s.2.2.2.2.2.2.2.1 ((d.ids.length:Int))
 sf: @Eq Int d.s.2.2.2.2.2.2.2.2.1 ((d.pl.length:Int))
structure UC (im:List UInt8) (L:List bc):Prop where
 ex:∃ d:IR,d.Ok dB L/\im=d.im dB
theorem kZ.aap {T:List Int} {fs:List (List UInt8)} {R:List UInt8} (h:kZ T fs R):fs.flatten.length<=135*fs.length:=by
 have key:∀ n:Nat,n<=fs.length->fx fs n<=135*n:=by
  intro n
  induction n with
  | zero=>intro _;exact aG _
  | succ n ih=>
   intro hn;have hf:=(h.fr n fs[n] (by grind)).len
   grind [oc]
 grind [qx]
structure HL (l:List bc):Prop where
 nm:∀ x∈l,∀ s∈x.1,db s=0
 deep:∀ x∈l,x.1.length<=16
 tw:l.Pairwise λa b=>a.1≠b.1
 root:∃ x∈l,x.1= []/\x.2.2.1=1
 par:∀ x∈l,x.1.length≠0->∃ y∈l,y.2.2.1=1/\y.1=x.1.take (x.1.length - 1)
 may:∀ x∈l,gE x=true
 one:l.Pairwise λa b=>a.2.1=b.2.1->b.2.2.1≠1/\b.2.2=a.2.2
theorem kc {x:bc} (h:gE x=true):x.2.2.2.2.2.2.2.1=false/\(x.2.2.1=1\/x.2.2.1=2\/x.2.2.1=3):=by
 grind [gE]
theorem VO {x:bc} (h:gE x=true):P2 x=true:=by
 grind [kc, P2]
theorem HL.anC {l L:List bc} (g:HL l) (hp:L.Perm l) (ho:L.Pairwise λx y=>¬cmpL y.1 x.1< 0):UD L:=by
 have tw:L.Pairwise λa b=>a.1≠b.1:=hp.symm.pairwise g.tw (by grind);refine ⟨λx hx=>g.nm x (hp.mem_iff.1 hx),xR ho tw,?_,λx hx e=>?_,λx hx h0=>?_,λx hx=>VO (g.may x (hp.mem_iff.1 hx)),?_⟩
 .obtain ⟨x,hx,e,_⟩:=g.root
  grind
 .obtain ⟨y,hy,e1,e2⟩:=g.root
  grind [Zx]
 .obtain ⟨y,hy,e⟩:=g.par x (hp.mem_iff.1 hx) h0
  grind
 .have h4:L.Pairwise λa b=>a.2.1=b.2.1->b.2.2.1≠1/\b.2.2=a.2.2:=hp.symm.pairwise g.one (by grind);refine h4.imp_of_mem λ{a b} _ hb h e=>⟨(h e).1,?_,(h e).2⟩;rcases (kc (g.may b (hp.mem_iff.1 hb))).2 with q| q| q<;>rw [q]<;>decide
structure va (N:List bc):Prop where
 nm:∀ x∈N,∀ s∈x.1,db s=0
 ord:N.Pairwise λa b=>cmpL a.1 b.1< 0
 deep:∀ x∈N,x.1.length<=16
 par:∀ x∈N,x.1.length≠0->∃ y∈N,y.2.2.1=1/\y.1=x.1.take (x.1.length - 1)
 may:∀ x∈N,gE x=true
 one:∀ x∈N,∀ y∈N,x.2.1=y.2.1->(x.2.2.1=1->x=y)/\x.2.2=y.2.2
 ino:∀ x∈N,1<=x.2.1/\x.2.1<=(N.length:Int)
 pos:0< N.length
 root:(aA noTy N 0).1= []/\(aA noTy N 0).2.2.1=1/\(aA noTy N 0).2.1=1
 isB:∃ Y,IsB Y N
theorem PY:∀ (L:List bc) {m:List (Int×Int)},(∀ i z,Kk.get .int m i=some z->z<=(m.length:Int))->∀ i z,Kk.get .int (ia L m) i=some z->z<=((ia L m).length:Int)
 | [],_,h,i,z,hz=>h i z hz
 | x::L,m,h,i,z,hz=>by
  cases hg:Kk.get .int m x.2.1 with
  | some k=>rw [iO hg] at hz ⊢;exact PY L h i z hz
  | none=>
   rw [iP hg] at hz ⊢;refine PY L (λj y hy=>?_) i z hz
   grind [mu, fq, iR]
theorem aeH {x:bc} (p:List ByteArray) (i:Int):gE (p,i,x.2.2)=gE x:=rfl
theorem L4 {l L:List bc} (g:HL l) (hp:L.Perm l) (ho:L.Pairwise λx y=>¬cmpL y.1 x.1< 0):va (cZ L []):=by
 have gT:=g.anC hp ho;have hB:=aaq 0 0 gT;have ord:(cZ L []).Pairwise λa b=>cmpL a.1 b.1< 0:=aeD gT.ord;have mem:∀ c∈cZ L [],∃ x∈l,x.1=c.1/\x.2.2=c.2.2:=λc hc=>by
  obtain ⟨x,hx,q⟩:=Jl hc;exact ⟨x,hp.mem_iff.1 hx,q⟩
 have hlen:=jw L [];have xj:0< (cZ L []).length:=by
  obtain ⟨c,hc,_⟩:=hB.has;exact List.length_pos_of_mem hc
 have Di:∀ c∈cZ L [],gE c=true:=λc hc=>by
  obtain ⟨x,hx,e1,e2⟩:=mem c hc;have:=g.may x hx;rw [<-aeH x.1 x.2.1,e2] at this;exact this
 have apY:∀ x∈cZ L [],1<=x.2.1/\x.2.1<=((cZ L []).length:Int):=λx hx=>by
  obtain ⟨j,hj,rfl⟩:=dZ.1 hx;have hk:=wW L [] j (by rw [<-hlen];exact hj);have h1:=AZ L (m:=[]) (λi z q=>by cases q) _ _ hk;have h2:=PY L (m:=[]) (λi z q=>by cases q) _ _ hk;have h3:=tm L [];simp only [aY] at h3;exact ⟨h1,by omega⟩
 refine ⟨λx hx=>?_,ord,λx hx=>?_,λx hx h0=>?_,Di,λx hx y hy e=>?_,apY,xj,?_,⟨_,hB⟩⟩
 .obtain ⟨y,hy,e,_⟩:=mem x hx;rw [<-e];exact g.nm y hy
 .obtain ⟨y,hy,e,_⟩:=mem x hx;rw [<-e];exact g.deep y hy
 .obtain ⟨y,hy,hk,s,e⟩:=hB.par x hx (by intro q;rw [q] at h0;exact h0 rfl);exact ⟨y,hy,hk,by rw [e];simp⟩
 .have h1:=hB.get x hx;have h2:=hB.get y hy;rw [e,h2] at h1;have h3:=aj h1;have ox:=(kc (Di x hx)).1;have oy:=(kc (Di y hy)).1;refine ⟨λhk=>(hB.aay x hx y hy (.inl hk) e.symm).symm,?_⟩;obtain ⟨x1,x2,x3,x4,x5,x6,x7,x8,x9⟩:=x;obtain ⟨y1,y2,y3,y4,y5,y6,y7,y8,y9⟩:=y;simp only at ox oy;subst ox oy;unfold bc.bare at h3;simp only [Prod.mk.injEq] at h3 ⊢;simp_all
 .have hr:(aA noTy (cZ L []) 0).1= []:=by
   obtain ⟨c,hc,e⟩:=hB.has;obtain ⟨j,hj,rfl⟩:=dZ.1 hc;have e0:aA noTy (cZ L []) 0=(cZ L [])[0]:=gP (e:=noTy) (k:=0) xj;rw [e0];rcases Nat.eq_zero_or_pos j with q| q;subst q;exact e
   .have:=dx.1 ord 0 j xj hj q;rw [e] at this;exact absurd this (xu _)
  have hm:aA noTy (cZ L []) 0∈cZ L []:=tv (e:=noTy) (bh 0) (by omega);refine ⟨hr,?_,hB.root _ hm hr⟩;obtain ⟨x,hx,e1,e2⟩:=Jl hm;rw [<-e2];exact gT.agn x hx (by rw [e1,hr])
theorem CZ {m u g:Int} (h:AH m u g=true):(0<=u/\u<=65535)/\0<=g/\g<=65535:=by
 grind [AH, gN]
theorem oJ {x:bc} (h:gE x=true):((0<=vf x/\vf x<=65535)/\0<=zb x/\zb x<=65535)/\x.2.2.2.2.1.length<=4096:=by
 unfold gE at h;split at h
 .simp only [ao,beq_iff_eq] at h;exact ⟨CZ h.1.2,by omega⟩
 .split at h
  .simp only [ao,decide_eq_true_eq] at h;exact ⟨CZ h.1.2,by omega⟩
  .split at h
   .simp only [ao,beq_iff_eq] at h;exact ⟨CZ h.1.2,by omega⟩
   grind
theorem ajF {N:List bc} {ys:List Int} (g:va N) (h:OP N ys):∀ y∈ys,0<=y/\y< 65536:=λy hy=>by
 obtain ⟨n,hn,q⟩:=(h.mem y).1 hy;have:=(oJ (g.may n hn)).1;omega
theorem aiV {N:List bc} {ys:List Int} {F:List (Int×eA.den)} {T:List Int} {b row:List UInt8} {bg:List Int} (g:va N) (hl:N.length<=40) (hi:OP N ys) (hF:r9 N T 64 b row bg F) (hP:AR row bg) (hb:b.length<=180000) (hg:bg.length<=40):sb N ys F:=by
 refine ⟨hl,g.ord,g.nm,g.deep,g.par,g.may,g.one,λx hx=>by have:=g.ino x hx;omega,λx hx=>⟨?_,?_⟩,by have:=hi.len;omega,hi.Md,λx hx hk=>?_,λx hx hk=>?_⟩;exact List.mem_iff_getElem?.1 ((hi.mem _).2 (by grind));exact List.mem_iff_getElem?.1 ((hi.mem _).2 (by grind))
 .obtain ⟨st,fr,off,h1,h2,h3⟩:=hF.file x hx hk;have hx4:=(oJ (g.may x hx)).2;have htl:(x.2.2.2.2.1.drop (128*(x.2.2.2.2.1.length / 128))).length=x.2.2.2.2.1.length % 128:=by grind
  refine ⟨st,fr,off,h1,?_,by omega,?_,?_,?_⟩
  .rcases h2.or with ⟨_,rfl⟩| ⟨_,o,rfl,q⟩
   .decide
   .obtain ⟨_,_,_,_,_,q⟩:=q.ex;omega
  .rcases h3.or with ⟨_,rfl,_⟩| ⟨_,_,_,i,a,rfl,q,_⟩
   .decide
   grind
  .rcases h3.or with ⟨_,_,rfl⟩| ⟨q1,_,q2,i,a,_,q,q3,_⟩
   .decide
   .have:=hP.all i a q;omega
  .rcases h3.or with ⟨q0,rfl,rfl⟩| ⟨q1,_,q2,i,a,rfl,q,q3,_⟩
   .grind
   .omega
 .cases hq:Kk.get .int F x.2.1 with
  | none=>rfl
  | some r=>
   obtain ⟨y,hy,e,hyk⟩:=hF.no _ _ hq;have:=(g.one x hx y hy e.symm).2
   grind
theorem Eb.nil (L:List bc) (ids:List Int) (F:List (Int×eA.den)):Eb L ids F ⟨[],[],[],[],[],[],[],[]⟩ 0:=⟨λi r q=>(by cases q),⟨by grind⟩,λi j r q=>(by cases q),by simp,aG _,aG _,aG _,List.nodup_nil⟩
theorem Ze {T:List Int} {b:List UInt8} {bs:List (List UInt8)} {pl:List Int} (h:rV T 64 b bs pl) (hb:b.length<=2000000):∀ x∈pl,0<=x/\x< 4294967296:=λx hx=>by
 obtain ⟨i,hi⟩:=List.mem_iff_getElem?.1 hx;have hl:=(aw.1 hi).1;rw [h.len] at hl;obtain ⟨o,z,r,e,_,_,q⟩:=h.ats i x _ hi (aq hl);omega
theorem QJ (T:List Int) (s:ov.den) (x:List UInt8):mP (au 64 (0:Ty.den Ty.u8)++x) 0 (fJ T s)=fJ T s++x:=by
 simp [l7, mP, aL]
theorem ajE {N:List bc} {b row:List UInt8} {bg pl ids:List Int} {F:List (Int×eA.den)} {t:BS} {fI fL fX fP fN:List (List UInt8)} {q1 q2 q3 q4 q5:List UInt8} {r:Int} (e1:fI.flatten=q1) (e2:fL.flatten=q2) (e3:fP.flatten=q3) (e4:fN.flatten=q4) (e5:fX.flatten=q5) (tok:sb N ids F) (root:∃ x∈N,x.1= []/\x.2.2.1=1/\Kk.get .int t.Mr x.2.1=some r) (ok:Eb N ids F t 0) (all:∀ x∈N,∃ r,Kk.get .int t.Mr x.2.1=some r) (fl:r9 N dB 64 b row bg F) (pk:AR row bg) (pls:rV dB 64 b (lZ row bg bg.length) pl) (rI:kZ dB fI t.RI/\∃ g,fI=t.fI++g) (rL:kZ dB fL t.RL/\∃ g,fL=t.fL++g) (rX:kZ dB fX t.RX/\∃ g,fX=t.fX++g) (rP:kZ dB fP (gy 4 pl)) (rN:kZ dB fN (gy 2 ids)) (idr:∀ y∈ids,0<=y/\y< 65536) (hS:rT ((((au 64 (0:Ty.den Ty.u8)++b++q1++q2++q3++q4++q5).length:Nat):Int),((t.Mr.length:Nat):Int),(((au 64 (0:Ty.den Ty.u8)++b).length:Nat):Int),(((au 64 (0:Ty.den Ty.u8)++b++q1).length:Nat):Int),(((au 64 (0:Ty.den Ty.u8)++b++q1++q2).length:Nat):Int),(((au 64 (0:Ty.den Ty.u8)++b++q1++q2++q3).length:Nat):Int),(((au 64 (0:Ty.den Ty.u8)++b++q1++q2++q3++q4).length:Nat):Int),((ids.length:Nat):Int),((pl.length:Nat):Int),r,())):UC (mP (au 64 (0:Ty.den Ty.u8)++b++q1++q2++q3++q4++q5) 0 (fJ dB ((((au 64 (0:Ty.den Ty.u8)++b++q1++q2++q3++q4++q5).length:Nat):Int),((t.Mr.length:Nat):Int),(((au 64 (0:Ty.den Ty.u8)++b).length:Nat):Int),(((au 64 (0:Ty.den Ty.u8)++b++q1).length:Nat):Int),(((au 64 (0:Ty.den Ty.u8)++b++q1++q2).length:Nat):Int),(((au 64 (0:Ty.den Ty.u8)++b++q1++q2++q3).length:Nat):Int),(((au 64 (0:Ty.den Ty.u8)++b++q1++q2++q3++q4).length:Nat):Int),((ids.length:Nat):Int),((pl.length:Nat):Int),r,()))) N:=by
 refine ⟨⟨((((au 64 (0:Ty.den Ty.u8)++b++q1++q2++q3++q4++q5).length:Nat):Int),((t.Mr.length:Nat):Int),(((au 64 (0:Ty.den Ty.u8)++b).length:Nat):Int),(((au 64 (0:Ty.den Ty.u8)++b++q1).length:Nat):Int),(((au 64 (0:Ty.den Ty.u8)++b++q1++q2).length:Nat):Int),(((au 64 (0:Ty.den Ty.u8)++b++q1++q2++q3).length:Nat):Int),(((au 64 (0:Ty.den Ty.u8)++b++q1++q2++q3++q4).length:Nat):Int),((ids.length:Nat):Int),((pl.length:Nat):Int),r,()),b,row,bg,pl,ids,F,t,fI,fL,fX,fP,fN⟩,⟨tok,root,ok,all,fl,pk,pls,rI,rL,rX,rP,rN,idr,hS,?_,?_,?_,?_,?_,?_,rfl,rfl,rfl⟩,?_⟩
 .show (((au 64 (0:Ty.den Ty.u8)++b).length:Nat):Int)=_;rw [af,aX];rfl
 .show (((au 64 (0:Ty.den Ty.u8)++b++q1).length:Nat):Int)=(((au 64 (0:Ty.den Ty.u8)++b).length:Nat):Int)+(fI.flatten.length:Int);rw [e1,af (bs:=q1)];rfl
 .show (((au 64 (0:Ty.den Ty.u8)++b++q1++q2).length:Nat):Int)=(((au 64 (0:Ty.den Ty.u8)++b++q1).length:Nat):Int)+(fL.flatten.length:Int);rw [e2,af (bs:=q2)];rfl
 .show (((au 64 (0:Ty.den Ty.u8)++b++q1++q2++q3).length:Nat):Int)=(((au 64 (0:Ty.den Ty.u8)++b++q1++q2).length:Nat):Int)+(fP.flatten.length:Int);rw [e3,af (bs:=q3)];rfl
 .grind
 .grind
 .unfold IR.im;rw [show (au 64 (0:Ty.den Ty.u8)++b++q1++q2++q3++q4++q5)=au 64 (0:Ty.den Ty.u8)++(b++(q1++(q2++(q3++(q4++q5))))) by simp only [aM],QJ,<-e1,<-e2,<-e3,<-e4,<-e5]
end Go.Lm

namespace Go.Proofs
open Go Go.Lm Go.RowKit
set_option maxRecDepth 1000000
theorem TF {a b:List UInt8}:NU a b=true↔a=b:=by
 grind [NU, gO, fY]
theorem Q4 {x y:u9}:rB x y=true↔x=y:=by
 grind [rB, gO, TF]
theorem Ax:∀ {a b:List u9},gh a b=true↔a=b
 | [],[]=>by simp [gh]
 | [],_::_=>by simp [gh]
 | _::_,[]=>by simp [gh]
 | x::a,y::b=>by
  unfold gh;rw [ao,Q4,Ax];simp
theorem wi {x y:bc}:jE x y=true↔x.2.2=y.2.2:=by
 unfold jE;simp only [ao,gO,TF,Ax,beq_iff_eq,Bool.and_true]
 grind
theorem lf:∀ {a b:List ByteArray},gd a b=true↔a=b
 | [],[]=>by simp [gd]
 | [],_::_=>by simp [gd]
 | _::_,[]=>by simp [gd]
 | x::a,y::b=>by
  unfold gd;rw [ao,gO,lf];simp
theorem qi {k:Kk} {α:Type} {l:List (k.den×α)} {x:k.den} {v:α}:Kk.get k (Kk.put k l x v) x=some v:=by
 unfold Kk.get Kk.put iS qY;simp
theorem xd {k:Kk} {α:Type} {l:List (k.den×α)} {x y:k.den} {v:α} (h:y≠x):Kk.get k (Kk.put k l x v) y=Kk.get k l y:=by
 grind [Kk.get, Kk.put, iS, qY, pf]
theorem V2 (x:bc):js x.1 x=true:=by simp [js, lf]
def ud (l:List bc):Prop:=∀ x∈l,∀ s∈x.1,db s=0
theorem GS {p q:List ByteArray} (hp:∀ s∈p,db s=0) (hq:∀ s∈q,db s=0) (h:qj p=qj q):p=q:=by
 have e:=Go.LmN.ZR (p:=p) (q:=q) (λs hs=>by rw [vc];exact hp s hs) (λs hs=>by rw [vc];exact hq s hs)
 grind [Go.LmN.xY, Go.LmN.ZL]
theorem re:∀ {l:List bc} {m:List (ByteArray×bc)},ud l->((lW l m).isSome=true↔(l.Pairwise λa b=>a.1≠b.1)/\∀ x∈l,Kk.get .str m (qj x.1)=none)
 | [],m,_=>by simp [lW]
 | x::r,m,ok=>by
  have okr:ud r:=λy hy=>ok y (aI _ hy);unfold lW;cases hg:Kk.get .str m (qj x.1) with
  | some o=>
   grind
  | none=>
   rw [if_neg (by simp),re okr,eV];constructor
   .rintro ⟨h1,h2⟩;refine ⟨⟨λy hy e=>?_,h1⟩,λy hy=>?_⟩
    .have:=h2 y hy;rw [<-e,qi] at this;cases this
    .rcases bm.1 hy with rfl| hy
     .exact hg
     .have:=h2 y hy;by_cases e:qj y.1=qj x.1
      .rw [e,qi] at this;cases this
      .rwa [xd (k:=.str) e] at this
   .rintro ⟨⟨h1,h2⟩,h3⟩;refine ⟨h2,λy hy=>?_⟩;rw [xd (k:=.str) λe=>h1 y hy (GS (ok x aN) (okr y hy) e.symm)];exact h3 y (aI _ hy)
theorem yV:∀ {l:List bc} {m m':List (ByteArray×bc)},ud l->lW l m=some m'->∀ p:List ByteArray,(∀ s∈p,db s=0)->Kk.get .str m' (qj p)=match l.find? (js p) with
   | some x=>some x
   | none=>Kk.get .str m (qj p)
 | [],m,m',_,h,p,_=>by
  obtain rfl:m=m':=aj h;rfl
 | x::r,m,m',ok,h,p,hp=>by
  have okr:ud r:=λy hy=>ok y (aI _ hy);have hs:=(re ok).1 (by rw [h];rfl);unfold lW at h;split at h;cases h
  .rw [yV okr h p hp,List.find?_cons];by_cases e:x.1=p
   .grind [js, eV, lf, qi]
   .have hn:js p x=false:=by
     unfold js;rw [<-Bool.not_eq_true,lf];exact e
    rw [hn];cases r.find? (js p) with
    | some y=>rfl
    | none=>exact xd λq=>e (GS (ok x aN) hp q.symm)
theorem rh:∀ {l:List bc} {m:List (Int×bc)},iB l m=0↔(l.Pairwise λa b=>a.2.1=b.2.1->b.2.2.1≠1/\b.2.2=a.2.2)/\∀ x∈l,∀ o,Kk.get .int m x.2.1=some o->x.2.2.1≠1/\x.2.2=o.2.2
 | [],m=>by simp [iB]
 | x::r,m=>by
  unfold iB;rw [eV];cases hg:Kk.get .int m x.2.1 with
  | none=>
   rw [rh (l:=r)];constructor
   .rintro ⟨h1,h2⟩;refine ⟨⟨λy hy e=>h2 y hy x (by rw [<-e];exact qi),h1⟩,λy hy o ho=>?_⟩;rcases bm.1 hy with rfl| hy
    .rw [hg] at ho;cases ho
    .by_cases e:y.2.1=x.2.1
     .rw [e,hg] at ho;cases ho
     .exact h2 y hy o (by rw [xd (k:=.int) e];exact ho)
   .rintro ⟨⟨h1,h2⟩,h3⟩;refine ⟨h2,λy hy o ho=>?_⟩;by_cases e:y.2.1=x.2.1
    .rw [e,qi] at ho;obtain rfl:=aj ho;exact h1 y hy e.symm
    .rw [xd (k:=.int) e] at ho;exact h3 y (aI _ hy) o ho
  | some o=>
   simp only;by_cases hb:(x.2.2.1==1|| !jE x o)=true
   .rw [if_pos hb];constructor
    .intro h;cases h
    .rintro ⟨_,h⟩;obtain ⟨h1,h2⟩:=h x aN o hg;rw [wi.2 h2] at hb;simp [h1] at hb
   .rw [if_neg hb,rh (l:=r)];simp only [kq,beq_iff_eq,cY,not_or,Bool.not_eq_false,wi] at hb;constructor
    .rintro ⟨h1,h2⟩;refine ⟨⟨λy hy e=>?_,h1⟩,λy hy o' ho=>?_⟩
     .obtain ⟨h3,h4⟩:=h2 y hy o (by rw [<-e];exact hg);exact ⟨h3,h4.trans hb.2.symm⟩
     .rcases bm.1 hy with rfl| hy
      .rw [hg] at ho;obtain rfl:=aj ho;exact hb
      .exact h2 y hy o' ho
    .rintro ⟨⟨_,h2⟩,h3⟩;exact ⟨h2,λy hy o' ho=>h3 y (aI _ hy) o' ho⟩
theorem Nq {l:List bc} (h:iz l=0) {p:List ByteArray} (hp:∀ s∈p,db s=0) (hk:kU (fc l) p=1):∃ x∈l,x.1=p/\x.2.2.1=1:=by
 obtain ⟨hN,hD,hs⟩:=qd (l:=l) (by rw [h];rfl);have ok:ud l:=iZ hN;cases hm:lW l [] with
 | none=>grind
 | some m=>
  have e:fc l=m:=by grind [fc]
  have hg:=yV ok hm p hp;rw [e] at hk;unfold kU at hk;rw [hg] at hk;cases hf:l.find? (js p) with
  | none=>rw [hf] at hk;exact absurd hk (show ¬((0:Int)=1) by decide)
  | some x=>
   grind [js, lf]
theorem L5 {l:List bc} (h:dw l=0):HL l:=by
 obtain ⟨_,h2,h3,h4,h5,h6⟩:=N6 h;obtain ⟨hN,hD,hs⟩:=qd (l:=l) (by rw [h2];rfl);have ok:=iZ hN;have tw:=((re (m:=[]) ok).1 hs).1;refine ⟨ok,λx hx=>A8 hD hx,tw,?_,λx hx h0=>?_,h5,(rh.1 h6).1⟩
 .grind [Nq]
 .have hq:(kU (fc l) (x.1.take (x.1.length - 1)) !=1)=false:=by
   grind [En]
  grind [Nq]
def afY:Ct:=cD (Ty.int .i64) λl=>cI λn=>cT λT=>c0 λQ=>T.length=256/\((n=2\/n=4)/\(∀ x∈l,0<=x/\x< 256 ^ n.toNat)/\l.length<=100000)/\∀ fs,kZ T fs (gy n.toNat l)->Q (.c (.d .u8 fs.flatten)) []
def alx:=(((gp.add EP).add Bh).add wq).add HV
abbrev yj (y0) (y1:List (List UInt8)):=List.length (ae (y0++y1))
def LR (l:(List ((Ty.int .i64)).den)) (n:Int) (T:List Int):dq:=λQ=>ix l (aB .i64 n->dO T (∀ (A:Value->Atom),WB A T [] []->(n=dm\/n=cA)/\(∀ (x:Ty.den bq),x∈l->(0:Ty.den bq)<=x/\x< (256:Ty.den bq) ^ ax n)/\List.length l<=100000/\(aJ 
 (List.length (gy (aS n) l))->aB .i64 0->∃ T R fs,WB A T R fs/\List.length R+List.length (gy (aS n) l)<=10000000/\∀ (A':Value->Atom) (r:Nat) (fs':List (List UInt8)),WB A' T (R++gy (aS n) l) (fs++fs')-> 
 (∀ (gs:List (List UInt8)),r=dS (fs++gs) (bw R))->aB .i64 (↑r:Int)->∃ T R fs,WB A' T R fs/\fV R (∀ (A':Value->Atom) (fs':List (List UInt8)),kZ T (fs++fs') R->aJ (yj fs fs')->Q (SV.v (S1.c (Cl.d Ty.u8 
 (ae (fs++fs'))))) []))))
theorem adX:cq 52 afY:=eI<| iH λl=>nF λn=>okT λT=>gx λQ h=>by
 refine Wp.dy alx pB ⟨[],[]⟩ Tryz.f52 (LR l n T) (hold:=[47]) ?_;unfold LR yj ix fV dO bw aS dm cA aJ bI bq;have hnl:=ka n.toNat l;have hb:(gy n.toNat l).length<=400000:=by
  grind
 grind
def TS:Ct
 | [.v (.c cl)],[],Q=>(match (Ty.sl noTy).of [cl] with
  | some (l,[])=>(l.length:Int)<=1000/\dw l≠0/\Q (.cC [.c (.d noTy []),.c (.k (.int .i64 (dw l)))]) []
  | _=>False)
 | _,_,_=>False
def TR:Ct
 | [.v (.c cl)],[],Q=>(match (Ty.sl noTy).of [cl] with
  | some (l,[])=>(l.length:Int)<=1000/\dw l=0/\∀ L':List bc,L'.Perm l->L'.Pairwise (λx y=>¬cmpL y.1 x.1< 0)->Q (.cC [.c (.d noTy (cZ L' [])),.c (.k (.int .i64 0))]) []
  | _=>False)
 | _,_,_=>False
theorem adr:cq 45 TS:=λargs H Q h=>by
 unfold TS at h;split at h
 .refine Ku _ _ _ ?_;unfold xz;split at h
  .rename_i hq;simp only [hq];exact ⟨h.1,by rw [show (dw _ !=0)=true by simpa using h.2.1];exact h.2.2⟩
  grind
 grind
theorem adq:cq 45 TR:=λargs H Q h=>by
 unfold TR at h;split at h
 .refine Ku _ _ _ ?_;unfold xz;split at h
  .rename_i hq;simp only [hq];exact ⟨h.1,by rw [show (dw _ !=0)=false by simpa using h.2.1];exact h.2.2⟩
  grind
 grind
def DM:Ct
 | [.v (.c cl)],[],Q=>(match (Ty.sl noTy).of [cl] with
  | some (l,[])=>(l.length:Int)<=40/\dw l≠0/\Q (.cC [.c (.d .u8 []),.c (.k (.int .i64 (dw l)))]) []
  | _=>False)
 | _,_,_=>False
def alw:=gp.add adr
def FZ (l:(List (noTy).den)):dq:=λQ=>di l ((ay l)<=(1000:Int)/\dw l≠0/\(bx<=eR->aB .i64 (dw l)->br (dw l !=0) (Q (.cC [.c dD,.c (.k (.int .i64 (dw l)))]) []) False))
theorem X7:cq 26 DM:=by
 intro args H Q h;unfold DM at h;split at h;rotate_left;cases h;rename_i cl;split at h;rotate_left;cases h;rename_i l hl;refine Wp.said (args':=[.c (.d noTy l)]) (λE g=>bA.cE (dI hl) (λ_ h=>h)) ?_;clear hl;refine Wp.kE [some (.sl .u8),none] [0] ?_;refine Wp.dy alw pB ⟨[],[]⟩ Tryz.f26 (FZ l) (unr:=[(15,7)]) ?_;unfold FZ eR di dD ay bx;obtain ⟨hl,hc,h⟩:=h;refine λ_=>⟨by omega,hc,λ_ _=>ak (λ_=>⟨cM _,h⟩) (by grind)⟩
def DL:Ct
 | [.v (.c cl)],[],Q=>(match (Ty.sl noTy).of [cl] with
  | some (l,[])=>(l.length:Int)<=40/\dw l=0/\∀ L' im,L'.Perm l->L'.Pairwise (λx y=>¬cmpL y.1 x.1< 0)->UC im (cZ L' [])->Q (.cC [.c (.d .u8 im),.c (.k (.int .i64 0))]) []
  | _=>False)
 | _,_,_=>False
def alv:=((((((((((gp.add Bj).add E8).add KS).add agf).add Bh).add HV).add Bn).add adq).add U5).add U3).add adX
abbrev ef (y0:List bc):=cZ y0 []
abbrev qT (y0:List bc):=aA noTy (ef y0) ah
abbrev IE (R:Prop):=bI=bI/\bI=bI/\ah<=ah/\ah< (↑bI:Int)/\bI=bI/\R
def FY (l:(List (noTy).den)):dq:=λQ=>di l ((ay l)<=(1000:Int)/\dw l=ah/\∀ (L':List bc),sW L' l (aJ (List.length (ef L'))->aB .i64 0->bj (IE (∀ (A:Value->Atom),WB A dB [] []->ah<=ah/\ah< oB/\bI 
 =bI/\∀ (A_1:Value->Atom),WB A_1 dB [] []->ah<=ah/\ah< oB/\bI=bI/\∀ (A_2:Value->Atom),WB A_2 dB [] []->List.length (ef L')<=1100/\∀ (ys:List Int),OP (ef L') ys->aJ 
 (List.length ys)->ah<=ah/\ah< oB/\(List.length (ef L')<=40/\(∀ (x:Ty.den (noTy)),List.Mem x (ef L')->List.length x.2.2.2.2.1<=4096)/\(∀ (x:Ty.den (noTy)),List.Mem x (ef L')->∀ (y:Ty.den (noTy)), 
 List.Mem y (ef L')->x.2.1=y.2.1->x.2.2=y.2.2)/\bx=bx)/\∃ T fi,j4 (List.map (λl=>HO.fj (iD [bx,a7,bH]) (lF [.cells 157 [Cl.de (.int .u32) dB ah bx,.k (.int .i64 64),.o 2,Cl.m bH], 
 kT [],.sl 5 Ty.u8 []] l)) [bx,a7,bH])=j4 [.cells 157 [Cl.de (.int .u32) T ah bx,.k (aC fi),.o 1,Cl.m a7],.sl 5 Ty.u8 [],kT []]/\dO T ((0<=fi/\fi<=1000000)/\∀ (F':List (Int×Ty.den eA)) (b': 
 List UInt8) (M':List (Kk.den Kk.str×Ty.den bq)) (row:List UInt8) (bg pl:List Int),r9 (ef L') T fi b' row bg F'->AR row bg->rV T fi b' (lZ row bg (List.length bg)) pl->List.length b'<=180000->List.length pl<=40 
 ->aJ (List.length pl)->sb (ef L') ys F'/\(ah<=ah/\ah< (aP (ef L'))/\17<=List.length (qT L').1+17)/\∃ T_1 s,Ws A A_1 A_2 T_1 s/\ []=s.Mr/\ []=s.Ms/\List.length s.Ms<=List.length s.Mr/\Eb (ef 
 L') ys F' s bx/\∀ (A1' A2' A3':Value->Atom) (t:BS) (r:Int),Ws A1' A2' A3' T_1 t->List.length t.Ms<=List.length t.Mr->HP (ef L') ys F' s t bx (qT L').1 (List.length (qT L').1)->Kk.get Kk.int t.Mr (qT 
 L').2.1=some r->aB .i64 r->aJ (bw t.Mr)->aJ (List.length ys)->aJ (List.length pl)->gn=gn/\ah<=gn/\gn<=(140737488355328:Int)/\∃ T_2 fi_1 b M,j4 [.cells 157 [Cl.de (.int .u32) T ah bx,.k 
 (aC fi),.o 1,Cl.m a7],.sl 5 Ty.u8 b',kT M']=j4 [.cells 157 [Cl.de (.int .u32) T_2 ah bx,.k (aC fi_1),.o 1,Cl.m a7],.sl 5 Ty.u8 b,kT M]/\jd b (aJ (bw b)->∃ T R fs,WB A1' T R fs/\fV R (∀ (A': 
 Value->Atom) (fs':List (List UInt8)),kZ T (fs++fs') R->aJ (yj fs fs')->∃ T R bP,WB A2' T R bP/\fV R (∀ (A':Value->Atom) (a6:List (List UInt8)),kZ T (bP++a6) R->aJ (yj bP a6)->ah<= 
 ah/\ah< oB/\bI=bI/\((cA=dm\/cA=cA)/\(∀ (x:Ty.den bq),x∈pl->(0:Ty.den bq)<=x/\x< (256:Ty.den bq) ^ cQ)/\List.length pl<=100000)/\∀ (bS:List (List UInt8)),kZ dB 
 bS (gy cQ pl)->aJ (List.length (ae bS))->ah<=ah/\ah< oB/\bI=bI/\((dm=dm\/dm=cA)/\(∀ (x:Ty.den bq),x∈ys->(0:Ty.den bq)<=x/\x< (256:Ty.den bq) ^ a7) 
 /\List.length ys<=100000)/\∀ (bR:List (List UInt8)),kZ dB bR (gy a7 ys)->aJ (List.length (ae bR))->∃ T R bO,WB A3' T R bO/\fV R (∀ (A':Value->Atom) (aZ:List (List UInt8)),kZ T (bO++ 
 aZ) R->aJ (yj bO aZ)->Aa<=eR/\ah<=ah/\ah< (↑Aa:Int)/\ah<=ah/\ah< (↑(List.length [b,ae (fs++fs'),ae (bP++a6),ae bS,ae bR, 
 ae (bO++aZ)]):Int)/\ah<=ah/\ah< (↑(List.length [b,ae (fs++fs'),ae (bP++a6),ae bS,ae bR,ae (bO++aZ)]):Int)/\(Ty.ok bC (aA bC 
 [b,ae (fs++fs'),ae (bP++a6),ae bS,ae bR,ae (bO++aZ)] ah)->(64+List.length (aA bC [b,ae (fs++fs'),ae (bP++a6),ae 
 bS,ae bR,ae (bO++aZ)] ah))*1<=cd/\64+List.length (aA bC [b,ae (fs++fs'),ae (bP++a6),ae bS,ae bR,ae (bO++aZ)] ah)<= 
 9223372036854775807/\(aJ (List.length (au eu eC++aA bC [b,ae (fs++fs'),ae (bP++a6),ae bS,ae bR,ae (bO++aZ)] ah))->aB .i64 dG/\ 
 ah<=ah+1/\ah+1< (↑Aa:Int)/\ah<=ah+1/\ah+1< (↑(List.length [b,ae (fs++fs'),ae (bP++a6),ae bS,ae bR,ae (bO++aZ)]):Int)/\ah 
 <=ah+1/\ah+1< (↑(List.length [b,ae (fs++fs'),ae (bP++a6),ae bS,ae bR,ae (bO++aZ)]):Int)/\(Ty.ok bC (aA bC [b,ae (fs++fs'), 
 ae (bP++a6),ae bS,ae bR,ae (bO++aZ)] dG)->(List.length (au eu eC++aA bC [b,ae (fs++fs'),ae (bP++a6),ae bS, 
 ae bR,ae (bO++aZ)] ah)+List.length (aA bC [b,ae (fs++fs'),ae (bP++a6),ae bS,ae bR,ae (bO++aZ)] dG))*1<=cd/\ 
 List.length (au eu eC++aA bC [b,ae (fs++fs'),ae (bP++a6),ae bS,ae bR,ae (bO++aZ)] ah)+List.length (aA bC [b,ae (fs++ 
 fs'),ae (bP++a6),ae bS,ae bR,ae (bO++aZ)] dG)<=9223372036854775807/\(aJ (List.length (au eu eC++aA bC [b,ae (fs++fs'),ae 
 (bP++a6),ae bS,ae bR,ae (bO++aZ)] ah++aA bC [b,ae (fs++fs'),ae (bP++a6),ae bS,ae bR,ae (bO++aZ)] dG))-> 
 aB .i64 dP/\ah<=ah+1+1/\ah+1+1< (↑Aa:Int)/\ah<=ah+1+1/\ah+1+1< (↑(List.length [b,ae (fs++fs'),ae (bP++a6),ae bS,ae bR,ae 
 (bO++aZ)]):Int)/\ah<=ah+1+1/\ah+1+1< (↑(List.length [b,ae (fs++fs'),ae (bP++a6),ae bS,ae bR,ae (bO++aZ)]):Int)/\(Ty.ok bC (aA 
 bC [b,ae (fs++fs'),ae (bP++a6),ae bS,ae bR,ae (bO++aZ)] dP)->(List.length (au eu eC++aA bC [b,ae (fs++fs'),ae 
 (bP++a6),ae bS,ae bR,ae (bO++aZ)] ah++aA bC [b,ae (fs++fs'),ae (bP++a6),ae bS,ae bR,ae (bO++aZ)] dG)+ 
 List.length (aA bC [b,ae (fs++fs'),ae (bP++a6),ae bS,ae bR,ae (bO++aZ)] dP))*1<=cd/\List.length (au eu eC++aA bC [b, 
 ae (fs++fs'),ae (bP++a6),ae bS,ae bR,ae (bO++aZ)] ah++aA bC [b,ae (fs++fs'),ae (bP++a6),ae bS,ae bR, 
 ae (bO++aZ)] dG)+List.length (aA bC [b,ae (fs++fs'),ae (bP++a6),ae bS,ae bR,ae (bO++aZ)] dP)<=9223372036854775807/\(aJ (List.length 
 (au eu eC++aA bC [b,ae (fs++fs'),ae (bP++a6),ae bS,ae bR,ae (bO++aZ)] ah++aA bC [b,ae (fs++fs'),ae (bP++ 
 a6),ae bS,ae bR,ae (bO++aZ)] dG++aA bC [b,ae (fs++fs'),ae (bP++a6),ae bS,ae bR,ae (bO++aZ)] dP))->aB .i64 
 dY/\ah<=ah+1+1+1/\ah+1+1+1< (↑Aa:Int)/\ah<=ah+1+1+1/\ah+1+1+1< (↑(List.length [b,ae (fs++fs'),ae (bP++a6),ae bS,ae bR, 
 ae (bO++aZ)]):Int)/\ah<=ah+1+1+1/\ah+1+1+1< (↑(List.length [b,ae (fs++fs'),ae (bP++a6),ae bS,ae bR,ae (bO++aZ)]):Int)/\ 
 (Ty.ok bC (aA bC [b,ae (fs++fs'),ae (bP++a6),ae bS,ae bR,ae (bO++aZ)] dY)->(List.length (au eu eC++aA bC [b,ae (fs++ 
 fs'),ae (bP++a6),ae bS,ae bR,ae (bO++aZ)] ah++aA bC [b,ae (fs++fs'),ae (bP++a6),ae bS,ae bR,ae (bO 
 ++aZ)] dG++aA bC [b,ae (fs++fs'),ae (bP++a6),ae bS,ae bR,ae (bO++aZ)] dP)+List.length (aA bC [b,ae (fs++fs'),ae (bP++ 
 a6),ae bS,ae bR,ae (bO++aZ)] dY))*1<=cd/\List.length (au eu eC++aA bC [b,ae (fs++fs'),ae (bP++a6),ae bS, 
 ae bR,ae (bO++aZ)] ah++aA bC [b,ae (fs++fs'),ae (bP++a6),ae bS,ae bR,ae (bO++aZ)] dG++aA bC [b,ae (fs++ 
 fs'),ae (bP++a6),ae bS,ae bR,ae (bO++aZ)] dP)+List.length (aA bC [b,ae (fs++fs'),ae (bP++a6),ae bS,ae bR, 
 ae (bO++aZ)] dY)<=9223372036854775807/\(aJ (List.length (au eu eC++aA bC [b,ae (fs++fs'),ae (bP++a6),ae bS,ae bR,ae (bO++ 
 aZ)] ah++aA bC [b,ae (fs++fs'),ae (bP++a6),ae bS,ae bR,ae (bO++aZ)] dG++aA bC [b,ae (fs++fs'),ae (bP++a6), 
 ae bS,ae bR,ae (bO++aZ)] dP++aA bC [b,ae (fs++fs'),ae (bP++a6),ae bS,ae bR,ae (bO++aZ)] dY))->aB .i64 eS/\ 
 fS (ah+1+1+1+1< (↑Aa:Int)/\fS (ah+1+1+1+1< (↑(List.length [b,ae (fs++fs'),ae (bP++a6),ae bS,ae bR,ae (bO++aZ)]):Int)/\fS 
 (ah+1+1+1+1< (↑(List.length [b,ae (fs++fs'),ae (bP++a6),ae bS,ae bR,ae (bO++aZ)]):Int)/\(Ty.ok bC (aA bC [b,ae (fs++fs'), 
 ae (bP++a6),ae bS,ae bR,ae (bO++aZ)] eS)->(List.length (au eu eC++aA bC [b,ae (fs++fs'),ae (bP++a6),ae bS, 
 ae bR,ae (bO++aZ)] ah++aA bC [b,ae (fs++fs'),ae (bP++a6),ae bS,ae bR,ae (bO++aZ)] dG++aA bC [b,ae (fs++ 
 fs'),ae (bP++a6),ae bS,ae bR,ae (bO++aZ)] dP++aA bC [b,ae (fs++fs'),ae (bP++a6),ae bS,ae bR,ae (bO 
 ++aZ)] dY)+List.length (aA bC [b,ae (fs++fs'),ae (bP++a6),ae bS,ae bR,ae (bO++aZ)] eS))*1<=cd/\List.length (au eu eC++aA 
 bC [b,ae (fs++fs'),ae (bP++a6),ae bS,ae bR,ae (bO++aZ)] ah++aA bC [b,ae (fs++fs'),ae (bP++a6),ae bS, 
 ae bR,ae (bO++aZ)] dG++aA bC [b,ae (fs++fs'),ae (bP++a6),ae bS,ae bR,ae (bO++aZ)] dP++aA bC [b,ae (fs++ 
 fs'),ae (bP++a6),ae bS,ae bR,ae (bO++aZ)] dY)+List.length (aA bC [b,ae (fs++fs'),ae (bP++a6),ae bS,ae bR, 
 ae (bO++aZ)] eS)<=9223372036854775807/\(aJ (List.length (au eu eC++aA bC [b,ae (fs++fs'),ae (bP++a6),ae bS,ae bR,ae (bO++ 
 aZ)] ah++aA bC [b,ae (fs++fs'),ae (bP++a6),ae bS,ae bR,ae (bO++aZ)] dG++aA bC [b,ae (fs++fs'),ae (bP++a6), 
 ae bS,ae bR,ae (bO++aZ)] dP++aA bC [b,ae (fs++fs'),ae (bP++a6),ae bS,ae bR,ae (bO++aZ)] dY++aA bC [b, 
 ae (fs++fs'),ae (bP++a6),ae bS,ae bR,ae (bO++aZ)] eS))->aB .i64 fT/\ah<=ah+1+1+1+1+1/\ah+1+1+1+1+1< (↑Aa:Int)/\ah<= 
 ah+1+1+1+1+1/\ah+1+1+1+1+1< (↑(List.length [b,ae (fs++fs'),ae (bP++a6),ae bS,ae bR,ae (bO++aZ)]):Int)/\ah<=ah+1+1+1+1+ 
 1/\ah+1+1+1+1+1< (↑(List.length [b,ae (fs++fs'),ae (bP++a6),ae bS,ae bR,ae (bO++aZ)]):Int)/\(Ty.ok bC (aA bC [b,ae (fs++fs'), 
 ae (bP++a6),ae bS,ae bR,ae (bO++aZ)] fT)->(List.length (au eu eC++aA bC [b,ae (fs++fs'),ae (bP++a6),ae bS, 
 ae bR,ae (bO++aZ)] ah++aA bC [b,ae (fs++fs'),ae (bP++a6),ae bS,ae bR,ae (bO++aZ)] dG++aA bC [b,ae (fs++ 
 fs'),ae (bP++a6),ae bS,ae bR,ae (bO++aZ)] dP++aA bC [b,ae (fs++fs'),ae (bP++a6),ae bS,ae bR,ae (bO 
 ++aZ)] dY++aA bC [b,ae (fs++fs'),ae (bP++a6),ae bS,ae bR,ae (bO++aZ)] eS)+List.length (aA bC [b,ae (fs++fs'),ae (bP++ 
 a6),ae bS,ae bR,ae (bO++aZ)] fT))*1<=cd/\List.length (au eu eC++aA bC [b,ae (fs++fs'),ae (bP++a6),ae bS, 
 ae bR,ae (bO++aZ)] ah++aA bC [b,ae (fs++fs'),ae (bP++a6),ae bS,ae bR,ae (bO++aZ)] dG++aA bC [b,ae (fs++ 
 fs'),ae (bP++a6),ae bS,ae bR,ae (bO++aZ)] dP++aA bC [b,ae (fs++fs'),ae (bP++a6),ae bS,ae bR,ae (bO 
 ++aZ)] dY++aA bC [b,ae (fs++fs'),ae (bP++a6),ae bS,ae bR,ae (bO++aZ)] eS)+List.length (aA bC [b,ae (fs++fs'),ae (bP++ 
 a6),ae bS,ae bR,ae (bO++aZ)] fT)<=9223372036854775807/\(aJ (List.length (au eu eC++aA bC [b,ae (fs++fs'),ae (bP++a6),ae 
 bS,ae bR,ae (bO++aZ)] ah++aA bC [b,ae (fs++fs'),ae (bP++a6),ae bS,ae bR,ae (bO++aZ)] dG++aA bC [b,ae (fs 
 ++fs'),ae (bP++a6),ae bS,ae bR,ae (bO++aZ)] dP++aA bC [b,ae (fs++fs'),ae (bP++a6),ae bS,ae bR,ae 
 (bO++aZ)] dY++aA bC [b,ae (fs++fs'),ae (bP++a6),ae bS,ae bR,ae (bO++aZ)] eS++aA bC [b,ae (fs++fs'),ae (bP++a6), 
 ae bS,ae bR,ae (bO++aZ)] fT))->aB .i64 lg/\br (decide ((aP (au eu eC++aA bC [b,ae (fs++fs'),ae (bP++a6),ae bS, 
 ae bR,ae (bO++aZ)] ah++aA bC [b,ae (fs++fs'),ae (bP++a6),ae bS,ae bR,ae (bO++aZ)] dG++aA bC [b,ae (fs++ 
 fs'),ae (bP++a6),ae bS,ae bR,ae (bO++aZ)] dP++aA bC [b,ae (fs++fs'),ae (bP++a6),ae bS,ae bR,ae (bO 
 ++aZ)] dY++aA bC [b,ae (fs++fs'),ae (bP++a6),ae bS,ae bR,ae (bO++aZ)] eS++aA bC [b,ae (fs++fs'),ae (bP++a6), 
 ae bS,ae bR,ae (bO++aZ)] fT))>(1048576:Int))) (sS Q) (ah<=ah/\ah< oB/\bI=bI/\rT ((aP (au eu eC++aA bC [b,ae (fs++ 
 fs'),ae (bP++a6),ae bS,ae bR,ae (bO++aZ)] ah++aA bC [b,ae (fs++fs'),ae (bP++a6),ae bS,ae bR,ae (bO 
 ++aZ)] dG++aA bC [b,ae (fs++fs'),ae (bP++a6),ae bS,ae bR,ae (bO++aZ)] dP++aA bC [b,ae (fs++fs'),ae (bP++a6), 
 ae bS,ae bR,ae (bO++aZ)] dY++aA bC [b,ae (fs++fs'),ae (bP++a6),ae bS,ae bR,ae (bO++aZ)] eS++aA bC [b, 
 ae (fs++fs'),ae (bP++a6),ae bS,ae bR,ae (bO++aZ)] fT)),(aP t.Mr),(aP (au eu eC++aA bC [b,ae (fs++fs'),ae 
 (bP++a6),ae bS,ae bR,ae (bO++aZ)] ah)),(aP (au eu eC++aA bC [b,ae (fs++fs'),ae (bP++a6),ae bS,ae bR, 
 ae (bO++aZ)] ah++aA bC [b,ae (fs++fs'),ae (bP++a6),ae bS,ae bR,ae (bO++aZ)] dG)),(aP (au eu eC++aA bC [b, 
 ae (fs++fs'),ae (bP++a6),ae bS,ae bR,ae (bO++aZ)] ah++aA bC [b,ae (fs++fs'),ae (bP++a6),ae bS,ae bR, 
 ae (bO++aZ)] dG++aA bC [b,ae (fs++fs'),ae (bP++a6),ae bS,ae bR,ae (bO++aZ)] dP)),(aP (au eu eC++aA bC [b, 
 ae (fs++fs'),ae (bP++a6),ae bS,ae bR,ae (bO++aZ)] ah++aA bC [b,ae (fs++fs'),ae (bP++a6),ae bS,ae bR, 
 ae (bO++aZ)] dG++aA bC [b,ae (fs++fs'),ae (bP++a6),ae bS,ae bR,ae (bO++aZ)] dP++aA bC [b,ae (fs++fs'),ae 
 (bP++a6),ae bS,ae bR,ae (bO++aZ)] dY)),(aP (au eu eC++aA bC [b,ae (fs++fs'),ae (bP++a6),ae bS,ae bR, 
 ae (bO++aZ)] ah++aA bC [b,ae (fs++fs'),ae (bP++a6),ae bS,ae bR,ae (bO++aZ)] dG++aA bC [b,ae (fs++fs'),ae 
 (bP++a6),ae bS,ae bR,ae (bO++aZ)] dP++aA bC [b,ae (fs++fs'),ae (bP++a6),ae bS,ae bR,ae (bO++aZ)] dY++ 
 aA bC [b,ae (fs++fs'),ae (bP++a6),ae bS,ae bR,ae (bO++aZ)] eS)),(ay ys),(ay pl),r,())/\(List.length (fJ dB ((aP (au eu eC 
 ++aA bC [b,ae (fs++fs'),ae (bP++a6),ae bS,ae bR,ae (bO++aZ)] ah++aA bC [b,ae (fs++fs'),ae (bP++a6),ae bS, 
 ae bR,ae (bO++aZ)] dG++aA bC [b,ae (fs++fs'),ae (bP++a6),ae bS,ae bR,ae (bO++aZ)] dP++aA bC [b,ae (fs++ 
 fs'),ae (bP++a6),ae bS,ae bR,ae (bO++aZ)] dY++aA bC [b,ae (fs++fs'),ae (bP++a6),ae bS,ae bR,ae (bO 
 ++aZ)] eS++aA bC [b,ae (fs++fs'),ae (bP++a6),ae bS,ae bR,ae (bO++aZ)] fT)),(aP t.Mr),(aP (au eu eC++aA bC [b, 
 ae (fs++fs'),ae (bP++a6),ae bS,ae bR,ae (bO++aZ)] ah)),(aP (au eu eC++aA bC [b,ae (fs++fs'),ae (bP++a6), 
 ae bS,ae bR,ae (bO++aZ)] ah++aA bC [b,ae (fs++fs'),ae (bP++a6),ae bS,ae bR,ae (bO++aZ)] dG)),(aP 
 (au eu eC++aA bC [b,ae (fs++fs'),ae (bP++a6),ae bS,ae bR,ae (bO++aZ)] ah++aA bC [b,ae (fs++fs'),ae (bP++ 
 a6),ae bS,ae bR,ae (bO++aZ)] dG++aA bC [b,ae (fs++fs'),ae (bP++a6),ae bS,ae bR,ae (bO++aZ)] dP)),(aP 
 (au eu eC++aA bC [b,ae (fs++fs'),ae (bP++a6),ae bS,ae bR,ae (bO++aZ)] ah++aA bC [b,ae (fs++fs'),ae (bP++ 
 a6),ae bS,ae bR,ae (bO++aZ)] dG++aA bC [b,ae (fs++fs'),ae (bP++a6),ae bS,ae bR,ae (bO++aZ)] dP++aA bC 
 [b,ae (fs++fs'),ae (bP++a6),ae bS,ae bR,ae (bO++aZ)] dY)),(aP (au eu eC++aA bC [b,ae (fs++fs'),ae (bP++ 
 a6),ae bS,ae bR,ae (bO++aZ)] ah++aA bC [b,ae (fs++fs'),ae (bP++a6),ae bS,ae bR,ae (bO++aZ)] dG++aA bC 
 [b,ae (fs++fs'),ae (bP++a6),ae bS,ae bR,ae (bO++aZ)] dP++aA bC [b,ae (fs++fs'),ae (bP++a6),ae bS,ae 
 bR,ae (bO++aZ)] dY++aA bC [b,ae (fs++fs'),ae (bP++a6),ae bS,ae bR,ae (bO++aZ)] eS)),(ay ys),(ay pl),r,()))<= 
 9223372036854775807->aB .i64 0->Q lD [.sl 5 Ty.u8 (mP (au eu eC++aA bC [b,ae (fs++fs'),ae (bP++a6),ae bS,ae bR,ae (bO++aZ)] ah 
 ++aA bC [b,ae (fs++fs'),ae (bP++a6),ae bS,ae bR,ae (bO++aZ)] dG++aA bC [b,ae (fs++fs'),ae (bP++a6),ae bS, 
 ae bR,ae (bO++aZ)] dP++aA bC [b,ae (fs++fs'),ae (bP++a6),ae bS,ae bR,ae (bO++aZ)] dY++aA bC [b,ae (fs++ 
 fs'),ae (bP++a6),ae bS,ae bR,ae (bO++aZ)] eS++aA bC [b,ae (fs++fs'),ae (bP++a6),ae bS,ae bR,ae (bO 
 ++aZ)] fT) bx (fJ dB ((aP (au eu eC++aA bC [b,ae (fs++fs'),ae (bP++a6),ae bS,ae bR,ae (bO++aZ)] ah++aA bC [b, 
 ae (fs++fs'),ae (bP++a6),ae bS,ae bR,ae (bO++aZ)] dG++aA bC [b,ae (fs++fs'),ae (bP++a6),ae bS,ae bR, 
 ae (bO++aZ)] dP++aA bC [b,ae (fs++fs'),ae (bP++a6),ae bS,ae bR,ae (bO++aZ)] dY++aA bC [b,ae (fs++fs'),ae 
 (bP++a6),ae bS,ae bR,ae (bO++aZ)] eS++aA bC [b,ae (fs++fs'),ae (bP++a6),ae bS,ae bR,ae (bO++aZ)] fT)), 
 (aP t.Mr),(aP (au eu eC++aA bC [b,ae (fs++fs'),ae (bP++a6),ae bS,ae bR,ae (bO++aZ)] ah)),(aP (au eu eC++aA 
 bC [b,ae (fs++fs'),ae (bP++a6),ae bS,ae bR,ae (bO++aZ)] ah++aA bC [b,ae (fs++fs'),ae (bP++a6),ae bS, 
 ae bR,ae (bO++aZ)] dG)),(aP (au eu eC++aA bC [b,ae (fs++fs'),ae (bP++a6),ae bS,ae bR,ae (bO++aZ)] ah 
 ++aA bC [b,ae (fs++fs'),ae (bP++a6),ae bS,ae bR,ae (bO++aZ)] dG++aA bC [b,ae (fs++fs'),ae (bP++a6),ae bS, 
 ae bR,ae (bO++aZ)] dP)),(aP (au eu eC++aA bC [b,ae (fs++fs'),ae (bP++a6),ae bS,ae bR,ae (bO++aZ)] ah 
 ++aA bC [b,ae (fs++fs'),ae (bP++a6),ae bS,ae bR,ae (bO++aZ)] dG++aA bC [b,ae (fs++fs'),ae (bP++a6),ae bS, 
 ae bR,ae (bO++aZ)] dP++aA bC [b,ae (fs++fs'),ae (bP++a6),ae bS,ae bR,ae (bO++aZ)] dY)),(aP (au eu eC 
 ++aA bC [b,ae (fs++fs'),ae (bP++a6),ae bS,ae bR,ae (bO++aZ)] ah++aA bC [b,ae (fs++fs'),ae (bP++a6),ae bS, 
 ae bR,ae (bO++aZ)] dG++aA bC [b,ae (fs++fs'),ae (bP++a6),ae bS,ae bR,ae (bO++aZ)] dP++aA bC [b,ae (fs++ 
 fs'),ae (bP++a6),ae bS,ae bR,ae (bO++aZ)] dY++aA bC [b,ae (fs++fs'),ae (bP++a6),ae bS,ae bR,ae (bO 
 ++aZ)] eS)),(ay ys),(ay pl),r,())))]))))))))))))))))))))))))))
theorem X6:cq 26 DL:=by
 intro args H Q h;unfold DL at h;split at h;rotate_left;cases h;rename_i cl;split at h;rotate_left;cases h;rename_i l hl;refine Wp.said (args':=[.c (.d noTy l)]) (λE g=>bA.cE (dI hl) (λ_ h=>h)) ?_;clear hl;refine Wp.kE [some (.sl .u8),none] [0] ?_;refine Wp.dy alv pB ⟨[],[]⟩ Tryz.f26 (FY l) (hold:=[47,49,57,52]) (unr:=[(15,7)]) ?_;unfold FY oB yj IE jd sS bj qT sW ef lD fV dO dG fS eR eC bw dP di lg dY fT cd eS dD aT aC ah dm cA gn aP ay aJ bx bH a7 bI cQ Aa eu kT bC bq;obtain ⟨hl,hc,h⟩:=h;refine λ_=>⟨by omega,hc,λL' hp ho hnl _=>?_⟩;have g:=L4 (L5 hc) hp ho;have hN40:(cZ L' []).length<=40:=by rw [jw,hp.length_eq];omega
 have aaf:=λim=>h L' im hp ho;clear h;generalize cZ L' []=N at*;have xj:=g.pos;obtain ⟨gr1,gr2,gr3⟩:=g.root;have hm0:aA noTy N 0∈N:=tv (e:=noTy) (bh 0) (by omega);refine ⟨rfl,rfl,rfl,by decide,by decide,rfl,λA1 hA1=>⟨by decide,by decide,rfl,λA2 hA2=>⟨by decide,by decide,rfl,λA3 hA3=>⟨by omega,λys Ny _=>⟨by decide,by decide,⟨hN40,λx hx=>(oJ (g.may x hx)).2,λx hx y hy e=>(g.one x hx y hy e).2,rfl⟩,dB,64,rfl,rfl,⟨by decide,by decide⟩,λF' b' M' row bg pl hF hP hPl hb JF _=>?_⟩⟩⟩⟩⟩;have hbg:bg.length<=40:=by have:=hPl.len;rw [qw] at this;omega
 have hTok:=aiV g hN40 Ny hF hP hb hbg;refine ⟨hTok,⟨bh _,by omega,by omega⟩,dB,⟨[],[],[],[],[],[],[],[]⟩,⟨hA1,hA2,hA3⟩,rfl,rfl,aG _,Eb.nil _ _ _,λB1 B2 B3 t r hW hM hP2 hr _ _ _ _=>?_⟩;have JI:=hP2.ok.len;have hRI:=hP2.ok.lI;have hRL:=hP2.ok.lL;have hRX:=hP2.ok.lX;have hil:=hTok.idl;have yY:=ajF g Ny;refine ⟨rfl,by decide,by decide,dB,64,b',M',rfl,by omega,λ_=>⟨dB,t.RI,t.fI,hW.i,by omega,λ_ gI kI _=>⟨dB,t.RL,t.fL,hW.l,by omega,λ_ gL kL _=>⟨by decide,by decide,rfl,⟨.inr rfl,Ze hPl (by omega),by omega⟩,λfP kP _=>⟨by decide,by decide,rfl,⟨.inl rfl,yY,by omega⟩,λfN kN _=>⟨dB,t.RX,t.fX,hW.x,by omega,λ_ gX kX _=>?_⟩⟩⟩⟩⟩⟩;have nI:=kI.aap;have nL:=kL.aap;have nP:=kP.aap;have nN:=kN.aap;have nX:=kX.aap;rw [kI.len] at nI;rw [kL.len] at nL;rw [kP.len,ka] at nP;rw [kN.len,ka] at nN;rw [kX.len] at nX;obtain ⟨q1,e1⟩:∃ q,(t.fI++gI).flatten=q:=⟨_,rfl⟩;obtain ⟨q2,e2⟩:∃ q,(t.fL++gL).flatten=q:=⟨_,rfl⟩;obtain ⟨q3,e3⟩:∃ q,fP.flatten=q:=⟨_,rfl⟩;obtain ⟨q4,e4⟩:∃ q,fN.flatten=q:=⟨_,rfl⟩;obtain ⟨q5,e5⟩:∃ q,(t.fX++gX).flatten=q:=⟨_,rfl⟩;rw [e1] at nI;rw [e2] at nL;rw [e3] at nP;rw [e4] at nN;rw [e5] at nX;rw [e1,e2,e3,e4,e5];have wj:=(hP2.ok.refs _ _ hr).1;have hMr:0< t.Mr.length:=List.length_pos_of_mem (oR (κ:=Int) hr);have hyl:0< ys.length:=List.length_pos_of_mem ((Ny.mem _).2 ⟨_,hm0,.inl rfl⟩);have six:(List.length [b',q1,q2,q3,q4,q5])=6:=rfl;have x0:aA (Ty.sl Ty.u8) [b',q1,q2,q3,q4,q5] ((0:Int))=b':=rfl;have x1:aA (Ty.sl Ty.u8) [b',q1,q2,q3,q4,q5] ((0:Int)+(1:Int))=q1:=rfl;have x2:aA (Ty.sl Ty.u8) [b',q1,q2,q3,q4,q5] ((0:Int)+(1:Int)+(1:Int))=q2:=rfl;have x3:aA (Ty.sl Ty.u8) [b',q1,q2,q3,q4,q5] ((0:Int)+(1:Int)+(1:Int)+(1:Int))=q3:=rfl;have x4:aA (Ty.sl Ty.u8) [b',q1,q2,q3,q4,q5] ((0:Int)+(1:Int)+(1:Int)+(1:Int)+(1:Int))=q4:=rfl;have x5:aA (Ty.sl Ty.u8) [b',q1,q2,q3,q4,q5] ((0:Int)+(1:Int)+(1:Int)+(1:Int)+(1:Int)+(1:Int))=q5:=rfl;simp only [x0,x1,x2,x3,x4,x5,six];clear x0 x1 x2 x3 x4 x5 six;have hS:∀ z0 z2 z3 z4 z5 z6:Int,z2=64+(b'.length:Int)->z3=z2+q1.length->z4=z3+q2.length->z5=z4+q3.length->z6=z5+q4.length->z0=z6+q5.length->rT (z0,(t.Mr.length:Int),z2,z3,z4,z5,z6,(ys.length:Int),(pl.length:Int),r,()):=λz0 z2 z3 z4 z5 z6 w2 w3 w4 w5 w6 w0=>⟨by show (64:Int)<=z2;omega,by show z2<=z3;omega,by show z3<=z4;omega,by show z4<=z5;omega,by show z5<=z6;omega,by show z6<=z0;omega,by show z0<=1048576;omega,by show (1:Int)<=(t.Mr.length:Int)/\(t.Mr.length:Int)<=1024;omega,by show (1:Int)<=(ys.length:Int)/\(ys.length:Int)<=2048;omega,by show (0:Int)<=(pl.length:Int)/\(pl.length:Int)<=1024;omega,wj⟩;refine ⟨by decide,by decide,by decide,by decide,by decide,by decide,by decide,λ_=>⟨by first| omega| (simp only [af,aX];omega),by first| omega| (simp only [af,aX];omega),λ_=>⟨by unfold aB;omega,⟨by decide,by decide,by decide,by decide,by decide,by decide,λ_=>⟨by first| omega| (simp only [af,aX];omega),by first| omega| (simp only [af,aX];omega),λ_=>⟨by unfold aB;omega,⟨by decide,by decide,by decide,by decide,by decide,by decide,λ_=>⟨by first| omega| (simp only [af,aX];omega),by first| omega| (simp only [af,aX];omega),λ_=>⟨by unfold aB;omega,⟨by decide,by decide,by decide,by decide,by decide,by decide,λ_=>⟨by first| omega| (simp only [af,aX];omega),by first| omega| (simp only [af,aX];omega),λ_=>⟨by unfold aB;omega,⟨by decide,by decide,by decide,by decide,by decide,by decide,λ_=>⟨by first| omega| (simp only [af,aX];omega),by first| omega| (simp only [af,aX];omega),λ_=>⟨by unfold aB;omega,⟨by decide,by decide,by decide,by decide,by decide,by decide,λ_=>⟨by first| omega| (simp only [af,aX];omega),by first| omega| (simp only [af,aX];omega),λ_=>⟨by unfold aB;omega,ak (λhq=>absurd (of_decide_eq_true hq) (by first| omega| (simp only [af,aX];omega))) (λ_=>⟨by decide,by decide,by trivial,hS _ _ _ _ _ _ (by first| omega| (simp only [af,aX];omega)) (by first| omega| (simp only [af,aX];omega)) (by first| omega| (simp only [af,aX];omega)) (by first| omega| (simp only [af,aX];omega)) (by first| omega| (simp only [af,aX];omega)) (by first| omega| (simp only [af,aX];omega)),λ_ _=>?_⟩)⟩⟩⟩⟩⟩⟩⟩⟩⟩⟩⟩⟩⟩⟩⟩⟩⟩⟩
 exact ⟨cM _,aaf _ (ajE e1 e2 e3 e4 e5 hTok ⟨_,hm0,gr1,gr2,hr⟩ hP2.ok (λx hx=>hP2.cov x hx (by unfold pre;rw [gr1];rfl) (by rw [gr1];exact cM _)) hF hP hPl ⟨kI,gI,rfl⟩ ⟨kL,gL,rfl⟩ ⟨kX,gX,rfl⟩ kP kN yY (hS _ _ _ _ _ _ (by first| omega| (simp only [af,aX];omega)) (by first| omega| (simp only [af,aX];omega)) (by first| omega| (simp only [af,aX];omega)) (by first| omega| (simp only [af,aX];omega)) (by first| omega| (simp only [af,aX];omega)) (by first| omega| (simp only [af,aX];omega))))⟩
def Uj:Ct
 | [.v (.c cl)],[],Q=>(match (Ty.sl noTy).of [cl] with
  | some (l,[])=>(l.length:Int)<=40/\br (dw l !=0) (Q (.cC [.c (.d .u8 []),.c (.k (.int .i64 (dw l)))]) []) (∀ L' im,L'.Perm l->L'.Pairwise (λx y=>¬cmpL y.1 x.1< 0)->UC im (cZ L' [])->Q (.cC [.c (.d .u8 im),.c (.k (.int .i64 0))]) [])
  | _=>False)
 | _,_,_=>False
theorem adW:cq 26 Uj:=λargs H Q h=>by
 unfold Uj at h;split at h
 .rename_i cl;cases hq:(Ty.sl noTy).of [cl] with
  | none=>rw [hq] at h;exact h.elim
  | some q=>
   obtain ⟨l,r⟩:=q;rw [hq] at h;cases r with
   | cons a r=>exact h.elim
   | nil=>
    obtain ⟨h1,h2⟩:=h;by_cases hc:dw l=0
    .refine X6 _ _ _ ?_;unfold DL;simp only [hq];rw [show (dw l !=0)=false by simpa using hc] at h2;exact ⟨h1,hc,h2⟩
    .refine X7 _ _ _ ?_;unfold DM;simp only [hq];rw [show (dw l !=0)=true by simpa using hc] at h2;exact ⟨h1,hc,h2⟩
 .cases h
end Go.Proofs

namespace Go.Lm
open Go
theorem ML {T:List Int} {im A:List UInt8} {a c:Int} {fs S:List (List UInt8)} {R:List UInt8} (e:im=A++(fs.flatten++S.flatten)) (ea:a=A.length) (ec:c=a+fs.flatten.length) (h:kZ T fs R) (hS:∀ z∈S,∃ x,D8 T x z):iX T im a c fs R []:=by
 subst e ea ec;refine ⟨by omega,rfl,by grind,h,by simp,?_,by simp⟩;cases S with
 | nil=>grind
 | cons z S=>
  obtain ⟨x,hx⟩:=hS z aN;refine .inr ⟨x,_,by omega,by grind,z,S.flatten,hx,?_,rfl⟩;rw [show ((A.length:Int)+(fs.flatten.length:Int)).toNat=A.length+fs.flatten.length by omega,<-eN,lR,lR,dz]
theorem kZ.frm {T:List Int} {fs:List (List UInt8)} {R:List UInt8} (h:kZ T fs R):∀ z∈fs,∃ x,D8 T x z:=λz hz=>by
 obtain ⟨i,hi⟩:=List.mem_iff_getElem?.1 hz;exact ⟨_,h.fr i z hi⟩
structure Rds (T:List Int) (im:List UInt8) (d:IR):Prop where
 I:iX T im d.s.2.2.1 d.s.2.2.2.1 d.fI d.t.RI []
 L:iX T im d.s.2.2.2.1 d.s.2.2.2.2.1 d.fL d.t.RL []
 P:iX T im d.s.2.2.2.2.1 d.s.2.2.2.2.2.1 d.fP (gy 4 d.pl) []
 N:iX T im d.s.2.2.2.2.2.1 d.s.2.2.2.2.2.2.1 d.fN (gy 2 d.ids) []
 X:iX T im d.s.2.2.2.2.2.2.1 d.s.1 d.fX d.t.RX []
theorem aqx {P:List UInt8->Prop} {S S':List (List UInt8)} (h:∀ z∈S,P z) (h':∀ z∈S',P z):∀ z∈S++S',P z:=by grind
theorem IR.Ok.rds {d:IR} {T:List Int} {L:List bc} (h:d.Ok T L):Rds T (d.im T) d:=by
 have fL:=h.rL.1.frm;have fX:=h.rX.1.frm;have fP:=h.rP.frm;have fN:=h.rN.frm;have e0:=l7 T d.s;have sI:=h.sI;have sL:=h.sL;have sP:=h.sP;have sN:=h.sN;have sX:=h.sX;have sZ:=h.sZ;unfold IR.im;refine ⟨ML (A:=fJ T d.s++d.b) (S:=d.fL++(d.fP++(d.fN++d.fX))) ?_ ?_ sL h.rI.1 (by grind),
  ML (A:=fJ T d.s++d.b++d.fI.flatten) (S:=d.fP++(d.fN++d.fX)) ?_ ?_ sP h.rL.1 (by grind),
  ML (A:=fJ T d.s++d.b++d.fI.flatten++d.fL.flatten) (S:=d.fN++d.fX) ?_ ?_ sN h.rP (aqx fN fX),
  ML (A:=fJ T d.s++d.b++d.fI.flatten++d.fL.flatten++d.fP.flatten) (S:=d.fX) ?_ ?_ sX h.rN fX,
  ML (A:=fJ T d.s++d.b++d.fI.flatten++d.fL.flatten++d.fP.flatten++d.fN.flatten) (S:=[]) ?_ ?_ sZ h.rX.1 (by grind)⟩
 all_goals grind
theorem IR.ZW {d:IR} {T:List Int} {L:List bc} (h:d.Ok T L): @Eq Int d.s.1 (d.im T).length:=by
 have:=h.sI;have:=h.sL;have:=h.sP;have:=h.sN;have:=h.sX;have:=h.sZ
 grind [IR.im, l7]
theorem IR.Ok.small {d:IR} {T:List Int} {L:List bc} (h:d.Ok T L):(d.im T).length<=1048576/\d.b.length<=1048576/\d.t.RI.length<=8800/\d.t.RL.length<=420000/\d.t.RX.length<=168000/\d.pl.length<=1024/\d.ids.length<=80/\d.t.Mr.length<=40:=by
 have e:=IR.ZW h;have p7:=h.sup.p7;have n3:=h.sup.n3;have sf:=h.sf;have hl:=h.tok.len;have hm:=h.ok.len;have hI:=h.ok.lI;have hL:=h.ok.lL;have hX:=h.ok.lX;have hi:=h.tok.idl
 grind [IR.im]
theorem Has.at {fs g:List (List UInt8)} {R b:List UInt8} {r:Int} (h:Has fs R r b):∃ o:Nat,o<=R.length/\r=(dS (fs++g) o:Nat)/\∃ q,R.drop o=b++q:=by
 obtain ⟨o,q,h1,h2⟩:=h;exact ⟨o,h1.le,h1.ref g,q,h2⟩
theorem zB.im {T:List Int} {im A b C x:List UInt8} {st:Int} (e:im=A++(b++C)) (ha:A.length=64) (hx:128<=x.length) (h:zB T 64 b st x):∃ fs,D7 T im st x fs/\64<=st/\st+fs.flatten.length<=64+b.length:=by
 rcases h.or with ⟨q,_⟩| ⟨_,o,rfl,q⟩;omega
 .obtain ⟨fs,r,h1,h2,h3,h4⟩:=q;have hl:=congrArg List.length h3;rw [aR,af] at hl;refine ⟨fs,⟨h1,h2,by omega,by grind,r++C,?_⟩,by omega,by omega⟩;rw [e,show ((64:Int)+(o:Int)).toNat=A.length+o by omega,<-eN,lR,eQ h4,h3,aM]
theorem zB.im0 {T:List Int} {im x:List UInt8} (hx:x.length< 128):D7 T im 0 x []:=by
 exact ⟨by grind,zC.nil T x,bh _,by omega,im,rfl⟩
abbrev bn:Ty:=.pair eA (.pair (.int .i64) (.pair (.sl dg) (.pair (.sl cU) .unit)))
abbrev fD (M:List (Int×Nat×bn.den)):HO:=.ab (.pm 3 82 bn M)
structure rU (d:IR) (N:List bc) (x:bc) (nm:Int) (r:bn.den):Prop where
 n:rD N d.ids d.F d.t x r.1
 nm:r.2.1=nm
 list:(x.2.2.1=1/\iV ⟨#[]⟩ r.2.2.1/\fZ N d.t.Mr x.1.length (bU x.1 N 0) r.2.2.1)\/(x.2.2.1≠1/\r.2.2.1= [])
 xa:r.2.2.2.1=x.2.2.2.2.2.2.1
theorem rD.same {N:List bc} {ids:List Int} {F:List (Int×eA.den)} {s:BS} {x y:bc} {i:eA.den} (t:sb N ids F) (hx:x∈N) (hy:y∈N) (e:y.2.1=x.2.1) (h:rD N ids F s y i):rD N ids F s x i:=by
 obtain ⟨h1,h2⟩:=t.one x hx y hy e.symm;by_cases hk:x.2.2.1=1
 .grind
 .obtain ⟨y1,y2,y3⟩:=y;subst h2 e;obtain ⟨q1,q2,q3,q4,q5,q6,q7,q8⟩:=h;refine ⟨q1,q2,q3,q4,q5,q6,q7,?_⟩
  grind
theorem IR.Ok.fileAt {d:IR} {T:List Int} {N:List bc} (h:d.Ok T N) {x:bc} (hx:x∈N) (hk:x.2.2.1=2) {i:eA.den} (hi:rD N d.ids d.F d.t x i):∃ fs,D7 T (d.im T) i.2.2.2.2.2.2.1 x.2.2.2.2.1 fs/\ @Eq Int i.2.2.2.2.2.2.2.1 x.2.2.2.2.1.length/\(128<=x.2.2.2.2.1.length->(64:Int)<=i.2.2.2.2.2.2.1)/\(i.2.2.2.2.2.2.1:Int)+(fs.flatten.length:Int)<=d.s.2.2.1/\oZ d.row d.bg i.2.2.2.2.2.2.2.2.1 i.2.2.2.2.2.2.2.2.2.1 (x.2.2.2.2.1.drop (128*(x.2.2.2.2.1.length / 128))):=by
 have sI:=h.sI;obtain ⟨st,fr,off,h1,h2,h3⟩:=h.fl.file x hx hk;rcases hi.or with ⟨q,_⟩| ⟨_,q⟩| ⟨q,_⟩;rw [hk] at q;exact absurd q (by decide)
 .rw [h1] at q;have q:=aj q;have e1:st=i.2.2.2.2.2.2.1:=congrArg (λz:eA.den=>z.2.2.2.2.2.2.1) q;have e2:(x.2.2.2.2.1.length:Int)=i.2.2.2.2.2.2.2.1:=congrArg (λz:eA.den=>z.2.2.2.2.2.2.2.1) q;have e3:fr=i.2.2.2.2.2.2.2.2.1:=congrArg (λz:eA.den=>z.2.2.2.2.2.2.2.2.1) q;have e4:off=i.2.2.2.2.2.2.2.2.2.1:=congrArg (λz:eA.den=>z.2.2.2.2.2.2.2.2.2.1) q;rw [<-e1,<-e2,<-e3,<-e4];rcases eT x.2.2.2.2.1.length 128 with hl| hl
  .rcases h2.or with ⟨_,rfl⟩| ⟨q,_⟩
   .refine ⟨[],zB.im0 hl,rfl,λq=>by omega,?_,h3⟩;rw [sI];show (0:Int)+((0:Nat):Int)<=64+(d.b.length:Int);omega
   .omega
  .obtain ⟨fs,q1,q2,q3⟩:=zB.im (C:=d.fI.flatten++(d.fL.flatten++(d.fP.flatten++(d.fN.flatten++d.fX.flatten)))) (im:=d.im T) rfl (l7 T d.s) hl h2;exact ⟨fs,q1,rfl,λ_=>q2,by rw [sI];exact q3,h3⟩
 .rw [hk] at q;exact absurd q (by decide)
theorem IR.Ok.ZG {d:IR} {T:List Int} {N:List bc} (h:d.Ok T N) {x:bc} (hk:x.2.2.1=1) {i:eA.den} (hi:rD N d.ids d.F d.t x i):∃ es,iV ⟨#[]⟩ es/\fZ N d.t.Mr x.1.length (bU x.1 N 0) es/\es.length<=1024/\ @Eq Int i.2.2.2.2.2.2.2.1 (gM es).length/\∃ o:Nat,o+(gM es).length<=d.t.RL.length/\(i.2.2.2.2.2.2.1:Int)=(dS d.fL o:Nat)/\(d.t.RL.drop o).take (gM es).length=gM es:=by
 rcases hi.or with ⟨_,es,h1,h2,h3,h4⟩| ⟨q,_⟩| ⟨q,_⟩
 .obtain ⟨_,g,eg⟩:=h.rL;obtain ⟨o,q1,q2,q,q3⟩:=h3.at (g:=g);have hl:=congrArg List.length q3;have hes:=h2.len;have ND:=jV x.1 (L:=N) (k:=0);have hN:=h.tok.len
  grind [List.take_left]
 .omega
 omega
theorem IR.Ok.al8 {d:IR} {T:List Int} {N:List bc} (h:d.Ok T N) {x:bc} (hx:x∈N) {i:eA.den} (hi:rD N d.ids d.F d.t x i):((i.2.2.2.2.2.1:Int)=0/\x.2.2.2.2.2.2.1= [])\/((1:Int)<=i.2.2.2.2.2.1/\x.2.2.2.2.2.2.1≠ []/\dC x.2.2.2.2.2.2.1=true/\∃ o:Nat,o<=d.t.RX.length/\(i.2.2.2.2.2.1:Int) - 1=(dS d.fX o:Nat)/\∃ q,d.t.RX.drop o=xsB x.2.2.2.2.2.2.1++q):=by
 rcases hi.xa.or with ⟨q1,q2⟩| ⟨q1,q2,q3⟩
 .grind
 .obtain ⟨_,g,eg⟩:=h.rX;obtain ⟨o,p1,p2,q,p3⟩:=q3.at (g:=g);rw [<-eg] at p2;exact .inr ⟨q2,q1,(vO (h.tok.may x hx)).xa,o,p1,p2,q,p3⟩
theorem IR.Ok.recAt {d:IR} {T:List Int} {N:List bc} (h:d.Ok T N) {x:bc} (hx:x∈N) {ref:Int} (hg:Kk.get .int d.t.Mr x.2.1=some ref):∃ i,rD N d.ids d.F d.t x i/\∃ o:Nat,o<=d.t.RI.length/\ref=(dS d.fI o:Nat)/\∃ q,d.t.RI.drop o=fO i++q:=by
 obtain ⟨_,y,hy,ei,i,hH,hN⟩:=h.ok.refs _ _ hg;obtain ⟨_,g,eg⟩:=h.rI;obtain ⟨o,q1,q2,q,q3⟩:=hH.at (g:=g);rw [<-eg] at q2;exact ⟨i,hN.same h.tok hx hy ei,o,q1,q2,q,q3⟩
theorem IR.Ok.aqs {d:IR} {T:List Int} {N:List bc} (h:d.Ok T N) {x:bc} (hx:x∈N) {i:eA.den} (hi:rD N d.ids d.F d.t x i):(i.2.2.2.2.2.2.2.2.1:Int)<=(d.pl.length:Int):=by
 rcases hi.ok.or with ⟨_,_,_,q,_⟩| ⟨q,_⟩| ⟨_,_,_,_,q,_⟩
 .grind
 .obtain ⟨fs,_,_,_,_,q5⟩:=h.fileAt hx (by rw [<-hi.kind];exact q) hi;have hl:=h.pls.len;rw [qw] at hl;rcases q5.or with ⟨_,q,_⟩| ⟨_,_,_,j,a,q,q6,_⟩
  .grind
  grind
 grind
end Go.Lm

namespace Go.Proofs
open Go Go.Lm Go.RowKit
set_option maxRecDepth 1000000
def ee:List (Nat×Ty):=(82,bn)::pB
def afH:Ct:=λargs H Q=>∃ (a:Int) (c:Int) (T:List Int) (im:List UInt8) (s0:Int) (s1:Int) (s2:Int) (s3:Int) (s4:Int) (s5:Int) (s6:Int) (s7:Int) (s8:Int) (s9:Int) (nm:Int) (M:List (Int×Nat×bn.den)),args= [.v (.c (.p 0 0)),.int a,.int c]/\H= [.cells 90 [.de (.int .u32) T 0 0,.d .u8 im,.k (.int .i64 s0),.k (.int .i64 s1),.k (.int .i64 s2),.k (.int .i64 s3),.k (.int .i64 s4),.k (.int .i64 s5),.k (.int .i64 s6),.k (.int .i64 s7),.k (.int .i64 s8),.k (.int .i64 s9),.k (.slice none 0 0),.k (.slice none 0 0),.k (.pointer none),.k (.pointer none),.k (.pointer none),.m 1,.k (.int .i64 nm)],.ab (.pm 3 82 bn M)]/\T.length=256/\im.length<=100000000/\∃ fs R,R.length<=10000000/\iX T im a c fs R []/\∀ A,RB A fs R->Q (.c (.p 2 0)) [.cells 90 [.de (.int .u32) T 0 0,.d .u8 im,.k (.int .i64 s0),.k (.int .i64 s1),.k (.int .i64 s2),.k (.int .i64 s3),.k (.int .i64 s4),.k (.int .i64 s5),.k (.int .i64 s6),.k (.int .i64 s7),.k (.int .i64 s8),.k (.int .i64 s9),.k (.slice none 0 0),.k (.slice none 0 0),.k (.pointer none),.k (.pointer none),.k (.pointer none),.m 1,.k (.int .i64 nm)],.ab (.pm 3 82 bn M),.abs A]
def Ki:=gp.add Kx
abbrev sG (y0:List Int) (y1:List UInt8):=dO y0 (List.length y1<=100000000)
def Lg (a c:Int) (T:List Int) (im:List UInt8) (s0 s1 s2 s3 s4 s5 s6 s7 s8 s9 nm:Int) (M:(List (Int×Nat×bn.den))):dq:=λQ=>bZ a c ((sG T im)/\∃ fs R,fV R (iX T im a c fs R []/\∀ (A:Value->Atom),RB A fs R->Q (SV.v (S1.c (.p 2 0))) [.cells 90 [Cl.de (.int .u32) T ah bx,Cl.d Ty.u8 
 im,.k (aC s0),.k (aC s1),.k (aC s2),.k (aC s3),.k (aC s4),.k (aC s5),.k (aC s6),.k (aC s7),.k (aC s8),.k (aC s9),.k eP,.k eP,.k (.pointer none),.k (.pointer none),.k (.pointer none),Cl.m bH,.k 
 (aC nm)],fD M,HO.abs A]))
theorem adE:cq 59 afH:=by
 intro args H Q h;obtain ⟨a,c,T,im,s0,s1,s2,s3,s4,s5,s6,s7,s8,s9,nm,M,rfl,rfl,h⟩:=h;refine Wp.dy Ki ee ⟨[],[]⟩ Tryz.f59 (Lg a c T im s0 s1 s2 s3 s4 s5 s6 s7 s8 s9 nm M) ?_;unfold Lg sG fV eP bZ dO aC ah bx bH bI fD
 grind
def afG:Ct:=λargs H Q=>∃ (a:Int) (c:Int) (T:List Int) (im:List UInt8) (s0:Int) (s1:Int) (s2:Int) (s3:Int) (s4:Int) (s5:Int) (s6:Int) (s7:Int) (s8:Int) (s9:Int) (nm:Int) (R1:Value->Atom) (R2:Value->Atom) (R3:Value->Atom) (M:List (Int×Nat×bn.den)),args= [.v (.c (.p 0 0)),.int a,.int c]/\H= [.cells 90 [.de (.int .u32) T 0 0,.d .u8 im,.k (.int .i64 s0),.k (.int .i64 s1),.k (.int .i64 s2),.k (.int .i64 s3),.k (.int .i64 s4),.k (.int .i64 s5),.k (.int .i64 s6),.k (.int .i64 s7),.k (.int .i64 s8),.k (.int .i64 s9),.k (.slice none 0 0),.k (.slice none 0 0),.p 1 0,.p 2 0,.p 3 0,.m 4,.k (.int .i64 nm)],.abs R1,.abs R2,.abs R3,.ab (.pm 3 82 bn M)]/\T.length=256/\im.length<=100000000/\∃ fs R,R.length<=10000000/\iX T im a c fs R []/\∀ A,RB A fs R->Q (.c (.p 5 0)) [.cells 90 [.de (.int .u32) T 0 0,.d .u8 im,.k (.int .i64 s0),.k (.int .i64 s1),.k (.int .i64 s2),.k (.int .i64 s3),.k (.int .i64 s4),.k (.int .i64 s5),.k (.int .i64 s6),.k (.int .i64 s7),.k (.int .i64 s8),.k (.int .i64 s9),.k (.slice none 0 0),.k (.slice none 0 0),.p 1 0,.p 2 0,.p 3 0,.m 4,.k (.int .i64 nm)],.abs R1,.abs R2,.abs R3,.ab (.pm 3 82 bn M),.abs A]
abbrev ma:=SV.v (S1.c (.p 5 0))
def Lf (a c:Int) (T:List Int) (im:List UInt8) (s0 s1 s2 s3 s4 s5 s6 s7 s8 s9 nm:Int) (R1 R2 R3:Value->Atom) (M:(List (Int×Nat×bn.den))):dq:=λQ=>bZ a c ((sG T im)/\∃ fs R,fV R (iX T im a c fs R []/\∀ (A:Value->Atom),RB A fs R->Q ma [.cells 90 [Cl.de (.int .u32) T ah bx,Cl.d Ty.u8 im,.k 
 (aC s0),.k (aC s1),.k (aC s2),.k (aC s3),.k (aC s4),.k (aC s5),.k (aC s6),.k (aC s7),.k (aC s8),.k (aC s9),.k eP,.k eP,.p 1 0,.p 2 0,.p 3 0,Cl.m cQ,.k (aC nm)],HO.abs R1,HO.abs R2,HO.abs 
 R3,fD M,HO.abs A]))
theorem adD:cq 59 afG:=by
 intro args H Q h;obtain ⟨a,c,T,im,s0,s1,s2,s3,s4,s5,s6,s7,s8,s9,nm,R1,R2,R3,M,rfl,rfl,h⟩:=h;refine Wp.dy Ki ee ⟨[],[]⟩ Tryz.f59 (Lf a c T im s0 s1 s2 s3 s4 s5 s6 s7 s8 s9 nm R1 R2 R3 M) ?_;unfold Lf sG ma fV eP bZ dO aC ah bx bI cQ fD
 grind
def afF:Ct:=λargs H Q=>∃ (a:Int) (c:Int) (T:List Int) (im:List UInt8) (s0:Int) (s1:Int) (s2:Int) (s3:Int) (s4:Int) (s5:Int) (s6:Int) (s7:Int) (s8:Int) (s9:Int) (pl:List Int) (nm:Int) (R1:Value->Atom) (R2:Value->Atom) (R3:Value->Atom) (M:List (Int×Nat×bn.den)),args= [.v (.c (.p 0 0)),.int a,.int c]/\H= [.cells 90 [.de (.int .u32) T 0 0,.d .u8 im,.k (.int .i64 s0),.k (.int .i64 s1),.k (.int .i64 s2),.k (.int .i64 s3),.k (.int .i64 s4),.k (.int .i64 s5),.k (.int .i64 s6),.k (.int .i64 s7),.k (.int .i64 s8),.k (.int .i64 s9),.d (.int .i64) pl,.k (.slice none 0 0),.p 1 0,.p 2 0,.p 3 0,.m 4,.k (.int .i64 nm)],.abs R1,.abs R2,.abs R3,.ab (.pm 3 82 bn M)]/\T.length=256/\im.length<=100000000/\∃ fs R,R.length<=10000000/\iX T im a c fs R []/\∀ A,RB A fs R->Q (.c (.p 5 0)) [.cells 90 [.de (.int .u32) T 0 0,.d .u8 im,.k (.int .i64 s0),.k (.int .i64 s1),.k (.int .i64 s2),.k (.int .i64 s3),.k (.int .i64 s4),.k (.int .i64 s5),.k (.int .i64 s6),.k (.int .i64 s7),.k (.int .i64 s8),.k (.int .i64 s9),.d (.int .i64) pl,.k (.slice none 0 0),.p 1 0,.p 2 0,.p 3 0,.m 4,.k (.int .i64 nm)],.abs R1,.abs R2,.abs R3,.ab (.pm 3 82 bn M),.abs A]
def Ld (a c:Int) (T:List Int) (im:List UInt8) (s0 s1 s2 s3 s4 s5 s6 s7 s8 s9:Int) (pl:List Int) (nm:Int) (R1 R2 R3:Value->Atom) (M:(List (Int×Nat×bn.den))):dq:=λQ=>bZ a c ((sG T im)/\∃ fs R,fV R (iX T im a c fs R []/\∀ (A:Value->Atom),RB A fs R->Q ma [.cells 90 [Cl.de (.int .u32) T ah bx,Cl.d Ty.u8 im,.k 
 (aC s0),.k (aC s1),.k (aC s2),.k (aC s3),.k (aC s4),.k (aC s5),.k (aC s6),.k (aC s7),.k (aC s8),.k (aC s9),Cl.d bq pl,.k eP,.p 1 0,.p 2 0,.p 3 0,Cl.m cQ,.k (aC nm)],HO.abs R1,HO.abs R2, 
 HO.abs R3,fD M,HO.abs A]))
theorem adC:cq 59 afF:=by
 intro args H Q h;obtain ⟨a,c,T,im,s0,s1,s2,s3,s4,s5,s6,s7,s8,s9,pl,nm,R1,R2,R3,M,rfl,rfl,h⟩:=h;refine Wp.dy Ki ee ⟨[],[]⟩ Tryz.f59 (Ld a c T im s0 s1 s2 s3 s4 s5 s6 s7 s8 s9 pl nm R1 R2 R3 M) ?_;unfold Ld sG ma fV eP bZ dO aC ah bx bI cQ fD bq
 grind
def ZX (o:HO) (k:List Int->List UInt8->Int->Int->Int->Int->Int->Int->Int->Int->Int->Int->Cl->Cl->Cl->Cl->Cl->Cl->Int->Prop):Prop:=(match o with
 | .cells 90 cs=>(match cs with
 | [c0,c1,c2,c3,c4,c5,c6,c7,c8,c9,c10,c11,c12,c13,c14,c15,c16,c17,c18]=>(match c0 with
 | .de (.int .u32) T 0 0=>(match c1 with
 | .d .u8 im=>(match c2 with
 | .k (.int .i64 s0)=>(match c3 with
 | .k (.int .i64 s1)=>(match c4 with
 | .k (.int .i64 s2)=>(match c5 with
 | .k (.int .i64 s3)=>(match c6 with
 | .k (.int .i64 s4)=>(match c7 with
 | .k (.int .i64 s5)=>(match c8 with
 | .k (.int .i64 s6)=>(match c9 with
 | .k (.int .i64 s7)=>(match c10 with
 | .k (.int .i64 s8)=>(match c11 with
 | .k (.int .i64 s9)=>(match c18 with
 | .k (.int .i64 nm)=>k T im s0 s1 s2 s3 s4 s5 s6 s7 s8 s9 c12 c13 c14 c15 c16 c17 nm
 | _=>False)
 | _=>False)
 | _=>False)
 | _=>False)
 | _=>False)
 | _=>False)
 | _=>False)
 | _=>False)
 | _=>False)
 | _=>False)
 | _=>False)
 | _=>False)
 | _=>False)
 | _=>False)
 | _=>False)
def Xd (o:HO) (k:List Int->List UInt8->Int->Int->Int->Int->Int->Int->Int->Int->Int->Int->Cl->Cl->Int->Prop):Prop:=ZX o λT im s0 s1 s2 s3 s4 s5 s6 s7 s8 s9 c12 c13 c14 c15 c16 c17 nm=>(match c14 with
 | .p 1 0=>(match c15 with
 | .p 2 0=>(match c16 with
 | .p 3 0=>(match c17 with
 | .m 4=>k T im s0 s1 s2 s3 s4 s5 s6 s7 s8 s9 c12 c13 nm
 | _=>False)
 | _=>False)
 | _=>False)
 | _=>False)
def imR (o:HO) (k:List Int->List UInt8->Int->Int->Int->Int->Int->Int->Int->Int->Int->Int->List Int->List Int->Int->Prop):Prop:=Xd o λT im s0 s1 s2 s3 s4 s5 s6 s7 s8 s9 c12 c13 nm=>(match c12 with
 | .d (.int .i64) pl=>(match c13 with
 | .d (.int .i64) ids=>k T im s0 s1 s2 s3 s4 s5 s6 s7 s8 s9 pl ids nm
 | _=>False)
 | _=>False)
def MY (o:HO) (k:List (Int×Nat×Ty.den (.pair ((.pair (.int .i64) (.pair (.int .i64) (.pair (.int .i64) (.pair (.int .i64) (.pair (.int .i64) (.pair (.int .i64) (.pair (.int .i64) (.pair (.int .i64) (.pair (.int .i64) (.pair (.int .i64) (.pair .str .unit)))))))))))) (.pair (.int .i64) (.pair (.sl (.pair .str (.pair (.int .i64) (.pair (.int .i64) .unit)))) (.pair (.sl (.pair .str (.pair (.sl .u8) .unit))) .unit)))))->Prop):Prop:=match o with
 | .ab (.pm 3 82 (.pair ((.pair (.int .i64) (.pair (.int .i64) (.pair (.int .i64) (.pair (.int .i64) (.pair (.int .i64) (.pair (.int .i64) (.pair (.int .i64) (.pair (.int .i64) (.pair (.int .i64) (.pair (.int .i64) (.pair .str .unit)))))))))))) (.pair (.int .i64) (.pair (.sl (.pair .str (.pair (.int .i64) (.pair (.int .i64) .unit)))) (.pair (.sl (.pair .str (.pair (.sl .u8) .unit))) .unit)))) M)=>k M
 | _=>False
def DD:Ct:=λargs H Q=>(match args with
 | [.v (.c (.p 0 0)),.v (.c (.k (.int .i64 a))),.v (.c (.k (.int .i64 c)))]=>(match H with
 | [o0,o1]=>ZX o0 λT im s0 s1 s2 s3 s4 s5 s6 s7 s8 s9 c12 c13 c14 c15 c16 c17 nm=>(match c12 with
 | .k (.slice none 0 0)=>(match c13 with
 | .k (.slice none 0 0)=>(match c14 with
 | .k (.pointer none)=>(match c15 with
 | .k (.pointer none)=>(match c16 with
 | .k (.pointer none)=>(match c17 with
 | .m 1=>MY o1 λM=>T.length=256/\im.length<=100000000/\∃ fs R,R.length<=10000000/\iX T im a c fs R []/\∀ A,RB A fs R->Q (.c (.p 2 0)) [.cells 90 [.de (.int .u32) T 0 0,.d .u8 im,.k (.int .i64 s0),.k (.int .i64 s1),.k (.int .i64 s2),.k (.int .i64 s3),.k (.int .i64 s4),.k (.int .i64 s5),.k (.int .i64 s6),.k (.int .i64 s7),.k (.int .i64 s8),.k (.int .i64 s9),.k (.slice none 0 0),.k (.slice none 0 0),.k (.pointer none),.k (.pointer none),.k (.pointer none),.m 1,.k (.int .i64 nm)],.ab (.pm 3 82 bn M),.abs A]
 | _=>False)
 | _=>False)
 | _=>False)
 | _=>False)
 | _=>False)
 | _=>False)
 | _=>False)
 | _=>False)
theorem XD:cq 59 DD:=λargs H Q h=>by
 unfold DD MY ZX at h
 repeat (split at h;rotate_left;exact h.elim)
 exact adE _ _ _ ⟨_,_,_,_,_,_,_,_,_,_,_,_,_,_,_,_,rfl,rfl,h⟩
def DC:Ct:=λargs H Q=>(match args with
 | [.v (.c (.p 0 0)),.v (.c (.k (.int .i64 a))),.v (.c (.k (.int .i64 c)))]=>(match H with
 | [o0,o1,o2,o3,o4]=>Xd o0 λT im s0 s1 s2 s3 s4 s5 s6 s7 s8 s9 c12 c13 nm=>(match c12 with
 | .k (.slice none 0 0)=>(match c13 with
 | .k (.slice none 0 0)=>(match o1 with
 | .abs R1=>(match o2 with
 | .abs R2=>(match o3 with
 | .abs R3=>MY o4 λM=>T.length=256/\im.length<=100000000/\∃ fs R,R.length<=10000000/\iX T im a c fs R []/\∀ A,RB A fs R->Q (.c (.p 5 0)) [.cells 90 [.de (.int .u32) T 0 0,.d .u8 im,.k (.int .i64 s0),.k (.int .i64 s1),.k (.int .i64 s2),.k (.int .i64 s3),.k (.int .i64 s4),.k (.int .i64 s5),.k (.int .i64 s6),.k (.int .i64 s7),.k (.int .i64 s8),.k (.int .i64 s9),.k (.slice none 0 0),.k (.slice none 0 0),.p 1 0,.p 2 0,.p 3 0,.m 4,.k (.int .i64 nm)],.abs R1,.abs R2,.abs R3,.ab (.pm 3 82 bn M),.abs A]
 | _=>False)
 | _=>False)
 | _=>False)
 | _=>False)
 | _=>False)
 | _=>False)
 | _=>False)
theorem XC:cq 59 DC:=λargs H Q h=>by
 unfold DC MY Xd ZX at h
 repeat (split at h;rotate_left;exact h.elim)
 exact adD _ _ _ ⟨_,_,_,_,_,_,_,_,_,_,_,_,_,_,_,_,_,_,_,rfl,rfl,h⟩
def DB:Ct:=λargs H Q=>(match args with
 | [.v (.c (.p 0 0)),.v (.c (.k (.int .i64 a))),.v (.c (.k (.int .i64 c)))]=>(match H with
 | [o0,o1,o2,o3,o4]=>Xd o0 λT im s0 s1 s2 s3 s4 s5 s6 s7 s8 s9 c12 c13 nm=>(match c12 with
 | .d (.int .i64) pl=>(match c13 with
 | .k (.slice none 0 0)=>(match o1 with
 | .abs R1=>(match o2 with
 | .abs R2=>(match o3 with
 | .abs R3=>MY o4 λM=>T.length=256/\im.length<=100000000/\∃ fs R,R.length<=10000000/\iX T im a c fs R []/\∀ A,RB A fs R->Q (.c (.p 5 0)) [.cells 90 [.de (.int .u32) T 0 0,.d .u8 im,.k (.int .i64 s0),.k (.int .i64 s1),.k (.int .i64 s2),.k (.int .i64 s3),.k (.int .i64 s4),.k (.int .i64 s5),.k (.int .i64 s6),.k (.int .i64 s7),.k (.int .i64 s8),.k (.int .i64 s9),.d (.int .i64) pl,.k (.slice none 0 0),.p 1 0,.p 2 0,.p 3 0,.m 4,.k (.int .i64 nm)],.abs R1,.abs R2,.abs R3,.ab (.pm 3 82 bn M),.abs A]
 | _=>False)
 | _=>False)
 | _=>False)
 | _=>False)
 | _=>False)
 | _=>False)
 | _=>False)
theorem XB:cq 59 DB:=λargs H Q h=>by
 unfold DB MY Xd ZX at h
 repeat (split at h;rotate_left;exact h.elim)
 exact adC _ _ _ ⟨_,_,_,_,_,_,_,_,_,_,_,_,_,_,_,_,_,_,_,_,rfl,rfl,h⟩
def TV:Ct:=λargs H Q=>match H with
 | .cells _ (_::_::_::_::_::_::_::_::_::_::_::_::c::_)::_=>(match c with
  | .k _=>DC args H Q
  | _=>DB args H Q)
 | _=>False
theorem adz:cq 59 TV:=λargs H Q h=>by
 unfold TV at h
 grind [XC, XB]
def akF:Ct:=cD (Ty.int .i64) λx=>c0 λQ=>x.length<=1000000/\Q (.c (.d (.int .i64) x)) []
def R6 (x:(List ((Ty.int .i64)).den)):dq:=λQ=>ix x (∀ (c:Bool),(c=true->x= [])->br (mY c) (Q gW []) ((0+List.length x)*8<=cd/\0+List.length x<=9223372036854775807/\Q eY [.sl 3 bq ([]++x)]))
theorem XT:cq 107 akF:=eI<| iH λx=>gx λQ h=>by
 refine Wp.Jh (e:=.int .i64) ?_;refine Wp.dy gp ee ⟨[],[]⟩ Tryz.f107 (R6 x) ?_;unfold R6 gW mY eY ix cd dD bq;refine λ_ c hc=>ak (λhb=>.inr (.inl ⟨rfl,?_⟩)) (by grind)
 grind
def akE:Ct:=cD (Ty.int .i64) λx=>c0 λQ=>(x.Pairwise λa b=>a< b)/\Q (.c (.d (.int .i64) x)) []
def alu:=gp.add XT
def R5 (x:(List ((Ty.int .i64)).den)):dq:=λQ=>ix x (aJ (List.length x)->br (decide ((ay x)< dm)) (Q (SV.v (S1.c (Cl.d bq x))) []) (aK (λi ag=>ix x (br (decide (i.1.1< (ay x))) (0<=i.1.1/\i.1.1< (ay x)/\(yC x i.1.1 (Ty.ok bq (jR x 
 i.1.1)->br (aA bq x i.1.1==aA bq x (i.1.1 - 1)) (0<=i.1.1/\i.1.1<=(ay x)/\False) (dN i.1.1 ag)))) (Q (SV.v (S1.c (Cl.d bq x))) []))) ((aW,()),())))
theorem aiA:cq 106 akE:=eI<| iH λx=>gx λQ h=>by
 refine Wp.dy alu ee ⟨[(5,⟨[(3,.int .i64)],[]⟩)],[]⟩ Tryz.f106 (R5 x) ?_;unfold R5 jR yC ix dN aW dm ay aJ bq;obtain ⟨hs,h⟩:=h;refine λ_ _=>ak (λ_=>h) (λhc=>aK.intro (λi=>1<=i.1.1/\i.1.1<=(x.length:Int)) (λi=>x.length - i.1.1.toNat) ⟨bh _,by have:=of_decide_eq_false hc;show (1:Int)<=_;omega⟩ ?_);rintro ⟨⟨i,_⟩,_⟩ ⟨h0,h1⟩;simp only at h0 h1 ⊢;refine λ_=>ak (λhd=>?_) (λ_=>h);have hd:=of_decide_eq_true hd;have P:=dx.1 hs (i - 1).toNat i.toNat (by omega) (by omega) (by omega);rw [<-fF (e:=.int .i64) (by omega) (by omega),<-fF (e:=.int .i64) (by omega) hd] at P;refine ⟨by omega,hd,λ_=>⟨by unfold aB;omega,by omega,by omega,λ_=>ak (λq=>?_) (λ_=>⟨by unfold aB;omega,⟨by omega,by omega⟩,by omega⟩)⟩⟩;have q:aA (.int .i64) x i=aA (.int .i64) x (i - 1):=eq_of_beq q;rw [q] at P;exact absurd P (Int.lt_irrefl _)
def aaK:Ct:=λargs H Q=>∃ (T:List Int) (im:List UInt8) (s0:Int) (s1:Int) (s2:Int) (s3:Int) (s4:Int) (s5:Int) (s6:Int) (s7:Int) (s8:Int) (s9:Int) (nm:Int) (R1:Value->Atom) (R2:Value->Atom) (R3:Value->Atom) (M:List (Int×Nat×bn.den)),args= [.v (.c (.p 0 0))]/\H= [.cells 90 [.de (.int .u32) T 0 0,.d .u8 im,.k (.int .i64 s0),.k (.int .i64 s1),.k (.int .i64 s2),.k (.int .i64 s3),.k (.int .i64 s4),.k (.int .i64 s5),.k (.int .i64 s6),.k (.int .i64 s7),.k (.int .i64 s8),.k (.int .i64 s9),.k (.slice none 0 0),.k (.slice none 0 0),.p 1 0,.p 2 0,.p 3 0,.m 4,.k (.int .i64 nm)],.abs R1,.abs R2,.abs R3,.ab (.pm 3 82 bn M)]/\∃ (d:IR) (N:List bc),d.Ok T N/\T.length=256/\im=d.im T/\d.s=(s0,s1,s2,s3,s4,s5,s6,s7,s8,s9,())/\Q (.bool true) [.cells 90 [.de (.int .u32) T 0 0,.d .u8 im,.k (.int .i64 s0),.k (.int .i64 s1),.k (.int .i64 s2),.k (.int .i64 s3),.k (.int .i64 s4),.k (.int .i64 s5),.k (.int .i64 s6),.k (.int .i64 s7),.k (.int .i64 s8),.k (.int .i64 s9),.d (.int .i64) d.pl,.d (.int .i64) d.ids,.p 1 0,.p 2 0,.p 3 0,.m 4,.k (.int .i64 nm)],.abs R1,.abs R2,.abs R3,.ab (.pm 3 82 bn M)]
def als:=((((gp.add EO).add Bi).add adz).add XT).add aiA
def Ff (T:List Int) (im:List UInt8) (s0 s1 s2 s3 s4 s5 s6 s7 s8 s9 nm:Int) (R1 R2 R3:Value->Atom) (M:(List (Int×Nat×bn.den))):dq:=λQ=>dO T (jd im (∃ fs R,fV R (iX T im s4 s5 fs R []/\∀ (A:Value->Atom),RB A fs R->∃ fs R,RB A fs R/\(cA=dm\/cA=cA)/\∃ l,(∀ (x:Int),x∈l->0<= 
 x/\x< 256 ^ cQ)/\R=gy cQ l/\s8=(ay l)/\List.length l<=100000/\∀ (A':Value->Atom),RB A' fs R->aJ (bw l)->aB .i64 0->dO T (jd im (∃ fs R,fV R (iX T im s5 s6 fs R []/\∀ (A:Value->Atom),RB A 
 fs R->∃ fs R,RB A fs R/\(dm=dm\/dm=cA)/\∃ Es,(∀ (x:Int),x∈Es->0<=x/\x< 256 ^ a7)/\R=gy a7 Es/\s7=(ay Es)/\List.length Es<=100000/\∀ (A':Value->Atom),RB A' fs R->aJ (bw Es)-> 
 aB .i64 0->UA Es/\(aJ (bw Es)->List.length Es<=1000000/\(aJ (bw Es)->List.Pairwise (λa b=>a< b) Es/\(aJ (bw Es)->aJ (bw Es)->Q (.v (.c (.k (.bool ((ay Es)==(ay Es)))))) [fW T im s0 s1 
 s2 s3 s4 s5 s6 s7 s8 s9 l Es nm,HO.abs R1,HO.abs R2,HO.abs R3,fD M])))))))))
theorem Xu:cq 60 aaK:=by
 intro args H Q h;obtain ⟨T,im,s0,s1,s2,s3,s4,s5,s6,s7,s8,s9,nm,R1,R2,R3,M,rfl,rfl,h⟩:=h;refine Wp.dy als ee ⟨[],[]⟩ Tryz.f60 (Ff T im s0 s1 s2 s3 s4 s5 s6 s7 s8 s9 nm R1 R2 R3 M) ?_;unfold Ff jd fV dO bw dm cA ay aJ a7 bI cQ fW fD;obtain ⟨d,N,hd,hT,rfl,hs,h⟩:=h;obtain ⟨z1,z2,z3,z4,z5,z6,z7,z8⟩:=hd.small;have hr:=hd.rds;have hP:=hr.P;have hN:=hr.N;have hf:=hd.sf;have hi:=hd.si;rw [hs] at hP hN hf hi;have n4:=ka 4 d.pl;have n2:=ka 2 d.ids;refine ⟨hT,by omega,d.fP,gy 4 d.pl,by omega,hP,λA hA=>⟨d.fP,_,hA,.inr rfl,d.pl,Ze hd.pls (by omega),rfl,hf,by omega,λA' _ _ _=>⟨hT,by omega,d.fN,gy 2 d.ids,by omega,hN,λB hB=>⟨d.fN,_,hB,.inl rfl,d.ids,hd.idr,rfl,hi,by omega,λB' _ _ _=>⟨⟨λi i1 i2=>?_⟩,λ_=>⟨by omega,λ_=>⟨hd.tok.Md,λ_ _=>?_⟩⟩⟩⟩⟩⟩⟩
 .have P:=dx.1 hd.tok.Md (i - 1).toNat i.toNat (by omega) (by omega) (by omega);rw [fF (e:=.int .i64) (by omega) (by omega),fF (e:=.int .i64) (by omega) i2];exact Int.le_of_lt P
 .rw [show (((d.ids.length:Nat):Int)==((d.ids.length:Nat):Int))=true by simp];exact h
def Hm:Ct:=λargs H Q=>(match args with
 | [.v (.c (.p 0 0))]=>(match H with
 | [o0,o1,o2,o3,o4]=>Xd o0 λT im s0 s1 s2 s3 s4 s5 s6 s7 s8 s9 c12 c13 nm=>(match c12 with
 | .k (.slice none 0 0)=>(match c13 with
 | .k (.slice none 0 0)=>(match o1 with
 | .abs R1=>(match o2 with
 | .abs R2=>(match o3 with
 | .abs R3=>MY o4 λM=>∃ (d:IR) (N:List bc),d.Ok T N/\T.length=256/\im=d.im T/\d.s=(s0,s1,s2,s3,s4,s5,s6,s7,s8,s9,())/\Q (.bool true) [.cells 90 [.de (.int .u32) T 0 0,.d .u8 im,.k (.int .i64 s0),.k (.int .i64 s1),.k (.int .i64 s2),.k (.int .i64 s3),.k (.int .i64 s4),.k (.int .i64 s5),.k (.int .i64 s6),.k (.int .i64 s7),.k (.int .i64 s8),.k (.int .i64 s9),.d (.int .i64) d.pl,.d (.int .i64) d.ids,.p 1 0,.p 2 0,.p 3 0,.m 4,.k (.int .i64 nm)],.abs R1,.abs R2,.abs R3,.ab (.pm 3 82 bn M)]
 | _=>False)
 | _=>False)
 | _=>False)
 | _=>False)
 | _=>False)
 | _=>False)
 | _=>False)
theorem UK:cq 60 Hm:=λargs H Q h=>by
 unfold Hm MY Xd ZX at h;dsimp only at h
 repeat (split at h;rotate_left;exact h.elim)
 exact Xu _ _ _ ⟨_,_,_,_,_,_,_,_,_,_,_,_,_,_,_,_,_,rfl,rfl,h⟩
end Go.Proofs

namespace Go.Lm
open Go Go.RowKit
section
variable {I:cV->Prop} {P:Program} {f:FuncId} {args:List SV} {H:List HO} {Q:SV->List HO->Prop}
theorem Wp.cellOf {p:Nat} {t:TypeId} {e:Ty} (h:Wp I P f args H λsv H'=>∃ cs x,H'[p]?=some (.cells t cs)/\e.of cs=some (x,[])/\Q sv (H'.set p (.cells t (e.cells x)))):Wp I P f args H Q:=λW hW g w E F vs hs hv=>
 (h W hW g w E F vs hs hv).mono λv w' ⟨E1,g1,sv,H1,e1,m1,s1,r1,cs,x,hp,ho,hq⟩=>by
  have JF:=(aw.1 hp).1;have hlen:E1.length=H1.length:=s1.len;refine ⟨E1,g1,sv,_,e1,m1,⟨?_,by simp [hlen]⟩,r1,hq⟩;refine s1.sl.cv λk s=>?_;obtain ⟨k1,k2,ap,e2,⟨bb,us,hE,hrel,hblk⟩,s2⟩:=bd.sk hp s;obtain ⟨u1,u2,e3,h3,h4⟩:=of_cells e ho hrel;obtain rfl:u2= []:=h4;rw [bf] at e3;subst e3;have s3:bd g1 (cF E1 p (.cells t (e.cells x))::(a8 E1 0 (H1.set p .gone)++F)) k:=⟨k1,k2,ap,e2,⟨bb,_,hE,(ft E1 g1 e h3).1,hblk⟩,s2⟩;have s4:=bd.Em (l:=p) (by simp;omega) s3;rw [List.set_set] at s4;exact s4
end
end Go.Lm

namespace Go.Proofs
open Go Go.Lm Go.RowKit
set_option maxRecDepth 1000000
def afJ:Ct:=λargs H Q=>∃ (ref:Int) (kd:Int) (T:List Int) (im:List UInt8) (s0:Int) (s1:Int) (s2:Int) (s3:Int) (s4:Int) (s5:Int) (s6:Int) (s7:Int) (s8:Int) (s9:Int) (pl:List Int) (ids:List Int) (nm:Int) (R1:Value->Atom) (R2:Value->Atom) (R3:Value->Atom) (M:List (Int×Nat×bn.den)),args= [.v (.c (.p 0 0)),.int ref,.int kd]/\H= [.cells 90 [.de (.int .u32) T 0 0,.d .u8 im,.k (.int .i64 s0),.k (.int .i64 s1),.k (.int .i64 s2),.k (.int .i64 s3),.k (.int .i64 s4),.k (.int .i64 s5),.k (.int .i64 s6),.k (.int .i64 s7),.k (.int .i64 s8),.k (.int .i64 s9),.d (.int .i64) pl,.d (.int .i64) ids,.p 1 0,.p 2 0,.p 3 0,.m 4,.k (.int .i64 nm)],.abs R1,.abs R2,.abs R3,.ab (.pm 3 82 bn M)]/\∃ (d:IR) (N:List bc),d.Ok T N/\(T=dB/\im=d.im T/\d.s=(s0,s1,s2,s3,s4,s5,s6,s7,s8,s9,())/\pl=d.pl/\ids=d.ids)/\(RB R1 d.fI d.t.RI/\RB R2 d.fL d.t.RL/\RB R3 d.fX d.t.RX)/\∃ x∈N,kd=x.2.2.1/\Kk.get .int d.t.Mr x.2.1=some ref/\∀ B1 B2 B3 r,RB B1 d.fI d.t.RI->RB B2 d.fL d.t.RL->RB B3 d.fX d.t.RX->rU d N x 0 r->Q (.c (.p 5 0)) [.cells 90 [.de (.int .u32) T 0 0,.d .u8 im,.k (.int .i64 s0),.k (.int .i64 s1),.k (.int .i64 s2),.k (.int .i64 s3),.k (.int .i64 s4),.k (.int .i64 s5),.k (.int .i64 s6),.k (.int .i64 s7),.k (.int .i64 s8),.k (.int .i64 s9),.d (.int .i64) pl,.d (.int .i64) ids,.p 1 0,.p 2 0,.p 3 0,.m 4,.k (.int .i64 nm)],.abs B1,.abs B2,.abs B3,.ab (.pm 3 82 bn M),.cells 82 (bn.cells r)]
def alr:=((((gp.add E9).add Kw).add Ru).add Re).add KJ
abbrev sY:SV:=.v (.c (.k (.pointer none)))
abbrev Pt (y0) (y1:List UInt8) (y2) (y3) (y4) (y5) (y6:Int) (R:Prop):=D7 y0 y1 y2 y3 y4/\y5=(ay y3)/\List.length y3<=4096/\y2+(aP (ae y4))<=y6/\R
def Lk (ref kd:Int) (T:List Int) (im:List UInt8) (s0 s1 s2 s3 s4 s5 s6 s7 s8 s9:Int) (pl ids:List Int) (nm:Int) (R1 R2 R3:Value->Atom) (M:(List (Int×Nat×bn.den))):dq:=λQ=>bZ ref kd (∃ fs R,RB R1 fs R/\∃ o,o<=List.length R/\ref=(↑(dS fs o):Int)/\∃ i q,o7 i/\List.drop o R=fO i++q/\∀ (A':Value->Atom),RB A' 
 fs R->cr i.1 i.2.1 i.2.2.1 (cr i.2.2.2.1 i.2.2.2.2.1 i.2.2.2.2.2.1 (cr i.2.2.2.2.2.2.1 i.2.2.2.2.2.2.2.1 i.2.2.2.2.2.2.2.2.1 (aB .i64 i.2.2.2.2.2.2.2.2.2.1->dv i.2.2.2.2.2.2.2.2.2.2.1 (aB .i64 (↑(dS fs (o+List.length 
 (fO i))):Int)->aB .i64 0->br (i.1 !=kd) (Q sY [fW T im s0 s1 s2 s3 s4 s5 s6 s7 s8 s9 pl ids nm,HO.abs A',HO.abs R2,HO.abs R3,fD M]) (aJ (List.length ids)->br (decide (max i.2.2.1 i.2.2.2.1≥(ay ids))) (Q sY 
 [fW T im s0 s1 s2 s3 s4 s5 s6 s7 s8 s9 pl ids nm,HO.abs A',HO.abs R2,HO.abs R3,fD M]) (br (decide (i.2.2.2.2.2.2.2.2.1>s8)) (Q sY [fW T im s0 s1 s2 s3 s4 s5 s6 s7 s8 s9 pl ids nm,HO.abs A',HO.abs R2,HO.abs R3,fD M]) 
 (br (decide (i.2.2.2.2.2.1>0)) (aB .i64 (i.2.2.2.2.2.1 - 1)/\∃ fs R,RB R3 fs R/\∃ o,o<=List.length R/\i.2.2.2.2.2.1 - 1=(↑(dS fs o):Int)/\∃ l q,dC l=true/\l≠ []/\List.drop o R=xsB l++q/\∀ (Ec:Value-> 
 Atom),RB Ec fs R->aJ (bw l)->aB .i64 0->br (kd==2) (jd im (∃ T_1 x fs,Pt T_1 im i.2.2.2.2.2.2.1 x fs i.2.2.2.2.2.2.2.1 s2 (aB .i64 (i.2.2.2.2.2.2.1+(aP (ae fs)))->aB .i64 0->br (decide 
 (i.2.2.2.2.2.2.2.1≥128)) (br (decide (i.2.2.2.2.2.2.1< 64)) (Q sY [fW T im s0 s1 s2 s3 s4 s5 s6 s7 s8 s9 pl ids nm,HO.abs A',HO.abs R2,HO.abs Ec,fD M]) (Q ma [fW T im s0 s1 s2 s3 s4 s5 s6 s7 s8 s9 pl ids nm,HO.abs 
 A',HO.abs R2,HO.abs Ec,fD M,.cells 82 [.k (aC i.1),.k (aC i.2.1),.k (aC i.2.2.1),.k (aC i.2.2.2.1),.k (aC i.2.2.2.2.1),.k (aC i.2.2.2.2.2.1),.k (aC i.2.2.2.2.2.2.1),.k (aC i.2.2.2.2.2.2.2.1),.k (aC 
 i.2.2.2.2.2.2.2.2.1),.k (aC i.2.2.2.2.2.2.2.2.2.1),.k (.string i.2.2.2.2.2.2.2.2.2.2.1),.k aT,.k eP,Cl.d cU l]])) (Q ma [fW T im s0 s1 s2 s3 s4 s5 s6 s7 s8 s9 pl ids nm,HO.abs A',HO.abs R2,HO.abs Ec,fD M, 
 .cells 82 [.k (aC i.1),.k (aC i.2.1),.k (aC i.2.2.1),.k (aC i.2.2.2.1),.k (aC i.2.2.2.2.1),.k (aC i.2.2.2.2.2.1),.k (aC i.2.2.2.2.2.2.1),.k (aC i.2.2.2.2.2.2.2.1),.k (aC i.2.2.2.2.2.2.2.2.1),.k (aC 
 i.2.2.2.2.2.2.2.2.2.1),.k (.string i.2.2.2.2.2.2.2.2.2.2.1),.k aT,.k eP,Cl.d cU l]])))) (br (kd==1) (∃ fs R,RB R2 fs R/\∃ o,vG o R i.2.2.2.2.2.2.1 fs i.2.2.2.2.2.2.2.1 (∀ (alL:Value->Atom) (z:List UInt8) (nx e: 
 Int),RB alL fs R->pw fs R o (aS i.2.2.2.2.2.2.2.1) z nx e->cW z (bZ nx e (br (e !=0) (Q sY [fW T im s0 s1 s2 s3 s4 s5 s6 s7 s8 s9 pl ids nm,HO.abs A',HO.abs alL,HO.abs Ec,fD M]) (∃ Es,iV ⟨#[]⟩ Es/\ 
 List.length Es<=1024/\z=gM Es/\(aJ (bw Es)->aB .i64 0->Q ma [fW T im s0 s1 s2 s3 s4 s5 s6 s7 s8 s9 pl ids nm,HO.abs A',HO.abs alL,HO.abs Ec,fD M,.cells 82 [.k (aC i.1),.k (aC i.2.1),.k (aC i.2.2.1), 
 .k (aC i.2.2.2.1),.k (aC i.2.2.2.2.1),.k (aC i.2.2.2.2.2.1),.k (aC i.2.2.2.2.2.2.1),.k (aC i.2.2.2.2.2.2.2.1),.k (aC i.2.2.2.2.2.2.2.2.1),.k (aC i.2.2.2.2.2.2.2.2.2.1),.k (.string i.2.2.2.2.2.2.2.2.2.2.1),.k aT, 
 Cl.d dg Es,Cl.d cU l]])))))) (Q ma [fW T im s0 s1 s2 s3 s4 s5 s6 s7 s8 s9 pl ids nm,HO.abs A',HO.abs R2,HO.abs Ec,fD M,.cells 82 [.k (aC i.1),.k (aC i.2.1),.k (aC i.2.2.1),.k (aC i.2.2.2.1),.k (aC 
 i.2.2.2.2.1),.k (aC i.2.2.2.2.2.1),.k (aC i.2.2.2.2.2.2.1),.k (aC i.2.2.2.2.2.2.2.1),.k (aC i.2.2.2.2.2.2.2.2.1),.k (aC i.2.2.2.2.2.2.2.2.2.1),.k (.string i.2.2.2.2.2.2.2.2.2.2.1),.k aT,.k eP,Cl.d cU l]]))) (br 
 (kd==2) (jd im (∃ T_1 x fs,Pt T_1 im i.2.2.2.2.2.2.1 x fs i.2.2.2.2.2.2.2.1 s2 (aB .i64 (i.2.2.2.2.2.2.1+(aP (ae fs)))->aB .i64 0->br (decide (i.2.2.2.2.2.2.2.1≥128)) (br (decide (i.2.2.2.2.2.2.1< 64)) (Q 
 sY [fW T im s0 s1 s2 s3 s4 s5 s6 s7 s8 s9 pl ids nm,HO.abs A',HO.abs R2,HO.abs R3,fD M]) (Q ma [fW T im s0 s1 s2 s3 s4 s5 s6 s7 s8 s9 pl ids nm,HO.abs A',HO.abs R2,HO.abs R3,fD M,.cells 82 [.k (aC i.1),.k (aC 
 i.2.1),.k (aC i.2.2.1),.k (aC i.2.2.2.1),.k (aC i.2.2.2.2.1),.k (aC i.2.2.2.2.2.1),.k (aC i.2.2.2.2.2.2.1),.k (aC i.2.2.2.2.2.2.2.1),.k (aC i.2.2.2.2.2.2.2.2.1),.k (aC i.2.2.2.2.2.2.2.2.2.1),.k (.string 
 i.2.2.2.2.2.2.2.2.2.2.1),.k aT,.k eP,.k eP]])) (Q ma [fW T im s0 s1 s2 s3 s4 s5 s6 s7 s8 s9 pl ids nm,HO.abs A',HO.abs R2,HO.abs R3,fD M,.cells 82 [.k (aC i.1),.k (aC i.2.1),.k (aC i.2.2.1),.k (aC 
 i.2.2.2.1),.k (aC i.2.2.2.2.1),.k (aC i.2.2.2.2.2.1),.k (aC i.2.2.2.2.2.2.1),.k (aC i.2.2.2.2.2.2.2.1),.k (aC i.2.2.2.2.2.2.2.2.1),.k (aC i.2.2.2.2.2.2.2.2.2.1),.k (.string i.2.2.2.2.2.2.2.2.2.2.1),.k aT,.k eP, 
 .k eP]])))) (br (kd==1) (∃ fs R,RB R2 fs R/\∃ o,vG o R i.2.2.2.2.2.2.1 fs i.2.2.2.2.2.2.2.1 (∀ (Ec:Value->Atom) (z:List UInt8) (nx e:Int),RB Ec fs R->pw fs R o (aS i.2.2.2.2.2.2.2.1) z nx e->cW z (bZ 
 nx e (br (e !=0) (Q sY [fW T im s0 s1 s2 s3 s4 s5 s6 s7 s8 s9 pl ids nm,HO.abs A',HO.abs Ec,HO.abs R3,fD M]) (∃ l,iV ⟨#[]⟩ l/\List.length l<=1024/\z=gM l/\(aJ (bw l)->aB .i64 0->Q ma [fW T im s0 s1 
 s2 s3 s4 s5 s6 s7 s8 s9 pl ids nm,HO.abs A',HO.abs Ec,HO.abs R3,fD M,.cells 82 [.k (aC i.1),.k (aC i.2.1),.k (aC i.2.2.1),.k (aC i.2.2.2.1),.k (aC i.2.2.2.2.1),.k (aC i.2.2.2.2.2.1),.k (aC i.2.2.2.2.2.2.1),.k 
 (aC i.2.2.2.2.2.2.2.1),.k (aC i.2.2.2.2.2.2.2.2.1),.k (aC i.2.2.2.2.2.2.2.2.2.1),.k (.string i.2.2.2.2.2.2.2.2.2.2.1),.k aT,Cl.d dg l,.k eP]])))))) (Q ma [fW T im s0 s1 s2 s3 s4 s5 s6 s7 s8 s9 pl ids nm,HO.abs 
 A',HO.abs R2,HO.abs R3,fD M,.cells 82 [.k (aC i.1),.k (aC i.2.1),.k (aC i.2.2.1),.k (aC i.2.2.2.1),.k (aC i.2.2.2.2.1),.k (aC i.2.2.2.2.2.1),.k (aC i.2.2.2.2.2.2.1),.k (aC i.2.2.2.2.2.2.2.1),.k (aC 
 i.2.2.2.2.2.2.2.2.1),.k (aC i.2.2.2.2.2.2.2.2.2.1),.k (.string i.2.2.2.2.2.2.2.2.2.2.1),.k aT,.k eP,.k eP]])))))))))))
theorem adH:cq 108 afJ:=by
 intro args H Q h;obtain ⟨ref,kd,T,im,s0,s1,s2,s3,s4,s5,s6,s7,s8,s9,pl,ids,nm,R1,R2,R3,M,rfl,rfl,h⟩:=h;refine Wp.cellOf (p:=5) (t:=82) (e:=bn) ?_;refine Wp.dy alr ee ⟨[],[]⟩ Tryz.f108 (Lk ref kd T im s0 s1 s2 s3 s4 s5 s6 s7 s8 s9 pl ids nm R1 R2 R3 M) ?_;unfold Lk Pt jd ma sY vG cW eP dv bZ bw aT aS cr aC aP ay aJ fW fD;obtain ⟨d,N,hd,⟨rfl,rfl,hs,rfl,rfl⟩,⟨hR1,hR2,hR3⟩,x,hx,rfl,hg,h⟩:=h;obtain ⟨z1,z2,z3,z4,z5,z6,z7,z8⟩:=hd.small;obtain ⟨i,hN,o,ho,hro,q,hq⟩:=hd.recAt hx hg;have Xi:=hd.aqs hx hN;have hf:=hd.sf;have hs2:(d.s.2.2.1:Int)<=s2:=by rw [hs];exact bh _
 rw [hs] at hf;have hf:s8=(d.pl.length:Int):=hf;obtain ⟨fr,efr⟩:∃ a:Int,a=i.2.2.2.2.2.2.2.2.1:=⟨_,rfl⟩;obtain ⟨xv,exv⟩:∃ a:Int,a=i.2.2.2.2.2.1:=⟨_,rfl⟩;obtain ⟨sz,esz⟩:∃ a:Int,a=i.2.2.2.2.2.2.2.1:=⟨_,rfl⟩;obtain ⟨st,est⟩:∃ a:Int,a=i.2.2.2.2.2.2.1:=⟨_,rfl⟩;have Xi:fr<=(d.pl.length:Int):=by rw [efr];exact Xi
 have hu:=JE hN.uid;have hgd:=JE hN.gid;have hu0:=hN.ok.cm.q2.1;have hg0:=hN.ok.cm.q3.1;have hxc:=hN.ok.cm.q5;refine λ_ _=>⟨d.fI,d.t.RI,hR1,o,ho,hro,i,q,hN.ok,hq,λB1 hB1 _ _ _ _ _ _ _ _ _ _ _ _ _=>ak (λe=>?_) (λ_=>λ_=>ak (λe=>?_) (λ_=>ak (λe=>?_) (λ_=>ak (λhxa=>?_) (λhxa=>?_))))⟩
 .rw [hN.kind] at e;simp at e
 .have e:=of_decide_eq_true e;have e:(d.ids.length:Int)<=max (i.2.2.1:Int) (i.2.2.2.1:Int):=e;have u0:(0:Int)<=(i.2.2.1:Int):=hu0;have g0:(0:Int)<=(i.2.2.2.1:Int):=hg0;omega
 .have e:=of_decide_eq_true e;have e:s8< fr:=by rw [efr];exact e
  omega
 .have hxa:=of_decide_eq_true hxa;have hxa:0< xv:=by rw [exv];exact hxa
  rcases hd.al8 hx hN with ⟨w1,_⟩| ⟨w1,w2,w3,o3,w4,w5,q3,w6⟩
  .have w1:xv=0:=by rw [exv];exact w1
   omega
  have hxc:xv<=4294967295:=by rw [exv];exact hxc.2
  refine ⟨by rw [<-exv];unfold aB;omega,d.fX,d.t.RX,hR3,o3,w4,w5,x.2.2.2.2.2.2.1,q3,w3,w2,w6,λB3 hB3 _ _=>?_⟩;refine ak (λhk=>?_) (λhk=>ak (λtz=>?_) (λtz=>⟨_,(i,0,[],x.2.2.2.2.2.2.1,()),rfl,rfl,h B1 R2 B3 (i,0,[],x.2.2.2.2.2.2.1,()) hB1 hR2 hB3 ⟨hN,rfl,(.inr ⟨by first| (rw [eq_of_beq hk];decide)| simpa using tz,rfl⟩),rfl⟩⟩))
  .obtain ⟨fs,f1,f2,f3,f4,_⟩:=hd.fileAt hx (eq_of_beq hk) hN;have hx4:=(oJ (hd.tok.may x hx)).2;refine ⟨by omega,dB,x.2.2.2.2.1,fs,f1,f2,hx4,Int.le_trans f4 hs2,λ_ _=>ak (λq=>ak (λq2=>?_) (λ_=>⟨_,(i,0,[],x.2.2.2.2.2.2.1,()),rfl,rfl,h B1 R2 B3 (i,0,[],x.2.2.2.2.2.2.1,()) hB1 hR2 hB3 ⟨hN,rfl,(.inr ⟨by first| (rw [eq_of_beq hk];decide)| simpa using tz,rfl⟩),rfl⟩⟩)) (λ_=>⟨_,(i,0,[],x.2.2.2.2.2.2.1,()),rfl,rfl,h B1 R2 B3 (i,0,[],x.2.2.2.2.2.2.1,()) hB1 hR2 hB3 ⟨hN,rfl,(.inr ⟨by first| (rw [eq_of_beq hk];decide)| simpa using tz,rfl⟩),rfl⟩⟩)⟩
   have q:(128:Int)<=sz:=by rw [esz];exact of_decide_eq_true q
   have q2:st< 64:=by rw [est];exact of_decide_eq_true q2
   have f2:sz=(x.2.2.2.2.1.length:Int):=by rw [esz];exact f2
   have f3:64<=st:=by rw [est];exact f3 (by omega)
   omega
  .obtain ⟨es,l1,l2,l3,l4,o2,p1,p2,p3⟩:=hd.ZG (eq_of_beq tz) hN;have hen:((i.2.2.2.2.2.2.2.1:Int)).toNat=(gM es).length:=by rw [l4];rfl
   refine ⟨d.fL,d.t.RL,hR2,o2,by omega,p2,⟨by rw [l4];exact Int.natCast_nonneg _,by rw [l4];show ((gM es).length:Int)<=10000000;omega⟩,λB2 z nx e hB2 hz _ _ _=>?_⟩;rw [hen] at hz;obtain ⟨rfl,_,rfl⟩:=hz.ok p1;refine ak (λq=>by cases q) (λ_=>⟨es,l1,l3,p3,λ_ _=>⟨_,(i,0,es,x.2.2.2.2.2.2.1,()),rfl,rfl,h B1 B2 B3 (i,0,es,x.2.2.2.2.2.2.1,()) hB1 hB2 hB3 ⟨hN,rfl,(.inl ⟨eq_of_beq tz,l1,l2⟩),rfl⟩⟩⟩)
 .have hxa:=of_decide_eq_false hxa;have hxa:¬0< xv:=by rw [exv];exact hxa
  rcases hd.al8 hx hN with ⟨_,w1⟩| ⟨w1,_⟩;rotate_left
  .have w1:1<=xv:=by rw [exv];exact w1
   omega
  refine ak (λhk=>?_) (λhk=>ak (λtz=>?_) (λtz=>⟨_,(i,0,[],[],()),rfl,rfl,h B1 R2 R3 (i,0,[],[],()) hB1 hR2 hR3 ⟨hN,rfl,(.inr ⟨by first| (rw [eq_of_beq hk];decide)| simpa using tz,rfl⟩),w1.symm⟩⟩))
  .obtain ⟨fs,f1,f2,f3,f4,_⟩:=hd.fileAt hx (eq_of_beq hk) hN;have hx4:=(oJ (hd.tok.may x hx)).2;refine ⟨by omega,dB,x.2.2.2.2.1,fs,f1,f2,hx4,Int.le_trans f4 hs2,λ_ _=>ak (λq=>ak (λq2=>?_) (λ_=>⟨_,(i,0,[],[],()),rfl,rfl,h B1 R2 R3 (i,0,[],[],()) hB1 hR2 hR3 ⟨hN,rfl,(.inr ⟨by first| (rw [eq_of_beq hk];decide)| simpa using tz,rfl⟩),w1.symm⟩⟩)) (λ_=>⟨_,(i,0,[],[],()),rfl,rfl,h B1 R2 R3 (i,0,[],[],()) hB1 hR2 hR3 ⟨hN,rfl,(.inr ⟨by first| (rw [eq_of_beq hk];decide)| simpa using tz,rfl⟩),w1.symm⟩⟩)⟩
   have q:(128:Int)<=sz:=by rw [esz];exact of_decide_eq_true q
   have q2:st< 64:=by rw [est];exact of_decide_eq_true q2
   have f2:sz=(x.2.2.2.2.1.length:Int):=by rw [esz];exact f2
   have f3:64<=st:=by rw [est];exact f3 (by omega)
   omega
  .obtain ⟨es,l1,l2,l3,l4,o2,p1,p2,p3⟩:=hd.ZG (eq_of_beq tz) hN;have hen:((i.2.2.2.2.2.2.2.1:Int)).toNat=(gM es).length:=by rw [l4];rfl
   refine ⟨d.fL,d.t.RL,hR2,o2,by omega,p2,⟨by rw [l4];exact Int.natCast_nonneg _,by rw [l4];show ((gM es).length:Int)<=10000000;omega⟩,λB2 z nx e hB2 hz _ _ _=>?_⟩;rw [hen] at hz;obtain ⟨rfl,_,rfl⟩:=hz.ok p1;refine ak (λq=>by cases q) (λ_=>⟨es,l1,l3,p3,λ_ _=>⟨_,(i,0,es,[],()),rfl,rfl,h B1 B2 R3 (i,0,es,[],()) hB1 hB2 hR3 ⟨hN,rfl,(.inl ⟨eq_of_beq tz,l1,l2⟩),w1.symm⟩⟩⟩)
def DF:Ct:=λargs H Q=>(match args with
 | [.v (.c (.p 0 0)),.v (.c (.k (.int .i64 ref))),.v (.c (.k (.int .i64 kd)))]=>(match H with
 | [o0,o1,o2,o3,o4]=>imR o0 λT im s0 s1 s2 s3 s4 s5 s6 s7 s8 s9 pl ids nm=>(match o1 with
 | .abs R1=>(match o2 with
 | .abs R2=>(match o3 with
 | .abs R3=>MY o4 λM=>∃ (d:IR) (N:List bc),d.Ok T N/\(T=dB/\im=d.im T/\d.s=(s0,s1,s2,s3,s4,s5,s6,s7,s8,s9,())/\pl=d.pl/\ids=d.ids)/\(RB R1 d.fI d.t.RI/\RB R2 d.fL d.t.RL/\RB R3 d.fX d.t.RX)/\∃ x∈N,kd=x.2.2.1/\Kk.get .int d.t.Mr x.2.1=some ref/\∀ B1 B2 B3 r,RB B1 d.fI d.t.RI->RB B2 d.fL d.t.RL->RB B3 d.fX d.t.RX->rU d N x 0 r->Q (.c (.p 5 0)) [.cells 90 [.de (.int .u32) T 0 0,.d .u8 im,.k (.int .i64 s0),.k (.int .i64 s1),.k (.int .i64 s2),.k (.int .i64 s3),.k (.int .i64 s4),.k (.int .i64 s5),.k (.int .i64 s6),.k (.int .i64 s7),.k (.int .i64 s8),.k (.int .i64 s9),.d (.int .i64) pl,.d (.int .i64) ids,.p 1 0,.p 2 0,.p 3 0,.m 4,.k (.int .i64 nm)],.abs B1,.abs B2,.abs B3,.ab (.pm 3 82 bn M),.cells 82 [.k (.int .i64 r.1.1),.k (.int .i64 r.1.2.1),.k (.int .i64 r.1.2.2.1),.k (.int .i64 r.1.2.2.2.1),.k (.int .i64 r.1.2.2.2.2.1),.k (.int .i64 r.1.2.2.2.2.2.1),.k (.int .i64 r.1.2.2.2.2.2.2.1),.k (.int .i64 r.1.2.2.2.2.2.2.2.1),.k (.int .i64 r.1.2.2.2.2.2.2.2.2.1),.k (.int .i64 r.1.2.2.2.2.2.2.2.2.2.1),.k (.string r.1.2.2.2.2.2.2.2.2.2.2.1),.k (.int .i64 r.2.1),.d dg r.2.2.1,.d cU r.2.2.2.1]]
 | _=>False)
 | _=>False)
 | _=>False)
 | _=>False)
 | _=>False)
theorem XI:cq 108 DF:=λargs H Q h=>by
 unfold DF MY imR Xd ZX at h;dsimp only at h
 repeat (split at h;rotate_left;exact h.elim)
 exact adH _ _ _ ⟨_,_,_,_,_,_,_,_,_,_,_,_,_,_,_,_,_,_,_,_,_,rfl,rfl,h⟩
end Go.Proofs

namespace Go.Lm
open Go
def oq (N:List bc):Nat->Int->List Int
 | 0,_=>[]
 | n+1,k=>k::(bU (aA noTy N k).1 N 0).flatMap (oq N n)
variable {N:List bc} {ids:List Int} {F:List (Int×eA.den)}
theorem Qc (t:sb N ids F) {a b:Int} (a0:0<=a) (a1:a< (N.length:Int)) (b0:0<=b) (b1:b< (N.length:Int)) (h:(aA noTy N a).1=(aA noTy N b).1):a=b:=by
 rw [fF (e:=noTy) a0 a1,fF (e:=noTy) b0 b1] at h;have P:=dx.1 t.ord;rcases Int.lt_trichotomy a b with q| q| q
 .have:=P a.toNat b.toNat (by omega) (by omega) (by omega);rw [h,kg] at this;exact absurd this (by decide)
 .exact q
 .have:=P b.toNat a.toNat (by omega) (by omega) (by omega);rw [h,kg] at this;exact absurd this (by decide)
theorem qC (t:sb N ids F):∀ (n:Nat) {k:Int},0<=k->k< (N.length:Int)->17<=(aA noTy N k).1.length+n->∀ j:Int,j∈oq N n k↔0<=j/\j< (N.length:Int)/\pre (aA noTy N k).1 (aA noTy N j)
 | 0,k,k0,k1,hn,j=>by
  have:=t.deep _ (tv (e:=noTy) k0 k1);omega
 | n+1,k,k0,k1,hn,j=>by
  unfold oq;rw [bm,List.mem_flatMap];constructor
  .rintro (rfl| ⟨a,ha,hj⟩)
   .exact ⟨k0,k1,tj _⟩
   .obtain ⟨a0,a1,al,ap⟩:=fH ha;obtain ⟨j0,j1,jp⟩:=(qC t n a0 a1 (by omega) j).1 hj;exact ⟨j0,j1,GD (by omega) ap jp⟩
  .rintro ⟨j0,j1,jp⟩;have hl:=AY jp;rcases Nat.eq_or_lt_of_le hl with q| q
   .have e:(aA noTy N j).1=(aA noTy N k).1:=by
     unfold pre at jp;rw [aL (by omega)] at jp;exact jp
    exact .inl (Qc t j0 j1 k0 k1 e)
   .obtain ⟨a,ha,hp⟩:=uD t (p:=(aA noTy N k).1) ((aA noTy N j).1.length - ((aA noTy N k).1.length+1)) (tv (e:=noTy) j0 j1) jp (by omega);obtain ⟨a0,a1,al,_⟩:=fH ha;exact .inr ⟨a,ha,(qC t n a0 a1 (by omega) j).2 ⟨j0,j1,hp⟩⟩
theorem CX {α β:Type} {f:α->List β}:∀ {l:List α},l.Nodup->(∀ a∈l,(f a).Nodup)->(∀ a∈l,∀ b∈l,a≠b->∀ x∈f a,x ∉ f b)->(l.flatMap f).Nodup
 | [],_,_,_=>List.nodup_nil
 | a::l,hn,h1,h2=>by
  obtain ⟨n1,n2⟩:=gj.1 hn;rw [pd,gv];refine ⟨h1 a aN,CX n2 (λb hb=>h1 b (aI _ hb)) λb hb c hc=>h2 b (aI _ hb) c (aI _ hc),λx hx y hy e=>?_⟩;subst e;obtain ⟨b,hb,hq⟩:=List.mem_flatMap.1 hy;exact h2 a aN b (aI _ hb) (λe=>n1 (e▸hb)) x hx hq
theorem Fa (t:sb N ids F):∀ (n:Nat) {k:Int},0<=k->k< (N.length:Int)->17<=(aA noTy N k).1.length+n->(oq N n k).Nodup
 | 0,k,k0,k1,hn=>List.nodup_nil
 | n+1,k,k0,k1,hn=>by
  unfold oq;have hK:=qg (aA noTy N k).1 (L:=N) (k:=0);refine gj.2 ⟨λq=>?_,CX (hK.imp λh e=>by rw [e] at h;exact Int.lt_irrefl _ h) (λa ha=>?_) λa ha b hb hab x hx hy=>?_⟩
  .obtain ⟨a,ha,hq⟩:=List.mem_flatMap.1 q;obtain ⟨a0,a1,al,_⟩:=fH ha;have:=AY ((qC t n a0 a1 (by omega) k).1 hq).2.2;omega
  .obtain ⟨a0,a1,al,_⟩:=fH ha;exact Fa t n a0 a1 (by omega)
  .obtain ⟨a0,a1,al,_⟩:=fH ha;obtain ⟨b0,b1,bl,_⟩:=fH hb;have p1:=((qC t n a0 a1 (by omega) x).1 hx).2.2;have p2:=((qC t n b0 b1 (by omega) x).1 hy).2.2;refine hab (Qc t a0 a1 b0 b1 ?_);unfold pre at p1 p2;rw [<-p1,<-p2,al,bl]
theorem amG:∀ {l:List Int} {n:Nat},l.Nodup->(∀ x∈l,0<=x/\x< (n:Int))->l.length<=n:=λ{l n} h1 h2=>by
 have:=pig (n:=n) (l:=l.map ax) ?_ ?_
 .rwa [bT] at this
 .rw [List.Nodup,List.pairwise_map];refine h1.imp_of_mem λ{a b} ha hb hab e=>hab ?_;have:=h2 a ha;have:=h2 b hb;omega
 .intro x hx;obtain ⟨y,hy,rfl⟩:=bp.1 hx;have:=h2 y hy;omega
def EB (N:List bc) (V:List Int) (i:Int):Nat:=V.countP λv=>(aA noTy N v).2.1==i
structure mD (d:IR) (N:List bc) (V:List Int) (M:List (Int×Nat×bn.den)):Prop where
 keys:(M.map (·.1)).Nodup
 lq:∀ p∈M,∃ k∈V,Kk.get .int d.t.Mr (aA noTy N k).2.1=some p.1/\rU d N (aA noTy N k) (EB N V (aA noTy N k).2.1:Nat) p.2.2
 has:∀ k∈V,∃ p∈M,Kk.get .int d.t.Mr (aA noTy N k).2.1=some p.1
theorem mD.nil (d:IR) (N:List bc):mD d N [] []:=⟨List.nodup_nil,λp hp=>(by cases hp),λk hk=>(by cases hk)⟩
theorem uA (N:List bc) (V:List Int) (k i:Int):EB N (V++ [k]) i=EB N V i+if (aA noTy N k).2.1=i then 1 else 0:=by
 unfold EB;rw [List.countP_append,List.countP_singleton];by_cases h:(aA noTy N k).2.1=i;rw [if_pos h,if_pos (by simpa using h)];rw [if_neg h,if_neg (by simpa using h)]
theorem mD.new {d:IR} {T:List Int} {V:List Int} {M:List (Int×Nat×bn.den)} (hd:d.Ok T N) (h:mD d N V M) {k ref:Int} (hr:Kk.get .int d.t.Mr (aA noTy N k).2.1=some ref) (kA:∀ p∈M,p.1≠ref) {bb:Nat} {r:bn.den} (hR:rU d N (aA noTy N k) 1 r):mD d N (V++ [k]) ((ref,bb,r)::M):=by
 have ja:∀ v∈V,(aA noTy N v).2.1≠(aA noTy N k).2.1:=λv hv e=>by
  obtain ⟨p,hp,hg⟩:=h.has v hv;rw [e,hr] at hg;exact kA p hp (aj hg).symm
 have h0:EB N V (aA noTy N k).2.1=0:=by
  unfold EB;rw [List.countP_eq_zero];intro v hv;simpa using ja v hv
 refine ⟨?_,λp hp=>?_,λv hv=>?_⟩
 .rw [cw,gj];refine ⟨λq=>?_,h.keys⟩;obtain ⟨p,hp,e⟩:=bp.1 q;exact kA p hp e
 .rcases bm.1 hp with rfl| hp
  .refine ⟨k,List.mem_append_right _ aN,hr,?_⟩;rw [uA,h0,if_pos rfl];exact hR
  .obtain ⟨v,hv,h1,h2⟩:=h.lq p hp;refine ⟨v,bW _ hv,h1,?_⟩;rw [uA,if_neg (λe=>ja v hv e.symm)];exact h2
 .rcases aV.1 hv with hv| hv
  .obtain ⟨p,hp,hg⟩:=h.has v hv;exact ⟨p,aI _ hp,hg⟩
  .obtain rfl:=aU.1 hv;exact ⟨_,aN,hr⟩
theorem mD.again {d:IR} {T:List Int} {V:List Int} {M:List (Int×Nat×bn.den)} (hd:d.Ok T N) (h:mD d N V M) {k ref:Int} (hr:Kk.get .int d.t.Mr (aA noTy N k).2.1=some ref) {i:Nat} {bb:Nat} {r:bn.den} (hi:M[i]?=some (ref,bb,r)):mD d N (V++ [k]) (M.set i (ref,bb,(r.1,((r.2.1:Int)+1:Int),r.2.2))):=by
 obtain ⟨hl,r8⟩:=aw.1 hi;have r6:(ref,bb,r)∈M:=r8▸dA hl;have Am:(M.set i (ref,bb,(r.1,((r.2.1:Int)+1:Int),r.2.2))).map (·.1)=M.map (·.1):=by
  rw [List.map_set];have:(M.map (·.1)).set i ref=M.map (·.1):=by
   have e:(M.map (·.1))[i]'(by rw [bT];exact hl)=ref:=by rw [List.getElem_map,r8]
   rw [<-e,List.set_getElem_self]
  exact this
 have apF:∀ (j:Nat) (hj:j< M.length),M[j].1=ref->j=i:=λj hj e=>by
  refine (List.getElem_inj (h₀:=by rw [bT];exact hj) (h₁:=by rw [bT];exact hl) h.keys).1 ?_;rw [List.getElem_map,List.getElem_map,r8];exact e
 refine ⟨by rw [Am];exact h.keys,λp hp=>?_,λv hv=>?_⟩
 .obtain ⟨j,hj,rfl⟩:=dZ.1 hp;rw [jc] at hj;rw [List.getElem_set];by_cases e:i=j
  .rw [if_pos e];obtain ⟨v,hv,h1,h2⟩:=h.lq _ r6;have he:=hd.ok.inj _ _ _ h1 hr;refine ⟨v,bW _ hv,h1,⟨h2.n,?_,h2.list,h2.xa⟩⟩;rw [uA,if_pos he.symm];have:=h2.nm;show (r.2.1:Int)+1=_;rw [this];rfl
  .rw [if_neg e];obtain ⟨v,hv,h1,h2⟩:=h.lq _ (dA hj);refine ⟨v,bW _ hv,h1,?_⟩;rw [uA,if_neg (λq=>e (apF j hj (by rw [<-q,hr] at h1;exact (aj h1).symm)).symm)];exact h2
 .have hk:∀ q,(∃ p∈M,some q=some p.1)->∃ p∈M.set i (ref,bb,(r.1,((r.2.1:Int)+1:Int),r.2.2)),some q=some p.1:=λq ⟨p,hp,e⟩=>by
   have:p.1∈M.map (·.1):=bp.2 ⟨p,hp,rfl⟩;rw [<-Am] at this;obtain ⟨p',Z6,e'⟩:=bp.1 this;exact ⟨p',Z6,by rw [e,e']⟩
  rcases aV.1 hv with hv| hv
  .obtain ⟨p,hp,hg⟩:=h.has v hv;obtain ⟨p',h1,h2⟩:=hk p.1 ⟨p,hp,rfl⟩;exact ⟨p',h1,by rw [hg];exact h2⟩
  .obtain rfl:=aU.1 hv;obtain ⟨p',h1,h2⟩:=hk ref ⟨_,r6,rfl⟩;exact ⟨p',h1,by rw [hr];exact h2⟩
theorem U6 {d:IR} {T:List Int} {V:List Int} {M:List (Int×Nat×bn.den)} (hd:d.Ok T N) (h:mD d N V M) {n:Nat} {k ref:Int} (k0:0<=k) (k1:k< (N.length:Int)) (hV:∀ v∈V,0<=v/\v< (N.length:Int)) (hnd:(V++oq N (n+1) k).Nodup) (hr:Kk.get .int d.t.Mr (aA noTy N k).2.1=some ref) {i:Nat} {bb:Nat} {r:bn.den} (hi:M[i]?=some (ref,bb,r)):(aA noTy N k).2.2.1≠1/\r.1.1=(aA noTy N k).2.2.1/\oq N (n+1) k= [k]:=by
 obtain ⟨hl,r8⟩:=aw.1 hi;have r6:(ref,bb,r)∈M:=r8▸dA hl;obtain ⟨v,hv,h1,h2⟩:=h.lq _ r6;have he:=hd.ok.inj _ _ _ h1 hr;obtain ⟨v0,v1⟩:=hV v hv;have hmk:aA noTy N k∈N:=tv (e:=noTy) k0 k1;have hmv:aA noTy N v∈N:=tv (e:=noTy) v0 v1;obtain ⟨o1,o2⟩:=hd.tok.one _ hmk _ hmv he.symm;have ja:(aA noTy N k).2.2.1≠1:=λhk=>by
  have:=Qc hd.tok v0 v1 k0 k1 (by rw [<-o1 hk]);subst this;exact (gv.1 hnd).2.2 _ hv _ (by unfold oq;exact aN) rfl
 refine ⟨ja,?_,?_⟩;rw [h2.n.kind,o2]
 .unfold oq;have:bU (aA noTy N k).1 N 0= []:=by
   rw [List.eq_nil_iff_forall_not_mem];intro a ha;obtain ⟨a0,a1,al,ap⟩:=fH ha;have:=hd.tok.below hmk ja (tv (e:=noTy) a0 a1) ap;rw [this] at al;omega
  rw [this];rfl
theorem fZ.at {M:List (Int×Int)} {d:Nat}:∀ {ks:List Int} {es:List dg.den},fZ N M d ks es->∀ (j:Nat) (h1:j< ks.length) (h2:j< es.length),es[j].2.1=(aA noTy N ks[j]).2.2.1/\Kk.get .int M (aA noTy N ks[j]).2.1=some es[j].2.2.1
 | [],[],_,_,h,_=>by simp at h
 | _::_,_::_,⟨_,q2,q3,_⟩,0,_,_=>⟨q2,q3⟩
 | _::_,_::_,⟨_,_,_,q4⟩,j+1,h1,h2=>fZ.at q4 j (by simpa using h1) (by simpa using h2)
 | [],_::_,h,_,_,_=>h.elim
 | _::_,[],h,_,_,_=>h.elim
theorem adZ (N:List bc) (n:Nat) (V:List Int) (k:Int) {K:List Int} {j:Nat} (hj:j< K.length):(V++k::(K.take j).flatMap (oq N n))++oq N n K[j]=V++k::(K.take (j+1)).flatMap (oq N n)/\∃ q,V++k::K.flatMap (oq N n)=(V++k::(K.take (j+1)).flatMap (oq N n))++q:=by
 have e:K.take (j+1)=K.take j++ [K[j]]:=bY hj;refine ⟨by rw [e,List.flatMap_append,aM];simp,(K.drop (j+1)).flatMap (oq N n),?_⟩
 conv=>lhs;rw [<-bK (j+1) K,List.flatMap_append]
 simp
end Go.Lm

namespace Go.Proofs
open Go Go.Lm Go.RowKit
set_option maxRecDepth 1000000
def ru (n:Nat):Ct:=λargs H Q=>(match args with
 | [.v (.c (.p 0 0)),.v (.c (.k (.int .i64 ref))),.v (.c (.k (.int .i64 kd))),.v (.c (.k (.int .i64 dp)))]=>(match H with
 | [o0,o1,o2,o3,o4]=>imR o0 λT im s0 s1 s2 s3 s4 s5 s6 s7 s8 s9 pl ids nm=>(match o1 with
 | .abs R1=>(match o2 with
 | .abs R2=>(match o3 with
 | .abs R3=>MY o4 λM=>∃ (d:IR) (N:List bc),d.Ok T N/\(T=dB/\im=d.im T/\d.s=(s0,s1,s2,s3,s4,s5,s6,s7,s8,s9,())/\pl=d.pl/\ids=d.ids)/\(RB R1 d.fI d.t.RI/\RB R2 d.fL d.t.RL/\RB R3 d.fX d.t.RX)/\∃ (V:List Int) (k:Int),mD d N V M/\nm=V.length/\(V++oq N n k).Nodup/\(∀ v∈V,0<=v/\v< (N.length:Int))/\(0<=k/\k< (N.length:Int)/\dp=(aA noTy N k).1.length/\17<=(aA noTy N k).1.length+n)/\kd=(aA noTy N k).2.2.1/\Kk.get .int d.t.Mr (aA noTy N k).2.1=some ref/\∀ B1 B2 B3 M',RB B1 d.fI d.t.RI->RB B2 d.fL d.t.RL->RB B3 d.fX d.t.RX->mD d N (V++oq N n k) M'->Q (.bool true) [.cells 90 [.de (.int .u32) T 0 0,.d .u8 im,.k (.int .i64 s0),.k (.int .i64 s1),.k (.int .i64 s2),.k (.int .i64 s3),.k (.int .i64 s4),.k (.int .i64 s5),.k (.int .i64 s6),.k (.int .i64 s7),.k (.int .i64 s8),.k (.int .i64 s9),.d (.int .i64) pl,.d (.int .i64) ids,.p 1 0,.p 2 0,.p 3 0,.m 4,.k (.int .i64 ((V++oq N n k).length:Nat))],.abs B1,.abs B2,.abs B3,.ab (.pm 3 82 bn M')]
 | _=>False)
 | _=>False)
 | _=>False)
 | _=>False)
 | _=>False)
def ako (n:Nat):Ct:=λargs H Q=>∃ (ref:Int) (kd:Int) (dp:Int) (T:List Int) (im:List UInt8) (s0:Int) (s1:Int) (s2:Int) (s3:Int) (s4:Int) (s5:Int) (s6:Int) (s7:Int) (s8:Int) (s9:Int) (pl:List Int) (ids:List Int) (nm:Int) (R1:Value->Atom) (R2:Value->Atom) (R3:Value->Atom) (M:List (Int×Nat×bn.den)),args= [.v (.c (.p 0 0)),.int ref,.int kd,.int dp]/\H= [.cells 90 [.de (.int .u32) T 0 0,.d .u8 im,.k (.int .i64 s0),.k (.int .i64 s1),.k (.int .i64 s2),.k (.int .i64 s3),.k (.int .i64 s4),.k (.int .i64 s5),.k (.int .i64 s6),.k (.int .i64 s7),.k (.int .i64 s8),.k (.int .i64 s9),.d (.int .i64) pl,.d (.int .i64) ids,.p 1 0,.p 2 0,.p 3 0,.m 4,.k (.int .i64 nm)],.abs R1,.abs R2,.abs R3,.ab (.pm 3 82 bn M)]/\∃ (d:IR) (N:List bc),d.Ok T N/\(T=dB/\im=d.im T/\d.s=(s0,s1,s2,s3,s4,s5,s6,s7,s8,s9,())/\pl=d.pl/\ids=d.ids)/\(RB R1 d.fI d.t.RI/\RB R2 d.fL d.t.RL/\RB R3 d.fX d.t.RX)/\∃ (V:List Int) (k:Int),mD d N V M/\nm=V.length/\(V++oq N n k).Nodup/\(∀ v∈V,0<=v/\v< (N.length:Int))/\(0<=k/\k< (N.length:Int)/\dp=(aA noTy N k).1.length/\17<=(aA noTy N k).1.length+n)/\kd=(aA noTy N k).2.2.1/\Kk.get .int d.t.Mr (aA noTy N k).2.1=some ref/\∀ B1 B2 B3 M',RB B1 d.fI d.t.RI->RB B2 d.fL d.t.RL->RB B3 d.fX d.t.RX->mD d N (V++oq N n k) M'->Q (.bool true) [.cells 90 [.de (.int .u32) T 0 0,.d .u8 im,.k (.int .i64 s0),.k (.int .i64 s1),.k (.int .i64 s2),.k (.int .i64 s3),.k (.int .i64 s4),.k (.int .i64 s5),.k (.int .i64 s6),.k (.int .i64 s7),.k (.int .i64 s8),.k (.int .i64 s9),.d (.int .i64) pl,.d (.int .i64) ids,.p 1 0,.p 2 0,.p 3 0,.m 4,.k (.int .i64 ((V++oq N n k).length:Nat))],.abs B1,.abs B2,.abs B3,.ab (.pm 3 82 bn M')]
def acE (n:Nat):Vx:= {P:=cg,ct:=[(61,(ru n)),(108,DF)],ty:=ee,hold:=[],clo:=true,cloH:=true}
theorem W5 (n:Nat) (hn:cq 61 (ru n)):jJ Inv cg (acE n).ct:=jJ.cons hn (jJ.cons XI (jJ.nil _ _))
abbrev vy:=Int×Nat×Ty.den bn
abbrev Cy (y0:List (Int×Nat×bn.den)) (y1:Int):=(∀ (p:Int×Nat×Ty.den bn),p∈y0->p.1≠y1)
def RC (n:Nat) (ref kd dp:Int) (T:List Int) (im:List UInt8) (s0 s1 s2 s3 s4 s5 s6 s7 s8 s9:Int) (pl ids:List Int) (nm:Int) (R1 R2 R3:Value->Atom) (M:(List (Int×Nat×bn.den))):dq:=λQ=>cr ref kd dp (cj nm (br (decide (dp>16)) (Q iW [fW T im s0 s1 s2 s3 s4 s5 s6 s7 s8 s9 pl ids (nm+1),HO.abs R1,HO.abs R2,HO.abs R3,fD M]) (br 
 (decide (nm+1>(1024:Int))) (Q iW [fW T im s0 s1 s2 s3 s4 s5 s6 s7 s8 s9 pl ids (nm+1),HO.abs R1,HO.abs R2,HO.abs R3,fD M]) (((Cy M ref)->∃ d N,IR.Ok d T N/\(T=dB/\im=IR.im d T/\d.s=(s0,s1,s2,s3,s4,s5, 
 s6,s7,s8,s9,())/\pl=d.pl/\ids=d.ids)/\(RB R1 d.fI d.t.RI/\RB R2 d.fL d.t.RL/\RB R3 d.fX d.t.RX)/\∃ x,x∈N/\kd=x.2.2.1/\Kk.get Kk.int d.t.Mr x.2.1=some ref/\∀ (B1 B2 B3:Value->Atom) (r:Ty.den bn),RB B1 d.fI 
 d.t.RI->RB B2 d.fL d.t.RL->RB B3 d.fX d.t.RX->rU d N x ah r->(Cy M ref)/\List.length M< 9223372036854775807/\∀ (bb:Nat),fA r.2.2.1 (aK (λi ag=>br (decide (i.1.1< (aP r.2.2.1))) (0<=i.1.1/\i.1.1< (aP 
 r.2.2.1)/\(Ty.ok dg (aA dg r.2.2.1 i.1.1)->cj dp (∃ d N,IR.Ok d i.2.1.1 N/\(i.2.1.1=dB/\i.2.1.2.1=IR.im d i.2.1.1/\d.s=(i.2.1.2.2.1,i.2.1.2.2.2.1,i.2.1.2.2.2.2.1,i.2.1.2.2.2.2.2.1,i.2.1.2.2.2.2.2.2.1, 
 i.2.1.2.2.2.2.2.2.2.1,i.2.1.2.2.2.2.2.2.2.2.1,i.2.1.2.2.2.2.2.2.2.2.2.1,i.2.1.2.2.2.2.2.2.2.2.2.2.1,i.2.1.2.2.2.2.2.2.2.2.2.2.2.1,())/\i.2.1.2.2.2.2.2.2.2.2.2.2.2.2.1=d.pl/\i.2.1.2.2.2.2.2.2.2.2.2.2.2.2.2.1=d.ids)/\(RB i.2.2.1 
 d.fI d.t.RI/\RB i.2.2.2.1 d.fL d.t.RL/\RB i.2.2.2.2.1 d.fX d.t.RX)/\∃ V k,mD d N V i.2.2.2.2.2.1/\i.2.1.2.2.2.2.2.2.2.2.2.2.2.2.2.2.2.2.2.2.1=(ay V)/\List.Pairwise (λx1 x2=>x1≠x2) (V++oq N n k)/\(∀ (v:Int),v∈V-> 
 0<=v/\v< (ay N))/\(0<=k/\k< (ay N)/\dp+1=(fU N k)/\17<=List.length (eX N k).1+n)/\(aA dg r.2.2.1 i.1.1).2.1=(eX N k).2.2.1/\Kk.get Kk.int d.t.Mr (eX N k).2.1=some (aA dg r.2.2.1 i.1.1).2.2.1/\ 
 ∀ (B1 B2 B3:Value->Atom) (M':List vy),RB B1 d.fI d.t.RI->RB B2 d.fL d.t.RL->RB B3 d.fX d.t.RX->mD d N (V++oq N n k) M'->cj i.1.1 (ag ((i.1.1+1,()),(i.2.1.1,i.2.1.2.1,i.2.1.2.2.1,i.2.1.2.2.2.1,i.2.1.2.2.2.2.1, 
 i.2.1.2.2.2.2.2.1,i.2.1.2.2.2.2.2.2.1,i.2.1.2.2.2.2.2.2.2.1,i.2.1.2.2.2.2.2.2.2.2.1,i.2.1.2.2.2.2.2.2.2.2.2.1,i.2.1.2.2.2.2.2.2.2.2.2.2.1,i.2.1.2.2.2.2.2.2.2.2.2.2.2.1,i.2.1.2.2.2.2.2.2.2.2.2.2.2.2.1, 
 i.2.1.2.2.2.2.2.2.2.2.2.2.2.2.2.1,(),(),(),(),(aP (V++oq N n k)),()),B1,B2,B3,M',()))))) (Q ml [fW i.2.1.1 i.2.1.2.1 i.2.1.2.2.1 i.2.1.2.2.2.1 i.2.1.2.2.2.2.1 i.2.1.2.2.2.2.2.1 i.2.1.2.2.2.2.2.2.1 i.2.1.2.2.2.2.2.2.2.1 
 i.2.1.2.2.2.2.2.2.2.2.1 i.2.1.2.2.2.2.2.2.2.2.2.1 i.2.1.2.2.2.2.2.2.2.2.2.2.1 i.2.1.2.2.2.2.2.2.2.2.2.2.2.1 i.2.1.2.2.2.2.2.2.2.2.2.2.2.2.1 i.2.1.2.2.2.2.2.2.2.2.2.2.2.2.2.1 i.2.1.2.2.2.2.2.2.2.2.2.2.2.2.2.2.2.2.2.2.1,HO.abs i.2.2.1, 
 HO.abs i.2.2.2.1,HO.abs i.2.2.2.2.1,fD i.2.2.2.2.2.1])) ((ah,()),(T,im,s0,s1,s2,s3,s4,s5,s6,s7,s8,s9,pl,ids,(),(),(),(),nm+1,()),B1,B2,B3,List.set ((ref,bb,Ty.NZ bn)::M) bx (ref,bb,r.1,aW, 
 r.2.2),())))/\∀ (i bb:Nat) (x:Ty.den bn),M[i]?=some (ref,bb,x)->Ty.ok bn x->cj x.2.1 (br (kd !=1) (Q (.v (.c (.k (.bool (x.1.1==kd))))) [fW T im s0 s1 s2 s3 s4 s5 s6 s7 s8 s9 pl ids (nm+1),HO.abs R1,HO.abs R2, 
 HO.abs R3,fD (List.set M i (ref,bb,x.1,x.2.1+1,x.2.2))]) (Q iW [fW T im s0 s1 s2 s3 s4 s5 s6 s7 s8 s9 pl ids (nm+1),HO.abs R1,HO.abs R2,HO.abs R3,fD (List.set M i (ref,bb,x.1,x.2.1+1,x.2.2))]))))))
theorem Xq (n:Nat) (hn:cq 61 (ru n)):∀ args H Q,ako (n+1) args H Q->Wp Inv cg 61 args H Q:=by
 intro args H Q h;obtain ⟨ref,kd,dp,T,im,s0,s1,s2,s3,s4,s5,s6,s7,s8,s9,pl,ids,nm,R1,R2,R3,M,rfl,rfl,h⟩:=h;refine Wp.QC (X:=(acE n)) (W5 n hn) ⟨[(15,⟨[(78,.int .i64)],[(0,.cells 90 [.dp (.int .u32),.d .u8,.int .i64,.int .i64,.int .i64,.int .i64,.int .i64,.int .i64,.int .i64,.int .i64,.int .i64,.int .i64,.d (.int .i64),.d (.int .i64),.p 1 0,.p 2 0,.p 3 0,.m 4,.int .i64]),(1,.abs),(2,.abs),(3,.abs),(4,.ab (.pm 3 82 bn))]⟩)],[]⟩ (fn:=Tryz.f61) (V:=RC n ref kd dp T im s0 s1 s2 s3 s4 s5 s6 s7 s8 s9 pl ids nm R1 R2 R3 M) (by kernel_rfl) (λ_=>by kernel_rfl) ?_;unfold RC Cy vy eX cj fA fU cr iW ml ah aW aP ay bx fW fD;obtain ⟨d,N,hd,⟨rfl,rfl,hs,rfl,rfl⟩,⟨hR1,hR2,hR3⟩,V,k,hV,rfl,hnd,hVr,⟨k0,k1,rfl,hkn⟩,rfl,hg,h⟩:=h;have hx:aA noTy N k∈N:=tv (e:=noTy) k0 k1;have asy:=hd.tok.deep _ hx;have hN40:=hd.tok.len;have hvm:=qC hd.tok (n+1) k0 k1 hkn;have ajN:∀ v∈V++oq N (n+1) k,0<=v/\v< (N.length:Int):=λv hv=>(aV.1 hv).elim (hVr v) λq=>⟨((hvm v).1 q).1,((hvm v).1 q).2.1⟩;have hlen:=amG (n:=N.length) hnd ajN;have hv1:oq N (n+1) k=k::(bU (aA noTy N k).1 N 0).flatMap (oq N n):=rfl;have hVl:V.length+1<=40:=by rw [hv1,af,av] at hlen;omega
 refine λ_ _ _=>⟨by unfold aB;omega,ak (λq=>absurd (of_decide_eq_true q) (by omega)) (λ_=>ak (λq=>absurd (of_decide_eq_true q) (by omega)) (λ_=>⟨λkA=>?_,λi bb x hi _=>?_⟩))⟩;rotate_left
 .obtain ⟨a1,a2,a3⟩:=U6 hd hV k0 k1 hVr hnd hg hi;rw [a3] at h;obtain ⟨v,hv,_,h2⟩:=hV.lq _ (kz hi);have hc:EB N V (aA noTy N v).2.1<=V.length:=List.countP_le_length;obtain ⟨nm,hnm⟩:∃ a:Int,a=x.2.1:=⟨_,rfl⟩;have arY:nm=(EB N V (aA noTy N v).2.1:Nat):=by rw [hnm];exact h2.nm
  have hf:=h R1 R2 R3 _ hR1 hR2 hR3 (hV.again hd hg hi);have e1:((V++ [k]).length:Int)=(V.length:Int)+1:=by simp
  rw [e1] at hf;refine ⟨by rw [<-hnm];unfold aB;omega,ak (λ_=>?_) (λq=>absurd (by simpa using q) a1)⟩;rw [a2,show ((aA noTy N k).2.2.1==(aA noTy N k).2.2.1)=true by simp];exact hf
 have hMl:M.length<=4294967296:=by
  have:=amG (l:=M.map (·.1)) (n:=4294967296) hV.keys λr hr=>by
   obtain ⟨p,hp,rfl⟩:=bp.1 hr;obtain ⟨v,_,hq,_⟩:=hV.lq p hp;have:=(hd.ok.refs _ _ hq).1;omega
  rwa [bT] at this
 refine ⟨d,N,hd,⟨rfl,rfl,hs,rfl,rfl⟩,⟨hR1,hR2,hR3⟩,_,hx,rfl,hg,λB1 B2 B3 r hB1 hB2 hB3 hr=>⟨kA,by omega,λbb _=>?_⟩⟩;have hE:fZ N d.t.Mr (aA noTy N k).1.length (bU (aA noTy N k).1 N 0) r.2.2.1:=by
  rcases hr.list with ⟨_,_,q⟩| ⟨q,e⟩;exact q
  .rw [e];have:bU (aA noTy N k).1 N 0= []:=by
    rw [List.eq_nil_iff_forall_not_mem];intro a ha;obtain ⟨a0,a1,al,ap⟩:=fH ha;have:=hd.tok.below hx q (tv (e:=noTy) a0 a1) ap;rw [this] at al;omega
   rw [this];trivial
 have hEl:=hE.len;have uJ:=hV.new hd hg kA (bb:=bb) (r:=(r.1,(1:Int),r.2.2)) ⟨hr.n,rfl,hr.list,hr.xa⟩;have hKm:∀ a∈bU (aA noTy N k).1 N 0,0<=a/\a< (N.length:Int)/\(aA noTy N a).1.length=(aA noTy N k).1.length+1:=λa ha=>⟨(fH ha).1,(fH ha).2.1,(fH ha).2.2.1⟩;have hKl:=jV (aA noTy N k).1 (L:=N) (k:=0);rw [hv1] at hnd ajN h;generalize bU (aA noTy N k).1 N 0=K at*;refine aK.intro (λi=>∃ (j:Nat) (C1 C2 C3:Value->Atom) (M':List (Int×Nat×bn.den)),j<=K.length/\i.1.1=(j:Int)/\(RB C1 d.fI d.t.RI/\RB C2 d.fL d.t.RL/\RB C3 d.fX d.t.RX)/\mD d N (V++k::(K.take j).flatMap (oq N n)) M'/\i.2=((dB,d.im dB,s0,s1,s2,s3,s4,s5,s6,s7,s8,s9,d.pl,d.ids,(),(),(),(),(((V++k::(K.take j).flatMap (oq N n)).length:Nat):Int),()),C1,C2,C3,M',())) (λi=>K.length - i.1.1.toNat) ⟨0,B1,B2,B3,_,cM _,rfl,⟨hB1,hB2,hB3⟩,uJ,by rw [show ((V.length:Int)+1)=(((V++k::((K.take 0).flatMap (oq N n))).length:Nat):Int) by simp];rfl⟩ ?_;rintro ⟨⟨i,_⟩,o⟩ ⟨j,C1,C2,C3,M',hj,h1,⟨c1,c2,c3⟩,hV',h2⟩;simp only at h1 h2 ⊢;subst h1 h2;dsimp only;refine ak (λhc=>?_) (λhc=>?_)
 .have vX:=of_decide_eq_true hc;have uS:j< K.length:=by omega
  have hj3:j< r.2.2.1.length:=by omega
  obtain ⟨e1,e2⟩:=adZ N n V k uS;obtain ⟨q,e2⟩:=e2;obtain ⟨f1,f2⟩:=hE.at j uS hj3;obtain ⟨a0,a1,al⟩:=hKm _ (dA uS);have ek:aA dg r.2.2.1 (j:Int)=r.2.2.1[j]:=gP (e:=dg) hj3;rw [ek];have apN:((V++k::(K.take j).flatMap (oq N n))++oq N n K[j]).Nodup:=by
   rw [e1];rw [e2] at hnd;exact (gv.1 hnd).1
  refine ⟨by omega,by omega,λ_=>⟨by unfold aB;omega,d,N,hd,⟨rfl,rfl,hs,rfl,rfl⟩,⟨c1,c2,c3⟩,_,K[j],hV',rfl,apN,λv hv=>ajN v ?_,⟨a0,a1,by omega,by omega⟩,f1,f2,λD1 D2 D3 M2 d1 d2 d3 hV2=>⟨by unfold aB;omega,⟨j+1,D1,D2,D3,M2,uS,by omega,⟨d1,d2,d3⟩,e1▸hV2,by rw [e1]⟩,by omega⟩⟩⟩;rw [e2,<-e1];exact bW _ (bW _ hv)
 .have hc:=of_decide_eq_false hc;obtain rfl:j=K.length:=by omega
  rw [fz] at hV' ⊢;exact h C1 C2 C3 M' c1 c2 c3 hV'
theorem Rb:∀ (n:Nat) args H Q,ru n args H Q->Wp Inv cg 61 args H Q
 | 0=>λargs H Q h=>by
  unfold ru MY imR Xd ZX at h;dsimp only at h
  repeat (split at h;rotate_left;exact h.elim)
  obtain ⟨d,N,hd,_,_,V,k,_,_,_,_,⟨k0,k1,_,hkn⟩,_⟩:=h;have:=hd.tok.deep _ (tv (e:=noTy) k0 k1);omega
 | n+1=>λargs H Q h=>by
  unfold ru MY imR Xd ZX at h;dsimp only at h
  repeat (split at h;rotate_left;exact h.elim)
  exact Xq n (Rb n) _ _ _ ⟨_,_,_,_,_,_,_,_,_,_,_,_,_,_,_,_,_,_,_,_,_,_,rfl,rfl,h⟩
def afs:Ct:=ru 17
theorem adk:cq 61 afs:=Rb 17
end Go.Proofs

namespace Go.Lm
open Go Go.RowKit
section
variable {I:cV->Prop} {P:Program} {f:FuncId} {args:List SV} {H:List HO} {Q:SV->List HO->Prop}
theorem Wp.ajD {p l:Nat} {t u:TypeId} {e:Ty} {xs:List e.den} {cs:List Cl} (hp:H[p]?=some (.cells t (.oe l 1 0 0::cs))) (hl:H[l]?=some (.held u e xs)) (hx:0< xs.length) (h1:e.size=1) (h:Wp I P f args (H.set p (.cells t (.de e xs 0 0::cs))) Q):Wp I P f args H Q:=Wp.beg λW E g w F hs=>by
 have JF:=(aw.1 hp).1;have hlen:E.length=H.length:=hs.len;obtain ⟨_,_,_,_,q1,q2,_,_,⟨v0,hE,hi⟩,_⟩:=hs.pick hl;refine ⟨E,_,bu.refl E,⟨hs.sl.cv λk s=>?_,by simp [hlen]⟩,h⟩;obtain ⟨k1,k2,ap,e2,⟨bb,us,hEp,hrel,hblk⟩,s2⟩:=bd.sk hp s;obtain ⟨u1,r,rfl,⟨v,z1,z2,_⟩,h4⟩:=hrel;rw [hE] at z1;obtain rfl:=aj z1;have hd:ck E g (.de e xs 0 0) u1:=⟨⟨bh _,by omega,cM _⟩,v0,hi,by rw [h1];exact z2⟩;have s3:bd g (cF E p (.cells t (.de e xs 0 0::cs))::(a8 E 0 (H.set p .gone)++F)) k:=⟨k1,k2,ap,e2,⟨bb,_,hEp,bz.cons hd h4,hblk⟩,s2⟩;have s4:=bd.Em (l:=p) (by simp;omega) s3;rw [List.set_set] at s4;exact s4
theorem Wp.ajg {p:Nat} (h:Wp I P f args H λsv H'=>∃ kt tR e M hz mb,H'[p]?=some (.ab (.pz kt tR e M hz mb))/\Q sv (H'.set p (.ab (.pm kt tR e M)))):Wp I P f args H Q:=λW hW g w E F vs hs hv=>
 (h W hW g w E F vs hs hv).mono λv w' ⟨E1,g1,sv,H1,e1,m1,s1,r1,kt,tR,e,M,hz,mb,hp,hq⟩=>by
  have JF:=(aw.1 hp).1;have hlen:E1.length=H1.length:=s1.len;refine ⟨E1,g1,sv,_,e1,m1,⟨?_,by simp [hlen]⟩,r1,hq⟩;refine s1.sl.cv λk s=>?_;obtain ⟨k1,k2,ap,e2,⟨v0,hE,h1,h2,h3⟩,s2⟩:=bd.sk hp s;have s3:bd g1 (cF E1 p (.ab (.pm kt tR e M))::(a8 E1 0 (H1.set p .gone)++F)) k:=⟨k1,k2,ap,e2,⟨v0,hE,h3⟩,s2⟩;have s4:=bd.Em (l:=p) (by simp;omega) s3;rw [List.set_set] at s4;exact s4
end
end Go.Lm

namespace Go.Proofs
open Go Go.Lm Go.RowKit
set_option maxRecDepth 1000000
def afE:Ct:=λargs H Q=>∃ (a:Int) (c:Int) (T:List Int) (im:List UInt8) (s0:Int) (s1:Int) (s2:Int) (s3:Int) (s4:Int) (s5:Int) (s6:Int) (s7:Int) (s8:Int) (s9:Int) (nm:Int) (M:List (Int×Nat×bn.den)),args= [.v (.c (.p 0 0)),.int a,.int c]/\H= [.cells 90 [.de (.int .u32) T 0 0,.d .u8 im,.k (.int .i64 s0),.k (.int .i64 s1),.k (.int .i64 s2),.k (.int .i64 s3),.k (.int .i64 s4),.k (.int .i64 s5),.k (.int .i64 s6),.k (.int .i64 s7),.k (.int .i64 s8),.k (.int .i64 s9),.k (.slice none 0 0),.k (.slice none 0 0),.k (.pointer none),.k (.pointer none),.k (.pointer none),.m 2,.k (.int .i64 nm)],.held 109 (.int .u32) T,.ab (.pm 3 82 bn M)]/\T.length=256/\im.length<=100000000/\∃ fs R,R.length<=10000000/\iX T im a c fs R []/\∀ A,RB A fs R->Q (.c (.p 3 0)) [.cells 90 [.de (.int .u32) T 0 0,.d .u8 im,.k (.int .i64 s0),.k (.int .i64 s1),.k (.int .i64 s2),.k (.int .i64 s3),.k (.int .i64 s4),.k (.int .i64 s5),.k (.int .i64 s6),.k (.int .i64 s7),.k (.int .i64 s8),.k (.int .i64 s9),.k (.slice none 0 0),.k (.slice none 0 0),.k (.pointer none),.k (.pointer none),.k (.pointer none),.m 2,.k (.int .i64 nm)],.held 109 (.int .u32) T,.ab (.pm 3 82 bn M),.abs A]
def Lc (a c:Int) (T:List Int) (im:List UInt8) (s0 s1 s2 s3 s4 s5 s6 s7 s8 s9 nm:Int) (M:(List (Int×Nat×bn.den))):dq:=λQ=>bZ a c ((sG T im)/\∃ fs R,fV R (iX T im a c fs R []/\∀ (A:Value->Atom),RB A fs R->Q (SV.v (S1.c (.p 3 0))) [.cells 90 [Cl.de (.int .u32) T ah bx,Cl.d Ty.u8 
 im,.k (aC s0),.k (aC s1),.k (aC s2),.k (aC s3),.k (aC s4),.k (aC s5),.k (aC s6),.k (aC s7),.k (aC s8),.k (aC s9),.k eP,.k eP,.k (.pointer none),.k (.pointer none),.k (.pointer none),Cl.m a7,.k 
 (aC nm)],HO.held (109:TypeId) (.int .u32) T,fD M,HO.abs A]))
theorem adB:cq 59 afE:=by
 intro args H Q h;obtain ⟨a,c,T,im,s0,s1,s2,s3,s4,s5,s6,s7,s8,s9,nm,M,rfl,rfl,h⟩:=h;refine Wp.dy Ki ee ⟨[],[]⟩ Tryz.f59 (Lc a c T im s0 s1 s2 s3 s4 s5 s6 s7 s8 s9 nm M) ?_;unfold Lc sG fV eP bZ dO aC ah bx a7 bI fD;obtain ⟨hT,hi,fs,R,hR,h1,h⟩:=h;exact λ_ _=>⟨⟨hT,hi⟩,fs,R,hR,h1,h⟩
def DA:Ct:=λargs H Q=>(match args with
 | [.v (.c (.p 0 0)),.v (.c (.k (.int .i64 a))),.v (.c (.k (.int .i64 c)))]=>(match H with
 | [o0,o1,o2]=>(match o0 with
 | .cells 90 cs=>(match cs with
 | [c0,c1,c2,c3,c4,c5,c6,c7,c8,c9,c10,c11,c12,c13,c14,c15,c16,c17,c18]=>(match c0 with
 | .oe 1 1 0 0=>(match c1 with
 | .d .u8 im=>(match c2 with
 | .k (.int .i64 s0)=>(match c3 with
 | .k (.int .i64 s1)=>(match c4 with
 | .k (.int .i64 s2)=>(match c5 with
 | .k (.int .i64 s3)=>(match c6 with
 | .k (.int .i64 s4)=>(match c7 with
 | .k (.int .i64 s5)=>(match c8 with
 | .k (.int .i64 s6)=>(match c9 with
 | .k (.int .i64 s7)=>(match c10 with
 | .k (.int .i64 s8)=>(match c11 with
 | .k (.int .i64 s9)=>(match c12 with
 | .k (.slice none 0 0)=>(match c13 with
 | .k (.slice none 0 0)=>(match c14 with
 | .k (.pointer none)=>(match c15 with
 | .k (.pointer none)=>(match c16 with
 | .k (.pointer none)=>(match c17 with
 | .m 2=>(match c18 with
 | .k (.int .i64 nm)=>(match o1 with
 | .held 109 (.int .u32) T=>(match o2 with
 | .ab (.pm 3 82 (.pair ((.pair (.int .i64) (.pair (.int .i64) (.pair (.int .i64) (.pair (.int .i64) (.pair (.int .i64) (.pair (.int .i64) (.pair (.int .i64) (.pair (.int .i64) (.pair (.int .i64) (.pair (.int .i64) (.pair .str .unit)))))))))))) (.pair (.int .i64) (.pair (.sl (.pair .str (.pair (.int .i64) (.pair (.int .i64) .unit)))) (.pair (.sl (.pair .str (.pair (.sl .u8) .unit))) .unit)))) M)=>0< T.length/\(T.length=256/\im.length<=100000000/\∃ fs R,R.length<=10000000/\iX T im a c fs R []/\∀ A,RB A fs R->Q (.c (.p 3 0)) [.cells 90 [.de (.int .u32) T 0 0,.d .u8 im,.k (.int .i64 s0),.k (.int .i64 s1),.k (.int .i64 s2),.k (.int .i64 s3),.k (.int .i64 s4),.k (.int .i64 s5),.k (.int .i64 s6),.k (.int .i64 s7),.k (.int .i64 s8),.k (.int .i64 s9),.k (.slice none 0 0),.k (.slice none 0 0),.k (.pointer none),.k (.pointer none),.k (.pointer none),.m 2,.k (.int .i64 nm)],.held 109 (.int .u32) T,.ab (.pm 3 82 bn M),.abs A])
 | _=>False)
 | _=>False)
 | _=>False)
 | _=>False)
 | _=>False)
 | _=>False)
 | _=>False)
 | _=>False)
 | _=>False)
 | _=>False)
 | _=>False)
 | _=>False)
 | _=>False)
 | _=>False)
 | _=>False)
 | _=>False)
 | _=>False)
 | _=>False)
 | _=>False)
 | _=>False)
 | _=>False)
 | _=>False)
 | _=>False)
 | _=>False)
 | _=>False)
theorem XA:cq 59 DA:=λargs H Q h=>by
 unfold DA at h
 repeat (split at h;rotate_left;exact h.elim)
 exact Wp.ajD (p:=0) (l:=1) rfl rfl h.1 rfl (adB _ _ _ ⟨_,_,_,_,_,_,_,_,_,_,_,_,_,_,_,_,rfl,rfl,h.2⟩)
def TW:Ct:=λargs H Q=>match H with
 | [_,_]=>DD args H Q
 | _=>DA args H Q
theorem adA:cq 59 TW:=λargs H Q h=>by
 unfold TW at h;split at h;exact XD _ _ _ h;exact XA _ _ _ h
end Go.Proofs

namespace Go.Lm
open Go
variable {N:List bc} {ids:List Int} {F:List (Int×eA.den)}
theorem AS (t:sb N ids F) (hr:(aA noTy N 0).1= []) (hp:0< N.length):(oq N 17 0).Nodup/\∀ j:Int,j∈oq N 17 0↔0<=j/\j< (N.length:Int):=by
 have h17:17<=(aA noTy N 0).1.length+17:=by omega
 refine ⟨Fa t 17 (bh 0) (by omega) h17,λj=>?_⟩;rw [qC t 17 (bh 0) (by omega) h17,hr];exact ⟨λh=>⟨h.1,h.2.1⟩,λh=>⟨h.1,h.2,rfl⟩⟩
theorem Ya (t:sb N ids F) (hr:(aA noTy N 0).1= []) (hp:0< N.length):(oq N 17 0).Perm ((bQ N.length).map Int.ofNat):=by
 obtain ⟨h1,h2⟩:=AS t hr hp;refine (List.perm_ext_iff_of_nodup h1 ?_).2 λj=>?_
 .rw [List.Nodup,List.pairwise_map];exact List.nodup_range.imp λe q=>e (Int.ofNat.inj q)
 .rw [h2,bp];constructor
  .rintro ⟨a,b⟩;exact ⟨j.toNat,dF.2 (by omega),by show ((j.toNat:Nat):Int)=j;omega⟩
  .rintro ⟨n,hn,rfl⟩;have:=dF.1 hn;show 0<=(n:Int)/\(n:Int)< _;omega
theorem aju {N:List bc}:((bQ N.length).map Int.ofNat).map (λv=>aA noTy N v)=N:=by
 refine List.ext_getElem (by simp) λi h1 h2=>?_;rw [List.getElem_map,List.getElem_map,List.getElem_range];exact gP (e:=noTy) h2
theorem TN (t:sb N ids F) (hr:(aA noTy N 0).1= []) (hp:0< N.length) (i:Int):EB N (oq N 17 0) i=jD N i:=by
 unfold EB jD;rw [(Ya t hr hp).countP_eq]
 conv=>rhs;rw [<-aju (N:=N)]
 rw [List.countP_map,List.countP_map,List.countP_map];rfl
theorem mD.count {d:IR} {T:List Int} {M:List (Int×Nat×bn.den)} (hd:d.Ok T N) (hr:(aA noTy N 0).1= []) (hp:0< N.length) (h:mD d N (oq N 17 0) M):M.length=d.t.Mr.length:=by
 have jI:=(AS hd.tok hr hp).2;have key:(M.map (·.1)).Perm (d.t.Mr.map (·.2)):=by
  refine (List.perm_ext_iff_of_nodup h.keys ?_).2 λr=>?_
  .have hk:=hd.ok.kn;rw [List.Nodup,List.pairwise_map] at hk ⊢;refine hk.imp_of_mem λ{a b} ha hb hab e=>hab ?_;have ga:Kk.get .int d.t.Mr a.1=some a.2:=lj (κ:=Int) hd.ok.kn ha;have gb:Kk.get .int d.t.Mr b.1=some b.2:=lj (κ:=Int) hd.ok.kn hb;exact hd.ok.inj _ _ _ ga (e▸gb)
  .rw [bp,bp];constructor
   .rintro ⟨p,hpM,rfl⟩;obtain ⟨k,hk,hg,_⟩:=h.lq p hpM;exact ⟨_,oR (κ:=Int) hg,rfl⟩
   .rintro ⟨q,hq,rfl⟩;obtain ⟨V,v1,v2,v3⟩:=hd.ok.keys;have:q.1∈d.t.Mr.map (·.1):=bp.2 ⟨q,hq,rfl⟩;rw [v3] at this;obtain ⟨v,hv,e⟩:=bp.1 this;have hvl:=v2 v hv;obtain ⟨p,hpM,hg⟩:=h.has (v:Int) ((jI _).2 ⟨by omega,by omega⟩);have gq:Kk.get .int d.t.Mr q.1=some q.2:=lj (κ:=Int) hd.ok.kn hq;have e:(aA noTy N (v:Int)).2.1=q.1:=e;rw [e,gq] at hg;exact ⟨p,hpM,(aj hg).symm⟩
 have:=key.length_eq
 rwa [bT,bT] at this
end Go.Lm

namespace Go.Lm
open Go
def EA (N:List bc) (p:List ByteArray):Option bc:=N.find? λx=>decide (x.1=p)
theorem NP {N:List bc} {p:List ByteArray} {x:bc} (h:EA N p=some x):x∈N/\x.1=p:=by
 unfold EA at h;exact ⟨List.mem_of_find?_eq_some h,by simpa using List.find?_some h⟩
theorem qp {N:List bc} {p:List ByteArray}:EA N p=none↔∀ x∈N,x.1≠p:=by
 unfold EA;rw [List.find?_eq_none];exact ⟨λh x hx e=>h x hx (by simpa using e),λh x hx e=>h x hx (by simpa using e)⟩
variable {N:List bc} {ids:List Int} {F:List (Int×eA.den)}
theorem JO (t:sb N ids F) {x:bc} (hx:x∈N):EA N x.1=some x:=by
 cases h:EA N x.1 with
 | none=>exact absurd rfl (qp.1 h x hx)
 | some y=>
  obtain ⟨h1,h2⟩:=NP h;rw [t.uniq h1 hx h2]
def mJ (N:List bc) (x:bc) (s:ByteArray):Int:=if x.2.2.1=1 then (match EA N (x.1++ [s]) with
 | some _=>0
 | none=>20) else 24
def ju (N:List bc):bc->List ByteArray->Int
 | _,[]=>0
 | x,s::r=>if x.2.2.1=1 then (match EA N (x.1++ [s]) with
  | some y=>ju N y r
  | none=>20) else 24
structure aia (d:IR) (N:List bc) (y:bc) (s:ByteArray) (e:dg.den):Prop where
 nm:e.1=s
 kind:e.2.1=y.2.2.1
 ref:Kk.get .int d.t.Mr y.2.1=some e.2.2.1
theorem fZ.ajr {M:List (Int×Int)} {d:Nat}:∀ {ks:List Int} {es:List dg.den},fZ N M d ks es->∀ (j:Nat) (h1:j< ks.length) (h2:j< es.length),es[j].1=(aA noTy N ks[j]).1.getD d ⟨#[]⟩
 | [],[],_,_,h,_=>by simp at h
 | _::_,_::_,⟨q1,_,_,_⟩,0,_,_=>q1
 | _::_,_::_,⟨_,_,_,q4⟩,j+1,h1,h2=>fZ.ajr q4 j (by simpa using h1) (by simpa using h2)
 | [],_::_,h,_,_,_=>h.elim
 | _::_,[],h,_,_,_=>h.elim
theorem aff (t:sb N ids F) {d:IR} {p:List ByteArray} {es:List dg.den} (hE:fZ N d.t.Mr p.length (bU p N 0) es) {j:Nat} (hj:j< es.length):∃ y∈N,y.1=p++ [es[j].1]/\aia d N y es[j].1 es[j]:=by
 have hl:=hE.len;have hjk:j< (bU p N 0).length:=by omega
 obtain ⟨a0,a1,al,ap⟩:=fH (dA hjk);obtain ⟨h1,h2⟩:=hE.at j hjk hj;refine ⟨_,tv (e:=noTy) a0 a1,?_,rfl,h1,h2⟩;rw [hE.ajr j hjk hj];exact tW al ap
theorem aeO (t:sb N ids F) {d:IR} {p:List ByteArray} {es:List dg.den} (hE:fZ N d.t.Mr p.length (bU p N 0) es) {y:bc} {s:ByteArray} (hy:y∈N) (e:y.1=p++ [s]):∃ (j:Nat) (h:j< es.length),es[j].1=s:=by
 obtain ⟨k,hk,rfl⟩:=Jx hy (by rw [e];simp) (show pre p y by unfold pre;rw [e,List.take_left]);obtain ⟨j,hj,rfl⟩:=dZ.1 hk;have hl:=hE.len;refine ⟨j,by omega,?_⟩;rw [hE.ajr j hj (by omega),e,dh,bD (aG _),Nat.sub_self];rfl
theorem G9:∀ {last:ByteArray} {es:List dg.den},iV last es->(∀ x∈es,lS last x.1=true)/\es.Pairwise λa b=>lS a.1 b.1=true
 | _,[],_=>⟨λx h=>(by cases h),List.Pairwise.nil⟩
 | last,x::r,⟨h1,h2⟩=>by
  obtain ⟨q1,q2⟩:=G9 h2;refine ⟨λy hy=>?_,eV.2 ⟨q1,q2⟩⟩;rcases bm.1 hy with rfl| hy;exact h1.lt
  .have a:=h1.lt;have b:=q1 y hy;rw [lu,decide_eq_true_eq] at a b ⊢;exact oW a b
end Go.Lm

namespace Go.Lm
open Go
variable {N:List bc} {ids:List Int} {F:List (Int×eA.den)}
theorem rU.same {d:IR} {T:List Int} (hd:d.Ok T N) {x y:bc} (hx:x∈N) (hy:y∈N) (e:y.2.1=x.2.1) {nm:Int} {r:bn.den} (h:rU d N y nm r):rU d N x nm r:=by
 obtain ⟨h1,h2⟩:=hd.tok.one x hx y hy e.symm;by_cases hk:x.2.2.1=1;rw [h1 hk];exact h
 .refine ⟨h.n.same hd.tok hx hy e,h.nm,?_,by rw [h2];exact h.xa⟩;rcases h.list with ⟨q,_⟩| ⟨_,q⟩
  .rw [h2] at hk;exact absurd q hk
  .exact .inr ⟨hk,q⟩
structure Az (d:IR) (N:List bc) (M:List (Int×Nat×bn.den)) (x:bc) (ref:Int):Prop where
 ex:∃ p∈M,p.1=ref
 ok:∀ (i bb:Nat) (r:bn.den),M[i]?=some (ref,bb,r)->rU d N x (jD N x.2.1:Nat) r
theorem mD.recAt {d:IR} {T:List Int} {M:List (Int×Nat×bn.den)} (hd:d.Ok T N) (hr:(aA noTy N 0).1= []) (hp:0< N.length) (h:mD d N (oq N 17 0) M) {x:bc} (hx:x∈N) {ref:Int} (hg:Kk.get .int d.t.Mr x.2.1=some ref):Az d N M x ref:=by
 have jI:=(AS hd.tok hr hp).2;obtain ⟨k,hk,rfl⟩:=Td hx;refine ⟨?_,λi bb r hi=>?_⟩
 .obtain ⟨p,hpM,h1⟩:=h.has (k:Int) ((jI _).2 ⟨by omega,by omega⟩);rw [hg] at h1;exact ⟨p,hpM,(aj h1).symm⟩
 .obtain ⟨v,hv,h1,h2⟩:=h.lq _ (kz hi);obtain ⟨v0,v1⟩:=(jI v).1 hv;have e:=hd.ok.inj _ _ _ h1 hg;rw [TN hd.tok hr hp,e] at h2;exact rU.same hd hx (tv (e:=noTy) v0 v1) e h2
def mH (N:List bc) (x:bc):Int:=if x.2.2.1=1 then ((bU x.1 N 0).length:Int) else if x.2.2.1=2 then (x.2.2.2.2.1.length:Int) else (x.2.2.2.2.2.1.size:Int)
theorem rU.Nk {d:IR} {x:bc} {nm:Int} {r:bn.den} (h:rU d N x nm r) (hk:x.2.2.1=1):r.2.2.1.length=(bU x.1 N 0).length:=by
 rcases h.list with ⟨_,_,q⟩| ⟨q,_⟩;exact q.len;exact absurd hk q
theorem rD.tgt {s:BS} {x:bc} {i:eA.den} (h:rD N ids F s x i) (hk:x.2.2.1=3):i.2.2.2.2.2.2.2.2.2.2.1=x.2.2.2.2.2.1:=by
 rcases h.or with ⟨q,_⟩| ⟨q,_⟩| ⟨_,q⟩;rw [hk] at q;exact absurd q (by decide);rw [hk] at q;exact absurd q (by decide);exact q
theorem IR.Ok.aiU {d:IR} {T:List Int} (h:d.Ok T N) {nu off:Int} {t:List UInt8} (ht:oZ d.row d.bg nu off t) (h0:0< t.length):0<=off/\∃ (i:Nat) (a:Int) (z:List UInt8) (nx:Int),nu=(i:Int)+1/\d.pl[i]?=some a/\EF T (d.im T) a z nx/\0< z.length/\z.length<=128/\off+t.length<=z.length/\(z.drop off.toNat).take t.length=t:=by
 obtain ⟨o0,i,z,e1,hi,hz,z0,z1,hle,hzt⟩:=ht.pc h.pk h0;have hl:=h.pls.len;rw [qw] at hl;obtain ⟨o,w,r,q1,q2,q3,q4⟩:=h.pls.ats i d.pl[i] z (aq (by omega)) hz;have e0:=l7 T d.s;refine ⟨o0,i,d.pl[i],z,d.pl[i]+w.length,e1,aq (by omega),⟨by omega,?_,w,r++(d.fI.flatten++(d.fL.flatten++(d.fP.flatten++(d.fN.flatten++d.fX.flatten)))),q2,?_,rfl⟩,z0,z1,hle,hzt⟩
 .unfold IR.im;simp only [af];omega
 .unfold IR.im;rw [q1,show ((64:Int)+(o:Int)).toNat=(fJ T d.s).length+o by omega,<-eN,lR,eQ q4,q3,aM]
theorem Y2 {x:List UInt8} {o n c:Nat} (hc:128*c<=x.length) (h:o+n<=x.length):((x.take (128*c)).drop o).take n++((x.drop (128*c)).drop (o - 128*c)).take (n - (((x.take (128*c)).drop o).take n).length)=(x.drop o).take n:=by
 rcases eT o (128*c) with q| q
 .have e1:((x.take (128*c)).drop o).take n=(x.drop o).take (min n (128*c - o)):=by rw [lQ,o8]
  have e2:((x.drop o).take (min n (128*c - o))).length=min n (128*c - o):=by rw [aF,aR];omega
  rw [e1,e2,show o - 128*c=0 by omega,o9];rcases eT n (128*c - o) with q2| q2;rw [show n - min n (128*c - o)=0 by omega,List.take_zero,bf,show min n (128*c - o)=n by omega]
  .rw [show min n (128*c - o)=128*c - o by omega];have e3:x.drop (128*c)=(x.drop o).drop (128*c - o):=by rw [eN];congr 1;omega
   rw [e3]
   conv=>rhs;rw [show n=(128*c - o)+(n - (128*c - o)) by omega]
   rw [List.take_add]
 .rw [List.drop_of_length_le (by rw [aF];omega),List.take_nil,gS,aY,Nat.sub_zero,eN,show 128*c+(o - 128*c)=o by omega]
end Go.Lm

namespace Go.Lm
open Go
theorem Jn:∀ (L:List bc) {m:List (Int×Int)},(∀ i z,Kk.get .int m i=some z->z<=(m.length:Int))->(∀ i j z,Kk.get .int m i=some z->Kk.get .int m j=some z->i=j)->∀ i j z,Kk.get .int (ia L m) i=some z->Kk.get .int (ia L m) j=some z->i=j
 | [],_,_,h,i,j,z,hi,hj=>h i j z hi hj
 | x::L,m,hl,h,i,j,z,hi,hj=>by
  cases hg:Kk.get .int m x.2.1 with
  | some k=>rw [iO hg] at hi hj;exact Jn L hl h i j z hi hj
  | none=>
   rw [iP hg] at hi hj;have e:((Kk.put .int m x.2.1 ((m.length:Int)+1):List (Int×Int)).length:Int)=(m.length:Int)+1:=by rw [mu (k:=.int) hg];rfl
   refine Jn L (λj y hy=>?_) (λa b y ha hb=>?_) i j z hi hj
   .rw [e];by_cases hj:j=x.2.1
    .rw [hj,fq] at hy;obtain rfl:=aj hy;exact bh _
    .rw [iR (k:=.int) hj] at hy;have:=hl j y hy;omega
   .by_cases ea:a=x.2.1
    .by_cases eb:b=x.2.1
     .rw [ea,eb]
     .rw [ea,fq] at ha;rw [iR (k:=.int) eb] at hb;have:=hl b y hb;have:=aj ha;omega
    .rw [iR (k:=.int) ea] at ha;by_cases eb:b=x.2.1
     .rw [eb,fq] at hb;have:=hl a y ha;have:=aj hb;omega
     .rw [iR (k:=.int) eb] at hb;exact h a b y ha hb
structure acW (F N:List bc):Prop where
 l:HL F
 tr:va N
 to:∀ y∈F,∃ x∈N,x.1=y.1/\x.2.2=y.2.2
 of:∀ x∈N,∃ y∈F,y.1=x.1/\y.2.2=x.2.2
 ino:∀ y∈F,∀ y'∈F,∀ x∈N,∀ x'∈N,x.1=y.1->x'.1=y'.1->(x.2.1=x'.2.1↔y.2.1=y'.2.1)
 len:N.length=F.length
 num:∀ L':List bc,L'.Perm F->L'.Pairwise (λx y=>¬cmpL y.1 x.1< 0)->cZ L' []=N
 self:cZ N []=N
theorem aiT {F:List bc} (tw:F.Pairwise λa b=>a.1≠b.1) {a b:bc} (ha:a∈F) (hb:b∈F) (h:a.1=b.1):a=b:=by
 obtain ⟨i,hi,rfl⟩:=dZ.1 ha;obtain ⟨j,hj,rfl⟩:=dZ.1 hb;have P:=dx.1 tw;rcases Nat.lt_trichotomy i j with q| q| q;exact absurd h (P i j hi hj q);subst q;rfl;exact absurd h.symm (P j i hj hi q)
theorem aeA {F L:List bc} (g:HL F) (hp:L.Perm F) (ho:L.Pairwise λx y=>¬cmpL y.1 x.1< 0):acW F (cZ L []):=by
 have at':∀ (j:Nat) (hj:j< L.length),∃ h2:j< (cZ L []).length,(cZ L [])[j].1=L[j].1/\(cZ L [])[j].2.2=L[j].2.2:=λj hj=>by
  have h2:j< (cZ L []).length:=by rw [jw];exact hj
  have e:=congrArg (λl=>l[j]?) (qc L []);simp only [dj,aq hj,aq h2,Option.map_some,Option.some.injEq,Prod.mk.injEq] at e;exact ⟨h2,e.1,e.2⟩
 have tN:=L4 g hp ho;have tw:L.Pairwise λa b=>a.1≠b.1:=hp.symm.pairwise g.tw (λh=>Ne.symm h);have back:∀ y∈L,∀ x∈cZ L [],x.1=y.1->Kk.get .int (ia L []) y.2.1=some x.2.1:=λy hy x hx e=>by
  obtain ⟨j,hj,rfl⟩:=dZ.1 hx;have uS:j< L.length:=by rw [jw] at hj;exact hj
  obtain ⟨_,e1,_⟩:=at' j uS;have:y=L[j]:=aiT tw hy (dA uS) (by rw [<-e,e1]);rw [this];exact wW L [] j uS
 refine ⟨g,tN,λy hy=>?_,λx hx=>?_,λy hy y' OU x hx x' OV e e'=>?_,by rw [jw,hp.length_eq],λL' p o=>?_,?_⟩
 .obtain ⟨j,hj,rfl⟩:=dZ.1 (hp.mem_iff.2 hy);obtain ⟨h2,e1,e2⟩:=at' j hj;exact ⟨_,dA h2,e1,e2⟩
 .obtain ⟨y,hy,q⟩:=Jl hx;exact ⟨y,hp.mem_iff.1 hy,q⟩
 .have h1:=back y (hp.mem_iff.2 hy) x hx e;have h2:=back y' (hp.mem_iff.2 OU) x' OV e';constructor
  .intro q;rw [<-q] at h2;exact Jn L (λi z q=>by cases q) (λi j z q=>by cases q) _ _ _ h1 h2
  .intro q;rw [q,h2] at h1;exact (aj h1).symm
 .have tw':L'.Pairwise λa b=>a.1≠b.1:=p.symm.pairwise g.tw (λh=>Ne.symm h);rw [Mc (p.trans hp.symm) (xR o tw') (xR ho tw)]
 .have:=vM id (λ_=>rfl) L [] [] (λi k q=>by cases q) rfl (λk q=>absurd rfl q);simpa using this
theorem aao {N:List bc} (t:va N) (u:∀ x∈N,∀ y∈N,x.1=y.1->x=y):∀ (r:List ByteArray) (x y:bc),x∈N->y∈N->y.1=x.1++r->ju N x r=0
 | [],_,_,_,_,_=>rfl
 | s::r,x,y,hx,hy,e=>by
  have key:∀ (k:Nat) (z:bc),z∈N->z.1.length=x.1.length+1+k->(∃ q,y.1=z.1++q)->∃ w∈N,w.1=x.1++ [s]:=by
   intro k
   induction k with
   | zero=>
    rintro z hz hl ⟨q,eq⟩;refine ⟨z,hz,?_⟩;have h1:y.1.take (x.1.length+1)=z.1:=by rw [eq];exact List.take_left' (by omega)
    have h2:y.1.take (x.1.length+1)=x.1++ [s]:=by
     rw [e,show x.1++s::r=(x.1++ [s])++r by simp];exact List.take_left' (by simp)
    rw [<-h1,h2]
   | succ k ih=>
    rintro z hz hl ⟨q,eq⟩;obtain ⟨w,hw,_,ew⟩:=t.par z hz (by omega);refine ih w hw (by rw [ew,aF];omega) ⟨z.1.drop (z.1.length - 1)++q,?_⟩;rw [eq,ew,<-aM,bK]
  obtain ⟨w,hw,ew⟩:=key r.length y hy (by rw [e];simp;omega) ⟨[],by simp⟩;obtain ⟨p,hp,hk,ep⟩:=t.par w hw (by rw [ew];simp);have hpx:p=x:=u p hp x hx (by rw [ep,ew];simp);subst hpx;unfold ju;rw [if_pos hk];cases hf:EA N (p.1++ [s]) with
  | none=>exact absurd ew (qp.1 hf w hw)
  | some v=>
   obtain ⟨v1,v2⟩:=NP hf;exact aao t u r v y v1 hy (by rw [v2,e,aM];rfl)
end Go.Lm

namespace Go.Proofs
open Go Go.Lm Go.RowKit
set_option maxRecDepth 1000000
def DH:Ct
 | [.v (.c cim)],[],Q=>(match (Ty.sl Ty.u8).of [cim] with
  | some (im,[])=>∃ (N:List bc) (d:IR),va N/\d.Ok dB N/\im=d.im dB/\∀ A1 A2 A3 M,RB A1 d.fI d.t.RI->RB A2 d.fL d.t.RL->RB A3 d.fX d.t.RX->mD d N (oq N 17 0) M->Q (.cC [.c (.p 0 0),.c (.k (.int .i64 0))]) [.cells 90 [.de (.int .u32) dB 0 0,.d .u8 (d.im dB),.k (.int .i64 d.s.1),.k (.int .i64 d.s.2.1),.k (.int .i64 d.s.2.2.1),.k (.int .i64 d.s.2.2.2.1),.k (.int .i64 d.s.2.2.2.2.1),.k (.int .i64 d.s.2.2.2.2.2.1),.k (.int .i64 d.s.2.2.2.2.2.2.1),.k (.int .i64 d.s.2.2.2.2.2.2.2.1),.k (.int .i64 d.s.2.2.2.2.2.2.2.2.1),.k (.int .i64 d.s.2.2.2.2.2.2.2.2.2.1),.d (.int .i64) d.pl,.d (.int .i64) d.ids,.p 1 0,.p 2 0,.p 3 0,.m 4,.k (.int .i64 ((oq N 17 0).length:Nat))],.abs A1,.abs A2,.abs A3,.ab (.pm 3 82 bn M)]
  | _=>False)
 | _,_,_=>False
def alq:=(((((gp.add zJ).add Bn).add adk).add UK).add adA).add O2
abbrev PI (y0) (y1) (y2) (y3) (R:Prop):=mD y0 y1 y2 []/\ah=(ay y2)/\List.Pairwise (λx1 x2=>x1≠x2) (y2++oq y1 (17:Nat) y3)/\(∀ (v:Int),v∈y2->0<=v/\v< (ay y1))/\(0<=y3/\y3< (ay y1)/\ah=(fU y1 y3)/\17<=List.length (aA noTy y1 y3).1+17)/\aW=(aA noTy y1 y3).2.2.1/\R
abbrev CI (y0:SV->List HO->Prop):=y0 (.cC [.c (.k (.pointer none)),.c (.k (.int .i64 2))]) []
abbrev yx:=SV.cC [S1.c (.p 0 0),.c (.k aT)]
def Fp (im:(List (Ty.u8).den)):dq:=λQ=>cJ im (bj (IE (iw im (∃ s r,rT s/\im=fJ dB s++r/\s.1=(↑(dr im):Ty.den bq)/\(cr s.1 s.2.1 s.2.2.1 (cr s.2.2.2.1 s.2.2.2.2.1 s.2.2.2.2.2.1 (cr s.2.2.2.2.2.2.1 s.2.2.2.2.2.2.2.1 
 s.2.2.2.2.2.2.2.2.1 (aB .i64 s.2.2.2.2.2.2.2.2.2.1->aB .i64 0->(fa (dr im)/\(aJ (dr im)->bx< bI/\bI=bI/\iw im (∃ fs R,fV R (iX dB im s.2.2.1 s.2.2.2.1 fs R []/\∀ (A:Value->Atom),RB 
 A fs R->bI=bI/\iw im (∃ fs R,fV R (iX dB im s.2.2.2.1 s.2.2.2.2.1 fs R []/\∀ (A_1:Value->Atom),RB A_1 fs R->bI=bI/\iw im (∃ fs R,fV R (iX dB im s.2.2.2.2.2.2.1 s.1 fs R []/\∀ (A_2 
 :Value->Atom),RB A_2 fs R->∃ d N,IR.Ok d dB N/\bI=bI/\im=IR.im d dB/\d.s=s/\∃ qu N,IR.Ok qu dB N/\(dB=dB/\im=IR.im qu dB/\qu.s=s/\d.pl=qu.pl/\d.ids=qu.ids)/\(RB A qu.fI qu.t.RI/\ 
 RB A_1 qu.fL qu.t.RL/\RB A_2 qu.fX qu.t.RX)/\∃ V k,PI qu N V k (Kk.get Kk.int qu.t.Mr (eX N k).2.1=some s.2.2.2.2.2.2.2.2.2.1/\∀ (B1 B2 B3:Value->Atom) (M':List vy),RB B1 qu.fI qu.t.RI->RB B2 qu.fL qu.t.RL 
 ->RB B3 qu.fX qu.t.RX->mD qu N (V++oq N (17:Nat) k) M'->aJ (List.length M')->br ((aP M') !=s.2.1) (CI Q) (∀ (hz:Hp) (mb:Nat),ah7 (PUnit×(Hp×Nat×List (Int×Nat×(Int×Int×Int×Int×Int×Int×Int× 
 Int×Int×Int×ByteArray×PUnit)×Int×List (ByteArray×Int×Int×PUnit)×List (ByteArray×List UInt8×PUnit)×PUnit)×Option (Int×Nat×(Int×Int×Int×Int×Int×Int×Int×Int×Int×Int×ByteArray×PUnit)×Int× 
 List (ByteArray×Int×Int×PUnit)×List (ByteArray×List UInt8×PUnit)×PUnit))×PUnit) (λi ag=>hz=i.2.1.1/\mb=i.2.1.2.1/\(i.2.1.2.2.1= []->Q yx [fW dB im s.1 s.2.1 s.2.2.1 s.2.2.2.1 s.2.2.2.2.1 s.2.2.2.2.2.1 
 s.2.2.2.2.2.2.1 s.2.2.2.2.2.2.2.1 s.2.2.2.2.2.2.2.2.1 s.2.2.2.2.2.2.2.2.2.1 d.pl d.ids (aP (V++oq N (17:Nat) k)),HO.abs B1,HO.abs B2,HO.abs B3,HO.ab (AbK.pz (3:TypeId) (82:TypeId) bn M' hz mb)])/\∀ (x:Int) (bb:Nat) (y 
 :Ty.den bn) (mK:List vy),List.Perm i.2.1.2.2.1 ((x,bb,y)::mK)->aB .i64 x->∃ zI bb_1 y_1,hz=i.2.1.1/\mb=i.2.1.2.1/\some (x,bb,y)=some (zI,bb_1,y_1)/\(aB .i64 zI->∃ p,p∈M'/\p.2.1=bb_1/\(Ty.ok 
 bn p.2.2->∃ p_1,p_1∈M'/\p_1.2.1=bb_1/\(Ty.ok bn p_1.2.2->br (p.2.2.2.1 !=p_1.2.2.1.2.2.2.2.1) (CI Q) (ag ((),(i.2.1.1,i.2.1.2.1,mK,some (x,bb,y)),())))))) ((),(hz,mb,M',none),())))))))))))/\fa (dr 
 im)/\(aJ (dr im)->bx< bI/\bI=bI/\iw im (∃ fs R,fV R (iX dB im s.2.2.1 s.2.2.2.1 fs R []/\∀ (A:Value->Atom),RB A fs R->bI=bI/\iw im (∃ fs R,fV R (iX dB im s.2.2.2.1 
 s.2.2.2.2.1 fs R []/\∀ (A_1:Value->Atom),RB A_1 fs R->bI=bI/\iw im (∃ fs R,fV R (iX dB im s.2.2.2.2.2.2.1 s.1 fs R []/\∀ (A_2:Value->Atom),RB A_2 fs R->∃ d N,IR.Ok d dB N/\bI=bI/\im= 
 IR.im d dB/\d.s=s/\∃ qu N,IR.Ok qu dB N/\(dB=dB/\im=IR.im qu dB/\qu.s=s/\d.pl=qu.pl/\d.ids=qu.ids)/\(RB A qu.fI qu.t.RI/\RB A_1 qu.fL qu.t.RL/\RB A_2 qu.fX qu.t.RX)/\∃ V k,PI qu N V k 
 (Kk.get Kk.int qu.t.Mr (eX N k).2.1=some s.2.2.2.2.2.2.2.2.2.1/\∀ (B1 B2 B3:Value->Atom) (M':List vy),RB B1 qu.fI qu.t.RI->RB B2 qu.fL qu.t.RL->RB B3 qu.fX qu.t.RX->mD qu N (V++oq N (17:Nat) k) M'->aJ 
 (List.length M')->br ((aP M') !=s.2.1) (CI Q) (∀ (hz:Hp) (mb:Nat),ah7 (PUnit×(Hp×Nat×List (Int×Nat×(Int×Int×Int×Int×Int×Int×Int×Int×Int×Int×ByteArray×PUnit)×Int×List (ByteArray×Int×Int 
 ×PUnit)×List (ByteArray×List UInt8×PUnit)×PUnit)×Option (Int×Nat×(Int×Int×Int×Int×Int×Int×Int×Int×Int×Int×ByteArray×PUnit)×Int×List (ByteArray×Int×Int×PUnit)×List (ByteArray×List UInt8× 
 PUnit)×PUnit))×PUnit) (λi ag=>hz=i.2.1.1/\mb=i.2.1.2.1/\(i.2.1.2.2.1= []->Q yx [fW dB im s.1 s.2.1 s.2.2.1 s.2.2.2.1 s.2.2.2.2.1 s.2.2.2.2.2.1 s.2.2.2.2.2.2.1 s.2.2.2.2.2.2.2.1 s.2.2.2.2.2.2.2.2.1 
 s.2.2.2.2.2.2.2.2.2.1 d.pl d.ids (aP (V++oq N (17:Nat) k)),HO.abs B1,HO.abs B2,HO.abs B3,HO.ab (AbK.pz (3:TypeId) (82:TypeId) bn M' hz mb)])/\∀ (x:Int) (bb:Nat) (y:Ty.den bn) (mK:List vy),List.Perm 
 i.2.1.2.2.1 ((x,bb,y)::mK)->aB .i64 x->∃ zI bb_1 y_1,hz=i.2.1.1/\mb=i.2.1.2.1/\some (x,bb,y)=some (zI,bb_1,y_1)/\(aB .i64 zI->∃ p,p∈M'/\p.2.1=bb_1/\(Ty.ok bn p.2.2->∃ p_1,p_1∈M'/\p_1.2.1=bb_1/\ 
 (Ty.ok bn p_1.2.2->br (p.2.2.2.1 !=p_1.2.2.1.2.2.2.2.1) (CI Q) (ag ((),(i.2.1.1,i.2.1.2.1,mK,some (x,bb,y)),())))))) ((),(hz,mb,M',none),()))))))))))))))))))
theorem XJ:cq 27 DH:=by
 intro args H Q h;unfold DH at h;split at h;rotate_left;cases h;rename_i cim;split at h;rotate_left;cases h;rename_i im Xh;refine Wp.said (args':=[.c (.d Ty.u8 im)]) (λE g=>bA.cE (dI Xh) (λ_ h=>h)) ?_;clear Xh;refine (λhh=>Wp.ajg (p:=4) hh) ?_;refine Wp.dy alq ee ⟨[(11,⟨[],[(7,.ab (.PN 3 2 bn))]⟩)],[]⟩ Tryz.f27 (Fp im) (hold:=[58]) (clo:=true) (cloH:=true) (pmT:=[(88,82,bn)]) ?_;unfold Fp vy IE eX iw yx bj dr CI fV PI cJ fU aT cr ah aW aP ay fa aJ bx bI fW bq;obtain ⟨N,d,tr,hd,rfl,h⟩:=h;obtain ⟨z1,z2,z3,z4,z5,z6,z7,z8⟩:=hd.small;have hr:=hd.rds;have hlen:=IR.ZW hd;obtain ⟨r1,r2,r3⟩:=tr.root;have xj:=tr.pos;obtain ⟨x0,hx0,e1,e2,e3⟩:=hd.root;obtain rfl:=hd.tok.uniq hx0 (tv (e:=noTy) (bh 0) (by omega)) (e1.trans r1.symm);have hnd:=(AS hd.tok r1 xj).1;refine λ_=>⟨rfl,rfl,rfl,by decide,by decide,rfl,by omega,d.s,_,hd.sup,rfl,hlen,λ_ _ _ _ _ _ _ _ _ _ _=>both ⟨by omega,λ_=>⟨by decide,rfl,by omega,d.fI,d.t.RI,by omega,hr.I,λA1 hA1=>⟨rfl,by omega,d.fL,d.t.RL,by omega,hr.L,λA2 hA2=>⟨rfl,by omega,d.fX,d.t.RX,by omega,hr.X,λA3 hA3=>⟨d,N,hd,rfl,rfl,rfl,d,N,hd,⟨rfl,rfl,rfl,rfl,rfl⟩,⟨hA1,hA2,hA3⟩,[],0,mD.nil d N,rfl,hnd,(λv hv=>by cases hv),⟨by decide,by omega,by rw [r1];rfl,by omega⟩,r2.symm,e3,λB1 B2 B3 M h1 h2 h3 hV _=>?_⟩⟩⟩⟩⟩⟩;have hV:mD d N (oq N 17 0) M:=hV;have hc:=hV.count hd r1 xj;have hsn:=hd.sn;refine ak (λq=>?_) (λ_=>λhz mb=>?_)
 .rw [hc,hsn] at q;simp at q
 refine aK.intro (λi=>i.2.1.1=hz/\i.2.1.2.1=mb/\∀ p∈i.2.1.2.2.1,p∈M) (λi=>i.2.1.2.2.1.length) ⟨rfl,rfl,λp hp=>hp⟩ ?_;rintro ⟨_,⟨Xe,OS,left,cur⟩,_⟩ ⟨rfl,rfl,hl⟩;simp only at hl ⊢;refine ⟨trivial,trivial,λ_=>⟨_,_,_,_,_,_,rfl,h B1 B2 B3 M h1 h2 h3 hV⟩,λx bb y mK hp _=>?_⟩;have hm:(x,bb,y)∈M:=hl _ (hp.mem_iff.2 aN);refine ⟨x,bb,y,trivial,trivial,rfl,λ_=>⟨(x,bb,y),hm,rfl,λ_=>⟨(x,bb,y),hm,rfl,λ_=>ak (λq=>?_) (λ_=>⟨⟨trivial,trivial,λp Z6=>hl p (hp.mem_iff.2 (aI _ Z6))⟩,by rw [hp.length_eq];exact Nat.lt_succ_self _⟩)⟩⟩⟩;obtain ⟨k,_,_,hk⟩:=hV.lq _ hm;have q1:=hk.nm;have q2:=hk.n.lnk;rw [TN hd.tok r1 xj] at q1;have q3:(y.2.1:Int)=y.1.2.2.2.2.1:=q1.trans q2.symm;simp [q3] at q
def afQ:Ct:=λargs H Q=>∃ (ref:Int) (T:List Int) (im:List UInt8) (s0:Int) (s1:Int) (s2:Int) (s3:Int) (s4:Int) (s5:Int) (s6:Int) (s7:Int) (s8:Int) (s9:Int) (pl:List Int) (ids:List Int) (nm:Int) (R1:Value->Atom) (R2:Value->Atom) (R3:Value->Atom) (M:List (Int×Nat×bn.den)),args= [.v (.c (.p 0 0)),.int ref]/\H= [.cells 90 [.de (.int .u32) T 0 0,.d .u8 im,.k (.int .i64 s0),.k (.int .i64 s1),.k (.int .i64 s2),.k (.int .i64 s3),.k (.int .i64 s4),.k (.int .i64 s5),.k (.int .i64 s6),.k (.int .i64 s7),.k (.int .i64 s8),.k (.int .i64 s9),.d (.int .i64) pl,.d (.int .i64) ids,.p 1 0,.p 2 0,.p 3 0,.m 4,.k (.int .i64 nm)],.abs R1,.abs R2,.abs R3,.ab (.pm 3 82 bn M)]/\(∃ p∈M,p.1=ref)/\∀ (i bb:Nat) (r:bn.den),M[i]?=some (ref,bb,r)->bn.ok r->Q (.cC [.c (.p 5 0),.c (.k (.int .i64 0))]) [.cells 90 [.de (.int .u32) T 0 0,.d .u8 im,.k (.int .i64 s0),.k (.int .i64 s1),.k (.int .i64 s2),.k (.int .i64 s3),.k (.int .i64 s4),.k (.int .i64 s5),.k (.int .i64 s6),.k (.int .i64 s7),.k (.int .i64 s8),.k (.int .i64 s9),.d (.int .i64) pl,.d (.int .i64) ids,.p 1 0,.p 2 0,.p 3 0,.m 4,.k (.int .i64 nm)],.abs R1,.abs R2,.abs R3,.pL (.pm 3 82 bn M i ref bb) 5,.cells 82 [.k (.int .i64 r.1.1),.k (.int .i64 r.1.2.1),.k (.int .i64 r.1.2.2.1),.k (.int .i64 r.1.2.2.2.1),.k (.int .i64 r.1.2.2.2.2.1),.k (.int .i64 r.1.2.2.2.2.2.1),.k (.int .i64 r.1.2.2.2.2.2.2.1),.k (.int .i64 r.1.2.2.2.2.2.2.2.1),.k (.int .i64 r.1.2.2.2.2.2.2.2.2.1),.k (.int .i64 r.1.2.2.2.2.2.2.2.2.2.1),.k (.string r.1.2.2.2.2.2.2.2.2.2.2.1),.k (.int .i64 r.2.1),.d dg r.2.2.1,.d cU r.2.2.2.1]]
def Lv (ref:Int) (T:List Int) (im:List UInt8) (s0 s1 s2 s3 s4 s5 s6 s7 s8 s9:Int) (pl ids:List Int) (nm:Int) (R1 R2 R3:Value->Atom) (M:(List (Int×Nat×bn.den))):dq:=λQ=>aB .i64 ref->((Cy M ref)->Q (.cC [.c (.k (.pointer none)),.c (.k (.int .i64 1))]) [fW T im s0 s1 s2 s3 s4 s5 s6 s7 s8 s9 pl ids nm,HO.abs R1,HO.abs R2,HO.abs 
 R3,fD M])/\∀ (i bb:Nat) (x:Ty.den bn),M[i]?=some (ref,bb,x)->Ty.ok bn x->Q (SV.cC [S1.c (.p 5 0),.c (.k aT)]) [fW T im s0 s1 s2 s3 s4 s5 s6 s7 s8 s9 pl ids nm,HO.abs R1,HO.abs R2,HO.abs R3,HO.pL (HK.pm (3: 
 TypeId) (82:TypeId) bn M i ref bb) kj,.cells 82 [.k (aC x.1.1),.k (aC x.1.2.1),.k (aC x.1.2.2.1),.k (aC x.1.2.2.2.1),.k (aC x.1.2.2.2.2.1),.k (aC x.1.2.2.2.2.2.1),.k (aC x.1.2.2.2.2.2.2.1),.k (aC 
 x.1.2.2.2.2.2.2.2.1),.k (aC x.1.2.2.2.2.2.2.2.2.1),.k (aC x.1.2.2.2.2.2.2.2.2.2.1),.k (.string x.1.2.2.2.2.2.2.2.2.2.2.1),.k (aC x.2.1),Cl.d dg x.2.2.1,Cl.d cU x.2.2.2.1]]
theorem Ri:cq 30 afQ:=by
 intro args H Q h;obtain ⟨ref,T,im,s0,s1,s2,s3,s4,s5,s6,s7,s8,s9,pl,ids,nm,R1,R2,R3,M,rfl,rfl,h⟩:=h;refine Wp.dy gp ee ⟨[],[]⟩ Tryz.f30 (Lv ref T im s0 s1 s2 s3 s4 s5 s6 s7 s8 s9 pl ids nm R1 R2 R3 M) ?_;unfold Lv Cy aT aC kj fW fD;obtain ⟨⟨p,hp,e⟩,h⟩:=h;exact λ_=>⟨λkA=>absurd e (kA p hp),λi bb r hi ho=>h i bb r hi ho⟩
def Oi:Ct:=λargs H Q=>(match args with
 | [.v (.c (.p 0 0)),.v (.c (.k (.int .i64 ref)))]=>(match H with
 | [o0,o1,o2,o3,o4]=>imR o0 λT im s0 s1 s2 s3 s4 s5 s6 s7 s8 s9 pl ids nm=>(match o1 with
 | .abs R1=>(match o2 with
 | .abs R2=>(match o3 with
 | .abs R3=>MY o4 λM=>(∃ p∈M,p.1=ref)/\∀ (i bb:Nat) (r:bn.den),M[i]?=some (ref,bb,r)->bn.ok r->Q (.cC [.c (.p 5 0),.c (.k (.int .i64 0))]) [.cells 90 [.de (.int .u32) T 0 0,.d .u8 im,.k (.int .i64 s0),.k (.int .i64 s1),.k (.int .i64 s2),.k (.int .i64 s3),.k (.int .i64 s4),.k (.int .i64 s5),.k (.int .i64 s6),.k (.int .i64 s7),.k (.int .i64 s8),.k (.int .i64 s9),.d (.int .i64) pl,.d (.int .i64) ids,.p 1 0,.p 2 0,.p 3 0,.m 4,.k (.int .i64 nm)],.abs R1,.abs R2,.abs R3,.pL (.pm 3 82 bn M i ref bb) 5,.cells 82 [.k (.int .i64 r.1.1),.k (.int .i64 r.1.2.1),.k (.int .i64 r.1.2.2.1),.k (.int .i64 r.1.2.2.2.1),.k (.int .i64 r.1.2.2.2.2.1),.k (.int .i64 r.1.2.2.2.2.2.1),.k (.int .i64 r.1.2.2.2.2.2.2.1),.k (.int .i64 r.1.2.2.2.2.2.2.2.1),.k (.int .i64 r.1.2.2.2.2.2.2.2.2.1),.k (.int .i64 r.1.2.2.2.2.2.2.2.2.2.1),.k (.string r.1.2.2.2.2.2.2.2.2.2.2.1),.k (.int .i64 r.2.1),.d dg r.2.2.1,.d cU r.2.2.2.1]]
 | _=>False)
 | _=>False)
 | _=>False)
 | _=>False)
 | _=>False)
theorem wu:cq 30 Oi:=λargs H Q h=>by
 unfold Oi MY imR Xd ZX at h;dsimp only at h
 repeat (split at h;rotate_left;exact h.elim)
 exact Ri _ _ _ ⟨_,_,_,_,_,_,_,_,_,_,_,_,_,_,_,_,_,_,_,_,rfl,rfl,h⟩
structure acZ (d:IR) (N:List bc) (x:bc) (es:List dg.den) (e:Int):Prop where
 or:(e=0/\x.2.2.1=1/\iV ⟨#[]⟩ es/\fZ N d.t.Mr x.1.length (bU x.1 N 0) es)\/(e=24/\x.2.2.1≠1/\es= [])
structure acY (d:IR) (N:List bc) (x:bc) (s:ByteArray) (v:dg.den) (e:Int):Prop where
 eq:e=mJ N x s
 ok:e=0->∃ y∈N,y.1=x.1++ [s]/\aia d N y s v
def rdN (x:bc) (off n:Int):List UInt8:=if x.2.2.1=2/\0<=off/\0<=n then (x.2.2.2.2.1.drop off.toNat).take n.toNat else []
def Y5 (x:bc) (off n:Int):Int:=if x.2.2.1=1 then 25 else if x.2.2.1=3\/off< 0\/n< 0 then 1 else 0
structure BsR (l:List dg.den) (s:ByteArray) (i:Int) (b:Bool):Prop where
 r:0<=i/\i<=(l.length:Int)
 yes:b=true->i< (l.length:Int)/\(aA dg l i).1=s
 no:b=false->∀ x∈l,x.1≠s
def akL:Ct:=cN dg λx=>cS λs=>c0 λQ=>Q (.int (fM x.1 s)) []
def acD:=gp.add Ri
def Sf:((dg).den)->(ByteArray)->dq:=
 λx s Q=>iN x.1 (bZ x.2.1 x.2.2.1 (IF s x.1 Q))
theorem aiJ:cq 266 akL:=eI<| PV λx=>Zp λs=>gx λQ h=>by
 refine Wp.dy acD ee ⟨[],[]⟩ Tryz.f266 (Sf x s) ?_;unfold Sf IF oE hU dv iN bZ aT aJ;refine λ_ _ _ _=>ak (λq=>?_) (λq=>ak (λq2=>?_) (λq2=>?_))
 .rw [lu,decide_eq_true_eq] at q;rcases jY x.1 s with ⟨_,e⟩| ⟨_,e⟩| ⟨_,e⟩<;>rw [e] at h q
  .exact h
  .exact absurd q (by decide)
  .exact absurd q (by decide)
 .rw [lu,decide_eq_false_iff_not] at q;rcases jY x.1 s with ⟨_,e⟩| ⟨_,e⟩| ⟨_,e⟩
  .rw [e] at q;exact absurd (by decide) q
  .rw [gO.2 (qv e)] at q2;simp at q2
  .rw [e] at h;exact h
 .rw [q] at q2;have q3:j9 x.1 s=true:=by simpa using q2
  rw [gO.1 q3,mB] at h;exact h
def aha:Ct
 | [.v (.c cl),.v (.c (.k (.string s))),.v (.c (.fn 266 []))],[],Q=>(match (Ty.sl dg).of [cl] with
  | some (l,[])=>(l.Pairwise λa b=>lS a.1 b.1=true)/\l.length<=100000/\∀ (i:Int) (b:Bool),BsR l s i b->Q (.cC [.c (.k (.int .i64 i)),.c (.k (.bool b))]) []
  | _=>False)
 | _,_,_=>False
def alp:=acD.add aiJ
def Ys (l:(List (dg).den)) (s:ByteArray):dq:=λQ=>List.length l<=9223372036854775807->dv s (aJ (List.length l)->aK (λi ag=>br (decide (i.1.1< i.1.2.1)) (aB .i64 (i.1.1+i.1.2.1)/\(qU i.1.1 i.1.2.1 (qV i.1.1 i.1.2.1 (0<=iM (iY i.1.1 i.1.2.1)/\ 
 iM (iY i.1.1 i.1.2.1)< (ay l)/\(Ty.ok dg (aA dg l (kR i.1.1 i.1.2.1))->aB .i64 (fM (aA dg l (kR i.1.1 i.1.2.1)).1 s)->br (decide (fM (aA dg l (kR i.1.1 i.1.2.1)).1 s< 0)) (tc i.1.1 i.1.2.1 ag 
 i.1.2) (sO ag i.1.1 i.1.2.1)))))) (br (decide (i.1.1< (ay l))) (0<=i.1.1/\i.1.1< (ay l)/\(Ty.ok dg (gY l i.1.1)->aB .i64 (fM (gY l i.1.1).1 s)->Q (.cC [.c (.k (aC i.1.1)),.c (.k (.bool (fM (gY l 
 i.1.1).1 s==0)))]) [])) (Q (.cC [.c (.k (aC i.1.1)),.c (.k (.bool false))]) []))) ((ah,(ay l),()),()))
theorem amr:cq 265 aha:=by
 intro args H Q h;unfold aha at h;split at h;rotate_left;cases h;rename_i cl s;split at h;rotate_left;cases h;rename_i l hl;refine Wp.said (args':=[.c (.d dg l),.str s,.v (.c (.fn 266 []))]) (λE g=>bA.cE (dI hl) (bA.cE (λ_ h=>h) (bA.cE (λ_ h=>h) (λ_ h=>h)))) ?_;clear hl;refine Wp.dy alp ee ⟨[(4,⟨[(9,.int .i64),(10,.int .i64)],[]⟩)],[]⟩ Tryz.f265 (Ys l s) ?_;unfold Ys gY sO qU qV kR dv tc iY aC ah aW ay aJ pZ iM;obtain ⟨hs,hl,h⟩:=h;have hP:∀ a c:Int,0<=a->a< c->c< (l.length:Int)->fM (aA dg l a).1 (aA dg l c).1< 0:=λa c a0 ac c1=>by
  have:=dx.1 hs a.toNat c.toNat (by omega) (by omega) (by omega);rw [<-fF (e:=dg) a0 (by omega),<-fF (e:=dg) (by omega) c1,lu,decide_eq_true_eq] at this;exact this
 refine λ_ _ _=>aK.intro (λi=>0<=i.1.1/\i.1.1<=i.1.2.1/\i.1.2.1<=l.length/\(∀ a,0<=a->a< i.1.1->fM (aA dg l a).1 s< 0)/\∀ a,i.1.2.1<=a->a< (l.length:Int)->¬fM (aA dg l a).1 s< 0) (λi=>(i.1.2.1 - i.1.1).toNat) ⟨bh _,by show (0:Int)<=l.length;omega,bh _,λa a0 a1=>by have a1:a< 0:=a1;omega,λa a0 a1=>by have a0:(l.length:Int)<=a:=a0;omega⟩ ?_;rintro ⟨⟨i,j,_⟩,_⟩ ⟨h0,h1,h2,h3,h4⟩;simp only at h0 h1 h2 h3 h4 ⊢;refine ak (λhq=>?_) (λhq=>?_)
 .have hq:=of_decide_eq_true hq;refine ⟨by unfold aB;omega,λ_=>⟨by decide,λ_ _=>?_⟩⟩;rw [P0 (n:=i+j) (by omega) (by omega)];refine ⟨by omega,by omega,λ_ _=>ak (λhd=>?_) (λhd=>?_)⟩
  .have hd:=of_decide_eq_true hd;refine ⟨by unfold aB;omega,⟨by omega,by omega,by omega,λa a0 a1=>?_,h4⟩,by omega⟩;rcases Int.lt_or_le a ((i+j) / 2) with q| q
   .exact oW (hP a ((i+j) / 2) a0 q (by omega)) hd
   .obtain rfl:a=(i+j) / 2:=by omega
    exact hd
  .have hd:=of_decide_eq_false hd;refine ⟨⟨by omega,by omega,by omega,h3,λa a0 a1 hc=>?_⟩,by omega⟩;rcases Int.lt_or_le ((i+j) / 2) a with q| q
   .exact hd (oW (hP ((i+j) / 2) a (by omega) q a1) hc)
   .obtain rfl:a=(i+j) / 2:=by omega
    exact hd hc
 .have hq:=of_decide_eq_false hq;obtain rfl:i=j:=by omega
  have kA:(∀ c:Int,c=i->c< (l.length:Int)->(aA dg l c).1≠s)->∀ x∈l,x.1≠s:=λhi x hx e=>by
   obtain ⟨k,hk,rfl⟩:=dZ.1 hx;rw [<-gP (e:=dg) hk] at e;rcases Int.lt_trichotomy (k:Int) i with q| q| q
   .have:=h3 k (by omega) q;rw [e,mB] at this;exact absurd this (by decide)
   .exact hi k q (by omega) e
   .have:=hP i k h0 q (by omega);rw [e] at this;exact h4 i (bh _) (by omega) this
  refine ak (λhi=>⟨h0,of_decide_eq_true hi,λ_ _=>h i _ ⟨⟨h0,h2⟩,λe=>⟨of_decide_eq_true hi,qv (eq_of_beq e)⟩,λe=>kA λc hc Qq q=>?_⟩⟩) (λhi=>h i false ⟨⟨h0,h2⟩,(λe=>by cases e),λ_=>kA λc hc Qq=>absurd (hc▸Qq) (of_decide_eq_false hi)⟩);subst hc;rw [q,mB] at e;exact absurd e (by decide)
def akK:Ct:=cD dg λx=>c0 λQ=>x.length<=1000000/\Q (.c (.d dg x)) []
def Se (x:(List (dg).den)):dq:=λQ=>List.length x<=9223372036854775807->∀ (c:Bool),(c=true->x= [])->br (mY c) (Q gW []) ((0+List.length x)*32<=140737488355328/\0+List.length x<=9223372036854775807/\Q eY [.sl 44 dg ([]++x)])
theorem aiI:cq 31 akK:=eI<| iH λx=>gx λQ h=>by
 refine Wp.Jh (e:=dg) ?_;refine Wp.dy gp ee ⟨[],[]⟩ Tryz.f31 (Se x) ?_;unfold Se gW mY eY dD;obtain ⟨hl,h⟩:=h;refine λ_ c hc=>ak (λhb=>.inr (.inl ⟨rfl,?_⟩)) (λhb=>⟨by omega,by omega,.inr (.inr ⟨0,44,x,rfl,aG 0,rfl,h⟩)⟩);rw [hc hb] at h;exact h
def akl:Ct:=cD cU λx=>c0 λQ=>x.length<=1000/\Q (.c (.o 0)) [.sl 96 cU x]
def Ry (x:(List (cU).den)):dq:=λQ=>jC x (I0 x Q)
theorem aid:cq 37 akl:=eI<| iH λx=>gx λQ h=>by
 refine Wp.CU (t:=96) (e:=cU) ?_;refine Wp.dy gp ee ⟨[],[]⟩ Tryz.f37 (Ry x) ?_;unfold Ry I0 jC eY cd dD;obtain ⟨hl,h⟩:=h;refine λ_ c hc=>ak (λhb=>.inr ⟨rfl,?_⟩) (λhb=>⟨by omega,by omega,.inl h⟩);have hb:c=true:=hb;rw [hc hb] at h;exact h
theorem pQ {α:Type} {l:List α} {i:Nat} {a:α} (h:l[i]?=some a):l.set i a=l:=by
 obtain ⟨h1,rfl⟩:=aw.1 h;exact List.set_getElem_self _
theorem ZZ {l:List Int} {i y:Int} (h:l[i.toNat]?=some y) (h0:0<=i):i< (l.length:Int)/\aA (.int .i64) l i=y:=by
 obtain ⟨h1,rfl⟩:=aw.1 h;exact ⟨by omega,fF (e:=.int .i64) h0 (by omega)⟩
def afz:Ct:=λargs H Q=>∃ (ref:Int) (T:List Int) (im:List UInt8) (s0:Int) (s1:Int) (s2:Int) (s3:Int) (s4:Int) (s5:Int) (s6:Int) (s7:Int) (s8:Int) (s9:Int) (pl:List Int) (ids:List Int) (nm:Int) (R1:Value->Atom) (R2:Value->Atom) (R3:Value->Atom) (M:List (Int×Nat×bn.den)),args= [.v (.c (.p 0 0)),.int ref]/\H= [.cells 90 [.de (.int .u32) T 0 0,.d .u8 im,.k (.int .i64 s0),.k (.int .i64 s1),.k (.int .i64 s2),.k (.int .i64 s3),.k (.int .i64 s4),.k (.int .i64 s5),.k (.int .i64 s6),.k (.int .i64 s7),.k (.int .i64 s8),.k (.int .i64 s9),.d (.int .i64) pl,.d (.int .i64) ids,.p 1 0,.p 2 0,.p 3 0,.m 4,.k (.int .i64 nm)],.abs R1,.abs R2,.abs R3,.ab (.pm 3 82 bn M)]/\∃ (d:IR) (N:List bc) (x:bc),d.Ok T N/\(T=dB/\im=d.im T/\d.s=(s0,s1,s2,s3,s4,s5,s6,s7,s8,s9,())/\pl=d.pl/\ids=d.ids)/\Az d N M x ref/\x∈N/\Q (.cC [.agg [.k (.int .i64 x.2.2.1),.k (.int .i64 x.2.2.2.1.1),.k (.int .i64 x.2.2.2.1.2.1),.k (.int .i64 x.2.2.2.1.2.2.1),.k (.int .i64 (jD N x.2.1:Nat)),.k (.int .i64 (mH N x))],.c (.k (.int .i64 0))]) [.cells 90 [.de (.int .u32) T 0 0,.d .u8 im,.k (.int .i64 s0),.k (.int .i64 s1),.k (.int .i64 s2),.k (.int .i64 s3),.k (.int .i64 s4),.k (.int .i64 s5),.k (.int .i64 s6),.k (.int .i64 s7),.k (.int .i64 s8),.k (.int .i64 s9),.d (.int .i64) pl,.d (.int .i64) ids,.p 1 0,.p 2 0,.p 3 0,.m 4,.k (.int .i64 nm)],.abs R1,.abs R2,.abs R3,.ab (.pm 3 82 bn M)]
def alo:=gp.add wu
abbrev jP (y0:List (Int×Nat×bn.den)) (y1:Nat) (y2:Int) (y3:Nat) (y4:Ty.den bn):=List.set y0 y1 (y2,y3,y4)
abbrev sE (y0:List (Int×Nat×bn.den)) (y1:Nat) (y2:Int) (y3:Nat) (y4:Ty.den bn) (R:Prop):=y0[y1]?=some (y2,y3,y4)->Ty.ok bn y4->aB .i64 0->R
def K7 (ref:Int) (T:List Int) (im:List UInt8) (s0 s1 s2 s3 s4 s5 s6 s7 s8 s9:Int) (pl ids:List Int) (nm:Int) (R1 R2 R3:Value->Atom) (M:(List (Int×Nat×bn.den))):dq:=λQ=>aB .i64 ref->(∃ p,p∈M/\p.1=ref)/\∀ (i bb:Nat) (r:Ty.den bn),sE M i ref bb r (0<=r.1.2.2.1/\r.1.2.2.1< (ay ids)/\(Ty.ok bq (aA bq ids 
 r.1.2.2.1)->0<=r.1.2.2.2.1/\r.1.2.2.2.1< (ay ids)/\(Ty.ok bq (aA bq ids r.1.2.2.2.1)->br (r.1.1==1) (aJ (bw r.2.2.1)->Q (SV.cC [S1.agg [.k (aC r.1.1),.k (aC r.1.2.1),.k (.int .i64 (aA bq ids r.1.2.2.1)),.k 
 (.int .i64 (aA bq ids r.1.2.2.2.1)),.k (aC r.1.2.2.2.2.1),.k (.int .i64 (aP r.2.2.1))],.c (.k aT)]) [fW T im s0 s1 s2 s3 s4 s5 s6 s7 s8 s9 pl ids nm,HO.abs R1,HO.abs R2,HO.abs R3,fD (jP M i ref bb r)]) (br (r.1.1== 
 3) (Q (SV.cC [S1.agg [.k (aC r.1.1),.k (aC r.1.2.1),.k (.int .i64 (aA bq ids r.1.2.2.1)),.k (.int .i64 (aA bq ids r.1.2.2.2.1)),.k (aC r.1.2.2.2.2.1),.k (.int .i64 (gQ r.1.2.2.2.2.2.2.2.2.2.2.1))],.c (.k aT)]) [fW 
 T im s0 s1 s2 s3 s4 s5 s6 s7 s8 s9 pl ids nm,HO.abs R1,HO.abs R2,HO.abs R3,fD (jP M i ref bb r)]) (Q (SV.cC [S1.agg [.k (aC r.1.1),.k (aC r.1.2.1),.k (.int .i64 (aA bq ids r.1.2.2.1)),.k (.int .i64 (aA bq ids 
 r.1.2.2.2.1)),.k (aC r.1.2.2.2.2.1),.k (aC r.1.2.2.2.2.2.2.2.1)],.c (.k aT)]) [fW T im s0 s1 s2 s3 s4 s5 s6 s7 s8 s9 pl ids nm,HO.abs R1,HO.abs R2,HO.abs R3,fD (jP M i ref bb r)])))))
theorem ads:cq 16 afz:=by
 intro args H Q h;obtain ⟨ref,T,im,s0,s1,s2,s3,s4,s5,s6,s7,s8,s9,pl,ids,nm,R1,R2,R3,M,rfl,rfl,h⟩:=h;refine Wp.dy alo ee ⟨[],[]⟩ Tryz.f16 (K7 ref T im s0 s1 s2 s3 s4 s5 s6 s7 s8 s9 pl ids nm R1 R2 R3 M) (clo:=true) ?_;unfold K7 sE jP gQ bw aT aC aP ay aJ fW fD bq;obtain ⟨d,N,x,hd,⟨rfl,rfl,hs,rfl,rfl⟩,⟨⟨p0,Tw,hpr⟩,sa⟩,hx,h⟩:=h;refine λ_=>⟨⟨p0,Tw,hpr⟩,λi bb r hi _ _=>?_⟩;have hR:=sa i bb r hi;rw [pQ hi];have hN:=hR.n;have hmk:=(kc (hd.tok.may x hx)).2;obtain ⟨kd,ekd⟩:∃ a:Int,a=r.1.1:=⟨_,rfl⟩;have Di:kd=x.2.2.1:=by rw [ekd];exact hN.kind
 
 obtain ⟨u1,u2⟩:=ZZ hN.uid hN.ok.cm.q2.1;obtain ⟨g1,g2⟩:=ZZ hN.gid hN.ok.cm.q3.1;rw [u2,g2];have key:∀ z:Int,z=mH N x->Q (.cC [.agg [.k (.int .i64 r.1.1),.k (.int .i64 r.1.2.1),.k (.int .i64 (vf x)),.k (.int .i64 (zb x)),.k (.int .i64 r.1.2.2.2.2.1),.k (.int .i64 z)],.c (.k (.int .i64 0))]) [.cells 90 [.de (.int .u32) dB 0 0,.d .u8 (d.im dB),.k (.int .i64 s0),.k (.int .i64 s1),.k (.int .i64 s2),.k (.int .i64 s3),.k (.int .i64 s4),.k (.int .i64 s5),.k (.int .i64 s6),.k (.int .i64 s7),.k (.int .i64 s8),.k (.int .i64 s9),.d (.int .i64) d.pl,.d (.int .i64) d.ids,.p 1 0,.p 2 0,.p 3 0,.m 4,.k (.int .i64 nm)],.abs R1,.abs R2,.abs R3,.ab (.pm 3 82 bn M)]:=λz hz=>by
  rw [hz,show r.1.1=x.2.2.1 from hN.kind,show r.1.2.1=x.2.2.2.1.1 from hN.mode,show r.1.2.2.2.2.1=((jD N x.2.1:Nat):Int) from hN.lnk];exact h
 rw [<-ekd] at key ⊢;refine ⟨hN.ok.cm.q2.1,u1,λ_=>⟨hN.ok.cm.q3.1,g1,λ_=>ak (λq=>λ_=>key _ ?_) (λq=>ak (λq3=>key _ ?_) (λq3=>key _ ?_))⟩⟩
 .have hk:x.2.2.1=1:=Di.symm.trans (eq_of_beq q);unfold mH;rw [if_pos hk,hR.Nk hk]
 .have hk:x.2.2.1=3:=Di.symm.trans (eq_of_beq q3);unfold mH;rw [if_neg (by rw [hk];decide),if_neg (by rw [hk];decide),<-hN.tgt hk]
 .have h1:x.2.2.1≠1:=λe=>by rw [Di,e] at q;cases q
  have h3:x.2.2.1≠3:=λe=>by rw [Di,e] at q3;cases q3
  have hk:x.2.2.1=2:=by
   rcases hmk with e| e| e;exact absurd e h1;exact e;exact absurd e h3
  obtain ⟨fs,f1,f2,_⟩:=hd.fileAt hx hk hN;unfold mH;rw [if_neg h1,if_pos hk];exact f2
def afM:Ct:=λargs H Q=>∃ (ref:Int) (T:List Int) (im:List UInt8) (s0:Int) (s1:Int) (s2:Int) (s3:Int) (s4:Int) (s5:Int) (s6:Int) (s7:Int) (s8:Int) (s9:Int) (pl:List Int) (ids:List Int) (nm:Int) (R1:Value->Atom) (R2:Value->Atom) (R3:Value->Atom) (M:List (Int×Nat×bn.den)),args= [.v (.c (.p 0 0)),.int ref]/\H= [.cells 90 [.de (.int .u32) T 0 0,.d .u8 im,.k (.int .i64 s0),.k (.int .i64 s1),.k (.int .i64 s2),.k (.int .i64 s3),.k (.int .i64 s4),.k (.int .i64 s5),.k (.int .i64 s6),.k (.int .i64 s7),.k (.int .i64 s8),.k (.int .i64 s9),.d (.int .i64) pl,.d (.int .i64) ids,.p 1 0,.p 2 0,.p 3 0,.m 4,.k (.int .i64 nm)],.abs R1,.abs R2,.abs R3,.ab (.pm 3 82 bn M)]/\∃ (d:IR) (N:List bc) (x:bc),d.Ok T N/\(T=dB/\im=d.im T/\d.s=(s0,s1,s2,s3,s4,s5,s6,s7,s8,s9,())/\pl=d.pl/\ids=d.ids)/\Az d N M x ref/\x∈N/\∀ es e,acZ d N x es e->Q (.cC [.c (.d dg es),.c (.k (.int .i64 e))]) [.cells 90 [.de (.int .u32) T 0 0,.d .u8 im,.k (.int .i64 s0),.k (.int .i64 s1),.k (.int .i64 s2),.k (.int .i64 s3),.k (.int .i64 s4),.k (.int .i64 s5),.k (.int .i64 s6),.k (.int .i64 s7),.k (.int .i64 s8),.k (.int .i64 s9),.d (.int .i64) pl,.d (.int .i64) ids,.p 1 0,.p 2 0,.p 3 0,.m 4,.k (.int .i64 nm)],.abs R1,.abs R2,.abs R3,.ab (.pm 3 82 bn M)]
def aln:=(gp.add aiI).add wu
def Lp (ref:Int) (T:List Int) (im:List UInt8) (s0 s1 s2 s3 s4 s5 s6 s7 s8 s9:Int) (pl ids:List Int) (nm:Int) (R1 R2 R3:Value->Atom) (M:(List (Int×Nat×bn.den))):dq:=λQ=>aB .i64 ref->(∃ p,p∈M/\p.1=ref)/\∀ (i bb:Nat) (r:Ty.den bn),sE M i ref bb r (br (r.1.1 !=1) (Q (.cC [.c dD,.c (.k (.int .i64 24))]) [fW T im 
 s0 s1 s2 s3 s4 s5 s6 s7 s8 s9 pl ids nm,HO.abs R1,HO.abs R2,HO.abs R3,fD (jP M i ref bb r)]) (List.length r.2.2.1<=1000000/\(aJ (bw r.2.2.1)->Q (SV.cC [S1.c (Cl.d dg r.2.2.1),.c (.k aT)]) [fW T im s0 s1 s2 s3 s4 
 s5 s6 s7 s8 s9 pl ids nm,HO.abs R1,HO.abs R2,HO.abs R3,fD (jP M i ref bb r)])))
theorem adM:cq 13 afM:=by
 intro args H Q h;obtain ⟨ref,T,im,s0,s1,s2,s3,s4,s5,s6,s7,s8,s9,pl,ids,nm,R1,R2,R3,M,rfl,rfl,h⟩:=h;refine Wp.kE [some (.sl dg),none] [] ?_;refine Wp.dy aln ee ⟨[],[]⟩ Tryz.f13 (Lp ref T im s0 s1 s2 s3 s4 s5 s6 s7 s8 s9 pl ids nm R1 R2 R3 M) (clo:=true) ?_;unfold Lp sE jP bw dD aT aJ fW fD;obtain ⟨d,N,x,hd,⟨rfl,rfl,hs,rfl,rfl⟩,⟨⟨p0,Tw,hpr⟩,sa⟩,hx,h⟩:=h;refine λ_=>⟨⟨p0,Tw,hpr⟩,λi bb r hi _ _=>?_⟩;have hR:=sa i bb r hi;rw [pQ hi];have hN:=hR.n;have hmk:=(kc (hd.tok.may x hx)).2;obtain ⟨kd,ekd⟩:∃ a:Int,a=r.1.1:=⟨_,rfl⟩;have Di:kd=x.2.2.1:=by rw [ekd];exact hN.kind
 
 rw [<-ekd];refine ak (λq=>⟨aG _,h [] 24 ⟨.inr ⟨rfl,λe=>?_,rfl⟩⟩⟩) (λq=>?_);rw [Di,e] at q;cases q;have hk:x.2.2.1=1:=by
  have:kd=1:=by simpa using q
  rw [<-Di];exact this
 have hl:=hR.Nk hk;have wk:=jV x.1 (L:=N) (k:=0);have hl3:=hd.tok.len;refine ⟨by omega,λ_=>⟨aG _,h r.2.2.1 0 ⟨.inl ⟨rfl,hk,?_⟩⟩⟩⟩;rcases hR.list with ⟨_,a,b⟩| ⟨a,_⟩;exact ⟨a,b⟩;exact absurd hk a
def Oh:Ct:=λargs H Q=>(match args with
 | [.v (.c (.p 0 0)),.v (.c (.k (.int .i64 ref)))]=>(match H with
 | [o0,o1,o2,o3,o4]=>imR o0 λT im s0 s1 s2 s3 s4 s5 s6 s7 s8 s9 pl ids nm=>(match o1 with
 | .abs R1=>(match o2 with
 | .abs R2=>(match o3 with
 | .abs R3=>MY o4 λM=>∃ (d:IR) (N:List bc) (x:bc),d.Ok T N/\(T=dB/\im=d.im T/\d.s=(s0,s1,s2,s3,s4,s5,s6,s7,s8,s9,())/\pl=d.pl/\ids=d.ids)/\Az d N M x ref/\x∈N/\∀ es e,acZ d N x es e->Q (.cC [.c (.d dg es),.c (.k (.int .i64 e))]) [.cells 90 [.de (.int .u32) T 0 0,.d .u8 im,.k (.int .i64 s0),.k (.int .i64 s1),.k (.int .i64 s2),.k (.int .i64 s3),.k (.int .i64 s4),.k (.int .i64 s5),.k (.int .i64 s6),.k (.int .i64 s7),.k (.int .i64 s8),.k (.int .i64 s9),.d (.int .i64) pl,.d (.int .i64) ids,.p 1 0,.p 2 0,.p 3 0,.m 4,.k (.int .i64 nm)],.abs R1,.abs R2,.abs R3,.ab (.pm 3 82 bn M)]
 | _=>False)
 | _=>False)
 | _=>False)
 | _=>False)
 | _=>False)
theorem XK:cq 13 Oh:=λargs H Q h=>by
 unfold Oh MY imR Xd ZX at h;dsimp only at h
 repeat (split at h;rotate_left;exact h.elim)
 exact adM _ _ _ ⟨_,_,_,_,_,_,_,_,_,_,_,_,_,_,_,_,_,_,_,_,rfl,rfl,h⟩
def afL:Ct:=λargs H Q=>∃ (ref:Int) (s:ByteArray) (T:List Int) (im:List UInt8) (s0:Int) (s1:Int) (s2:Int) (s3:Int) (s4:Int) (s5:Int) (s6:Int) (s7:Int) (s8:Int) (s9:Int) (pl:List Int) (ids:List Int) (nm:Int) (R1:Value->Atom) (R2:Value->Atom) (R3:Value->Atom) (M:List (Int×Nat×bn.den)),args= [.v (.c (.p 0 0)),.int ref,.str s]/\H= [.cells 90 [.de (.int .u32) T 0 0,.d .u8 im,.k (.int .i64 s0),.k (.int .i64 s1),.k (.int .i64 s2),.k (.int .i64 s3),.k (.int .i64 s4),.k (.int .i64 s5),.k (.int .i64 s6),.k (.int .i64 s7),.k (.int .i64 s8),.k (.int .i64 s9),.d (.int .i64) pl,.d (.int .i64) ids,.p 1 0,.p 2 0,.p 3 0,.m 4,.k (.int .i64 nm)],.abs R1,.abs R2,.abs R3,.ab (.pm 3 82 bn M)]/\∃ (d:IR) (N:List bc) (x:bc),d.Ok T N/\(T=dB/\im=d.im T/\d.s=(s0,s1,s2,s3,s4,s5,s6,s7,s8,s9,())/\pl=d.pl/\ids=d.ids)/\Az d N M x ref/\x∈N/\∀ v e,acY d N x s v e->Q (.cC [.agg (dg.cells v),.c (.k (.int .i64 e))]) [.cells 90 [.de (.int .u32) T 0 0,.d .u8 im,.k (.int .i64 s0),.k (.int .i64 s1),.k (.int .i64 s2),.k (.int .i64 s3),.k (.int .i64 s4),.k (.int .i64 s5),.k (.int .i64 s6),.k (.int .i64 s7),.k (.int .i64 s8),.k (.int .i64 s9),.d (.int .i64) pl,.d (.int .i64) ids,.p 1 0,.p 2 0,.p 3 0,.m 4,.k (.int .i64 nm)],.abs R1,.abs R2,.abs R3,.ab (.pm 3 82 bn M)]
def alm:=(gp.add amr).add XK
def Lo (ref:Int) (s:ByteArray) (T:List Int) (im:List UInt8) (s0 s1 s2 s3 s4 s5 s6 s7 s8 s9:Int) (pl ids:List Int) (nm:Int) (R1 R2 R3:Value->Atom) (M:(List (Int×Nat×bn.den))):dq:=λQ=>aB .i64 ref->dv s (∃ d N x,IR.Ok d T N/\(T=dB/\im=IR.im d T/\d.s=(s0,s1,s2,s3,s4,s5,s6,s7,s8,s9,())/\pl=d.pl/\ids=d.ids)/\Az d N M 
 x ref/\x∈N/\∀ (es:List (Ty.den dg)) (e:Int),acZ d N x es e->aJ (List.length es)->aB .i64 e->br (e !=0) (Q (SV.cC [S1.agg [.k (.string gZ),.k aT,.k aT],.c (.k (aC e))]) [fW T im s0 s1 s2 s3 s4 s5 s6 s7 
 s8 s9 pl ids nm,HO.abs R1,HO.abs R2,HO.abs R3,fD M]) (List.Pairwise (λa b=>lS a.1 b.1=true) es/\List.length es<=100000/\∀ (i:Int) (b:Bool),BsR es s i b->aB .i64 i->br (!b) (Q (SV.cC [S1.agg [.k (.string gZ),.k 
 aT,.k aT],.c (.k (.int .i64 20))]) [fW T im s0 s1 s2 s3 s4 s5 s6 s7 s8 s9 pl ids nm,HO.abs R1,HO.abs R2,HO.abs R3,fD M]) (0<=i/\i< (ay es)/\(Ty.ok dg (aA dg es i)->Q (SV.cC [S1.agg [.k (.string (aA dg es 
 i).1),.k (.int .i64 (aA dg es i).2.1),.k (.int .i64 (aA dg es i).2.2.1)],.c (.k aT)]) [fW T im s0 s1 s2 s3 s4 s5 s6 s7 s8 s9 pl ids nm,HO.abs R1,HO.abs R2,HO.abs R3,fD M]))))
theorem adL:cq 263 afL:=by
 intro args H Q h;obtain ⟨ref,s,T,im,s0,s1,s2,s3,s4,s5,s6,s7,s8,s9,pl,ids,nm,R1,R2,R3,M,rfl,rfl,h⟩:=h;refine Wp.dy alm ee ⟨[],[]⟩ Tryz.f263 (Lo ref s T im s0 s1 s2 s3 s4 s5 s6 s7 s8 s9 pl ids nm R1 R2 R3 M) (clo:=true) ?_;unfold Lo gZ dv aT aC ay aJ fW fD;obtain ⟨d,N,x,hd,⟨rfl,rfl,hs,rfl,rfl⟩,⟨⟨p0,Tw,hpr⟩,sa⟩,hx,h⟩:=h;refine λ_ _=>⟨d,N,x,hd,⟨rfl,rfl,hs,rfl,rfl⟩,⟨⟨p0,Tw,hpr⟩,sa⟩,hx,λes e hL _ _=>?_⟩;rcases hL.or with ⟨rfl,hk,ho,hE⟩| ⟨rfl,hk,rfl⟩;rotate_left;exact ak (λ_=>h (⟨#[]⟩,(0:Int),(0:Int),()) 24 ⟨by unfold mJ;rw [if_neg hk],λq=>by cases q⟩) (λq=>by cases q);have hl:=hE.len;have wk:=jV x.1 (L:=N) (k:=0);have hl3:=hd.tok.len;refine ak (λq=>by cases q) (λ_=>⟨(G9 ho).2,by omega,λi b hB _=>ak (λq=>?_) (λq=>?_)⟩)
 .have kA:=hB.no (by simpa using q);refine h (⟨#[]⟩,(0:Int),(0:Int),()) 20 ⟨?_,λq=>by cases q⟩;have:EA N (x.1++ [s])=none:=qp.2 λy hy e=>by
   obtain ⟨j,hj,ej⟩:=aeO hd.tok hE hy e;exact kA _ (dA hj) ej
  unfold mJ;rw [if_pos hk,this]
 .obtain ⟨hi,hs'⟩:=hB.yes (by simpa using q);obtain ⟨h0,_⟩:=hB.r;refine ⟨h0,hi,λ_=>?_⟩;obtain ⟨j,rfl⟩:∃ j:Nat,i=j:=⟨i.toNat,by omega⟩;have hj:j< es.length:=by omega
  obtain ⟨y,hy,e1,e2⟩:=aff hd.tok hE hj;have ex:aA dg es (j:Int)=es[j]:=gP (e:=dg) hj;rw [ex] at hs' ⊢;rw [hs'] at e1 e2;refine h es[j] 0 ⟨?_,λ_=>⟨y,hy,e1,e2⟩⟩;unfold mJ;rw [if_pos hk];cases hf:EA N (x.1++ [s]) with
  | none=>exact absurd e1 (qp.1 hf y hy)
  | some v=>rfl
def akm:Ct:=λargs H Q=>∃ (ref:Int) (T:List Int) (im:List UInt8) (s0:Int) (s1:Int) (s2:Int) (s3:Int) (s4:Int) (s5:Int) (s6:Int) (s7:Int) (s8:Int) (s9:Int) (pl:List Int) (ids:List Int) (nm:Int) (R1:Value->Atom) (R2:Value->Atom) (R3:Value->Atom) (M:List (Int×Nat×bn.den)),args= [.v (.c (.p 0 0)),.int ref]/\H= [.cells 90 [.de (.int .u32) T 0 0,.d .u8 im,.k (.int .i64 s0),.k (.int .i64 s1),.k (.int .i64 s2),.k (.int .i64 s3),.k (.int .i64 s4),.k (.int .i64 s5),.k (.int .i64 s6),.k (.int .i64 s7),.k (.int .i64 s8),.k (.int .i64 s9),.d (.int .i64) pl,.d (.int .i64) ids,.p 1 0,.p 2 0,.p 3 0,.m 4,.k (.int .i64 nm)],.abs R1,.abs R2,.abs R3,.ab (.pm 3 82 bn M)]/\∃ (d:IR) (N:List bc) (x:bc),d.Ok T N/\(T=dB/\im=d.im T/\d.s=(s0,s1,s2,s3,s4,s5,s6,s7,s8,s9,())/\pl=d.pl/\ids=d.ids)/\Az d N M x ref/\x∈N/\Q (.cC [.c (.d cU x.2.2.2.2.2.2.1),.c (.k (.int .i64 0))]) [.cells 90 [.de (.int .u32) T 0 0,.d .u8 im,.k (.int .i64 s0),.k (.int .i64 s1),.k (.int .i64 s2),.k (.int .i64 s3),.k (.int .i64 s4),.k (.int .i64 s5),.k (.int .i64 s6),.k (.int .i64 s7),.k (.int .i64 s8),.k (.int .i64 s9),.d (.int .i64) pl,.d (.int .i64) ids,.p 1 0,.p 2 0,.p 3 0,.m 4,.k (.int .i64 nm)],.abs R1,.abs R2,.abs R3,.ab (.pm 3 82 bn M)]
def alk:=((gp.add O2).add aid).add wu
abbrev Cw:=SV.cC [S1.c (.o 5),.c (.k aT)]
def Rz (ref:Int) (T:List Int) (im:List UInt8) (s0 s1 s2 s3 s4 s5 s6 s7 s8 s9:Int) (pl ids:List Int) (nm:Int) (R1 R2 R3:Value->Atom) (M:(List (Int×Nat×bn.den))):dq:=λQ=>aB .i64 ref->(∃ p,p∈M/\p.1=ref)/\∀ (i bb:Nat) (r:Ty.den bn),sE M i ref bb r (List.length r.2.2.2.1<=1000/\(aJ (bw r.2.2.2.1)->aK (λbG 
 ag=>br (decide (bG.1.1< (aP r.2.2.2.1))) (rG bG.1.1 bG.1.2.1 (Ty.ok cU (cG bG.1.2.1 bG.1.1)->List.length (cG bG.1.2.1 bG.1.1).2.1<=140737488355328/\(pF bG.1.2.1 bG.1.1 (rG bG.1.1 bG.1.2.1 (cj 
 bG.1.1 (ag ((bG.1.1+1,List.set bG.1.2.1 (aS bG.1.1) (cG bG.1.2.1 bG.1.1),()),()))))))) (Q Cw [fW T im s0 s1 s2 s3 s4 s5 s6 s7 s8 s9 pl ids nm,HO.abs R1,HO.abs R2,HO.abs R3,fD (jP M i ref bb r),.sl 96 cU 
 bG.1.2.1])) ((ah,r.2.2.2),())))
theorem aie:cq 20 akm:=by
 intro args H Q h;obtain ⟨ref,T,im,s0,s1,s2,s3,s4,s5,s6,s7,s8,s9,pl,ids,nm,R1,R2,R3,M,rfl,rfl,h⟩:=h;refine Wp.kE [some (.sl cU),none] [5] ?_;refine Wp.dy alk ee ⟨[(7,⟨[(26,.int .i64),(8,.own 96 cU)],[]⟩)],[]⟩ Tryz.f20 (Rz ref T im s0 s1 s2 s3 s4 s5 s6 s7 s8 s9 pl ids nm R1 R2 R3 M) (clo:=true) ?_;unfold Rz Cw sE jP pF cG rG cj bw aT aS ah aP aJ fW fD;obtain ⟨d,N,x,hd,⟨rfl,rfl,hs,rfl,rfl⟩,⟨⟨p0,Tw,hpr⟩,sa⟩,hx,h⟩:=h;refine λ_=>⟨⟨p0,Tw,hpr⟩,λi bb r hi _ _=>?_⟩;have hR:=sa i bb r hi;rw [pQ hi];have hN:=hR.n;have hmk:=(kc (hd.tok.may x hx)).2;obtain ⟨kd,ekd⟩:∃ a:Int,a=r.1.1:=⟨_,rfl⟩;have Di:kd=x.2.2.1:=by rw [ekd];exact hN.kind
 
 obtain ⟨hm8,hl8⟩:=mF (vO (hd.tok.may x hx)).xa;rw [<-hR.xa] at h hm8 hl8;clear sa hR hN hi;refine ⟨by omega,λ_=>aK.intro (λi=>0<=i.1.1/\i.1.2.1=r.2.2.2.1) (λi=>r.2.2.2.1.length - i.1.1.toNat) ⟨bh _,rfl⟩ ?_⟩;rintro ⟨⟨k,l,_⟩,_⟩ ⟨k0,e⟩;simp only at k0 e ⊢;subst e;refine ak (λhc=>?_) (λ_=>⟨(show 5<=6 by decide),h⟩);have hc:=of_decide_eq_true hc;have r6:aA cU r.2.2.2.1 k∈r.2.2.2.1:=tv (e:=cU) k0 hc;have hv:=(hm8 _ r6).2;refine ⟨k0,hc,k0,hc,λ_=>⟨by omega,λ_=>⟨k0,hc,k0,hc,by unfold aB;omega,⟨by omega,pQ ?_⟩,by omega⟩⟩⟩;rw [aq (by omega),fF (e:=cU) k0 hc]
structure aof (pl:List Int) (nu a:Int):Prop where
 ex:∃ i:Nat,nu=(i:Int)+1/\pl[i]?=some a
theorem ad8 {z t:List UInt8} {a b k:Nat} (h:(z.drop a).take t.length=t) (hk:b+k<=t.length):(z.drop (a+b)).take k=(t.drop b).take k:=by
 grind [lQ, eN]
theorem Va {l:List UInt8} {n:Nat}:l.take (min n l.length)=l.take n:=by
 grind
def ag7:Ct
 | [.v (.c (.de (.int .u32) T 0 0)),.v (.c cim),.v (.c cpl),.v (.c (.k (.int .i64 nu))),.v (.c (.k (.int .i64 off))),.v (.c (.k (.int .i64 n)))],[],Q=>(match (Ty.sl Ty.u8).of [cim] with
  | some (im,[])=>(match (Ty.sl (Ty.int .i64)).of [cpl] with
   | some (pl,[])=>(T.length=256/\im.length<=100000000/\pl.length<=100000)/\∃ (a:Int) (z:List UInt8) (nx:Int),aof pl nu a/\EF T im a z nx/\0< z.length/\z.length<=128/\0<=off/\0<=n/\off+n<=z.length/\Q (.cC [.c (.d .u8 ((z.drop off.toNat).take n.toNat)),.c (.k (.int .i64 0))]) []
   | _=>False)
  | _=>False)
 | _,_,_=>False
theorem ame:cq 33 ag7:=λargs H Q h=>by
 refine O1 _ _ _ ?_;unfold ag7 at h;split at h
 .rename_i T cim cpl nu off n;unfold wc;cases q1:(Ty.sl Ty.u8).of [cim] with
  | none=>rw [q1] at h;exact h.elim
  | some p1=>
   obtain ⟨im,r1⟩:=p1;cases r1 with
   | cons a r1=>rw [q1] at h;exact h.elim
   | nil=>
    simp only [q1] at h ⊢;cases q2:(Ty.sl (Ty.int .i64)).of [cpl] with
    | none=>rw [q2] at h;exact h.elim
    | some p2=>
     obtain ⟨pl,r2⟩:=p2;cases r2 with
     | cons a r2=>rw [q2] at h;exact h.elim
     | nil=>
      simp only [q2] at h ⊢;obtain ⟨h0,a,z,nx,⟨⟨i,h1,h2⟩⟩,h3⟩:=h;exact ⟨h0,i,a,z,nx,h1,h2,h3⟩
 .cases h
def anL:Ct:=λargs H Q=>∃ (ref:Int) (off:Int) (n:Int) (T:List Int) (im:List UInt8) (s0:Int) (s1:Int) (s2:Int) (s3:Int) (s4:Int) (s5:Int) (s6:Int) (s7:Int) (s8:Int) (s9:Int) (pl:List Int) (ids:List Int) (nm:Int) (R1:Value->Atom) (R2:Value->Atom) (R3:Value->Atom) (M:List (Int×Nat×bn.den)),args= [.v (.c (.p 0 0)),.int ref,.int off,.int n]/\H= [.cells 90 [.de (.int .u32) T 0 0,.d .u8 im,.k (.int .i64 s0),.k (.int .i64 s1),.k (.int .i64 s2),.k (.int .i64 s3),.k (.int .i64 s4),.k (.int .i64 s5),.k (.int .i64 s6),.k (.int .i64 s7),.k (.int .i64 s8),.k (.int .i64 s9),.d (.int .i64) pl,.d (.int .i64) ids,.p 1 0,.p 2 0,.p 3 0,.m 4,.k (.int .i64 nm)],.abs R1,.abs R2,.abs R3,.ab (.pm 3 82 bn M)]/\∃ (d:IR) (N:List bc) (x:bc),d.Ok T N/\(T=dB/\im=d.im T/\d.s=(s0,s1,s2,s3,s4,s5,s6,s7,s8,s9,())/\pl=d.pl/\ids=d.ids)/\Az d N M x ref/\x∈N/\Q (.cC [.c (.d .u8 (rdN x off n)),.c (.k (.int .i64 (Y5 x off n)))]) [.cells 90 [.de (.int .u32) T 0 0,.d .u8 im,.k (.int .i64 s0),.k (.int .i64 s1),.k (.int .i64 s2),.k (.int .i64 s3),.k (.int .i64 s4),.k (.int .i64 s5),.k (.int .i64 s6),.k (.int .i64 s7),.k (.int .i64 s8),.k (.int .i64 s9),.d (.int .i64) pl,.d (.int .i64) ids,.p 1 0,.p 2 0,.p 3 0,.m 4,.k (.int .i64 nm)],.abs R1,.abs R2,.abs R3,.ab (.pm 3 82 bn M)]
def alj:=((gp.add Rv).add ame).add wu
abbrev pn {A3:Type} (y0:Int) (y1) (y2:Int) (y3:List A3):=List.take (ax (min y0 (y1 - y2))) (List.drop (ax y2) (List.take (gf*(List.length y3 / gf)) y3))
abbrev yB (y0:Int) (y1):=y0 - gu y1 bE*128
abbrev Cz (y0) (y1:Int) (y2):=ax (y0+max (yB y1 y2) ah)
def Yd (ref off n:Int) (T:List Int) (im:List UInt8) (s0 s1 s2 s3 s4 s5 s6 s7 s8 s9:Int) (pl ids:List Int) (nm:Int) (R1 R2 R3:Value->Atom) (M:(List (Int×Nat×bn.den))):dq:=λQ=>cr ref off n ((∃ p,p∈M/\p.1=ref)/\∀ (i bb:Nat) (r:Ty.den bn),sE M i ref bb r (br (r.1.1==1) (Q (.cC [.c dD,.c (.k (.int .i64 25))]) 
 [fW T im s0 s1 s2 s3 s4 s5 s6 s7 s8 s9 pl ids nm,HO.abs R1,HO.abs R2,HO.abs R3,fD (jP M i ref bb r)]) (br (r.1.1==3) (Q kD [fW T im s0 s1 s2 s3 s4 s5 s6 s7 s8 s9 pl ids nm,HO.abs R1,HO.abs R2,HO.abs R3,fD (jP M 
 i ref bb r)]) (br (cL off) (Q kD [fW T im s0 s1 s2 s3 s4 s5 s6 s7 s8 s9 pl ids nm,HO.abs R1,HO.abs R2,HO.abs R3,fD (jP M i ref bb r)]) (br (cL n) (Q kD [fW T im s0 s1 s2 s3 s4 s5 s6 s7 s8 s9 pl ids nm,HO.abs R1, 
 HO.abs R2,HO.abs R3,fD (jP M i ref bb r)]) (br (decide (off≥r.1.2.2.2.2.2.2.2.1)) (Q (.cC [.c dD,.c (.k aT)]) [fW T im s0 s1 s2 s3 s4 s5 s6 s7 s8 s9 pl ids nm,HO.abs R1,HO.abs R2,HO.abs R3,fD (jP M i ref bb 
 r)]) (aB .i64 (r.1.2.2.2.2.2.2.2.1 - off)/\dO T (jd im (∃ x fs,D7 T im r.1.2.2.2.2.2.2.1 x fs/\r.1.2.2.2.2.2.2.2.1=(ay x)/\List.length x<=4096/\0<=off/\(0<=min n (r.1.2.2.2.2.2.2.2.1 - off)/\min n 
 (r.1.2.2.2.2.2.2.2.1 - off)<=4096)/\(aB .i64 0->List.length (pn n r.1.2.2.2.2.2.2.2.1 off x)<=9223372036854775807->br ((↑(List.length (pn n r.1.2.2.2.2.2.2.2.1 off x)):Int)==min n (r.1.2.2.2.2.2.2.2.1 - off)) (Q Cw [fW 
 T im s0 s1 s2 s3 s4 s5 s6 s7 s8 s9 pl ids nm,HO.abs R1,HO.abs R2,HO.abs R3,fD (jP M i ref bb r),.sl 5 Ty.u8 (pn n r.1.2.2.2.2.2.2.2.1 off x)]) (ID r.1.2.2.2.2.2.2.2.1 (aB .i64 (yB off r.1.2.2.2.2.2.2.2.1)/\ 
 (List.length (pn n r.1.2.2.2.2.2.2.2.1 off x)<=9223372036854775807->aB .i64 (min n (r.1.2.2.2.2.2.2.2.1 - off) - (↑(List.length (pn n r.1.2.2.2.2.2.2.2.1 off x)):Int))/\aB .i64 (r.1.2.2.2.2.2.2.2.2.2.1+max (yB off 
 r.1.2.2.2.2.2.2.2.1) ah)/\(dO T (jd im (List.length pl<=100000)))/\∃ a z nx,aof pl r.1.2.2.2.2.2.2.2.2.1 a/\EF T im a z nx/\0< List.length z/\List.length z<=128/\0<=r.1.2.2.2.2.2.2.2.2.2.1+max (yB off 
 r.1.2.2.2.2.2.2.2.1) ah/\0<=min n (r.1.2.2.2.2.2.2.2.1 - off) - (↑(List.length (pn n r.1.2.2.2.2.2.2.2.1 off x)):Int)/\r.1.2.2.2.2.2.2.2.2.2.1+max (yB off r.1.2.2.2.2.2.2.2.1) ah+(min n (r.1.2.2.2.2.2.2.2.1 - off) - 
 (↑(List.length (pn n r.1.2.2.2.2.2.2.2.1 off x)):Int))<=(ay z)/\(List.length (List.take (ax (min n (r.1.2.2.2.2.2.2.2.1 - off) - (↑(List.length (pn n r.1.2.2.2.2.2.2.2.1 off x)):Int))) (List.drop (Cz 
 r.1.2.2.2.2.2.2.2.2.2.1 off r.1.2.2.2.2.2.2.2.1) z))<=9223372036854775807->aB .i64 0->(List.length (pn n r.1.2.2.2.2.2.2.2.1 off x)+List.length (List.take (ax (min n (r.1.2.2.2.2.2.2.2.1 - off) - (↑(List.length (pn n 
 r.1.2.2.2.2.2.2.2.1 off x)):Int))) (List.drop (Cz r.1.2.2.2.2.2.2.2.2.2.1 off r.1.2.2.2.2.2.2.2.1) z)))*1<=cd/\List.length (pn n r.1.2.2.2.2.2.2.2.1 off x)+List.length (List.take (ax (min n (r.1.2.2.2.2.2.2.2.1 - 
 off) - (↑(List.length (pn n r.1.2.2.2.2.2.2.2.1 off x)):Int))) (List.drop (Cz r.1.2.2.2.2.2.2.2.2.2.1 off r.1.2.2.2.2.2.2.2.1) z))<=9223372036854775807/\Q Cw [fW T im s0 s1 s2 s3 s4 s5 s6 s7 s8 s9 pl ids nm,HO.abs R1, 
 HO.abs R2,HO.abs R3,fD (jP M i ref bb r),.sl 5 Ty.u8 (List.take (ax (min n (r.1.2.2.2.2.2.2.2.1 - off))) (List.drop (aS off) (List.take (gf*(List.length x / gf)) x))++List.take (ax (min n 
 (r.1.2.2.2.2.2.2.2.1 - off) - (↑(List.length (pn n r.1.2.2.2.2.2.2.2.1 off x)):Int))) (List.drop (Cz r.1.2.2.2.2.2.2.2.2.2.1 off r.1.2.2.2.2.2.2.2.1) z))]))))))))))))))
theorem amb:cq 18 anL:=by
 intro args H Q h;obtain ⟨ref,off,n,T,im,s0,s1,s2,s3,s4,s5,s6,s7,s8,s9,pl,ids,nm,R1,R2,R3,M,rfl,rfl,h⟩:=h;refine Wp.kE [some (.sl .u8),none] [5] ?_;refine Wp.dy alj ee ⟨[],[]⟩ Tryz.f18 (Yd ref off n T im s0 s1 s2 s3 s4 s5 s6 s7 s8 s9 pl ids nm R1 R2 R3 M) (clo:=true) ?_;unfold Yd Cw sE jP Cz ID jd yB cL dO kD cd dD aT aS cr pn ah bE ay gf bI fW fD;obtain ⟨d,N,x,hd,⟨rfl,rfl,hs,rfl,rfl⟩,⟨⟨p0,Tw,hpr⟩,sa⟩,hx,h⟩:=h;refine λ_ _ _=>⟨⟨p0,Tw,hpr⟩,λi bb r hi _ _=>?_⟩;have hR:=sa i bb r hi;rw [pQ hi];have hN:=hR.n;have hmk:=(kc (hd.tok.may x hx)).2;obtain ⟨kd,ekd⟩:∃ a:Int,a=r.1.1:=⟨_,rfl⟩;have Di:kd=x.2.2.1:=by rw [ekd];exact hN.kind
 
 obtain ⟨sz,esz⟩:∃ a:Int,a=r.1.2.2.2.2.2.2.2.1:=⟨_,rfl⟩;rw [<-ekd,<-esz];have aaj:¬(x.2.2.1=2/\0<=off/\0<=n)->rdN x off n= []:=λq=>if_neg q;have ql:x.2.2.1≠1->(x.2.2.1=3\/off< 0\/n< 0)->Y5 x off n=1:=λa b=>by unfold Y5;rw [if_neg a,if_pos b]
 refine ak (λq=>?_) (λq1=>?_)
 .have hk:x.2.2.1=1:=Di.symm.trans (eq_of_beq q);rw [aaj (λz=>by rw [hk] at z;exact absurd z.1 (by decide)),show Y5 x off n=25 from if_pos hk] at h;exact ⟨aG _,h⟩
 have k1:x.2.2.1≠1:=λe=>by rw [Di,e] at q1;cases q1
 refine ak (λq=>?_) (λq3=>?_)
 .have hk:x.2.2.1=3:=Di.symm.trans (eq_of_beq q);rw [aaj (λz=>by rw [hk] at z;exact absurd z.1 (by decide)),ql k1 (.inl hk)] at h;exact ⟨aG _,h⟩
 have k3:x.2.2.1≠3:=λe=>by rw [Di,e] at q3;cases q3
 refine ak (λq=>?_) (λqo=>?_)
 .have q:=of_decide_eq_true q;rw [aaj (λz=>by omega),ql k1 (.inr (.inl q))] at h;exact ⟨aG _,h⟩
 have qo:=of_decide_eq_false qo;refine ak (λq=>?_) (λqn=>?_)
 .have q:=of_decide_eq_true q;rw [aaj (λz=>by omega),ql k1 (.inr (.inr q))] at h;exact ⟨aG _,h⟩
 have qn:=of_decide_eq_false qn;have hk:x.2.2.1=2:=by
  rcases hmk with e| e| e;exact absurd e k1;exact e;exact absurd e k3
 obtain ⟨fs,f1,f2,f3,f4,f5⟩:=hd.fileAt hx hk hN;have hD:=(oJ (hd.tok.may x hx)).2;have e0:Y5 x off n=0:=by unfold Y5;rw [if_neg k1,if_neg (by omega)]
 have e1:rdN x off n=(x.2.2.2.2.1.drop off.toNat).take n.toNat:=if_pos ⟨hk,by omega,by omega⟩;rw [e0,e1] at h;have f2:sz=(x.2.2.2.2.1.length:Int):=by rw [esz];exact f2
 clear aaj ql e0 e1 hR sa f3 f4;generalize x.2.2.2.2.1=D at*;obtain ⟨o,rfl⟩:∃ o:Nat,off=o:=⟨off.toNat,by omega⟩;obtain ⟨q,rfl⟩:∃ q:Nat,n=q:=⟨n.toNat,by omega⟩;simp only [bL] at h;refine ak (λqs=>?_) (λqs=>?_)
 .have qs:=of_decide_eq_true qs;rw [List.drop_of_length_le (by omega),List.take_nil] at h;exact ⟨aG _,h⟩
 have qs:=of_decide_eq_false qs;obtain ⟨m,hm⟩:∃ m:Nat,m=min q (D.length - o):=⟨_,rfl⟩;have hmi:min (q:Int) (sz - (o:Int))=(m:Int):=by omega
 have hmd:(D.drop o).take q=(D.drop o).take m:=by rw [hm,<-aR];exact Va.symm
 rw [hmd] at h;rw [hmi,bL,bL];obtain ⟨c,hc⟩:∃ c,D.length / 128=c:=⟨_,rfl⟩;have hA:=Y2 (x:=D) (o:=o) (n:=m) (c:=c) (by omega) (by omega);refine ⟨by unfold aB;omega,rfl,by have:=hd.small.1;omega,D,fs,f1,f2,hD,by omega,⟨by omega,by omega⟩,λ_ _=>?_⟩;rw [hc];have hAl:(((D.take (128*c)).drop o).take m).length=min m (128*c - o):=by rw [aF,aR,aF];omega
 obtain ⟨B,hB⟩:∃ B,((D.take (128*c)).drop o).take m=B:=⟨_,rfl⟩;rw [hB] at hA hAl;rw [hB];refine ak (λqe=>?_) (λqe=>?_)
 .have qe:B.length=m:=by
   have:=eq_of_beq qe;omega
  rw [qe,Nat.sub_self,List.take_zero,bf] at hA;rw [<-hA] at h;exact ⟨(show 5<=6 by decide),h⟩
 have qe:B.length≠m:=λe=>by rw [e] at qe;simp at qe
 obtain ⟨t,ht⟩:∃ t,D.drop (128*(D.length / 128))=t:=⟨_,rfl⟩;rw [ht] at f5;rw [hc] at ht;have htl:t.length=D.length - 128*c:=by rw [<-ht,aR]
 rw [ht] at hA;obtain ⟨fo,efo⟩:∃ a:Int,a=r.1.2.2.2.2.2.2.2.2.2.1:=⟨_,rfl⟩;obtain ⟨o0,i,a,z,nx,w1,w2,w3,w4,w5,w6,w7⟩:=hd.aiU f5 (by omega);rw [<-efo] at o0 w6 w7;rw [<-efo,f2,AU,hc];have mx:max ((o:Int) - (c:Int)*128) 0=((o - 128*c:Nat):Int):=by omega
 rw [mx];have e3:fo+((o - 128*c:Nat):Int)=((fo.toNat+(o - 128*c):Nat):Int):=by omega
 rw [e3];have e4:(m:Int) - (B.length:Int)=((m - B.length:Nat):Int):=by omega
 rw [e4,bL,bL];have hp:=hd.small;refine ⟨by decide,by unfold aB;omega,by unfold aB;omega,by unfold aB;omega,λ_=>⟨by unfold aB;omega,by unfold aB;omega,⟨rfl,by omega,by omega⟩,a,z,nx,⟨⟨i,w1,w2⟩⟩,w3,w4,w5,Int.natCast_nonneg _,by omega,?_,λ_ _=>?_⟩⟩
 .have w6':=w6;have asH:=hAl;clear h hd hN hp hA w7 w3 w2 f5;show ((fo.toNat+(o - 128*c):Nat):Int)+((m - B.length:Nat):Int)<=(z.length:Int);omega
 rw [ad8 w7 (by omega),hA];refine ⟨?_,?_,(show 5<=6 by decide),h⟩;rw [aF,aR];omega;rw [aF,aR];omega
def afB:Ct:=λargs H Q=>∃ (T:List Int) (im:List UInt8) (s0:Int) (s1:Int) (s2:Int) (s3:Int) (s4:Int) (s5:Int) (s6:Int) (s7:Int) (s8:Int) (s9:Int) (pl:List Int) (ids:List Int) (nm:Int) (R1:Value->Atom) (R2:Value->Atom) (R3:Value->Atom) (M:List (Int×Nat×bn.den)),args= [.v (.c (.p 0 0))]/\H= [.cells 90 [.de (.int .u32) T 0 0,.d .u8 im,.k (.int .i64 s0),.k (.int .i64 s1),.k (.int .i64 s2),.k (.int .i64 s3),.k (.int .i64 s4),.k (.int .i64 s5),.k (.int .i64 s6),.k (.int .i64 s7),.k (.int .i64 s8),.k (.int .i64 s9),.d (.int .i64) pl,.d (.int .i64) ids,.p 1 0,.p 2 0,.p 3 0,.m 4,.k (.int .i64 nm)],.abs R1,.abs R2,.abs R3,.ab (.pm 3 82 bn M)]/\Q (.int s9) [.cells 90 [.de (.int .u32) T 0 0,.d .u8 im,.k (.int .i64 s0),.k (.int .i64 s1),.k (.int .i64 s2),.k (.int .i64 s3),.k (.int .i64 s4),.k (.int .i64 s5),.k (.int .i64 s6),.k (.int .i64 s7),.k (.int .i64 s8),.k (.int .i64 s9),.d (.int .i64) pl,.d (.int .i64) ids,.p 1 0,.p 2 0,.p 3 0,.m 4,.k (.int .i64 nm)],.abs R1,.abs R2,.abs R3,.ab (.pm 3 82 bn M)]
def K9 (T:List Int) (im:List UInt8) (s0 s1 s2 s3 s4 s5 s6 s7 s8 s9:Int) (pl ids:List Int) (nm:Int) (R1 R2 R3:Value->Atom) (M:(List (Int×Nat×bn.den))):dq:=λQ=>Q (fC s9) [fW T im s0 s1 s2 s3 s4 s5 s6 s7 s8 s9 pl ids nm,HO.abs R1,HO.abs R2,HO.abs R3,fD M]
theorem adw:cq 17 afB:=by
 intro args H Q h;obtain ⟨T,im,s0,s1,s2,s3,s4,s5,s6,s7,s8,s9,pl,ids,nm,R1,R2,R3,M,rfl,rfl,h⟩:=h;refine Wp.dy gp ee ⟨[],[]⟩ Tryz.f17 (K9 T im s0 s1 s2 s3 s4 s5 s6 s7 s8 s9 pl ids nm R1 R2 R3 M) ?_;unfold K9 fC aC fW fD;exact h
structure MB (A:Value->Atom) (d:IR) (N:List bc):Prop where
 ok:d.Ok dB N
 tr:va N
 ex:∃ (s0 s1 s2 s3 s4 s5 s6 s7 s8 s9 nm:Int) (R1 R2 R3:Value->Atom) (M:List (Int×Nat×bn.den)),d.s=(s0,s1,s2,s3,s4,s5,s6,s7,s8,s9,())/\mD d N (oq N 17 0) M/\A=j4 [.cells 90 [.de (.int .u32) dB 0 0,.d .u8 (d.im dB),.k (.int .i64 s0),.k (.int .i64 s1),.k (.int .i64 s2),.k (.int .i64 s3),.k (.int .i64 s4),.k (.int .i64 s5),.k (.int .i64 s6),.k (.int .i64 s7),.k (.int .i64 s8),.k (.int .i64 s9),.d (.int .i64) d.pl,.d (.int .i64) d.ids,.p 1 0,.p 2 0,.p 3 0,.m 4,.k (.int .i64 nm)],.abs R1,.abs R2,.abs R3,.ab (.pm 3 82 bn M)]
theorem TI {T:List Int} {im:List UInt8} {s0 s1 s2 s3 s4 s5 s6 s7 s8 s9 nm:Int} {pl ids:List Int} {R1 R2 R3:Value->Atom} {M:List (Int×Nat×bn.den)} {Q:SV->List HO->Prop} {sv:SV}:uK 0 [1,2,3,4] [0] 1 Q sv [.cells 90 [.de (.int .u32) T 0 0,.d .u8 im,.k (.int .i64 s0),.k (.int .i64 s1),.k (.int .i64 s2),.k (.int .i64 s3),.k (.int .i64 s4),.k (.int .i64 s5),.k (.int .i64 s6),.k (.int .i64 s7),.k (.int .i64 s8),.k (.int .i64 s9),.d (.int .i64) pl,.d (.int .i64) ids,.p 1 0,.p 2 0,.p 3 0,.m 4,.k (.int .i64 nm)],.abs R1,.abs R2,.abs R3,.ab (.pm 3 82 bn M)]=Q (sv.fj (iD [0])) [.abs (j4 [.cells 90 [.de (.int .u32) T 0 0,.d .u8 im,.k (.int .i64 s0),.k (.int .i64 s1),.k (.int .i64 s2),.k (.int .i64 s3),.k (.int .i64 s4),.k (.int .i64 s5),.k (.int .i64 s6),.k (.int .i64 s7),.k (.int .i64 s8),.k (.int .i64 s9),.d (.int .i64) pl,.d (.int .i64) ids,.p 1 0,.p 2 0,.p 3 0,.m 4,.k (.int .i64 nm)],.abs R1,.abs R2,.abs R3,.ab (.pm 3 82 bn M)])]:=by kernel_rfl
def aaQ:Ct
 | [.v (.c (.p 0 0))],[.abs A],Q=>∃ (d:IR) (N:List bc),MB A d N/\∀ ref:Int,Kk.get .int d.t.Mr (aA noTy N 0).2.1=some ref->Q (.int ref) [.abs A]
 | _,_,_=>False
theorem MB.root {A:Value->Atom} {d:IR} {N:List bc} (h:MB A d N):Kk.get .int d.t.Mr (aA noTy N 0).2.1=some d.s.2.2.2.2.2.2.2.2.2.1:=by
 obtain ⟨x0,hx0,e1,_,e3⟩:=h.ok.root;have hp:=h.tr.pos;obtain rfl:=h.ok.tok.uniq hx0 (tv (e:=noTy) (bh 0) (by omega)) (e1.trans h.tr.root.1.symm);exact e3
theorem ain:cq 17 aaQ:=λargs H Q h=>by
 unfold aaQ at h;split at h
 .obtain ⟨d,N,hM,h⟩:=h;have hr:=hM.root;obtain ⟨s0,s1,s2,s3,s4,s5,s6,s7,s8,s9,nm,R1,R2,R3,M,hs,hV,rfl⟩:=hM.ex;rw [hs] at hr;exact Wp.DO (q:=0) (p:=0) (r:=[1,2,3,4]) (ls:=[0]) (L:=[.cells 90 [.de (.int .u32) dB 0 0,.d .u8 (d.im dB),.k (.int .i64 s0),.k (.int .i64 s1),.k (.int .i64 s2),.k (.int .i64 s3),.k (.int .i64 s4),.k (.int .i64 s5),.k (.int .i64 s6),.k (.int .i64 s7),.k (.int .i64 s8),.k (.int .i64 s9),.d (.int .i64) d.pl,.d (.int .i64) d.ids,.p 1 0,.p 2 0,.p 3 0,.m 4,.k (.int .i64 nm)],.abs R1,.abs R2,.abs R3,.ab (.pm 3 82 bn M)]) rfl (fy _) (adw _ _ _ ⟨_,_,_,_,_,_,_,_,_,_,_,_,_,_,_,_,_,_,_,rfl,rfl,TI.mpr (h s9 hr)⟩)
 grind
def aaM:Ct
 | [.v (.c (.p 0 0)),.v (.c (.k (.int .i64 ref)))],[.abs A],Q=>∃ (d:IR) (N:List bc) (x:bc),MB A d N/\x∈N/\Kk.get .int d.t.Mr x.2.1=some ref/\Q (.cC [.agg [.k (.int .i64 x.2.2.1),.k (.int .i64 x.2.2.2.1.1),.k (.int .i64 x.2.2.2.1.2.1),.k (.int .i64 x.2.2.2.1.2.2.1),.k (.int .i64 (jD N x.2.1:Nat)),.k (.int .i64 (mH N x))],.c (.k (.int .i64 0))]) [.abs A]
 | _,_,_=>False
theorem aik:cq 16 aaM:=λargs H Q h=>by
 unfold aaM at h;split at h
 .obtain ⟨d,N,x,hM,hx,hg,h⟩:=h;obtain ⟨s0,s1,s2,s3,s4,s5,s6,s7,s8,s9,nm,R1,R2,R3,M,hs,hV,rfl⟩:=hM.ex;have hR:=hV.recAt hM.ok hM.tr.root.1 hM.tr.pos hx hg;exact Wp.DO (q:=0) (p:=0) (r:=[1,2,3,4]) (ls:=[0]) (L:=[.cells 90 [.de (.int .u32) dB 0 0,.d .u8 (d.im dB),.k (.int .i64 s0),.k (.int .i64 s1),.k (.int .i64 s2),.k (.int .i64 s3),.k (.int .i64 s4),.k (.int .i64 s5),.k (.int .i64 s6),.k (.int .i64 s7),.k (.int .i64 s8),.k (.int .i64 s9),.d (.int .i64) d.pl,.d (.int .i64) d.ids,.p 1 0,.p 2 0,.p 3 0,.m 4,.k (.int .i64 nm)],.abs R1,.abs R2,.abs R3,.ab (.pm 3 82 bn M)]) rfl (fy _) (ads _ _ _ ⟨_,_,_,_,_,_,_,_,_,_,_,_,_,_,_,_,_,_,_,_,rfl,rfl,d,N,x,hM.ok,by grind,hR,hx,TI.mpr (h)⟩)
 grind
def aaW:Ct
 | [.v (.c (.p 0 0)),.v (.c (.k (.int .i64 ref))),.v (.c (.k (.string s)))],[.abs A],Q=>∃ (d:IR) (N:List bc) (x:bc),MB A d N/\x∈N/\Kk.get .int d.t.Mr x.2.1=some ref/\∀ v e,acY d N x s v e->Q (.cC [.agg (dg.cells v),.c (.k (.int .i64 e))]) [.abs A]
 | _,_,_=>False
theorem aiv:cq 263 aaW:=λargs H Q h=>by
 unfold aaW at h;split at h
 .obtain ⟨d,N,x,hM,hx,hg,h⟩:=h;obtain ⟨s0,s1,s2,s3,s4,s5,s6,s7,s8,s9,nm,R1,R2,R3,M,hs,hV,rfl⟩:=hM.ex;have hR:=hV.recAt hM.ok hM.tr.root.1 hM.tr.pos hx hg;exact Wp.DO (q:=0) (p:=0) (r:=[1,2,3,4]) (ls:=[0]) (L:=[.cells 90 [.de (.int .u32) dB 0 0,.d .u8 (d.im dB),.k (.int .i64 s0),.k (.int .i64 s1),.k (.int .i64 s2),.k (.int .i64 s3),.k (.int .i64 s4),.k (.int .i64 s5),.k (.int .i64 s6),.k (.int .i64 s7),.k (.int .i64 s8),.k (.int .i64 s9),.d (.int .i64) d.pl,.d (.int .i64) d.ids,.p 1 0,.p 2 0,.p 3 0,.m 4,.k (.int .i64 nm)],.abs R1,.abs R2,.abs R3,.ab (.pm 3 82 bn M)]) rfl (fy _) (adL _ _ _ ⟨_,_,_,_,_,_,_,_,_,_,_,_,_,_,_,_,_,_,_,_,_,rfl,rfl,d,N,x,hM.ok,by grind,hR,hx,by assumption⟩)
 grind
def ag6:Ct
 | [.v (.c (.p 0 0)),.v (.c (.k (.int .i64 ref)))],[.abs A],Q=>∃ (d:IR) (N:List bc) (x:bc),MB A d N/\x∈N/\Kk.get .int d.t.Mr x.2.1=some ref/\Q (.cC [.c (.d cU x.2.2.2.2.2.2.1),.c (.k (.int .i64 0))]) [.abs A]
 | _,_,_=>False
theorem ama:cq 20 ag6:=λargs H Q h=>by
 unfold ag6 at h;split at h
 .obtain ⟨d,N,x,hM,hx,hg,h⟩:=h;obtain ⟨s0,s1,s2,s3,s4,s5,s6,s7,s8,s9,nm,R1,R2,R3,M,hs,hV,rfl⟩:=hM.ex;have hR:=hV.recAt hM.ok hM.tr.root.1 hM.tr.pos hx hg;exact Wp.DO (q:=0) (p:=0) (r:=[1,2,3,4]) (ls:=[0]) (L:=[.cells 90 [.de (.int .u32) dB 0 0,.d .u8 (d.im dB),.k (.int .i64 s0),.k (.int .i64 s1),.k (.int .i64 s2),.k (.int .i64 s3),.k (.int .i64 s4),.k (.int .i64 s5),.k (.int .i64 s6),.k (.int .i64 s7),.k (.int .i64 s8),.k (.int .i64 s9),.d (.int .i64) d.pl,.d (.int .i64) d.ids,.p 1 0,.p 2 0,.p 3 0,.m 4,.k (.int .i64 nm)],.abs R1,.abs R2,.abs R3,.ab (.pm 3 82 bn M)]) rfl (fy _) (aie _ _ _ ⟨_,_,_,_,_,_,_,_,_,_,_,_,_,_,_,_,_,_,_,_,rfl,rfl,d,N,x,hM.ok,by grind,hR,hx,TI.mpr (h)⟩)
 grind
def anM:Ct
 | [.v (.c (.p 0 0)),.v (.c (.k (.int .i64 ref))),.v (.c (.k (.int .i64 off))),.v (.c (.k (.int .i64 n)))],[.abs A],Q=>∃ (d:IR) (N:List bc) (x:bc),MB A d N/\x∈N/\Kk.get .int d.t.Mr x.2.1=some ref/\Q (.cC [.c (.d .u8 (rdN x off n)),.c (.k (.int .i64 (Y5 x off n)))]) [.abs A]
 | _,_,_=>False
theorem ao3:cq 18 anM:=λargs H Q h=>by
 unfold anM at h;split at h
 .obtain ⟨d,N,x,hM,hx,hg,h⟩:=h;obtain ⟨s0,s1,s2,s3,s4,s5,s6,s7,s8,s9,nm,R1,R2,R3,M,hs,hV,rfl⟩:=hM.ex;have hR:=hV.recAt hM.ok hM.tr.root.1 hM.tr.pos hx hg;exact Wp.DO (q:=0) (p:=0) (r:=[1,2,3,4]) (ls:=[0]) (L:=[.cells 90 [.de (.int .u32) dB 0 0,.d .u8 (d.im dB),.k (.int .i64 s0),.k (.int .i64 s1),.k (.int .i64 s2),.k (.int .i64 s3),.k (.int .i64 s4),.k (.int .i64 s5),.k (.int .i64 s6),.k (.int .i64 s7),.k (.int .i64 s8),.k (.int .i64 s9),.d (.int .i64) d.pl,.d (.int .i64) d.ids,.p 1 0,.p 2 0,.p 3 0,.m 4,.k (.int .i64 nm)],.abs R1,.abs R2,.abs R3,.ab (.pm 3 82 bn M)]) rfl (fy _) (amb _ _ _ ⟨_,_,_,_,_,_,_,_,_,_,_,_,_,_,_,_,_,_,_,_,_,_,rfl,rfl,d,N,x,hM.ok,by grind,hR,hx,TI.mpr (h)⟩)
 grind
theorem akc {T:List Int} {im:List UInt8} {s0 s1 s2 s3 s4 s5 s6 s7 s8 s9 nm:Int} {pl ids:List Int} {R1 R2 R3:Value->Atom} {M:List (Int×Nat×bn.den)} {Q:SV->List HO->Prop} {sv:SV}:uK 0 [1,2,3,4] [0] 0 Q sv [.cells 90 [.de (.int .u32) T 0 0,.d .u8 im,.k (.int .i64 s0),.k (.int .i64 s1),.k (.int .i64 s2),.k (.int .i64 s3),.k (.int .i64 s4),.k (.int .i64 s5),.k (.int .i64 s6),.k (.int .i64 s7),.k (.int .i64 s8),.k (.int .i64 s9),.d (.int .i64) pl,.d (.int .i64) ids,.p 1 0,.p 2 0,.p 3 0,.m 4,.k (.int .i64 nm)],.abs R1,.abs R2,.abs R3,.ab (.pm 3 82 bn M)]=Q (sv.fj (iD [0])) [.abs (j4 [.cells 90 [.de (.int .u32) T 0 0,.d .u8 im,.k (.int .i64 s0),.k (.int .i64 s1),.k (.int .i64 s2),.k (.int .i64 s3),.k (.int .i64 s4),.k (.int .i64 s5),.k (.int .i64 s6),.k (.int .i64 s7),.k (.int .i64 s8),.k (.int .i64 s9),.d (.int .i64) pl,.d (.int .i64) ids,.p 1 0,.p 2 0,.p 3 0,.m 4,.k (.int .i64 nm)],.abs R1,.abs R2,.abs R3,.ab (.pm 3 82 bn M)])]:=by kernel_rfl
def TZ:Ct
 | [.v (.c cim)],[],Q=>(match (Ty.sl Ty.u8).of [cim] with
  | some (im,[])=>∃ (N:List bc) (d:IR),va N/\d.Ok dB N/\im=d.im dB/\∀ A,MB A d N->Q (.cC [.c (.p 0 0),.c (.k (.int .i64 0))]) [.abs A]
  | _=>False)
 | _,_,_=>False
theorem adJ:cq 27 TZ:=λargs H Q h=>by
 unfold TZ at h;split at h
 .rename_i cim;cases hq:(Ty.sl Ty.u8).of [cim] with
  | none=>grind
  | some p=>
   obtain ⟨im,r⟩:=p;rw [hq] at h;cases r with
   | cons a r=>grind
   | nil=>
    obtain ⟨N,d,tr,hd,e,h⟩:=h;refine Wp.ZB (p:=0) (r:=[1,2,3,4]) (ls:=[0]) (XJ _ _ _ ?_);unfold DH;simp only [hq];exact ⟨N,d,tr,hd,e,λA1 A2 A3 M h1 h2 h3 hV=>akc.mpr (h _ ⟨hd,tr,_,_,_,_,_,_,_,_,_,_,_,A1,A2,A3,M,rfl,hV,rfl⟩)⟩
 grind
def akx:Ct:=cD noTy λl=>c0 λQ=>(l.length:Int)<=40/\br (dw l !=0) (Q (.cC [.c (.k (.pointer none)),.c (.k (.int .i64 (dw l)))]) []) (∀ A d N,acW l N->MB A d N->Q (.cC [.c (.p 0 0),.c (.k (.int .i64 0))]) [.abs A])
def ali:=(gp.add adW).add adJ
def RQ (l:(List (noTy).den)):dq:=λQ=>di l ((ay l)<=(40:Int)/\br (dw l !=0) (bx<=eR->aB .i64 (dw l)->br (dw l !=0) (Q (.cC [.c (.k (.pointer none)),.c (.k (.int .i64 (dw l)))]) []) (∃ N d,va N/\IR.Ok d dB N/\ []=IR.im d 
 dB/\∀ (A:Value->Atom),MB A d N->aB .i64 0->Q yx [HO.abs A])) (∀ (L':List bc) (im:List UInt8),sW L' l (UC im (ef L')->cW im (aB .i64 0->∃ N d,va N/\IR.Ok d dB N/\im=IR.im d dB/\∀ (A:Value 
 ->Atom),MB A d N->aB .i64 0->Q yx [HO.abs A]))))
theorem XE:cq 10 akx:=eI<| iH λl=>gx λQ h=>by
 refine Wp.dy ali ee ⟨[],[]⟩ Tryz.f10 (RQ l) ?_;unfold RQ yx sW ef cW eR di aT ay aJ bx;obtain ⟨hl,h⟩:=h;refine λ_=>⟨hl,ak (λq=>λ_ _=>?_) (λq=>λL' im hp ho hI _ _=>?_)⟩;rw [q] at h ⊢;exact h
 .rw [q] at h;obtain ⟨d,hd,rfl⟩:=hI.ex;have O:=aeA (L5 (show dw l=0 by simpa using q)) hp ho;exact ⟨cZ L' [],d,O.tr,hd,rfl,λA hA _=>h A d _ O hA⟩
structure Xc (d:IR) (N:List bc) (p:List ByteArray) (ref:Int):Prop where
 ok:ju N (aA noTy N 0) p=0->∃ y∈N,y.1=p/\Kk.get .int d.t.Mr y.2.1=some ref
theorem afa {N:List bc} {x:bc} {s:ByteArray} {r:List ByteArray} (h:mJ N x s≠0):ju N x (s::r)=mJ N x s:=by
 grind [ju, mJ]
theorem aj9 {N:List bc} {x y:bc} {s:ByteArray} {r:List ByteArray} (h:mJ N x s=0) (hf:EA N (x.1++ [s])=some y):ju N x (s::r)=ju N y r:=by
 grind [mJ, ju]
def Uc:Ct
 | [.v (.c (.Ee 25 (.p 0 0))),.v (.c cp)],[.abs A],Q=>(match (Ty.sl Ty.str).of [cp] with
  | some (p,[])=>∃ d N,MB A d N/\∀ ref,Xc d N p ref->Q (.cC [.c (.k (.int .i64 ref)),.c (.k (.int .i64 (ju N (aA noTy N 0) p)))]) [.abs A]
  | _=>False)
 | _,_,_=>False
def alh:=(gp.add ain).add aiv
abbrev lC (y0):=aA noTy y0 ah
def LG (p:(List (Ty.str).den)) (A:Value->Atom):dq:=λQ=>gC p (∃ d N,MB A d N/\∀ (ref:Int),Kk.get Kk.int d.t.Mr (lC N).2.1=some ref->aB .i64 ref->aJ (eG p)->aK (λi ag=>br (decide (i.1.1< (ay p))) (0<=i.1.1/\i.1.1< (ay p)/\(Ty.ok Ty.str 
 (iv p i.1.1)->∃ d N x,MB i.2.1 d N/\x∈N/\Kk.get Kk.int d.t.Mr x.2.1=some i.1.2.1/\∀ (v:Ty.den dg) (e:Int),acY d N x (iv p i.1.1) v e->dv v.1 (cr v.2.1 v.2.2.1 e (br (e !=0) (Q (.cC [.c (.k aT),.c (.k 
 (aC e))]) [HO.abs i.2.1]) (cj i.1.1 (ag ((i.1.1+1,v.2.2),i.2))))))) (Q (.cC [.c (.k (aC i.1.2.1)),.c (.k aT)]) [HO.abs i.2.1])) ((ah,ref,()),A,()))
theorem Ro:cq 11 Uc:=by
 intro args H Q h;unfold Uc at h;split at h;rotate_left;cases h;rename_i cp A;split at h;rotate_left;cases h;rename_i p hp;refine Wp.said (args':=[.v (.c (.Ee 25 (.p 0 0))),.c (.d Ty.str p)]) (λE g=>bA.cE (λ_ h=>h) (bA.cE (dI hp) (λ_ h=>h))) ?_;clear hp;refine Wp.dy alh ee ⟨[(4,⟨[(15,.int .i64),(6,.int .i64)],[(0,.abs)]⟩)],[]⟩ Tryz.f11 (LG p A) ?_;unfold LG iv lC eG dv gC cj aT cr aC ah ay aJ;obtain ⟨d,N,hM,h⟩:=h;have r1:=hM.tr.root.1;have hp:=hM.tr.pos;refine λ_=>⟨d,N,hM,λr0 NB _ _=>aK.intro (λi=>i.2.1=A/\0<=i.1.1/\i.1.1<=p.length/\∃ x∈N,x.1=p.take i.1.1.toNat/\Kk.get .int d.t.Mr x.2.1=some i.1.2.1/\ju N x (p.drop i.1.1.toNat)=ju N (aA noTy N 0) p) (λi=>p.length - i.1.1.toNat) ⟨rfl,bh _,by simp,aA noTy N 0,tv (e:=noTy) (bh 0) (by omega),r1,NB,rfl⟩ ?_⟩;rintro ⟨⟨i,rf,_⟩,A1,_⟩ ⟨e,i0,i1,x,hx,hx1,hx2,hx3⟩;simp only at e i0 i1 hx1 hx2 hx3 ⊢;subst e;refine ak (λhc=>?_) (λhc=>?_)
 .have hc:=of_decide_eq_true hc;refine ⟨i0,hc,λ_=>⟨d,N,x,hM,hx,hx2,λv e hL _ _ _ _=>?_⟩⟩;rw [cR (e:=.str) i0 hc] at hx3;have ht:=jo (e:=.str) i0 hc;obtain ⟨s,es⟩:∃ s,aA .str p i=s:=⟨_,rfl⟩;rw [es] at hx3 hL ht;have hE:=hL.eq;refine ak (λq=>?_) (λq=>?_)
  .have he:e≠0:=by simpa using q
   have hz:ju N (aA noTy N 0) p=e:=by rw [<-hx3,afa (by rw [<-hE];exact he),hE]
   have:=h 0 ⟨λz=>absurd (hz.symm.trans z) he⟩;rw [hz] at this;exact this
  .have he:e=0:=by simpa using q
   obtain ⟨y,hy,y1,y2⟩:=hL.ok he;have hf:EA N (x.1++ [s])=some y:=by rw [<-y1];exact JO hM.ok.tok hy
   rw [aj9 (by rw [<-hE];exact he) hf] at hx3;exact ⟨by unfold aB;omega,⟨rfl,by omega,by omega,y,hy,by rw [y1,hx1,ht],y2.ref,hx3⟩,by omega⟩
 .have hc:=of_decide_eq_false hc;rw [cX hc] at hx3;have hz:ju N (aA noTy N 0) p=0:=hx3.symm;have:=h rf ⟨λ_=>⟨x,hx,by rw [hx1,aL (by omega)],hx2⟩⟩;rw [hz] at this;exact this
abbrev Ib:List Sh:=[.d .str,.int .i64,.int .i64,.int .i64,.int .i64,.int .i64,.d .u8,.str,.d cU,.bool]
def anZ:Ct:=cD noTy λl=>c0 λQ=>Q (.c (.o 0)) [.sl 38 noTy ((l.take 40).map N4)]
def Yq (l:(List (noTy).den)):dq:=λQ=>di l (aK (λi ag=>di l (br (eh i.1.1 l) (br (decide (i.1.1< 40)) (dL i.1.1 l (fm l i.1.1 (cK (λk=>List.length (cH l i.1.1).1<=9223372036854775807->br (decide ((fU l i.1.1)>(18:Int))) 
 (ah<=(18:Int)/\(18:Int)<=(fU l i.1.1)/\k ((),(List.take (18:Nat) (cH l i.1.1).1,(cH l i.1.1).2.1,(cH l i.1.1).2.2.1,(cH l i.1.1).2.2.2.1.1,(cH l i.1.1).2.2.2.1.2.1,(cH l i.1.1).2.2.2.1.2.2.1,(cH l 
 i.1.1).2.2.2.2.1,(cH l i.1.1).2.2.2.2.2.1,(cH l i.1.1).2.2.2.2.2.2.1,(cH l i.1.1).2.2.2.2.2.2.2.1,()),())) (k ((),((cH l i.1.1).1,(cH l i.1.1).2.1,(cH l i.1.1).2.2.1,(cH l i.1.1).2.2.2.1.1,(cH l 
 i.1.1).2.2.2.1.2.1,(cH l i.1.1).2.2.2.1.2.2.1,(cH l i.1.1).2.2.2.2.1,(cH l i.1.1).2.2.2.2.2.1,(cH l i.1.1).2.2.2.2.2.2.1,(cH l i.1.1).2.2.2.2.2.2.2.1,()),()))) λbG=>cK (λk=>fA bG.2.1.2.2.2.2.2.2.1 (br 
 (decide ((aP bG.2.1.2.2.2.2.2.2.1)>(1500:Int))) (ah<=(1500:Int)/\(1500:Int)<=(aP bG.2.1.2.2.2.2.2.2.1)/\k ((),(bG.2.1.1,bG.2.1.2.1,bG.2.1.2.2.1,bG.2.1.2.2.2.1,bG.2.1.2.2.2.2.1,bG.2.1.2.2.2.2.2.1,List.take 
 (1500:Nat) bG.2.1.2.2.2.2.2.2.1,bG.2.1.2.2.2.2.2.2.2.1,bG.2.1.2.2.2.2.2.2.2.2.1,bG.2.1.2.2.2.2.2.2.2.2.2.1,()),())) (k ((),(bG.2.1.1,bG.2.1.2.1,bG.2.1.2.2.1,bG.2.1.2.2.2.1,bG.2.1.2.2.2.2.1,bG.2.1.2.2.2.2.2.1, 
 bG.2.1.2.2.2.2.2.2.1,bG.2.1.2.2.2.2.2.2.2.1,bG.2.1.2.2.2.2.2.2.2.2.1,bG.2.1.2.2.2.2.2.2.2.2.2.1,()),())))) λkV=>cK (λk=>fA kV.2.1.2.2.2.2.2.2.2.2.1 (br (decide ((aP kV.2.1.2.2.2.2.2.2.2.2.1)>(10:Int))) 
 (ah<=(10:Int)/\(10:Int)<=(aP kV.2.1.2.2.2.2.2.2.2.2.1)/\k ((),(kV.2.1.1,kV.2.1.2.1,kV.2.1.2.2.1,kV.2.1.2.2.2.1,kV.2.1.2.2.2.2.1,kV.2.1.2.2.2.2.2.1,kV.2.1.2.2.2.2.2.2.1,kV.2.1.2.2.2.2.2.2.2.1,List.take (10: 
 Nat) kV.2.1.2.2.2.2.2.2.2.2.1,kV.2.1.2.2.2.2.2.2.2.2.2.1,()),())) (k ((),(kV.2.1.1,kV.2.1.2.1,kV.2.1.2.2.1,kV.2.1.2.2.2.1,kV.2.1.2.2.2.2.1,kV.2.1.2.2.2.2.2.1,kV.2.1.2.2.2.2.2.2.1,kV.2.1.2.2.2.2.2.2.2.1, 
 kV.2.1.2.2.2.2.2.2.2.2.1,kV.2.1.2.2.2.2.2.2.2.2.2.1,()),())))) λjX=>(List.length i.1.2.1+List.length [(jX.2.1.1,jX.2.1.2.1,jX.2.1.2.2.1,(jX.2.1.2.2.2.1,jX.2.1.2.2.2.2.1,jX.2.1.2.2.2.2.2.1,()),jX.2.1.2.2.2.2.2.2.1, 
 jX.2.1.2.2.2.2.2.2.2.1,jX.2.1.2.2.2.2.2.2.2.2.1,jX.2.1.2.2.2.2.2.2.2.2.2.1,())])*136<=cd/\List.length i.1.2.1+List.length [(jX.2.1.1,jX.2.1.2.1,jX.2.1.2.2.1,(jX.2.1.2.2.2.1,jX.2.1.2.2.2.2.1,jX.2.1.2.2.2.2.2.1,()), 
 jX.2.1.2.2.2.2.2.2.1,jX.2.1.2.2.2.2.2.2.2.1,jX.2.1.2.2.2.2.2.2.2.2.1,jX.2.1.2.2.2.2.2.2.2.2.2.1,())]<=9223372036854775807/\cj i.1.1 (ag ((i.1.1+1,i.1.2.1++ [(jX.2.1.1,jX.2.1.2.1,jX.2.1.2.2.1,(jX.2.1.2.2.2.1, 
 jX.2.1.2.2.2.2.1,jX.2.1.2.2.2.2.2.1,()),jX.2.1.2.2.2.2.2.2.1,jX.2.1.2.2.2.2.2.2.2.1,jX.2.1.2.2.2.2.2.2.2.2.1,jX.2.1.2.2.2.2.2.2.2.2.2.1,())],()),()))))) (Q eY [.sl 38 noTy i.1.2.1])) (Q eY [.sl 38 noTy i.1.2.1]))) 
 ((ah,[],()),()))
theorem amo:cq 9 anZ:=eI<| iH λl=>gx λQ h=>by
 refine Wp.dy gp ee ⟨[(4,⟨[(4,.int .i64),(3,.own 38 noTy)],[]⟩)],[(9,⟨[],[(2,.cells 38 Ib)]⟩),(11,⟨[],[(2,.cells 38 Ib)]⟩),(13,⟨[],[(2,.cells 38 Ib)]⟩)]⟩ Tryz.f9 (Yq l) ?_;unfold Yq fm eY eh dL cH cj fA di cd fU ah aP ay;intro hl0;refine aK.intro (λi=>0<=i.1.1/\i.1.1<=l.length/\i.1.1<=40/\i.1.2.1=(l.take i.1.1.toNat).map N4) (λi=>l.length - i.1.1.toNat) ⟨by simp,by simp,by simp,by simp⟩ ?_;rintro ⟨⟨i,out,_⟩,_⟩ ⟨h0,h1,h2,h3⟩;simp only at h0 h1 h2 h3 ⊢;intro _;have fin:¬(i< l.length/\i< 40)->Q (.c (.o 0)) [.sl 38 noTy out]:=λhn=>by
  have:l.take i.toNat=l.take 40:=by
   by_cases h4:i< l.length
   .have:i=40:=by omega
    subst this;rfl
   .rw [aL (by omega),aL (by omega)]
  rw [h3,this];exact h
 refine ak (λhc=>ak (λza=>?_) (λza=>fin ?_)) (λhc=>fin ?_)
 .have hc:i< l.length:=by simpa using hc
  have za:i< 40:=by simpa using za
  refine ⟨h0,hc,λ_=>?_⟩;have ht:=jo (e:=noTy) h0 hc;generalize aA noTy l i=x at ht ⊢;refine cK.intro (λk=>k.2.1=(x.1.take 18,x.2.1,x.2.2.1,x.2.2.2.1.1,x.2.2.2.1.2.1,x.2.2.2.1.2.2.1,x.2.2.2.2.1,x.2.2.2.2.2.1,x.2.2.2.2.2.2.1,x.2.2.2.2.2.2.2.1,())) ?_ ?_
  .intro _;refine ak (λh4=>?_) (λh4=>?_)
   .have h4:(18:Int)< x.1.length:=by simpa using h4
    exact ⟨by decide,by omega,rfl⟩
   .have h4:¬(18:Int)< x.1.length:=by simpa using h4
    have h5:x.1.take 18=x.1:=aL (by omega);simp [h5]
  rintro ⟨_,k1,_⟩ hk;simp only at hk;subst hk;dsimp only;refine cK.intro (λk=>k.2.1=(x.1.take 18,x.2.1,x.2.2.1,x.2.2.2.1.1,x.2.2.2.1.2.1,x.2.2.2.1.2.2.1,x.2.2.2.2.1.take 1500,x.2.2.2.2.2.1,x.2.2.2.2.2.2.1,x.2.2.2.2.2.2.2.1,())) ?_ ?_
  .intro _;refine ak (λh4=>?_) (λh4=>?_)
   .have h4:(1500:Int)< x.2.2.2.2.1.length:=by simpa using h4
    exact ⟨by decide,by omega,rfl⟩
   .have h4:¬(1500:Int)< x.2.2.2.2.1.length:=by simpa using h4
    have h5:x.2.2.2.2.1.take 1500=x.2.2.2.2.1:=aL (by omega);simp [h5]
  rintro ⟨_,k1,_⟩ hk;simp only at hk;subst hk;dsimp only;refine cK.intro (λk=>k.2.1=(x.1.take 18,x.2.1,x.2.2.1,x.2.2.2.1.1,x.2.2.2.1.2.1,x.2.2.2.1.2.2.1,x.2.2.2.2.1.take 1500,x.2.2.2.2.2.1,x.2.2.2.2.2.2.1.take 10,x.2.2.2.2.2.2.2.1,())) ?_ ?_
  .intro _;refine ak (λh4=>?_) (λh4=>?_)
   .have h4:(10:Int)< x.2.2.2.2.2.2.1.length:=by simpa using h4
    exact ⟨by decide,by omega,rfl⟩
   .have h4:¬(10:Int)< x.2.2.2.2.2.2.1.length:=by simpa using h4
    have h5:x.2.2.2.2.2.2.1.take 10=x.2.2.2.2.2.2.1:=aL (by omega);simp [h5]
  rintro ⟨_,k1,_⟩ hk;simp only at hk;subst hk;dsimp only;have hlen:out.length=i.toNat:=by rw [h3,bT,aF];omega
  refine ⟨by simp only [av,aY,hlen];omega,by simp only [av,aY,hlen];omega,by unfold aB;omega,⟨by omega,by omega,by omega,?_⟩,by omega⟩;rw [ht,jb,<-h3];rfl
 .have:¬i< 40:=by simpa using za
  omega
 .have:¬i< l.length:=by simpa using hc
  omega
abbrev YJ:List bc:=[([],(1:Int),(1:Int),((0:Int),(0:Int),(0:Int),()),[],⟨#[]⟩,[],false,()),([⟨#[97]⟩],(2:Int),(2:Int),((0:Int),(0:Int),(0:Int),()),[],⟨#[]⟩,[],false,())]
theorem xT {N:List bc} {d:IR} (O:acW YJ N) (hd:d.Ok dB N):ju N (aA noTy N 0) [⟨#[97]⟩]=0/\ju N (aA noTy N 0) [⟨#[97]⟩,⟨#[98]⟩]=24/\ju N (aA noTy N 0) [⟨#[98]⟩]=20:=by
 obtain ⟨r1,r2,_⟩:=O.tr.root;obtain ⟨x,hx,x1,x2⟩:=O.to _ (aI _ aN:([⟨#[97]⟩],(2:Int),(2:Int),((0:Int),(0:Int),(0:Int),()),([]:List UInt8),⟨#[]⟩,[],false,())∈YJ);have x1:x.1= [⟨#[97]⟩]:=x1;have hf:EA N ((aA noTy N 0).1++ [⟨#[97]⟩])=some x:=by rw [r1,gS,<-x1];exact JO hd.tok hx
 have hn:EA N ((aA noTy N 0).1++ [⟨#[98]⟩])=none:=qp.2 λy hy e=>by
  obtain ⟨z,hz,z1,_⟩:=O.of y hy
  grind
 grind [ju]
def afA:Ct:=c0 λQ=>Q (.bool true) []
def alg:=(gp.add XE).add Ro
def K8:dq:=
 λQ=>(↑a7:Int)<=(40:Int)/\∀ (A:Value->Atom) (d:IR) (N:List bc),acW [(([]:List ByteArray),aW,aW,(ah,ah,ah,()),[],ByteArray.mk #[],[],false,()),([ByteArray.mk #[(97:UInt8)]],dm,dm, 
 (ah,ah,ah,()),[],ByteArray.mk #[],[],false,())] N->MB A d N->aB .i64 0->∃ d N,MB A d N/\∀ (ref:Int),Xc d N [ByteArray.mk #[(97:UInt8)]] ref->aB .i64 ref->aB .i64 (ju N (lC N) [ByteArray.mk #[(97: 
 UInt8)]])->∃ d W9,MB A d W9/\∀ (ref:Int),Xc d W9 [ByteArray.mk #[(97:UInt8)],ByteArray.mk #[(98:UInt8)]] ref->aB .i64 ref->aB .i64 (ju W9 (lC W9) [ByteArray.mk #[(97:UInt8)],ByteArray.mk #[(98:UInt8)]])->∃ 
 d N_2,MB A d N_2/\∀ (ref:Int),Xc d N_2 [ByteArray.mk #[(98:UInt8)]] ref->aB .i64 ref->aB .i64 (ju N_2 (lC N_2) [ByteArray.mk #[(98:UInt8)]])->br (ju N (lC N) [ByteArray.mk #[(97:UInt8)]]==0) (br (ju W9 
 (lC W9) [ByteArray.mk #[(97:UInt8)],ByteArray.mk #[(98:UInt8)]]==24) (Q (.v (.c (.k (.bool (ju N_2 (lC N_2) [ByteArray.mk #[(98:UInt8)]]==20))))) []) (ba Q)) (ba Q)
theorem adu:cq 8 afA:=eI<| gx λQ h=>by
 refine Wp.dy alg ee ⟨[],[]⟩ Tryz.f8 K8 (hold:=[10,11]) ?_;unfold K8 lC ba iW ah aW dm a7;refine ⟨by decide,λA d N O hM _=>?_⟩;have e1:ju N (aA noTy N 0) [⟨#[97]⟩]=0:=(xT O hM.ok).1;have e2:ju N (aA noTy N 0) [⟨#[97]⟩,⟨#[98]⟩]=24:=(xT O hM.ok).2.1;have e3:ju N (aA noTy N 0) [⟨#[98]⟩]=20:=(xT O hM.ok).2.2;refine ⟨d,N,hM,λ_ _ _ _=>⟨d,N,hM,λ_ _ _ _=>⟨d,N,hM,λ_ _ _ _=>?_⟩⟩⟩;rw [e1,e2,e3];exact h
end Go.Proofs

namespace Go.Lm
open Go
def Ed (F:List bc) (p:List ByteArray) (k:Int):ByteArray:=(aA noTy F k).1.getD p.length ⟨#[]⟩
structure ac0 (F:List bc) (p:List ByteArray) (K:List Int):Prop where
 perm:K.Perm (bU p F 0)
 Md:K.Pairwise λa b=>lS (Ed F p b) (Ed F p a)=false
theorem Ih (a:ByteArray):¬lS a a=true:=by rw [lu,mB];decide
theorem Pf (a b c:ByteArray) (h:lS a b=true) (k:lS b c=true):lS a c=true:=by
 rw [lu,decide_eq_true_eq] at*;exact oW h k
theorem YR {a b:ByteArray} (h:lS b a=false) (n:a≠b):lS a b=true:=by
 rw [lu,decide_eq_false_iff_not] at h;rw [lu,decide_eq_true_eq]
 grind [Hh, qv]
theorem aeh {a b c:ByteArray} (h:lS b a=false) (k:lS c b=false):lS c a=false:=by
 grind [Pf, YR]
theorem Nr {F:List bc} {p:List ByteArray} {o:Int} (h:(aA noTy F o).1.length=p.length+1):aA .str (aA noTy F o).1 (((aA noTy F o).1.length:Int) - 1)=Ed F p o:=by
 grind [fF, Ed]
variable {F N:List bc} {ids:List Int} {G:List (Int×eA.den)}
theorem vU (p:List ByteArray):∀ (A B:List bc) (k:Int),bU p (A++B) k=bU p A k++bU p B (k+(A.length:Int))
 | [],B,k=>by simp [bU]
 | x::A,B,k=>by
  rw [eH,jW,vU p A B,jW p x A,aM];congr 3;rw [av];omega
structure nQ (F:List bc) (p:List ByteArray) (n:Nat) (K:List Int):Prop where
 perm:K.Perm (bU p (F.take n) 0)
 Md:K.Pairwise λa b=>lS (Ed F p b) (Ed F p a)=false
theorem nQ.start (F:List bc) (p:List ByteArray):nQ F p 0 []:=⟨by rfl,List.Pairwise.nil⟩
theorem nQ.all {p:List ByteArray} {K:List Int} {n:Nat} (h:nQ F p n K) (hn:F.length<=n):ac0 F p K:=⟨by have:=h.perm;grind [aL],h.Md⟩
theorem nQ.len {p:List ByteArray} {K:List Int} {n:Nat} (h:nQ F p n K):K.length<=F.length:=by
 have:=jV p (L:=F.take n) (k:=0);rw [h.perm.length_eq]
 grind
theorem Ah {p:List ByteArray} {i:Int} (h0:0<=i) (h1:i< (F.length:Int)):bU p (F.take (i+1).toNat) 0=bU p (F.take i.toNat) 0++if qh p (aA noTy F i) then [i] else []:=by
 rw [show F.take (i+1).toNat=F.take i.toNat++ [aA noTy F i] from jo (e:=noTy) h0 h1,vU,jW]
 grind [bU]
theorem nQ.skip {p:List ByteArray} {K:List Int} {i:Int} (h:nQ F p i.toNat K) (h0:0<=i) (h1:i< (F.length:Int)) (hk:qh p (aA noTy F i)=false):nQ F p (i+1).toNat K:=⟨by
 rw [Ah h0 h1,hk,if_neg (by decide),bf];exact h.perm,h.Md⟩
theorem nQ.mem {p:List ByteArray} {K:List Int} {n:Nat} (h:nQ F p n K) {o:Int} (ho:o∈K):0<=o/\o< (F.length:Int)/\(aA noTy F o).1.length=p.length+1:=by
 have:o∈bU p F 0:=by
  rw [<-bK n F,vU];exact bW _ (h.perm.mem_iff.1 ho)
 obtain ⟨a,b,c,_⟩:=fH this;omega
structure AP (F:List bc) (p:List ByteArray) (K:List Int) (i k:Int) (L:List Int):Prop where
 k0:0<=k
 k1:k<=(K.length:Int)
 eq:∃ y,L=K.take k.toNat++y::K.drop k.toNat
 up:∀ b∈K.drop k.toNat,lS (Ed F p i) (Ed F p b)=true
theorem AP.start (F:List bc) (p:List ByteArray) (K:List Int) (i:Int):AP F p K i (K.length:Int) (K++ [i]):=⟨by omega,bh _,by simp,by simp⟩
variable {p:List ByteArray} {K L:List Int} {i k:Int}
theorem AP.len (h:AP F p K i k L):L.length=K.length+1:=by
 obtain ⟨y,rfl⟩:=h.eq
 grind
theorem AP.elem (h:AP F p K i k L) (hk:0< k):aA (.int .i64) L (k - 1)=aA (.int .i64) K (k - 1):=by
 obtain ⟨y,rfl⟩:=h.eq;have:=h.k1;unfold aA;rw [dh,dh,bF (by grind),mT,if_pos (by omega)]
theorem ai6 {α:Type} (A B:List α) (x y:α) {j:Nat} (h:A.length=j):(A++x::B).set j y=A++y::B:=by
 simp_all
theorem AP.step (h:AP F p K i k L) (hk:0< k) (hs:lS (Ed F p i) (Ed F p (aA (.int .i64) L (k - 1)))=true):AP F p K i (k - 1) (L.set k.toNat (aA (.int .i64) L (k - 1))):=by
 have e:=h.elem hk;rw [e] at hs ⊢;obtain ⟨y,rfl⟩:=h.eq;have h1:=h.k1;have e1:=cR (e:=.int .i64) (l:=K) (k:=k - 1) (by omega) (by omega);have e2:=jo (e:=.int .i64) (l:=K) (k:=k - 1) (by omega) (by omega);rw [show k - 1+1=k by omega] at e1 e2;refine ⟨by omega,by omega,⟨aA (.int .i64) K (k - 1),?_⟩,λb hb=>?_⟩
 .grind
 .rw [e1] at hb;rcases bm.1 hb with rfl| hb
  .exact hs
  .exact h.up b hb
theorem AP.fin (h:AP F p K i k L) (hQ:nQ F p i.toNat K) (h0:0<=i) (h1:i< (F.length:Int)) (hb:qh p (aA noTy F i)=true) (hs:0< k->lS (Ed F p i) (Ed F p (aA (.int .i64) L (k - 1)))=false):nQ F p (i+1).toNat (L.set k.toNat i):=by
 have e:=h.elem (k:=k);obtain ⟨y,rfl⟩:=h.eq;have tz:=h.k1;have hl:(K.take k.toNat).length=k.toNat:=by rw [aF];omega
 rw [ai6 (K.take k.toNat) (K.drop k.toNat) y i hl];have Df:(K.take k.toNat++K.drop k.toNat).Pairwise λa b=>lS (Ed F p b) (Ed F p a)=false:=by rw [bK];exact hQ.Md
 obtain ⟨s1,s2,s3⟩:=iK.1 Df;refine ⟨?_,iK.2 ⟨s1,eV.2 ⟨λb hb=>?_,s2⟩,λa ha b hb=>?_⟩⟩
 .rw [Ah h0 h1,if_pos hb];refine List.perm_middle.trans ?_;rw [bK];exact (hQ.perm.cons i).trans (List.perm_append_singleton i _).symm
 .have:=h.up b hb
  grind [Pf, Ih]
 .rcases bm.1 hb with rfl| hb
  .by_cases hk:0< k
   .have hs:=hs hk;rw [e hk] at hs;have e2:=jo (e:=.int .i64) (l:=K) (k:=k - 1) (by omega) (by omega);rw [show k - 1+1=k by omega] at e2;rw [e2] at s1 ha;rcases aV.1 ha with ha| ha
    .grind [aeh]
    .obtain rfl:=aU.1 ha;exact hs
   grind
  .exact s3 a ha b hb
end Go.Lm

namespace Go.Lm
open Go
variable {N:List bc} {ids:List Int} {F:List (Int×eA.den)}
end Go.Lm

