/- Texts of mine, laid together: LmZr D3 LmZs LmZt KO D4 LmZu E1 E2 LmVzg E3 LmZv E4 LmVzh E5 LmZ1 LmZ2 LmZ3 LmZ4 E6 F1 F2 F3 F4 G1 G2 G3 LmWb LmFrame Frame G4. -/
import Derived.Test.YthjbdgokcljocaaGreatDoorQ6
import Derived.Test.YthjbdgokcljocaaGreatDoorProg
import Derived.Test.YthjbdgokcljocaaGreatDoorChecked
import Derived.Test.YthjbdgokcljocaaGreatDoorQ3
import Derived.Test.YthjbdgokcljocaaGreatDoorQ1
import Derived.HandedShaped
import Derived.ProofKit
import Derived.LaidMore
import Derived.OpenShut
import Derived.ShutString
import Derived.ChangeOld
import Derived.Below
import Derived.Stop.Joined
import Derived.Shelf.Vars
import Derived.SevenTiedAt
import Derived.Test.YthjbdgokcljocaaGreatDoorTie
import Derived.Lib.LaidU8
import Derived.MakeChecks
set_option linter.unusedVariables false
open Array renaming getElem?_eq_some_iff → aQ
open Bool renaming and_eq_true → ao, not_eq_true' → bY, or_eq_true → lp
open Int renaming toNat → ax, toNat_natCast → aU, le_refl → bz, tdiv → fQ, natCast_nonneg → jv
open List renaming flatten → ae, length_append → af, getElem?_eq_getElem → ak, length_cons → aq, getElem?_eq_some_iff → au, replicate → av, length_take → aA, length_singleton → aD, append_assoc → aG, mem_cons_of_mem → aH, eq_nil_of_length_eq_zero → aJ, length_nil → aM, length_drop → aN, mem_map → aP, mem_singleton → aR, length_replicate → aS, take_of_length_le → aT, getElem?_append_left → aV, append_nil → aW, mem_cons_self → aX, mem_append → aY, getElem?_append_right → a8, getD_eq_getElem?_getD → ba, mem_cons → bm, length_map → bH, flatten_cons → bI, mem_append_left → bM, range → bN, take_succ_eq_append_getElem → bU, map_cons → bX, getElem?_map → ck, take_append_drop → cv, drop_append_of_le_length → da, mem_range → dd, pairwise_iff_getElem → dj, getElem_mem → dw, nil_append → dQ, mem_iff_getElem → dR, nodup_cons → eB, take_take → eF, drop_drop → eG, take_length → eN, map_append → eQ, flatten_append → eU, drop_left → eV, mem_of_getElem? → fc, nodup_append → fh, length_set → gE, drop_eq_nil_of_le → ik, mem_append_right → iK, drop_take → jk, pairwise_cons → jt, find?_eq_none → ju, drop_of_length_le → j4, flatMap_cons → j9, pairwise_map → mL, mem_of_find?_eq_some → pC, drop_zero → pD
open Nat renaming eq_of_beq_eq_true → ai, le_refl → ay, zero_add → bW, zero_le → cq, min_eq_left → dK, lt_or_ge → dZ, zero_lt_succ → gJ, lt_trichotomy → mK
open Option renaming map_some → js
open Option.some renaming inj → aj, injEq → j8
open Go.Proofs.Tryz renaming prog → cd
noncomputable section
namespace Go.Lm
open Go
abbrev afu (st sz fr off:Int):eE.den:=(0,0,0,0,0,0,st,sz,fr,off,⟨#[]⟩,())
structure aeF (T:List Int) (fi:Int) (b row:List UInt8) (bg:List Int) (F:List (Int×eE.den)) (x:bu):Prop where
 ex:∃ st fr off,Kk.get .int F x.2.1=some (afu st x.2.2.2.2.1.length fr off)/\zk T fi b st x.2.2.2.2.1/\oL row bg fr off (x.2.2.2.2.1.drop (128*(x.2.2.2.2.1.length / 128)))
structure rQ (R:List bu) (T:List Int) (fi:Int) (b row:List UInt8) (bg:List Int) (F:List (Int×eE.den)):Prop where
 file:∀ x∈R,x.2.2.1=2->aeF T fi b row bg F x
 no:∀ i r,Kk.get .int F i=some r->∃ x∈R,x.2.1=i/\x.2.2.1=2
 len:F.length<=R.length
variable {R:List bu} {T:List Int} {fi:Int} {b row:List UInt8} {bg:List Int} {F:List (Int×eE.den)}
theorem rQ.nil:rQ [] T fi b row bg []:=⟨λx h=>(by cases h),λi r h=>(by cases h),ay _⟩
theorem aeF.app {x:bu} (h:aeF T fi b row bg F x) (c:List UInt8):aeF T fi (b++c) row bg F x:=by
 obtain ⟨st,fr,off,h1,h2,h3⟩:=h;exact ⟨st,fr,off,h1,h2.app c,h3⟩
theorem rQ.app (h:rQ R T fi b row bg F) (c:List UInt8):rQ R T fi (b++c) row bg F:=⟨λx hx hk=>(h.file x hx hk).app c,h.no,h.len⟩
theorem rQ.skip (h:rQ R T fi b row bg F) {x:bu} (oS:∀ y∈R,y.2.1=x.2.1->y.2.2=x.2.2) (hx:x.2.2.1≠2\/Kk.get .int F x.2.1≠none):rQ (R++ [x]) T fi b row bg F:=by
 refine ⟨λy hy hk=>?_,λi r q=>?_,by rw [af];have:=h.len;omega⟩
 .rcases aY.1 hy with hy| hy
  .exact h.file y hy hk
  .obtain rfl:=aR.1 hy;rcases hx with hx| hx
   .exact absurd hk hx
   .obtain ⟨r,hr⟩:=Option.ne_none_iff_exists'.1 hx;obtain ⟨z,hz,e,hzk⟩:=h.no _ _ hr;obtain ⟨st,fr,off,h1,h2,h3⟩:=h.file z hz hzk;have e2:=oS z hz e;rw [e] at h1;rw [e2] at h1 h2 h3;exact ⟨st,fr,off,h1,h2,h3⟩
 .obtain ⟨z,hz,q⟩:=h.no i r q;exact ⟨z,bM _ hz,q⟩
theorem rQ.put (h:rQ R T fi b row bg F) {x:bu} (hn:Kk.get .int F x.2.1=none) (hk:x.2.2.1=2) {b' lB:List UInt8} {zd:List Int} {st fr off:Int} (hb:∃ c,b'=b++c) (hS:zk T fi b' st x.2.2.2.2.1) (hT:oL lB zd fr off (x.2.2.2.2.1.drop (128*(x.2.2.2.2.1.length / 128)))) (hK:∀ nu off u,oL row bg nu off u->oL lB zd nu off u):rQ (R++ [x]) T fi b' lB zd (Kk.put .int F x.2.1 (afu st x.2.2.2.2.1.length fr off)):=by
 obtain ⟨c,rfl⟩:=hb;refine ⟨λy hy hyk=>?_,λi r q=>?_,?_⟩
 .rcases aY.1 hy with hy| hy
  .obtain ⟨st',fr',ahI,h1,h2,h3⟩:=h.file y hy hyk;refine ⟨st',fr',ahI,?_,h2.app c,hK _ _ _ h3⟩;rw [jI (k:=.int) (λe=>by rw [e,hn] at h1;cases h1)];exact h1
  .obtain rfl:=aR.1 hy;exact ⟨st,fr,off,gh (k:=.int),hS,hT⟩
 .by_cases hi:i=x.2.1
  .exact ⟨x,iK _ aX,hi.symm,hk⟩
  .rw [jI (k:=.int) hi] at q;obtain ⟨z,hz,q⟩:=h.no i r q;exact ⟨z,bM _ hz,q⟩
 .rw [pw (k:=.int) hn,af];have:=h.len;simp only [aD];omega
structure rF (T:List Int) (fi:Int) (b:List UInt8) (bs:List (List UInt8)) (pl:List Int):Prop where
 len:pl.length=bs.length
 ats:∀ (i:Nat) a x,pl[i]?=some a->bs[i]?=some x->∃ (o:Nat) (z r:List UInt8),a=fi+o/\DM T x z/\b.drop o=z++r/\o<=b.length
theorem rF.nil:rF T fi b [] []:=⟨rfl,λi a x h=>by simp at h⟩
theorem rF.step {bs:List (List UInt8)} {pl:List Int} (h:rF T fi b bs pl) {x z:List UInt8} (hz:DM T x z):rF T fi (b++z) (bs++ [x]) (pl++ [fi+b.length]):=by
 refine ⟨by simp [h.len],λi a y h1 h2=>?_⟩;rcases dZ i pl.length with hl| hl
 .rw [aV hl] at h1;rw [aV (by rw [<-h.len];exact hl)] at h2;obtain ⟨o,w,r,q1,q2,q3,q4⟩:=h.ats i a y h1 h2;exact ⟨o,w,r++z,q1,q2,by rw [da q4,q3,aG],by rw [af];omega⟩
 .have eK:=(au.1 h1).1;rw [af,aD] at eK;obtain rfl:i=pl.length:=by omega
  rw [a8 (ay _),Nat.sub_self] at h1;rw [h.len,a8 (ay _),Nat.sub_self] at h2;obtain rfl:fi+b.length=a:=by simpa using h1
  obtain rfl:x=y:=by simpa using h2
  exact ⟨b.length,z,[],rfl,hz,by rw [eV,aW],by rw [af];omega⟩
end Go.Lm

namespace Go.Proofs
open Go Go.Lm Go.RowKit
set_option maxRecDepth 1000000
def Hk:Ct
 | [.v (.c (.p 0 0)),.v (.c (.p 7 0))],[.cells 120 [.p 1 0,.p 2 0,.p 3 0,.d (.pair (.sl .str) (.pair (.int .i64) (.pair (.int .i64) (.pair (.pair (.int .i64) (.pair (.int .i64) (.pair (.int .i64) .unit))) (.pair (.sl .u8) (.pair .str (.pair (.sl (.pair .str (.pair (.sl .u8) .unit))) (.pair .bool .unit)))))))) L,.d (.int .i64) ids,.m 4,.m 5,.m 6],.abs A1,.abs A2,.abs A3,.map 3 .int (.int .i64) Mr,.map 3 .int (.pair (.int .i64) (.pair (.int .i64) (.pair (.int .i64) (.pair (.int .i64) (.pair (.int .i64) (.pair (.int .i64) (.pair (.int .i64) (.pair (.int .i64) (.pair (.int .i64) (.pair (.int .i64) (.pair .str .unit))))))))))) F,.map 9 .str (.int .i64) Ms,.abs AW],Q=>(L.length<=40/\(∀ x∈L,x.2.2.2.2.1.length<=4096)/\(∀ x∈L,∀ y∈L,x.2.1=y.2.1->x.2.2=y.2.2)/\F.length=0)/\∃ T fi,AW=jM [.cells 157 [.de (.int .u32) T 0 0,.k (.int .i64 fi),.o 1,.m 2],.sl 5 .u8 [],.map 9 .str (.int .i64) []]/\T.length=256/\(0<=fi/\fi<=1000000)/\∀ F' b' M' row bg pl,rQ L T fi b' row bg F'->AA row bg->rF T fi b' (lO row bg bg.length) pl->b'.length<=180000->pl.length<=40->Q (.c (.d (.int .i64) pl)) [.cells 120 [.p 1 0,.p 2 0,.p 3 0,.d noTy L,.d (.int .i64) ids,.m 4,.m 5,.m 6],.abs A1,.abs A2,.abs A3,.map 3 .int (.int .i64) Mr,.map 3 .int eE F',.map 9 .str (.int .i64) Ms,.abs (jM [.cells 157 [.de (.int .u32) T 0 0,.k (.int .i64 fi),.o 1,.m 2],.sl 5 .u8 b',.map 9 .str (.int .i64) M'])]
 | _,_,_=>False
def ajG:=((((iH.add Ba).add Kv).add Ks).add WS).add WR
abbrev R7 (y0:List bu) (y1):=List.drop (gg*(List.length (aK noTy y0 y1).2.2.2.2.1 / gg)) (aK noTy y0 y1).2.2.2.2.1
abbrev aeU (y0:List bu) (y1) (y2) (y3) (y4) (y5:_->Prop):=(List.length (aK noTy y0 y1).2.2.2.2.1<=9223372036854775807->∃ T fi b M,y2=jM [.cells 157 [Cl.de (.int .u32) T ah bD,.k (aC fi),.o 1,Cl.m bn],.sl 5 Ty.u8 b,kO M]/\((List.length T=bK/\List.length (aK noTy y0 y1).2.2.2.2.1<=4096/\DW fi b M)/\(0<=fi/\fi<=1000000)/\List.length b<=10000000/\List.length M<=100000)/\∀ (st:Int) (b':List UInt8) (M':List (ByteArray×Int)),DW fi b' M'->(∃ c,b'=b++c)->zk T fi b' st (aK noTy y0 y1).2.2.2.2.1->List.length b'<=List.length b+4320->List.length M'<=List.length M+1->aF .i64 st->aL (List.length (R7 y0 y1))->∃ row bg,y3=jM [.cells 213 [.o 1,.o 2],.sl 5 Ty.u8 row,.sl 3 bF bg]/\(AA row bg/\List.length row<=10000000/\List.length bg<=100000/\List.length (R7 y0 y1)< 128)/\∀ (nu off:Int) (lB:List UInt8) (zd:List Int),AA lB zd->oL lB zd nu off (R7 y0 y1)->(∀ (nu off:Int) (u:List UInt8),oL row bg nu off u->oL lB zd nu off u)->List.length lB<=List.length row+128->List.length zd<=List.length bg+1->aF .i64 nu->aF .i64 off->List.length y4< 9223372036854775807/\aF .i64 (y1+1)/\y5 ((y1+1,()),Kk.put Kk.int y4 (aK noTy y0 y1).2.1 (ah,ah,ah,ah,ah,ah,st,(↑(List.length (aK noTy y0 y1).2.2.2.2.1):Int),nu,off,ByteArray.mk #[],()),jM [.cells 157 [Cl.de (.int .u32) T ah bD,.k (aC fi),.o 1,Cl.m bn],.sl 5 Ty.u8 b',kO M'],jM [.cells 213 [.o 1,.o 2],.sl 5 Ty.u8 lB,.sl 3 bF zd],()))
abbrev O9 (y0) (y1:List bu) (y2) (y3:_->Prop) (y4) (y5) (y6):=Ty.ok eE (Cw y0 y1 y2)->br (Option.isSome (Kk.get Kk.int y0 (aK noTy y1 y2).2.1)) (cL y2 (y3 ((y2+1,()),y4))) (br ((aK noTy y1 y2).2.2.1 !=2) (cL y2 (y3 ((y2+1,()),y4))) (aeU y1 y2 y5 y6 y0 y3))
abbrev fU {A0:Type} (y0:List A0) (R:Prop):=List.length y0<=10000000/\R
abbrev sk (y0) (y1):=lO y0 y1 (bO y1)
def Bx (L:List bu) (ids:List Int) (A1 A2 A3:Value->Atom) (Mr:(List (Int×Int))) (F:(List (Int×eE.den))) (Ms:(List (ByteArray×Int))) (AW:Value->Atom):dE:=λQ=>List.length L<=9223372036854775807->bp (λi ag=>br (decide (i.1.1< (aE L))) (0<=i.1.1/\i.1.1< (aE L)/\(Ty.ok noTy (aK noTy L i.1.1)->(O9 i.2.1 L i.1.1 ag i.2 i.2.2.1 i.2.2.2.1)/\ 
 (O9 i.2.1 L i.1.1 ag i.2 i.2.2.1 i.2.2.2.1))) (∃ row bg,i.2.2.2.1=jM [.cells 213 [.o 1,.o 2],.sl 5 Ty.u8 row,.sl 3 bF bg]/\(AA row bg/\fU row (List.length bg<=100000))/\(aL (List.length (sk row bg))->aL 
 (List.length (sk row bg))->bp (λdu ag=>br (decide (du.1.1< (a7 (sk row bg)))) (0<=du.1.1/\du.1.1< (a7 (sk row bg))/\(Ty.ok bE (aK bE (sk row bg) du.1.1)->∃ T fi b M,du.2.1=jM [.cells 157 
 [Cl.de (.int .u32) T ah bD,.k (aC fi),.o 1,Cl.m bn],.sl 5 Ty.u8 b,kO M]/\dO T (List.length (aK bE (sk row bg) du.1.1)<=128/\(0<=fi/\fi<=1000000)/\iN b (∀ (z:List UInt8),DM T (aK bE (sk row 
 bg) du.1.1) z->aF .i64 (fi+(aE b))->(List.length du.1.2.1+List.length [fi+(aE b)])*8<=cw/\List.length du.1.2.1+List.length [fi+(aE b)]<=9223372036854775807/\cL du.1.1 (ag ((du.1.1+1,du.1.2.1++ [fi+ 
 (aE b)],()),jM (List.map (λl=>HO.fp (ic [bD,eZ,bn]) (lJ [.cells 157 [Cl.de (.int .u32) T ah bD,.k (aC fi),.o 3,Cl.m bn],.gone,kO M,.sl 5 Ty.u8 (b++z)] l)) [bD,eZ,bn]),())))))) (Q 
 (SV.v (S1.c (.o 8))) [wD L ids,HO.abs A1,HO.abs A2,HO.abs A3,wB Mr,wC i.2.1,kO Ms,HO.abs du.2.1,.sl 3 bF du.1.2.1])) ((ah,[],()),i.2.2.1,())))) ((ah,()),F,AW,jM (List.map (λl=>HO.fp (ic [bD, 
 bJ,bn]) (lJ [.cells 213 [.o 1,.o 2],.sl 5 Ty.u8 [],.sl 3 bF []] l)) [bD,bJ,bn]),())
theorem Um:cG 50 Hk:=by
 intro args H Q h;unfold Hk at h;split at h;rotate_left;cases h;rename_i L ids A1 A2 A3 Mr F Ms AW;refine Wp.lq [some (.sl (.int .i64))] [8] ?_;refine Wp.dJ ajG pg ⟨[(4,⟨[(22,.int .i64)],[(5,.map 3 .int eE),(7,.abs),(8,.abs)]⟩),(16,⟨[(74,.int .i64),(13,.own 3 (.int .i64))],[(7,.abs)]⟩)],[]⟩ Tryz.f50 (Bx L ids A1 A2 A3 Mr F Ms AW) ?_;unfold Bx sk iN fU O9 cL dO aeU R7 bO cw aC Cw ah a7 aE aL bD bJ gg bn bK eZ wD wC wB kO bE bF;obtain ⟨⟨hl,aoi,oS,hF0⟩,T,fi,rfl,hT,⟨f0,f1⟩,h⟩:=h;obtain rfl:=aJ hF0;clear hF0;refine λ_=>bp.intro (λi=>∃ (j:Nat) (b:List UInt8) (M:List (ByteArray×Int)) (row:List UInt8) (bg:List Int),j<=L.length/\i.1.1=(j:Int)/\i.2.2.1=jM [.cells 157 [.de (.int .u32) T 0 0,.k (.int .i64 fi),.o 1,.m 2],.sl 5 .u8 b,.map 9 .str (.int .i64) M]/\i.2.2.2.1=jM [.cells 213 [.o 1,.o 2],.sl 5 .u8 row,.sl 3 (.int .i64) bg]/\rQ (L.take j) T fi b row bg i.2.1/\DW fi b M/\AA row bg/\b.length<=4320*j/\M.length<=j/\row.length<=128*j/\bg.length<=j) (λi=>L.length - i.1.1.toNat) ⟨0,[],[],[],[],cq _,rfl,rfl,rfl,rQ.nil,⟨λp hp=>by cases hp⟩,AA.nil,ay _,ay _,ay _,ay _⟩ ?_;rintro ⟨⟨i,_⟩,F,AW,AT,_⟩ ⟨j,b,M,row,bg,hj,h1,h2,h3,h4,h5,h6,h7,h8,h9,h10⟩;simp only at h1 h2 h3 h4 ⊢;subst h1 h2 h3
 try dsimp only
 refine aw (λhc=>?_) (λhc=>?_)
 .have um:(j:Int)< L.length:=of_decide_eq_true hc;have uH:j< L.length:=by omega
  have ek:aK noTy L (j:Int)=L[j]:=gU (e:=noTy) uH;have ht:L.take (j+1)=L.take j++ [L[j]]:=bU uH;have hx:=aoi _ (dw uH);have ho:∀ y∈L.take j,y.2.1=(L[j]'uH).2.1->y.2.2=(L[j]'uH).2.2:=λy hy e=>oS y (List.mem_of_mem_take hy) _ (dw uH) e;have hFl:=h4.len;rw [aA] at hFl;rw [ek];generalize L[j]=x at ek ht hx ho ⊢;refine ⟨by omega,um,λ_=>both λ_=>aw (λhg=>?_) (λhg=>aw (λhk=>?_) (λhk=>λ_=>?_))⟩;exact ⟨by unfold aF;omega,⟨j+1,b,M,row,bg,uH,by omega,rfl,rfl,by rw [ht];exact h4.skip ho (.inr (by intro e;rw [e] at hg;cases hg)),h5,h6,by omega,by omega,by omega,by omega⟩,by omega⟩;exact ⟨by unfold aF;omega,⟨j+1,b,M,row,bg,uH,by omega,rfl,rfl,by rw [ht];exact h4.skip ho (.inl (by simpa using hk)),h5,h6,by omega,by omega,by omega,by omega⟩,by omega⟩
  .have hn:Kk.get .int F x.2.1=none:=by simpa using hg
   have qP:x.2.2.1=2:=by simpa using hk
   have hdl:(x.2.2.2.2.1.drop (128*(x.2.2.2.2.1.length / 128))).length< 128:=by rw [aN];omega
   exact ⟨T,fi,b,M,rfl,⟨⟨hT,hx,h5⟩,⟨f0,f1⟩,by omega,by omega⟩,λst b' M' d1 d2 d3 d4 d5 _ _=>⟨row,bg,rfl,⟨h6,by omega,by omega,hdl⟩,λnu off lB zd t1 t2 t3 t4 t5 _ _=>⟨by omega,by unfold aF;omega,⟨j+1,b',M',lB,zd,uH,by omega,rfl,rfl,by rw [ht];exact h4.put hn qP d2 d3 t2 t3,d1,t1,by omega,by omega,by omega,by omega⟩,by omega⟩⟩⟩
 .have hc:=of_decide_eq_false hc;obtain rfl:j=L.length:=by omega
  rw [eN] at h4;refine ⟨row,bg,rfl,⟨h6,by omega,by omega⟩,λ_ _=>?_⟩;have hbl:=qf row bg bg.length;have hbm:=VN h6;have Y5:=λF' b' M' pl=>h F' b' M' row bg pl;clear h;generalize lO row bg bg.length=B at*;refine bp.intro (λi=>∃ (q:Nat) (c:List UInt8),q<=B.length/\i.1.1=(q:Int)/\i.2.1=jM [.cells 157 [.de (.int .u32) T 0 0,.k (.int .i64 fi),.o 1,.m 2],.sl 5 .u8 (b++c),.map 9 .str (.int .i64) M]/\c.length<=135*q/\rF T fi (b++c) (B.take q) i.1.2.1) (λi=>B.length - i.1.1.toNat) ⟨0,[],cq _,rfl,by rw [aW],ay _,rF.nil⟩ ?_;rintro ⟨⟨i,pl,_⟩,AW,_⟩ ⟨q,c,hq,k1,k2,M6,k3⟩;simp only at k1 k2 k3 ⊢;subst k1 k2
  try dsimp only
  have Au:=k3.len;rw [aA,dK hq] at Au;refine aw (λhd=>?_) (λhd=>?_)
  .have hd1:(q:Int)< B.length:=of_decide_eq_true hd;have hq2:q< B.length:=by omega
   have ek:aK (.sl .u8) B (q:Int)=B[q]:=gU (e:=.sl .u8) hq2;have ht:B.take (q+1)=B.take q++ [B[q]]:=bU hq2;have hx:=hbm _ (dw hq2);rw [ek];generalize B[q]=x at ek ht hx ⊢;have hbc:(b++c).length<=180000:=by rw [af];omega
   refine ⟨by omega,hd1,λ_=>⟨T,fi,b++c,M,rfl,hT,hx.2,⟨f0,f1⟩,by omega,λz hz _=>⟨by simp only [aD];omega,by simp only [aD];omega,by unfold aF;omega,⟨q+1,c++z,hq2,by omega,by rw [<-aG];rfl,?_,?_⟩,by omega⟩⟩⟩
   .have:=hz.len;rw [af];omega
   .rw [ht,<-aG];exact k3.step hz
  .have hd:=of_decide_eq_false hd;obtain rfl:q=B.length:=by omega
   rw [eN] at k3;exact ⟨by show 8<=9;decide,Y5 F (b++c) M pl (h4.app c) h6 k3 (by rw [af];omega) (by omega)⟩
end Go.Proofs

namespace Go.Lm
open Go
structure IR where
 s:od.den
 b:List UInt8
 row:List UInt8
 bg:List Int
 pl:List Int
 ids:List Int
 F:List (Int×eE.den)
 t:BS
 fI:List (List UInt8)
 fL:List (List UInt8)
 fX:List (List UInt8)
 fP:List (List UInt8)
 fN:List (List UInt8)
def IR.im (d:IR) (T:List Int):List UInt8:=fF T d.s++(d.b++(d.fI.flatten++(d.fL.flatten++(d.fP.flatten++(d.fN.flatten++d.fX.flatten)))))
structure IR.Ok (d:IR) (T:List Int) (L:List bu):Prop where
 tok:ue L d.ids d.F
 root:∃ x∈L,x.1= []/\x.2.2.1=1/\Kk.get .int d.t.Mr x.2.1=some d.s.2.2.2.2.2.2.2.2.2.1
 ok:DP L d.ids d.F d.t 0
 all:∀ x∈L,∃ r,Kk.get .int d.t.Mr x.2.1=some r
 fl:rQ L T 64 d.b d.row d.bg d.F
 pk:AA d.row d.bg
 pls:rF T 64 d.b (lO d.row d.bg d.bg.length) d.pl
 rI:k7 T d.fI d.t.RI/\∃ g,d.fI=d.t.fI++g
 rL:k7 T d.fL d.t.RL/\∃ g,d.fL=d.t.fL++g
 rX:k7 T d.fX d.t.RX/\∃ g,d.fX=d.t.fX++g
 rP:k7 T d.fP (gv 4 d.pl)
 rN:k7 T d.fN (gv 2 d.ids)
 idr:∀ y∈d.ids,0<=y/\y< 65536
 sup:rD d.s
 sI: @Eq Int d.s.2.2.1 (64+(d.b.length:Int))
 sL: @Eq Int d.s.2.2.2.1 (d.s.2.2.1+(d.fI.flatten.length:Int))
 sP: @Eq Int d.s.2.2.2.2.1 (d.s.2.2.2.1+(d.fL.flatten.length:Int))
 sN: @Eq Int d.s.2.2.2.2.2.1 (d.s.2.2.2.2.1+(d.fP.flatten.length:Int))
 sX: @Eq Int d.s.2.2.2.2.2.2.1 (d.s.2.2.2.2.2.1+(d.fN.flatten.length:Int))
 sZ: @Eq Int d.s.1 (d.s.2.2.2.2.2.2.1+(d.fX.flatten.length:Int))
 sn: @Eq Int d.s.2.1 ((d.t.Mr.length:Int))
 si: @Eq Int d.s.2.2.2.2.2.2.2.1 ((d.ids.length:Int))
 sf: @Eq Int d.s.2.2.2.2.2.2.2.2.1 ((d.pl.length:Int))
structure TU (im:List UInt8) (L:List bu):Prop where
 ex:∃ d:IR,d.Ok dD L/\im=d.im dD
theorem k7.Zf {T:List Int} {fs:List (List UInt8)} {R:List UInt8} (h:k7 T fs R):fs.flatten.length<=135*fs.length:=by
 have key:∀ n:Nat,n<=fs.length->fy fs n<=135*n:=by
  intro n
  induction n with
  | zero=>intro _;exact ay _
  | succ n ih=>
   intro hn;have:=ih (by omega);have hf:=(h.fr n fs[n] (ak (by omega))).len;have hb:((R.drop (128*n)).take 128).length<=128:=by rw [aA];omega
   rw [nW (by omega)];omega
 have:=key fs.length (ay _);rw [qg] at this;exact this
structure Hr (l:List bu):Prop where
 nm:∀ x∈l,∀ s∈x.1,dA s=0
 deep:∀ x∈l,x.1.length<=16
 tw:l.Pairwise λa b=>a.1≠b.1
 root:∃ x∈l,x.1= []/\x.2.2.1=1
 par:∀ x∈l,x.1.length≠0->∃ y∈l,y.2.2.1=1/\y.1=x.1.take (x.1.length - 1)
 may:∀ x∈l,iR x=true
 one:l.Pairwise λa b=>a.2.1=b.2.1->b.2.2.1≠1/\b.2.2=a.2.2
theorem lj {x:bu} (h:iR x=true):x.2.2.2.2.2.2.2.1=false/\(x.2.2.1=1\/x.2.2.1=2\/x.2.2.1=3):=by
 unfold iR at h;split at h
 .rename_i q;simp only [ao,bY] at h;exact ⟨h.1.1.2,.inl q⟩
 .split at h
  .rename_i q;simp only [ao,bY] at h;exact ⟨h.1.1.2,.inr (.inl q)⟩
  .split at h
   .rename_i q;simp only [ao,bY] at h;exact ⟨h.1.1.2,.inr (.inr q)⟩
   .cases h
theorem U3 {x:bu} (h:iR x=true):Pr x=true:=by
 obtain ⟨h1,h2⟩:=lj h;unfold Pr;rw [if_neg (by rcases h2 with q| q| q<;>rw [q]<;>decide)];have e:(if x.2.2.1=1 then false else x.2.2.2.2.2.2.2.1)=x.2.2.2.2.2.2.2.1:=by
  split;exact h1.symm;rfl
 rw [e];exact h
theorem Hr.alG {l L:List bu} (g:Hr l) (hp:L.Perm l) (ho:L.Pairwise λx y=>¬cmpL y.1 x.1< 0):TV L:=by
 have tw:L.Pairwise λa b=>a.1≠b.1:=hp.symm.pairwise g.tw (λh=>Ne.symm h);refine ⟨λx hx=>g.nm x (hp.mem_iff.1 hx),Uu ho tw,?_,λx hx e=>?_,λx hx h0=>?_,λx hx=>U3 (g.may x (hp.mem_iff.1 hx)),?_⟩
 .obtain ⟨x,hx,e,_⟩:=g.root;exact ⟨x,hp.mem_iff.2 hx,e⟩
 .obtain ⟨y,hy,e1,e2⟩:=g.root;have:=Yr tw hx (hp.mem_iff.2 hy) (e.trans e1.symm);rw [this];exact e2
 .obtain ⟨y,hy,e⟩:=g.par x (hp.mem_iff.1 hx) h0;exact ⟨y,hp.mem_iff.2 hy,e⟩
 .have h4:L.Pairwise λa b=>a.2.1=b.2.1->b.2.2.1≠1/\b.2.2=a.2.2:=hp.symm.pairwise g.one (λ{a b} h e=>by
   obtain ⟨h1,h2⟩:=h e.symm;rw [h2] at h1;exact ⟨h1,h2.symm⟩)
  refine h4.imp_of_mem λ{a b} _ hb h e=>⟨(h e).1,?_,(h e).2⟩;rcases (lj (g.may b (hp.mem_iff.1 hb))).2 with q| q| q<;>rw [q]<;>decide
structure uP (N:List bu):Prop where
 nm:∀ x∈N,∀ s∈x.1,dA s=0
 ord:N.Pairwise λa b=>cmpL a.1 b.1< 0
 deep:∀ x∈N,x.1.length<=16
 par:∀ x∈N,x.1.length≠0->∃ y∈N,y.2.2.1=1/\y.1=x.1.take (x.1.length - 1)
 may:∀ x∈N,iR x=true
 one:∀ x∈N,∀ y∈N,x.2.1=y.2.1->(x.2.2.1=1->x=y)/\x.2.2=y.2.2
 ino:∀ x∈N,1<=x.2.1/\x.2.1<=(N.length:Int)
 pos:0< N.length
 root:(aK noTy N 0).1= []/\(aK noTy N 0).2.2.1=1/\(aK noTy N 0).2.1=1
 isB:∃ Y,IsB Y N
theorem Pn:∀ (L:List bu) {m:List (Int×Int)},(∀ i z,Kk.get .int m i=some z->z<=(m.length:Int))->∀ i z,Kk.get .int (jE L m) i=some z->z<=((jE L m).length:Int)
 | [],_,h,i,z,hz=>h i z hz
 | x::L,m,h,i,z,hz=>by
  cases hg:Kk.get .int m x.2.1 with
  | some k=>rw [jc hg] at hz ⊢;exact Pn L h i z hz
  | none=>
   rw [jd hg] at hz ⊢;refine Pn L (λj y hy=>?_) i z hz;have e:((Kk.put .int m x.2.1 ((m.length:Int)+1):List (Int×Int)).length:Int)=(m.length:Int)+1:=by rw [pw (k:=.int) hg];rfl
   rw [e];by_cases hj:j=x.2.1
   .rw [hj,gh] at hy;obtain rfl:=aj hy;exact bz _
   .rw [jI (k:=.int) hj] at hy;have:=h j y hy;omega
theorem adg {x:bu} (p:List ByteArray) (i:Int):iR (p,i,x.2.2)=iR x:=rfl
theorem Lx {l L:List bu} (g:Hr l) (hp:L.Perm l) (ho:L.Pairwise λx y=>¬cmpL y.1 x.1< 0):uP (db L []):=by
 have gT:=g.alG hp ho;have hB:=Zg 0 0 gT;have ord:(db L []).Pairwise λa b=>cmpL a.1 b.1< 0:=ada gT.ord;have mem:∀ c∈db L [],∃ x∈l,x.1=c.1/\x.2.2=c.2.2:=λc hc=>by
  obtain ⟨x,hx,q⟩:=IU hc;exact ⟨x,hp.mem_iff.1 hx,q⟩
 have hlen:=jS L [];have sO:0< (db L []).length:=by
  obtain ⟨c,hc,_⟩:=hB.has;exact List.length_pos_of_mem hc
 have GF:∀ c∈db L [],iR c=true:=λc hc=>by
  obtain ⟨x,hx,e1,e2⟩:=mem c hc;have:=g.may x hx;rw [<-adg x.1 x.2.1,e2] at this;exact this
 have an3:∀ x∈db L [],1<=x.2.1/\x.2.1<=((db L []).length:Int):=λx hx=>by
  obtain ⟨j,hj,rfl⟩:=dR.1 hx;have hk:=AI L [] j (by rw [<-hlen];exact hj);have h1:=IT L (m:=[]) (λi z q=>by cases q) _ _ hk;have h2:=Pn L (m:=[]) (λi z q=>by cases q) _ _ hk;have h3:=wH L [];simp only [aM] at h3;exact ⟨h1,by omega⟩
 refine ⟨λx hx=>?_,ord,λx hx=>?_,λx hx h0=>?_,GF,λx hx y hy e=>?_,an3,sO,?_,⟨_,hB⟩⟩
 .obtain ⟨y,hy,e,_⟩:=mem x hx;rw [<-e];exact g.nm y hy
 .obtain ⟨y,hy,e,_⟩:=mem x hx;rw [<-e];exact g.deep y hy
 .obtain ⟨y,hy,hk,s,e⟩:=hB.par x hx (by intro q;rw [q] at h0;exact h0 rfl);exact ⟨y,hy,hk,by rw [e];simp⟩
 .have h1:=hB.get x hx;have h2:=hB.get y hy;rw [e,h2] at h1;have h3:=aj h1;have ox:=(lj (GF x hx)).1;have oy:=(lj (GF y hy)).1;refine ⟨λhk=>(hB.Zp x hx y hy (.inl hk) e.symm).symm,?_⟩;obtain ⟨x1,x2,x3,x4,x5,x6,x7,x8,x9⟩:=x;obtain ⟨y1,y2,y3,y4,y5,y6,y7,y8,y9⟩:=y;simp only at ox oy;subst ox oy;unfold bu.bare at h3;simp only [Prod.mk.injEq] at h3 ⊢;simp_all
 .have hr:(aK noTy (db L []) 0).1= []:=by
   obtain ⟨c,hc,e⟩:=hB.has;obtain ⟨j,hj,rfl⟩:=dR.1 hc;have e0:aK noTy (db L []) 0=(db L [])[0]:=gU (e:=noTy) (k:=0) sO;rw [e0];rcases Nat.eq_zero_or_pos j with q| q;subst q;exact e
   .have:=dj.1 ord 0 j sO hj q;rw [e] at this;exact absurd this (Dc _)
  have hm:aK noTy (db L []) 0∈db L []:=uF (e:=noTy) (bz 0) (by omega);refine ⟨hr,?_,hB.root _ hm hr⟩;obtain ⟨x,hx,e1,e2⟩:=IU hm;rw [<-e2];exact gT.aeS x hx (by rw [e1,hr])
theorem CF {m u g:Int} (h:D9 m u g=true):(0<=u/\u<=65535)/\0<=g/\g<=65535:=by
 unfold D9 iM at h;simp only [ao,decide_eq_true_eq] at h;omega
theorem ov {x:bu} (h:iR x=true):((0<=uS x/\uS x<=65535)/\0<=yN x/\yN x<=65535)/\x.2.2.2.2.1.length<=4096:=by
 unfold iR at h;split at h
 .simp only [ao,beq_iff_eq] at h;exact ⟨CF h.1.2,by omega⟩
 .split at h
  .simp only [ao,decide_eq_true_eq] at h;exact ⟨CF h.1.2,by omega⟩
  .split at h
   .simp only [ao,beq_iff_eq] at h;exact ⟨CF h.1.2,by omega⟩
   .cases h
theorem ahX {N:List bu} {ys:List Int} (g:uP N) (h:Ob N ys):∀ y∈ys,0<=y/\y< 65536:=λy hy=>by
 obtain ⟨n,hn,q⟩:=(h.mem y).1 hy;have:=(ov (g.may n hn)).1;rcases q with rfl| rfl<;>omega
theorem ahp {N:List bu} {ys:List Int} {F:List (Int×eE.den)} {T:List Int} {b row:List UInt8} {bg:List Int} (g:uP N) (hl:N.length<=40) (hi:Ob N ys) (hF:rQ N T 64 b row bg F) (hP:AA row bg) (hb:b.length<=180000) (hg:bg.length<=40):ue N ys F:=by
 refine ⟨hl,g.ord,g.nm,g.deep,g.par,g.may,g.one,λx hx=>by have:=g.ino x hx;omega,λx hx=>⟨?_,?_⟩,by have:=hi.len;omega,hi.V7,λx hx hk=>?_,λx hx hk=>?_⟩;exact List.mem_iff_getElem?.1 ((hi.mem _).2 ⟨x,hx,.inl rfl⟩);exact List.mem_iff_getElem?.1 ((hi.mem _).2 ⟨x,hx,.inr rfl⟩)
 .obtain ⟨st,fr,off,h1,h2,h3⟩:=hF.file x hx hk;have hx4:=(ov (g.may x hx)).2;have htl:(x.2.2.2.2.1.drop (128*(x.2.2.2.2.1.length / 128))).length=x.2.2.2.2.1.length % 128:=by rw [aN];omega
  refine ⟨st,fr,off,h1,?_,⟨by omega,by omega⟩,?_,?_,?_⟩
  .rcases h2.or with ⟨_,rfl⟩| ⟨_,o,rfl,q⟩
   .decide
   .obtain ⟨_,_,_,_,_,q⟩:=q.ex;omega
  .rcases h3.or with ⟨_,rfl,_⟩| ⟨_,_,_,i,a,rfl,q,_⟩
   .decide
   .have:=(au.1 q).1;omega
  .rcases h3.or with ⟨_,_,rfl⟩| ⟨q1,_,q2,i,a,_,q,q3,_⟩
   .decide
   .have:=hP.all i a q;omega
  .rcases h3.or with ⟨q0,rfl,rfl⟩| ⟨q1,_,q2,i,a,rfl,q,q3,_⟩
   .rw [q0] at htl;simp only [aM] at htl;omega
   .omega
 .cases hq:Kk.get .int F x.2.1 with
  | none=>rfl
  | some r=>
   obtain ⟨y,hy,e,hyk⟩:=hF.no _ _ hq;have:=(g.one x hx y hy e.symm).2;rw [<-this] at hyk;exact absurd hyk hk
theorem DP.nil (L:List bu) (ids:List Int) (F:List (Int×eE.den)):DP L ids F ⟨[],[],[],[],[],[],[],[]⟩ 0:=⟨λi r q=>(by cases q),⟨λp hp=>(by cases hp)⟩,λi j r q=>(by cases q),⟨[],List.nodup_nil,λv hv=>(by cases hv),rfl⟩,ay _,ay _,ay _,List.nodup_nil⟩
theorem X9 {T:List Int} {b:List UInt8} {bs:List (List UInt8)} {pl:List Int} (h:rF T 64 b bs pl) (hb:b.length<=2000000):∀ x∈pl,0<=x/\x< 4294967296:=λx hx=>by
 obtain ⟨i,hi⟩:=List.mem_iff_getElem?.1 hx;have hl:=(au.1 hi).1;rw [h.len] at hl;obtain ⟨o,z,r,e,_,_,q⟩:=h.ats i x _ hi (ak hl);omega
theorem P8 (T:List Int) (s:od.den) (x:List UInt8):lW (av 64 (0:Ty.den Ty.u8)++x) 0 (fF T s)=fF T s++x:=by
 have h:=lY T s;unfold lW;rw [List.take_zero,dQ,aT (by rw [h,af,aS];omega),h];have e:(av 64 (0:Ty.den Ty.u8)++x).length - 0=64+x.length:=by rw [af,aS];rfl
 rw [e,dK (by omega),show (0:Nat)+64=(av 64 (0:Ty.den Ty.u8)).length by rw [aS],eV]
theorem ahW {N:List bu} {b row:List UInt8} {bg pl ids:List Int} {F:List (Int×eE.den)} {t:BS} {fI fL fX fP fN:List (List UInt8)} {q1 q2 q3 q4 q5:List UInt8} {r:Int} (e1:fI.flatten=q1) (e2:fL.flatten=q2) (e3:fP.flatten=q3) (e4:fN.flatten=q4) (e5:fX.flatten=q5) (tok:ue N ids F) (root:∃ x∈N,x.1= []/\x.2.2.1=1/\Kk.get .int t.Mr x.2.1=some r) (ok:DP N ids F t 0) (all:∀ x∈N,∃ r,Kk.get .int t.Mr x.2.1=some r) (fl:rQ N dD 64 b row bg F) (pk:AA row bg) (pls:rF dD 64 b (lO row bg bg.length) pl) (rI:k7 dD fI t.RI/\∃ g,fI=t.fI++g) (rL:k7 dD fL t.RL/\∃ g,fL=t.fL++g) (rX:k7 dD fX t.RX/\∃ g,fX=t.fX++g) (rP:k7 dD fP (gv 4 pl)) (rN:k7 dD fN (gv 2 ids)) (idr:∀ y∈ids,0<=y/\y< 65536) (hS:rD ((((av 64 (0:Ty.den Ty.u8)++b++q1++q2++q3++q4++q5).length:Nat):Int),((t.Mr.length:Nat):Int),(((av 64 (0:Ty.den Ty.u8)++b).length:Nat):Int),(((av 64 (0:Ty.den Ty.u8)++b++q1).length:Nat):Int),(((av 64 (0:Ty.den Ty.u8)++b++q1++q2).length:Nat):Int),(((av 64 (0:Ty.den Ty.u8)++b++q1++q2++q3).length:Nat):Int),(((av 64 (0:Ty.den Ty.u8)++b++q1++q2++q3++q4).length:Nat):Int),((ids.length:Nat):Int),((pl.length:Nat):Int),r,())):TU (lW (av 64 (0:Ty.den Ty.u8)++b++q1++q2++q3++q4++q5) 0 (fF dD ((((av 64 (0:Ty.den Ty.u8)++b++q1++q2++q3++q4++q5).length:Nat):Int),((t.Mr.length:Nat):Int),(((av 64 (0:Ty.den Ty.u8)++b).length:Nat):Int),(((av 64 (0:Ty.den Ty.u8)++b++q1).length:Nat):Int),(((av 64 (0:Ty.den Ty.u8)++b++q1++q2).length:Nat):Int),(((av 64 (0:Ty.den Ty.u8)++b++q1++q2++q3).length:Nat):Int),(((av 64 (0:Ty.den Ty.u8)++b++q1++q2++q3++q4).length:Nat):Int),((ids.length:Nat):Int),((pl.length:Nat):Int),r,()))) N:=by
 refine ⟨⟨((((av 64 (0:Ty.den Ty.u8)++b++q1++q2++q3++q4++q5).length:Nat):Int),((t.Mr.length:Nat):Int),(((av 64 (0:Ty.den Ty.u8)++b).length:Nat):Int),(((av 64 (0:Ty.den Ty.u8)++b++q1).length:Nat):Int),(((av 64 (0:Ty.den Ty.u8)++b++q1++q2).length:Nat):Int),(((av 64 (0:Ty.den Ty.u8)++b++q1++q2++q3).length:Nat):Int),(((av 64 (0:Ty.den Ty.u8)++b++q1++q2++q3++q4).length:Nat):Int),((ids.length:Nat):Int),((pl.length:Nat):Int),r,()),b,row,bg,pl,ids,F,t,fI,fL,fX,fP,fN⟩,⟨tok,root,ok,all,fl,pk,pls,rI,rL,rX,rP,rN,idr,hS,?_,?_,?_,?_,?_,?_,rfl,rfl,rfl⟩,?_⟩
 .show (((av 64 (0:Ty.den Ty.u8)++b).length:Nat):Int)=_;rw [af,aS];rfl
 .show (((av 64 (0:Ty.den Ty.u8)++b++q1).length:Nat):Int)=(((av 64 (0:Ty.den Ty.u8)++b).length:Nat):Int)+(fI.flatten.length:Int);rw [e1,af (bs:=q1)];rfl
 .show (((av 64 (0:Ty.den Ty.u8)++b++q1++q2).length:Nat):Int)=(((av 64 (0:Ty.den Ty.u8)++b++q1).length:Nat):Int)+(fL.flatten.length:Int);rw [e2,af (bs:=q2)];rfl
 .show (((av 64 (0:Ty.den Ty.u8)++b++q1++q2++q3).length:Nat):Int)=(((av 64 (0:Ty.den Ty.u8)++b++q1++q2).length:Nat):Int)+(fP.flatten.length:Int);rw [e3,af (bs:=q3)];rfl
 .show (((av 64 (0:Ty.den Ty.u8)++b++q1++q2++q3++q4).length:Nat):Int)=(((av 64 (0:Ty.den Ty.u8)++b++q1++q2++q3).length:Nat):Int)+(fN.flatten.length:Int);rw [e4,af (bs:=q4)];rfl
 .show (((av 64 (0:Ty.den Ty.u8)++b++q1++q2++q3++q4++q5).length:Nat):Int)=(((av 64 (0:Ty.den Ty.u8)++b++q1++q2++q3++q4).length:Nat):Int)+(fX.flatten.length:Int);rw [e5,af (bs:=q5)];rfl
 .unfold IR.im;rw [show (av 64 (0:Ty.den Ty.u8)++b++q1++q2++q3++q4++q5)=av 64 (0:Ty.den Ty.u8)++(b++(q1++(q2++(q3++(q4++q5))))) by simp only [aG],P8,<-e1,<-e2,<-e3,<-e4,<-e5]
end Go.Lm

namespace Go.Proofs
open Go Go.Lm Go.RowKit
set_option maxRecDepth 1000000
theorem SS {a b:List UInt8}:SU a b=true↔a=b:=by
 unfold SU;rw [jQ];constructor
 .intro h;have h1:(fD a).data.toList=(fD b).data.toList:=by rw [h]
  simpa [fD] using h1
 .intro h;rw [h]
theorem Qu {x y:xt}:tf x y=true↔x=y:=by
 obtain ⟨a,b,u⟩:=x;obtain ⟨c,d,v⟩:=y;unfold tf;rw [ao,jQ,SS];simp
theorem Af:∀ {a b:List xt},iV a b=true↔a=b
 | [],[]=>by simp [iV]
 | [],_::_=>by simp [iV]
 | _::_,[]=>by simp [iV]
 | x::a,y::b=>by
  unfold iV;rw [ao,Qu,Af];simp
theorem DE {x y:bu}:rh x y=true↔x.2.2=y.2.2:=by
 obtain ⟨p,i,k,⟨m,u,g,u1⟩,d,t,xs,o,u2⟩:=x;obtain ⟨p',i',k',⟨m',u',g',u1'⟩,d',t',xs',o',u2'⟩:=y;unfold rh;simp only [ao,jQ,SS,Af,beq_iff_eq,Bool.and_true,Prod.mk.injEq];constructor
 .rintro ⟨h1,⟨h2,h3,h4⟩,h5,h6,h7,h8⟩;exact ⟨h1,⟨h2,h3,h4,trivial⟩,h7,h5,h8,h6,trivial⟩
 .rintro ⟨h1,⟨h2,h3,h4,_⟩,h7,h5,h8,h6,_⟩;exact ⟨h1,⟨h2,h3,h4⟩,h5,h6,h7,h8⟩
theorem pI:∀ {a b:List ByteArray},iX a b=true↔a=b
 | [],[]=>by simp [iX]
 | [],_::_=>by simp [iX]
 | _::_,[]=>by simp [iX]
 | x::a,y::b=>by
  unfold iX;rw [ao,jQ,pI];simp
theorem pY {k:Kk} {α:Type} {l:List (k.den×α)} {x:k.den} {v:α}:Kk.get k (Kk.put k l x v) x=some v:=by
 unfold Kk.get Kk.put iC qL;simp
theorem wQ {k:Kk} {α:Type} {l:List (k.den×α)} {x y:k.den} {v:α} (h:y≠x):Kk.get k (Kk.put k l x v) y=Kk.get k l y:=by
 unfold Kk.get Kk.put iC qL mF;have h':¬x=y:=λe=>h e.symm;rw [List.find?_cons];simp only [h',decide_false,List.find?_filter];congr 2;funext p;by_cases h2:p.1=y;simp [h2,h];simp [h2]
theorem Vh (x:bu):Ed x.1 x=true:=by unfold Ed;exact pI.2 rfl
def wF (l:List bu):Prop:=∀ x∈l,∀ s∈x.1,dA s=0
theorem Gx {p q:List ByteArray} (hp:∀ s∈p,dA s=0) (hq:∀ s∈q,dA s=0) (h:pZ p=pZ q):p=q:=by
 have e:=Go.LmN.YL (p:=p) (q:=q) (λs hs=>by rw [uR];exact hp s hs) (λs hs=>by rw [uR];exact hq s hs);rw [show Go.LmN.jr p=Go.LmN.jr q from h,beq_self_eq_true,Go.LmN.xN] at e;exact Go.LmN.YF.1 (of_decide_eq_true e.symm)
theorem vy:∀ {l:List bu} {m:List (ByteArray×bu)},wF l->((nA l m).isSome=true↔(l.Pairwise λa b=>a.1≠b.1)/\∀ x∈l,Kk.get .str m (pZ x.1)=none)
 | [],m,_=>by simp [nA]
 | x::r,m,ok=>by
  have okr:wF r:=λy hy=>ok y (aH _ hy);unfold nA;cases hg:Kk.get .str m (pZ x.1) with
  | some o=>
   rw [if_pos (show (some o).isSome=true from rfl)];constructor;intro h;cases h
   .rintro ⟨_,h⟩;have:=h x aX;rw [hg] at this;cases this
  | none=>
   rw [if_neg (by simp),vy okr,jt];constructor
   .rintro ⟨h1,h2⟩;refine ⟨⟨λy hy e=>?_,h1⟩,λy hy=>?_⟩
    .have:=h2 y hy;rw [<-e,pY] at this;cases this
    .rcases bm.1 hy with rfl| hy
     .exact hg
     .have:=h2 y hy;by_cases e:pZ y.1=pZ x.1
      .rw [e,pY] at this;cases this
      .rwa [wQ (k:=.str) e] at this
   .rintro ⟨⟨h1,h2⟩,h3⟩;refine ⟨h2,λy hy=>?_⟩;rw [wQ (k:=.str) λe=>h1 y hy (Gx (ok x aX) (okr y hy) e.symm)];exact h3 y (aH _ hy)
theorem Gp:∀ {l:List bu} {m m':List (ByteArray×bu)},wF l->nA l m=some m'->∀ p:List ByteArray,(∀ s∈p,dA s=0)->Kk.get .str m' (pZ p)=match l.find? (Ed p) with
   | some x=>some x
   | none=>Kk.get .str m (pZ p)
 | [],m,m',_,h,p,_=>by
  obtain rfl:m=m':=aj h;rfl
 | x::r,m,m',ok,h,p,hp=>by
  have okr:wF r:=λy hy=>ok y (aH _ hy);have hs:=(vy ok).1 (by rw [h];rfl);unfold nA at h;split at h;cases h
  .rw [Gp okr h p hp,List.find?_cons];by_cases e:x.1=p
   .subst e;rw [Vh];have:r.find? (Ed x.1)=none:=by
     rw [ju];intro y hy hn;unfold Ed at hn;exact (jt.1 hs.1).1 y hy (pI.1 hn).symm
    rw [this];exact pY
   .have hn:Ed p x=false:=by
     unfold Ed;rw [<-Bool.not_eq_true,pI];exact e
    rw [hn];cases r.find? (Ed p) with
    | some y=>rfl
    | none=>exact wQ λq=>e (Gx (ok x aX) hp q.symm)
theorem vC:∀ {l:List bu} {m:List (Int×bu)},kT l m=0↔(l.Pairwise λa b=>a.2.1=b.2.1->b.2.2.1≠1/\b.2.2=a.2.2)/\∀ x∈l,∀ o,Kk.get .int m x.2.1=some o->x.2.2.1≠1/\x.2.2=o.2.2
 | [],m=>by simp [kT]
 | x::r,m=>by
  unfold kT;rw [jt];cases hg:Kk.get .int m x.2.1 with
  | none=>
   simp only;rw [vC (l:=r)];constructor
   .rintro ⟨h1,h2⟩;refine ⟨⟨λy hy e=>h2 y hy x (by rw [<-e];exact pY),h1⟩,λy hy o ho=>?_⟩;rcases bm.1 hy with rfl| hy
    .rw [hg] at ho;cases ho
    .by_cases e:y.2.1=x.2.1
     .rw [e,hg] at ho;cases ho
     .exact h2 y hy o (by rw [wQ (k:=.int) e];exact ho)
   .rintro ⟨⟨h1,h2⟩,h3⟩;refine ⟨h2,λy hy o ho=>?_⟩;by_cases e:y.2.1=x.2.1
    .rw [e,pY] at ho;obtain rfl:=aj ho;exact h1 y hy e.symm
    .rw [wQ (k:=.int) e] at ho;exact h3 y (aH _ hy) o ho
  | some o=>
   simp only;by_cases hb:(x.2.2.1==1|| !rh x o)=true
   .rw [if_pos hb];constructor
    .intro h;cases h
    .rintro ⟨_,h⟩;obtain ⟨h1,h2⟩:=h x aX o hg;rw [DE.2 h2] at hb;simp [h1] at hb
   .rw [if_neg hb,vC (l:=r)];simp only [lp,beq_iff_eq,bY,not_or,Bool.not_eq_false,DE] at hb;constructor
    .rintro ⟨h1,h2⟩;refine ⟨⟨λy hy e=>?_,h1⟩,λy hy o' ho=>?_⟩
     .obtain ⟨h3,h4⟩:=h2 y hy o (by rw [<-e];exact hg);exact ⟨h3,h4.trans hb.2.symm⟩
     .rcases bm.1 hy with rfl| hy
      .rw [hg] at ho;obtain rfl:=aj ho;exact hb
      .exact h2 y hy o' ho
    .rintro ⟨⟨_,h2⟩,h3⟩;exact ⟨h2,λy hy o' ho=>h3 y (aH _ hy) o' ho⟩
theorem MP {l:List bu} (h:j7 l=0) {p:List ByteArray} (hp:∀ s∈p,dA s=0) (hk:mi (fY l) p=1):∃ x∈l,x.1=p/\x.2.2.1=1:=by
 obtain ⟨hN,hD,hs⟩:=wK (l:=l) (by rw [h];rfl);have ok:wF l:=mA hN;cases hm:nA l [] with
 | none=>rw [hm] at hs;cases hs
 | some m=>
  have e:fY l=m:=by unfold fY;rw [hm];rfl
  have hg:=Gp ok hm p hp;rw [e] at hk;unfold mi at hk;rw [hg] at hk;cases hf:l.find? (Ed p) with
  | none=>rw [hf] at hk;exact absurd hk (show ¬((0:Int)=1) by decide)
  | some x=>
   rw [hf] at hk;have hn:=List.find?_some hf;unfold Ed at hn;exact ⟨x,pC hf,pI.1 hn,hk⟩
theorem Ly {l:List bu} (h:dH l=0):Hr l:=by
 obtain ⟨_,h2,h3,h4,h5,h6⟩:=Ny h;obtain ⟨hN,hD,hs⟩:=wK (l:=l) (by rw [h2];rfl);have ok:=mA hN;have tw:=((vy (m:=[]) ok).1 hs).1;refine ⟨ok,λx hx=>AN hD hx,tw,?_,λx hx h0=>?_,h5,(vC.1 h6).1⟩
 .obtain ⟨x,hx,e,k⟩:=MP h2 (p:=[]) (λs hs=>by cases hs) h3;exact ⟨x,hx,e,k⟩
 .have hq:(mi (fY l) (x.1.take (x.1.length - 1)) !=1)=false:=by
   unfold Mu at h4;have:=List.any_eq_false.1 h4 x hx;cases q:mi (fY l) (x.1.take (x.1.length - 1)) !=1 with
   | false=>rfl
   | true=>
    rw [q] at this;exact absurd (by simp;omega) this
  obtain ⟨y,hy,e,k⟩:=MP h2 (p:=x.1.take (x.1.length - 1)) (λs hs=>ok x hx s (List.take_subset _ _ hs)) (by simpa using hq);exact ⟨y,hy,k,e⟩
def aev:Ct:=cD (Ty.int .i64) λl=>cI λn=>cT λT=>c0 λQ=>T.length=256/\((n=2\/n=4)/\(∀ x∈l,0<=x/\x< 256 ^ n.toNat)/\l.length<=100000)/\∀ fs,k7 T fs (gv n.toNat l)->Q (.c (.d .u8 fs.flatten)) []
def ajF:=(((iH.add Ew).add AX).add vW).add Hz
abbrev xY (y0) (y1:List (List UInt8)):=List.length (ae (y0++y1))
def Ll (l:(List ((Ty.int .i64)).den)) (n:Int) (T:List Int):dE:=λQ=>hU l (aF .i64 n->dO T (∀ (A:Value->Atom),WB A T [] []->(n=di\/n=cC)/\(∀ (x:Ty.den bF),x∈l->(0:Ty.den bF)<=x/\x< (256:Ty.den bF) ^ ax n)/\List.length l<=100000/\(aL 
 (List.length (gv (aZ n) l))->aF .i64 0->∃ T R fs,WB A T R fs/\List.length R+List.length (gv (aZ n) l)<=10000000/\∀ (A':Value->Atom) (r:Nat) (fs':List (List UInt8)),WB A' T (R++gv (aZ n) l) (fs++fs')-> 
 (∀ (gs:List (List UInt8)),r=dU (fs++gs) (bO R))->aF .i64 (↑r:Int)->∃ T R fs,WB A' T R fs/\fU R (∀ (A':Value->Atom) (fs':List (List UInt8)),k7 T (fs++fs') R->aL (xY fs fs')->Q (SV.v (S1.c (Cl.d Ty.u8 
 (ae (fs++fs'))))) []))))
theorem acs:cG 52 aev:=fz<| lH λl=>nG λn=>okT λT=>iQ λQ h=>by
 refine Wp.dJ ajF pg ⟨[],[]⟩ Tryz.f52 (Ll l n T) (hold:=[47]) ?_;unfold Ll xY hU fU dO bO aZ di cC aL bK bF;obtain ⟨hT,⟨hn,hx,hl⟩,h⟩:=h;have hnl:=jR n.toNat l;have hb:(gv n.toNat l).length<=400000:=by
  rw [hnl];rcases hn with rfl| rfl
  .show 2*l.length<=_;omega
  .show 4*l.length<=_;omega
 refine λ_ _=>⟨hT,λA hA=>⟨hn,hx,hl,λ_ _=>⟨T,[],[],hA,by rw [aM];omega,λA' r fs' hA' hr _=>⟨T,_,_,hA',by rw [dQ];omega,λA'' fs'' hR _=>h _ hR⟩⟩⟩⟩
def Tf:Ct
 | [.v (.c cl)],[],Q=>(match (Ty.sl noTy).of [cl] with
  | some (l,[])=>(l.length:Int)<=1000/\dH l≠0/\Q (.cJ [.c (.d noTy []),.c (.k (.int .i64 (dH l)))]) []
  | _=>False)
 | _,_,_=>False
def Te:Ct
 | [.v (.c cl)],[],Q=>(match (Ty.sl noTy).of [cl] with
  | some (l,[])=>(l.length:Int)<=1000/\dH l=0/\∀ L':List bu,L'.Perm l->L'.Pairwise (λx y=>¬cmpL y.1 x.1< 0)->Q (.cJ [.c (.d noTy (db L' [])),.c (.k (.int .i64 0))]) []
  | _=>False)
 | _,_,_=>False
theorem abZ:cG 45 Tf:=λargs H Q h=>by
 unfold Tf at h;split at h
 .refine J8 _ _ _ ?_;unfold xj;split at h
  .rename_i hq;simp only [hq];exact ⟨h.1,by rw [show (dH _ !=0)=true by simpa using h.2.1];exact h.2.2⟩
  .cases h
 .cases h
theorem abY:cG 45 Te:=λargs H Q h=>by
 unfold Te at h;split at h
 .refine J8 _ _ _ ?_;unfold xj;split at h
  .rename_i hq;simp only [hq];exact ⟨h.1,by rw [show (dH _ !=0)=false by simpa using h.2.1];exact h.2.2⟩
  .cases h
 .cases h
def Dx:Ct
 | [.v (.c cl)],[],Q=>(match (Ty.sl noTy).of [cl] with
  | some (l,[])=>(l.length:Int)<=40/\dH l≠0/\Q (.cJ [.c (.d .u8 []),.c (.k (.int .i64 (dH l)))]) []
  | _=>False)
 | _,_,_=>False
def ajE:=iH.add abZ
def Fz (l:(List (noTy).den)):dE:=λQ=>gr l ((aE l)<=(1000:Int)/\dH l≠0/\(bD<=eW->aF .i64 (dH l)->br (dH l !=0) (Q (.cJ [.c dL,.c (.k (.int .i64 (dH l)))]) []) False))
theorem W5:cG 26 Dx:=by
 intro args H Q h;unfold Dx at h;split at h;rotate_left;cases h;rename_i cl;split at h;rotate_left;cases h;rename_i l hl;refine Wp.said (args':=[.c (.d noTy l)]) (λE g=>bC.cE (dI hl) (λ_ h=>h)) ?_;clear hl;refine Wp.lq [some (.sl .u8),none] [0] ?_;refine Wp.dJ ajE pg ⟨[],[]⟩ Tryz.f26 (Fz l) (unr:=[(15,7)]) ?_;unfold Fz gr eW dL aE bD;obtain ⟨hl,hc,h⟩:=h;refine λ_=>⟨by omega,hc,λ_ _=>aw (λ_=>⟨cq _,h⟩) (λq=>absurd (by simpa using q) hc)⟩
def Dw:Ct
 | [.v (.c cl)],[],Q=>(match (Ty.sl noTy).of [cl] with
  | some (l,[])=>(l.length:Int)<=40/\dH l=0/\∀ L' im,L'.Perm l->L'.Pairwise (λx y=>¬cmpL y.1 x.1< 0)->TU im (db L' [])->Q (.cJ [.c (.d .u8 im),.c (.k (.int .i64 0))]) []
  | _=>False)
 | _,_,_=>False
def ajD:=((((((((((iH.add AZ).add EG).add Kt).add aeK).add AX).add Hz).add Bb).add abY).add Um).add Uk).add acs
abbrev Im (R:Prop):=bK=bK/\bK=bK/\ah<=ah/\ah< (↑bK:Int)/\bK=bK/\R
abbrev Cc (y0:List bu):=aK noTy (db y0 []) ah
def Fy (l:(List (noTy).den)):dE:=λQ=>gr l ((aE l)<=(1000:Int)/\dH l=ah/\∀ (L':List bu),yg L' l (aL (List.length (db L' []))->aF .i64 0->bt (Im (∀ (A:Value->Atom),WB A dD [] []->ah<=ah/\ah< om/\ 
 bK=bK/\∀ (A_1:Value->Atom),WB A_1 dD [] []->ah<=ah/\ah< om/\bK=bK/\∀ (A_2:Value->Atom),WB A_2 dD [] []->List.length (db L' [])<=1100/\∀ (ys:List Int),Ob (db L' []) ys-> 
 aL (List.length ys)->ah<=ah/\ah< om/\(List.length (db L' [])<=40/\(∀ (x:Ty.den (noTy)),List.Mem x (db L' [])->List.length x.2.2.2.2.1<=4096)/\(∀ (x:Ty.den (noTy)),List.Mem x (db L' [])->∀ (y:Ty.den 
 (noTy)),List.Mem y (db L' [])->x.2.1=y.2.1->x.2.2=y.2.2)/\bD=bD)/\∃ T fi,jM (List.map (λl=>HO.fp (ic [bD,bn,bJ]) (lJ [.cells 157 [Cl.de (.int .u32) dD ah bD,.k (.int .i64 64),.o 2,Cl.m 
 bJ],kO [],.sl 5 Ty.u8 []] l)) [bD,bn,bJ])=jM [.cells 157 [Cl.de (.int .u32) T ah bD,.k (aC fi),.o 1,Cl.m bn],.sl 5 Ty.u8 [],kO []]/\dO T ((0<=fi/\fi<=1000000)/\∀ (F':List (Int×Ty.den 
 eE)) (b':List UInt8) (M':List (Kk.den Kk.str×Ty.den bF)) (row:List UInt8) (bg pl:List Int),rQ (db L' []) T fi b' row bg F'->AA row bg->rF T fi b' (lO row bg (List.length bg)) pl->List.length b'<=180000-> 
 List.length pl<=40->aL (List.length pl)->ue (db L' []) ys F'/\(ah<=ah/\ah< (a7 (db L' []))/\17<=List.length (Cc L').1+17)/\∃ T_1 s,Ws A A_1 A_2 T_1 s/\ []=s.Mr/\ []=s.Ms/\List.length s.Ms<= 
 List.length s.Mr/\DP (db L' []) ys F' s bD/\∀ (A1' A2' A3':Value->Atom) (t:BS) (r:Int),Ws A1' A2' A3' T_1 t->List.length t.Ms<=List.length t.Mr->Hu (db L' []) ys F' s t bD (Cc L').1 (List.length (Cc 
 L').1)->Kk.get Kk.int t.Mr (Cc L').2.1=some r->aF .i64 r->aL (bO t.Mr)->aL (List.length ys)->aL (List.length pl)->gl=gl/\ah<=gl/\gl<=(140737488355328:Int)/\∃ T_2 fi_1 b M,jM [.cells 157 
 [Cl.de (.int .u32) T ah bD,.k (aC fi),.o 1,Cl.m bn],.sl 5 Ty.u8 b',kO M']=jM [.cells 157 [Cl.de (.int .u32) T_2 ah bD,.k (aC fi_1),.o 1,Cl.m bn],.sl 5 Ty.u8 b,kO M]/\iN b (aL (bO b)->∃ T R 
 fs,WB A1' T R fs/\fU R (∀ (A':Value->Atom) (fs':List (List UInt8)),k7 T (fs++fs') R->aL (xY fs fs')->∃ T R bR,WB A2' T R bR/\fU R (∀ (A':Value->Atom) (bh:List (List UInt8)),k7 T (bR++bh) R 
 ->aL (xY bR bh)->ah<=ah/\ah< om/\bK=bK/\((cC=di\/cC=cC)/\(∀ (x:Ty.den bF),x∈pl->(0:Ty.den bF)<=x/\x< (256:Ty.den bF) ^ cU)/\List.length pl<=100000)/\∀ 
 (bT:List (List UInt8)),k7 dD bT (gv cU pl)->aL (List.length (ae bT))->ah<=ah/\ah< om/\bK=bK/\((di=di\/di=cC)/\(∀ (x:Ty.den bF),x∈ys->(0:Ty.den bF) 
 <=x/\x< (256:Ty.den bF) ^ bn)/\List.length ys<=100000)/\∀ (bS:List (List UInt8)),k7 dD bS (gv bn ys)->aL (List.length (ae bS))->∃ T R bQ,WB A3' T R bQ/\fU R (∀ (A':Value->Atom) 
 (bf:List (List UInt8)),k7 T (bQ++bf) R->aL (xY bQ bf)->zL<=eW/\ah<=ah/\ah< (↑zL:Int)/\ah<=ah/\ah< (↑(List.length [b,ae (fs++fs'),ae (bR++bh), 
 ae bT,ae bS,ae (bQ++bf)]):Int)/\ah<=ah/\ah< (↑(List.length [b,ae (fs++fs'),ae (bR++bh),ae bT,ae bS,ae (bQ++ 
 bf)]):Int)/\(Ty.ok bE (aK bE [b,ae (fs++fs'),ae (bR++bh),ae bT,ae bS,ae (bQ++bf)] ah)->(64+List.length (aK bE [b,ae (fs++fs'), 
 ae (bR++bh),ae bT,ae bS,ae (bQ++bf)] ah))*1<=cw/\64+List.length (aK bE [b,ae (fs++fs'),ae (bR++bh),ae bT,ae 
 bS,ae (bQ++bf)] ah)<=9223372036854775807/\(aL (List.length (av ee eA++aK bE [b,ae (fs++fs'),ae (bR++bh),ae bT,ae bS,ae 
 (bQ++bf)] ah))->aF .i64 dG/\ah<=ah+1/\ah+1< (↑zL:Int)/\ah<=ah+1/\ah+1< (↑(List.length [b,ae (fs++fs'),ae (bR++bh),ae bT,ae bS, 
 ae (bQ++bf)]):Int)/\ah<=ah+1/\ah+1< (↑(List.length [b,ae (fs++fs'),ae (bR++bh),ae bT,ae bS,ae (bQ++bf)]):Int)/\(Ty.ok bE 
 (aK bE [b,ae (fs++fs'),ae (bR++bh),ae bT,ae bS,ae (bQ++bf)] dG)->(List.length (av ee eA++aK bE [b,ae (fs++fs'), 
 ae (bR++bh),ae bT,ae bS,ae (bQ++bf)] ah)+List.length (aK bE [b,ae (fs++fs'),ae (bR++bh),ae bT,ae bS,ae 
 (bQ++bf)] dG))*1<=cw/\List.length (av ee eA++aK bE [b,ae (fs++fs'),ae (bR++bh),ae bT,ae bS,ae (bQ++bf)] ah)+List.length 
 (aK bE [b,ae (fs++fs'),ae (bR++bh),ae bT,ae bS,ae (bQ++bf)] dG)<=9223372036854775807/\(aL (List.length (av ee eA++aK bE [b, 
 ae (fs++fs'),ae (bR++bh),ae bT,ae bS,ae (bQ++bf)] ah++aK bE [b,ae (fs++fs'),ae (bR++bh),ae bT,ae bS, 
 ae (bQ++bf)] dG))->aF .i64 dP/\ah<=ah+1+1/\ah+1+1< (↑zL:Int)/\ah<=ah+1+1/\ah+1+1< (↑(List.length [b,ae (fs++fs'),ae (bR++bh), 
 ae bT,ae bS,ae (bQ++bf)]):Int)/\ah<=ah+1+1/\ah+1+1< (↑(List.length [b,ae (fs++fs'),ae (bR++bh),ae bT,ae bS, 
 ae (bQ++bf)]):Int)/\(Ty.ok bE (aK bE [b,ae (fs++fs'),ae (bR++bh),ae bT,ae bS,ae (bQ++bf)] dP)->(List.length (av ee eA 
 ++aK bE [b,ae (fs++fs'),ae (bR++bh),ae bT,ae bS,ae (bQ++bf)] ah++aK bE [b,ae (fs++fs'),ae (bR++bh),ae bT, 
 ae bS,ae (bQ++bf)] dG)+List.length (aK bE [b,ae (fs++fs'),ae (bR++bh),ae bT,ae bS,ae (bQ++bf)] dP))*1<=cw/\ 
 List.length (av ee eA++aK bE [b,ae (fs++fs'),ae (bR++bh),ae bT,ae bS,ae (bQ++bf)] ah++aK bE [b,ae (fs++fs'), 
 ae (bR++bh),ae bT,ae bS,ae (bQ++bf)] dG)+List.length (aK bE [b,ae (fs++fs'),ae (bR++bh),ae bT,ae bS,ae 
 (bQ++bf)] dP)<=9223372036854775807/\(aL (List.length (av ee eA++aK bE [b,ae (fs++fs'),ae (bR++bh),ae bT,ae bS,ae (bQ++bf)] 
 ah++aK bE [b,ae (fs++fs'),ae (bR++bh),ae bT,ae bS,ae (bQ++bf)] dG++aK bE [b,ae (fs++fs'),ae (bR++bh),ae 
 bT,ae bS,ae (bQ++bf)] dP))->aF .i64 dY/\ah<=ah+1+1+1/\ah+1+1+1< (↑zL:Int)/\ah<=ah+1+1+1/\ah+1+1+1< (↑(List.length [b,ae (fs++fs'), 
 ae (bR++bh),ae bT,ae bS,ae (bQ++bf)]):Int)/\ah<=ah+1+1+1/\ah+1+1+1< (↑(List.length [b,ae (fs++fs'),ae (bR++bh), 
 ae bT,ae bS,ae (bQ++bf)]):Int)/\(Ty.ok bE (aK bE [b,ae (fs++fs'),ae (bR++bh),ae bT,ae bS,ae (bQ++bf)] dY)-> 
 (List.length (av ee eA++aK bE [b,ae (fs++fs'),ae (bR++bh),ae bT,ae bS,ae (bQ++bf)] ah++aK bE [b,ae (fs++fs'), 
 ae (bR++bh),ae bT,ae bS,ae (bQ++bf)] dG++aK bE [b,ae (fs++fs'),ae (bR++bh),ae bT,ae bS,ae (bQ++ 
 bf)] dP)+List.length (aK bE [b,ae (fs++fs'),ae (bR++bh),ae bT,ae bS,ae (bQ++bf)] dY))*1<=cw/\List.length (av ee eA++aK 
 bE [b,ae (fs++fs'),ae (bR++bh),ae bT,ae bS,ae (bQ++bf)] ah++aK bE [b,ae (fs++fs'),ae (bR++bh),ae bT, 
 ae bS,ae (bQ++bf)] dG++aK bE [b,ae (fs++fs'),ae (bR++bh),ae bT,ae bS,ae (bQ++bf)] dP)+List.length (aK bE [b, 
 ae (fs++fs'),ae (bR++bh),ae bT,ae bS,ae (bQ++bf)] dY)<=9223372036854775807/\(aL (List.length (av ee eA++aK bE [b,ae (fs++ 
 fs'),ae (bR++bh),ae bT,ae bS,ae (bQ++bf)] ah++aK bE [b,ae (fs++fs'),ae (bR++bh),ae bT,ae bS,ae (bQ 
 ++bf)] dG++aK bE [b,ae (fs++fs'),ae (bR++bh),ae bT,ae bS,ae (bQ++bf)] dP++aK bE [b,ae (fs++fs'),ae (bR++bh), 
 ae bT,ae bS,ae (bQ++bf)] dY))->aF .i64 eX/\fS (ah+1+1+1+1< (↑zL:Int)/\fS (ah+1+1+1+1< (↑(List.length [b,ae (fs++fs'),ae (bR++ 
 bh),ae bT,ae bS,ae (bQ++bf)]):Int)/\fS (ah+1+1+1+1< (↑(List.length [b,ae (fs++fs'),ae (bR++bh),ae bT,ae bS, 
 ae (bQ++bf)]):Int)/\(Ty.ok bE (aK bE [b,ae (fs++fs'),ae (bR++bh),ae bT,ae bS,ae (bQ++bf)] eX)->(List.length (av ee eA 
 ++aK bE [b,ae (fs++fs'),ae (bR++bh),ae bT,ae bS,ae (bQ++bf)] ah++aK bE [b,ae (fs++fs'),ae (bR++bh),ae bT, 
 ae bS,ae (bQ++bf)] dG++aK bE [b,ae (fs++fs'),ae (bR++bh),ae bT,ae bS,ae (bQ++bf)] dP++aK bE [b,ae (fs++ 
 fs'),ae (bR++bh),ae bT,ae bS,ae (bQ++bf)] dY)+List.length (aK bE [b,ae (fs++fs'),ae (bR++bh),ae bT,ae bS, 
 ae (bQ++bf)] eX))*1<=cw/\List.length (av ee eA++aK bE [b,ae (fs++fs'),ae (bR++bh),ae bT,ae bS,ae (bQ++bf)] ah 
 ++aK bE [b,ae (fs++fs'),ae (bR++bh),ae bT,ae bS,ae (bQ++bf)] dG++aK bE [b,ae (fs++fs'),ae (bR++bh),ae bT, 
 ae bS,ae (bQ++bf)] dP++aK bE [b,ae (fs++fs'),ae (bR++bh),ae bT,ae bS,ae (bQ++bf)] dY)+List.length (aK bE [b, 
 ae (fs++fs'),ae (bR++bh),ae bT,ae bS,ae (bQ++bf)] eX)<=9223372036854775807/\(aL (List.length (av ee eA++aK bE [b,ae (fs++ 
 fs'),ae (bR++bh),ae bT,ae bS,ae (bQ++bf)] ah++aK bE [b,ae (fs++fs'),ae (bR++bh),ae bT,ae bS,ae (bQ 
 ++bf)] dG++aK bE [b,ae (fs++fs'),ae (bR++bh),ae bT,ae bS,ae (bQ++bf)] dP++aK bE [b,ae (fs++fs'),ae (bR++bh), 
 ae bT,ae bS,ae (bQ++bf)] dY++aK bE [b,ae (fs++fs'),ae (bR++bh),ae bT,ae bS,ae (bQ++bf)] eX))->aF .i64 fT/\ 
 ah<=ah+1+1+1+1+1/\ah+1+1+1+1+1< (↑zL:Int)/\ah<=ah+1+1+1+1+1/\ah+1+1+1+1+1< (↑(List.length [b,ae (fs++fs'),ae (bR++bh),ae bT, 
 ae bS,ae (bQ++bf)]):Int)/\ah<=ah+1+1+1+1+1/\ah+1+1+1+1+1< (↑(List.length [b,ae (fs++fs'),ae (bR++bh),ae bT,ae bS, 
 ae (bQ++bf)]):Int)/\(Ty.ok bE (aK bE [b,ae (fs++fs'),ae (bR++bh),ae bT,ae bS,ae (bQ++bf)] fT)->(List.length (av ee eA 
 ++aK bE [b,ae (fs++fs'),ae (bR++bh),ae bT,ae bS,ae (bQ++bf)] ah++aK bE [b,ae (fs++fs'),ae (bR++bh),ae bT, 
 ae bS,ae (bQ++bf)] dG++aK bE [b,ae (fs++fs'),ae (bR++bh),ae bT,ae bS,ae (bQ++bf)] dP++aK bE [b,ae (fs++ 
 fs'),ae (bR++bh),ae bT,ae bS,ae (bQ++bf)] dY++aK bE [b,ae (fs++fs'),ae (bR++bh),ae bT,ae bS,ae (bQ 
 ++bf)] eX)+List.length (aK bE [b,ae (fs++fs'),ae (bR++bh),ae bT,ae bS,ae (bQ++bf)] fT))*1<=cw/\List.length (av ee eA++aK 
 bE [b,ae (fs++fs'),ae (bR++bh),ae bT,ae bS,ae (bQ++bf)] ah++aK bE [b,ae (fs++fs'),ae (bR++bh),ae bT, 
 ae bS,ae (bQ++bf)] dG++aK bE [b,ae (fs++fs'),ae (bR++bh),ae bT,ae bS,ae (bQ++bf)] dP++aK bE [b,ae (fs++ 
 fs'),ae (bR++bh),ae bT,ae bS,ae (bQ++bf)] dY++aK bE [b,ae (fs++fs'),ae (bR++bh),ae bT,ae bS,ae (bQ 
 ++bf)] eX)+List.length (aK bE [b,ae (fs++fs'),ae (bR++bh),ae bT,ae bS,ae (bQ++bf)] fT)<=9223372036854775807/\(aL (List.length (av 
 ee eA++aK bE [b,ae (fs++fs'),ae (bR++bh),ae bT,ae bS,ae (bQ++bf)] ah++aK bE [b,ae (fs++fs'),ae (bR++bh), 
 ae bT,ae bS,ae (bQ++bf)] dG++aK bE [b,ae (fs++fs'),ae (bR++bh),ae bT,ae bS,ae (bQ++bf)] dP++aK bE [b, 
 ae (fs++fs'),ae (bR++bh),ae bT,ae bS,ae (bQ++bf)] dY++aK bE [b,ae (fs++fs'),ae (bR++bh),ae bT,ae bS, 
 ae (bQ++bf)] eX++aK bE [b,ae (fs++fs'),ae (bR++bh),ae bT,ae bS,ae (bQ++bf)] fT))->aF .i64 lg/\br (decide ((a7 (av 
 ee eA++aK bE [b,ae (fs++fs'),ae (bR++bh),ae bT,ae bS,ae (bQ++bf)] ah++aK bE [b,ae (fs++fs'),ae (bR++bh), 
 ae bT,ae bS,ae (bQ++bf)] dG++aK bE [b,ae (fs++fs'),ae (bR++bh),ae bT,ae bS,ae (bQ++bf)] dP++aK bE [b, 
 ae (fs++fs'),ae (bR++bh),ae bT,ae bS,ae (bQ++bf)] dY++aK bE [b,ae (fs++fs'),ae (bR++bh),ae bT,ae bS, 
 ae (bQ++bf)] eX++aK bE [b,ae (fs++fs'),ae (bR++bh),ae bT,ae bS,ae (bQ++bf)] fT))>(1048576:Int))) (sw Q) (ah<=ah/\ah< 
 om/\bK=bK/\rD ((a7 (av ee eA++aK bE [b,ae (fs++fs'),ae (bR++bh),ae bT,ae bS,ae (bQ++bf)] ah++aK bE [b, 
 ae (fs++fs'),ae (bR++bh),ae bT,ae bS,ae (bQ++bf)] dG++aK bE [b,ae (fs++fs'),ae (bR++bh),ae bT,ae bS, 
 ae (bQ++bf)] dP++aK bE [b,ae (fs++fs'),ae (bR++bh),ae bT,ae bS,ae (bQ++bf)] dY++aK bE [b,ae (fs++fs'),ae 
 (bR++bh),ae bT,ae bS,ae (bQ++bf)] eX++aK bE [b,ae (fs++fs'),ae (bR++bh),ae bT,ae bS,ae (bQ++bf)] fT)), 
 (a7 t.Mr),(a7 (av ee eA++aK bE [b,ae (fs++fs'),ae (bR++bh),ae bT,ae bS,ae (bQ++bf)] ah)),(a7 (av ee eA++aK 
 bE [b,ae (fs++fs'),ae (bR++bh),ae bT,ae bS,ae (bQ++bf)] ah++aK bE [b,ae (fs++fs'),ae (bR++bh),ae bT, 
 ae bS,ae (bQ++bf)] dG)),(a7 (av ee eA++aK bE [b,ae (fs++fs'),ae (bR++bh),ae bT,ae bS,ae (bQ++bf)] ah 
 ++aK bE [b,ae (fs++fs'),ae (bR++bh),ae bT,ae bS,ae (bQ++bf)] dG++aK bE [b,ae (fs++fs'),ae (bR++bh),ae bT, 
 ae bS,ae (bQ++bf)] dP)),(a7 (av ee eA++aK bE [b,ae (fs++fs'),ae (bR++bh),ae bT,ae bS,ae (bQ++bf)] ah 
 ++aK bE [b,ae (fs++fs'),ae (bR++bh),ae bT,ae bS,ae (bQ++bf)] dG++aK bE [b,ae (fs++fs'),ae (bR++bh),ae bT, 
 ae bS,ae (bQ++bf)] dP++aK bE [b,ae (fs++fs'),ae (bR++bh),ae bT,ae bS,ae (bQ++bf)] dY)),(a7 (av ee eA 
 ++aK bE [b,ae (fs++fs'),ae (bR++bh),ae bT,ae bS,ae (bQ++bf)] ah++aK bE [b,ae (fs++fs'),ae (bR++bh),ae bT, 
 ae bS,ae (bQ++bf)] dG++aK bE [b,ae (fs++fs'),ae (bR++bh),ae bT,ae bS,ae (bQ++bf)] dP++aK bE [b,ae (fs++ 
 fs'),ae (bR++bh),ae bT,ae bS,ae (bQ++bf)] dY++aK bE [b,ae (fs++fs'),ae (bR++bh),ae bT,ae bS,ae (bQ 
 ++bf)] eX)),(aE ys),(aE pl),r,())/\(List.length (fF dD ((a7 (av ee eA++aK bE [b,ae (fs++fs'),ae (bR++bh),ae bT,ae bS,ae 
 (bQ++bf)] ah++aK bE [b,ae (fs++fs'),ae (bR++bh),ae bT,ae bS,ae (bQ++bf)] dG++aK bE [b,ae (fs++fs'),ae (bR++bh), 
 ae bT,ae bS,ae (bQ++bf)] dP++aK bE [b,ae (fs++fs'),ae (bR++bh),ae bT,ae bS,ae (bQ++bf)] dY++aK bE [b, 
 ae (fs++fs'),ae (bR++bh),ae bT,ae bS,ae (bQ++bf)] eX++aK bE [b,ae (fs++fs'),ae (bR++bh),ae bT,ae bS, 
 ae (bQ++bf)] fT)),(a7 t.Mr),(a7 (av ee eA++aK bE [b,ae (fs++fs'),ae (bR++bh),ae bT,ae bS,ae (bQ++bf)] ah)), 
 (a7 (av ee eA++aK bE [b,ae (fs++fs'),ae (bR++bh),ae bT,ae bS,ae (bQ++bf)] ah++aK bE [b,ae (fs++fs'),ae 
 (bR++bh),ae bT,ae bS,ae (bQ++bf)] dG)),(a7 (av ee eA++aK bE [b,ae (fs++fs'),ae (bR++bh),ae bT,ae bS, 
 ae (bQ++bf)] ah++aK bE [b,ae (fs++fs'),ae (bR++bh),ae bT,ae bS,ae (bQ++bf)] dG++aK bE [b,ae (fs++fs'),ae 
 (bR++bh),ae bT,ae bS,ae (bQ++bf)] dP)),(a7 (av ee eA++aK bE [b,ae (fs++fs'),ae (bR++bh),ae bT,ae bS, 
 ae (bQ++bf)] ah++aK bE [b,ae (fs++fs'),ae (bR++bh),ae bT,ae bS,ae (bQ++bf)] dG++aK bE [b,ae (fs++fs'),ae 
 (bR++bh),ae bT,ae bS,ae (bQ++bf)] dP++aK bE [b,ae (fs++fs'),ae (bR++bh),ae bT,ae bS,ae (bQ++bf)] dY)), 
 (a7 (av ee eA++aK bE [b,ae (fs++fs'),ae (bR++bh),ae bT,ae bS,ae (bQ++bf)] ah++aK bE [b,ae (fs++fs'),ae 
 (bR++bh),ae bT,ae bS,ae (bQ++bf)] dG++aK bE [b,ae (fs++fs'),ae (bR++bh),ae bT,ae bS,ae (bQ++bf)] dP++ 
 aK bE [b,ae (fs++fs'),ae (bR++bh),ae bT,ae bS,ae (bQ++bf)] dY++aK bE [b,ae (fs++fs'),ae (bR++bh),ae bT, 
 ae bS,ae (bQ++bf)] eX)),(aE ys),(aE pl),r,()))<=9223372036854775807->aF .i64 0->Q nr [.sl 5 Ty.u8 (lW (av ee eA++aK bE [b,ae (fs++fs'),ae 
 (bR++bh),ae bT,ae bS,ae (bQ++bf)] ah++aK bE [b,ae (fs++fs'),ae (bR++bh),ae bT,ae bS,ae (bQ++bf)] dG++ 
 aK bE [b,ae (fs++fs'),ae (bR++bh),ae bT,ae bS,ae (bQ++bf)] dP++aK bE [b,ae (fs++fs'),ae (bR++bh),ae bT, 
 ae bS,ae (bQ++bf)] dY++aK bE [b,ae (fs++fs'),ae (bR++bh),ae bT,ae bS,ae (bQ++bf)] eX++aK bE [b,ae (fs++ 
 fs'),ae (bR++bh),ae bT,ae bS,ae (bQ++bf)] fT) bD (fF dD ((a7 (av ee eA++aK bE [b,ae (fs++fs'),ae (bR++bh), 
 ae bT,ae bS,ae (bQ++bf)] ah++aK bE [b,ae (fs++fs'),ae (bR++bh),ae bT,ae bS,ae (bQ++bf)] dG++aK bE [b, 
 ae (fs++fs'),ae (bR++bh),ae bT,ae bS,ae (bQ++bf)] dP++aK bE [b,ae (fs++fs'),ae (bR++bh),ae bT,ae bS, 
 ae (bQ++bf)] dY++aK bE [b,ae (fs++fs'),ae (bR++bh),ae bT,ae bS,ae (bQ++bf)] eX++aK bE [b,ae (fs++fs'),ae 
 (bR++bh),ae bT,ae bS,ae (bQ++bf)] fT)),(a7 t.Mr),(a7 (av ee eA++aK bE [b,ae (fs++fs'),ae (bR++bh),ae bT, 
 ae bS,ae (bQ++bf)] ah)),(a7 (av ee eA++aK bE [b,ae (fs++fs'),ae (bR++bh),ae bT,ae bS,ae (bQ++bf)] ah 
 ++aK bE [b,ae (fs++fs'),ae (bR++bh),ae bT,ae bS,ae (bQ++bf)] dG)),(a7 (av ee eA++aK bE [b,ae (fs++fs'),ae 
 (bR++bh),ae bT,ae bS,ae (bQ++bf)] ah++aK bE [b,ae (fs++fs'),ae (bR++bh),ae bT,ae bS,ae (bQ++bf)] dG++ 
 aK bE [b,ae (fs++fs'),ae (bR++bh),ae bT,ae bS,ae (bQ++bf)] dP)),(a7 (av ee eA++aK bE [b,ae (fs++fs'),ae 
 (bR++bh),ae bT,ae bS,ae (bQ++bf)] ah++aK bE [b,ae (fs++fs'),ae (bR++bh),ae bT,ae bS,ae (bQ++bf)] dG++ 
 aK bE [b,ae (fs++fs'),ae (bR++bh),ae bT,ae bS,ae (bQ++bf)] dP++aK bE [b,ae (fs++fs'),ae (bR++bh),ae bT, 
 ae bS,ae (bQ++bf)] dY)),(a7 (av ee eA++aK bE [b,ae (fs++fs'),ae (bR++bh),ae bT,ae bS,ae (bQ++bf)] ah 
 ++aK bE [b,ae (fs++fs'),ae (bR++bh),ae bT,ae bS,ae (bQ++bf)] dG++aK bE [b,ae (fs++fs'),ae (bR++bh),ae bT, 
 ae bS,ae (bQ++bf)] dP++aK bE [b,ae (fs++fs'),ae (bR++bh),ae bT,ae bS,ae (bQ++bf)] dY++aK bE [b,ae (fs++ 
 fs'),ae (bR++bh),ae bT,ae bS,ae (bQ++bf)] eX)),(aE ys),(aE pl),r,())))]))))))))))))))))))))))))))
theorem W4:cG 26 Dw:=by
 intro args H Q h;unfold Dw at h;split at h;rotate_left;cases h;rename_i cl;split at h;rotate_left;cases h;rename_i l hl;refine Wp.said (args':=[.c (.d noTy l)]) (λE g=>bC.cE (dI hl) (λ_ h=>h)) ?_;clear hl;refine Wp.lq [some (.sl .u8),none] [0] ?_;refine Wp.dJ ajD pg ⟨[],[]⟩ Tryz.f26 (Fy l) (hold:=[47,49,57,52]) (unr:=[(15,7)]) ?_;unfold Fy Cc om xY Im yg iN sw bt nr fU dO dG gr fS bO eW eA dP lg cw dY fT eX dL a6 aC ah di cC gl a7 aE aL bD bJ bn bK cU zL ee kO bE bF;obtain ⟨hl,hc,h⟩:=h;refine λ_=>⟨by omega,hc,λL' hp ho hnl _=>?_⟩;have g:=Lx (Ly hc) hp ho;have hN40:(db L' []).length<=40:=by rw [jS,hp.length_eq];omega
 have Y5:=λim=>h L' im hp ho;clear h;generalize db L' []=N at*;have sO:=g.pos;obtain ⟨gr1,gr2,gr3⟩:=g.root;have hm0:aK noTy N 0∈N:=uF (e:=noTy) (bz 0) (by omega);refine ⟨rfl,rfl,rfl,by decide,by decide,rfl,λA1 hA1=>⟨by decide,by decide,rfl,λA2 hA2=>⟨by decide,by decide,rfl,λA3 hA3=>⟨by omega,λys Jl _=>⟨by decide,by decide,⟨hN40,λx hx=>(ov (g.may x hx)).2,λx hx y hy e=>(g.one x hx y hy e).2,rfl⟩,dD,64,rfl,rfl,⟨by decide,by decide⟩,λF' b' M' row bg pl hF hP hPl hb Au _=>?_⟩⟩⟩⟩⟩;have hbg:bg.length<=40:=by have:=hPl.len;rw [qf] at this;omega
 have hTok:=ahp g hN40 Jl hF hP hb hbg;refine ⟨hTok,⟨bz _,by omega,by omega⟩,dD,⟨[],[],[],[],[],[],[],[]⟩,⟨hA1,hA2,hA3⟩,rfl,rfl,ay _,DP.nil _ _ _,λB1 B2 B3 t r hW hM hP2 hr _ _ _ _=>?_⟩;have J1:=hP2.ok.len;have hRI:=hP2.ok.lI;have hRL:=hP2.ok.lL;have hRX:=hP2.ok.lX;have hil:=hTok.idl;have yM:=ahX g Jl;refine ⟨rfl,by decide,by decide,dD,64,b',M',rfl,by omega,λ_=>⟨dD,t.RI,t.fI,hW.i,by omega,λ_ gI kI _=>⟨dD,t.RL,t.fL,hW.l,by omega,λ_ gL kL _=>⟨by decide,by decide,rfl,⟨.inr rfl,X9 hPl (by omega),by omega⟩,λfP kP _=>⟨by decide,by decide,rfl,⟨.inl rfl,yM,by omega⟩,λfN kN _=>⟨dD,t.RX,t.fX,hW.x,by omega,λ_ gX kX _=>?_⟩⟩⟩⟩⟩⟩;have nI:=kI.Zf;have nL:=kL.Zf;have nP:=kP.Zf;have nN:=kN.Zf;have nX:=kX.Zf;rw [kI.len] at nI;rw [kL.len] at nL;rw [kP.len,jR] at nP;rw [kN.len,jR] at nN;rw [kX.len] at nX;obtain ⟨q1,e1⟩:∃ q,(t.fI++gI).flatten=q:=⟨_,rfl⟩;obtain ⟨q2,e2⟩:∃ q,(t.fL++gL).flatten=q:=⟨_,rfl⟩;obtain ⟨q3,e3⟩:∃ q,fP.flatten=q:=⟨_,rfl⟩;obtain ⟨q4,e4⟩:∃ q,fN.flatten=q:=⟨_,rfl⟩;obtain ⟨q5,e5⟩:∃ q,(t.fX++gX).flatten=q:=⟨_,rfl⟩;rw [e1] at nI;rw [e2] at nL;rw [e3] at nP;rw [e4] at nN;rw [e5] at nX;rw [e1,e2,e3,e4,e5];have vR:=(hP2.ok.refs _ _ hr).1;have hMr:0< t.Mr.length:=List.length_pos_of_mem (oF (κ:=Int) hr);have hyl:0< ys.length:=List.length_pos_of_mem ((Jl.mem _).2 ⟨_,hm0,.inl rfl⟩);have six:(List.length [b',q1,q2,q3,q4,q5])=6:=rfl;have x0:aK (Ty.sl Ty.u8) [b',q1,q2,q3,q4,q5] ((0:Int))=b':=rfl;have x1:aK (Ty.sl Ty.u8) [b',q1,q2,q3,q4,q5] ((0:Int)+(1:Int))=q1:=rfl;have x2:aK (Ty.sl Ty.u8) [b',q1,q2,q3,q4,q5] ((0:Int)+(1:Int)+(1:Int))=q2:=rfl;have x3:aK (Ty.sl Ty.u8) [b',q1,q2,q3,q4,q5] ((0:Int)+(1:Int)+(1:Int)+(1:Int))=q3:=rfl;have x4:aK (Ty.sl Ty.u8) [b',q1,q2,q3,q4,q5] ((0:Int)+(1:Int)+(1:Int)+(1:Int)+(1:Int))=q4:=rfl;have x5:aK (Ty.sl Ty.u8) [b',q1,q2,q3,q4,q5] ((0:Int)+(1:Int)+(1:Int)+(1:Int)+(1:Int)+(1:Int))=q5:=rfl;simp only [x0,x1,x2,x3,x4,x5,six];clear x0 x1 x2 x3 x4 x5 six;have hS:∀ z0 z2 z3 z4 z5 z6:Int,z2=64+(b'.length:Int)->z3=z2+q1.length->z4=z3+q2.length->z5=z4+q3.length->z6=z5+q4.length->z0=z6+q5.length->rD (z0,(t.Mr.length:Int),z2,z3,z4,z5,z6,(ys.length:Int),(pl.length:Int),r,()):=λz0 z2 z3 z4 z5 z6 w2 w3 w4 w5 w6 w0=>⟨by show (64:Int)<=z2;omega,by show z2<=z3;omega,by show z3<=z4;omega,by show z4<=z5;omega,by show z5<=z6;omega,by show z6<=z0;omega,by show z0<=1048576;omega,by show (1:Int)<=(t.Mr.length:Int)/\(t.Mr.length:Int)<=1024;omega,by show (1:Int)<=(ys.length:Int)/\(ys.length:Int)<=2048;omega,by show (0:Int)<=(pl.length:Int)/\(pl.length:Int)<=1024;omega,vR⟩;refine ⟨by decide,by decide,by decide,by decide,by decide,by decide,by decide,λ_=>⟨by first| omega| (simp only [af,aS];omega),by first| omega| (simp only [af,aS];omega),λ_=>⟨by unfold aF;omega,⟨by decide,by decide,by decide,by decide,by decide,by decide,λ_=>⟨by first| omega| (simp only [af,aS];omega),by first| omega| (simp only [af,aS];omega),λ_=>⟨by unfold aF;omega,⟨by decide,by decide,by decide,by decide,by decide,by decide,λ_=>⟨by first| omega| (simp only [af,aS];omega),by first| omega| (simp only [af,aS];omega),λ_=>⟨by unfold aF;omega,⟨by decide,by decide,by decide,by decide,by decide,by decide,λ_=>⟨by first| omega| (simp only [af,aS];omega),by first| omega| (simp only [af,aS];omega),λ_=>⟨by unfold aF;omega,⟨by decide,by decide,by decide,by decide,by decide,by decide,λ_=>⟨by first| omega| (simp only [af,aS];omega),by first| omega| (simp only [af,aS];omega),λ_=>⟨by unfold aF;omega,⟨by decide,by decide,by decide,by decide,by decide,by decide,λ_=>⟨by first| omega| (simp only [af,aS];omega),by first| omega| (simp only [af,aS];omega),λ_=>⟨by unfold aF;omega,aw (λhq=>absurd (of_decide_eq_true hq) (by first| omega| (simp only [af,aS];omega))) (λ_=>⟨by decide,by decide,by trivial,hS _ _ _ _ _ _ (by first| omega| (simp only [af,aS];omega)) (by first| omega| (simp only [af,aS];omega)) (by first| omega| (simp only [af,aS];omega)) (by first| omega| (simp only [af,aS];omega)) (by first| omega| (simp only [af,aS];omega)) (by first| omega| (simp only [af,aS];omega)),λ_ _=>?_⟩)⟩⟩⟩⟩⟩⟩⟩⟩⟩⟩⟩⟩⟩⟩⟩⟩⟩⟩
 exact ⟨cq _,Y5 _ (ahW e1 e2 e3 e4 e5 hTok ⟨_,hm0,gr1,gr2,hr⟩ hP2.ok (λx hx=>hP2.cov x hx (by unfold pre;rw [gr1];rfl) (by rw [gr1];exact cq _)) hF hP hPl ⟨kI,gI,rfl⟩ ⟨kL,gL,rfl⟩ ⟨kX,gX,rfl⟩ kP kN yM (hS _ _ _ _ _ _ (by first| omega| (simp only [af,aS];omega)) (by first| omega| (simp only [af,aS];omega)) (by first| omega| (simp only [af,aS];omega)) (by first| omega| (simp only [af,aS];omega)) (by first| omega| (simp only [af,aS];omega)) (by first| omega| (simp only [af,aS];omega))))⟩
def TC:Ct
 | [.v (.c cl)],[],Q=>(match (Ty.sl noTy).of [cl] with
  | some (l,[])=>(l.length:Int)<=40/\br (dH l !=0) (Q (.cJ [.c (.d .u8 []),.c (.k (.int .i64 (dH l)))]) []) (∀ L' im,L'.Perm l->L'.Pairwise (λx y=>¬cmpL y.1 x.1< 0)->TU im (db L' [])->Q (.cJ [.c (.d .u8 im),.c (.k (.int .i64 0))]) [])
  | _=>False)
 | _,_,_=>False
theorem acr:cG 26 TC:=λargs H Q h=>by
 unfold TC at h;split at h
 .rename_i cl;cases hq:(Ty.sl noTy).of [cl] with
  | none=>rw [hq] at h;exact h.elim
  | some q=>
   obtain ⟨l,r⟩:=q;rw [hq] at h;cases r with
   | cons a r=>exact h.elim
   | nil=>
    obtain ⟨h1,h2⟩:=h;by_cases hc:dH l=0
    .refine W4 _ _ _ ?_;unfold Dw;simp only [hq];rw [show (dH l !=0)=false by simpa using hc] at h2;exact ⟨h1,hc,h2⟩
    .refine W5 _ _ _ ?_;unfold Dx;simp only [hq];rw [show (dH l !=0)=true by simpa using hc] at h2;exact ⟨h1,hc,h2⟩
 .cases h
end Go.Proofs

namespace Go.Lm
open Go
theorem Mc {T:List Int} {im A:List UInt8} {a c:Int} {fs S:List (List UInt8)} {R:List UInt8} (e:im=A++(fs.flatten++S.flatten)) (ea:a=A.length) (ec:c=a+fs.flatten.length) (h:k7 T fs R) (hS:∀ z∈S,∃ x,DM T x z):iI T im a c fs R []:=by
 subst e ea ec;refine ⟨by omega,rfl,by simp only [af];omega,h,⟨S.flatten,by rw [aU,eV]⟩,?_,⟨[],List.nodup_nil,λk hk=>(by cases hk),rfl⟩⟩;cases S with
 | nil=>exact .inl (by simp)
 | cons z S=>
  obtain ⟨x,hx⟩:=hS z aX;refine .inr ⟨x,_,by omega,by simp only [af];omega,z,S.flatten,hx,?_,rfl⟩;rw [show ((A.length:Int)+(fs.flatten.length:Int)).toNat=A.length+fs.flatten.length by omega,<-eG,eV,eV,bI]
theorem k7.frm {T:List Int} {fs:List (List UInt8)} {R:List UInt8} (h:k7 T fs R):∀ z∈fs,∃ x,DM T x z:=λz hz=>by
 obtain ⟨i,hi⟩:=List.mem_iff_getElem?.1 hz;exact ⟨_,h.fr i z hi⟩
structure Rds (T:List Int) (im:List UInt8) (d:IR):Prop where
 I:iI T im d.s.2.2.1 d.s.2.2.2.1 d.fI d.t.RI []
 L:iI T im d.s.2.2.2.1 d.s.2.2.2.2.1 d.fL d.t.RL []
 P:iI T im d.s.2.2.2.2.1 d.s.2.2.2.2.2.1 d.fP (gv 4 d.pl) []
 N:iI T im d.s.2.2.2.2.2.1 d.s.2.2.2.2.2.2.1 d.fN (gv 2 d.ids) []
 X:iI T im d.s.2.2.2.2.2.2.1 d.s.1 d.fX d.t.RX []
theorem VU {P:List UInt8->Prop} {S S':List (List UInt8)} (h:∀ z∈S,P z) (h':∀ z∈S',P z):∀ z∈S++S',P z:=λz hz=>(aY.1 hz).elim (h z) (h' z)
theorem IR.Ok.rds {d:IR} {T:List Int} {L:List bu} (h:d.Ok T L):Rds T (d.im T) d:=by
 have fI:=h.rI.1.frm;have fL:=h.rL.1.frm;have fX:=h.rX.1.frm;have fP:=h.rP.frm;have fN:=h.rN.frm;have e0:=lY T d.s;have sI:=h.sI;have sL:=h.sL;have sP:=h.sP;have sN:=h.sN;have sX:=h.sX;have sZ:=h.sZ;unfold IR.im;refine ⟨Mc (A:=fF T d.s++d.b) (S:=d.fL++(d.fP++(d.fN++d.fX))) ?_ ?_ sL h.rI.1 (VU fL (VU fP (VU fN fX))),
  Mc (A:=fF T d.s++d.b++d.fI.flatten) (S:=d.fP++(d.fN++d.fX)) ?_ ?_ sP h.rL.1 (VU fP (VU fN fX)),
  Mc (A:=fF T d.s++d.b++d.fI.flatten++d.fL.flatten) (S:=d.fN++d.fX) ?_ ?_ sN h.rP (VU fN fX),
  Mc (A:=fF T d.s++d.b++d.fI.flatten++d.fL.flatten++d.fP.flatten) (S:=d.fX) ?_ ?_ sX h.rN fX,
  Mc (A:=fF T d.s++d.b++d.fI.flatten++d.fL.flatten++d.fP.flatten++d.fN.flatten) (S:=[]) ?_ ?_ sZ h.rX.1 (λz hz=>by cases hz)⟩
 all_goals first
  | (simp only [eU,aG,List.flatten_nil,aW];done)
  | (simp only [af,e0];omega)
theorem IR.YO {d:IR} {T:List Int} {L:List bu} (h:d.Ok T L): @Eq Int d.s.1 (d.im T).length:=by
 have:=h.sI;have:=h.sL;have:=h.sP;have:=h.sN;have:=h.sX;have:=h.sZ;unfold IR.im;simp only [af,lY];omega
theorem IR.Ok.small {d:IR} {T:List Int} {L:List bu} (h:d.Ok T L):(d.im T).length<=1048576/\d.b.length<=1048576/\d.t.RI.length<=8800/\d.t.RL.length<=420000/\d.t.RX.length<=168000/\d.pl.length<=1024/\d.ids.length<=80/\d.t.Mr.length<=40:=by
 have e:=IR.YO h;have p7:=h.sup.p7;have n3:=h.sup.n3;have sf:=h.sf;have hl:=h.tok.len;have hm:=h.ok.len;have hI:=h.ok.lI;have hL:=h.ok.lL;have hX:=h.ok.lX;have hi:=h.tok.idl;have hb:d.b.length<=(d.im T).length:=by
  unfold IR.im;simp only [af];omega
 have p7:(d.s.1:Int)<=1048576:=p7;have e2:((d.im T).length:Int)<=1048576:=by rw [<-e];exact p7
 have n3:(d.s.2.2.2.2.2.2.2.2.1:Int)<=1024:=n3.2;have n4:((d.pl.length:Nat):Int)<=1024:=by rw [<-sf];exact n3
 exact ⟨by omega,by omega,by omega,by omega,by omega,by omega,hi,by omega⟩
theorem Has.at {fs g:List (List UInt8)} {R b:List UInt8} {r:Int} (h:Has fs R r b):∃ o:Nat,o<=R.length/\r=(dU (fs++g) o:Nat)/\∃ q,R.drop o=b++q:=by
 obtain ⟨o,q,h1,h2⟩:=h;exact ⟨o,h1.le,h1.ref g,q,h2⟩
theorem zk.im {T:List Int} {im A b C x:List UInt8} {st:Int} (e:im=A++(b++C)) (ha:A.length=64) (hx:128<=x.length) (h:zk T 64 b st x):∃ fs,DL T im st x fs/\64<=st/\st+fs.flatten.length<=64+b.length:=by
 rcases h.or with ⟨q,_⟩| ⟨_,o,rfl,q⟩;omega
 .obtain ⟨fs,r,h1,h2,h3,h4⟩:=q;have hl:=congrArg List.length h3;rw [aN,af] at hl;refine ⟨fs,⟨h1,h2,by omega,by rw [e];simp only [af];omega,r++C,?_⟩,by omega,by omega⟩;rw [e,show ((64:Int)+(o:Int)).toNat=A.length+o by omega,<-eG,eV,da h4,h3,aG]
theorem zk.im0 {T:List Int} {im x:List UInt8} (hx:x.length< 128):DL T im 0 x []:=by
 have:x.length / 128=0:=by omega
 exact ⟨by rw [this];rfl,zm.nil T x,bz _,by omega,im,rfl⟩
abbrev bB:Ty:=.pair eE (.pair (.int .i64) (.pair (.sl dh) (.pair (.sl eD) .unit)))
abbrev fH (M:List (Int×Nat×bB.den)):HO:=.ab (.pm 3 82 bB M)
structure rE (d:IR) (N:List bu) (x:bu) (nm:Int) (r:bB.den):Prop where
 n:rj N d.ids d.F d.t x r.1
 nm:r.2.1=nm
 list:(x.2.2.1=1/\iG ⟨#[]⟩ r.2.2.1/\fZ N d.t.Mr x.1.length (dz x.1 N 0) r.2.2.1)\/(x.2.2.1≠1/\r.2.2.1= [])
 xa:r.2.2.2.1=x.2.2.2.2.2.2.1
theorem rj.same {N:List bu} {ids:List Int} {F:List (Int×eE.den)} {s:BS} {x y:bu} {i:eE.den} (t:ue N ids F) (hx:x∈N) (hy:y∈N) (e:y.2.1=x.2.1) (h:rj N ids F s y i):rj N ids F s x i:=by
 obtain ⟨h1,h2⟩:=t.one x hx y hy e.symm;by_cases hk:x.2.2.1=1;rw [h1 hk];exact h
 .obtain ⟨x1,x2,x3⟩:=x;obtain ⟨y1,y2,y3⟩:=y;simp only at h2 e hk;subst h2 e;obtain ⟨q1,q2,q3,q4,q5,q6,q7,q8⟩:=h;refine ⟨q1,q2,q3,q4,q5,q6,q7,?_⟩;rcases q8 with ⟨q,_⟩| q| q
  .exact absurd q hk
  .exact .inr (.inl q)
  .exact .inr (.inr q)
theorem IR.Ok.fileAt {d:IR} {T:List Int} {N:List bu} (h:d.Ok T N) {x:bu} (hx:x∈N) (hk:x.2.2.1=2) {i:eE.den} (hi:rj N d.ids d.F d.t x i):∃ fs,DL T (d.im T) i.2.2.2.2.2.2.1 x.2.2.2.2.1 fs/\ @Eq Int i.2.2.2.2.2.2.2.1 x.2.2.2.2.1.length/\(128<=x.2.2.2.2.1.length->(64:Int)<=i.2.2.2.2.2.2.1)/\(i.2.2.2.2.2.2.1:Int)+(fs.flatten.length:Int)<=d.s.2.2.1/\oL d.row d.bg i.2.2.2.2.2.2.2.2.1 i.2.2.2.2.2.2.2.2.2.1 (x.2.2.2.2.1.drop (128*(x.2.2.2.2.1.length / 128))):=by
 have sI:=h.sI;obtain ⟨st,fr,off,h1,h2,h3⟩:=h.fl.file x hx hk;rcases hi.or with ⟨q,_⟩| ⟨_,q⟩| ⟨q,_⟩;rw [hk] at q;exact absurd q (by decide)
 .rw [h1] at q;have q:=aj q;have e1:st=i.2.2.2.2.2.2.1:=congrArg (λz:eE.den=>z.2.2.2.2.2.2.1) q;have e2:(x.2.2.2.2.1.length:Int)=i.2.2.2.2.2.2.2.1:=congrArg (λz:eE.den=>z.2.2.2.2.2.2.2.1) q;have e3:fr=i.2.2.2.2.2.2.2.2.1:=congrArg (λz:eE.den=>z.2.2.2.2.2.2.2.2.1) q;have e4:off=i.2.2.2.2.2.2.2.2.2.1:=congrArg (λz:eE.den=>z.2.2.2.2.2.2.2.2.2.1) q;rw [<-e1,<-e2,<-e3,<-e4];rcases dZ x.2.2.2.2.1.length 128 with hl| hl
  .rcases h2.or with ⟨_,rfl⟩| ⟨q,_⟩
   .refine ⟨[],zk.im0 hl,rfl,λq=>by omega,?_,h3⟩;rw [sI];show (0:Int)+((0:Nat):Int)<=64+(d.b.length:Int);omega
   .omega
  .obtain ⟨fs,q1,q2,q3⟩:=zk.im (C:=d.fI.flatten++(d.fL.flatten++(d.fP.flatten++(d.fN.flatten++d.fX.flatten)))) (im:=d.im T) rfl (lY T d.s) hl h2;exact ⟨fs,q1,rfl,λ_=>q2,by rw [sI];exact q3,h3⟩
 .rw [hk] at q;exact absurd q (by decide)
theorem IR.Ok.YA {d:IR} {T:List Int} {N:List bu} (h:d.Ok T N) {x:bu} (hk:x.2.2.1=1) {i:eE.den} (hi:rj N d.ids d.F d.t x i):∃ es,iG ⟨#[]⟩ es/\fZ N d.t.Mr x.1.length (dz x.1 N 0) es/\es.length<=1024/\ @Eq Int i.2.2.2.2.2.2.2.1 (gN es).length/\∃ o:Nat,o+(gN es).length<=d.t.RL.length/\(i.2.2.2.2.2.2.1:Int)=(dU d.fL o:Nat)/\(d.t.RL.drop o).take (gN es).length=gN es:=by
 rcases hi.or with ⟨_,es,h1,h2,h3,h4⟩| ⟨q,_⟩| ⟨q,_⟩
 .obtain ⟨_,g,eg⟩:=h.rL;obtain ⟨o,q1,q2,q,q3⟩:=h3.at (g:=g);rw [<-eg] at q2;have hl:=congrArg List.length q3;rw [aN,af] at hl;have hes:=h2.len;have SN:=kU x.1 (L:=N) (k:=0);have hN:=h.tok.len;exact ⟨es,h1,h2,by omega,h4,o,by omega,q2,by rw [q3,List.take_left]⟩
 .rw [hk] at q;exact absurd q (by decide)
 .rw [hk] at q;exact absurd q (by decide)
theorem IR.Ok.ake {d:IR} {T:List Int} {N:List bu} (h:d.Ok T N) {x:bu} (hx:x∈N) {i:eE.den} (hi:rj N d.ids d.F d.t x i):((i.2.2.2.2.2.1:Int)=0/\x.2.2.2.2.2.2.1= [])\/((1:Int)<=i.2.2.2.2.2.1/\x.2.2.2.2.2.2.1≠ []/\eI x.2.2.2.2.2.2.1=true/\∃ o:Nat,o<=d.t.RX.length/\(i.2.2.2.2.2.1:Int) - 1=(dU d.fX o:Nat)/\∃ q,d.t.RX.drop o=xsB x.2.2.2.2.2.2.1++q):=by
 rcases hi.xa.or with ⟨q1,q2⟩| ⟨q1,q2,q3⟩;exact .inl ⟨q2,q1⟩
 .obtain ⟨_,g,eg⟩:=h.rX;obtain ⟨o,p1,p2,q,p3⟩:=q3.at (g:=g);rw [<-eg] at p2;exact .inr ⟨q2,q1,(yH (h.tok.may x hx)).xa,o,p1,p2,q,p3⟩
theorem IR.Ok.recAt {d:IR} {T:List Int} {N:List bu} (h:d.Ok T N) {x:bu} (hx:x∈N) {ref:Int} (hg:Kk.get .int d.t.Mr x.2.1=some ref):∃ i,rj N d.ids d.F d.t x i/\∃ o:Nat,o<=d.t.RI.length/\ref=(dU d.fI o:Nat)/\∃ q,d.t.RI.drop o=fK i++q:=by
 obtain ⟨_,y,hy,ei,i,hH,hN⟩:=h.ok.refs _ _ hg;obtain ⟨_,g,eg⟩:=h.rI;obtain ⟨o,q1,q2,q,q3⟩:=hH.at (g:=g);rw [<-eg] at q2;exact ⟨i,hN.same h.tok hx hy ei,o,q1,q2,q,q3⟩
theorem IR.Ok.aox {d:IR} {T:List Int} {N:List bu} (h:d.Ok T N) {x:bu} (hx:x∈N) {i:eE.den} (hi:rj N d.ids d.F d.t x i):(i.2.2.2.2.2.2.2.2.1:Int)<=(d.pl.length:Int):=by
 rcases hi.ok.or with ⟨_,_,_,q,_⟩| ⟨q,_⟩| ⟨_,_,_,_,q,_⟩;rw [q];exact jv _
 .obtain ⟨fs,_,_,_,_,q5⟩:=h.fileAt hx (by rw [<-hi.kind];exact q) hi;have hl:=h.pls.len;rw [qf] at hl;rcases q5.or with ⟨_,q,_⟩| ⟨_,_,_,j,a,q,q6,_⟩
  .rw [q];exact jv _
  .have:=(au.1 q6).1;rw [q];show (j:Int)+1<=(d.pl.length:Int);omega
 .rw [q];exact jv _
end Go.Lm

namespace Go.Proofs
open Go Go.Lm Go.RowKit
set_option maxRecDepth 1000000
def fA:List (Nat×Ty):=(82,bB)::pg
def aej:Ct:=λargs H Q=>∃ (a:Int) (c:Int) (T:List Int) (im:List UInt8) (s0:Int) (s1:Int) (s2:Int) (s3:Int) (s4:Int) (s5:Int) (s6:Int) (s7:Int) (s8:Int) (s9:Int) (nm:Int) (M:List (Int×Nat×bB.den)),args= [.v (.c (.p 0 0)),.int a,.int c]/\H= [.cells 90 [.de (.int .u32) T 0 0,.d .u8 im,.k (.int .i64 s0),.k (.int .i64 s1),.k (.int .i64 s2),.k (.int .i64 s3),.k (.int .i64 s4),.k (.int .i64 s5),.k (.int .i64 s6),.k (.int .i64 s7),.k (.int .i64 s8),.k (.int .i64 s9),.k (.slice none 0 0),.k (.slice none 0 0),.k (.pointer none),.k (.pointer none),.k (.pointer none),.m 1,.k (.int .i64 nm)],.ab (.pm 3 82 bB M)]/\T.length=256/\im.length<=100000000/\∃ fs R,R.length<=10000000/\iI T im a c fs R []/\∀ A,RB A fs R->Q (.c (.p 2 0)) [.cells 90 [.de (.int .u32) T 0 0,.d .u8 im,.k (.int .i64 s0),.k (.int .i64 s1),.k (.int .i64 s2),.k (.int .i64 s3),.k (.int .i64 s4),.k (.int .i64 s5),.k (.int .i64 s6),.k (.int .i64 s7),.k (.int .i64 s8),.k (.int .i64 s9),.k (.slice none 0 0),.k (.slice none 0 0),.k (.pointer none),.k (.pointer none),.k (.pointer none),.m 1,.k (.int .i64 nm)],.ab (.pm 3 82 bB M),.abs A]
def JU:=iH.add Kb
abbrev sg (y0:List Int) (y1:List UInt8):=dO y0 (List.length y1<=100000000)
def KP (a c:Int) (T:List Int) (im:List UInt8) (s0 s1 s2 s3 s4 s5 s6 s7 s8 s9 nm:Int) (M:(List (Int×Nat×bB.den))):dE:=λQ=>cj a c ((sg T im)/\∃ fs R,fU R (iI T im a c fs R []/\∀ (A:Value->Atom),RB A fs R->Q (SV.v (S1.c (.p 2 0))) [.cells 90 [Cl.de (.int .u32) T ah bD,Cl.d Ty.u8 
 im,.k (aC s0),.k (aC s1),.k (aC s2),.k (aC s3),.k (aC s4),.k (aC s5),.k (aC s6),.k (aC s7),.k (aC s8),.k (aC s9),.k eT,.k eT,.k (.pointer none),.k (.pointer none),.k (.pointer none),Cl.m bJ,.k 
 (aC nm)],fH M,HO.abs A]))
theorem aca:cG 59 aej:=by
 intro args H Q h;obtain ⟨a,c,T,im,s0,s1,s2,s3,s4,s5,s6,s7,s8,s9,nm,M,rfl,rfl,h⟩:=h;refine Wp.dJ JU fA ⟨[],[]⟩ Tryz.f59 (KP a c T im s0 s1 s2 s3 s4 s5 s6 s7 s8 s9 nm M) ?_;unfold KP sg fU eT cj dO aC ah bD bJ bK fH;obtain ⟨hT,hi,fs,R,hR,h1,h⟩:=h;exact λ_ _=>⟨⟨hT,hi⟩,fs,R,hR,h1,h⟩
def aei:Ct:=λargs H Q=>∃ (a:Int) (c:Int) (T:List Int) (im:List UInt8) (s0:Int) (s1:Int) (s2:Int) (s3:Int) (s4:Int) (s5:Int) (s6:Int) (s7:Int) (s8:Int) (s9:Int) (nm:Int) (R1:Value->Atom) (R2:Value->Atom) (R3:Value->Atom) (M:List (Int×Nat×bB.den)),args= [.v (.c (.p 0 0)),.int a,.int c]/\H= [.cells 90 [.de (.int .u32) T 0 0,.d .u8 im,.k (.int .i64 s0),.k (.int .i64 s1),.k (.int .i64 s2),.k (.int .i64 s3),.k (.int .i64 s4),.k (.int .i64 s5),.k (.int .i64 s6),.k (.int .i64 s7),.k (.int .i64 s8),.k (.int .i64 s9),.k (.slice none 0 0),.k (.slice none 0 0),.p 1 0,.p 2 0,.p 3 0,.m 4,.k (.int .i64 nm)],.abs R1,.abs R2,.abs R3,.ab (.pm 3 82 bB M)]/\T.length=256/\im.length<=100000000/\∃ fs R,R.length<=10000000/\iI T im a c fs R []/\∀ A,RB A fs R->Q (.c (.p 5 0)) [.cells 90 [.de (.int .u32) T 0 0,.d .u8 im,.k (.int .i64 s0),.k (.int .i64 s1),.k (.int .i64 s2),.k (.int .i64 s3),.k (.int .i64 s4),.k (.int .i64 s5),.k (.int .i64 s6),.k (.int .i64 s7),.k (.int .i64 s8),.k (.int .i64 s9),.k (.slice none 0 0),.k (.slice none 0 0),.p 1 0,.p 2 0,.p 3 0,.m 4,.k (.int .i64 nm)],.abs R1,.abs R2,.abs R3,.ab (.pm 3 82 bB M),.abs A]
abbrev l7:=SV.v (S1.c (.p 5 0))
def KN (a c:Int) (T:List Int) (im:List UInt8) (s0 s1 s2 s3 s4 s5 s6 s7 s8 s9 nm:Int) (R1 R2 R3:Value->Atom) (M:(List (Int×Nat×bB.den))):dE:=λQ=>cj a c ((sg T im)/\∃ fs R,fU R (iI T im a c fs R []/\∀ (A:Value->Atom),RB A fs R->Q l7 [.cells 90 [Cl.de (.int .u32) T ah bD,Cl.d Ty.u8 im,.k 
 (aC s0),.k (aC s1),.k (aC s2),.k (aC s3),.k (aC s4),.k (aC s5),.k (aC s6),.k (aC s7),.k (aC s8),.k (aC s9),.k eT,.k eT,.p 1 0,.p 2 0,.p 3 0,Cl.m cU,.k (aC nm)],HO.abs R1,HO.abs R2,HO.abs 
 R3,fH M,HO.abs A]))
theorem ab9:cG 59 aei:=by
 intro args H Q h;obtain ⟨a,c,T,im,s0,s1,s2,s3,s4,s5,s6,s7,s8,s9,nm,R1,R2,R3,M,rfl,rfl,h⟩:=h;refine Wp.dJ JU fA ⟨[],[]⟩ Tryz.f59 (KN a c T im s0 s1 s2 s3 s4 s5 s6 s7 s8 s9 nm R1 R2 R3 M) ?_;unfold KN sg l7 fU eT cj dO aC ah bD bK cU fH;obtain ⟨hT,hi,fs,R,hR,h1,h⟩:=h;exact λ_ _=>⟨⟨hT,hi⟩,fs,R,hR,h1,h⟩
def aeh:Ct:=λargs H Q=>∃ (a:Int) (c:Int) (T:List Int) (im:List UInt8) (s0:Int) (s1:Int) (s2:Int) (s3:Int) (s4:Int) (s5:Int) (s6:Int) (s7:Int) (s8:Int) (s9:Int) (pl:List Int) (nm:Int) (R1:Value->Atom) (R2:Value->Atom) (R3:Value->Atom) (M:List (Int×Nat×bB.den)),args= [.v (.c (.p 0 0)),.int a,.int c]/\H= [.cells 90 [.de (.int .u32) T 0 0,.d .u8 im,.k (.int .i64 s0),.k (.int .i64 s1),.k (.int .i64 s2),.k (.int .i64 s3),.k (.int .i64 s4),.k (.int .i64 s5),.k (.int .i64 s6),.k (.int .i64 s7),.k (.int .i64 s8),.k (.int .i64 s9),.d (.int .i64) pl,.k (.slice none 0 0),.p 1 0,.p 2 0,.p 3 0,.m 4,.k (.int .i64 nm)],.abs R1,.abs R2,.abs R3,.ab (.pm 3 82 bB M)]/\T.length=256/\im.length<=100000000/\∃ fs R,R.length<=10000000/\iI T im a c fs R []/\∀ A,RB A fs R->Q (.c (.p 5 0)) [.cells 90 [.de (.int .u32) T 0 0,.d .u8 im,.k (.int .i64 s0),.k (.int .i64 s1),.k (.int .i64 s2),.k (.int .i64 s3),.k (.int .i64 s4),.k (.int .i64 s5),.k (.int .i64 s6),.k (.int .i64 s7),.k (.int .i64 s8),.k (.int .i64 s9),.d (.int .i64) pl,.k (.slice none 0 0),.p 1 0,.p 2 0,.p 3 0,.m 4,.k (.int .i64 nm)],.abs R1,.abs R2,.abs R3,.ab (.pm 3 82 bB M),.abs A]
def KM (a c:Int) (T:List Int) (im:List UInt8) (s0 s1 s2 s3 s4 s5 s6 s7 s8 s9:Int) (pl:List Int) (nm:Int) (R1 R2 R3:Value->Atom) (M:(List (Int×Nat×bB.den))):dE:=λQ=>cj a c ((sg T im)/\∃ fs R,fU R (iI T im a c fs R []/\∀ (A:Value->Atom),RB A fs R->Q l7 [.cells 90 [Cl.de (.int .u32) T ah bD,Cl.d Ty.u8 im,.k 
 (aC s0),.k (aC s1),.k (aC s2),.k (aC s3),.k (aC s4),.k (aC s5),.k (aC s6),.k (aC s7),.k (aC s8),.k (aC s9),Cl.d bF pl,.k eT,.p 1 0,.p 2 0,.p 3 0,Cl.m cU,.k (aC nm)],HO.abs R1,HO.abs R2, 
 HO.abs R3,fH M,HO.abs A]))
theorem ab8:cG 59 aeh:=by
 intro args H Q h;obtain ⟨a,c,T,im,s0,s1,s2,s3,s4,s5,s6,s7,s8,s9,pl,nm,R1,R2,R3,M,rfl,rfl,h⟩:=h;refine Wp.dJ JU fA ⟨[],[]⟩ Tryz.f59 (KM a c T im s0 s1 s2 s3 s4 s5 s6 s7 s8 s9 pl nm R1 R2 R3 M) ?_;unfold KM sg l7 fU eT cj dO aC ah bD bK cU fH bF;obtain ⟨hT,hi,fs,R,hR,h1,h⟩:=h;exact λ_ _=>⟨⟨hT,hi⟩,fs,R,hR,h1,h⟩
def YP (o:HO) (k:List Int->List UInt8->Int->Int->Int->Int->Int->Int->Int->Int->Int->Int->Cl->Cl->Cl->Cl->Cl->Cl->Int->Prop):Prop:=(match o with
 | .cells 90 cs=>(match cs with
 | [c0,c1,c2,c3,c4,c5,c6,c7,c8,c9,c10,c11,c12,c13,c14,c15,c16,c17,c18]=>(match c0 with
 | .de (.int .u32) T 0 0=>(match c1 with
 | .d .u8 im=>(match c2 with
 | .k (.int .i64 s0)=>(match c3 with
 | .k (.int .i64 s1)=>(match c4 with
 | .k (.int .i64 s2)=>(match c5 with
 | .k (.int .i64 s3)=>(match c6 with
 | .k (.int .i64 s4)=>(match c7 with
 | .k (.int .i64 s5)=>(match c8 with
 | .k (.int .i64 s6)=>(match c9 with
 | .k (.int .i64 s7)=>(match c10 with
 | .k (.int .i64 s8)=>(match c11 with
 | .k (.int .i64 s9)=>(match c18 with
 | .k (.int .i64 nm)=>k T im s0 s1 s2 s3 s4 s5 s6 s7 s8 s9 c12 c13 c14 c15 c16 c17 nm
 | _=>False)
 | _=>False)
 | _=>False)
 | _=>False)
 | _=>False)
 | _=>False)
 | _=>False)
 | _=>False)
 | _=>False)
 | _=>False)
 | _=>False)
 | _=>False)
 | _=>False)
 | _=>False)
 | _=>False)
def V9 (o:HO) (k:List Int->List UInt8->Int->Int->Int->Int->Int->Int->Int->Int->Int->Int->Cl->Cl->Int->Prop):Prop:=YP o λT im s0 s1 s2 s3 s4 s5 s6 s7 s8 s9 c12 c13 c14 c15 c16 c17 nm=>(match c14 with
 | .p 1 0=>(match c15 with
 | .p 2 0=>(match c16 with
 | .p 3 0=>(match c17 with
 | .m 4=>k T im s0 s1 s2 s3 s4 s5 s6 s7 s8 s9 c12 c13 nm
 | _=>False)
 | _=>False)
 | _=>False)
 | _=>False)
def imR (o:HO) (k:List Int->List UInt8->Int->Int->Int->Int->Int->Int->Int->Int->Int->Int->List Int->List Int->Int->Prop):Prop:=V9 o λT im s0 s1 s2 s3 s4 s5 s6 s7 s8 s9 c12 c13 nm=>(match c12 with
 | .d (.int .i64) pl=>(match c13 with
 | .d (.int .i64) ids=>k T im s0 s1 s2 s3 s4 s5 s6 s7 s8 s9 pl ids nm
 | _=>False)
 | _=>False)
def Mo (o:HO) (k:List (Int×Nat×Ty.den (.pair ((.pair (.int .i64) (.pair (.int .i64) (.pair (.int .i64) (.pair (.int .i64) (.pair (.int .i64) (.pair (.int .i64) (.pair (.int .i64) (.pair (.int .i64) (.pair (.int .i64) (.pair (.int .i64) (.pair .str .unit)))))))))))) (.pair (.int .i64) (.pair (.sl (.pair .str (.pair (.int .i64) (.pair (.int .i64) .unit)))) (.pair (.sl (.pair .str (.pair (.sl .u8) .unit))) .unit)))))->Prop):Prop:=match o with
 | .ab (.pm 3 82 (.pair ((.pair (.int .i64) (.pair (.int .i64) (.pair (.int .i64) (.pair (.int .i64) (.pair (.int .i64) (.pair (.int .i64) (.pair (.int .i64) (.pair (.int .i64) (.pair (.int .i64) (.pair (.int .i64) (.pair .str .unit)))))))))))) (.pair (.int .i64) (.pair (.sl (.pair .str (.pair (.int .i64) (.pair (.int .i64) .unit)))) (.pair (.sl (.pair .str (.pair (.sl .u8) .unit))) .unit)))) M)=>k M
 | _=>False
def Dp:Ct:=λargs H Q=>(match args with
 | [.v (.c (.p 0 0)),.v (.c (.k (.int .i64 a))),.v (.c (.k (.int .i64 c)))]=>(match H with
 | [o0,o1]=>YP o0 λT im s0 s1 s2 s3 s4 s5 s6 s7 s8 s9 c12 c13 c14 c15 c16 c17 nm=>(match c12 with
 | .k (.slice none 0 0)=>(match c13 with
 | .k (.slice none 0 0)=>(match c14 with
 | .k (.pointer none)=>(match c15 with
 | .k (.pointer none)=>(match c16 with
 | .k (.pointer none)=>(match c17 with
 | .m 1=>Mo o1 λM=>T.length=256/\im.length<=100000000/\∃ fs R,R.length<=10000000/\iI T im a c fs R []/\∀ A,RB A fs R->Q (.c (.p 2 0)) [.cells 90 [.de (.int .u32) T 0 0,.d .u8 im,.k (.int .i64 s0),.k (.int .i64 s1),.k (.int .i64 s2),.k (.int .i64 s3),.k (.int .i64 s4),.k (.int .i64 s5),.k (.int .i64 s6),.k (.int .i64 s7),.k (.int .i64 s8),.k (.int .i64 s9),.k (.slice none 0 0),.k (.slice none 0 0),.k (.pointer none),.k (.pointer none),.k (.pointer none),.m 1,.k (.int .i64 nm)],.ab (.pm 3 82 bB M),.abs A]
 | _=>False)
 | _=>False)
 | _=>False)
 | _=>False)
 | _=>False)
 | _=>False)
 | _=>False)
 | _=>False)
theorem WC:cG 59 Dp:=λargs H Q h=>by
 unfold Dp Mo YP at h;dsimp only at h
 repeat (split at h;rotate_left;exact h.elim)
 exact aca _ _ _ ⟨_,_,_,_,_,_,_,_,_,_,_,_,_,_,_,_,rfl,rfl,h⟩
def Dn:Ct:=λargs H Q=>(match args with
 | [.v (.c (.p 0 0)),.v (.c (.k (.int .i64 a))),.v (.c (.k (.int .i64 c)))]=>(match H with
 | [o0,o1,o2,o3,o4]=>V9 o0 λT im s0 s1 s2 s3 s4 s5 s6 s7 s8 s9 c12 c13 nm=>(match c12 with
 | .k (.slice none 0 0)=>(match c13 with
 | .k (.slice none 0 0)=>(match o1 with
 | .abs R1=>(match o2 with
 | .abs R2=>(match o3 with
 | .abs R3=>Mo o4 λM=>T.length=256/\im.length<=100000000/\∃ fs R,R.length<=10000000/\iI T im a c fs R []/\∀ A,RB A fs R->Q (.c (.p 5 0)) [.cells 90 [.de (.int .u32) T 0 0,.d .u8 im,.k (.int .i64 s0),.k (.int .i64 s1),.k (.int .i64 s2),.k (.int .i64 s3),.k (.int .i64 s4),.k (.int .i64 s5),.k (.int .i64 s6),.k (.int .i64 s7),.k (.int .i64 s8),.k (.int .i64 s9),.k (.slice none 0 0),.k (.slice none 0 0),.p 1 0,.p 2 0,.p 3 0,.m 4,.k (.int .i64 nm)],.abs R1,.abs R2,.abs R3,.ab (.pm 3 82 bB M),.abs A]
 | _=>False)
 | _=>False)
 | _=>False)
 | _=>False)
 | _=>False)
 | _=>False)
 | _=>False)
theorem WA:cG 59 Dn:=λargs H Q h=>by
 unfold Dn Mo V9 YP at h;dsimp only at h
 repeat (split at h;rotate_left;exact h.elim)
 exact ab9 _ _ _ ⟨_,_,_,_,_,_,_,_,_,_,_,_,_,_,_,_,_,_,_,rfl,rfl,h⟩
def Dm:Ct:=λargs H Q=>(match args with
 | [.v (.c (.p 0 0)),.v (.c (.k (.int .i64 a))),.v (.c (.k (.int .i64 c)))]=>(match H with
 | [o0,o1,o2,o3,o4]=>V9 o0 λT im s0 s1 s2 s3 s4 s5 s6 s7 s8 s9 c12 c13 nm=>(match c12 with
 | .d (.int .i64) pl=>(match c13 with
 | .k (.slice none 0 0)=>(match o1 with
 | .abs R1=>(match o2 with
 | .abs R2=>(match o3 with
 | .abs R3=>Mo o4 λM=>T.length=256/\im.length<=100000000/\∃ fs R,R.length<=10000000/\iI T im a c fs R []/\∀ A,RB A fs R->Q (.c (.p 5 0)) [.cells 90 [.de (.int .u32) T 0 0,.d .u8 im,.k (.int .i64 s0),.k (.int .i64 s1),.k (.int .i64 s2),.k (.int .i64 s3),.k (.int .i64 s4),.k (.int .i64 s5),.k (.int .i64 s6),.k (.int .i64 s7),.k (.int .i64 s8),.k (.int .i64 s9),.d (.int .i64) pl,.k (.slice none 0 0),.p 1 0,.p 2 0,.p 3 0,.m 4,.k (.int .i64 nm)],.abs R1,.abs R2,.abs R3,.ab (.pm 3 82 bB M),.abs A]
 | _=>False)
 | _=>False)
 | _=>False)
 | _=>False)
 | _=>False)
 | _=>False)
 | _=>False)
theorem Wz:cG 59 Dm:=λargs H Q h=>by
 unfold Dm Mo V9 YP at h;dsimp only at h
 repeat (split at h;rotate_left;exact h.elim)
 exact ab8 _ _ _ ⟨_,_,_,_,_,_,_,_,_,_,_,_,_,_,_,_,_,_,_,_,rfl,rfl,h⟩
def Ti:Ct:=λargs H Q=>match H with
 | .cells _ (_::_::_::_::_::_::_::_::_::_::_::_::c::_)::_=>(match c with
  | .k _=>Dn args H Q
  | _=>Dm args H Q)
 | _=>False
theorem ab5:cG 59 Ti:=λargs H Q h=>by
 unfold Ti at h;split at h
 .split at h
  .exact WA _ _ _ h
  .exact Wz _ _ _ h
 .cases h
def aiX:Ct:=cD (Ty.int .i64) λx=>c0 λQ=>x.length<=1000000/\Q (.c (.d (.int .i64) x)) []
def Rn (x:(List ((Ty.int .i64)).den)):dE:=λQ=>hU x (∀ (c:Bool),(c=true->x= [])->br (lE c) (Q gy []) ((0+List.length x)*8<=cw/\0+List.length x<=9223372036854775807/\Q gA [.sl 3 bF ([]++x)]))
theorem WQ:cG 107 aiX:=fz<| lH λx=>iQ λQ h=>by
 refine Wp.IN (e:=.int .i64) ?_;refine Wp.dJ iH fA ⟨[],[]⟩ Tryz.f107 (Rn x) ?_;unfold Rn gy lE gA hU cw dL bF;obtain ⟨hl,h⟩:=h;refine λ_ c hc=>aw (λhb=>.inr (.inl ⟨rfl,?_⟩)) (λhb=>⟨by omega,by omega,.inr (.inr ⟨0,3,x,rfl,ay 0,rfl,h⟩)⟩);rw [hc hb] at h;exact h
def aiW:Ct:=cD (Ty.int .i64) λx=>c0 λQ=>(x.Pairwise λa b=>a< b)/\Q (.c (.d (.int .i64) x)) []
def ajC:=iH.add WQ
def Rm (x:(List ((Ty.int .i64)).den)):dE:=λQ=>hU x (aL (List.length x)->br (decide ((aE x)< di)) (Q (SV.v (S1.c (Cl.d bF x))) []) (bp (λi ag=>hU x (br (decide (i.1.1< (aE x))) (0<=i.1.1/\i.1.1< (aE x)/\(yo x i.1.1 (Ty.ok bF (aK bF 
 x (i.1.1 - 1))->br (aK bF x i.1.1==aK bF x (i.1.1 - 1)) (0<=i.1.1/\i.1.1<=(aE x)/\False) (jq i.1.1 ag)))) (Q (SV.v (S1.c (Cl.d bF x))) []))) ((bd,()),())))
theorem ag4:cG 106 aiW:=fz<| lH λx=>iQ λQ h=>by
 refine Wp.dJ ajC fA ⟨[(5,⟨[(3,.int .i64)],[]⟩)],[]⟩ Tryz.f106 (Rm x) ?_;unfold Rm yo hU jq bd di aE aL bF;obtain ⟨hs,h⟩:=h;refine λ_ _=>aw (λ_=>h) (λhc=>bp.intro (λi=>1<=i.1.1/\i.1.1<=(x.length:Int)) (λi=>x.length - i.1.1.toNat) ⟨bz _,by have:=of_decide_eq_false hc;show (1:Int)<=_;omega⟩ ?_);rintro ⟨⟨i,_⟩,_⟩ ⟨h0,h1⟩;simp only at h0 h1 ⊢;refine λ_=>aw (λhd=>?_) (λ_=>h);have hd:=of_decide_eq_true hd;have P:=dj.1 hs (i - 1).toNat i.toNat (by omega) (by omega) (by omega);rw [<-gV (e:=.int .i64) (by omega) (by omega),<-gV (e:=.int .i64) (by omega) hd] at P;refine ⟨by omega,hd,λ_=>⟨by unfold aF;omega,by omega,by omega,λ_=>aw (λq=>?_) (λ_=>⟨by unfold aF;omega,⟨by omega,by omega⟩,by omega⟩)⟩⟩;have q:aK (.int .i64) x i=aK (.int .i64) x (i - 1):=eq_of_beq q;rw [q] at P;exact absurd P (Int.lt_irrefl _)
def ZC:Ct:=λargs H Q=>∃ (T:List Int) (im:List UInt8) (s0:Int) (s1:Int) (s2:Int) (s3:Int) (s4:Int) (s5:Int) (s6:Int) (s7:Int) (s8:Int) (s9:Int) (nm:Int) (R1:Value->Atom) (R2:Value->Atom) (R3:Value->Atom) (M:List (Int×Nat×bB.den)),args= [.v (.c (.p 0 0))]/\H= [.cells 90 [.de (.int .u32) T 0 0,.d .u8 im,.k (.int .i64 s0),.k (.int .i64 s1),.k (.int .i64 s2),.k (.int .i64 s3),.k (.int .i64 s4),.k (.int .i64 s5),.k (.int .i64 s6),.k (.int .i64 s7),.k (.int .i64 s8),.k (.int .i64 s9),.k (.slice none 0 0),.k (.slice none 0 0),.p 1 0,.p 2 0,.p 3 0,.m 4,.k (.int .i64 nm)],.abs R1,.abs R2,.abs R3,.ab (.pm 3 82 bB M)]/\∃ (d:IR) (N:List bu),d.Ok T N/\T.length=256/\im=d.im T/\d.s=(s0,s1,s2,s3,s4,s5,s6,s7,s8,s9,())/\Q (.bool true) [.cells 90 [.de (.int .u32) T 0 0,.d .u8 im,.k (.int .i64 s0),.k (.int .i64 s1),.k (.int .i64 s2),.k (.int .i64 s3),.k (.int .i64 s4),.k (.int .i64 s5),.k (.int .i64 s6),.k (.int .i64 s7),.k (.int .i64 s8),.k (.int .i64 s9),.d (.int .i64) d.pl,.d (.int .i64) d.ids,.p 1 0,.p 2 0,.p 3 0,.m 4,.k (.int .i64 nm)],.abs R1,.abs R2,.abs R3,.ab (.pm 3 82 bB M)]
def ajB:=((((iH.add Ev).add AY).add ab5).add WQ).add ag4
def EN (T:List Int) (im:List UInt8) (s0 s1 s2 s3 s4 s5 s6 s7 s8 s9 nm:Int) (R1 R2 R3:Value->Atom) (M:(List (Int×Nat×bB.den))):dE:=λQ=>dO T (iN im (∃ fs R,fU R (iI T im s4 s5 fs R []/\∀ (A:Value->Atom),RB A fs R->∃ fs R,RB A fs R/\(cC=di\/cC=cC)/\∃ l,(∀ (x:Int),x∈l->0<= 
 x/\x< 256 ^ cU)/\R=gv cU l/\s8=(aE l)/\List.length l<=100000/\∀ (A':Value->Atom),RB A' fs R->aL (bO l)->aF .i64 0->dO T (iN im (∃ fs R,fU R (iI T im s5 s6 fs R []/\∀ (A:Value->Atom),RB A 
 fs R->∃ fs R,RB A fs R/\(di=di\/di=cC)/\∃ Eb,(∀ (x:Int),x∈Eb->0<=x/\x< 256 ^ bn)/\R=gv bn Eb/\s7=(aE Eb)/\List.length Eb<=100000/\∀ (A':Value->Atom),RB A' fs R->aL (bO Eb)-> 
 aF .i64 0->TS Eb/\(aL (bO Eb)->List.length Eb<=1000000/\(aL (bO Eb)->List.Pairwise (λa b=>a< b) Eb/\(aL (bO Eb)->aL (bO Eb)->Q (.v (.c (.k (.bool ((aE Eb)==(aE Eb)))))) [gk T im s0 s1 
 s2 s3 s4 s5 s6 s7 s8 s9 l Eb nm,HO.abs R1,HO.abs R2,HO.abs R3,fH M])))))))))
theorem Wt:cG 60 ZC:=by
 intro args H Q h;obtain ⟨T,im,s0,s1,s2,s3,s4,s5,s6,s7,s8,s9,nm,R1,R2,R3,M,rfl,rfl,h⟩:=h;refine Wp.dJ ajB fA ⟨[],[]⟩ Tryz.f60 (EN T im s0 s1 s2 s3 s4 s5 s6 s7 s8 s9 nm R1 R2 R3 M) ?_;unfold EN iN fU dO bO di cC aE aL bn bK cU gk fH;obtain ⟨d,N,hd,hT,rfl,hs,h⟩:=h;obtain ⟨z1,z2,z3,z4,z5,z6,z7,z8⟩:=hd.small;have hr:=hd.rds;have hP:=hr.P;have hN:=hr.N;have hf:=hd.sf;have hi:=hd.si;rw [hs] at hP hN hf hi;have n4:=jR 4 d.pl;have n2:=jR 2 d.ids;refine ⟨hT,by omega,d.fP,gv 4 d.pl,by omega,hP,λA hA=>⟨d.fP,_,hA,.inr rfl,d.pl,X9 hd.pls (by omega),rfl,hf,by omega,λA' _ _ _=>⟨hT,by omega,d.fN,gv 2 d.ids,by omega,hN,λB hB=>⟨d.fN,_,hB,.inl rfl,d.ids,hd.idr,rfl,hi,by omega,λB' _ _ _=>⟨⟨λi i1 i2=>?_⟩,λ_=>⟨by omega,λ_=>⟨hd.tok.V7,λ_ _=>?_⟩⟩⟩⟩⟩⟩⟩
 .have P:=dj.1 hd.tok.V7 (i - 1).toNat i.toNat (by omega) (by omega) (by omega);rw [gV (e:=.int .i64) (by omega) (by omega),gV (e:=.int .i64) (by omega) i2];exact Int.le_of_lt P
 .rw [show (((d.ids.length:Nat):Int)==((d.ids.length:Nat):Int))=true by simp];exact h
def G7:Ct:=λargs H Q=>(match args with
 | [.v (.c (.p 0 0))]=>(match H with
 | [o0,o1,o2,o3,o4]=>V9 o0 λT im s0 s1 s2 s3 s4 s5 s6 s7 s8 s9 c12 c13 nm=>(match c12 with
 | .k (.slice none 0 0)=>(match c13 with
 | .k (.slice none 0 0)=>(match o1 with
 | .abs R1=>(match o2 with
 | .abs R2=>(match o3 with
 | .abs R3=>Mo o4 λM=>∃ (d:IR) (N:List bu),d.Ok T N/\T.length=256/\im=d.im T/\d.s=(s0,s1,s2,s3,s4,s5,s6,s7,s8,s9,())/\Q (.bool true) [.cells 90 [.de (.int .u32) T 0 0,.d .u8 im,.k (.int .i64 s0),.k (.int .i64 s1),.k (.int .i64 s2),.k (.int .i64 s3),.k (.int .i64 s4),.k (.int .i64 s5),.k (.int .i64 s6),.k (.int .i64 s7),.k (.int .i64 s8),.k (.int .i64 s9),.d (.int .i64) d.pl,.d (.int .i64) d.ids,.p 1 0,.p 2 0,.p 3 0,.m 4,.k (.int .i64 nm)],.abs R1,.abs R2,.abs R3,.ab (.pm 3 82 bB M)]
 | _=>False)
 | _=>False)
 | _=>False)
 | _=>False)
 | _=>False)
 | _=>False)
 | _=>False)
theorem T7:cG 60 G7:=λargs H Q h=>by
 unfold G7 Mo V9 YP at h;dsimp only at h
 repeat (split at h;rotate_left;exact h.elim)
 exact Wt _ _ _ ⟨_,_,_,_,_,_,_,_,_,_,_,_,_,_,_,_,_,rfl,rfl,h⟩
end Go.Proofs

namespace Go.Lm
open Go Go.RowKit
section
variable {I:cQ->Prop} {P:Program} {f:FuncId} {args:List SV} {H:List HO} {Q:SV->List HO->Prop}
theorem Wp.cellOf {p:Nat} {t:TypeId} {e:Ty} (h:Wp I P f args H λsv H'=>∃ cs x,H'[p]?=some (.cells t cs)/\e.of cs=some (x,[])/\Q sv (H'.set p (.cells t (e.cells x)))):Wp I P f args H Q:=λW hW g w E F vs hs hv=>
 (h W hW g w E F vs hs hv).mono λv w' ⟨E1,g1,sv,H1,e1,m1,s1,r1,cs,x,hp,ho,hq⟩=>by
  have Au:=(au.1 hp).1;have hlen:E1.length=H1.length:=s1.len;refine ⟨E1,g1,sv,_,e1,m1,⟨?_,by simp [hlen]⟩,r1,hq⟩;refine s1.sl.cz λk s=>?_;obtain ⟨k1,k2,ap,e2,⟨bb,us,hE,hrel,hblk⟩,s2⟩:=bq.rV hp s;obtain ⟨u1,u2,e3,h3,h4⟩:=of_cells e ho hrel;obtain rfl:u2= []:=h4;rw [aW] at e3;subst e3;have s3:bq g1 (cF E1 p (.cells t (e.cells x))::(bj E1 0 (H1.set p .gone)++F)) k:=⟨k1,k2,ap,e2,⟨bb,_,hE,(eY E1 g1 e h3).1,hblk⟩,s2⟩;have s4:=bq.D6 (l:=p) (by simp;omega) s3;rw [List.set_set] at s4;exact s4
end
end Go.Lm

namespace Go.Proofs
open Go Go.Lm Go.RowKit
set_option maxRecDepth 1000000
def ael:Ct:=λargs H Q=>∃ (ref:Int) (kd:Int) (T:List Int) (im:List UInt8) (s0:Int) (s1:Int) (s2:Int) (s3:Int) (s4:Int) (s5:Int) (s6:Int) (s7:Int) (s8:Int) (s9:Int) (pl:List Int) (ids:List Int) (nm:Int) (R1:Value->Atom) (R2:Value->Atom) (R3:Value->Atom) (M:List (Int×Nat×bB.den)),args= [.v (.c (.p 0 0)),.int ref,.int kd]/\H= [.cells 90 [.de (.int .u32) T 0 0,.d .u8 im,.k (.int .i64 s0),.k (.int .i64 s1),.k (.int .i64 s2),.k (.int .i64 s3),.k (.int .i64 s4),.k (.int .i64 s5),.k (.int .i64 s6),.k (.int .i64 s7),.k (.int .i64 s8),.k (.int .i64 s9),.d (.int .i64) pl,.d (.int .i64) ids,.p 1 0,.p 2 0,.p 3 0,.m 4,.k (.int .i64 nm)],.abs R1,.abs R2,.abs R3,.ab (.pm 3 82 bB M)]/\∃ (d:IR) (N:List bu),d.Ok T N/\(T=dD/\im=d.im T/\d.s=(s0,s1,s2,s3,s4,s5,s6,s7,s8,s9,())/\pl=d.pl/\ids=d.ids)/\(RB R1 d.fI d.t.RI/\RB R2 d.fL d.t.RL/\RB R3 d.fX d.t.RX)/\∃ x∈N,kd=x.2.2.1/\Kk.get .int d.t.Mr x.2.1=some ref/\∀ B1 B2 B3 r,RB B1 d.fI d.t.RI->RB B2 d.fL d.t.RL->RB B3 d.fX d.t.RX->rE d N x 0 r->Q (.c (.p 5 0)) [.cells 90 [.de (.int .u32) T 0 0,.d .u8 im,.k (.int .i64 s0),.k (.int .i64 s1),.k (.int .i64 s2),.k (.int .i64 s3),.k (.int .i64 s4),.k (.int .i64 s5),.k (.int .i64 s6),.k (.int .i64 s7),.k (.int .i64 s8),.k (.int .i64 s9),.d (.int .i64) pl,.d (.int .i64) ids,.p 1 0,.p 2 0,.p 3 0,.m 4,.k (.int .i64 nm)],.abs B1,.abs B2,.abs B3,.ab (.pm 3 82 bB M),.cells 82 (bB.cells r)]
def ajA:=((((iH.add EH).add Ka).add QT).add QE).add Km
abbrev pt:Cl:=.k (.pointer none)
abbrev sj:SV:=.v (.c pt)
abbrev OV (y0) (y1:List UInt8) (y2) (y3) (y4) (y5) (y6:Int) (R:Prop):=DL y0 y1 y2 y3 y4/\y5=(aE y3)/\List.length y3<=4096/\y2+(a7 (ae y4))<=y6/\R
def KU (ref kd:Int) (T:List Int) (im:List UInt8) (s0 s1 s2 s3 s4 s5 s6 s7 s8 s9:Int) (pl ids:List Int) (nm:Int) (R1 R2 R3:Value->Atom) (M:(List (Int×Nat×bB.den))):dE:=λQ=>cj ref kd (∃ fs R,RB R1 fs R/\∃ o,o<=List.length R/\ref=(↑(dU fs o):Int)/\∃ i q,oO i/\List.drop o R=fK i++q/\∀ (A':Value->Atom),RB A' 
 fs R->cA i.1 i.2.1 i.2.2.1 (cA i.2.2.2.1 i.2.2.2.2.1 i.2.2.2.2.2.1 (cA i.2.2.2.2.2.2.1 i.2.2.2.2.2.2.2.1 i.2.2.2.2.2.2.2.2.1 (aF .i64 i.2.2.2.2.2.2.2.2.2.1->aL (dr i.2.2.2.2.2.2.2.2.2.2.1)->aF .i64 (↑(dU fs (o+ 
 List.length (fK i))):Int)->aF .i64 0->br (i.1 !=kd) (Q sj [gk T im s0 s1 s2 s3 s4 s5 s6 s7 s8 s9 pl ids nm,HO.abs A',HO.abs R2,HO.abs R3,fH M]) (aL (List.length ids)->br (decide (max i.2.2.1 i.2.2.2.1≥(aE ids))) 
 (Q sj [gk T im s0 s1 s2 s3 s4 s5 s6 s7 s8 s9 pl ids nm,HO.abs A',HO.abs R2,HO.abs R3,fH M]) (br (decide (i.2.2.2.2.2.2.2.2.1>s8)) (Q sj [gk T im s0 s1 s2 s3 s4 s5 s6 s7 s8 s9 pl ids nm,HO.abs A',HO.abs R2,HO.abs R3, 
 fH M]) (br (decide (i.2.2.2.2.2.1>0)) (aF .i64 (i.2.2.2.2.2.1 - 1)/\∃ fs R,RB R3 fs R/\∃ o,o<=List.length R/\i.2.2.2.2.2.1 - 1=(↑(dU fs o):Int)/\∃ l q,eI l=true/\l≠ []/\List.drop o R=xsB l++q/\∀ (DQ: 
 Value->Atom),RB DQ fs R->aL (bO l)->aF .i64 0->br (kd==2) (iN im (∃ T_1 x fs,OV T_1 im i.2.2.2.2.2.2.1 x fs i.2.2.2.2.2.2.2.1 s2 (aF .i64 (i.2.2.2.2.2.2.1+(a7 (ae fs)))->aF .i64 0->br (decide 
 (i.2.2.2.2.2.2.2.1≥128)) (br (decide (i.2.2.2.2.2.2.1< 64)) (Q sj [gk T im s0 s1 s2 s3 s4 s5 s6 s7 s8 s9 pl ids nm,HO.abs A',HO.abs R2,HO.abs DQ,fH M]) (Q l7 [gk T im s0 s1 s2 s3 s4 s5 s6 s7 s8 s9 pl ids nm,HO.abs 
 A',HO.abs R2,HO.abs DQ,fH M,.cells 82 [.k (aC i.1),.k (aC i.2.1),.k (aC i.2.2.1),.k (aC i.2.2.2.1),.k (aC i.2.2.2.2.1),.k (aC i.2.2.2.2.2.1),.k (aC i.2.2.2.2.2.2.1),.k (aC i.2.2.2.2.2.2.2.1),.k (aC 
 i.2.2.2.2.2.2.2.2.1),.k (aC i.2.2.2.2.2.2.2.2.2.1),.k (.string i.2.2.2.2.2.2.2.2.2.2.1),.k a6,.k eT,Cl.d eD l]])) (Q l7 [gk T im s0 s1 s2 s3 s4 s5 s6 s7 s8 s9 pl ids nm,HO.abs A',HO.abs R2,HO.abs DQ,fH M, 
 .cells 82 [.k (aC i.1),.k (aC i.2.1),.k (aC i.2.2.1),.k (aC i.2.2.2.1),.k (aC i.2.2.2.2.1),.k (aC i.2.2.2.2.2.1),.k (aC i.2.2.2.2.2.2.1),.k (aC i.2.2.2.2.2.2.2.1),.k (aC i.2.2.2.2.2.2.2.2.1),.k (aC 
 i.2.2.2.2.2.2.2.2.2.1),.k (.string i.2.2.2.2.2.2.2.2.2.2.1),.k a6,.k eT,Cl.d eD l]])))) (br (kd==1) (∃ fs R,RB R2 fs R/\∃ o,vp o R i.2.2.2.2.2.2.1 fs i.2.2.2.2.2.2.2.1 (∀ (ajT:Value->Atom) (z:List UInt8) (nx e: 
 Int),RB ajT fs R->pc fs R o (aZ i.2.2.2.2.2.2.2.1) z nx e->cY z (cj nx e (br (e !=0) (Q sj [gk T im s0 s1 s2 s3 s4 s5 s6 s7 s8 s9 pl ids nm,HO.abs A',HO.abs ajT,HO.abs DQ,fH M]) (∃ Eb,iG ⟨#[]⟩ Eb/\ 
 List.length Eb<=1024/\z=gN Eb/\(aL (bO Eb)->aF .i64 0->Q l7 [gk T im s0 s1 s2 s3 s4 s5 s6 s7 s8 s9 pl ids nm,HO.abs A',HO.abs ajT,HO.abs DQ,fH M,.cells 82 [.k (aC i.1),.k (aC i.2.1),.k (aC i.2.2.1), 
 .k (aC i.2.2.2.1),.k (aC i.2.2.2.2.1),.k (aC i.2.2.2.2.2.1),.k (aC i.2.2.2.2.2.2.1),.k (aC i.2.2.2.2.2.2.2.1),.k (aC i.2.2.2.2.2.2.2.2.1),.k (aC i.2.2.2.2.2.2.2.2.2.1),.k (.string i.2.2.2.2.2.2.2.2.2.2.1),.k a6, 
 Cl.d dh Eb,Cl.d eD l]])))))) (Q l7 [gk T im s0 s1 s2 s3 s4 s5 s6 s7 s8 s9 pl ids nm,HO.abs A',HO.abs R2,HO.abs DQ,fH M,.cells 82 [.k (aC i.1),.k (aC i.2.1),.k (aC i.2.2.1),.k (aC i.2.2.2.1),.k (aC 
 i.2.2.2.2.1),.k (aC i.2.2.2.2.2.1),.k (aC i.2.2.2.2.2.2.1),.k (aC i.2.2.2.2.2.2.2.1),.k (aC i.2.2.2.2.2.2.2.2.1),.k (aC i.2.2.2.2.2.2.2.2.2.1),.k (.string i.2.2.2.2.2.2.2.2.2.2.1),.k a6,.k eT,Cl.d eD l]]))) (br 
 (kd==2) (iN im (∃ T_1 x fs,OV T_1 im i.2.2.2.2.2.2.1 x fs i.2.2.2.2.2.2.2.1 s2 (aF .i64 (i.2.2.2.2.2.2.1+(a7 (ae fs)))->aF .i64 0->br (decide (i.2.2.2.2.2.2.2.1≥128)) (br (decide (i.2.2.2.2.2.2.1< 64)) (Q 
 sj [gk T im s0 s1 s2 s3 s4 s5 s6 s7 s8 s9 pl ids nm,HO.abs A',HO.abs R2,HO.abs R3,fH M]) (Q l7 [gk T im s0 s1 s2 s3 s4 s5 s6 s7 s8 s9 pl ids nm,HO.abs A',HO.abs R2,HO.abs R3,fH M,.cells 82 [.k (aC i.1),.k (aC 
 i.2.1),.k (aC i.2.2.1),.k (aC i.2.2.2.1),.k (aC i.2.2.2.2.1),.k (aC i.2.2.2.2.2.1),.k (aC i.2.2.2.2.2.2.1),.k (aC i.2.2.2.2.2.2.2.1),.k (aC i.2.2.2.2.2.2.2.2.1),.k (aC i.2.2.2.2.2.2.2.2.2.1),.k (.string 
 i.2.2.2.2.2.2.2.2.2.2.1),.k a6,.k eT,.k eT]])) (Q l7 [gk T im s0 s1 s2 s3 s4 s5 s6 s7 s8 s9 pl ids nm,HO.abs A',HO.abs R2,HO.abs R3,fH M,.cells 82 [.k (aC i.1),.k (aC i.2.1),.k (aC i.2.2.1),.k (aC 
 i.2.2.2.1),.k (aC i.2.2.2.2.1),.k (aC i.2.2.2.2.2.1),.k (aC i.2.2.2.2.2.2.1),.k (aC i.2.2.2.2.2.2.2.1),.k (aC i.2.2.2.2.2.2.2.2.1),.k (aC i.2.2.2.2.2.2.2.2.2.1),.k (.string i.2.2.2.2.2.2.2.2.2.2.1),.k a6,.k eT, 
 .k eT]])))) (br (kd==1) (∃ fs R,RB R2 fs R/\∃ o,vp o R i.2.2.2.2.2.2.1 fs i.2.2.2.2.2.2.2.1 (∀ (DQ:Value->Atom) (z:List UInt8) (nx e:Int),RB DQ fs R->pc fs R o (aZ i.2.2.2.2.2.2.2.1) z nx e->cY z (cj 
 nx e (br (e !=0) (Q sj [gk T im s0 s1 s2 s3 s4 s5 s6 s7 s8 s9 pl ids nm,HO.abs A',HO.abs DQ,HO.abs R3,fH M]) (∃ l,iG ⟨#[]⟩ l/\List.length l<=1024/\z=gN l/\(aL (bO l)->aF .i64 0->Q l7 [gk T im s0 s1 
 s2 s3 s4 s5 s6 s7 s8 s9 pl ids nm,HO.abs A',HO.abs DQ,HO.abs R3,fH M,.cells 82 [.k (aC i.1),.k (aC i.2.1),.k (aC i.2.2.1),.k (aC i.2.2.2.1),.k (aC i.2.2.2.2.1),.k (aC i.2.2.2.2.2.1),.k (aC i.2.2.2.2.2.2.1),.k 
 (aC i.2.2.2.2.2.2.2.1),.k (aC i.2.2.2.2.2.2.2.2.1),.k (aC i.2.2.2.2.2.2.2.2.2.1),.k (.string i.2.2.2.2.2.2.2.2.2.2.1),.k a6,Cl.d dh l,.k eT]])))))) (Q l7 [gk T im s0 s1 s2 s3 s4 s5 s6 s7 s8 s9 pl ids nm,HO.abs 
 A',HO.abs R2,HO.abs R3,fH M,.cells 82 [.k (aC i.1),.k (aC i.2.1),.k (aC i.2.2.1),.k (aC i.2.2.2.1),.k (aC i.2.2.2.2.1),.k (aC i.2.2.2.2.2.1),.k (aC i.2.2.2.2.2.2.1),.k (aC i.2.2.2.2.2.2.2.1),.k (aC 
 i.2.2.2.2.2.2.2.2.1),.k (aC i.2.2.2.2.2.2.2.2.2.1),.k (.string i.2.2.2.2.2.2.2.2.2.2.1),.k a6,.k eT,.k eT]]))))))))))
theorem ace:cG 108 ael:=by
 intro args H Q h;obtain ⟨ref,kd,T,im,s0,s1,s2,s3,s4,s5,s6,s7,s8,s9,pl,ids,nm,R1,R2,R3,M,rfl,rfl,h⟩:=h;refine Wp.cellOf (p:=5) (t:=82) (e:=bB) ?_;refine Wp.dJ ajA fA ⟨[],[]⟩ Tryz.f108 (KU ref kd T im s0 s1 s2 s3 s4 s5 s6 s7 s8 s9 pl ids nm R1 R2 R3 M) ?_;unfold KU OV sj iN l7 vp pt cY eT dr cj bO aZ a6 cA aC a7 aE aL gk fH;obtain ⟨d,N,hd,⟨rfl,rfl,hs,rfl,rfl⟩,⟨hR1,hR2,hR3⟩,x,hx,rfl,hg,h⟩:=h;obtain ⟨z1,z2,z3,z4,z5,z6,z7,z8⟩:=hd.small;obtain ⟨i,hN,o,ho,hro,q,hq⟩:=hd.recAt hx hg;have Wd:=hd.aox hx hN;have hf:=hd.sf;have hs2:(d.s.2.2.1:Int)<=s2:=by rw [hs];exact bz _
 rw [hs] at hf;have hf:s8=(d.pl.length:Int):=hf;obtain ⟨fr,efr⟩:∃ a:Int,a=i.2.2.2.2.2.2.2.2.1:=⟨_,rfl⟩;obtain ⟨xv,exv⟩:∃ a:Int,a=i.2.2.2.2.2.1:=⟨_,rfl⟩;obtain ⟨sz,esz⟩:∃ a:Int,a=i.2.2.2.2.2.2.2.1:=⟨_,rfl⟩;obtain ⟨st,est⟩:∃ a:Int,a=i.2.2.2.2.2.2.1:=⟨_,rfl⟩;have Wd:fr<=(d.pl.length:Int):=by rw [efr];exact Wd
 have hu:=Jk hN.uid;have hgd:=Jk hN.gid;have hu0:=hN.ok.cm.q2.1;have hg0:=hN.ok.cm.q3.1;have hxc:=hN.ok.cm.q5;refine λ_ _=>⟨d.fI,d.t.RI,hR1,o,ho,hro,i,q,hN.ok,hq,λB1 hB1 _ _ _ _ _ _ _ _ _ _ _ _ _=>aw (λe=>?_) (λ_=>λ_=>aw (λe=>?_) (λ_=>aw (λe=>?_) (λ_=>aw (λhxa=>?_) (λhxa=>?_))))⟩
 .rw [hN.kind] at e;simp at e
 .have e:=of_decide_eq_true e;have e:(d.ids.length:Int)<=max (i.2.2.1:Int) (i.2.2.2.1:Int):=e;have u0:(0:Int)<=(i.2.2.1:Int):=hu0;have g0:(0:Int)<=(i.2.2.2.1:Int):=hg0;omega
 .have e:=of_decide_eq_true e;have e:s8< fr:=by rw [efr];exact e
  omega
 .have hxa:=of_decide_eq_true hxa;have hxa:0< xv:=by rw [exv];exact hxa
  rcases hd.ake hx hN with ⟨w1,_⟩| ⟨w1,w2,w3,o3,w4,w5,q3,w6⟩
  .have w1:xv=0:=by rw [exv];exact w1
   omega
  have hxc:xv<=4294967295:=by rw [exv];exact hxc.2
  refine ⟨by rw [<-exv];unfold aF;omega,d.fX,d.t.RX,hR3,o3,w4,w5,x.2.2.2.2.2.2.1,q3,w3,w2,w6,λB3 hB3 _ _=>?_⟩;refine aw (λhk=>?_) (λhk=>aw (λtV=>?_) (λtV=>⟨_,(i,0,[],x.2.2.2.2.2.2.1,()),rfl,rfl,h B1 R2 B3 (i,0,[],x.2.2.2.2.2.2.1,()) hB1 hR2 hB3 ⟨hN,rfl,(.inr ⟨by first| (rw [eq_of_beq hk];decide)| simpa using tV,rfl⟩),rfl⟩⟩))
  .obtain ⟨fs,f1,f2,f3,f4,_⟩:=hd.fileAt hx (eq_of_beq hk) hN;have hx4:=(ov (hd.tok.may x hx)).2;refine ⟨by omega,dD,x.2.2.2.2.1,fs,f1,f2,hx4,Int.le_trans f4 hs2,λ_ _=>aw (λq=>aw (λq2=>?_) (λ_=>⟨_,(i,0,[],x.2.2.2.2.2.2.1,()),rfl,rfl,h B1 R2 B3 (i,0,[],x.2.2.2.2.2.2.1,()) hB1 hR2 hB3 ⟨hN,rfl,(.inr ⟨by first| (rw [eq_of_beq hk];decide)| simpa using tV,rfl⟩),rfl⟩⟩)) (λ_=>⟨_,(i,0,[],x.2.2.2.2.2.2.1,()),rfl,rfl,h B1 R2 B3 (i,0,[],x.2.2.2.2.2.2.1,()) hB1 hR2 hB3 ⟨hN,rfl,(.inr ⟨by first| (rw [eq_of_beq hk];decide)| simpa using tV,rfl⟩),rfl⟩⟩)⟩
   have q:(128:Int)<=sz:=by rw [esz];exact of_decide_eq_true q
   have q2:st< 64:=by rw [est];exact of_decide_eq_true q2
   have f2:sz=(x.2.2.2.2.1.length:Int):=by rw [esz];exact f2
   have f3:64<=st:=by rw [est];exact f3 (by omega)
   omega
  .obtain ⟨es,l1,l2,l3,l4,o2,p1,p2,p3⟩:=hd.YA (eq_of_beq tV) hN;have hen:((i.2.2.2.2.2.2.2.1:Int)).toNat=(gN es).length:=by rw [l4];rfl
   refine ⟨d.fL,d.t.RL,hR2,o2,by omega,p2,⟨by rw [l4];exact jv _,by rw [l4];show ((gN es).length:Int)<=10000000;omega⟩,λB2 z nx e hB2 hz _ _ _=>?_⟩;rw [hen] at hz;obtain ⟨rfl,_,rfl⟩:=hz.ok p1;refine aw (λq=>by cases q) (λ_=>⟨es,l1,l3,p3,λ_ _=>⟨_,(i,0,es,x.2.2.2.2.2.2.1,()),rfl,rfl,h B1 B2 B3 (i,0,es,x.2.2.2.2.2.2.1,()) hB1 hB2 hB3 ⟨hN,rfl,(.inl ⟨eq_of_beq tV,l1,l2⟩),rfl⟩⟩⟩)
 .have hxa:=of_decide_eq_false hxa;have hxa:¬0< xv:=by rw [exv];exact hxa
  rcases hd.ake hx hN with ⟨_,w1⟩| ⟨w1,_⟩;rotate_left
  .have w1:1<=xv:=by rw [exv];exact w1
   omega
  refine aw (λhk=>?_) (λhk=>aw (λtV=>?_) (λtV=>⟨_,(i,0,[],[],()),rfl,rfl,h B1 R2 R3 (i,0,[],[],()) hB1 hR2 hR3 ⟨hN,rfl,(.inr ⟨by first| (rw [eq_of_beq hk];decide)| simpa using tV,rfl⟩),w1.symm⟩⟩))
  .obtain ⟨fs,f1,f2,f3,f4,_⟩:=hd.fileAt hx (eq_of_beq hk) hN;have hx4:=(ov (hd.tok.may x hx)).2;refine ⟨by omega,dD,x.2.2.2.2.1,fs,f1,f2,hx4,Int.le_trans f4 hs2,λ_ _=>aw (λq=>aw (λq2=>?_) (λ_=>⟨_,(i,0,[],[],()),rfl,rfl,h B1 R2 R3 (i,0,[],[],()) hB1 hR2 hR3 ⟨hN,rfl,(.inr ⟨by first| (rw [eq_of_beq hk];decide)| simpa using tV,rfl⟩),w1.symm⟩⟩)) (λ_=>⟨_,(i,0,[],[],()),rfl,rfl,h B1 R2 R3 (i,0,[],[],()) hB1 hR2 hR3 ⟨hN,rfl,(.inr ⟨by first| (rw [eq_of_beq hk];decide)| simpa using tV,rfl⟩),w1.symm⟩⟩)⟩
   have q:(128:Int)<=sz:=by rw [esz];exact of_decide_eq_true q
   have q2:st< 64:=by rw [est];exact of_decide_eq_true q2
   have f2:sz=(x.2.2.2.2.1.length:Int):=by rw [esz];exact f2
   have f3:64<=st:=by rw [est];exact f3 (by omega)
   omega
  .obtain ⟨es,l1,l2,l3,l4,o2,p1,p2,p3⟩:=hd.YA (eq_of_beq tV) hN;have hen:((i.2.2.2.2.2.2.2.1:Int)).toNat=(gN es).length:=by rw [l4];rfl
   refine ⟨d.fL,d.t.RL,hR2,o2,by omega,p2,⟨by rw [l4];exact jv _,by rw [l4];show ((gN es).length:Int)<=10000000;omega⟩,λB2 z nx e hB2 hz _ _ _=>?_⟩;rw [hen] at hz;obtain ⟨rfl,_,rfl⟩:=hz.ok p1;refine aw (λq=>by cases q) (λ_=>⟨es,l1,l3,p3,λ_ _=>⟨_,(i,0,es,[],()),rfl,rfl,h B1 B2 R3 (i,0,es,[],()) hB1 hB2 hR3 ⟨hN,rfl,(.inl ⟨eq_of_beq tV,l1,l2⟩),w1.symm⟩⟩⟩)
def Dq:Ct:=λargs H Q=>(match args with
 | [.v (.c (.p 0 0)),.v (.c (.k (.int .i64 ref))),.v (.c (.k (.int .i64 kd)))]=>(match H with
 | [o0,o1,o2,o3,o4]=>imR o0 λT im s0 s1 s2 s3 s4 s5 s6 s7 s8 s9 pl ids nm=>(match o1 with
 | .abs R1=>(match o2 with
 | .abs R2=>(match o3 with
 | .abs R3=>Mo o4 λM=>∃ (d:IR) (N:List bu),d.Ok T N/\(T=dD/\im=d.im T/\d.s=(s0,s1,s2,s3,s4,s5,s6,s7,s8,s9,())/\pl=d.pl/\ids=d.ids)/\(RB R1 d.fI d.t.RI/\RB R2 d.fL d.t.RL/\RB R3 d.fX d.t.RX)/\∃ x∈N,kd=x.2.2.1/\Kk.get .int d.t.Mr x.2.1=some ref/\∀ B1 B2 B3 r,RB B1 d.fI d.t.RI->RB B2 d.fL d.t.RL->RB B3 d.fX d.t.RX->rE d N x 0 r->Q (.c (.p 5 0)) [.cells 90 [.de (.int .u32) T 0 0,.d .u8 im,.k (.int .i64 s0),.k (.int .i64 s1),.k (.int .i64 s2),.k (.int .i64 s3),.k (.int .i64 s4),.k (.int .i64 s5),.k (.int .i64 s6),.k (.int .i64 s7),.k (.int .i64 s8),.k (.int .i64 s9),.d (.int .i64) pl,.d (.int .i64) ids,.p 1 0,.p 2 0,.p 3 0,.m 4,.k (.int .i64 nm)],.abs B1,.abs B2,.abs B3,.ab (.pm 3 82 bB M),.cells 82 [.k (.int .i64 r.1.1),.k (.int .i64 r.1.2.1),.k (.int .i64 r.1.2.2.1),.k (.int .i64 r.1.2.2.2.1),.k (.int .i64 r.1.2.2.2.2.1),.k (.int .i64 r.1.2.2.2.2.2.1),.k (.int .i64 r.1.2.2.2.2.2.2.1),.k (.int .i64 r.1.2.2.2.2.2.2.2.1),.k (.int .i64 r.1.2.2.2.2.2.2.2.2.1),.k (.int .i64 r.1.2.2.2.2.2.2.2.2.2.1),.k (.string r.1.2.2.2.2.2.2.2.2.2.2.1),.k (.int .i64 r.2.1),.d dh r.2.2.1,.d eD r.2.2.2.1]]
 | _=>False)
 | _=>False)
 | _=>False)
 | _=>False)
 | _=>False)
theorem WH:cG 108 Dq:=λargs H Q h=>by
 unfold Dq Mo imR V9 YP at h;dsimp only at h
 repeat (split at h;rotate_left;exact h.elim)
 exact ace _ _ _ ⟨_,_,_,_,_,_,_,_,_,_,_,_,_,_,_,_,_,_,_,_,_,rfl,rfl,h⟩
end Go.Proofs

namespace Go.Lm
open Go
def n9 (N:List bu):Nat->Int->List Int
 | 0,_=>[]
 | n+1,k=>k::(dz (aK noTy N k).1 N 0).flatMap (n9 N n)
variable {N:List bu} {ids:List Int} {F:List (Int×eE.den)}
theorem PB (t:ue N ids F) {a b:Int} (a0:0<=a) (a1:a< (N.length:Int)) (b0:0<=b) (b1:b< (N.length:Int)) (h:(aK noTy N a).1=(aK noTy N b).1):a=b:=by
 rw [gV (e:=noTy) a0 a1,gV (e:=noTy) b0 b1] at h;have P:=dj.1 t.ord;rcases Int.lt_trichotomy a b with q| q| q
 .have:=P a.toNat b.toNat (by omega) (by omega) (by omega);rw [h,jV] at this;exact absurd this (by decide)
 .exact q
 .have:=P b.toNat a.toNat (by omega) (by omega) (by omega);rw [h,jV] at this;exact absurd this (by decide)
theorem ql (t:ue N ids F):∀ (n:Nat) {k:Int},0<=k->k< (N.length:Int)->17<=(aK noTy N k).1.length+n->∀ j:Int,j∈n9 N n k↔0<=j/\j< (N.length:Int)/\pre (aK noTy N k).1 (aK noTy N j)
 | 0,k,k0,k1,hn,j=>by
  have:=t.deep _ (uF (e:=noTy) k0 k1);omega
 | n+1,k,k0,k1,hn,j=>by
  unfold n9;rw [bm,List.mem_flatMap];constructor
  .rintro (rfl| ⟨a,ha,hj⟩)
   .exact ⟨k0,k1,sG _⟩
   .obtain ⟨a0,a1,al,ap⟩:=fW ha;obtain ⟨j0,j1,jp⟩:=(ql t n a0 a1 (by omega) j).1 hj;exact ⟨j0,j1,Gh (by omega) ap jp⟩
  .rintro ⟨j0,j1,jp⟩;have hl:=AH jp;rcases Nat.eq_or_lt_of_le hl with q| q
   .have e:(aK noTy N j).1=(aK noTy N k).1:=by
     unfold pre at jp;rw [aT (by omega)] at jp;exact jp
    exact .inl (PB t j0 j1 k0 k1 e)
   .obtain ⟨a,ha,hp⟩:=ud t (p:=(aK noTy N k).1) ((aK noTy N j).1.length - ((aK noTy N k).1.length+1)) (uF (e:=noTy) j0 j1) jp (by omega);obtain ⟨a0,a1,al,_⟩:=fW ha;exact .inr ⟨a,ha,(ql t n a0 a1 (by omega) j).2 ⟨j0,j1,hp⟩⟩
theorem CD {α β:Type} {f:α->List β}:∀ {l:List α},l.Nodup->(∀ a∈l,(f a).Nodup)->(∀ a∈l,∀ b∈l,a≠b->∀ x∈f a,x ∉ f b)->(l.flatMap f).Nodup
 | [],_,_,_=>List.nodup_nil
 | a::l,hn,h1,h2=>by
  obtain ⟨n1,n2⟩:=eB.1 hn;rw [j9,fh];refine ⟨h1 a aX,CD n2 (λb hb=>h1 b (aH _ hb)) λb hb c hc=>h2 b (aH _ hb) c (aH _ hc),λx hx y hy e=>?_⟩;subst e;obtain ⟨b,hb,hq⟩:=List.mem_flatMap.1 hy;exact h2 a aX b (aH _ hb) (λe=>n1 (e▸hb)) x hx hq
theorem EI (t:ue N ids F):∀ (n:Nat) {k:Int},0<=k->k< (N.length:Int)->17<=(aK noTy N k).1.length+n->(n9 N n k).Nodup
 | 0,k,k0,k1,hn=>List.nodup_nil
 | n+1,k,k0,k1,hn=>by
  unfold n9;have hK:=pX (aK noTy N k).1 (L:=N) (k:=0);refine eB.2 ⟨λq=>?_,CD (hK.imp λh e=>by rw [e] at h;exact Int.lt_irrefl _ h) (λa ha=>?_) λa ha b hb hab x hx hy=>?_⟩
  .obtain ⟨a,ha,hq⟩:=List.mem_flatMap.1 q;obtain ⟨a0,a1,al,_⟩:=fW ha;have:=AH ((ql t n a0 a1 (by omega) k).1 hq).2.2;omega
  .obtain ⟨a0,a1,al,_⟩:=fW ha;exact EI t n a0 a1 (by omega)
  .obtain ⟨a0,a1,al,_⟩:=fW ha;obtain ⟨b0,b1,bl,_⟩:=fW hb;have p1:=((ql t n a0 a1 (by omega) x).1 hx).2.2;have p2:=((ql t n b0 b1 (by omega) x).1 hy).2.2;refine hab (PB t a0 a1 b0 b1 ?_);unfold pre at p1 p2;rw [<-p1,<-p2,al,bl]
theorem akL:∀ {l:List Int} {n:Nat},l.Nodup->(∀ x∈l,0<=x/\x< (n:Int))->l.length<=n:=λ{l n} h1 h2=>by
 have:=pig (n:=n) (l:=l.map ax) ?_ ?_
 .rwa [bH] at this
 .rw [List.Nodup,mL];refine h1.imp_of_mem λ{a b} ha hb hab e=>hab ?_;have:=h2 a ha;have:=h2 b hb;omega
 .intro x hx;obtain ⟨y,hy,rfl⟩:=aP.1 hx;have:=h2 y hy;omega
def Ei (N:List bu) (V:List Int) (i:Int):Nat:=V.countP λv=>(aK noTy N v).2.1==i
structure mq (d:IR) (N:List bu) (V:List Int) (M:List (Int×Nat×bB.den)):Prop where
 keys:(M.map (·.1)).Nodup
 kC:∀ p∈M,∃ k∈V,Kk.get .int d.t.Mr (aK noTy N k).2.1=some p.1/\rE d N (aK noTy N k) (Ei N V (aK noTy N k).2.1:Nat) p.2.2
 has:∀ k∈V,∃ p∈M,Kk.get .int d.t.Mr (aK noTy N k).2.1=some p.1
theorem mq.nil (d:IR) (N:List bu):mq d N [] []:=⟨List.nodup_nil,λp hp=>(by cases hp),λk hk=>(by cases hk)⟩
theorem ub (N:List bu) (V:List Int) (k i:Int):Ei N (V++ [k]) i=Ei N V i+if (aK noTy N k).2.1=i then 1 else 0:=by
 unfold Ei;rw [List.countP_append,List.countP_singleton];by_cases h:(aK noTy N k).2.1=i;rw [if_pos h,if_pos (by simpa using h)];rw [if_neg h,if_neg (by simpa using h)]
theorem mq.new {d:IR} {T:List Int} {V:List Int} {M:List (Int×Nat×bB.den)} (hd:d.Ok T N) (h:mq d N V M) {k ref:Int} (hr:Kk.get .int d.t.Mr (aK noTy N k).2.1=some ref) (kB:∀ p∈M,p.1≠ref) {bb:Nat} {r:bB.den} (hR:rE d N (aK noTy N k) 1 r):mq d N (V++ [k]) ((ref,bb,r)::M):=by
 have gx:∀ v∈V,(aK noTy N v).2.1≠(aK noTy N k).2.1:=λv hv e=>by
  obtain ⟨p,hp,hg⟩:=h.has v hv;rw [e,hr] at hg;exact kB p hp (aj hg).symm
 have h0:Ei N V (aK noTy N k).2.1=0:=by
  unfold Ei;rw [List.countP_eq_zero];intro v hv;simpa using gx v hv
 refine ⟨?_,λp hp=>?_,λv hv=>?_⟩
 .rw [bX,eB];refine ⟨λq=>?_,h.keys⟩;obtain ⟨p,hp,e⟩:=aP.1 q;exact kB p hp e
 .rcases bm.1 hp with rfl| hp
  .refine ⟨k,iK _ aX,hr,?_⟩;rw [ub,h0,if_pos rfl];exact hR
  .obtain ⟨v,hv,h1,h2⟩:=h.kC p hp;refine ⟨v,bM _ hv,h1,?_⟩;rw [ub,if_neg (λe=>gx v hv e.symm)];exact h2
 .rcases aY.1 hv with hv| hv
  .obtain ⟨p,hp,hg⟩:=h.has v hv;exact ⟨p,aH _ hp,hg⟩
  .obtain rfl:=aR.1 hv;exact ⟨_,aX,hr⟩
theorem mq.again {d:IR} {T:List Int} {V:List Int} {M:List (Int×Nat×bB.den)} (hd:d.Ok T N) (h:mq d N V M) {k ref:Int} (hr:Kk.get .int d.t.Mr (aK noTy N k).2.1=some ref) {i:Nat} {bb:Nat} {r:bB.den} (hi:M[i]?=some (ref,bb,r)):mq d N (V++ [k]) (M.set i (ref,bb,(r.1,((r.2.1:Int)+1:Int),r.2.2))):=by
 obtain ⟨hl,pB⟩:=au.1 hi;have uk:(ref,bb,r)∈M:=pB▸dw hl;have zU:(M.set i (ref,bb,(r.1,((r.2.1:Int)+1:Int),r.2.2))).map (·.1)=M.map (·.1):=by
  rw [List.map_set];have:(M.map (·.1)).set i ref=M.map (·.1):=by
   have e:(M.map (·.1))[i]'(by rw [bH];exact hl)=ref:=by rw [List.getElem_map,pB]
   rw [<-e,List.set_getElem_self]
  exact this
 have anH:∀ (j:Nat) (hj:j< M.length),M[j].1=ref->j=i:=λj hj e=>by
  refine (List.getElem_inj (h₀:=by rw [bH];exact hj) (h₁:=by rw [bH];exact hl) h.keys).1 ?_;rw [List.getElem_map,List.getElem_map,pB];exact e
 refine ⟨by rw [zU];exact h.keys,λp hp=>?_,λv hv=>?_⟩
 .obtain ⟨j,hj,rfl⟩:=dR.1 hp;rw [gE] at hj;rw [List.getElem_set];by_cases e:i=j
  .rw [if_pos e];obtain ⟨v,hv,h1,h2⟩:=h.kC _ uk;have he:=hd.ok.inj _ _ _ h1 hr;refine ⟨v,bM _ hv,h1,⟨h2.n,?_,h2.list,h2.xa⟩⟩;rw [ub,if_pos he.symm];have:=h2.nm;show (r.2.1:Int)+1=_;rw [this];rfl
  .rw [if_neg e];obtain ⟨v,hv,h1,h2⟩:=h.kC _ (dw hj);refine ⟨v,bM _ hv,h1,?_⟩;rw [ub,if_neg (λq=>e (anH j hj (by rw [<-q,hr] at h1;exact (aj h1).symm)).symm)];exact h2
 .have hk:∀ q,(∃ p∈M,some q=some p.1)->∃ p∈M.set i (ref,bb,(r.1,((r.2.1:Int)+1:Int),r.2.2)),some q=some p.1:=λq ⟨p,hp,e⟩=>by
   have:p.1∈M.map (·.1):=aP.2 ⟨p,hp,rfl⟩;rw [<-zU] at this;obtain ⟨p',YW,e'⟩:=aP.1 this;exact ⟨p',YW,by rw [e,e']⟩
  rcases aY.1 hv with hv| hv
  .obtain ⟨p,hp,hg⟩:=h.has v hv;obtain ⟨p',h1,h2⟩:=hk p.1 ⟨p,hp,rfl⟩;exact ⟨p',h1,by rw [hg];exact h2⟩
  .obtain rfl:=aR.1 hv;obtain ⟨p',h1,h2⟩:=hk ref ⟨_,uk,rfl⟩;exact ⟨p',h1,by rw [hr];exact h2⟩
theorem Un {d:IR} {T:List Int} {V:List Int} {M:List (Int×Nat×bB.den)} (hd:d.Ok T N) (h:mq d N V M) {n:Nat} {k ref:Int} (k0:0<=k) (k1:k< (N.length:Int)) (hV:∀ v∈V,0<=v/\v< (N.length:Int)) (hnd:(V++n9 N (n+1) k).Nodup) (hr:Kk.get .int d.t.Mr (aK noTy N k).2.1=some ref) {i:Nat} {bb:Nat} {r:bB.den} (hi:M[i]?=some (ref,bb,r)):(aK noTy N k).2.2.1≠1/\r.1.1=(aK noTy N k).2.2.1/\n9 N (n+1) k= [k]:=by
 obtain ⟨hl,pB⟩:=au.1 hi;have uk:(ref,bb,r)∈M:=pB▸dw hl;obtain ⟨v,hv,h1,h2⟩:=h.kC _ uk;have he:=hd.ok.inj _ _ _ h1 hr;obtain ⟨v0,v1⟩:=hV v hv;have hmk:aK noTy N k∈N:=uF (e:=noTy) k0 k1;have hmv:aK noTy N v∈N:=uF (e:=noTy) v0 v1;obtain ⟨o1,o2⟩:=hd.tok.one _ hmk _ hmv he.symm;have gx:(aK noTy N k).2.2.1≠1:=λhk=>by
  have:=PB hd.tok v0 v1 k0 k1 (by rw [<-o1 hk]);subst this;exact (fh.1 hnd).2.2 _ hv _ (by unfold n9;exact aX) rfl
 refine ⟨gx,?_,?_⟩;rw [h2.n.kind,o2]
 .unfold n9;have:dz (aK noTy N k).1 N 0= []:=by
   rw [List.eq_nil_iff_forall_not_mem];intro a ha;obtain ⟨a0,a1,al,ap⟩:=fW ha;have:=hd.tok.below hmk gx (uF (e:=noTy) a0 a1) ap;rw [this] at al;omega
  rw [this];rfl
theorem fZ.at {M:List (Int×Int)} {d:Nat}:∀ {ks:List Int} {es:List dh.den},fZ N M d ks es->∀ (j:Nat) (h1:j< ks.length) (h2:j< es.length),es[j].2.1=(aK noTy N ks[j]).2.2.1/\Kk.get .int M (aK noTy N ks[j]).2.1=some es[j].2.2.1
 | [],[],_,_,h,_=>by simp at h
 | _::_,_::_,⟨_,q2,q3,_⟩,0,_,_=>⟨q2,q3⟩
 | _::_,_::_,⟨_,_,_,q4⟩,j+1,h1,h2=>fZ.at q4 j (by simpa using h1) (by simpa using h2)
 | [],_::_,h,_,_,_=>h.elim
 | _::_,[],h,_,_,_=>h.elim
theorem acv (N:List bu) (n:Nat) (V:List Int) (k:Int) {K:List Int} {j:Nat} (hj:j< K.length):(V++k::(K.take j).flatMap (n9 N n))++n9 N n K[j]=V++k::(K.take (j+1)).flatMap (n9 N n)/\∃ q,V++k::K.flatMap (n9 N n)=(V++k::(K.take (j+1)).flatMap (n9 N n))++q:=by
 have e:K.take (j+1)=K.take j++ [K[j]]:=bU hj;refine ⟨by rw [e,List.flatMap_append,aG];simp,(K.drop (j+1)).flatMap (n9 N n),?_⟩
 conv=>lhs;rw [<-cv (j+1) K,List.flatMap_append]
 simp
end Go.Lm

namespace Go.Proofs
open Go Go.Lm Go.RowKit
set_option maxRecDepth 1000000
def qZ (n:Nat):Ct:=λargs H Q=>(match args with
 | [.v (.c (.p 0 0)),.v (.c (.k (.int .i64 ref))),.v (.c (.k (.int .i64 kd))),.v (.c (.k (.int .i64 dp)))]=>(match H with
 | [o0,o1,o2,o3,o4]=>imR o0 λT im s0 s1 s2 s3 s4 s5 s6 s7 s8 s9 pl ids nm=>(match o1 with
 | .abs R1=>(match o2 with
 | .abs R2=>(match o3 with
 | .abs R3=>Mo o4 λM=>∃ (d:IR) (N:List bu),d.Ok T N/\(T=dD/\im=d.im T/\d.s=(s0,s1,s2,s3,s4,s5,s6,s7,s8,s9,())/\pl=d.pl/\ids=d.ids)/\(RB R1 d.fI d.t.RI/\RB R2 d.fL d.t.RL/\RB R3 d.fX d.t.RX)/\∃ (V:List Int) (k:Int),mq d N V M/\nm=V.length/\(V++n9 N n k).Nodup/\(∀ v∈V,0<=v/\v< (N.length:Int))/\(0<=k/\k< (N.length:Int)/\dp=(aK noTy N k).1.length/\17<=(aK noTy N k).1.length+n)/\kd=(aK noTy N k).2.2.1/\Kk.get .int d.t.Mr (aK noTy N k).2.1=some ref/\∀ B1 B2 B3 M',RB B1 d.fI d.t.RI->RB B2 d.fL d.t.RL->RB B3 d.fX d.t.RX->mq d N (V++n9 N n k) M'->Q (.bool true) [.cells 90 [.de (.int .u32) T 0 0,.d .u8 im,.k (.int .i64 s0),.k (.int .i64 s1),.k (.int .i64 s2),.k (.int .i64 s3),.k (.int .i64 s4),.k (.int .i64 s5),.k (.int .i64 s6),.k (.int .i64 s7),.k (.int .i64 s8),.k (.int .i64 s9),.d (.int .i64) pl,.d (.int .i64) ids,.p 1 0,.p 2 0,.p 3 0,.m 4,.k (.int .i64 ((V++n9 N n k).length:Nat))],.abs B1,.abs B2,.abs B3,.ab (.pm 3 82 bB M')]
 | _=>False)
 | _=>False)
 | _=>False)
 | _=>False)
 | _=>False)
def aiH (n:Nat):Ct:=λargs H Q=>∃ (ref:Int) (kd:Int) (dp:Int) (T:List Int) (im:List UInt8) (s0:Int) (s1:Int) (s2:Int) (s3:Int) (s4:Int) (s5:Int) (s6:Int) (s7:Int) (s8:Int) (s9:Int) (pl:List Int) (ids:List Int) (nm:Int) (R1:Value->Atom) (R2:Value->Atom) (R3:Value->Atom) (M:List (Int×Nat×bB.den)),args= [.v (.c (.p 0 0)),.int ref,.int kd,.int dp]/\H= [.cells 90 [.de (.int .u32) T 0 0,.d .u8 im,.k (.int .i64 s0),.k (.int .i64 s1),.k (.int .i64 s2),.k (.int .i64 s3),.k (.int .i64 s4),.k (.int .i64 s5),.k (.int .i64 s6),.k (.int .i64 s7),.k (.int .i64 s8),.k (.int .i64 s9),.d (.int .i64) pl,.d (.int .i64) ids,.p 1 0,.p 2 0,.p 3 0,.m 4,.k (.int .i64 nm)],.abs R1,.abs R2,.abs R3,.ab (.pm 3 82 bB M)]/\∃ (d:IR) (N:List bu),d.Ok T N/\(T=dD/\im=d.im T/\d.s=(s0,s1,s2,s3,s4,s5,s6,s7,s8,s9,())/\pl=d.pl/\ids=d.ids)/\(RB R1 d.fI d.t.RI/\RB R2 d.fL d.t.RL/\RB R3 d.fX d.t.RX)/\∃ (V:List Int) (k:Int),mq d N V M/\nm=V.length/\(V++n9 N n k).Nodup/\(∀ v∈V,0<=v/\v< (N.length:Int))/\(0<=k/\k< (N.length:Int)/\dp=(aK noTy N k).1.length/\17<=(aK noTy N k).1.length+n)/\kd=(aK noTy N k).2.2.1/\Kk.get .int d.t.Mr (aK noTy N k).2.1=some ref/\∀ B1 B2 B3 M',RB B1 d.fI d.t.RI->RB B2 d.fL d.t.RL->RB B3 d.fX d.t.RX->mq d N (V++n9 N n k) M'->Q (.bool true) [.cells 90 [.de (.int .u32) T 0 0,.d .u8 im,.k (.int .i64 s0),.k (.int .i64 s1),.k (.int .i64 s2),.k (.int .i64 s3),.k (.int .i64 s4),.k (.int .i64 s5),.k (.int .i64 s6),.k (.int .i64 s7),.k (.int .i64 s8),.k (.int .i64 s9),.d (.int .i64) pl,.d (.int .i64) ids,.p 1 0,.p 2 0,.p 3 0,.m 4,.k (.int .i64 ((V++n9 N n k).length:Nat))],.abs B1,.abs B2,.abs B3,.ab (.pm 3 82 bB M')]
def abe (n:Nat):Vx:= {P:=cd,ct:=[(61,(qZ n)),(108,Dq)],ty:=fA,hold:=[],clo:=true,cloH:=true}
theorem VZ (n:Nat) (hn:cG 61 (qZ n)):ir Inv cd (abe n).ct:=ir.cons hn (ir.cons WH (ir.nil _ _))
abbrev vf:=Int×Nat×Ty.den bB
abbrev Ce (y0:List (Int×Nat×bB.den)) (y1:Int):=(∀ (p:Int×Nat×Ty.den bB),p∈y0->p.1≠y1)
def QY (n:Nat) (ref kd dp:Int) (T:List Int) (im:List UInt8) (s0 s1 s2 s3 s4 s5 s6 s7 s8 s9:Int) (pl ids:List Int) (nm:Int) (R1 R2 R3:Value->Atom) (M:(List (Int×Nat×bB.den))):dE:=λQ=>cA ref kd dp (cL nm (br (decide (dp>16)) (Q kQ [gk T im s0 s1 s2 s3 s4 s5 s6 s7 s8 s9 pl ids (nm+1),HO.abs R1,HO.abs R2,HO.abs R3,fH M]) (br 
 (decide (nm+1>(1024:Int))) (Q kQ [gk T im s0 s1 s2 s3 s4 s5 s6 s7 s8 s9 pl ids (nm+1),HO.abs R1,HO.abs R2,HO.abs R3,fH M]) (((Ce M ref)->∃ d N,IR.Ok d T N/\(T=dD/\im=IR.im d T/\d.s=(s0,s1,s2,s3,s4,s5, 
 s6,s7,s8,s9,())/\pl=d.pl/\ids=d.ids)/\(RB R1 d.fI d.t.RI/\RB R2 d.fL d.t.RL/\RB R3 d.fX d.t.RX)/\∃ x,x∈N/\kd=x.2.2.1/\Kk.get Kk.int d.t.Mr x.2.1=some ref/\∀ (B1 B2 B3:Value->Atom) (r:Ty.den bB),RB B1 d.fI 
 d.t.RI->RB B2 d.fL d.t.RL->RB B3 d.fX d.t.RX->rE d N x ah r->(Ce M ref)/\List.length M< 9223372036854775807/\∀ (bb:Nat),gu r.2.2.1 (bp (λi ag=>br (decide (i.1.1< (a7 r.2.2.1))) (0<=i.1.1/\i.1.1< (a7 
 r.2.2.1)/\(Ty.ok dh (aK dh r.2.2.1 i.1.1)->cL dp (∃ d N,IR.Ok d i.2.1.1 N/\(i.2.1.1=dD/\i.2.1.2.1=IR.im d i.2.1.1/\d.s=(i.2.1.2.2.1,i.2.1.2.2.2.1,i.2.1.2.2.2.2.1,i.2.1.2.2.2.2.2.1,i.2.1.2.2.2.2.2.2.1, 
 i.2.1.2.2.2.2.2.2.2.1,i.2.1.2.2.2.2.2.2.2.2.1,i.2.1.2.2.2.2.2.2.2.2.2.1,i.2.1.2.2.2.2.2.2.2.2.2.2.1,i.2.1.2.2.2.2.2.2.2.2.2.2.2.1,())/\i.2.1.2.2.2.2.2.2.2.2.2.2.2.2.1=d.pl/\i.2.1.2.2.2.2.2.2.2.2.2.2.2.2.2.1=d.ids)/\(RB i.2.2.1 
 d.fI d.t.RI/\RB i.2.2.2.1 d.fL d.t.RL/\RB i.2.2.2.2.1 d.fX d.t.RX)/\∃ V k,mq d N V i.2.2.2.2.2.1/\i.2.1.2.2.2.2.2.2.2.2.2.2.2.2.2.2.2.2.2.2.1=(aE V)/\List.Pairwise (λx1 x2=>x1≠x2) (V++n9 N n k)/\(∀ (v:Int),v∈V-> 
 0<=v/\v< (aE N))/\(0<=k/\k< (aE N)/\dp+1=(km N k)/\17<=List.length (fB N k).1+n)/\(aK dh r.2.2.1 i.1.1).2.1=(fB N k).2.2.1/\Kk.get Kk.int d.t.Mr (fB N k).2.1=some (aK dh r.2.2.1 i.1.1).2.2.1/\ 
 ∀ (B1 B2 B3:Value->Atom) (M':List vf),RB B1 d.fI d.t.RI->RB B2 d.fL d.t.RL->RB B3 d.fX d.t.RX->mq d N (V++n9 N n k) M'->cL i.1.1 (ag ((i.1.1+1,()),(i.2.1.1,i.2.1.2.1,i.2.1.2.2.1,i.2.1.2.2.2.1,i.2.1.2.2.2.2.1, 
 i.2.1.2.2.2.2.2.1,i.2.1.2.2.2.2.2.2.1,i.2.1.2.2.2.2.2.2.2.1,i.2.1.2.2.2.2.2.2.2.2.1,i.2.1.2.2.2.2.2.2.2.2.2.1,i.2.1.2.2.2.2.2.2.2.2.2.2.1,i.2.1.2.2.2.2.2.2.2.2.2.2.2.1,i.2.1.2.2.2.2.2.2.2.2.2.2.2.2.1, 
 i.2.1.2.2.2.2.2.2.2.2.2.2.2.2.2.1,(),(),(),(),(a7 (V++n9 N n k)),()),B1,B2,B3,M',()))))) (Q qK [gk i.2.1.1 i.2.1.2.1 i.2.1.2.2.1 i.2.1.2.2.2.1 i.2.1.2.2.2.2.1 i.2.1.2.2.2.2.2.1 i.2.1.2.2.2.2.2.2.1 i.2.1.2.2.2.2.2.2.2.1 
 i.2.1.2.2.2.2.2.2.2.2.1 i.2.1.2.2.2.2.2.2.2.2.2.1 i.2.1.2.2.2.2.2.2.2.2.2.2.1 i.2.1.2.2.2.2.2.2.2.2.2.2.2.1 i.2.1.2.2.2.2.2.2.2.2.2.2.2.2.1 i.2.1.2.2.2.2.2.2.2.2.2.2.2.2.2.1 i.2.1.2.2.2.2.2.2.2.2.2.2.2.2.2.2.2.2.2.2.1,HO.abs i.2.2.1, 
 HO.abs i.2.2.2.1,HO.abs i.2.2.2.2.1,fH i.2.2.2.2.2.1])) ((ah,()),(T,im,s0,s1,s2,s3,s4,s5,s6,s7,s8,s9,pl,ids,(),(),(),(),nm+1,()),B1,B2,B3,List.set ((ref,bb,Ty.Nr bB)::M) bD (ref,bb,r.1,bd, 
 r.2.2),())))/\∀ (i bb:Nat) (x:Ty.den bB),M[i]?=some (ref,bb,x)->Ty.ok bB x->cL x.2.1 (br (kd !=1) (Q (.v (.c (.k (.bool (x.1.1==kd))))) [gk T im s0 s1 s2 s3 s4 s5 s6 s7 s8 s9 pl ids (nm+1),HO.abs R1,HO.abs R2, 
 HO.abs R3,fH (List.set M i (ref,bb,x.1,x.2.1+1,x.2.2))]) (Q kQ [gk T im s0 s1 s2 s3 s4 s5 s6 s7 s8 s9 pl ids (nm+1),HO.abs R1,HO.abs R2,HO.abs R3,fH (List.set M i (ref,bb,x.1,x.2.1+1,x.2.2))]))))))
theorem Wn (n:Nat) (hn:cG 61 (qZ n)):∀ args H Q,aiH (n+1) args H Q->Wp Inv cd 61 args H Q:=by
 intro args H Q h;obtain ⟨ref,kd,dp,T,im,s0,s1,s2,s3,s4,s5,s6,s7,s8,s9,pl,ids,nm,R1,R2,R3,M,rfl,rfl,h⟩:=h;refine Wp.P1 (X:=(abe n)) (VZ n hn) ⟨[(15,⟨[(78,.int .i64)],[(0,.cells 90 [.dp (.int .u32),.d .u8,.int .i64,.int .i64,.int .i64,.int .i64,.int .i64,.int .i64,.int .i64,.int .i64,.int .i64,.int .i64,.d (.int .i64),.d (.int .i64),.p 1 0,.p 2 0,.p 3 0,.m 4,.int .i64]),(1,.abs),(2,.abs),(3,.abs),(4,.ab (.pm 3 82 bB))]⟩)],[]⟩ (fn:=Tryz.f61) (V:=QY n ref kd dp T im s0 s1 s2 s3 s4 s5 s6 s7 s8 s9 pl ids nm R1 R2 R3 M) (by kernel_rfl) (λ_=>by kernel_rfl) ?_;unfold QY Ce vf fB cL gu km cA kQ qK ah bd a7 aE bD gk fH;obtain ⟨d,N,hd,⟨rfl,rfl,hs,rfl,rfl⟩,⟨hR1,hR2,hR3⟩,V,k,hV,rfl,hnd,hVr,⟨k0,k1,rfl,hkn⟩,rfl,hg,h⟩:=h;have hx:aK noTy N k∈N:=uF (e:=noTy) k0 k1;have aqz:=hd.tok.deep _ hx;have hN40:=hd.tok.len;have hvm:=ql hd.tok (n+1) k0 k1 hkn;have ah6:∀ v∈V++n9 N (n+1) k,0<=v/\v< (N.length:Int):=λv hv=>(aY.1 hv).elim (hVr v) λq=>⟨((hvm v).1 q).1,((hvm v).1 q).2.1⟩;have hlen:=akL (n:=N.length) hnd ah6;have hv1:n9 N (n+1) k=k::(dz (aK noTy N k).1 N 0).flatMap (n9 N n):=rfl;have hVl:V.length+1<=40:=by rw [hv1,af,aq] at hlen;omega
 refine λ_ _ _=>⟨by unfold aF;omega,aw (λq=>absurd (of_decide_eq_true q) (by omega)) (λ_=>aw (λq=>absurd (of_decide_eq_true q) (by omega)) (λ_=>⟨λkB=>?_,λi bb x hi _=>?_⟩))⟩;rotate_left
 .obtain ⟨a1,a2,a3⟩:=Un hd hV k0 k1 hVr hnd hg hi;rw [a3] at h;obtain ⟨v,hv,_,h2⟩:=hV.kC _ (fc hi);have hc:Ei N V (aK noTy N v).2.1<=V.length:=List.countP_le_length;obtain ⟨nm,hnm⟩:∃ a:Int,a=x.2.1:=⟨_,rfl⟩;have apX:nm=(Ei N V (aK noTy N v).2.1:Nat):=by rw [hnm];exact h2.nm
  have hf:=h R1 R2 R3 _ hR1 hR2 hR3 (hV.again hd hg hi);have e1:((V++ [k]).length:Int)=(V.length:Int)+1:=by simp
  rw [e1] at hf;refine ⟨by rw [<-hnm];unfold aF;omega,aw (λ_=>?_) (λq=>absurd (by simpa using q) a1)⟩;rw [a2,show ((aK noTy N k).2.2.1==(aK noTy N k).2.2.1)=true by simp];exact hf
 have hMl:M.length<=4294967296:=by
  have:=akL (l:=M.map (·.1)) (n:=4294967296) hV.keys λr hr=>by
   obtain ⟨p,hp,rfl⟩:=aP.1 hr;obtain ⟨v,_,hq,_⟩:=hV.kC p hp;have:=(hd.ok.refs _ _ hq).1;omega
  rwa [bH] at this
 refine ⟨d,N,hd,⟨rfl,rfl,hs,rfl,rfl⟩,⟨hR1,hR2,hR3⟩,_,hx,rfl,hg,λB1 B2 B3 r hB1 hB2 hB3 hr=>⟨kB,by omega,λbb _=>?_⟩⟩;have hE:fZ N d.t.Mr (aK noTy N k).1.length (dz (aK noTy N k).1 N 0) r.2.2.1:=by
  rcases hr.list with ⟨_,_,q⟩| ⟨q,e⟩;exact q
  .rw [e];have:dz (aK noTy N k).1 N 0= []:=by
    rw [List.eq_nil_iff_forall_not_mem];intro a ha;obtain ⟨a0,a1,al,ap⟩:=fW ha;have:=hd.tok.below hx q (uF (e:=noTy) a0 a1) ap;rw [this] at al;omega
   rw [this];trivial
 have hEl:=hE.len;have uj:=hV.new hd hg kB (bb:=bb) (r:=(r.1,(1:Int),r.2.2)) ⟨hr.n,rfl,hr.list,hr.xa⟩;have hKm:∀ a∈dz (aK noTy N k).1 N 0,0<=a/\a< (N.length:Int)/\(aK noTy N a).1.length=(aK noTy N k).1.length+1:=λa ha=>⟨(fW ha).1,(fW ha).2.1,(fW ha).2.2.1⟩;have hKl:=kU (aK noTy N k).1 (L:=N) (k:=0);rw [hv1] at hnd ah6 h;generalize dz (aK noTy N k).1 N 0=K at*;refine bp.intro (λi=>∃ (j:Nat) (C1 C2 C3:Value->Atom) (M':List (Int×Nat×bB.den)),j<=K.length/\i.1.1=(j:Int)/\(RB C1 d.fI d.t.RI/\RB C2 d.fL d.t.RL/\RB C3 d.fX d.t.RX)/\mq d N (V++k::(K.take j).flatMap (n9 N n)) M'/\i.2=((dD,d.im dD,s0,s1,s2,s3,s4,s5,s6,s7,s8,s9,d.pl,d.ids,(),(),(),(),(((V++k::(K.take j).flatMap (n9 N n)).length:Nat):Int),()),C1,C2,C3,M',())) (λi=>K.length - i.1.1.toNat) ⟨0,B1,B2,B3,_,cq _,rfl,⟨hB1,hB2,hB3⟩,uj,by rw [show ((V.length:Int)+1)=(((V++k::((K.take 0).flatMap (n9 N n))).length:Nat):Int) by simp];rfl⟩ ?_;rintro ⟨⟨i,_⟩,o⟩ ⟨j,C1,C2,C3,M',hj,h1,⟨c1,c2,c3⟩,hV',h2⟩;simp only at h1 h2 ⊢;subst h1 h2;dsimp only;refine aw (λhc=>?_) (λhc=>?_)
 .have um:=of_decide_eq_true hc;have uH:j< K.length:=by omega
  have hj3:j< r.2.2.1.length:=by omega
  obtain ⟨e1,e2⟩:=acv N n V k uH;obtain ⟨q,e2⟩:=e2;obtain ⟨f1,f2⟩:=hE.at j uH hj3;obtain ⟨a0,a1,al⟩:=hKm _ (dw uH);have ek:aK dh r.2.2.1 (j:Int)=r.2.2.1[j]:=gU (e:=dh) hj3;rw [ek];have anO:((V++k::(K.take j).flatMap (n9 N n))++n9 N n K[j]).Nodup:=by
   rw [e1];rw [e2] at hnd;exact (fh.1 hnd).1
  refine ⟨by omega,by omega,λ_=>⟨by unfold aF;omega,d,N,hd,⟨rfl,rfl,hs,rfl,rfl⟩,⟨c1,c2,c3⟩,_,K[j],hV',rfl,anO,λv hv=>ah6 v ?_,⟨a0,a1,by omega,by omega⟩,f1,f2,λD1 D2 D3 M2 d1 d2 d3 hV2=>⟨by unfold aF;omega,⟨j+1,D1,D2,D3,M2,uH,by omega,⟨d1,d2,d3⟩,e1▸hV2,by rw [e1]⟩,by omega⟩⟩⟩;rw [e2,<-e1];exact bM _ (bM _ hv)
 .have hc:=of_decide_eq_false hc;obtain rfl:j=K.length:=by omega
  rw [eN] at hV' ⊢;exact h C1 C2 C3 M' c1 c2 c3 hV'
theorem QC:∀ (n:Nat) args H Q,qZ n args H Q->Wp Inv cd 61 args H Q
 | 0=>λargs H Q h=>by
  unfold qZ Mo imR V9 YP at h;dsimp only at h
  repeat (split at h;rotate_left;exact h.elim)
  obtain ⟨d,N,hd,_,_,V,k,_,_,_,_,⟨k0,k1,_,hkn⟩,_⟩:=h;have:=hd.tok.deep _ (uF (e:=noTy) k0 k1);omega
 | n+1=>λargs H Q h=>by
  unfold qZ Mo imR V9 YP at h;dsimp only at h
  repeat (split at h;rotate_left;exact h.elim)
  exact Wn n (QC n) _ _ _ ⟨_,_,_,_,_,_,_,_,_,_,_,_,_,_,_,_,_,_,_,_,_,_,rfl,rfl,h⟩
def ad4:Ct:=qZ 17
theorem abS:cG 61 ad4:=QC 17
end Go.Proofs

namespace Go.Lm
open Go Go.RowKit
section
variable {I:cQ->Prop} {P:Program} {f:FuncId} {args:List SV} {H:List HO} {Q:SV->List HO->Prop}
theorem Wp.ahV {p l:Nat} {t u:TypeId} {e:Ty} {xs:List e.den} {cs:List Cl} (hp:H[p]?=some (.cells t (.oe l 1 0 0::cs))) (hl:H[l]?=some (.held u e xs)) (hx:0< xs.length) (h1:e.size=1) (h:Wp I P f args (H.set p (.cells t (.de e xs 0 0::cs))) Q):Wp I P f args H Q:=Wp.beg λW E g w F hs=>by
 have Au:=(au.1 hp).1;have hlen:E.length=H.length:=hs.len;obtain ⟨_,_,_,_,q1,q2,_,_,⟨v0,hE,hi⟩,_⟩:=hs.pick hl;refine ⟨E,_,bw.refl E,⟨hs.sl.cz λk s=>?_,by simp [hlen]⟩,h⟩;obtain ⟨k1,k2,ap,e2,⟨bb,us,hEp,hrel,hblk⟩,s2⟩:=bq.rV hp s;obtain ⟨u1,r,rfl,⟨v,z1,z2,_⟩,h4⟩:=hrel;rw [hE] at z1;obtain rfl:=aj z1;have hd:cr E g (.de e xs 0 0) u1:=⟨⟨bz _,by omega,cq _⟩,v0,hi,by rw [h1];exact z2⟩;have s3:bq g (cF E p (.cells t (.de e xs 0 0::cs))::(bj E 0 (H.set p .gone)++F)) k:=⟨k1,k2,ap,e2,⟨bb,_,hEp,bA.cons hd h4,hblk⟩,s2⟩;have s4:=bq.D6 (l:=p) (by simp;omega) s3;rw [List.set_set] at s4;exact s4
theorem Wp.ahE {p:Nat} (h:Wp I P f args H λsv H'=>∃ kt tR e M hz mb,H'[p]?=some (.ab (.pz kt tR e M hz mb))/\Q sv (H'.set p (.ab (.pm kt tR e M)))):Wp I P f args H Q:=λW hW g w E F vs hs hv=>
 (h W hW g w E F vs hs hv).mono λv w' ⟨E1,g1,sv,H1,e1,m1,s1,r1,kt,tR,e,M,hz,mb,hp,hq⟩=>by
  have Au:=(au.1 hp).1;have hlen:E1.length=H1.length:=s1.len;refine ⟨E1,g1,sv,_,e1,m1,⟨?_,by simp [hlen]⟩,r1,hq⟩;refine s1.sl.cz λk s=>?_;obtain ⟨k1,k2,ap,e2,⟨v0,hE,h1,h2,h3⟩,s2⟩:=bq.rV hp s;have s3:bq g1 (cF E1 p (.ab (.pm kt tR e M))::(bj E1 0 (H1.set p .gone)++F)) k:=⟨k1,k2,ap,e2,⟨v0,hE,h3⟩,s2⟩;have s4:=bq.D6 (l:=p) (by simp;omega) s3;rw [List.set_set] at s4;exact s4
end
end Go.Lm

namespace Go.Proofs
open Go Go.Lm Go.RowKit
set_option maxRecDepth 1000000
def aeg:Ct:=λargs H Q=>∃ (a:Int) (c:Int) (T:List Int) (im:List UInt8) (s0:Int) (s1:Int) (s2:Int) (s3:Int) (s4:Int) (s5:Int) (s6:Int) (s7:Int) (s8:Int) (s9:Int) (nm:Int) (M:List (Int×Nat×bB.den)),args= [.v (.c (.p 0 0)),.int a,.int c]/\H= [.cells 90 [.de (.int .u32) T 0 0,.d .u8 im,.k (.int .i64 s0),.k (.int .i64 s1),.k (.int .i64 s2),.k (.int .i64 s3),.k (.int .i64 s4),.k (.int .i64 s5),.k (.int .i64 s6),.k (.int .i64 s7),.k (.int .i64 s8),.k (.int .i64 s9),.k (.slice none 0 0),.k (.slice none 0 0),.k (.pointer none),.k (.pointer none),.k (.pointer none),.m 2,.k (.int .i64 nm)],.held 109 (.int .u32) T,.ab (.pm 3 82 bB M)]/\T.length=256/\im.length<=100000000/\∃ fs R,R.length<=10000000/\iI T im a c fs R []/\∀ A,RB A fs R->Q (.c (.p 3 0)) [.cells 90 [.de (.int .u32) T 0 0,.d .u8 im,.k (.int .i64 s0),.k (.int .i64 s1),.k (.int .i64 s2),.k (.int .i64 s3),.k (.int .i64 s4),.k (.int .i64 s5),.k (.int .i64 s6),.k (.int .i64 s7),.k (.int .i64 s8),.k (.int .i64 s9),.k (.slice none 0 0),.k (.slice none 0 0),.k (.pointer none),.k (.pointer none),.k (.pointer none),.m 2,.k (.int .i64 nm)],.held 109 (.int .u32) T,.ab (.pm 3 82 bB M),.abs A]
def KL (a c:Int) (T:List Int) (im:List UInt8) (s0 s1 s2 s3 s4 s5 s6 s7 s8 s9 nm:Int) (M:(List (Int×Nat×bB.den))):dE:=λQ=>cj a c ((sg T im)/\∃ fs R,fU R (iI T im a c fs R []/\∀ (A:Value->Atom),RB A fs R->Q (SV.v (S1.c (.p 3 0))) [.cells 90 [Cl.de (.int .u32) T ah bD,Cl.d Ty.u8 
 im,.k (aC s0),.k (aC s1),.k (aC s2),.k (aC s3),.k (aC s4),.k (aC s5),.k (aC s6),.k (aC s7),.k (aC s8),.k (aC s9),.k eT,.k eT,.k (.pointer none),.k (.pointer none),.k (.pointer none),Cl.m bn,.k 
 (aC nm)],HO.held (109:TypeId) (.int .u32) T,fH M,HO.abs A]))
theorem ab7:cG 59 aeg:=by
 intro args H Q h;obtain ⟨a,c,T,im,s0,s1,s2,s3,s4,s5,s6,s7,s8,s9,nm,M,rfl,rfl,h⟩:=h;refine Wp.dJ JU fA ⟨[],[]⟩ Tryz.f59 (KL a c T im s0 s1 s2 s3 s4 s5 s6 s7 s8 s9 nm M) ?_;unfold KL sg fU eT cj dO aC ah bD bn bK fH;obtain ⟨hT,hi,fs,R,hR,h1,h⟩:=h;exact λ_ _=>⟨⟨hT,hi⟩,fs,R,hR,h1,h⟩
def Dl:Ct:=λargs H Q=>(match args with
 | [.v (.c (.p 0 0)),.v (.c (.k (.int .i64 a))),.v (.c (.k (.int .i64 c)))]=>(match H with
 | [o0,o1,o2]=>(match o0 with
 | .cells 90 cs=>(match cs with
 | [c0,c1,c2,c3,c4,c5,c6,c7,c8,c9,c10,c11,c12,c13,c14,c15,c16,c17,c18]=>(match c0 with
 | .oe 1 1 0 0=>(match c1 with
 | .d .u8 im=>(match c2 with
 | .k (.int .i64 s0)=>(match c3 with
 | .k (.int .i64 s1)=>(match c4 with
 | .k (.int .i64 s2)=>(match c5 with
 | .k (.int .i64 s3)=>(match c6 with
 | .k (.int .i64 s4)=>(match c7 with
 | .k (.int .i64 s5)=>(match c8 with
 | .k (.int .i64 s6)=>(match c9 with
 | .k (.int .i64 s7)=>(match c10 with
 | .k (.int .i64 s8)=>(match c11 with
 | .k (.int .i64 s9)=>(match c12 with
 | .k (.slice none 0 0)=>(match c13 with
 | .k (.slice none 0 0)=>(match c14 with
 | .k (.pointer none)=>(match c15 with
 | .k (.pointer none)=>(match c16 with
 | .k (.pointer none)=>(match c17 with
 | .m 2=>(match c18 with
 | .k (.int .i64 nm)=>(match o1 with
 | .held 109 (.int .u32) T=>(match o2 with
 | .ab (.pm 3 82 (.pair ((.pair (.int .i64) (.pair (.int .i64) (.pair (.int .i64) (.pair (.int .i64) (.pair (.int .i64) (.pair (.int .i64) (.pair (.int .i64) (.pair (.int .i64) (.pair (.int .i64) (.pair (.int .i64) (.pair .str .unit)))))))))))) (.pair (.int .i64) (.pair (.sl (.pair .str (.pair (.int .i64) (.pair (.int .i64) .unit)))) (.pair (.sl (.pair .str (.pair (.sl .u8) .unit))) .unit)))) M)=>0< T.length/\(T.length=256/\im.length<=100000000/\∃ fs R,R.length<=10000000/\iI T im a c fs R []/\∀ A,RB A fs R->Q (.c (.p 3 0)) [.cells 90 [.de (.int .u32) T 0 0,.d .u8 im,.k (.int .i64 s0),.k (.int .i64 s1),.k (.int .i64 s2),.k (.int .i64 s3),.k (.int .i64 s4),.k (.int .i64 s5),.k (.int .i64 s6),.k (.int .i64 s7),.k (.int .i64 s8),.k (.int .i64 s9),.k (.slice none 0 0),.k (.slice none 0 0),.k (.pointer none),.k (.pointer none),.k (.pointer none),.m 2,.k (.int .i64 nm)],.held 109 (.int .u32) T,.ab (.pm 3 82 bB M),.abs A])
 | _=>False)
 | _=>False)
 | _=>False)
 | _=>False)
 | _=>False)
 | _=>False)
 | _=>False)
 | _=>False)
 | _=>False)
 | _=>False)
 | _=>False)
 | _=>False)
 | _=>False)
 | _=>False)
 | _=>False)
 | _=>False)
 | _=>False)
 | _=>False)
 | _=>False)
 | _=>False)
 | _=>False)
 | _=>False)
 | _=>False)
 | _=>False)
 | _=>False)
theorem Wy:cG 59 Dl:=λargs H Q h=>by
 unfold Dl at h
 repeat (split at h;rotate_left;exact h.elim)
 exact Wp.ahV (p:=0) (l:=1) rfl rfl h.1 rfl (ab7 _ _ _ ⟨_,_,_,_,_,_,_,_,_,_,_,_,_,_,_,_,rfl,rfl,h.2⟩)
def Tj:Ct:=λargs H Q=>match H with
 | [_,_]=>Dp args H Q
 | _=>Dl args H Q
theorem ab6:cG 59 Tj:=λargs H Q h=>by
 unfold Tj at h;split at h;exact WC _ _ _ h;exact Wy _ _ _ h
end Go.Proofs

namespace Go.Lm
open Go
variable {N:List bu} {ids:List Int} {F:List (Int×eE.den)}
theorem AB (t:ue N ids F) (hr:(aK noTy N 0).1= []) (hp:0< N.length):(n9 N 17 0).Nodup/\∀ j:Int,j∈n9 N 17 0↔0<=j/\j< (N.length:Int):=by
 have h17:17<=(aK noTy N 0).1.length+17:=by omega
 refine ⟨EI t 17 (bz 0) (by omega) h17,λj=>?_⟩;rw [ql t 17 (bz 0) (by omega) h17,hr];exact ⟨λh=>⟨h.1,h.2.1⟩,λh=>⟨h.1,h.2,rfl⟩⟩
theorem W9 (t:ue N ids F) (hr:(aK noTy N 0).1= []) (hp:0< N.length):(n9 N 17 0).Perm ((bN N.length).map Int.ofNat):=by
 obtain ⟨h1,h2⟩:=AB t hr hp;refine (List.perm_ext_iff_of_nodup h1 ?_).2 λj=>?_
 .rw [List.Nodup,mL];exact List.nodup_range.imp λe q=>e (Int.ofNat.inj q)
 .rw [h2,aP];constructor
  .rintro ⟨a,b⟩;exact ⟨j.toNat,dd.2 (by omega),by show ((j.toNat:Nat):Int)=j;omega⟩
  .rintro ⟨n,hn,rfl⟩;have:=dd.1 hn;show 0<=(n:Int)/\(n:Int)< _;omega
theorem ahP {N:List bu}:((bN N.length).map Int.ofNat).map (λv=>aK noTy N v)=N:=by
 refine List.ext_getElem (by simp) λi h1 h2=>?_;rw [List.getElem_map,List.getElem_map,List.getElem_range];exact gU (e:=noTy) h2
theorem Ta (t:ue N ids F) (hr:(aK noTy N 0).1= []) (hp:0< N.length) (i:Int):Ei N (n9 N 17 0) i=mh N i:=by
 unfold Ei mh;rw [(W9 t hr hp).countP_eq]
 conv=>rhs;rw [<-ahP (N:=N)]
 rw [List.countP_map,List.countP_map,List.countP_map];rfl
theorem mq.count {d:IR} {T:List Int} {M:List (Int×Nat×bB.den)} (hd:d.Ok T N) (hr:(aK noTy N 0).1= []) (hp:0< N.length) (h:mq d N (n9 N 17 0) M):M.length=d.t.Mr.length:=by
 have jy:=(AB hd.tok hr hp).2;have key:(M.map (·.1)).Perm (d.t.Mr.map (·.2)):=by
  refine (List.perm_ext_iff_of_nodup h.keys ?_).2 λr=>?_
  .have hk:=hd.ok.kn;rw [List.Nodup,mL] at hk ⊢;refine hk.imp_of_mem λ{a b} ha hb hab e=>hab ?_;have ga:Kk.get .int d.t.Mr a.1=some a.2:=ln (κ:=Int) hd.ok.kn ha;have gb:Kk.get .int d.t.Mr b.1=some b.2:=ln (κ:=Int) hd.ok.kn hb;exact hd.ok.inj _ _ _ ga (e▸gb)
  .rw [aP,aP];constructor
   .rintro ⟨p,hpM,rfl⟩;obtain ⟨k,hk,hg,_⟩:=h.kC p hpM;exact ⟨_,oF (κ:=Int) hg,rfl⟩
   .rintro ⟨q,hq,rfl⟩;obtain ⟨V,v1,v2,v3⟩:=hd.ok.keys;have:q.1∈d.t.Mr.map (·.1):=aP.2 ⟨q,hq,rfl⟩;rw [v3] at this;obtain ⟨v,hv,e⟩:=aP.1 this;have hvl:=v2 v hv;obtain ⟨p,hpM,hg⟩:=h.has (v:Int) ((jy _).2 ⟨by omega,by omega⟩);have gq:Kk.get .int d.t.Mr q.1=some q.2:=ln (κ:=Int) hd.ok.kn hq;have e:(aK noTy N (v:Int)).2.1=q.1:=e;rw [e,gq] at hg;exact ⟨p,hpM,(aj hg).symm⟩
 have:=key.length_eq
 rwa [bH,bH] at this
end Go.Lm

namespace Go.Lm
open Go
def Oj (N:List bu) (p:List ByteArray):Option bu:=N.find? λx=>decide (x.1=p)
theorem Nf {N:List bu} {p:List ByteArray} {x:bu} (h:Oj N p=some x):x∈N/\x.1=p:=by
 unfold Oj at h;exact ⟨pC h,by simpa using List.find?_some h⟩
theorem sU {N:List bu} {p:List ByteArray}:Oj N p=none↔∀ x∈N,x.1≠p:=by
 unfold Oj;rw [ju];exact ⟨λh x hx e=>h x hx (by simpa using e),λh x hx e=>h x hx (by simpa using e)⟩
variable {N:List bu} {ids:List Int} {F:List (Int×eE.den)}
theorem Zh (t:ue N ids F) {x:bu} (hx:x∈N):Oj N x.1=some x:=by
 cases h:Oj N x.1 with
 | none=>exact absurd rfl (sU.1 h x hx)
 | some y=>
  obtain ⟨h1,h2⟩:=Nf h;rw [t.uniq h1 hx h2]
def mB (N:List bu) (x:bu) (s:ByteArray):Int:=if x.2.2.1=1 then (match Oj N (x.1++ [s]) with
 | some _=>0
 | none=>20) else 24
def jU (N:List bu):bu->List ByteArray->Int
 | _,[]=>0
 | x,s::r=>if x.2.2.1=1 then (match Oj N (x.1++ [s]) with
  | some y=>jU N y r
  | none=>20) else 24
structure agG (d:IR) (N:List bu) (y:bu) (s:ByteArray) (e:dh.den):Prop where
 nm:e.1=s
 kind:e.2.1=y.2.2.1
 ref:Kk.get .int d.t.Mr y.2.1=some e.2.2.1
theorem fZ.ahN {M:List (Int×Int)} {d:Nat}:∀ {ks:List Int} {es:List dh.den},fZ N M d ks es->∀ (j:Nat) (h1:j< ks.length) (h2:j< es.length),es[j].1=(aK noTy N ks[j]).1.getD d ⟨#[]⟩
 | [],[],_,_,h,_=>by simp at h
 | _::_,_::_,⟨q1,_,_,_⟩,0,_,_=>q1
 | _::_,_::_,⟨_,_,_,q4⟩,j+1,h1,h2=>fZ.ahN q4 j (by simpa using h1) (by simpa using h2)
 | [],_::_,h,_,_,_=>h.elim
 | _::_,[],h,_,_,_=>h.elim
theorem adQ (t:ue N ids F) {d:IR} {p:List ByteArray} {es:List dh.den} (hE:fZ N d.t.Mr p.length (dz p N 0) es) {j:Nat} (hj:j< es.length):∃ y∈N,y.1=p++ [es[j].1]/\agG d N y es[j].1 es[j]:=by
 have hl:=hE.len;have hjk:j< (dz p N 0).length:=by omega
 obtain ⟨a0,a1,al,ap⟩:=fW (dw hjk);obtain ⟨h1,h2⟩:=hE.at j hjk hj;refine ⟨_,uF (e:=noTy) a0 a1,?_,rfl,h1,h2⟩;rw [hE.ahN j hjk hj];exact tz al ap
theorem adn (t:ue N ids F) {d:IR} {p:List ByteArray} {es:List dh.den} (hE:fZ N d.t.Mr p.length (dz p N 0) es) {y:bu} {s:ByteArray} (hy:y∈N) (e:y.1=p++ [s]):∃ (j:Nat) (h:j< es.length),es[j].1=s:=by
 obtain ⟨k,hk,rfl⟩:=Jd hy (by rw [e];simp) (show pre p y by unfold pre;rw [e,List.take_left]);obtain ⟨j,hj,rfl⟩:=dR.1 hk;have hl:=hE.len;refine ⟨j,by omega,?_⟩;rw [hE.ahN j hj (by omega),e,ba,a8 (ay _),Nat.sub_self];rfl
theorem GQ:∀ {last:ByteArray} {es:List dh.den},iG last es->(∀ x∈es,uB last x.1=true)/\es.Pairwise λa b=>uB a.1 b.1=true
 | _,[],_=>⟨λx h=>(by cases h),List.Pairwise.nil⟩
 | last,x::r,⟨h1,h2⟩=>by
  obtain ⟨q1,q2⟩:=GQ h2;refine ⟨λy hy=>?_,jt.2 ⟨q1,q2⟩⟩;rcases bm.1 hy with rfl| hy;exact h1.lt
  .have a:=h1.lt;have b:=q1 y hy;rw [tA,decide_eq_true_eq] at a b ⊢;exact qY a b
end Go.Lm

namespace Go.Lm
open Go
variable {N:List bu} {ids:List Int} {F:List (Int×eE.den)}
theorem rE.same {d:IR} {T:List Int} (hd:d.Ok T N) {x y:bu} (hx:x∈N) (hy:y∈N) (e:y.2.1=x.2.1) {nm:Int} {r:bB.den} (h:rE d N y nm r):rE d N x nm r:=by
 obtain ⟨h1,h2⟩:=hd.tok.one x hx y hy e.symm;by_cases hk:x.2.2.1=1;rw [h1 hk];exact h
 .refine ⟨h.n.same hd.tok hx hy e,h.nm,?_,by rw [h2];exact h.xa⟩;rcases h.list with ⟨q,_⟩| ⟨_,q⟩
  .rw [h2] at hk;exact absurd q hk
  .exact .inr ⟨hk,q⟩
structure DJ (d:IR) (N:List bu) (M:List (Int×Nat×bB.den)) (x:bu) (ref:Int):Prop where
 ex:∃ p∈M,p.1=ref
 ok:∀ (i bb:Nat) (r:bB.den),M[i]?=some (ref,bb,r)->rE d N x (mh N x.2.1:Nat) r
theorem mq.recAt {d:IR} {T:List Int} {M:List (Int×Nat×bB.den)} (hd:d.Ok T N) (hr:(aK noTy N 0).1= []) (hp:0< N.length) (h:mq d N (n9 N 17 0) M) {x:bu} (hx:x∈N) {ref:Int} (hg:Kk.get .int d.t.Mr x.2.1=some ref):DJ d N M x ref:=by
 have jy:=(AB hd.tok hr hp).2;obtain ⟨k,hk,rfl⟩:=Sl hx;refine ⟨?_,λi bb r hi=>?_⟩
 .obtain ⟨p,hpM,h1⟩:=h.has (k:Int) ((jy _).2 ⟨by omega,by omega⟩);rw [hg] at h1;exact ⟨p,hpM,(aj h1).symm⟩
 .obtain ⟨v,hv,h1,h2⟩:=h.kC _ (fc hi);obtain ⟨v0,v1⟩:=(jy v).1 hv;have e:=hd.ok.inj _ _ _ h1 hg;rw [Ta hd.tok hr hp,e] at h2;exact rE.same hd hx (uF (e:=noTy) v0 v1) e h2
def uz (N:List bu) (x:bu):Int:=if x.2.2.1=1 then ((dz x.1 N 0).length:Int) else if x.2.2.1=2 then (x.2.2.2.2.1.length:Int) else (x.2.2.2.2.2.1.size:Int)
theorem rE.MK {d:IR} {x:bu} {nm:Int} {r:bB.den} (h:rE d N x nm r) (hk:x.2.2.1=1):r.2.2.1.length=(dz x.1 N 0).length:=by
 rcases h.list with ⟨_,_,q⟩| ⟨q,_⟩;exact q.len;exact absurd hk q
theorem rj.tgt {s:BS} {x:bu} {i:eE.den} (h:rj N ids F s x i) (hk:x.2.2.1=3):i.2.2.2.2.2.2.2.2.2.2.1=x.2.2.2.2.2.1:=by
 rcases h.or with ⟨q,_⟩| ⟨q,_⟩| ⟨_,q⟩;rw [hk] at q;exact absurd q (by decide);rw [hk] at q;exact absurd q (by decide);exact q
theorem IR.Ok.aho {d:IR} {T:List Int} (h:d.Ok T N) {nu off:Int} {t:List UInt8} (ht:oL d.row d.bg nu off t) (h0:0< t.length):0<=off/\∃ (i:Nat) (a:Int) (z:List UInt8) (nx:Int),nu=(i:Int)+1/\d.pl[i]?=some a/\En T (d.im T) a z nx/\0< z.length/\z.length<=128/\off+t.length<=z.length/\(z.drop off.toNat).take t.length=t:=by
 obtain ⟨o0,i,z,e1,hi,hz,z0,z1,hle,hzt⟩:=ht.oP h.pk h0;have hl:=h.pls.len;rw [qf] at hl;obtain ⟨o,w,r,q1,q2,q3,q4⟩:=h.pls.ats i d.pl[i] z (ak (by omega)) hz;have e0:=lY T d.s;refine ⟨o0,i,d.pl[i],z,d.pl[i]+w.length,e1,ak (by omega),⟨by omega,?_,w,r++(d.fI.flatten++(d.fL.flatten++(d.fP.flatten++(d.fN.flatten++d.fX.flatten)))),q2,?_,rfl⟩,z0,z1,hle,hzt⟩
 .unfold IR.im;simp only [af];omega
 .unfold IR.im;rw [q1,show ((64:Int)+(o:Int)).toNat=(fF T d.s).length+o by omega,<-eG,eV,da q4,q3,aG]
theorem XY {x:List UInt8} {o n c:Nat} (hc:128*c<=x.length) (h:o+n<=x.length):((x.take (128*c)).drop o).take n++((x.drop (128*c)).drop (o - 128*c)).take (n - (((x.take (128*c)).drop o).take n).length)=(x.drop o).take n:=by
 rcases dZ o (128*c) with q| q
 .have e1:((x.take (128*c)).drop o).take n=(x.drop o).take (min n (128*c - o)):=by rw [jk,eF]
  have e2:((x.drop o).take (min n (128*c - o))).length=min n (128*c - o):=by rw [aA,aN];omega
  rw [e1,e2,show o - 128*c=0 by omega,pD];rcases dZ n (128*c - o) with q2| q2;rw [show n - min n (128*c - o)=0 by omega,List.take_zero,aW,show min n (128*c - o)=n by omega]
  .rw [show min n (128*c - o)=128*c - o by omega];have e3:x.drop (128*c)=(x.drop o).drop (128*c - o):=by rw [eG];congr 1;omega
   rw [e3]
   conv=>rhs;rw [show n=(128*c - o)+(n - (128*c - o)) by omega]
   rw [List.take_add]
 .rw [j4 (by rw [aA];omega),List.take_nil,dQ,aM,Nat.sub_zero,eG,show 128*c+(o - 128*c)=o by omega]
end Go.Lm

namespace Go.Lm
open Go
theorem IV:∀ (L:List bu) {m:List (Int×Int)},(∀ i z,Kk.get .int m i=some z->z<=(m.length:Int))->(∀ i j z,Kk.get .int m i=some z->Kk.get .int m j=some z->i=j)->∀ i j z,Kk.get .int (jE L m) i=some z->Kk.get .int (jE L m) j=some z->i=j
 | [],_,_,h,i,j,z,hi,hj=>h i j z hi hj
 | x::L,m,hl,h,i,j,z,hi,hj=>by
  cases hg:Kk.get .int m x.2.1 with
  | some k=>rw [jc hg] at hi hj;exact IV L hl h i j z hi hj
  | none=>
   rw [jd hg] at hi hj;have e:((Kk.put .int m x.2.1 ((m.length:Int)+1):List (Int×Int)).length:Int)=(m.length:Int)+1:=by rw [pw (k:=.int) hg];rfl
   refine IV L (λj y hy=>?_) (λa b y ha hb=>?_) i j z hi hj
   .rw [e];by_cases hj:j=x.2.1
    .rw [hj,gh] at hy;obtain rfl:=aj hy;exact bz _
    .rw [jI (k:=.int) hj] at hy;have:=hl j y hy;omega
   .by_cases ea:a=x.2.1
    .by_cases eb:b=x.2.1
     .rw [ea,eb]
     .rw [ea,gh] at ha;rw [jI (k:=.int) eb] at hb;have:=hl b y hb;have:=aj ha;omega
    .rw [jI (k:=.int) ea] at ha;by_cases eb:b=x.2.1
     .rw [eb,gh] at hb;have:=hl a y ha;have:=aj hb;omega
     .rw [jI (k:=.int) eb] at hb;exact h a b y ha hb
structure QA (F N:List bu):Prop where
 l:Hr F
 tr:uP N
 to:∀ y∈F,∃ x∈N,x.1=y.1/\x.2.2=y.2.2
 of:∀ x∈N,∃ y∈F,y.1=x.1/\y.2.2=x.2.2
 ino:∀ y∈F,∀ y'∈F,∀ x∈N,∀ x'∈N,x.1=y.1->x'.1=y'.1->(x.2.1=x'.2.1↔y.2.1=y'.2.1)
 len:N.length=F.length
theorem ahn {F:List bu} (tw:F.Pairwise λa b=>a.1≠b.1) {a b:bu} (ha:a∈F) (hb:b∈F) (h:a.1=b.1):a=b:=by
 obtain ⟨i,hi,rfl⟩:=dR.1 ha;obtain ⟨j,hj,rfl⟩:=dR.1 hb;have P:=dj.1 tw;rcases mK i j with q| q| q;exact absurd h (P i j hi hj q);subst q;rfl;exact absurd h.symm (P j i hj hi q)
theorem ac6 {F L:List bu} (g:Hr F) (hp:L.Perm F) (ho:L.Pairwise λx y=>¬cmpL y.1 x.1< 0):QA F (db L []):=by
 have at':∀ (j:Nat) (hj:j< L.length),∃ h2:j< (db L []).length,(db L [])[j].1=L[j].1/\(db L [])[j].2.2=L[j].2.2:=λj hj=>by
  have h2:j< (db L []).length:=by rw [jS];exact hj
  have e:=congrArg (λl=>l[j]?) (pU L []);simp only [ck,ak hj,ak h2,js,j8,Prod.mk.injEq] at e;exact ⟨h2,e.1,e.2⟩
 have tN:=Lx g hp ho;have tw:L.Pairwise λa b=>a.1≠b.1:=hp.symm.pairwise g.tw (λh=>Ne.symm h);have back:∀ y∈L,∀ x∈db L [],x.1=y.1->Kk.get .int (jE L []) y.2.1=some x.2.1:=λy hy x hx e=>by
  obtain ⟨j,hj,rfl⟩:=dR.1 hx;have uH:j< L.length:=by rw [jS] at hj;exact hj
  obtain ⟨_,e1,_⟩:=at' j uH;have:y=L[j]:=ahn tw hy (dw uH) (by rw [<-e,e1]);rw [this];exact AI L [] j uH
 refine ⟨g,tN,λy hy=>?_,λx hx=>?_,λy hy y' CT x hx x' Gz e e'=>?_,by rw [jS,hp.length_eq]⟩
 .obtain ⟨j,hj,rfl⟩:=dR.1 (hp.mem_iff.2 hy);obtain ⟨h2,e1,e2⟩:=at' j hj;exact ⟨_,dw h2,e1,e2⟩
 .obtain ⟨y,hy,q⟩:=IU hx;exact ⟨y,hp.mem_iff.1 hy,q⟩
 .have h1:=back y (hp.mem_iff.2 hy) x hx e;have h2:=back y' (hp.mem_iff.2 CT) x' Gz e';constructor
  .intro q;rw [<-q] at h2;exact IV L (λi z q=>by cases q) (λi j z q=>by cases q) _ _ _ h1 h2
  .intro q;rw [q,h2] at h1;exact (aj h1).symm
theorem Ze {N:List bu} (t:uP N) (u:∀ x∈N,∀ y∈N,x.1=y.1->x=y):∀ (r:List ByteArray) (x y:bu),x∈N->y∈N->y.1=x.1++r->jU N x r=0
 | [],_,_,_,_,_=>rfl
 | s::r,x,y,hx,hy,e=>by
  have key:∀ (k:Nat) (z:bu),z∈N->z.1.length=x.1.length+1+k->(∃ q,y.1=z.1++q)->∃ w∈N,w.1=x.1++ [s]:=by
   intro k
   induction k with
   | zero=>
    rintro z hz hl ⟨q,eq⟩;refine ⟨z,hz,?_⟩;have h1:y.1.take (x.1.length+1)=z.1:=by rw [eq];exact List.take_left' (by omega)
    have h2:y.1.take (x.1.length+1)=x.1++ [s]:=by
     rw [e,show x.1++s::r=(x.1++ [s])++r by simp];exact List.take_left' (by simp)
    rw [<-h1,h2]
   | succ k ih=>
    rintro z hz hl ⟨q,eq⟩;obtain ⟨w,hw,_,ew⟩:=t.par z hz (by omega);refine ih w hw (by rw [ew,aA];omega) ⟨z.1.drop (z.1.length - 1)++q,?_⟩;rw [eq,ew,<-aG,cv]
  obtain ⟨w,hw,ew⟩:=key r.length y hy (by rw [e];simp;omega) ⟨[],by simp⟩;obtain ⟨p,hp,hk,ep⟩:=t.par w hw (by rw [ew];simp);have hpx:p=x:=u p hp x hx (by rw [ep,ew];simp);subst hpx;unfold jU;rw [if_pos hk];cases hf:Oj N (p.1++ [s]) with
  | none=>exact absurd ew (sU.1 hf w hw)
  | some v=>
   obtain ⟨v1,v2⟩:=Nf hf;exact Ze t u r v y v1 hy (by rw [v2,e,aG];rfl)
end Go.Lm

namespace Go.Proofs
open Go Go.Lm Go.RowKit
set_option maxRecDepth 1000000
def Dr:Ct
 | [.v (.c cim)],[],Q=>(match (Ty.sl Ty.u8).of [cim] with
  | some (im,[])=>∃ (N:List bu) (d:IR),uP N/\d.Ok dD N/\im=d.im dD/\∀ A1 A2 A3 M,RB A1 d.fI d.t.RI->RB A2 d.fL d.t.RL->RB A3 d.fX d.t.RX->mq d N (n9 N 17 0) M->Q (.cJ [.c (.p 0 0),.c (.k (.int .i64 0))]) [.cells 90 [.de (.int .u32) dD 0 0,.d .u8 (d.im dD),.k (.int .i64 d.s.1),.k (.int .i64 d.s.2.1),.k (.int .i64 d.s.2.2.1),.k (.int .i64 d.s.2.2.2.1),.k (.int .i64 d.s.2.2.2.2.1),.k (.int .i64 d.s.2.2.2.2.2.1),.k (.int .i64 d.s.2.2.2.2.2.2.1),.k (.int .i64 d.s.2.2.2.2.2.2.2.1),.k (.int .i64 d.s.2.2.2.2.2.2.2.2.1),.k (.int .i64 d.s.2.2.2.2.2.2.2.2.2.1),.d (.int .i64) d.pl,.d (.int .i64) d.ids,.p 1 0,.p 2 0,.p 3 0,.m 4,.k (.int .i64 ((n9 N 17 0).length:Nat))],.abs A1,.abs A2,.abs A3,.ab (.pm 3 82 bB M)]
  | _=>False)
 | _,_,_=>False
def ajz:=(((((iH.add zt).add Bb).add abS).add T7).add ab6).add W7
abbrev O8 (y0) (y1) (y2) (y3) (R:Prop):=mq y0 y1 y2 []/\ah=(aE y2)/\List.Pairwise (λx1 x2=>x1≠x2) (y2++n9 y1 (17:Nat) y3)/\(∀ (v:Int),v∈y2->0<=v/\v< (aE y1))/\(0<=y3/\y3< (aE y1)/\ah=(km y1 y3)/\17<=List.length (aK noTy y1 y3).1+17)/\bd=(aK noTy y1 y3).2.2.1/\R
abbrev Cn (y0:SV->List HO->Prop):=y0 (.cJ [.c pt,.c (.k (.int .i64 2))]) []
abbrev yj:=SV.cJ [S1.c (.p 0 0),.c (.k a6)]
def EW (im:(List (Ty.u8).den)):dE:=λQ=>cM im (bt (Im (gZ im (∃ s r,rD s/\im=fF dD s++r/\s.1=(↑(dm im):Ty.den bF)/\(cA s.1 s.2.1 s.2.2.1 (cA s.2.2.2.1 s.2.2.2.2.1 s.2.2.2.2.2.1 (cA s.2.2.2.2.2.2.1 s.2.2.2.2.2.2.2.1 
 s.2.2.2.2.2.2.2.2.1 (aF .i64 s.2.2.2.2.2.2.2.2.2.1->aF .i64 0->(fa (dm im)/\(aL (dm im)->bD< bK/\bK=bK/\gZ im (∃ fs R,fU R (iI dD im s.2.2.1 s.2.2.2.1 fs R []/\∀ (A:Value->Atom),RB 
 A fs R->bK=bK/\gZ im (∃ fs R,fU R (iI dD im s.2.2.2.1 s.2.2.2.2.1 fs R []/\∀ (A_1:Value->Atom),RB A_1 fs R->bK=bK/\gZ im (∃ fs R,fU R (iI dD im s.2.2.2.2.2.2.1 s.1 fs R []/\∀ (A_2 
 :Value->Atom),RB A_2 fs R->∃ d N,IR.Ok d dD N/\bK=bK/\im=IR.im d dD/\d.s=s/\∃ qd N,IR.Ok qd dD N/\(dD=dD/\im=IR.im qd dD/\qd.s=s/\d.pl=qd.pl/\d.ids=qd.ids)/\(RB A qd.fI qd.t.RI/\ 
 RB A_1 qd.fL qd.t.RL/\RB A_2 qd.fX qd.t.RX)/\∃ V k,O8 qd N V k (Kk.get Kk.int qd.t.Mr (fB N k).2.1=some s.2.2.2.2.2.2.2.2.2.1/\∀ (B1 B2 B3:Value->Atom) (M':List vf),RB B1 qd.fI qd.t.RI->RB B2 qd.fL qd.t.RL 
 ->RB B3 qd.fX qd.t.RX->mq qd N (V++n9 N (17:Nat) k) M'->aL (List.length M')->br ((a7 M') !=s.2.1) (Cn Q) (∀ (hz:Hp) (mb:Nat),agD (PUnit×(Hp×Nat×List (Int×Nat×(Int×Int×Int×Int×Int×Int×Int× 
 Int×Int×Int×ByteArray×PUnit)×Int×List (ByteArray×Int×Int×PUnit)×List (ByteArray×List UInt8×PUnit)×PUnit)×Option (Int×Nat×(Int×Int×Int×Int×Int×Int×Int×Int×Int×Int×ByteArray×PUnit)×Int× 
 List (ByteArray×Int×Int×PUnit)×List (ByteArray×List UInt8×PUnit)×PUnit))×PUnit) (λi ag=>hz=i.2.1.1/\mb=i.2.1.2.1/\(i.2.1.2.2.1= []->Q yj [gk dD im s.1 s.2.1 s.2.2.1 s.2.2.2.1 s.2.2.2.2.1 s.2.2.2.2.2.1 
 s.2.2.2.2.2.2.1 s.2.2.2.2.2.2.2.1 s.2.2.2.2.2.2.2.2.1 s.2.2.2.2.2.2.2.2.2.1 d.pl d.ids (a7 (V++n9 N (17:Nat) k)),HO.abs B1,HO.abs B2,HO.abs B3,HO.ab (AbK.pz (3:TypeId) (82:TypeId) bB M' hz mb)])/\∀ (x:Int) (bb:Nat) (y 
 :Ty.den bB) (mC:List vf),List.Perm i.2.1.2.2.1 ((x,bb,y)::mC)->aF .i64 x->∃ rR bb_1 y_1,hz=i.2.1.1/\mb=i.2.1.2.1/\some (x,bb,y)=some (rR,bb_1,y_1)/\(aF .i64 rR->∃ p,p∈M'/\p.2.1=bb_1/\(Ty.ok 
 bB p.2.2->∃ p_1,p_1∈M'/\p_1.2.1=bb_1/\(Ty.ok bB p_1.2.2->br (p.2.2.2.1 !=p_1.2.2.1.2.2.2.2.1) (Cn Q) (ag ((),(i.2.1.1,i.2.1.2.1,mC,some (x,bb,y)),())))))) ((),(hz,mb,M',none),())))))))))))/\fa (dm 
 im)/\(aL (dm im)->bD< bK/\bK=bK/\gZ im (∃ fs R,fU R (iI dD im s.2.2.1 s.2.2.2.1 fs R []/\∀ (A:Value->Atom),RB A fs R->bK=bK/\gZ im (∃ fs R,fU R (iI dD im s.2.2.2.1 
 s.2.2.2.2.1 fs R []/\∀ (A_1:Value->Atom),RB A_1 fs R->bK=bK/\gZ im (∃ fs R,fU R (iI dD im s.2.2.2.2.2.2.1 s.1 fs R []/\∀ (A_2:Value->Atom),RB A_2 fs R->∃ d N,IR.Ok d dD N/\bK=bK/\im= 
 IR.im d dD/\d.s=s/\∃ qd N,IR.Ok qd dD N/\(dD=dD/\im=IR.im qd dD/\qd.s=s/\d.pl=qd.pl/\d.ids=qd.ids)/\(RB A qd.fI qd.t.RI/\RB A_1 qd.fL qd.t.RL/\RB A_2 qd.fX qd.t.RX)/\∃ V k,O8 qd N V k 
 (Kk.get Kk.int qd.t.Mr (fB N k).2.1=some s.2.2.2.2.2.2.2.2.2.1/\∀ (B1 B2 B3:Value->Atom) (M':List vf),RB B1 qd.fI qd.t.RI->RB B2 qd.fL qd.t.RL->RB B3 qd.fX qd.t.RX->mq qd N (V++n9 N (17:Nat) k) M'->aL 
 (List.length M')->br ((a7 M') !=s.2.1) (Cn Q) (∀ (hz:Hp) (mb:Nat),agD (PUnit×(Hp×Nat×List (Int×Nat×(Int×Int×Int×Int×Int×Int×Int×Int×Int×Int×ByteArray×PUnit)×Int×List (ByteArray×Int×Int 
 ×PUnit)×List (ByteArray×List UInt8×PUnit)×PUnit)×Option (Int×Nat×(Int×Int×Int×Int×Int×Int×Int×Int×Int×Int×ByteArray×PUnit)×Int×List (ByteArray×Int×Int×PUnit)×List (ByteArray×List UInt8× 
 PUnit)×PUnit))×PUnit) (λi ag=>hz=i.2.1.1/\mb=i.2.1.2.1/\(i.2.1.2.2.1= []->Q yj [gk dD im s.1 s.2.1 s.2.2.1 s.2.2.2.1 s.2.2.2.2.1 s.2.2.2.2.2.1 s.2.2.2.2.2.2.1 s.2.2.2.2.2.2.2.1 s.2.2.2.2.2.2.2.2.1 
 s.2.2.2.2.2.2.2.2.2.1 d.pl d.ids (a7 (V++n9 N (17:Nat) k)),HO.abs B1,HO.abs B2,HO.abs B3,HO.ab (AbK.pz (3:TypeId) (82:TypeId) bB M' hz mb)])/\∀ (x:Int) (bb:Nat) (y:Ty.den bB) (mC:List vf),List.Perm 
 i.2.1.2.2.1 ((x,bb,y)::mC)->aF .i64 x->∃ rR bb_1 y_1,hz=i.2.1.1/\mb=i.2.1.2.1/\some (x,bb,y)=some (rR,bb_1,y_1)/\(aF .i64 rR->∃ p,p∈M'/\p.2.1=bb_1/\(Ty.ok bB p.2.2->∃ p_1,p_1∈M'/\p_1.2.1=bb_1/\ 
 (Ty.ok bB p_1.2.2->br (p.2.2.2.1 !=p_1.2.2.1.2.2.2.2.1) (Cn Q) (ag ((),(i.2.1.1,i.2.1.2.1,mC,some (x,bb,y)),())))))) ((),(hz,mb,M',none),()))))))))))))))))))
theorem WI:cG 27 Dr:=by
 intro args H Q h;unfold Dr at h;split at h;rotate_left;cases h;rename_i cim;split at h;rotate_left;cases h;rename_i im Wc;refine Wp.said (args':=[.c (.d Ty.u8 im)]) (λE g=>bC.cE (dI Wc) (λ_ h=>h)) ?_;clear Wc;refine (λhh=>Wp.ahE (p:=4) hh) ?_;refine Wp.dJ ajz fA ⟨[(11,⟨[],[(7,.ab (.Pd 3 2 bB))]⟩)],[]⟩ Tryz.f27 (EW im) (hold:=[58]) (clo:=true) (cloH:=true) (pmT:=[(88,82,bB)]) ?_;unfold EW vf Im fB gZ yj bt Cn dm pt fU O8 km cM a6 cA ah bd a7 aE fa aL bD bK gk bF;obtain ⟨N,d,tr,hd,rfl,h⟩:=h;obtain ⟨z1,z2,z3,z4,z5,z6,z7,z8⟩:=hd.small;have hr:=hd.rds;have hlen:=IR.YO hd;obtain ⟨r1,r2,r3⟩:=tr.root;have sO:=tr.pos;obtain ⟨x0,hx0,e1,e2,e3⟩:=hd.root;obtain rfl:=hd.tok.uniq hx0 (uF (e:=noTy) (bz 0) (by omega)) (e1.trans r1.symm);have hnd:=(AB hd.tok r1 sO).1;refine λ_=>⟨rfl,rfl,rfl,by decide,by decide,rfl,by omega,d.s,_,hd.sup,rfl,hlen,λ_ _ _ _ _ _ _ _ _ _ _=>both ⟨by omega,λ_=>⟨by decide,rfl,by omega,d.fI,d.t.RI,by omega,hr.I,λA1 hA1=>⟨rfl,by omega,d.fL,d.t.RL,by omega,hr.L,λA2 hA2=>⟨rfl,by omega,d.fX,d.t.RX,by omega,hr.X,λA3 hA3=>⟨d,N,hd,rfl,rfl,rfl,d,N,hd,⟨rfl,rfl,rfl,rfl,rfl⟩,⟨hA1,hA2,hA3⟩,[],0,mq.nil d N,rfl,hnd,(λv hv=>by cases hv),⟨by decide,by omega,by rw [r1];rfl,by omega⟩,r2.symm,e3,λB1 B2 B3 M h1 h2 h3 hV _=>?_⟩⟩⟩⟩⟩⟩;have hV:mq d N (n9 N 17 0) M:=hV;have hc:=hV.count hd r1 sO;have hsn:=hd.sn;refine aw (λq=>?_) (λ_=>λhz mb=>?_)
 .rw [hc,hsn] at q;simp at q
 refine bp.intro (λi=>i.2.1.1=hz/\i.2.1.2.1=mb/\∀ p∈i.2.1.2.2.1,p∈M) (λi=>i.2.1.2.2.1.length) ⟨rfl,rfl,λp hp=>hp⟩ ?_;rintro ⟨_,⟨SH,Oe,left,cur⟩,_⟩ ⟨rfl,rfl,hl⟩;simp only at hl ⊢;refine ⟨trivial,trivial,λ_=>⟨_,_,_,_,_,_,rfl,h B1 B2 B3 M h1 h2 h3 hV⟩,λx bb y mC hp _=>?_⟩;have hm:(x,bb,y)∈M:=hl _ (hp.mem_iff.2 aX);refine ⟨x,bb,y,trivial,trivial,rfl,λ_=>⟨(x,bb,y),hm,rfl,λ_=>⟨(x,bb,y),hm,rfl,λ_=>aw (λq=>?_) (λ_=>⟨⟨trivial,trivial,λp YW=>hl p (hp.mem_iff.2 (aH _ YW))⟩,by rw [hp.length_eq];exact Nat.lt_succ_self _⟩)⟩⟩⟩;obtain ⟨k,_,_,hk⟩:=hV.kC _ hm;have q1:=hk.nm;have q2:=hk.n.lnk;rw [Ta hd.tok r1 sO] at q1;have q3:(y.2.1:Int)=y.1.2.2.2.2.1:=q1.trans q2.symm;simp [q3] at q
def aeq:Ct:=λargs H Q=>∃ (ref:Int) (T:List Int) (im:List UInt8) (s0:Int) (s1:Int) (s2:Int) (s3:Int) (s4:Int) (s5:Int) (s6:Int) (s7:Int) (s8:Int) (s9:Int) (pl:List Int) (ids:List Int) (nm:Int) (R1:Value->Atom) (R2:Value->Atom) (R3:Value->Atom) (M:List (Int×Nat×bB.den)),args= [.v (.c (.p 0 0)),.int ref]/\H= [.cells 90 [.de (.int .u32) T 0 0,.d .u8 im,.k (.int .i64 s0),.k (.int .i64 s1),.k (.int .i64 s2),.k (.int .i64 s3),.k (.int .i64 s4),.k (.int .i64 s5),.k (.int .i64 s6),.k (.int .i64 s7),.k (.int .i64 s8),.k (.int .i64 s9),.d (.int .i64) pl,.d (.int .i64) ids,.p 1 0,.p 2 0,.p 3 0,.m 4,.k (.int .i64 nm)],.abs R1,.abs R2,.abs R3,.ab (.pm 3 82 bB M)]/\(∃ p∈M,p.1=ref)/\∀ (i bb:Nat) (r:bB.den),M[i]?=some (ref,bb,r)->bB.ok r->Q (.cJ [.c (.p 5 0),.c (.k (.int .i64 0))]) [.cells 90 [.de (.int .u32) T 0 0,.d .u8 im,.k (.int .i64 s0),.k (.int .i64 s1),.k (.int .i64 s2),.k (.int .i64 s3),.k (.int .i64 s4),.k (.int .i64 s5),.k (.int .i64 s6),.k (.int .i64 s7),.k (.int .i64 s8),.k (.int .i64 s9),.d (.int .i64) pl,.d (.int .i64) ids,.p 1 0,.p 2 0,.p 3 0,.m 4,.k (.int .i64 nm)],.abs R1,.abs R2,.abs R3,.qk (.pm 3 82 bB M i ref bb) 5,.cells 82 [.k (.int .i64 r.1.1),.k (.int .i64 r.1.2.1),.k (.int .i64 r.1.2.2.1),.k (.int .i64 r.1.2.2.2.1),.k (.int .i64 r.1.2.2.2.2.1),.k (.int .i64 r.1.2.2.2.2.2.1),.k (.int .i64 r.1.2.2.2.2.2.2.1),.k (.int .i64 r.1.2.2.2.2.2.2.2.1),.k (.int .i64 r.1.2.2.2.2.2.2.2.2.1),.k (.int .i64 r.1.2.2.2.2.2.2.2.2.2.1),.k (.string r.1.2.2.2.2.2.2.2.2.2.2.1),.k (.int .i64 r.2.1),.d dh r.2.2.1,.d eD r.2.2.2.1]]
def K1 (ref:Int) (T:List Int) (im:List UInt8) (s0 s1 s2 s3 s4 s5 s6 s7 s8 s9:Int) (pl ids:List Int) (nm:Int) (R1 R2 R3:Value->Atom) (M:(List (Int×Nat×bB.den))):dE:=λQ=>aF .i64 ref->((Ce M ref)->Q (.cJ [.c pt,.c (.k (.int .i64 1))]) [gk T im s0 s1 s2 s3 s4 s5 s6 s7 s8 s9 pl ids nm,HO.abs R1,HO.abs R2,HO.abs R3,fH M]) 
 /\∀ (i bb:Nat) (x:Ty.den bB),M[i]?=some (ref,bb,x)->Ty.ok bB x->Q (SV.cJ [S1.c (.p 5 0),.c (.k a6)]) [gk T im s0 s1 s2 s3 s4 s5 s6 s7 s8 s9 pl ids nm,HO.abs R1,HO.abs R2,HO.abs R3,HO.qk (HK.pm (3:TypeId) (82: 
 TypeId) bB M i ref bb) jY,.cells 82 [.k (aC x.1.1),.k (aC x.1.2.1),.k (aC x.1.2.2.1),.k (aC x.1.2.2.2.1),.k (aC x.1.2.2.2.2.1),.k (aC x.1.2.2.2.2.2.1),.k (aC x.1.2.2.2.2.2.2.1),.k (aC x.1.2.2.2.2.2.2.2.1),.k 
 (aC x.1.2.2.2.2.2.2.2.2.1),.k (aC x.1.2.2.2.2.2.2.2.2.2.1),.k (.string x.1.2.2.2.2.2.2.2.2.2.2.1),.k (aC x.2.1),Cl.d dh x.2.2.1,Cl.d eD x.2.2.2.1]]
theorem QJ:cG 30 aeq:=by
 intro args H Q h;obtain ⟨ref,T,im,s0,s1,s2,s3,s4,s5,s6,s7,s8,s9,pl,ids,nm,R1,R2,R3,M,rfl,rfl,h⟩:=h;refine Wp.dJ iH fA ⟨[],[]⟩ Tryz.f30 (K1 ref T im s0 s1 s2 s3 s4 s5 s6 s7 s8 s9 pl ids nm R1 R2 R3 M) ?_;unfold K1 Ce pt a6 aC jY gk fH;obtain ⟨⟨p,hp,e⟩,h⟩:=h;exact λ_=>⟨λkB=>absurd e (kB p hp),λi bb r hi ho=>h i bb r hi ho⟩
def NK:Ct:=λargs H Q=>(match args with
 | [.v (.c (.p 0 0)),.v (.c (.k (.int .i64 ref)))]=>(match H with
 | [o0,o1,o2,o3,o4]=>imR o0 λT im s0 s1 s2 s3 s4 s5 s6 s7 s8 s9 pl ids nm=>(match o1 with
 | .abs R1=>(match o2 with
 | .abs R2=>(match o3 with
 | .abs R3=>Mo o4 λM=>(∃ p∈M,p.1=ref)/\∀ (i bb:Nat) (r:bB.den),M[i]?=some (ref,bb,r)->bB.ok r->Q (.cJ [.c (.p 5 0),.c (.k (.int .i64 0))]) [.cells 90 [.de (.int .u32) T 0 0,.d .u8 im,.k (.int .i64 s0),.k (.int .i64 s1),.k (.int .i64 s2),.k (.int .i64 s3),.k (.int .i64 s4),.k (.int .i64 s5),.k (.int .i64 s6),.k (.int .i64 s7),.k (.int .i64 s8),.k (.int .i64 s9),.d (.int .i64) pl,.d (.int .i64) ids,.p 1 0,.p 2 0,.p 3 0,.m 4,.k (.int .i64 nm)],.abs R1,.abs R2,.abs R3,.qk (.pm 3 82 bB M i ref bb) 5,.cells 82 [.k (.int .i64 r.1.1),.k (.int .i64 r.1.2.1),.k (.int .i64 r.1.2.2.1),.k (.int .i64 r.1.2.2.2.1),.k (.int .i64 r.1.2.2.2.2.1),.k (.int .i64 r.1.2.2.2.2.2.1),.k (.int .i64 r.1.2.2.2.2.2.2.1),.k (.int .i64 r.1.2.2.2.2.2.2.2.1),.k (.int .i64 r.1.2.2.2.2.2.2.2.2.1),.k (.int .i64 r.1.2.2.2.2.2.2.2.2.2.1),.k (.string r.1.2.2.2.2.2.2.2.2.2.2.1),.k (.int .i64 r.2.1),.d dh r.2.2.1,.d eD r.2.2.2.1]]
 | _=>False)
 | _=>False)
 | _=>False)
 | _=>False)
 | _=>False)
theorem A8:cG 30 NK:=λargs H Q h=>by
 unfold NK Mo imR V9 YP at h;dsimp only at h
 repeat (split at h;rotate_left;exact h.elim)
 exact QJ _ _ _ ⟨_,_,_,_,_,_,_,_,_,_,_,_,_,_,_,_,_,_,_,_,rfl,rfl,h⟩
structure abz (d:IR) (N:List bu) (x:bu) (es:List dh.den) (e:Int):Prop where
 or:(e=0/\x.2.2.1=1/\iG ⟨#[]⟩ es/\fZ N d.t.Mr x.1.length (dz x.1 N 0) es)\/(e=24/\x.2.2.1≠1/\es= [])
structure aby (d:IR) (N:List bu) (x:bu) (s:ByteArray) (v:dh.den) (e:Int):Prop where
 eq:e=mB N x s
 ok:e=0->∃ y∈N,y.1=x.1++ [s]/\agG d N y s v
def X1 (x:bu) (off n:Int):List UInt8:=if x.2.2.1=2/\0<=off/\0<=n then (x.2.2.2.2.1.drop off.toNat).take n.toNat else []
def AG (x:bu) (off n:Int):Int:=if x.2.2.1=1 then 25 else if x.2.2.1=3\/off< 0\/n< 0 then 1 else 0
structure BsR (l:List dh.den) (s:ByteArray) (i:Int) (b:Bool):Prop where
 r:0<=i/\i<=(l.length:Int)
 yes:b=true->i< (l.length:Int)/\(aK dh l i).1=s
 no:b=false->∀ x∈l,x.1≠s
def ai3:Ct:=cN dh λx=>cS λs=>c0 λQ=>Q (.int (fx x.1 s)) []
def abd:=iH.add QJ
def Rw:((dh).den)->(ByteArray)->dE:=
 λx s Q=>j6 x.1 (cj x.2.1 x.2.2.1 (IG s x.1 Q))
theorem ahd:cG 266 ai3:=fz<| V8 λx=>okS λs=>iQ λQ h=>by
 refine Wp.dJ abd fA ⟨[],[]⟩ Tryz.f266 (Rw x s) ?_;unfold Rw IG j6 dr cj a6 aL;refine λ_ _ _ _=>aw (λq=>?_) (λq=>aw (λq2=>?_) (λq2=>?_))
 .rw [tA,decide_eq_true_eq] at q;rcases jK x.1 s with ⟨_,e⟩| ⟨_,e⟩| ⟨_,e⟩<;>rw [e] at h q
  .exact h
  .exact absurd q (by decide)
  .exact absurd q (by decide)
 .rw [tA,decide_eq_false_iff_not] at q;rcases jK x.1 s with ⟨_,e⟩| ⟨_,e⟩| ⟨_,e⟩
  .rw [e] at q;exact absurd (by decide) q
  .rw [jQ.2 (yU e)] at q2;simp at q2
  .rw [e] at h;exact h
 .rw [q] at q2;have q3:mJ x.1 s=true:=by simpa using q2
  rw [jQ.1 q3,nU] at h;exact h
def afE:Ct
 | [.v (.c cl),.v (.c (.k (.string s))),.v (.c (.fn 266 []))],[],Q=>(match (Ty.sl dh).of [cl] with
  | some (l,[])=>(l.Pairwise λa b=>uB a.1 b.1=true)/\l.length<=100000/\∀ (i:Int) (b:Bool),BsR l s i b->Q (.cJ [.c (.k (.int .i64 i)),.c (.k (.bool b))]) []
  | _=>False)
 | _,_,_=>False
def ajy:=abd.add ahd
def Xr (l:(List (dh).den)) (s:ByteArray):dE:=λQ=>List.length l<=9223372036854775807->aL (dr s)->aL (List.length l)->bp (λi ag=>br (decide (i.1.1< i.1.2.1)) (aF .i64 (i.1.1+i.1.2.1)/\(qI i.1.1 i.1.2.1 (qJ i.1.1 i.1.2.1 (0<=iy (iJ i.1.1 
 i.1.2.1)/\iy (iJ i.1.1 i.1.2.1)< (aE l)/\(Ty.ok dh (aK dh l (kM i.1.1 i.1.2.1))->aF .i64 (fx (aK dh l (kM i.1.1 i.1.2.1)).1 s)->br (decide (fx (aK dh l (kM i.1.1 i.1.2.1)).1 s< 0)) (sC i.1.1 
 i.1.2.1 ag i.1.2) (sm ag i.1.1 i.1.2.1)))))) (br (decide (i.1.1< (aE l))) (0<=i.1.1/\i.1.1< (aE l)/\(Ty.ok dh (gP l i.1.1)->aF .i64 (fx (gP l i.1.1).1 s)->Q (.cJ [.c (.k (aC i.1.1)),.c (.k (.bool (fx 
 (gP l i.1.1).1 s==0)))]) [])) (Q (.cJ [.c (.k (aC i.1.1)),.c (.k (.bool false))]) []))) ((ah,(aE l),()),())
theorem akw:cG 265 afE:=by
 intro args H Q h;unfold afE at h;split at h;rotate_left;cases h;rename_i cl s;split at h;rotate_left;cases h;rename_i l hl;refine Wp.said (args':=[.c (.d dh l),.str s,.v (.c (.fn 266 []))]) (λE g=>bC.cE (dI hl) (bC.cE (λ_ h=>h) (bC.cE (λ_ h=>h) (λ_ h=>h)))) ?_;clear hl;refine Wp.dJ ajy fA ⟨[(4,⟨[(9,.int .i64),(10,.int .i64)],[]⟩)],[]⟩ Tryz.f265 (Xr l s) ?_;unfold Xr gP sm qI qJ kM dr sC iJ aC ah bd aE aL pS iy;obtain ⟨hs,hl,h⟩:=h;have hP:∀ a c:Int,0<=a->a< c->c< (l.length:Int)->fx (aK dh l a).1 (aK dh l c).1< 0:=λa c a0 ac c1=>by
  have:=dj.1 hs a.toNat c.toNat (by omega) (by omega) (by omega);rw [<-gV (e:=dh) a0 (by omega),<-gV (e:=dh) (by omega) c1,tA,decide_eq_true_eq] at this;exact this
 refine λ_ _ _=>bp.intro (λi=>0<=i.1.1/\i.1.1<=i.1.2.1/\i.1.2.1<=l.length/\(∀ a,0<=a->a< i.1.1->fx (aK dh l a).1 s< 0)/\∀ a,i.1.2.1<=a->a< (l.length:Int)->¬fx (aK dh l a).1 s< 0) (λi=>(i.1.2.1 - i.1.1).toNat) ⟨bz _,by show (0:Int)<=l.length;omega,bz _,λa a0 a1=>by have a1:a< 0:=a1;omega,λa a0 a1=>by have a0:(l.length:Int)<=a:=a0;omega⟩ ?_;rintro ⟨⟨i,j,_⟩,_⟩ ⟨h0,h1,h2,h3,h4⟩;simp only at h0 h1 h2 h3 h4 ⊢;refine aw (λhq=>?_) (λhq=>?_)
 .have hq:=of_decide_eq_true hq;refine ⟨by unfold aF;omega,λ_=>⟨by decide,λ_ _=>?_⟩⟩;rw [Pp (n:=i+j) (by omega) (by omega)];refine ⟨by omega,by omega,λ_ _=>aw (λhd=>?_) (λhd=>?_)⟩
  .have hd:=of_decide_eq_true hd;refine ⟨by unfold aF;omega,⟨by omega,by omega,by omega,λa a0 a1=>?_,h4⟩,by omega⟩;rcases Int.lt_or_le a ((i+j) / 2) with q| q
   .exact qY (hP a ((i+j) / 2) a0 q (by omega)) hd
   .obtain rfl:a=(i+j) / 2:=by omega
    exact hd
  .have hd:=of_decide_eq_false hd;refine ⟨⟨by omega,by omega,by omega,h3,λa a0 a1 hc=>?_⟩,by omega⟩;rcases Int.lt_or_le ((i+j) / 2) a with q| q
   .exact hd (qY (hP ((i+j) / 2) a (by omega) q a1) hc)
   .obtain rfl:a=(i+j) / 2:=by omega
    exact hd hc
 .have hq:=of_decide_eq_false hq;obtain rfl:i=j:=by omega
  have kB:(∀ c:Int,c=i->c< (l.length:Int)->(aK dh l c).1≠s)->∀ x∈l,x.1≠s:=λhi x hx e=>by
   obtain ⟨k,hk,rfl⟩:=dR.1 hx;rw [<-gU (e:=dh) hk] at e;rcases Int.lt_trichotomy (k:Int) i with q| q| q
   .have:=h3 k (by omega) q;rw [e,nU] at this;exact absurd this (by decide)
   .exact hi k q (by omega) e
   .have:=hP i k h0 q (by omega);rw [e] at this;exact h4 i (bz _) (by omega) this
  refine aw (λhi=>⟨h0,of_decide_eq_true hi,λ_ _=>h i _ ⟨⟨h0,h2⟩,λe=>⟨of_decide_eq_true hi,yU (eq_of_beq e)⟩,λe=>kB λc hc M6 q=>?_⟩⟩) (λhi=>h i false ⟨⟨h0,h2⟩,(λe=>by cases e),λ_=>kB λc hc M6=>absurd (hc▸M6) (of_decide_eq_false hi)⟩);subst hc;rw [q,nU] at e;exact absurd e (by decide)
def ai2:Ct:=cD dh λx=>c0 λQ=>x.length<=1000000/\Q (.c (.d dh x)) []
def Rv (x:(List (dh).den)):dE:=λQ=>List.length x<=9223372036854775807->∀ (c:Bool),(c=true->x= [])->br (lE c) (Q gy []) ((0+List.length x)*32<=140737488355328/\0+List.length x<=9223372036854775807/\Q gA [.sl 44 dh ([]++x)])
theorem ahc:cG 31 ai2:=fz<| lH λx=>iQ λQ h=>by
 refine Wp.IN (e:=dh) ?_;refine Wp.dJ iH fA ⟨[],[]⟩ Tryz.f31 (Rv x) ?_;unfold Rv gy lE gA dL;obtain ⟨hl,h⟩:=h;refine λ_ c hc=>aw (λhb=>.inr (.inl ⟨rfl,?_⟩)) (λhb=>⟨by omega,by omega,.inr (.inr ⟨0,44,x,rfl,ay 0,rfl,h⟩)⟩);rw [hc hb] at h;exact h
theorem xK {α:Type} {l:List α} {i:Nat} {a:α} (h:l[i]?=some a):l.set i a=l:=by
 obtain ⟨h1,rfl⟩:=au.1 h;exact List.set_getElem_self _
theorem YQ {l:List Int} {i y:Int} (h:l[i.toNat]?=some y) (h0:0<=i):i< (l.length:Int)/\aK (.int .i64) l i=y:=by
 obtain ⟨h1,rfl⟩:=au.1 h;exact ⟨by omega,gV (e:=.int .i64) h0 (by omega)⟩
def aeb:Ct:=λargs H Q=>∃ (ref:Int) (T:List Int) (im:List UInt8) (s0:Int) (s1:Int) (s2:Int) (s3:Int) (s4:Int) (s5:Int) (s6:Int) (s7:Int) (s8:Int) (s9:Int) (pl:List Int) (ids:List Int) (nm:Int) (R1:Value->Atom) (R2:Value->Atom) (R3:Value->Atom) (M:List (Int×Nat×bB.den)),args= [.v (.c (.p 0 0)),.int ref]/\H= [.cells 90 [.de (.int .u32) T 0 0,.d .u8 im,.k (.int .i64 s0),.k (.int .i64 s1),.k (.int .i64 s2),.k (.int .i64 s3),.k (.int .i64 s4),.k (.int .i64 s5),.k (.int .i64 s6),.k (.int .i64 s7),.k (.int .i64 s8),.k (.int .i64 s9),.d (.int .i64) pl,.d (.int .i64) ids,.p 1 0,.p 2 0,.p 3 0,.m 4,.k (.int .i64 nm)],.abs R1,.abs R2,.abs R3,.ab (.pm 3 82 bB M)]/\∃ (d:IR) (N:List bu) (x:bu),d.Ok T N/\(T=dD/\im=d.im T/\d.s=(s0,s1,s2,s3,s4,s5,s6,s7,s8,s9,())/\pl=d.pl/\ids=d.ids)/\DJ d N M x ref/\x∈N/\Q (.cJ [.agg [.k (.int .i64 x.2.2.1),.k (.int .i64 x.2.2.2.1.1),.k (.int .i64 x.2.2.2.1.2.1),.k (.int .i64 x.2.2.2.1.2.2.1),.k (.int .i64 (mh N x.2.1:Nat)),.k (.int .i64 (uz N x))],.c (.k (.int .i64 0))]) [.cells 90 [.de (.int .u32) T 0 0,.d .u8 im,.k (.int .i64 s0),.k (.int .i64 s1),.k (.int .i64 s2),.k (.int .i64 s3),.k (.int .i64 s4),.k (.int .i64 s5),.k (.int .i64 s6),.k (.int .i64 s7),.k (.int .i64 s8),.k (.int .i64 s9),.d (.int .i64) pl,.d (.int .i64) ids,.p 1 0,.p 2 0,.p 3 0,.m 4,.k (.int .i64 nm)],.abs R1,.abs R2,.abs R3,.ab (.pm 3 82 bB M)]
def ajx:=iH.add A8
abbrev kG (y0:List (Int×Nat×bB.den)) (y1:Nat) (y2:Int) (y3:Nat) (y4:Ty.den bB):=List.set y0 y1 (y2,y3,y4)
def KG (ref:Int) (T:List Int) (im:List UInt8) (s0 s1 s2 s3 s4 s5 s6 s7 s8 s9:Int) (pl ids:List Int) (nm:Int) (R1 R2 R3:Value->Atom) (M:(List (Int×Nat×bB.den))):dE:=λQ=>aF .i64 ref->(∃ p,p∈M/\p.1=ref)/\∀ (i bb:Nat) (r:Ty.den bB),M[i]?=some (ref,bb,r)->Ty.ok bB r->aF .i64 0->0<=r.1.2.2.1/\r.1.2.2.1< (aE 
 ids)/\(Ty.ok bF (aK bF ids r.1.2.2.1)->0<=r.1.2.2.2.1/\r.1.2.2.2.1< (aE ids)/\(Ty.ok bF (aK bF ids r.1.2.2.2.1)->br (r.1.1==1) (aL (bO r.2.2.1)->Q (SV.cJ [S1.agg [.k (aC r.1.1),.k (aC r.1.2.1),.k (.int .i64 
 (aK bF ids r.1.2.2.1)),.k (.int .i64 (aK bF ids r.1.2.2.2.1)),.k (aC r.1.2.2.2.2.1),.k (.int .i64 (a7 r.2.2.1))],.c (.k a6)]) [gk T im s0 s1 s2 s3 s4 s5 s6 s7 s8 s9 pl ids nm,HO.abs R1,HO.abs R2,HO.abs R3,fH (kG 
 M i ref bb r)]) (br (r.1.1==3) (Q (SV.cJ [S1.agg [.k (aC r.1.1),.k (aC r.1.2.1),.k (.int .i64 (aK bF ids r.1.2.2.1)),.k (.int .i64 (aK bF ids r.1.2.2.2.1)),.k (aC r.1.2.2.2.2.1),.k (.int .i64 (iO 
 r.1.2.2.2.2.2.2.2.2.2.2.1))],.c (.k a6)]) [gk T im s0 s1 s2 s3 s4 s5 s6 s7 s8 s9 pl ids nm,HO.abs R1,HO.abs R2,HO.abs R3,fH (kG M i ref bb r)]) (Q (SV.cJ [S1.agg [.k (aC r.1.1),.k (aC r.1.2.1),.k (.int .i64 (aK bF 
 ids r.1.2.2.1)),.k (.int .i64 (aK bF ids r.1.2.2.2.1)),.k (aC r.1.2.2.2.2.1),.k (aC r.1.2.2.2.2.2.2.2.1)],.c (.k a6)]) [gk T im s0 s1 s2 s3 s4 s5 s6 s7 s8 s9 pl ids nm,HO.abs R1,HO.abs R2,HO.abs R3,fH (kG M i ref 
 bb r)]))))
theorem ab0:cG 16 aeb:=by
 intro args H Q h;obtain ⟨ref,T,im,s0,s1,s2,s3,s4,s5,s6,s7,s8,s9,pl,ids,nm,R1,R2,R3,M,rfl,rfl,h⟩:=h;refine Wp.dJ ajx fA ⟨[],[]⟩ Tryz.f16 (KG ref T im s0 s1 s2 s3 s4 s5 s6 s7 s8 s9 pl ids nm R1 R2 R3 M) (clo:=true) ?_;unfold KG kG iO dr bO a6 aC a7 aE aL gk fH bF;obtain ⟨d,N,x,hd,⟨rfl,rfl,hs,rfl,rfl⟩,⟨⟨p0,hp0,hpr⟩,tU⟩,hx,h⟩:=h;refine λ_=>⟨⟨p0,hp0,hpr⟩,λi bb r hi _ _=>?_⟩;have hR:=tU i bb r hi;rw [xK hi];have hN:=hR.n;have hmk:=(lj (hd.tok.may x hx)).2;obtain ⟨kd,ekd⟩:∃ a:Int,a=r.1.1:=⟨_,rfl⟩;have GF:kd=x.2.2.1:=by rw [ekd];exact hN.kind
 
 obtain ⟨u1,u2⟩:=YQ hN.uid hN.ok.cm.q2.1;obtain ⟨g1,g2⟩:=YQ hN.gid hN.ok.cm.q3.1;rw [u2,g2];have key:∀ z:Int,z=uz N x->Q (.cJ [.agg [.k (.int .i64 r.1.1),.k (.int .i64 r.1.2.1),.k (.int .i64 (uS x)),.k (.int .i64 (yN x)),.k (.int .i64 r.1.2.2.2.2.1),.k (.int .i64 z)],.c (.k (.int .i64 0))]) [.cells 90 [.de (.int .u32) dD 0 0,.d .u8 (d.im dD),.k (.int .i64 s0),.k (.int .i64 s1),.k (.int .i64 s2),.k (.int .i64 s3),.k (.int .i64 s4),.k (.int .i64 s5),.k (.int .i64 s6),.k (.int .i64 s7),.k (.int .i64 s8),.k (.int .i64 s9),.d (.int .i64) d.pl,.d (.int .i64) d.ids,.p 1 0,.p 2 0,.p 3 0,.m 4,.k (.int .i64 nm)],.abs R1,.abs R2,.abs R3,.ab (.pm 3 82 bB M)]:=λz hz=>by
  rw [hz,show r.1.1=x.2.2.1 from hN.kind,show r.1.2.1=x.2.2.2.1.1 from hN.mode,show r.1.2.2.2.2.1=((mh N x.2.1:Nat):Int) from hN.lnk];exact h
 rw [<-ekd] at key ⊢;refine ⟨hN.ok.cm.q2.1,u1,λ_=>⟨hN.ok.cm.q3.1,g1,λ_=>aw (λq=>λ_=>key _ ?_) (λq=>aw (λq3=>key _ ?_) (λq3=>key _ ?_))⟩⟩
 .have hk:x.2.2.1=1:=GF.symm.trans (eq_of_beq q);unfold uz;rw [if_pos hk,hR.MK hk]
 .have hk:x.2.2.1=3:=GF.symm.trans (eq_of_beq q3);unfold uz;rw [if_neg (by rw [hk];decide),if_neg (by rw [hk];decide),<-hN.tgt hk]
 .have h1:x.2.2.1≠1:=λe=>by rw [GF,e] at q;cases q
  have h3:x.2.2.1≠3:=λe=>by rw [GF,e] at q3;cases q3
  have hk:x.2.2.1=2:=by
   rcases hmk with e| e| e;exact absurd e h1;exact e;exact absurd e h3
  obtain ⟨fs,f1,f2,_⟩:=hd.fileAt hx hk hN;unfold uz;rw [if_neg h1,if_pos hk];exact f2
def aeo:Ct:=λargs H Q=>∃ (ref:Int) (T:List Int) (im:List UInt8) (s0:Int) (s1:Int) (s2:Int) (s3:Int) (s4:Int) (s5:Int) (s6:Int) (s7:Int) (s8:Int) (s9:Int) (pl:List Int) (ids:List Int) (nm:Int) (R1:Value->Atom) (R2:Value->Atom) (R3:Value->Atom) (M:List (Int×Nat×bB.den)),args= [.v (.c (.p 0 0)),.int ref]/\H= [.cells 90 [.de (.int .u32) T 0 0,.d .u8 im,.k (.int .i64 s0),.k (.int .i64 s1),.k (.int .i64 s2),.k (.int .i64 s3),.k (.int .i64 s4),.k (.int .i64 s5),.k (.int .i64 s6),.k (.int .i64 s7),.k (.int .i64 s8),.k (.int .i64 s9),.d (.int .i64) pl,.d (.int .i64) ids,.p 1 0,.p 2 0,.p 3 0,.m 4,.k (.int .i64 nm)],.abs R1,.abs R2,.abs R3,.ab (.pm 3 82 bB M)]/\∃ (d:IR) (N:List bu) (x:bu),d.Ok T N/\(T=dD/\im=d.im T/\d.s=(s0,s1,s2,s3,s4,s5,s6,s7,s8,s9,())/\pl=d.pl/\ids=d.ids)/\DJ d N M x ref/\x∈N/\∀ es e,abz d N x es e->Q (.cJ [.c (.d dh es),.c (.k (.int .i64 e))]) [.cells 90 [.de (.int .u32) T 0 0,.d .u8 im,.k (.int .i64 s0),.k (.int .i64 s1),.k (.int .i64 s2),.k (.int .i64 s3),.k (.int .i64 s4),.k (.int .i64 s5),.k (.int .i64 s6),.k (.int .i64 s7),.k (.int .i64 s8),.k (.int .i64 s9),.d (.int .i64) pl,.d (.int .i64) ids,.p 1 0,.p 2 0,.p 3 0,.m 4,.k (.int .i64 nm)],.abs R1,.abs R2,.abs R3,.ab (.pm 3 82 bB M)]
def ajw:=(iH.add ahc).add A8
def KY (ref:Int) (T:List Int) (im:List UInt8) (s0 s1 s2 s3 s4 s5 s6 s7 s8 s9:Int) (pl ids:List Int) (nm:Int) (R1 R2 R3:Value->Atom) (M:(List (Int×Nat×bB.den))):dE:=λQ=>aF .i64 ref->(∃ p,p∈M/\p.1=ref)/\∀ (i bb:Nat) (r:Ty.den bB),M[i]?=some (ref,bb,r)->Ty.ok bB r->aF .i64 0->br (r.1.1 !=1) (Q (.cJ [.c dL, 
 .c (.k (.int .i64 24))]) [gk T im s0 s1 s2 s3 s4 s5 s6 s7 s8 s9 pl ids nm,HO.abs R1,HO.abs R2,HO.abs R3,fH (kG M i ref bb r)]) (List.length r.2.2.1<=1000000/\(aL (bO r.2.2.1)->Q (SV.cJ [S1.c (Cl.d dh r.2.2.1),.c (.k 
 a6)]) [gk T im s0 s1 s2 s3 s4 s5 s6 s7 s8 s9 pl ids nm,HO.abs R1,HO.abs R2,HO.abs R3,fH (kG M i ref bb r)]))
theorem acj:cG 13 aeo:=by
 intro args H Q h;obtain ⟨ref,T,im,s0,s1,s2,s3,s4,s5,s6,s7,s8,s9,pl,ids,nm,R1,R2,R3,M,rfl,rfl,h⟩:=h;refine Wp.lq [some (.sl dh),none] [] ?_;refine Wp.dJ ajw fA ⟨[],[]⟩ Tryz.f13 (KY ref T im s0 s1 s2 s3 s4 s5 s6 s7 s8 s9 pl ids nm R1 R2 R3 M) (clo:=true) ?_;unfold KY kG bO dL a6 aL gk fH;obtain ⟨d,N,x,hd,⟨rfl,rfl,hs,rfl,rfl⟩,⟨⟨p0,hp0,hpr⟩,tU⟩,hx,h⟩:=h;refine λ_=>⟨⟨p0,hp0,hpr⟩,λi bb r hi _ _=>?_⟩;have hR:=tU i bb r hi;rw [xK hi];have hN:=hR.n;have hmk:=(lj (hd.tok.may x hx)).2;obtain ⟨kd,ekd⟩:∃ a:Int,a=r.1.1:=⟨_,rfl⟩;have GF:kd=x.2.2.1:=by rw [ekd];exact hN.kind
 
 rw [<-ekd];refine aw (λq=>⟨ay _,h [] 24 ⟨.inr ⟨rfl,λe=>?_,rfl⟩⟩⟩) (λq=>?_);rw [GF,e] at q;cases q;have hk:x.2.2.1=1:=by
  have:kd=1:=by simpa using q
  rw [<-GF];exact this
 have hl:=hR.MK hk;have uG:=kU x.1 (L:=N) (k:=0);have hl3:=hd.tok.len;refine ⟨by omega,λ_=>⟨ay _,h r.2.2.1 0 ⟨.inl ⟨rfl,hk,?_⟩⟩⟩⟩;rcases hR.list with ⟨_,a,b⟩| ⟨a,_⟩;exact ⟨a,b⟩;exact absurd hk a
def NJ:Ct:=λargs H Q=>(match args with
 | [.v (.c (.p 0 0)),.v (.c (.k (.int .i64 ref)))]=>(match H with
 | [o0,o1,o2,o3,o4]=>imR o0 λT im s0 s1 s2 s3 s4 s5 s6 s7 s8 s9 pl ids nm=>(match o1 with
 | .abs R1=>(match o2 with
 | .abs R2=>(match o3 with
 | .abs R3=>Mo o4 λM=>∃ (d:IR) (N:List bu) (x:bu),d.Ok T N/\(T=dD/\im=d.im T/\d.s=(s0,s1,s2,s3,s4,s5,s6,s7,s8,s9,())/\pl=d.pl/\ids=d.ids)/\DJ d N M x ref/\x∈N/\∀ es e,abz d N x es e->Q (.cJ [.c (.d dh es),.c (.k (.int .i64 e))]) [.cells 90 [.de (.int .u32) T 0 0,.d .u8 im,.k (.int .i64 s0),.k (.int .i64 s1),.k (.int .i64 s2),.k (.int .i64 s3),.k (.int .i64 s4),.k (.int .i64 s5),.k (.int .i64 s6),.k (.int .i64 s7),.k (.int .i64 s8),.k (.int .i64 s9),.d (.int .i64) pl,.d (.int .i64) ids,.p 1 0,.p 2 0,.p 3 0,.m 4,.k (.int .i64 nm)],.abs R1,.abs R2,.abs R3,.ab (.pm 3 82 bB M)]
 | _=>False)
 | _=>False)
 | _=>False)
 | _=>False)
 | _=>False)
theorem WJ:cG 13 NJ:=λargs H Q h=>by
 unfold NJ Mo imR V9 YP at h;dsimp only at h
 repeat (split at h;rotate_left;exact h.elim)
 exact acj _ _ _ ⟨_,_,_,_,_,_,_,_,_,_,_,_,_,_,_,_,_,_,_,_,rfl,rfl,h⟩
def aen:Ct:=λargs H Q=>∃ (ref:Int) (s:ByteArray) (T:List Int) (im:List UInt8) (s0:Int) (s1:Int) (s2:Int) (s3:Int) (s4:Int) (s5:Int) (s6:Int) (s7:Int) (s8:Int) (s9:Int) (pl:List Int) (ids:List Int) (nm:Int) (R1:Value->Atom) (R2:Value->Atom) (R3:Value->Atom) (M:List (Int×Nat×bB.den)),args= [.v (.c (.p 0 0)),.int ref,.str s]/\H= [.cells 90 [.de (.int .u32) T 0 0,.d .u8 im,.k (.int .i64 s0),.k (.int .i64 s1),.k (.int .i64 s2),.k (.int .i64 s3),.k (.int .i64 s4),.k (.int .i64 s5),.k (.int .i64 s6),.k (.int .i64 s7),.k (.int .i64 s8),.k (.int .i64 s9),.d (.int .i64) pl,.d (.int .i64) ids,.p 1 0,.p 2 0,.p 3 0,.m 4,.k (.int .i64 nm)],.abs R1,.abs R2,.abs R3,.ab (.pm 3 82 bB M)]/\∃ (d:IR) (N:List bu) (x:bu),d.Ok T N/\(T=dD/\im=d.im T/\d.s=(s0,s1,s2,s3,s4,s5,s6,s7,s8,s9,())/\pl=d.pl/\ids=d.ids)/\DJ d N M x ref/\x∈N/\∀ v e,aby d N x s v e->Q (.cJ [.agg (dh.cells v),.c (.k (.int .i64 e))]) [.cells 90 [.de (.int .u32) T 0 0,.d .u8 im,.k (.int .i64 s0),.k (.int .i64 s1),.k (.int .i64 s2),.k (.int .i64 s3),.k (.int .i64 s4),.k (.int .i64 s5),.k (.int .i64 s6),.k (.int .i64 s7),.k (.int .i64 s8),.k (.int .i64 s9),.d (.int .i64) pl,.d (.int .i64) ids,.p 1 0,.p 2 0,.p 3 0,.m 4,.k (.int .i64 nm)],.abs R1,.abs R2,.abs R3,.ab (.pm 3 82 bB M)]
def ajv:=(iH.add akw).add WJ
def KX (ref:Int) (s:ByteArray) (T:List Int) (im:List UInt8) (s0 s1 s2 s3 s4 s5 s6 s7 s8 s9:Int) (pl ids:List Int) (nm:Int) (R1 R2 R3:Value->Atom) (M:(List (Int×Nat×bB.den))):dE:=λQ=>aF .i64 ref->aL (dr s)->∃ d N x,IR.Ok d T N/\(T=dD/\im=IR.im d T/\d.s=(s0,s1,s2,s3,s4,s5,s6,s7,s8,s9,())/\pl=d.pl/\ids=d.ids)/\ 
 DJ d N M x ref/\x∈N/\∀ (es:List (Ty.den dh)) (e:Int),abz d N x es e->aL (List.length es)->aF .i64 e->br (e !=0) (Q (SV.cJ [S1.agg [.k (.string iz),.k a6,.k a6],.c (.k (aC e))]) [gk T im s0 s1 s2 s3 
 s4 s5 s6 s7 s8 s9 pl ids nm,HO.abs R1,HO.abs R2,HO.abs R3,fH M]) (List.Pairwise (λa b=>uB a.1 b.1=true) es/\List.length es<=100000/\∀ (i:Int) (b:Bool),BsR es s i b->aF .i64 i->br (!b) (Q (SV.cJ [S1.agg [.k (.string 
 iz),.k a6,.k a6],.c (.k (.int .i64 20))]) [gk T im s0 s1 s2 s3 s4 s5 s6 s7 s8 s9 pl ids nm,HO.abs R1,HO.abs R2,HO.abs R3,fH M]) (0<=i/\i< (aE es)/\(Ty.ok dh (aK dh es i)->Q (SV.cJ [S1.agg [.k (.string (aK 
 dh es i).1),.k (.int .i64 (aK dh es i).2.1),.k (.int .i64 (aK dh es i).2.2.1)],.c (.k a6)]) [gk T im s0 s1 s2 s3 s4 s5 s6 s7 s8 s9 pl ids nm,HO.abs R1,HO.abs R2,HO.abs R3,fH M])))
theorem aci:cG 263 aen:=by
 intro args H Q h;obtain ⟨ref,s,T,im,s0,s1,s2,s3,s4,s5,s6,s7,s8,s9,pl,ids,nm,R1,R2,R3,M,rfl,rfl,h⟩:=h;refine Wp.dJ ajv fA ⟨[],[]⟩ Tryz.f263 (KX ref s T im s0 s1 s2 s3 s4 s5 s6 s7 s8 s9 pl ids nm R1 R2 R3 M) (clo:=true) ?_;unfold KX iz dr a6 aC aE aL gk fH;obtain ⟨d,N,x,hd,⟨rfl,rfl,hs,rfl,rfl⟩,⟨⟨p0,hp0,hpr⟩,tU⟩,hx,h⟩:=h;refine λ_ _=>⟨d,N,x,hd,⟨rfl,rfl,hs,rfl,rfl⟩,⟨⟨p0,hp0,hpr⟩,tU⟩,hx,λes e hL _ _=>?_⟩;rcases hL.or with ⟨rfl,hk,ho,hE⟩| ⟨rfl,hk,rfl⟩;rotate_left;exact aw (λ_=>h (⟨#[]⟩,(0:Int),(0:Int),()) 24 ⟨by unfold mB;rw [if_neg hk],λq=>by cases q⟩) (λq=>by cases q);have hl:=hE.len;have uG:=kU x.1 (L:=N) (k:=0);have hl3:=hd.tok.len;refine aw (λq=>by cases q) (λ_=>⟨(GQ ho).2,by omega,λi b hB _=>aw (λq=>?_) (λq=>?_)⟩)
 .have kB:=hB.no (by simpa using q);refine h (⟨#[]⟩,(0:Int),(0:Int),()) 20 ⟨?_,λq=>by cases q⟩;have:Oj N (x.1++ [s])=none:=sU.2 λy hy e=>by
   obtain ⟨j,hj,ej⟩:=adn hd.tok hE hy e;exact kB _ (dw hj) ej
  unfold mB;rw [if_pos hk,this]
 .obtain ⟨hi,hs'⟩:=hB.yes (by simpa using q);obtain ⟨h0,_⟩:=hB.r;refine ⟨h0,hi,λ_=>?_⟩;obtain ⟨j,rfl⟩:∃ j:Nat,i=j:=⟨i.toNat,by omega⟩;have hj:j< es.length:=by omega
  obtain ⟨y,hy,e1,e2⟩:=adQ hd.tok hE hj;have ex:aK dh es (j:Int)=es[j]:=gU (e:=dh) hj;rw [ex] at hs' ⊢;rw [hs'] at e1 e2;refine h es[j] 0 ⟨?_,λ_=>⟨y,hy,e1,e2⟩⟩;unfold mB;rw [if_pos hk];cases hf:Oj N (x.1++ [s]) with
  | none=>exact absurd e1 (sU.1 hf y hy)
  | some v=>rfl
structure amj (pl:List Int) (nu a:Int):Prop where
 ex:∃ i:Nat,nu=(i:Int)+1/\pl[i]?=some a
theorem acD {z t:List UInt8} {a b k:Nat} (h:(z.drop a).take t.length=t) (hk:b+k<=t.length):(z.drop (a+b)).take k=(t.drop b).take k:=by
 conv=>rhs;rw [<-h]
 rw [jk,eF,eG,dK (by omega)]
theorem FE {l:List UInt8} {n:Nat}:l.take (min n l.length)=l.take n:=by
 rcases Nat.le_total n l.length with q| q;rw [dK q];rw [Nat.min_eq_right q,eN,aT q]
def afB:Ct
 | [.v (.c (.de (.int .u32) T 0 0)),.v (.c cim),.v (.c cpl),.v (.c (.k (.int .i64 nu))),.v (.c (.k (.int .i64 off))),.v (.c (.k (.int .i64 n)))],[],Q=>(match (Ty.sl Ty.u8).of [cim] with
  | some (im,[])=>(match (Ty.sl (Ty.int .i64)).of [cpl] with
   | some (pl,[])=>(T.length=256/\im.length<=100000000/\pl.length<=100000)/\∃ (a:Int) (z:List UInt8) (nx:Int),amj pl nu a/\En T im a z nx/\0< z.length/\z.length<=128/\0<=off/\0<=n/\off+n<=z.length/\Q (.cJ [.c (.d .u8 ((z.drop off.toNat).take n.toNat)),.c (.k (.int .i64 0))]) []
   | _=>False)
  | _=>False)
 | _,_,_=>False
theorem akk:cG 33 afB:=λargs H Q h=>by
 refine Ou _ _ _ ?_;unfold afB at h;split at h
 .rename_i T cim cpl nu off n;unfold vO;cases q1:(Ty.sl Ty.u8).of [cim] with
  | none=>rw [q1] at h;exact h.elim
  | some p1=>
   obtain ⟨im,r1⟩:=p1;cases r1 with
   | cons a r1=>rw [q1] at h;exact h.elim
   | nil=>
    simp only [q1] at h ⊢;cases q2:(Ty.sl (Ty.int .i64)).of [cpl] with
    | none=>rw [q2] at h;exact h.elim
    | some p2=>
     obtain ⟨pl,r2⟩:=p2;cases r2 with
     | cons a r2=>rw [q2] at h;exact h.elim
     | nil=>
      simp only [q2] at h ⊢;obtain ⟨h0,a,z,nx,⟨⟨i,h1,h2⟩⟩,h3⟩:=h;exact ⟨h0,i,a,z,nx,h1,h2,h3⟩
 .cases h
def alQ:Ct:=λargs H Q=>∃ (ref:Int) (off:Int) (n:Int) (T:List Int) (im:List UInt8) (s0:Int) (s1:Int) (s2:Int) (s3:Int) (s4:Int) (s5:Int) (s6:Int) (s7:Int) (s8:Int) (s9:Int) (pl:List Int) (ids:List Int) (nm:Int) (R1:Value->Atom) (R2:Value->Atom) (R3:Value->Atom) (M:List (Int×Nat×bB.den)),args= [.v (.c (.p 0 0)),.int ref,.int off,.int n]/\H= [.cells 90 [.de (.int .u32) T 0 0,.d .u8 im,.k (.int .i64 s0),.k (.int .i64 s1),.k (.int .i64 s2),.k (.int .i64 s3),.k (.int .i64 s4),.k (.int .i64 s5),.k (.int .i64 s6),.k (.int .i64 s7),.k (.int .i64 s8),.k (.int .i64 s9),.d (.int .i64) pl,.d (.int .i64) ids,.p 1 0,.p 2 0,.p 3 0,.m 4,.k (.int .i64 nm)],.abs R1,.abs R2,.abs R3,.ab (.pm 3 82 bB M)]/\∃ (d:IR) (N:List bu) (x:bu),d.Ok T N/\(T=dD/\im=d.im T/\d.s=(s0,s1,s2,s3,s4,s5,s6,s7,s8,s9,())/\pl=d.pl/\ids=d.ids)/\DJ d N M x ref/\x∈N/\Q (.cJ [.c (.d .u8 (X1 x off n)),.c (.k (.int .i64 (AG x off n)))]) [.cells 90 [.de (.int .u32) T 0 0,.d .u8 im,.k (.int .i64 s0),.k (.int .i64 s1),.k (.int .i64 s2),.k (.int .i64 s3),.k (.int .i64 s4),.k (.int .i64 s5),.k (.int .i64 s6),.k (.int .i64 s7),.k (.int .i64 s8),.k (.int .i64 s9),.d (.int .i64) pl,.d (.int .i64) ids,.p 1 0,.p 2 0,.p 3 0,.m 4,.k (.int .i64 nm)],.abs R1,.abs R2,.abs R3,.ab (.pm 3 82 bB M)]
def aju:=((iH.add QU).add akk).add A8
abbrev oY {A3:Type} (y0:Int) (y1) (y2:Int) (y3:List A3):=List.take (ax (min y0 (y1 - y2))) (List.drop (ax y2) (List.take (gg*(List.length y3 / gg)) y3))
abbrev yn (y0:Int) (y1):=y0 - fQ y1 bG*128
abbrev Cf (y0) (y1:Int) (y2):=ax (y0+max (yn y1 y2) ah)
def Xc (ref off n:Int) (T:List Int) (im:List UInt8) (s0 s1 s2 s3 s4 s5 s6 s7 s8 s9:Int) (pl ids:List Int) (nm:Int) (R1 R2 R3:Value->Atom) (M:(List (Int×Nat×bB.den))):dE:=λQ=>cA ref off n ((∃ p,p∈M/\p.1=ref)/\∀ (i bb:Nat) (r:Ty.den bB),M[i]?=some (ref,bb,r)->Ty.ok bB r->aF .i64 0->br (r.1.1==1) (Q (.cJ [.c 
 dL,.c (.k (.int .i64 25))]) [gk T im s0 s1 s2 s3 s4 s5 s6 s7 s8 s9 pl ids nm,HO.abs R1,HO.abs R2,HO.abs R3,fH (kG M i ref bb r)]) (br (r.1.1==3) (Q kj [gk T im s0 s1 s2 s3 s4 s5 s6 s7 s8 s9 pl ids nm,HO.abs R1, 
 HO.abs R2,HO.abs R3,fH (kG M i ref bb r)]) (br (cR off) (Q kj [gk T im s0 s1 s2 s3 s4 s5 s6 s7 s8 s9 pl ids nm,HO.abs R1,HO.abs R2,HO.abs R3,fH (kG M i ref bb r)]) (br (cR n) (Q kj [gk T im s0 s1 s2 s3 s4 
 s5 s6 s7 s8 s9 pl ids nm,HO.abs R1,HO.abs R2,HO.abs R3,fH (kG M i ref bb r)]) (br (decide (off≥r.1.2.2.2.2.2.2.2.1)) (Q (.cJ [.c dL,.c (.k a6)]) [gk T im s0 s1 s2 s3 s4 s5 s6 s7 s8 s9 pl ids nm,HO.abs R1,HO.abs R2, 
 HO.abs R3,fH (kG M i ref bb r)]) (aF .i64 (r.1.2.2.2.2.2.2.2.1 - off)/\dO T (iN im (∃ x fs,DL T im r.1.2.2.2.2.2.2.1 x fs/\r.1.2.2.2.2.2.2.2.1=(aE x)/\List.length x<=4096/\0<=off/\(0<=min n (r.1.2.2.2.2.2.2.2.1 
 - off)/\min n (r.1.2.2.2.2.2.2.2.1 - off)<=4096)/\(aF .i64 0->List.length (oY n r.1.2.2.2.2.2.2.2.1 off x)<=9223372036854775807->br ((↑(List.length (oY n r.1.2.2.2.2.2.2.2.1 off x)):Int)==min n (r.1.2.2.2.2.2.2.2.1 - off)) 
 (Q (SV.cJ [S1.c (.o 5),.c (.k a6)]) [gk T im s0 s1 s2 s3 s4 s5 s6 s7 s8 s9 pl ids nm,HO.abs R1,HO.abs R2,HO.abs R3,fH (kG M i ref bb r),.sl 5 Ty.u8 (oY n r.1.2.2.2.2.2.2.2.1 off x)]) (Il r.1.2.2.2.2.2.2.2.1 (aF 
 .i64 (yn off r.1.2.2.2.2.2.2.2.1)/\(List.length (oY n r.1.2.2.2.2.2.2.2.1 off x)<=9223372036854775807->aF .i64 (min n (r.1.2.2.2.2.2.2.2.1 - off) - (↑(List.length (oY n r.1.2.2.2.2.2.2.2.1 off x)):Int))/\aF .i64 
 (r.1.2.2.2.2.2.2.2.2.2.1+max (yn off r.1.2.2.2.2.2.2.2.1) ah)/\(dO T (iN im (List.length pl<=100000)))/\∃ a z nx,amj pl r.1.2.2.2.2.2.2.2.2.1 a/\En T im a z nx/\0< List.length z/\List.length z<=128/\0<= 
 r.1.2.2.2.2.2.2.2.2.2.1+max (yn off r.1.2.2.2.2.2.2.2.1) ah/\0<=min n (r.1.2.2.2.2.2.2.2.1 - off) - (↑(List.length (oY n r.1.2.2.2.2.2.2.2.1 off x)):Int)/\r.1.2.2.2.2.2.2.2.2.2.1+max (yn off r.1.2.2.2.2.2.2.2.1) ah 
 +(min n (r.1.2.2.2.2.2.2.2.1 - off) - (↑(List.length (oY n r.1.2.2.2.2.2.2.2.1 off x)):Int))<=(aE z)/\(List.length (List.take (ax (min n (r.1.2.2.2.2.2.2.2.1 - off) - (↑(List.length (oY n r.1.2.2.2.2.2.2.2.1 off x)): 
 Int))) (List.drop (Cf r.1.2.2.2.2.2.2.2.2.2.1 off r.1.2.2.2.2.2.2.2.1) z))<=9223372036854775807->aF .i64 0->(List.length (oY n r.1.2.2.2.2.2.2.2.1 off x)+List.length (List.take (ax (min n (r.1.2.2.2.2.2.2.2.1 - off) - 
 (↑(List.length (oY n r.1.2.2.2.2.2.2.2.1 off x)):Int))) (List.drop (Cf r.1.2.2.2.2.2.2.2.2.2.1 off r.1.2.2.2.2.2.2.2.1) z)))*1<=cw/\List.length (oY n r.1.2.2.2.2.2.2.2.1 off x)+List.length (List.take (ax (min n 
 (r.1.2.2.2.2.2.2.2.1 - off) - (↑(List.length (oY n r.1.2.2.2.2.2.2.2.1 off x)):Int))) (List.drop (Cf r.1.2.2.2.2.2.2.2.2.2.1 off r.1.2.2.2.2.2.2.2.1) z))<=9223372036854775807/\Q (SV.cJ [S1.c (.o 5),.c (.k a6)]) [gk T im s0 
 s1 s2 s3 s4 s5 s6 s7 s8 s9 pl ids nm,HO.abs R1,HO.abs R2,HO.abs R3,fH (kG M i ref bb r),.sl 5 Ty.u8 (List.take (ax (min n (r.1.2.2.2.2.2.2.2.1 - off))) (List.drop (aZ off) (List.take (gg*(List.length x / 
 gg)) x))++List.take (ax (min n (r.1.2.2.2.2.2.2.2.1 - off) - (↑(List.length (oY n r.1.2.2.2.2.2.2.2.1 off x)):Int))) (List.drop (Cf r.1.2.2.2.2.2.2.2.2.2.1 off r.1.2.2.2.2.2.2.2.1) z))])))))))))))))
theorem akg:cG 18 alQ:=by
 intro args H Q h;obtain ⟨ref,off,n,T,im,s0,s1,s2,s3,s4,s5,s6,s7,s8,s9,pl,ids,nm,R1,R2,R3,M,rfl,rfl,h⟩:=h;refine Wp.lq [some (.sl .u8),none] [5] ?_;refine Wp.dJ aju fA ⟨[],[]⟩ Tryz.f18 (Xc ref off n T im s0 s1 s2 s3 s4 s5 s6 s7 s8 s9 pl ids nm R1 R2 R3 M) (clo:=true) ?_;unfold Xc kG Cf Il iN yn cR dO kj cw dL aZ a6 cA oY ah bG aE gg bK gk fH;obtain ⟨d,N,x,hd,⟨rfl,rfl,hs,rfl,rfl⟩,⟨⟨p0,hp0,hpr⟩,tU⟩,hx,h⟩:=h;refine λ_ _ _=>⟨⟨p0,hp0,hpr⟩,λi bb r hi _ _=>?_⟩;have hR:=tU i bb r hi;rw [xK hi];have hN:=hR.n;have hmk:=(lj (hd.tok.may x hx)).2;obtain ⟨kd,ekd⟩:∃ a:Int,a=r.1.1:=⟨_,rfl⟩;have GF:kd=x.2.2.1:=by rw [ekd];exact hN.kind
 
 obtain ⟨sz,esz⟩:∃ a:Int,a=r.1.2.2.2.2.2.2.2.1:=⟨_,rfl⟩;rw [<-ekd,<-esz];have Y9:¬(x.2.2.1=2/\0<=off/\0<=n)->X1 x off n= []:=λq=>if_neg q;have oS:x.2.2.1≠1->(x.2.2.1=3\/off< 0\/n< 0)->AG x off n=1:=λa b=>by unfold AG;rw [if_neg a,if_pos b]
 refine aw (λq=>?_) (λq1=>?_)
 .have hk:x.2.2.1=1:=GF.symm.trans (eq_of_beq q);rw [Y9 (λz=>by rw [hk] at z;exact absurd z.1 (by decide)),show AG x off n=25 from if_pos hk] at h;exact ⟨ay _,h⟩
 have k1:x.2.2.1≠1:=λe=>by rw [GF,e] at q1;cases q1
 refine aw (λq=>?_) (λq3=>?_)
 .have hk:x.2.2.1=3:=GF.symm.trans (eq_of_beq q);rw [Y9 (λz=>by rw [hk] at z;exact absurd z.1 (by decide)),oS k1 (.inl hk)] at h;exact ⟨ay _,h⟩
 have k3:x.2.2.1≠3:=λe=>by rw [GF,e] at q3;cases q3
 refine aw (λq=>?_) (λqo=>?_)
 .have q:=of_decide_eq_true q;rw [Y9 (λz=>by omega),oS k1 (.inr (.inl q))] at h;exact ⟨ay _,h⟩
 have qo:=of_decide_eq_false qo;refine aw (λq=>?_) (λqn=>?_)
 .have q:=of_decide_eq_true q;rw [Y9 (λz=>by omega),oS k1 (.inr (.inr q))] at h;exact ⟨ay _,h⟩
 have qn:=of_decide_eq_false qn;have hk:x.2.2.1=2:=by
  rcases hmk with e| e| e;exact absurd e k1;exact e;exact absurd e k3
 obtain ⟨fs,f1,f2,f3,f4,f5⟩:=hd.fileAt hx hk hN;have hD:=(ov (hd.tok.may x hx)).2;have e0:AG x off n=0:=by unfold AG;rw [if_neg k1,if_neg (by omega)]
 have e1:X1 x off n=(x.2.2.2.2.1.drop off.toNat).take n.toNat:=if_pos ⟨hk,by omega,by omega⟩;rw [e0,e1] at h;have f2:sz=(x.2.2.2.2.1.length:Int):=by rw [esz];exact f2
 clear Y9 oS e0 e1 hR tU f3 f4;generalize x.2.2.2.2.1=D at*;obtain ⟨o,rfl⟩:∃ o:Nat,off=o:=⟨off.toNat,by omega⟩;obtain ⟨q,rfl⟩:∃ q:Nat,n=q:=⟨n.toNat,by omega⟩;simp only [aU] at h;refine aw (λqs=>?_) (λqs=>?_)
 .have qs:=of_decide_eq_true qs;rw [j4 (by omega),List.take_nil] at h;exact ⟨ay _,h⟩
 have qs:=of_decide_eq_false qs;obtain ⟨m,hm⟩:∃ m:Nat,m=min q (D.length - o):=⟨_,rfl⟩;have hmi:min (q:Int) (sz - (o:Int))=(m:Int):=by omega
 have hmd:(D.drop o).take q=(D.drop o).take m:=by rw [hm,<-aN];exact FE.symm
 rw [hmd] at h;rw [hmi,aU,aU];obtain ⟨c,hc⟩:∃ c,D.length / 128=c:=⟨_,rfl⟩;have hA:=XY (x:=D) (o:=o) (n:=m) (c:=c) (by omega) (by omega);refine ⟨by unfold aF;omega,rfl,by have:=hd.small.1;omega,D,fs,f1,f2,hD,by omega,⟨by omega,by omega⟩,λ_ _=>?_⟩;rw [hc];have hAl:(((D.take (128*c)).drop o).take m).length=min m (128*c - o):=by rw [aA,aN,aA];omega
 obtain ⟨B,hB⟩:∃ B,((D.take (128*c)).drop o).take m=B:=⟨_,rfl⟩;rw [hB] at hA hAl;rw [hB];refine aw (λqe=>?_) (λqe=>?_)
 .have qe:B.length=m:=by
   have:=eq_of_beq qe;omega
  rw [qe,Nat.sub_self,List.take_zero,aW] at hA;rw [<-hA] at h;exact ⟨(show 5<=6 by decide),h⟩
 have qe:B.length≠m:=λe=>by rw [e] at qe;simp at qe
 obtain ⟨t,ht⟩:∃ t,D.drop (128*(D.length / 128))=t:=⟨_,rfl⟩;rw [ht] at f5;rw [hc] at ht;have htl:t.length=D.length - 128*c:=by rw [<-ht,aN]
 rw [ht] at hA;obtain ⟨fo,efo⟩:∃ a:Int,a=r.1.2.2.2.2.2.2.2.2.2.1:=⟨_,rfl⟩;obtain ⟨o0,i,a,z,nx,w1,w2,w3,w4,w5,w6,w7⟩:=hd.aho f5 (by omega);rw [<-efo] at o0 w6 w7;rw [<-efo,f2,AD,hc];have mx:max ((o:Int) - (c:Int)*128) 0=((o - 128*c:Nat):Int):=by omega
 rw [mx];have e3:fo+((o - 128*c:Nat):Int)=((fo.toNat+(o - 128*c):Nat):Int):=by omega
 rw [e3];have e4:(m:Int) - (B.length:Int)=((m - B.length:Nat):Int):=by omega
 rw [e4,aU,aU];have hp:=hd.small;refine ⟨by decide,by unfold aF;omega,by unfold aF;omega,by unfold aF;omega,λ_=>⟨by unfold aF;omega,by unfold aF;omega,⟨rfl,by omega,by omega⟩,a,z,nx,⟨⟨i,w1,w2⟩⟩,w3,w4,w5,Int.natCast_nonneg _,by omega,?_,λ_ _=>?_⟩⟩
 .have w6':=w6;have aqH:=hAl;clear h hd hN hp hA w7 w3 w2 f5;show ((fo.toNat+(o - 128*c):Nat):Int)+((m - B.length:Nat):Int)<=(z.length:Int);omega
 rw [acD w7 (by omega),hA];refine ⟨?_,?_,(show 5<=6 by decide),h⟩;rw [aA,aN];omega;rw [aA,aN];omega
def aed:Ct:=λargs H Q=>∃ (T:List Int) (im:List UInt8) (s0:Int) (s1:Int) (s2:Int) (s3:Int) (s4:Int) (s5:Int) (s6:Int) (s7:Int) (s8:Int) (s9:Int) (pl:List Int) (ids:List Int) (nm:Int) (R1:Value->Atom) (R2:Value->Atom) (R3:Value->Atom) (M:List (Int×Nat×bB.den)),args= [.v (.c (.p 0 0))]/\H= [.cells 90 [.de (.int .u32) T 0 0,.d .u8 im,.k (.int .i64 s0),.k (.int .i64 s1),.k (.int .i64 s2),.k (.int .i64 s3),.k (.int .i64 s4),.k (.int .i64 s5),.k (.int .i64 s6),.k (.int .i64 s7),.k (.int .i64 s8),.k (.int .i64 s9),.d (.int .i64) pl,.d (.int .i64) ids,.p 1 0,.p 2 0,.p 3 0,.m 4,.k (.int .i64 nm)],.abs R1,.abs R2,.abs R3,.ab (.pm 3 82 bB M)]/\Q (.int s9) [.cells 90 [.de (.int .u32) T 0 0,.d .u8 im,.k (.int .i64 s0),.k (.int .i64 s1),.k (.int .i64 s2),.k (.int .i64 s3),.k (.int .i64 s4),.k (.int .i64 s5),.k (.int .i64 s6),.k (.int .i64 s7),.k (.int .i64 s8),.k (.int .i64 s9),.d (.int .i64) pl,.d (.int .i64) ids,.p 1 0,.p 2 0,.p 3 0,.m 4,.k (.int .i64 nm)],.abs R1,.abs R2,.abs R3,.ab (.pm 3 82 bB M)]
def KI (T:List Int) (im:List UInt8) (s0 s1 s2 s3 s4 s5 s6 s7 s8 s9:Int) (pl ids:List Int) (nm:Int) (R1 R2 R3:Value->Atom) (M:(List (Int×Nat×bB.den))):dE:=λQ=>Q (gQ s9) [gk T im s0 s1 s2 s3 s4 s5 s6 s7 s8 s9 pl ids nm,HO.abs R1,HO.abs R2,HO.abs R3,fH M]
theorem ab2:cG 17 aed:=by
 intro args H Q h;obtain ⟨T,im,s0,s1,s2,s3,s4,s5,s6,s7,s8,s9,pl,ids,nm,R1,R2,R3,M,rfl,rfl,h⟩:=h;refine Wp.dJ iH fA ⟨[],[]⟩ Tryz.f17 (KI T im s0 s1 s2 s3 s4 s5 s6 s7 s8 s9 pl ids nm R1 R2 R3 M) ?_;unfold KI gQ aC gk fH;exact h
structure MB (A:Value->Atom) (d:IR) (N:List bu):Prop where
 ok:d.Ok dD N
 tr:uP N
 ex:∃ (s0 s1 s2 s3 s4 s5 s6 s7 s8 s9 nm:Int) (R1 R2 R3:Value->Atom) (M:List (Int×Nat×bB.den)),d.s=(s0,s1,s2,s3,s4,s5,s6,s7,s8,s9,())/\mq d N (n9 N 17 0) M/\A=jM [.cells 90 [.de (.int .u32) dD 0 0,.d .u8 (d.im dD),.k (.int .i64 s0),.k (.int .i64 s1),.k (.int .i64 s2),.k (.int .i64 s3),.k (.int .i64 s4),.k (.int .i64 s5),.k (.int .i64 s6),.k (.int .i64 s7),.k (.int .i64 s8),.k (.int .i64 s9),.d (.int .i64) d.pl,.d (.int .i64) d.ids,.p 1 0,.p 2 0,.p 3 0,.m 4,.k (.int .i64 nm)],.abs R1,.abs R2,.abs R3,.ab (.pm 3 82 bB M)]
theorem S5 {T:List Int} {im:List UInt8} {s0 s1 s2 s3 s4 s5 s6 s7 s8 s9 nm:Int} {pl ids:List Int} {R1 R2 R3:Value->Atom} {M:List (Int×Nat×bB.den)} {Q:SV->List HO->Prop} {sv:SV}:uq 0 [1,2,3,4] [0] 1 Q sv [.cells 90 [.de (.int .u32) T 0 0,.d .u8 im,.k (.int .i64 s0),.k (.int .i64 s1),.k (.int .i64 s2),.k (.int .i64 s3),.k (.int .i64 s4),.k (.int .i64 s5),.k (.int .i64 s6),.k (.int .i64 s7),.k (.int .i64 s8),.k (.int .i64 s9),.d (.int .i64) pl,.d (.int .i64) ids,.p 1 0,.p 2 0,.p 3 0,.m 4,.k (.int .i64 nm)],.abs R1,.abs R2,.abs R3,.ab (.pm 3 82 bB M)]=Q (sv.fp (ic [0])) [.abs (jM [.cells 90 [.de (.int .u32) T 0 0,.d .u8 im,.k (.int .i64 s0),.k (.int .i64 s1),.k (.int .i64 s2),.k (.int .i64 s3),.k (.int .i64 s4),.k (.int .i64 s5),.k (.int .i64 s6),.k (.int .i64 s7),.k (.int .i64 s8),.k (.int .i64 s9),.d (.int .i64) pl,.d (.int .i64) ids,.p 1 0,.p 2 0,.p 3 0,.m 4,.k (.int .i64 nm)],.abs R1,.abs R2,.abs R3,.ab (.pm 3 82 bB M)])]:=by kernel_rfl
def ZG:Ct
 | [.v (.c (.p 0 0))],[.abs A],Q=>∃ (d:IR) (N:List bu),MB A d N/\∀ ref:Int,Kk.get .int d.t.Mr (aK noTy N 0).2.1=some ref->Q (.int ref) [.abs A]
 | _,_,_=>False
theorem MB.root {A:Value->Atom} {d:IR} {N:List bu} (h:MB A d N):Kk.get .int d.t.Mr (aK noTy N 0).2.1=some d.s.2.2.2.2.2.2.2.2.2.1:=by
 obtain ⟨x0,hx0,e1,_,e3⟩:=h.ok.root;have hp:=h.tr.pos;obtain rfl:=h.ok.tok.uniq hx0 (uF (e:=noTy) (bz 0) (by omega)) (e1.trans h.tr.root.1.symm);exact e3
theorem Wv:cG 17 ZG:=λargs H Q h=>by
 unfold ZG at h;split at h
 .obtain ⟨d,N,hM,h⟩:=h;have hr:=hM.root;obtain ⟨s0,s1,s2,s3,s4,s5,s6,s7,s8,s9,nm,R1,R2,R3,M,hs,hV,rfl⟩:=hM.ex;rw [hs] at hr;exact Wp.Ek (q:=0) (p:=0) (r:=[1,2,3,4]) (ls:=[0]) (L:=[.cells 90 [.de (.int .u32) dD 0 0,.d .u8 (d.im dD),.k (.int .i64 s0),.k (.int .i64 s1),.k (.int .i64 s2),.k (.int .i64 s3),.k (.int .i64 s4),.k (.int .i64 s5),.k (.int .i64 s6),.k (.int .i64 s7),.k (.int .i64 s8),.k (.int .i64 s9),.d (.int .i64) d.pl,.d (.int .i64) d.ids,.p 1 0,.p 2 0,.p 3 0,.m 4,.k (.int .i64 nm)],.abs R1,.abs R2,.abs R3,.ab (.pm 3 82 bB M)]) rfl (gJ _) (ab2 _ _ _ ⟨_,_,_,_,_,_,_,_,_,_,_,_,_,_,_,_,_,_,_,rfl,rfl,S5.mpr (h s9 hr)⟩)
 .cases h
def ZD:Ct
 | [.v (.c (.p 0 0)),.v (.c (.k (.int .i64 ref)))],[.abs A],Q=>∃ (d:IR) (N:List bu) (x:bu),MB A d N/\x∈N/\Kk.get .int d.t.Mr x.2.1=some ref/\Q (.cJ [.agg [.k (.int .i64 x.2.2.1),.k (.int .i64 x.2.2.2.1.1),.k (.int .i64 x.2.2.2.1.2.1),.k (.int .i64 x.2.2.2.1.2.2.1),.k (.int .i64 (mh N x.2.1:Nat)),.k (.int .i64 (uz N x))],.c (.k (.int .i64 0))]) [.abs A]
 | _,_,_=>False
theorem agN:cG 16 ZD:=λargs H Q h=>by
 unfold ZD at h;split at h
 .obtain ⟨d,N,x,hM,hx,hg,h⟩:=h;obtain ⟨s0,s1,s2,s3,s4,s5,s6,s7,s8,s9,nm,R1,R2,R3,M,hs,hV,rfl⟩:=hM.ex;have hR:=hV.recAt hM.ok hM.tr.root.1 hM.tr.pos hx hg;exact Wp.Ek (q:=0) (p:=0) (r:=[1,2,3,4]) (ls:=[0]) (L:=[.cells 90 [.de (.int .u32) dD 0 0,.d .u8 (d.im dD),.k (.int .i64 s0),.k (.int .i64 s1),.k (.int .i64 s2),.k (.int .i64 s3),.k (.int .i64 s4),.k (.int .i64 s5),.k (.int .i64 s6),.k (.int .i64 s7),.k (.int .i64 s8),.k (.int .i64 s9),.d (.int .i64) d.pl,.d (.int .i64) d.ids,.p 1 0,.p 2 0,.p 3 0,.m 4,.k (.int .i64 nm)],.abs R1,.abs R2,.abs R3,.ab (.pm 3 82 bB M)]) rfl (gJ _) (ab0 _ _ _ ⟨_,_,_,_,_,_,_,_,_,_,_,_,_,_,_,_,_,_,_,_,rfl,rfl,d,N,x,hM.ok,⟨rfl,rfl,hs,rfl,rfl⟩,hR,hx,S5.mpr (h)⟩)
 .cases h
def ZM:Ct
 | [.v (.c (.p 0 0)),.v (.c (.k (.int .i64 ref))),.v (.c (.k (.string s)))],[.abs A],Q=>∃ (d:IR) (N:List bu) (x:bu),MB A d N/\x∈N/\Kk.get .int d.t.Mr x.2.1=some ref/\∀ v e,aby d N x s v e->Q (.cJ [.agg (dh.cells v),.c (.k (.int .i64 e))]) [.abs A]
 | _,_,_=>False
theorem agZ:cG 263 ZM:=λargs H Q h=>by
 unfold ZM at h;split at h
 .obtain ⟨d,N,x,hM,hx,hg,h⟩:=h;obtain ⟨s0,s1,s2,s3,s4,s5,s6,s7,s8,s9,nm,R1,R2,R3,M,hs,hV,rfl⟩:=hM.ex;have hR:=hV.recAt hM.ok hM.tr.root.1 hM.tr.pos hx hg;exact Wp.Ek (q:=0) (p:=0) (r:=[1,2,3,4]) (ls:=[0]) (L:=[.cells 90 [.de (.int .u32) dD 0 0,.d .u8 (d.im dD),.k (.int .i64 s0),.k (.int .i64 s1),.k (.int .i64 s2),.k (.int .i64 s3),.k (.int .i64 s4),.k (.int .i64 s5),.k (.int .i64 s6),.k (.int .i64 s7),.k (.int .i64 s8),.k (.int .i64 s9),.d (.int .i64) d.pl,.d (.int .i64) d.ids,.p 1 0,.p 2 0,.p 3 0,.m 4,.k (.int .i64 nm)],.abs R1,.abs R2,.abs R3,.ab (.pm 3 82 bB M)]) rfl (gJ _) (aci _ _ _ ⟨_,_,_,_,_,_,_,_,_,_,_,_,_,_,_,_,_,_,_,_,_,rfl,rfl,d,N,x,hM.ok,⟨rfl,rfl,hs,rfl,rfl⟩,hR,hx,λv e q=>S5.mpr (h v e q)⟩)
 .cases h
def alR:Ct
 | [.v (.c (.p 0 0)),.v (.c (.k (.int .i64 ref))),.v (.c (.k (.int .i64 off))),.v (.c (.k (.int .i64 n)))],[.abs A],Q=>∃ (d:IR) (N:List bu) (x:bu),MB A d N/\x∈N/\Kk.get .int d.t.Mr x.2.1=some ref/\Q (.cJ [.c (.d .u8 (X1 x off n)),.c (.k (.int .i64 (AG x off n)))]) [.abs A]
 | _,_,_=>False
theorem am0:cG 18 alR:=λargs H Q h=>by
 unfold alR at h;split at h
 .obtain ⟨d,N,x,hM,hx,hg,h⟩:=h;obtain ⟨s0,s1,s2,s3,s4,s5,s6,s7,s8,s9,nm,R1,R2,R3,M,hs,hV,rfl⟩:=hM.ex;have hR:=hV.recAt hM.ok hM.tr.root.1 hM.tr.pos hx hg;exact Wp.Ek (q:=0) (p:=0) (r:=[1,2,3,4]) (ls:=[0]) (L:=[.cells 90 [.de (.int .u32) dD 0 0,.d .u8 (d.im dD),.k (.int .i64 s0),.k (.int .i64 s1),.k (.int .i64 s2),.k (.int .i64 s3),.k (.int .i64 s4),.k (.int .i64 s5),.k (.int .i64 s6),.k (.int .i64 s7),.k (.int .i64 s8),.k (.int .i64 s9),.d (.int .i64) d.pl,.d (.int .i64) d.ids,.p 1 0,.p 2 0,.p 3 0,.m 4,.k (.int .i64 nm)],.abs R1,.abs R2,.abs R3,.ab (.pm 3 82 bB M)]) rfl (gJ _) (akg _ _ _ ⟨_,_,_,_,_,_,_,_,_,_,_,_,_,_,_,_,_,_,_,_,_,_,rfl,rfl,d,N,x,hM.ok,⟨rfl,rfl,hs,rfl,rfl⟩,hR,hx,S5.mpr (h)⟩)
 .cases h
theorem aiz {T:List Int} {im:List UInt8} {s0 s1 s2 s3 s4 s5 s6 s7 s8 s9 nm:Int} {pl ids:List Int} {R1 R2 R3:Value->Atom} {M:List (Int×Nat×bB.den)} {Q:SV->List HO->Prop} {sv:SV}:uq 0 [1,2,3,4] [0] 0 Q sv [.cells 90 [.de (.int .u32) T 0 0,.d .u8 im,.k (.int .i64 s0),.k (.int .i64 s1),.k (.int .i64 s2),.k (.int .i64 s3),.k (.int .i64 s4),.k (.int .i64 s5),.k (.int .i64 s6),.k (.int .i64 s7),.k (.int .i64 s8),.k (.int .i64 s9),.d (.int .i64) pl,.d (.int .i64) ids,.p 1 0,.p 2 0,.p 3 0,.m 4,.k (.int .i64 nm)],.abs R1,.abs R2,.abs R3,.ab (.pm 3 82 bB M)]=Q (sv.fp (ic [0])) [.abs (jM [.cells 90 [.de (.int .u32) T 0 0,.d .u8 im,.k (.int .i64 s0),.k (.int .i64 s1),.k (.int .i64 s2),.k (.int .i64 s3),.k (.int .i64 s4),.k (.int .i64 s5),.k (.int .i64 s6),.k (.int .i64 s7),.k (.int .i64 s8),.k (.int .i64 s9),.d (.int .i64) pl,.d (.int .i64) ids,.p 1 0,.p 2 0,.p 3 0,.m 4,.k (.int .i64 nm)],.abs R1,.abs R2,.abs R3,.ab (.pm 3 82 bB M)])]:=by kernel_rfl
def Tm:Ct
 | [.v (.c cim)],[],Q=>(match (Ty.sl Ty.u8).of [cim] with
  | some (im,[])=>∃ (N:List bu) (d:IR),uP N/\d.Ok dD N/\im=d.im dD/\∀ A,MB A d N->Q (.cJ [.c (.p 0 0),.c (.k (.int .i64 0))]) [.abs A]
  | _=>False)
 | _,_,_=>False
theorem acg:cG 27 Tm:=λargs H Q h=>by
 unfold Tm at h;split at h
 .rename_i cim;cases hq:(Ty.sl Ty.u8).of [cim] with
  | none=>rw [hq] at h;exact h.elim
  | some p=>
   obtain ⟨im,r⟩:=p;rw [hq] at h;cases r with
   | cons a r=>exact h.elim
   | nil=>
    obtain ⟨N,d,tr,hd,e,h⟩:=h;refine Wp.Yv (p:=0) (r:=[1,2,3,4]) (ls:=[0]) (WI _ _ _ ?_);unfold Dr;simp only [hq];exact ⟨N,d,tr,hd,e,λA1 A2 A3 M h1 h2 h3 hV=>aiz.mpr (h _ ⟨hd,tr,_,_,_,_,_,_,_,_,_,_,_,A1,A2,A3,M,rfl,hV,rfl⟩)⟩
 .cases h
def aiQ:Ct:=cD noTy λl=>c0 λQ=>(l.length:Int)<=40/\br (dH l !=0) (Q (.cJ [.c (.k (.pointer none)),.c (.k (.int .i64 (dH l)))]) []) (∀ A d N,QA l N->MB A d N->Q (.cJ [.c (.p 0 0),.c (.k (.int .i64 0))]) [.abs A])
def ajt:=(iH.add acr).add acg
def Q9 (l:(List (noTy).den)):dE:=λQ=>gr l ((aE l)<=(40:Int)/\br (dH l !=0) (bD<=eW->aF .i64 (dH l)->br (dH l !=0) (Q (.cJ [.c pt,.c (.k (.int .i64 (dH l)))]) []) (∃ N d,uP N/\IR.Ok d dD N/\ []=IR.im d dD/\∀ (A: 
 Value->Atom),MB A d N->aF .i64 0->Q yj [HO.abs A])) (∀ (L':List bu) (im:List UInt8),yg L' l (TU im (db L' [])->cY im (aF .i64 0->∃ N d,uP N/\IR.Ok d dD N/\im=IR.im d dD/\∀ (A:Value->Atom),MB 
 A d N->aF .i64 0->Q yj [HO.abs A]))))
theorem Oq:cG 10 aiQ:=fz<| lH λl=>iQ λQ h=>by
 refine Wp.dJ ajt fA ⟨[],[]⟩ Tryz.f10 (Q9 l) ?_;unfold Q9 yg yj pt cY gr eW a6 aE aL bD;obtain ⟨hl,h⟩:=h;refine λ_=>⟨hl,aw (λq=>λ_ _=>?_) (λq=>λL' im hp ho hI _ _=>?_)⟩;rw [q] at h ⊢;exact h
 .rw [q] at h;obtain ⟨d,hd,rfl⟩:=hI.ex;have O:=ac6 (Ly (show dH l=0 by simpa using q)) hp ho;exact ⟨db L' [],d,O.tr,hd,rfl,λA hA _=>h A d _ O hA⟩
structure V6 (d:IR) (N:List bu) (p:List ByteArray) (ref:Int):Prop where
 ok:jU N (aK noTy N 0) p=0->∃ y∈N,y.1=p/\Kk.get .int d.t.Mr y.2.1=some ref
theorem adL {N:List bu} {x:bu} {s:ByteArray} {r:List ByteArray} (h:mB N x s≠0):jU N x (s::r)=mB N x s:=by
 unfold jU;unfold mB at h ⊢;by_cases hk:x.2.2.1=1
 .rw [if_pos hk] at h ⊢;rw [if_pos hk];cases hf:Oj N (x.1++ [s]) with
  | none=>rfl
  | some y=>rw [hf] at h;exact absurd rfl h
 .rw [if_neg hk,if_neg hk]
theorem aiw {N:List bu} {x y:bu} {s:ByteArray} {r:List ByteArray} (h:mB N x s=0) (hf:Oj N (x.1++ [s])=some y):jU N x (s::r)=jU N y r:=by
 unfold mB at h;by_cases hk:x.2.2.1=1
 .conv=>lhs;unfold jU
  rw [if_pos hk,hf]
 .rw [if_neg hk] at h;exact absurd h (by decide)
def Tu:Ct
 | [.v (.c (.AM 25 (.p 0 0))),.v (.c cp)],[.abs A],Q=>(match (Ty.sl Ty.str).of [cp] with
  | some (p,[])=>∃ d N,MB A d N/\∀ ref,V6 d N p ref->Q (.cJ [.c (.k (.int .i64 ref)),.c (.k (.int .i64 (jU N (aK noTy N 0) p)))]) [.abs A]
  | _=>False)
 | _,_,_=>False
def ajs:=(iH.add Wv).add agZ
abbrev l6 (y0):=aK noTy y0 ah
abbrev qw (y0) (y1) (y2:Int) (R:Prop):=Kk.get Kk.int y0 (l6 y1).2.1=some y2->aF .i64 y2->R
def K9 (p:(List (Ty.str).den)) (A:Value->Atom):dE:=λQ=>lF p (∃ d N,MB A d N/\∀ (ref:Int),qw d.t.Mr N ref (aL (gz p)->bp (λi ag=>br (decide (i.1.1< (aE p))) (0<=i.1.1/\i.1.1< (aE p)/\(Ty.ok Ty.str (jB p i.1.1)->∃ d N x,MB i.2.1 d N/\x∈N 
 /\Kk.get Kk.int d.t.Mr x.2.1=some i.1.2.1/\∀ (v:Ty.den dh) (e:Int),aby d N x (jB p i.1.1) v e->aL (dr v.1)->cA v.2.1 v.2.2.1 e (br (e !=0) (Q (.cJ [.c (.k a6),.c (.k (aC e))]) [HO.abs i.2.1]) (cL i.1.1 
 (ag ((i.1.1+1,v.2.2),i.2)))))) (Q (.cJ [.c (.k (aC i.1.2.1)),.c (.k a6)]) [HO.abs i.2.1])) ((ah,ref,()),A,())))
theorem QN:cG 11 Tu:=by
 intro args H Q h;unfold Tu at h;split at h;rotate_left;cases h;rename_i cp A;split at h;rotate_left;cases h;rename_i p hp;refine Wp.said (args':=[.v (.c (.AM 25 (.p 0 0))),.c (.d Ty.str p)]) (λE g=>bC.cE (λ_ h=>h) (bC.cE (dI hp) (λ_ h=>h))) ?_;clear hp;refine Wp.dJ ajs fA ⟨[(4,⟨[(15,.int .i64),(6,.int .i64)],[(0,.abs)]⟩)],[]⟩ Tryz.f11 (K9 p A) ?_;unfold K9 qw jB gz lF l6 dr cL a6 cA aC ah aE aL;obtain ⟨d,N,hM,h⟩:=h;have r1:=hM.tr.root.1;have hp:=hM.tr.pos;refine λ_=>⟨d,N,hM,λr0 MY _ _=>bp.intro (λi=>i.2.1=A/\0<=i.1.1/\i.1.1<=p.length/\∃ x∈N,x.1=p.take i.1.1.toNat/\Kk.get .int d.t.Mr x.2.1=some i.1.2.1/\jU N x (p.drop i.1.1.toNat)=jU N (aK noTy N 0) p) (λi=>p.length - i.1.1.toNat) ⟨rfl,bz _,by simp,aK noTy N 0,uF (e:=noTy) (bz 0) (by omega),r1,MY,rfl⟩ ?_⟩;rintro ⟨⟨i,rf,_⟩,A1,_⟩ ⟨e,i0,i1,x,hx,hx1,hx2,hx3⟩;simp only at e i0 i1 hx1 hx2 hx3 ⊢;subst e;refine aw (λhc=>?_) (λhc=>?_)
 .have hc:=of_decide_eq_true hc;refine ⟨i0,hc,λ_=>⟨d,N,x,hM,hx,hx2,λv e hL _ _ _ _=>?_⟩⟩;rw [fE (e:=.str) i0 hc] at hx3;have ht:=BD (e:=.str) i0 hc;obtain ⟨s,es⟩:∃ s,aK .str p i=s:=⟨_,rfl⟩;rw [es] at hx3 hL ht;have hE:=hL.eq;refine aw (λq=>?_) (λq=>?_)
  .have he:e≠0:=by simpa using q
   have hz:jU N (aK noTy N 0) p=e:=by rw [<-hx3,adL (by rw [<-hE];exact he),hE]
   have:=h 0 ⟨λz=>absurd (hz.symm.trans z) he⟩;rw [hz] at this;exact this
  .have he:e=0:=by simpa using q
   obtain ⟨y,hy,y1,y2⟩:=hL.ok he;have hf:Oj N (x.1++ [s])=some y:=by rw [<-y1];exact Zh hM.ok.tok hy
   rw [aiw (by rw [<-hE];exact he) hf] at hx3;exact ⟨by unfold aF;omega,⟨rfl,by omega,by omega,y,hy,by rw [y1,hx1,ht],y2.ref,hx3⟩,by omega⟩
 .have hc:=of_decide_eq_false hc;rw [ft hc] at hx3;have hz:jU N (aK noTy N 0) p=0:=hx3.symm;have:=h rf ⟨λ_=>⟨x,hx,by rw [hx1,aT (by omega)],hx2⟩⟩;rw [hz] at this;exact this
abbrev OF:List Sh:=[.d .str,.int .i64,.int .i64,.int .i64,.int .i64,.int .i64,.d .u8,.str,.d eD,.bool]
def al4:Ct:=cD noTy λl=>c0 λQ=>Q (.c (.o 0)) [.sl 38 noTy ((l.take 40).map Di)]
def Xp (l:(List (noTy).den)):dE:=λQ=>gr l (bp (λi ag=>gr l (br (ji i.1.1 l) (br (decide (i.1.1< 40)) (jj i.1.1 l (Ty.ok noTy (dy l i.1.1)->cV (λk=>List.length (dy l i.1.1).1<=9223372036854775807->br (decide ((km l i.1.1) 
 >(18:Int))) (ah<=(18:Int)/\(18:Int)<=(km l i.1.1)/\k ((),(List.take (18:Nat) (dy l i.1.1).1,(dy l i.1.1).2.1,(dy l i.1.1).2.2.1,(dy l i.1.1).2.2.2.1.1,(dy l i.1.1).2.2.2.1.2.1,(dy l 
 i.1.1).2.2.2.1.2.2.1,(dy l i.1.1).2.2.2.2.1,(dy l i.1.1).2.2.2.2.2.1,(dy l i.1.1).2.2.2.2.2.2.1,(dy l i.1.1).2.2.2.2.2.2.2.1,()),())) (k ((),((dy l i.1.1).1,(dy l i.1.1).2.1,(dy l i.1.1).2.2.1,(dy l 
 i.1.1).2.2.2.1.1,(dy l i.1.1).2.2.2.1.2.1,(dy l i.1.1).2.2.2.1.2.2.1,(dy l i.1.1).2.2.2.2.1,(dy l i.1.1).2.2.2.2.2.1,(dy l i.1.1).2.2.2.2.2.2.1,(dy l i.1.1).2.2.2.2.2.2.2.1,()),()))) λdu=>cV (λk 
 =>gu du.2.1.2.2.2.2.2.2.1 (br (decide ((a7 du.2.1.2.2.2.2.2.2.1)>(1500:Int))) (ah<=(1500:Int)/\(1500:Int)<=(a7 du.2.1.2.2.2.2.2.2.1)/\k ((),(du.2.1.1,du.2.1.2.1,du.2.1.2.2.1,du.2.1.2.2.2.1, 
 du.2.1.2.2.2.2.1,du.2.1.2.2.2.2.2.1,List.take (1500:Nat) du.2.1.2.2.2.2.2.2.1,du.2.1.2.2.2.2.2.2.2.1,du.2.1.2.2.2.2.2.2.2.2.1,du.2.1.2.2.2.2.2.2.2.2.2.1,()),())) (k ((),(du.2.1.1,du.2.1.2.1,du.2.1.2.2.1, 
 du.2.1.2.2.2.1,du.2.1.2.2.2.2.1,du.2.1.2.2.2.2.2.1,du.2.1.2.2.2.2.2.2.1,du.2.1.2.2.2.2.2.2.2.1,du.2.1.2.2.2.2.2.2.2.2.1,du.2.1.2.2.2.2.2.2.2.2.2.1,()),())))) λkV=>cV (λk=>gu kV.2.1.2.2.2.2.2.2.2.2.1 (br 
 (decide ((a7 kV.2.1.2.2.2.2.2.2.2.2.1)>(10:Int))) (ah<=(10:Int)/\(10:Int)<=(a7 kV.2.1.2.2.2.2.2.2.2.2.1)/\k ((),(kV.2.1.1,kV.2.1.2.1,kV.2.1.2.2.1,kV.2.1.2.2.2.1,kV.2.1.2.2.2.2.1,kV.2.1.2.2.2.2.2.1, 
 kV.2.1.2.2.2.2.2.2.1,kV.2.1.2.2.2.2.2.2.2.1,List.take (10:Nat) kV.2.1.2.2.2.2.2.2.2.2.1,kV.2.1.2.2.2.2.2.2.2.2.2.1,()),())) (k ((),(kV.2.1.1,kV.2.1.2.1,kV.2.1.2.2.1,kV.2.1.2.2.2.1,kV.2.1.2.2.2.2.1,kV.2.1.2.2.2.2.2.1, 
 kV.2.1.2.2.2.2.2.2.1,kV.2.1.2.2.2.2.2.2.2.1,kV.2.1.2.2.2.2.2.2.2.2.1,kV.2.1.2.2.2.2.2.2.2.2.2.1,()),())))) λiT=>(List.length i.1.2.1+List.length [(iT.2.1.1,iT.2.1.2.1,iT.2.1.2.2.1,(iT.2.1.2.2.2.1,iT.2.1.2.2.2.2.1, 
 iT.2.1.2.2.2.2.2.1,()),iT.2.1.2.2.2.2.2.2.1,iT.2.1.2.2.2.2.2.2.2.1,iT.2.1.2.2.2.2.2.2.2.2.1,iT.2.1.2.2.2.2.2.2.2.2.2.1,())])*136<=cw/\List.length i.1.2.1+List.length [(iT.2.1.1,iT.2.1.2.1,iT.2.1.2.2.1, 
 (iT.2.1.2.2.2.1,iT.2.1.2.2.2.2.1,iT.2.1.2.2.2.2.2.1,()),iT.2.1.2.2.2.2.2.2.1,iT.2.1.2.2.2.2.2.2.2.1,iT.2.1.2.2.2.2.2.2.2.2.1,iT.2.1.2.2.2.2.2.2.2.2.2.1,())]<=9223372036854775807/\cL i.1.1 (ag ((i.1.1+1,i.1.2.1++ 
 [(iT.2.1.1,iT.2.1.2.1,iT.2.1.2.2.1,(iT.2.1.2.2.2.1,iT.2.1.2.2.2.2.1,iT.2.1.2.2.2.2.2.1,()),iT.2.1.2.2.2.2.2.2.1,iT.2.1.2.2.2.2.2.2.2.1,iT.2.1.2.2.2.2.2.2.2.2.1,iT.2.1.2.2.2.2.2.2.2.2.2.1,())],()),())))) (Q gA [.sl 
 38 noTy i.1.2.1])) (Q gA [.sl 38 noTy i.1.2.1]))) ((ah,[],()),()))
theorem aeL:cG 9 al4:=fz<| lH λl=>iQ λQ h=>by
 refine Wp.dJ iH fA ⟨[(4,⟨[(4,.int .i64),(3,.own 38 noTy)],[]⟩)],[(9,⟨[],[(2,.cells 38 OF)]⟩),(11,⟨[],[(2,.cells 38 OF)]⟩),(13,⟨[],[(2,.cells 38 OF)]⟩)]⟩ Tryz.f9 (Xp l) ?_;unfold Xp ji jj gA dy cL gr gu km cw ah a7 aE;intro hl0;refine bp.intro (λi=>0<=i.1.1/\i.1.1<=l.length/\i.1.1<=40/\i.1.2.1=(l.take i.1.1.toNat).map Di) (λi=>l.length - i.1.1.toNat) ⟨by simp,by simp,by simp,by simp⟩ ?_;rintro ⟨⟨i,out,_⟩,_⟩ ⟨h0,h1,h2,h3⟩;simp only at h0 h1 h2 h3 ⊢;intro _;have fin:¬(i< l.length/\i< 40)->Q (.c (.o 0)) [.sl 38 noTy out]:=λhn=>by
  have:l.take i.toNat=l.take 40:=by
   by_cases h4:i< l.length
   .have:i=40:=by omega
    subst this;rfl
   .rw [aT (by omega),aT (by omega)]
  rw [h3,this];exact h
 refine aw (λhc=>aw (λCZ=>?_) (λCZ=>fin ?_)) (λhc=>fin ?_)
 .have hc:i< l.length:=by simpa using hc
  have CZ:i< 40:=by simpa using CZ
  refine ⟨h0,hc,λ_=>?_⟩;have ht:=BD (e:=noTy) h0 hc;generalize aK noTy l i=x at ht ⊢;refine cV.intro (λk=>k.2.1=(x.1.take 18,x.2.1,x.2.2.1,x.2.2.2.1.1,x.2.2.2.1.2.1,x.2.2.2.1.2.2.1,x.2.2.2.2.1,x.2.2.2.2.2.1,x.2.2.2.2.2.2.1,x.2.2.2.2.2.2.2.1,())) ?_ ?_
  .intro _;refine aw (λh4=>?_) (λh4=>?_)
   .have h4:(18:Int)< x.1.length:=by simpa using h4
    exact ⟨by decide,by omega,rfl⟩
   .have h4:¬(18:Int)< x.1.length:=by simpa using h4
    have h5:x.1.take 18=x.1:=aT (by omega);simp [h5]
  rintro ⟨_,k1,_⟩ hk;simp only at hk;subst hk;dsimp only;refine cV.intro (λk=>k.2.1=(x.1.take 18,x.2.1,x.2.2.1,x.2.2.2.1.1,x.2.2.2.1.2.1,x.2.2.2.1.2.2.1,x.2.2.2.2.1.take 1500,x.2.2.2.2.2.1,x.2.2.2.2.2.2.1,x.2.2.2.2.2.2.2.1,())) ?_ ?_
  .intro _;refine aw (λh4=>?_) (λh4=>?_)
   .have h4:(1500:Int)< x.2.2.2.2.1.length:=by simpa using h4
    exact ⟨by decide,by omega,rfl⟩
   .have h4:¬(1500:Int)< x.2.2.2.2.1.length:=by simpa using h4
    have h5:x.2.2.2.2.1.take 1500=x.2.2.2.2.1:=aT (by omega);simp [h5]
  rintro ⟨_,k1,_⟩ hk;simp only at hk;subst hk;dsimp only;refine cV.intro (λk=>k.2.1=(x.1.take 18,x.2.1,x.2.2.1,x.2.2.2.1.1,x.2.2.2.1.2.1,x.2.2.2.1.2.2.1,x.2.2.2.2.1.take 1500,x.2.2.2.2.2.1,x.2.2.2.2.2.2.1.take 10,x.2.2.2.2.2.2.2.1,())) ?_ ?_
  .intro _;refine aw (λh4=>?_) (λh4=>?_)
   .have h4:(10:Int)< x.2.2.2.2.2.2.1.length:=by simpa using h4
    exact ⟨by decide,by omega,rfl⟩
   .have h4:¬(10:Int)< x.2.2.2.2.2.2.1.length:=by simpa using h4
    have h5:x.2.2.2.2.2.2.1.take 10=x.2.2.2.2.2.2.1:=aT (by omega);simp [h5]
  rintro ⟨_,k1,_⟩ hk;simp only at hk;subst hk;dsimp only;have hlen:out.length=i.toNat:=by rw [h3,bH,aA];omega
  refine ⟨by simp only [aq,aM,hlen];omega,by simp only [aq,aM,hlen];omega,by unfold aF;omega,⟨by omega,by omega,by omega,?_⟩,by omega⟩;rw [ht,eQ,<-h3];rfl
 .have:¬i< 40:=by simpa using CZ
  omega
 .have:¬i< l.length:=by simpa using hc
  omega
theorem ac5 {F N:List bu} {d:IR} (O:QA F N) (hd:d.Ok dD N) {y:bu} (hy:y∈F) {ref:Int} (h:V6 d N y.1 ref):jU N (aK noTy N 0) y.1=0/\∃ x∈N,x.1=y.1/\x.2.2=y.2.2/\Kk.get .int d.t.Mr x.2.1=some ref:=by
 obtain ⟨x,hx,e1,e2⟩:=O.to y hy;have hp:=O.tr.pos;have u:=λ(a:bu) ha (b:bu) hb q=>hd.tok.uniq (x:=a) (y:=b) ha hb q;have hz:=Ze O.tr u y.1 (aK noTy N 0) x (uF (e:=noTy) (bz 0) (by omega)) hx (by rw [O.tr.root.1,e1];rfl);obtain ⟨z,hz1,z1,z2⟩:=h.ok hz;obtain rfl:=u z hz1 x hx (z1.trans e1.symm);exact ⟨hz,z,hx,e1,e2,z2⟩
theorem acW {x y:bu} (e:x.2.2=y.2.2) (off n:Int):X1 x off n=X1 y off n/\AG x off n=AG y off n:=by
 unfold X1 AG;rw [e];exact ⟨rfl,rfl⟩
abbrev XH:List bu:=[([],(1:Int),(1:Int),((0:Int),(0:Int),(0:Int),()),[],⟨#[]⟩,[],false,()),([⟨#[97]⟩],(2:Int),(2:Int),((0:Int),(0:Int),(0:Int),()),[],⟨#[]⟩,[],false,())]
theorem xJ {N:List bu} {d:IR} (O:QA XH N) (hd:d.Ok dD N):jU N (aK noTy N 0) [⟨#[97]⟩]=0/\jU N (aK noTy N 0) [⟨#[97]⟩,⟨#[98]⟩]=24/\jU N (aK noTy N 0) [⟨#[98]⟩]=20:=by
 obtain ⟨r1,r2,_⟩:=O.tr.root;obtain ⟨x,hx,x1,x2⟩:=O.to _ (aH _ aX:([⟨#[97]⟩],(2:Int),(2:Int),((0:Int),(0:Int),(0:Int),()),([]:List UInt8),⟨#[]⟩,[],false,())∈XH);have x1:x.1= [⟨#[97]⟩]:=x1;have xk:x.2.2.1=2:=by rw [x2]
 have hf:Oj N ((aK noTy N 0).1++ [⟨#[97]⟩])=some x:=by rw [r1,dQ,<-x1];exact Zh hd.tok hx
 have hn:Oj N ((aK noTy N 0).1++ [⟨#[98]⟩])=none:=sU.2 λy hy e=>by
  obtain ⟨z,hz,z1,_⟩:=O.of y hy;rw [r1,dQ] at e;rw [e] at z1;rcases bm.1 hz with rfl| hz;cases z1
  .rw [aR] at hz;subst hz;exact absurd (List.cons.inj z1).1 (by decide)
 refine ⟨?_,?_,?_⟩
 .unfold jU;rw [if_pos r2,hf];rfl
 .unfold jU;rw [if_pos r2,hf];show jU N x _=24;unfold jU;rw [if_neg (by rw [xk];decide)]
 .unfold jU;rw [if_pos r2,hn]
def aec:Ct:=c0 λQ=>Q (.bool true) []
def ajr:=(iH.add Oq).add QN
def KH:dE:=
 λQ=>(↑bn:Int)<=(40:Int)/\∀ (A:Value->Atom) (d:IR) (N:List bu),QA [(([]:List ByteArray),bd,bd,(ah,ah,ah,()),[],ByteArray.mk #[],[],false,()),([ByteArray.mk #[(97:UInt8)]],di,di, 
 (ah,ah,ah,()),[],ByteArray.mk #[],[],false,())] N->MB A d N->aF .i64 0->∃ d N,MB A d N/\∀ (ref:Int),V6 d N [ByteArray.mk #[(97:UInt8)]] ref->aF .i64 ref->aF .i64 (jU N (l6 N) [ByteArray.mk #[(97: 
 UInt8)]])->∃ d Wh,MB A d Wh/\∀ (ref:Int),V6 d Wh [ByteArray.mk #[(97:UInt8)],ByteArray.mk #[(98:UInt8)]] ref->aF .i64 ref->aF .i64 (jU Wh (l6 Wh) [ByteArray.mk #[(97:UInt8)],ByteArray.mk #[(98:UInt8)]])->∃ 
 d V3,MB A d V3/\∀ (ref:Int),V6 d V3 [ByteArray.mk #[(98:UInt8)]] ref->aF .i64 ref->aF .i64 (jU V3 (l6 V3) [ByteArray.mk #[(98:UInt8)]])->br (jU N (l6 N) [ByteArray.mk #[(97:UInt8)]]==0) (br (jU Wh 
 (l6 Wh) [ByteArray.mk #[(97:UInt8)],ByteArray.mk #[(98:UInt8)]]==24) (Q (.v (.c (.k (.bool (jU V3 (l6 V3) [ByteArray.mk #[(98:UInt8)]]==20))))) []) (bc Q)) (bc Q)
theorem QG:cG 8 aec:=fz<| iQ λQ h=>by
 refine Wp.dJ ajr fA ⟨[],[]⟩ Tryz.f8 KH (hold:=[10,11]) ?_;unfold KH l6 bc kQ ah bd di bn;refine ⟨by decide,λA d N O hM _=>?_⟩;have e1:jU N (aK noTy N 0) [⟨#[97]⟩]=0:=(xJ O hM.ok).1;have e2:jU N (aK noTy N 0) [⟨#[97]⟩,⟨#[98]⟩]=24:=(xJ O hM.ok).2.1;have e3:jU N (aK noTy N 0) [⟨#[98]⟩]=20:=(xJ O hM.ok).2.2;refine ⟨d,N,hM,λ_ _ _ _=>⟨d,N,hM,λ_ _ _ _=>⟨d,N,hM,λ_ _ _ _=>?_⟩⟩⟩;rw [e1,e2,e3];exact h
def c_lreads:Ct
 | [.v (.c cl),.v (.c (.k (.int .i64 off))),.v (.c (.k (.int .i64 n)))],[],Q=>(match (Ty.sl noTy).of [cl] with
  | some (l,[])=>Q (.bool true) []
  | _=>False)
 | _,_,_=>False
def ajq:=((((iH.add am0).add QN).add Oq).add aeL).add QG
abbrev oR (y0:List (noTy).den):=List.map Di (List.take (40:Nat) y0)
abbrev zG (y0:List (noTy).den) (y1):=(↑(List.length (aK noTy (oR y0) y1).2.2.2.2.1):Int)
abbrev ID (y0:List (noTy).den) (y1:SV->List HO->Prop):=aF .i64 (dH (oR y0))->br (dH (oR y0) !=0) (br (dH (oR y0) !=0) (y1 qK []) (bc y1)) (br (dH (oR y0) !=0) (y1 qK []) (bc y1))
abbrev kK (y0:List (noTy).den) (y1):=aK noTy (oR y0) y1
abbrev vh {A2:Type} (y0) (y1:_->Prop) (y2:A2):=cL y0 (y1 ((y0+1,()),y2))
def EX (l:(List (noTy).den)) (off n:Int):dE:=λQ=>gr l (cj off n ((a7 (oR l))<=(40:Int)/\br (dH (oR l) !=0) (ID l Q) (∀ (A:Value->Atom) (d:IR) (N:List bu),QA (oR l) N->MB A d N->aF .i64 0->bp (λi ag=>List.length (oR l)<= 
 9223372036854775807->br (decide (i.1.1< (a7 (oR l)))) (0<=i.1.1/\i.1.1< (a7 (oR l))/\(Ty.ok noTy (kK l i.1.1)->∃ d N,MB i.2.1 d N/\∀ (ref:Int),V6 d N (kK l i.1.1).1 ref->aF .i64 ref->aF .i64 (jU N (l6 
 N) (kK l i.1.1).1)->∃ d Wh x,MB i.2.1 d Wh/\x∈Wh/\Kk.get Kk.int d.t.Mr x.2.1=some ref/\(aL (List.length (X1 x off n))->aF .i64 (AG x off n)->br (jU N (l6 N) (kK l i.1.1).1 !=0) (bc Q) (0<=i.1.1/\i.1.1 
 < (a7 (oR l))/\(Ty.ok noTy (kK l i.1.1)->br ((kK l i.1.1).2.2.1==1) (br (AG x off n !=25) (bc Q) (vh i.1.1 ag i.2)) (0<=i.1.1/\i.1.1< (a7 (oR l))/\(Ty.ok noTy (kK l i.1.1)->br ((kK l i.1.1).2.2.1 
 ==3) (br (AG x off n !=1) (bc Q) (vh i.1.1 ag i.2)) (br (cR off) (br (AG x off n !=1) (bc Q) (vh i.1.1 ag i.2)) (br (cR n) (br (AG x off n !=1) (bc Q) (vh i.1.1 ag i.2)) (0<=i.1.1/\i.1.1< (a7 
 (oR l))/\(Ty.ok noTy (kK l i.1.1)->List.length (kK l i.1.1).2.2.2.2.1<=9223372036854775807->br (decide (off< (zG l i.1.1))) (0<=i.1.1/\i.1.1< (a7 (oR l))/\(Ty.ok noTy (kK l i.1.1)->0<=i.1.1/\i.1.1< (a7 
 (oR l))/\(Ty.ok noTy (kK l i.1.1)->List.length (kK l i.1.1).2.2.2.2.1<=9223372036854775807->aF .i64 ((zG l i.1.1) - off)/\aF .i64 (off+min n ((zG l i.1.1) - off))/\0<=off/\off<=off+min n ((zG l i.1.1) - 
 off)/\off+min n ((zG l i.1.1) - off)<=(zG l i.1.1)/\br (AG x off n !=0) (bc Q) (br (!mJ (fD (X1 x off n)) (fD (List.take (ax (off+min n ((zG l i.1.1) - off)) - ax off) (List.drop (aZ off) (kK 
 l i.1.1).2.2.2.2.1)))) (bc Q) (vh i.1.1 ag i.2))))) (br (AG x off n !=0) (bc Q) (br (!mJ (fD (X1 x off n)) (fD [])) (bc Q) (vh i.1.1 ag i.2)))))))))))))) (Q qK [])) ((ah,()),A,()))))
theorem w_lreads:cG 5 c_lreads:=by
 intro args H Q h;unfold c_lreads at h;split at h;rotate_left;cases h;rename_i cl off n;split at h;rotate_left;cases h;rename_i l hl;refine Wp.said (args':=[.c (.d noTy l),.int off,.int n]) (λE g=>bC.cE (dI hl) (bC.cE (λ_ h=>h) (bC.cE (λ_ h=>h) (λ_ h=>h)))) ?_;clear hl;refine Wp.dJ ajq fA ⟨[(8,⟨[(10,.int .i64)],[(1,.abs)]⟩)],[]⟩ Tryz.f5 (EX l off n) (hold:=[10,11]) ?_;unfold EX vh l6 kK ID bc cj cR zG cL gr aZ oR kQ qK ah a7 aL;have hF40:(List.map Di (List.take 40 l)).length<=40:=by rw [bH,aA];omega
 generalize List.map Di (List.take 40 l)=F at*;refine λ_ _ _=>⟨by omega,aw (λq=>λ_=>?_) (λq=>λA d N O hM _=>?_)⟩;rw [q];exact h;refine bp.intro (λi=>i.2.1=A/\0<=i.1.1/\i.1.1<=F.length) (λi=>F.length - i.1.1.toNat) ⟨rfl,bz _,by simp⟩ ?_;rintro ⟨⟨i,_⟩,A1,_⟩ ⟨e,i0,i1⟩;simp only at e i0 i1 ⊢;subst e;refine λ_=>aw (λhc=>?_) (λ_=>h);have hc:=of_decide_eq_true hc;have hy:aK noTy F i∈F:=uF (e:=noTy) i0 hc;generalize aK noTy F i=y at*;have fin:aF .i64 (i+1)/\(A1=A1/\0<=i+1/\i+1<=(F.length:Int))/\F.length - (i+1).toNat< F.length - i.toNat:=⟨by unfold aF;omega,⟨rfl,by omega,by omega⟩,by omega⟩;refine ⟨i0,hc,λ_=>⟨d,N,hM,λref hr _ _=>?_⟩⟩;obtain ⟨z,x,hx,x1,x2,x3⟩:=ac5 O hM.ok hy hr;obtain ⟨w1,w2⟩:=acW x2 off n;rw [z];have hmk:=(lj (O.l.may y hy)).2;have hnk:∀ c:Int,AG y off n=c->br (AG x off n !=c) (Q (.bool false) []) (aF .i64 (i+1)/\(A1=A1/\0<=i+1/\i+1<=(F.length:Int))/\F.length - (i+1).toNat< F.length - i.toNat):=λc hc=>aw (λq=>by rw [w2,hc] at q;simp at q) (λ_=>fin);refine ⟨d,N,x,hM,hx,x3,λ_ _=>aw (λq=>by cases q) (λ_=>⟨i0,hc,λ_=>aw (λk1=>?_) (λk1=>?_)⟩)⟩;exact hnk 25 (if_pos (eq_of_beq k1));have k1:y.2.2.1≠1:=λe=>by rw [e] at k1;cases k1
 refine ⟨i0,hc,λ_=>aw (λk3=>?_) (λk3=>?_)⟩;exact hnk 1 (by unfold AG;rw [if_neg k1,if_pos (.inl (eq_of_beq k3))]);have k3:y.2.2.1≠3:=λe=>by rw [e] at k3;cases k3
 refine aw (λko=>?_) (λko=>aw (λkn=>?_) (λkn=>?_));exact hnk 1 (by unfold AG;rw [if_neg k1,if_pos (.inr (.inl (of_decide_eq_true ko)))]);exact hnk 1 (by unfold AG;rw [if_neg k1,if_pos (.inr (.inr (of_decide_eq_true kn)))]);have ko:=of_decide_eq_false ko;have kn:=of_decide_eq_false kn;have k2:y.2.2.1=2:=by
  rcases hmk with e| e| e;exact absurd e k1;exact e;exact absurd e k3
 have r0:AG x off n=0:=by rw [w2];unfold AG;rw [if_neg k1,if_neg (λq=>by rcases q with q| q| q;exact k3 q;omega;omega)]
 have r1:X1 x off n=(y.2.2.2.2.1.drop off.toNat).take n.toNat:=by rw [w1];exact if_pos ⟨k2,by omega,by omega⟩
 have hyl:=(ov (O.l.may y hy)).2;clear hnk;rw [r0,r1];refine ⟨i0,hc,λ_ _=>aw (λkl=>?_) (λkl=>?_)⟩
 .have kl:=of_decide_eq_true kl;refine ⟨i0,hc,λ_=>⟨i0,hc,λ_ _=>⟨by unfold aF;omega,by unfold aF;omega,by omega,by omega,by omega,aw (λq=>by cases q) (λ_=>aw (λq=>?_) (λ_=>fin))⟩⟩⟩;have e:(y.2.2.2.2.1.drop off.toNat).take ((off+min n ((y.2.2.2.2.1.length:Int) - off)).toNat - off.toNat)=(y.2.2.2.2.1.drop off.toNat).take n.toNat:=by
   rw [<-FE (n:=n.toNat)];congr 1;rw [aN];omega
  rw [e,jQ.2 rfl] at q;cases q
 .have kl:=of_decide_eq_false kl;refine aw (λq=>by cases q) (λ_=>aw (λq=>?_) (λ_=>fin));rw [j4 (by omega),List.take_nil,jQ.2 rfl] at q;cases q
end Go.Proofs

namespace Go.Lm
open Go Go.RowKit
section
variable {P:Program}
def JV (P:Program) (t:TypeId) (e:Ty):Prop:= @Ah P t e.den e.rep
def DK (P:Program) (fs:List Field) (off:Nat) (e:Ty):Prop:=
 ∀ {H:Type} (enc:TypeId×Value->H) (w:World) (base:Nat) (spare:Nat->Bool) (held:Bool) (fuel:Nat) (cs:List Value),cs.length=off+e.size->
  (∀ f∈fs,∃ y,DataW.trod enc P w base spare held fuel f.type ((cs.drop f.offset).take (P.cellsOf f.type))=some y)->∃ x:e.den,e.rep.rel w (cs.drop off) x
theorem Ph {off:Nat}:DK P [] off .unit:=λ_ _ _ _ _ _ cs hl _=>⟨(),by
 show cs.drop off= [];exact ik (by rw [hl];exact ay _)⟩
theorem zN {a b:Ty} {f:Field} {fs:List Field} {off:Nat} (ho:f.offset=off) (hs:P.cellsOf f.type=a.size) (h1:JV P f.type a) (h2:DK P fs (off+a.size) b):DK P (f::fs) off (.pair a b):=λenc w base spare held fuel cs hl h=>by
 obtain ⟨y,hy⟩:=h f (by simp);obtain ⟨x,hx⟩:=h1 enc w base spare held fuel _ y hy;have wX:cs.length=off+(a.size+b.size):=hl;obtain ⟨r,hr⟩:=h2 enc w base spare held fuel cs (by omega) λg hg=>h g (aH _ hg);rw [ho,hs] at hx;refine ⟨(x,r),_,_,?_,hx,hr⟩;rw [<-eG,cv]
theorem D7 {t:TypeId} {e:Ty} {fs:Array Field} (ht:P.underlying t=some (.struct fs)) (hs:P.cellsOf t=e.size) (h:DK P fs.toList 0 e):JV P t e:=λenc w base spare held fuel cs y hy=>by
 obtain ⟨xs,n,_,_,hlen,hxl,hf⟩:=DataW.trod_struct ht hy;obtain ⟨x,hx⟩:=h enc w base spare held n cs (by rw [hlen,hs];omega) λf hm=>by
  obtain ⟨i,hi⟩:=List.getElem?_of_mem hm;have pB:fs[i]?=some f:=by simpa using hi
  have eK:i< xs.length:=by rw [hxl];exact (aQ.1 pB).1
  exact ⟨xs[i],by rw [hf i f pB,ak eK]⟩
 rw [pD] at hx;exact ⟨x,hx⟩
theorem Pj {k:IntKind} {t:TypeId} (ht:P.underlying t=some (.int k)):JV P t (.int k):=λ_ _ _ _ _ _ _ _ h=>by
 obtain ⟨n,hc,_,hw⟩:=DataW.trod_int ht h;exact ⟨n,hc,hw⟩
def fit (P:Program):Ty->TypeId ⊕ (List Field×Nat)->Bool
 | .int k,.inl t=>match P.underlying t with
  | some (.int k')=>IntKind.beq k k'
  | _=>false
 | .u8,.inl t=>match P.underlying t with
  | some (.int .u8)=>true
  | _=>false
 | .str,.inl t=>match P.underlying t with
  | some .string=>true
  | _=>false
 | .bool,.inl t=>match P.underlying t with
  | some .bool=>true
  | _=>false
 | .sl e,.inl t=>match P.underlying t with
  | some (.slice et)=>Nat.beq (P.cellsOf et) e.size&& fit P e (.inl et)
  | _=>false
 | .unit,.inr ([],_)=>true
 | .pair a b,.inr (f::fs,off)=>Nat.beq f.offset off&& (Nat.beq (P.cellsOf f.type) a.size&& (fit P a (.inl f.type)&& fit P b (.inr (fs,off+a.size))))
 | .pair a b,.inl t=>match P.underlying t with
  | some (.struct fs)=>match fs.toList with
   | f::r=>Nat.beq (P.cellsOf t) (a.size+b.size)&& (Nat.beq f.offset 0&& (Nat.beq (P.cellsOf f.type) a.size&& (fit P a (.inl f.type)&& fit P b (.inr (r,a.size)))))
   | []=>false
  | _=>false
 | _,_=>false
theorem yO:∀ (e:Ty),(∀ t,fit P e (.inl t)=true->JV P t e)/\∀ fs off,fit P e (.inr (fs,off))=true->DK P fs off e
 | .int k=>by
  refine ⟨λt h=>?_,λfs off h=>by simp [fit] at h⟩;unfold fit at h;split at h
  .rename_i k' hk;rw [IntKind.eq_of_beq h];exact Pj hk
  .cases h
 | .u8=>by
  refine ⟨λt h=>?_,λfs off h=>by simp [fit] at h⟩;unfold fit at h;split at h
  rename_i hk;exact Pf hk;cases h
 | .Vr=>⟨λt h=>by simp [fit] at h,λfs off h=>by simp [fit] at h⟩
 | .str=>by
  refine ⟨λt h=>?_,λfs off h=>by simp [fit] at h⟩;unfold fit at h;split at h
  rename_i hk;exact UX hk;cases h
 | .bool=>by
  refine ⟨λt h=>?_,λfs off h=>by simp [fit] at h⟩;unfold fit at h;split at h
  rename_i hk;exact Pg hk;cases h
 | .unit=>by
  refine ⟨λt h=>by simp [fit] at h,λfs off h=>?_⟩;cases fs with
  | nil=>exact Ph
  | cons f r=>simp [fit] at h
 | .sl e=>by
  refine ⟨λt h=>?_,λfs off h=>by simp [fit] at h⟩;unfold fit at h;split at h
  .rename_i et hk;rw [ao] at h;exact @Pe P t et e.den e.rep hk ((ai h.1).trans e.gp.symm) ((yO e).1 et h.2)
  .cases h
 | .pair a b=>by
  refine ⟨λt h=>?_,λfs off h=>?_⟩
  .unfold fit at h;split at h
   .rename_i fs hk;split at h
    .rename_i f r hf;simp only [ao] at h;obtain ⟨h1,h2,h3,h4,h5⟩:=h;refine D7 (e:=.pair a b) hk (ai h1) ?_;rw [hf];refine zN (ai h2) (ai h3) ((yO a).1 _ h4) ?_;rw [bW];exact (yO b).2 _ _ h5
    .cases h
   .cases h
  .cases fs with
   | nil=>simp [fit] at h
   | cons f r=>
    unfold fit at h;simp only [ao] at h;obtain ⟨h2,h3,h4,h5⟩:=h;exact zN (ai h2) (ai h3) ((yO a).1 _ h4) ((yO b).2 _ _ h5)
theorem open_sl {t:TypeId} {e:Ty} (hf:fit P (.sl e) (.inl t)=true) {H:Type} {enc:TypeId×Value->H} {w:World} {base:Nat} {spare:Nat->Bool} {held:Bool} {v:Value} {d:DataW H} {ps:List MemPlace}
  (hv:v.cells= #[v]) (h:DataW.Trod enc P w base spare held t v d ps):∃ x:List e.den,nY e w v x:=
 @Mv P t (List e.den) (AJ e.den e.rep) ((yO (.sl e)).1 t hf) rfl H enc w base spare held v d ps hv h
theorem Wp.run {I:cQ->Prop} {f:FuncId} {args:List SV} {vs:List Value} {w:World} {b:Bool} (hI:I {w:=w,g:=w}) (h:Wp I P f args [] λv _=>v=SV.bool b) (hv:bC [] w args vs):Hs P f vs.toArray w λv w'=>v= .bool b/\Le w w':=by
 have S:SL {w:=w,g:=w} w w []:=SL.start (ri.refl w);refine (h {w:=w,g:=w} hI w w [] [] vs ⟨S,rfl⟩ hv).mono λv w' ⟨E',g',sv,H',_,_,S',r,q⟩=>?_;subst q;exact ⟨r.1,S'.sl.am2⟩
end
theorem returns_shaped_and {H:Type} {enc:TypeId×Value->H} {a:Assume} {C:Checked} {os:Os} {f:FuncId} {fn:Func} {s:ChangeSpec} {conds:List PathCond} {apart fresh handsOn again:Bool} {X:World->Array Value->Prop}
  (hX:∀ (w w':World) (args:Array Value),w.heap=w'.heap->X w args->X w' args)
  (own:ownKnob C.prog.godebug=none) (started:os.Started) (noInit:C.prog.inits.idxOf? f=none) (hfn:C.prog.funcs[f]?=some fn)
  (witness:∃ (w:World) (tape:Tape) (i:Input),w.os=os/\(w.forCall tape i).Shaped C.prog/\i.vars= []/\Input.okWide C.prog (w.forCall tape i) .any w.heap.size f i/\
   ((s.pre enc C.prog fn conds apart (w.forCall tape i).memory i.args/\X (w.forCall tape i).memory i.args)/\sizedMet enc C.prog fn (OpenSpec.ofChange s) apart (w.forCall tape i).memory i.args)/\a.holds C.prog (lone (Frame.enter C.prog f i.args .normal) [] (w.forCall tape i)))
  (contract:∀ (W:World) (base:Nat) (args:Array Value) (ds gs:List (DataW H)) (before:List MemPlace),
   (∀ (j:Nat) t v,fn.params[j]?=some t->args[j]?=some v->Value.okWide C.prog W .any base t v)->
   DataW.Whole enc C.prog fn.params.toList s.vars apart W args.toList ds gs before->X W args->W.ShapedOpen C.prog->
   (DataW.weightsEach C.prog (fn.params.toList++s.plain.varTypes C.prog) (ds++gs)).all (· <=reachBytes)=true->
   Calls C.prog f args W λe W'=>∃ v,e= .returned v/\s.post enc C.prog fn apart fresh handsOn again W args v W'):
  ReturnsInHanded a C os f .any (λw args=>(s.pre enc C.prog fn conds apart w args/\X w args)/\sizedMet enc C.prog fn (OpenSpec.ofChange s) apart w args) (s.post enc C.prog fn apart fresh handsOn again):=by
 refine returnsInHanded_of_calls own started noInit witness ?_;intro w tape i _ hsh _ tU anD an5;obtain ⟨_,_,_,fn',an7,_,_,_,_,hval⟩:=tU;obtain rfl:fn'=fn:=aj (an7.symm.trans hfn);obtain ⟨⟨⟨ds,gs,before,hw,hc⟩,hx⟩,hz⟩:=anD;have hw':=DataW.Whole.of_heap (w':=w.forCall tape i) (by rfl) hw;refine (contract (w.forCall tape i) w.heap.size i.args ds gs before hval hw' (hX _ _ _ (by rfl) hx) hsh (hz.weights hw)).mono λe W' ⟨v,he,hp⟩=>?_;subst he;exact ChangeSpec.post_blind hp
theorem params_ok {P:Program} {ps:Array TypeId} (h:(ps.all λt=> !P.wantsStandIn t)=true) (j:Nat) (t:TypeId) (ht:ps[j]?=some t):P.wantsStandIn t=false:=by
 have:=Array.all_eq_true_iff_forall_mem.1 h t (Array.mem_of_getElem? ht);simpa using this
end Go.Lm

namespace Go.Proofs.YthjbdgokcljocaaGreatDoor
open Go Go.ChangeShapes Go.WideShapes Go.ChangeAt Go.RowKit Go.Lm
set_option maxRecDepth 1000000
set_option maxRecDepth 100000
def laidWorld (os:Os):World:=
 let w0:=World.doorLaid cd 19 os
 {w0 with heap:=w0.heap.modify 1 fun
   | .cells _ t frozen=>.cells (Pinned.utf8FirstZ.map λ(n:Nat)=>Value.int .u8 n).toArray t frozen
   | o=>o}
theorem own:ownKnob Tryz.prog.godebug=none:=by kernel_rfl
theorem laidOut:laidOutB cd=true:=by kernel_rfl
abbrev RF:List (String×DataW Unit):=Rows.imageLinksRow.laid
theorem Pc:(RF.all λx=>x.2.handleName?.isNone)=true:=by kernel_rfl
theorem door_met (os:Os) (args:Array Value):laidMetH cd RF ((laidWorld os).forCall (λ_ _=>0) ⟨#[],args,[]⟩).memory:=by
 rw [MakeChecks.laidMetH_plain _ _ _ Pc];exact laidMet_of_run' 8 (by kernel_rfl) (by kernel_rfl)
theorem door_shaped (os:Os) (args:Array Value):((laidWorld os).forCall (λ_ _=>0) ⟨#[],args,[]⟩).Shaped cd:=World.shaped_of_RefB (by kernel_rfl) (by kernel_rfl)
end Go.Proofs.YthjbdgokcljocaaGreatDoor

namespace Go.Proofs
open Go Go.Lm Go.RowKit
set_option maxRecDepth 1000000
def Qj:Ct
 | [.v (.c (.k .nilIface))],[],Q=>Q (.cJ [.c (.k (.pointer none)),.c (.k (.bool false))]) []
 | _,_,_=>False
def Rf:dE:=
 λQ=>Q (.cJ [.c pt,.c (.k (.bool false))]) []
theorem agW:cG 14 Qj:=by
 intro args H Q h;unfold Qj at h;split at h;rotate_left;cases h;refine Wp.dJ iH fA ⟨[],[]⟩ Tryz.f14 Rf ?_;unfold Rf pt;exact h
def Qk:Ct
 | [.v (.c (.AM 25 (.p 0 0)))],[.abs A],Q=>Q (.cJ [.c (.p 0 0),.c (.k (.bool true))]) [.abs A]
 | _,_,_=>False
def Rg (A:Value->Atom):dE:=λQ=>Q (SV.cJ [S1.c (.p 0 0),.c (.k (.bool true))]) [HO.abs A]
theorem agX:cG 14 Qk:=by
 intro args H Q h;unfold Qk at h;split at h;rotate_left;cases h;rename_i A;refine Wp.dJ iH fA ⟨[],[]⟩ Tryz.f14 (Rg A) ?_;unfold Rg;exact h
def ZT:Ct
 | [.v (.c (.AM 25 (.p 0 0)))],[.abs A],Q=>Q (.c (.p 0 0)) [.abs A]
 | _,_,_=>False
def Rl (A:Value->Atom):dE:=λQ=>Q mN [HO.abs A]
theorem ag3:cG 15 ZT:=by
 intro args H Q h;unfold ZT at h;split at h;rotate_left;cases h;rename_i A;refine Wp.dJ iH fA ⟨[],[]⟩ Tryz.f15 (Rl A) ?_;unfold Rl mN;exact h
def afA:Ct:=λargs H Q=>match H with
 | []=>Qj args H Q
 | _=>Qk args H Q
theorem akj:cG 14 afA:=λargs H Q h=>by
 unfold afA at h;split at h;exact agW _ _ _ h;exact agX _ _ _ h
def c_lkinds:Ct
 | [.v (.c cl)],[],Q=>(match (Ty.sl noTy).of [cl] with
  | some (l,[])=>Q (.bool true) []
  | _=>False)
 | _,_,_=>False
def ajp:=((((((iH.add Wv).add agN).add ag3).add akj).add Oq).add aeL).add QG
def EY (l:(List (noTy).den)):dE:=λQ=>gr l ((a7 (oR l))<=(40:Int)/\br (dH (oR l) !=0) (ID l Q) (∀ (A:Value->Atom) (d:IR) (N:List bu),QA (oR l) N->MB A d N->aF .i64 0->∃ d N,MB A d N/\∀ (ref:Int),qw d.t.Mr N ref (∃ d N 
 x,MB A d N/\x∈N/\Kk.get Kk.int d.t.Mr x.2.1=some ref/\(cA x.2.2.1 x.2.2.2.1.1 x.2.2.2.1.2.1 (aF .i64 x.2.2.2.1.2.2.1->aF .i64 (↑(mh N x.2.1):Int)->aF .i64 (uz N x)->aF .i64 0->∃ d Wh,MB A d Wh/\∀ (ref:Int), 
 qw d.t.Mr Wh ref (∃ d V3 rR,MB A d V3/\rR∈V3/\Kk.get Kk.int d.t.Mr rR.2.1=some ref/\(cA rR.2.2.1 rR.2.2.2.1.1 rR.2.2.2.1.2.1 (aF .i64 rR.2.2.2.1.2.2.1->aF .i64 (↑(mh V3 rR.2.1):Int)->aF .i64 (uz V3 
 rR)->aF .i64 0->∃ d N_3,MB A d N_3/\∀ (ref:Int),qw d.t.Mr N_3 ref (∃ d N_4,MB A d N_4/\∀ (ref_1:Int),qw d.t.Mr N_4 ref_1 (br (ref==ref_1) (∃ d N_5,MB A d N_5/\∀ (ref:Int),qw d.t.Mr N_5 ref (∃ d N_6,MB A d 
 N_6/\∀ (ref_2:Int),qw d.t.Mr N_6 ref_2 (br (ref==ref_2) (br (x.2.2.1==rR.2.2.1&& (x.2.2.2.1.1==rR.2.2.2.1.1&& (x.2.2.2.1.2.1==rR.2.2.2.1.2.1&& (x.2.2.2.1.2.2.1==rR.2.2.2.1.2.2.1&& true))&& ((↑(mh N x.2.1):Int) 
 ==(↑(mh V3 rR.2.1):Int)&& (uz N x==uz V3 rR&& true)))) (Q (.v (.c (.k (.bool (ah==0))))) []) (bc Q)) (bc Q)))) (bc Q)))))))))))
theorem w_lkinds:cG 4 c_lkinds:=by
 intro args H Q h;unfold c_lkinds at h;split at h;rotate_left;cases h;rename_i cl;split at h;rotate_left;cases h;rename_i l hl;refine Wp.said (args':=[.c (.d noTy l)]) (λE g=>bC.cE (dI hl) (λ_ h=>h)) ?_;clear hl;refine Wp.dJ ajp fA ⟨[],[]⟩ Tryz.f4 (EY l) (hold:=[10,11]) ?_;unfold EY qw l6 ID bc gr cA oR kQ qK ah a7;have hF40:(List.map Di (List.take 40 l)).length<=40:=by rw [bH,aA];omega
 generalize List.map Di (List.take 40 l)=F at*;refine λ_=>⟨by omega,aw (λq=>λ_=>?_) (λq=>λA d N O hM _=>?_)⟩;rw [q];exact h;have hx:aK noTy N 0∈N:=uF (e:=noTy) (bz 0) (by have:=O.tr.pos;omega);refine ⟨d,N,hM,λr0 g0 _=>⟨d,N,aK noTy N 0,hM,hx,g0,λ_ _ _ _ _ _ _=>⟨d,N,hM,λr1 g1 _=>⟨d,N,aK noTy N 0,hM,hx,g1,λ_ _ _ _ _ _ _=>⟨d,N,hM,λr2 g2 _=>⟨d,N,hM,λr3 g3 _=>?_⟩⟩⟩⟩⟩⟩;obtain rfl:=aj (g2.symm.trans g3);refine aw (λ_=>⟨d,N,hM,λr4 g4 _=>⟨d,N,hM,λr5 g5 _=>?_⟩⟩) (λq=>by simp at q);obtain rfl:=aj (g4.symm.trans g5);exact aw (λ_=>aw (λ_=>h) (λq=>by simp at q)) (λq=>by simp at q)
end Go.Proofs

