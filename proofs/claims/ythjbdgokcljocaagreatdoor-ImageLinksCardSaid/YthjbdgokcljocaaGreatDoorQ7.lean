/- Texts of mine, laid together: D2 LmZr D3 LmZs LmZt KO D4 LmZu E1 E2 LmVzg E3 LmZv E4 LmVzh E5 LmZ1 LmZ2 LmZ3 LmZ4 E6 F1 F2 F3 F4 G1 G2 G3 LmZ5 G5 G6 LmWb LmFrame Frame. -/
import Derived.Test.YthjbdgokcljocaaGreatDoorQ6
import Derived.Test.YthjbdgokcljocaaGreatDoorProg
import Derived.Test.YthjbdgokcljocaaGreatDoorChecked
import Derived.Test.YthjbdgokcljocaaGreatDoorQ3
import Derived.Test.YthjbdgokcljocaaGreatDoorQ1
import Derived.HandedShaped
import Derived.ProofKit
import Derived.LaidMore
import Derived.OpenShut
import Derived.ShutString
import Derived.ChangeOld
import Derived.Below
import Derived.Stop.Joined
import Derived.Shelf.Vars
import Derived.SevenTiedAt
import Derived.Test.YthjbdgokcljocaaGreatDoorTie
import Derived.Lib.LaidU8
import Derived.MakeChecks
set_option linter.unusedVariables false
open Array renaming getElem?_eq_some_iff → aQ
open Bool renaming and_eq_true → ao, not_eq_true' → bG, false_and → gO, or_eq_true → iD, eq_iff_iff → iE, true_and → pr
open Int renaming toNat → aA, toNat_natCast → bm, le_refl → bp, natCast_nonneg → jD, toNat_of_nonneg → nG
open List renaming flatten → ae, length_append → af, getElem?_eq_getElem → ak, length_cons → aq, replicate → au, getElem?_eq_some_iff → av, length_singleton → ay, length_take → aD, mem_cons_of_mem → aG, append_assoc → aH, eq_nil_of_length_eq_zero → aK, length_nil → aL, mem_map → aM, getD_eq_getElem?_getD → aP, mem_singleton → aR, mem_cons_self → aS, length_replicate → aT, getElem?_append_left → aU, take_of_length_le → aV, length_drop → aW, mem_cons → aX, mem_append → aY, getElem?_append_right → aZ, append_nil → a7, flatten_cons → bF, mem_append_left → bH, length_map → bL, range → bP, take_append_drop → bY, take_succ_eq_append_getElem → bZ, map_cons → cg, getElem?_map → cz, pairwise_iff_getElem → da, getElem_mem → df, mem_range → dm, drop_append_of_le_length → dz, mem_iff_getElem → dH, getElem?_take → dO, cons_append → eB, nodup_cons → eD, nil_append → eE, map_append → eR, flatten_append → eT, drop_eq_nil_of_le → eZ, mem_of_getElem? → fc, take_length → ff, nodup_append → fm, pairwise_cons → fA, drop_left → fB, length_set → gJ, drop_drop → iC, pairwise_map → iZ, mem_append_right → ja, find?_eq_none → jC, flatMap_cons → kq, mem_of_find?_eq_some → pI
open Nat renaming eq_of_beq_eq_true → ai, le_refl → az, zero_add → cd, zero_le → cr, min_eq_left → eP, lt_or_ge → eQ, zero_lt_succ → iL, lt_trichotomy → ko, sub_self → pq
open Option renaming getD → gl, map_some → lu, isSome_iff_exists → lT
open Option.some renaming inj → aj, injEq → km
open Go.Proofs.Tryz renaming prog → ck
noncomputable section
namespace Go.Proofs
open Go Go.Lm Go.RowKit
set_option maxRecDepth 1000000
structure Ws (A1 A2 A3:Value->Atom) (T:List Int) (s:BS):Prop where
 i:WB A1 T s.RI s.fI
 l:WB A2 T s.RL s.fL
 x:WB A3 T s.RX s.fX
structure Hr (L:List bx) (ids:List Int) (F:List (Int×eH.den)) (s t:BS) (e:Nat) (p:List ByteArray) (d:Nat):Prop where
 ok:DN L ids F t e
 le:BS.Le s t
 cov:∀ y∈L,pre p y->d<=y.1.length->∃ r,Kk.get .int t.Mr y.2.1=some r
 new:∀ i r,Kk.get .int t.Mr i=some r->Kk.get .int s.Mr i=some r\/∃ y∈L,y.2.1=i/\pre p y/\d<=y.1.length
def jW (n:Nat):Ct
 | [.v (.c (.p 0 0)),.v (.c (.k (.int .i64 k)))],[.cells 120 [.p 1 0,.p 2 0,.p 3 0,.d (.pair (.sl .str) (.pair (.int .i64) (.pair (.int .i64) (.pair (.pair (.int .i64) (.pair (.int .i64) (.pair (.int .i64) .unit))) (.pair (.sl .u8) (.pair .str (.pair (.sl (.pair .str (.pair (.sl .u8) .unit))) (.pair .bool .unit)))))))) L,.d (.int .i64) ids,.m 4,.m 5,.m 6],.abs A1,.abs A2,.abs A3,.map 3 .int (.int .i64) Mr,.map 3 .int (.pair (.int .i64) (.pair (.int .i64) (.pair (.int .i64) (.pair (.int .i64) (.pair (.int .i64) (.pair (.int .i64) (.pair (.int .i64) (.pair (.int .i64) (.pair (.int .i64) (.pair (.int .i64) (.pair .str .unit))))))))))) F,.map 9 .str (.int .i64) Ms],Q=>rV L ids F/\(0<=k/\k< (L.length:Int)/\17<=(aB noTy L k).1.length+n)/\∃ T s,Ws A1 A2 A3 T s/\Mr=s.Mr/\Ms=s.Ms/\s.Ms.length<=s.Mr.length/\DN L ids F s 0/\∀ A1' A2' A3' t r,Ws A1' A2' A3' T t->t.Ms.length<=t.Mr.length->Hr L ids F s t 0 (aB noTy L k).1 (aB noTy L k).1.length->Kk.get .int t.Mr (aB noTy L k).2.1=some r->Q (.c (.k (.int .i64 r))) [.cells 120 [.p 1 0,.p 2 0,.p 3 0,.d noTy L,.d (.int .i64) ids,.m 4,.m 5,.m 6],.abs A1',.abs A2',.abs A3',.map 3 .int (.int .i64) t.Mr,.map 3 .int eH F,.map 9 .str (.int .i64) t.Ms]
 | _,_,_=>False
def JH (n:Nat):Ct
 | [.v (.c (.p 0 0)),.v (.agg cx)],[.cells 120 [.p 1 0,.p 2 0,.p 3 0,.d (.pair (.sl .str) (.pair (.int .i64) (.pair (.int .i64) (.pair (.pair (.int .i64) (.pair (.int .i64) (.pair (.int .i64) .unit))) (.pair (.sl .u8) (.pair .str (.pair (.sl (.pair .str (.pair (.sl .u8) .unit))) (.pair .bool .unit)))))))) L,.d (.int .i64) ids,.m 4,.m 5,.m 6],.abs A1,.abs A2,.abs A3,.map 3 .int (.int .i64) Mr,.map 3 .int (.pair (.int .i64) (.pair (.int .i64) (.pair (.int .i64) (.pair (.int .i64) (.pair (.int .i64) (.pair (.int .i64) (.pair (.int .i64) (.pair (.int .i64) (.pair (.int .i64) (.pair (.int .i64) (.pair .str .unit))))))))))) F,.map 9 .str (.int .i64) Ms],Q=>(match (noTy).of cx with
  | some (x,[])=>rV L ids F/\(x∈L/\x.2.2.1=1/\16<=x.1.length+n)/\∃ T s,Ws A1 A2 A3 T s/\Mr=s.Mr/\Ms=s.Ms/\s.Ms.length<=s.Mr.length/\DN L ids F s 0/\∀ A1' A2' A3' t r es,Ws A1' A2' A3' T t->t.Ms.length<=t.Mr.length->Hr L ids F s t 1 x.1 (x.1.length+1)->hU ⟨#[]⟩ es->agS L t.Mr x.1.length (bX x.1 L 0) es->Has t.fL t.RL r (gR es)->(0<=r/\r<=4294967295)->(gR es).length<=10440->Q (.cZ [.c (.k (.int .i64 r)),.c (.k (.int .i64 (gR es).length))]) [.cells 120 [.p 1 0,.p 2 0,.p 3 0,.d noTy L,.d (.int .i64) ids,.m 4,.m 5,.m 6],.abs A1',.abs A2',.abs A3',.map 3 .int (.int .i64) t.Mr,.map 3 .int eH F,.map 9 .str (.int .i64) t.Ms]
  | _=>False)
 | _,_,_=>False
def abA (n:Nat):Vx:= {P:=ck,ct:=[(51,(jW n)),(129,Z5),(130,N1),(54,AV)],ty:=pw,hold:=[130]}
theorem We (n:Nat) (hn:cM 51 (jW n)):iG Inv ck (abA n).ct:=iG.cons hn (iG.cons ahf (iG.cons Ky (iG.cons wa (iG.nil _ _))))
abbrev Ce (y0:List (Int×Int)) (y1) (y2:List (ByteArray×Int)) (y3) (y4:List bx) (y5:List Int) (y6:List (Int×eH.den)) (y7) (R:Prop):=y0=y1/\y2=y3/\List.length y3<=List.length y1/\DN y4 y5 y6 y7 bC/\R
def Lr:Nat->((noTy).den)->(List bx)->(List Int)->(Value->Atom)->(Value->Atom)->(Value->Atom)->(List (Int×Int))->(List (Int×eH.den))->(List (ByteArray×Int))->dE:=
 λn x L ids A1 A2 A3 Mr F Ms Q=>fU x.1 (cU x.2.1 x.2.2.1 x.2.2.2.1.1 (cn x.2.2.2.1.2.1 x.2.2.2.1.2.2.1 (aN (bQ x.2.2.2.2.1)->dC x.2.2.2.2.2.1 (aN (bQ x.2.2.2.2.2.2.1)->(List.length L<=1100/\List.length x.1<= 
 1000/\List.Pairwise (λa b=>cmpL a.1 b.1< 0) L)/\(aN (List.length (bX x.1 L ah))->aN (List.length (bX x.1 L ah))->ba (λi ag=>br (decide (i.1.1< (a6 (bX x.1 L ah)))) (0<=i.1.1/\i.1.1< (a6 
 (bX x.1 L ah))/\(Ty.ok bw (aB bw (bX x.1 L ah) i.1.1)->0<=aB bw (bX x.1 L ah) i.1.1/\aB bw (bX x.1 L ah) i.1.1< (a6 i.2.1.2.2.2.1)/\(Ty.ok noTy (aB noTy i.2.1.2.2.2.1 (aB bw (bX x.1 L 
 ah) i.1.1))->aN (bQ x.1)->ah<=(a6 x.1)/\(a6 x.1)< (↑(List.length (aB noTy i.2.1.2.2.2.1 (aB bw (bX x.1 L ah) i.1.1)).1):Int)/\(Ty.ok Ty.str (aB Ty.str (aB noTy i.2.1.2.2.2.1 (aB bw (bX x.1 L ah) 
 i.1.1)).1 (a6 x.1))->rV i.2.1.2.2.2.1 i.2.1.2.2.2.2.1 i.2.2.2.2.2.2.1/\(0<=aB bw (bX x.1 L ah) i.1.1/\aB bw (bX x.1 L ah) i.1.1< (a6 i.2.1.2.2.2.1)/\17<=List.length (aB noTy i.2.1.2.2.2.1 (aB bw (bX 
 x.1 L ah) i.1.1)).1+n)/\∃ T s,Ws i.2.2.1 i.2.2.2.1 i.2.2.2.2.1 T s/\Ce i.2.2.2.2.2.1 s.Mr i.2.2.2.2.2.2.2.1 s.Ms i.2.1.2.2.2.1 i.2.1.2.2.2.2.1 i.2.2.2.2.2.2.1 s (∀ (A1' A2' A3':Value->Atom) (t:BS) (r:Int),Ws A1' A2' A3' 
 T t->List.length t.Ms<=List.length t.Mr->Hr i.2.1.2.2.2.1 i.2.1.2.2.2.2.1 i.2.2.2.2.2.2.1 s t bC (aB noTy i.2.1.2.2.2.1 (aB bw (bX x.1 L ah) i.1.1)).1 (List.length (aB noTy i.2.1.2.2.2.1 (aB bw (bX x.1 L ah) 
 i.1.1)).1)->Kk.get Kk.int t.Mr (aB noTy i.2.1.2.2.2.1 (aB bw (bX x.1 L ah) i.1.1)).2.1=some r->aI .i64 r->(List.length i.1.2.1+List.length [(aB Ty.str (aB noTy i.2.1.2.2.2.1 (aB bw (bX x.1 L ah) i.1.1)).1 
 (a6 x.1),(aB noTy i.2.1.2.2.2.1 (aB bw (bX x.1 L ah) i.1.1)).2.2.1,r,())])*32<=140737488355328/\List.length i.1.2.1+List.length [(aB Ty.str (aB noTy i.2.1.2.2.2.1 (aB bw (bX x.1 L ah) i.1.1)).1 (a6 x.1), 
 (aB noTy i.2.1.2.2.2.1 (aB bw (bX x.1 L ah) i.1.1)).2.2.1,r,())]<=9223372036854775807/\cG i.1.1 (ag ((i.1.1+1,i.1.2.1++ [(aB Ty.str (aB noTy i.2.1.2.2.2.1 (aB bw (bX x.1 L ah) i.1.1)).1 (a6 x.1),(aB 
 noTy i.2.1.2.2.2.1 (aB bw (bX x.1 L ah) i.1.1)).2.2.1,r,())],()),((),(),(),i.2.1.2.2.2.1,i.2.1.2.2.2.2.1,(),(),(),()),A1',A2',A3',t.Mr,i.2.2.2.2.2.2.1,t.Ms,()))))))) ((hU ⟨#[]⟩ i.1.2.1/\List.length i.1.2.1 
 <=1024)/\(aN (List.length (gR i.1.2.1))->aI .i64 0->∃ T R fs,WB i.2.2.2.1 T R fs/\List.length R+List.length (gR i.1.2.1)<=10000000/\∀ (A':Value->Atom) (r:Nat) (fs':List (List UInt8)),WB A' T (R++gR i.1.2.1) (fs 
 ++fs')->(∀ (gs:List (List UInt8)),r=dV (fs++gs) (bQ R))->aI .i64 (↑r:Int)->aN (List.length (gR i.1.2.1))->Q (.cZ [.c (.k (.int .i64 (↑r:Int))),.c (.k (.int .i64 (a6 (gR i.1.2.1))))]) [wL i.2.1.2.2.2.1 
 i.2.1.2.2.2.2.1,HO.abs i.2.2.1,HO.abs A',HO.abs i.2.2.2.2.1,wJ i.2.2.2.2.2.1,wK i.2.2.2.2.2.2.1,kY i.2.2.2.2.2.2.2.1]))) ((ah,[],()),((),(),(),L,ids,(),(),(),()),A1,A2,A3,Mr,F,Ms,()))))))
theorem Uv (n:Nat) (hn:cM 51 (jW n)):cM 80 (JH n):=by
 intro args H Q h;unfold JH at h;split at h;rotate_left;cases h;rename_i cx L ids A1 A2 A3 Mr F Ms;split at h;rotate_left;cases h;rename_i x hx;refine Wp.said (args':=[.v (.c (.p 0 0)),.v (.agg (Ty.cells noTy x))]) (λE g=>bE.dd (λ_ h=>h) (bE.dd (IM hx) (λ_ h=>h))) ?_;clear hx;refine Wp.Qe (X:=(abA n)) (We n hn) ⟨[(4,⟨[(20,.int .i64),(6,.own 44 cR)],[(0,.cells 120 [.p 1 0,.p 2 0,.p 3 0,.d noTy,.d (.int .i64),.m 4,.m 5,.m 6]),(1,.abs),(2,.abs),(3,.abs),(4,.map 3 .int (.int .i64)),(5,.map 3 .int eH),(6,.map 9 .str (.int .i64))]⟩)],[]⟩ (fn:=Tryz.f80) (V:=Lr n x L ids A1 A2 A3 Mr F Ms) (by kernel_rfl) (λ_=>by kernel_rfl) ?_;unfold Lr Ce dC cn cG fU bQ cU ah a6 aN bC wL wK wJ kY bw;obtain ⟨hT,⟨hx,hxk,hn⟩,T,s,hW,rfl,rfl,hM,hB,h⟩:=h;have hl:=hT.len;have hd:=hT.deep x hx;refine λ_ _ _ _ _ _ _ _ _=>⟨⟨by omega,by omega,hT.ord⟩,λ_ _=>?_⟩;have hKl:=jh x.1 (L:=L) (k:=0);have hKm:∀ k∈bX x.1 L 0,0<=k/\k< (L.length:Int)/\(aB noTy L k).1.length=x.1.length+1/\pre x.1 (aB noTy L k):=λk q=>eY q;have hKo:=nV x.1 (L:=L) (k:=0);have hKe:∀ {t:BS} {es:List cR.den},DN L ids F t 0->fH L t.Mr x.1.length (bX x.1 L 0) es->hU ⟨#[]⟩ es:=λq1 q2=>GM hT (λi r q=>(q1.refs i r q).1) q2 (λk q=>q) hKo λk q=>by
  obtain ⟨k0,k1,k2,k3⟩:=hKm k q;refine ac6 (hT.nm _ (rO (e:=noTy) k0 k1) _ (Eq.mpr (congrArg (λl:List ByteArray=>(aB noTy L k).1.getD x.1.length ⟨#[]⟩∈l) (nQ k2 k3)) ?_));exact ja _ aS
 have hKb:∀ y∈L,pre x.1 y->x.1.length+1<=y.1.length->∃ k∈bX x.1 L 0,pre (aB noTy L k).1 y:=λy q1 q2 q3=>um hT (y.1.length - (x.1.length+1)) q1 q2 (by omega);generalize bX x.1 L 0=K at*;refine ba.intro (λi=>∃ (j:Nat) (t:BS) (B1 B2 B3:Value->Atom),j<=K.length/\i.1.1=(j:Int)/\fH L t.Mr x.1.length (K.take j) i.1.2.1/\i.2=(((),(),(),L,ids,(),(),(),()),B1,B2,B3,t.Mr,F,t.Ms,())/\Ws B1 B2 B3 T t/\t.Ms.length<=t.Mr.length/\DN L ids F t 0/\BS.Le s t/\(∀ k∈K.take j,∀ y∈L,pre (aB noTy L k).1 y->∃ r,Kk.get .int t.Mr y.2.1=some r)/\∀ i r,Kk.get .int t.Mr i=some r->Kk.get .int s.Mr i=some r\/∃ y∈L,y.2.1=i/\pre x.1 y/\x.1.length+1<=y.1.length) (λi=>K.length - i.1.1.toNat) ⟨0,s,A1,A2,A3,cr _,rfl,trivial,rfl,hW,hM,hB,.refl s,by simp,λi r q=>.inl q⟩ ?_;rintro ⟨⟨i,es,_⟩,o⟩ ⟨j,t,B1,B2,B3,hj,h1,h2,h3,h4,h5,h6,h7,h8,h9⟩;simp only at h1 h2 h3 ⊢;subst h1 h3;dsimp only;have S6:=h2.len;rw [aD,eP hj] at S6;refine aw (λhc=>?_) (λhc=>?_)
 .have uz:(j:Int)< K.length:=of_decide_eq_true hc;have uL:j< K.length:=by omega
  have ht:K.take (j+1)=K.take j++ [K[j]]:=bZ uL;have ek:aB (.int .i64) K (j:Int)=K[j]:=iI (e:=.int .i64) uL;have hkm:=hKm _ (df uL);rw [ek];generalize K[j]=k at*;obtain ⟨k0,k1,kl,kp⟩:=hkm;refine ⟨by omega,uz,λ_=>⟨k0,k1,λ_ _=>⟨by omega,by omega,λ_=>⟨hT,⟨k0,k1,by omega⟩,T,t,h4,rfl,rfl,h5,h6,λC1 C2 C3 u r hW' hM' hP hr _=>⟨by simp only [ay];omega,by simp only [ay];omega,by unfold aI;omega,⟨j+1,u,C1,C2,C3,uL,by omega,?_,rfl,hW',hM',hP.ok,h7.trans hP.le,?_,?_⟩,by omega⟩⟩⟩⟩⟩
  .rw [ht];refine fH.snoc (h2.le hP.le.Mr) ⟨?_,rfl,hr,trivial⟩;show aB .str _ _=_;unfold aB;rw [bm];rfl
  .rw [ht];intro k' vY y hy Zb;rcases aY.1 vY with q| q
   .obtain ⟨r',q'⟩:=h8 k' q y hy Zb;exact ⟨r',hP.le.Mr _ _ q'⟩
   .obtain rfl:=aR.1 q;exact hP.cov y hy Zb (AN Zb)
  .intro i' r' q;rcases hP.new i' r' q with q| ⟨y,q1,q2,q3,q4⟩
   .exact h9 i' r' q
   .exact .inr ⟨y,q1,q2,Gf (by omega) kp q3,by omega⟩
 .have hc:=of_decide_eq_false hc;obtain rfl:j=K.length:=by omega
  rw [ff] at h2 h8;have aiv:=hKe h6 h2;have hen:=xm aiv;have hBl:=h6.len;have hlL:=h6.lL;refine ⟨⟨aiv,by omega⟩,λ_ _=>⟨T,t.RL,t.fL,h4.l,by omega,λA' r fs' hW' hr _ _=>?_⟩⟩;obtain ⟨x',y',e',hT',hm⟩:=h4.l;have hrl:=sd hm;have M3:=hr [];rw [a7] at M3;have hle:=BS.SC t (gR es) fs';exact h B1 A' B3 {t with RL:=t.RL++gR es,fL:=t.fL++fs'} r es ⟨h4.i,hW',h4.x⟩ h5 ⟨h6.list _ _ (by omega),h7.trans hle,λy q1 q2 q3=>(hKb y q1 q2 q3).elim λk q=>h8 k q.1 y q1 q.2,h9⟩ aiv ⟨h2⟩ (Has.new hr) ⟨by omega,by omega⟩ (by omega)
def abz (n:Nat):Vx:= {P:=ck,ct:=[(80,(JH n)),(51,(jW n)),(82,afQ),(83,TM),(81,Tx),(84,JG),(54,AV)],ty:=pw,hold:=[]}
theorem Wd (n:Nat) (hn:cM 51 (jW n)):iG Inv ck (abz n).ct:=iG.cons (Uv n hn) (iG.cons hn (iG.cons akF (iG.cons acO (iG.cons acC (iG.cons wb (iG.cons wa (iG.nil _ _)))))))
abbrev Cy (y0:List (Int×eH.den)) (y1:List bx) (y2:Int):=gl (Kk.get Kk.int y0 (aB noTy y1 y2).2.1) (ah,ah,ah,ah,ah,ah,ah,ah,ah,ah,ByteArray.mk #[],())
abbrev H9 (y0:List bx) (y1:Int) (y2:Int) (y3:Int) (y4:Int) (y5:List (Int×eH.den)):=((aB noTy y0 y1).2.2.1,(aB noTy y0 y1).2.2.2.1.1,y2,y3,(↑(qd y0 (aB noTy y0 y1).2.1):Int),y4,(Cy y5 y0 y1).2.2.2.2.2.2.1,(Cy y5 y0 y1).2.2.2.2.2.2.2.1,(Cy y5 y0 y1).2.2.2.2.2.2.2.2.1,(Cy y5 y0 y1).2.2.2.2.2.2.2.2.2.1,(aB noTy y0 y1).2.2.2.2.2.1,())
abbrev wI {A5:Type} (y0:List bx) (y1:Int) (y2:Int) (y3:Int) (y4:Int) (y5:A5) (y6:List (Ty.den cR)) (y7:List (Int×eH.den)):=((aB noTy y0 y1).2.2.1,(aB noTy y0 y1).2.2.2.1.1,y2,y3,(↑(qd y0 (aB noTy y0 y1).2.1):Int),y4,y5,(a6 (gR y6)),(Cy y7 y0 y1).2.2.2.2.2.2.2.2.1,(Cy y7 y0 y1).2.2.2.2.2.2.2.2.2.1,(aB noTy y0 y1).2.2.2.2.2.1,())
abbrev Mp (y0:Int) (y1:List Int) (y2:List bx) (y3:Int) (R:Prop):=0<=y0->y0< (aF y1)->y1[aA y0]?=some (aB noTy y2 y3).2.2.2.1.2.1->aI .i64 y0->List.Pairwise (λa b=>a< b) y1/\List.length y1<=100000/\ajZ y1 (aB noTy y2 y3).2.2.2.1.2.2.1/\R
abbrev Mn (y0:List bx) (y1:Int) (y2:List Int) (R:Prop):=aI .i64 (↑(qd y0 (aB noTy y0 y1).2.1):Int)->List.Pairwise (λa b=>a< b) y2/\List.length y2<=100000/\ajZ y2 (aB noTy y0 y1).2.2.2.1.2.1/\R
abbrev Mm (y0:Int) (y1:List Int) (y2:List bx) (y3:Int) (R:Prop):=0<=y0->y0< (aF y1)->y1[aA y0]?=some (aB noTy y2 y3).2.2.2.1.2.2.1->aI .i64 y0->dI (aB noTy y2 y3).2.2.2.2.2.2.1=true/\R
abbrev Mk (y0:Value->Atom) (y1) (y2:List UInt8) (y3:List (List UInt8)) (y4) (y5) (y6:List (ByteArray×Int)) (y7:List (ByteArray×Int)) (R:Prop):=WB y0 y1 y2 y3->(∃ c,y2=y4++c/\List.length c<=4100)->(∃ c,y3=y5++c)->pj y3 y2 y6->List.length y6<=List.length y7+1->R
abbrev Pk (y0:List bx) (y1) (y2:Int) (y3:List (Ty.den cR)) (y4) (y5) (y6) (R:Prop):=agS y0 y1 (List.length (aB noTy y0 y2).1) (bX (aB noTy y0 y2).1 y0 ah) y3->Has y4 y5 y6 (gR y3)->0<=y6/\y6<=4294967295->List.length (gR y3)<=10440->aI .i64 y6->aI .i64 (a6 (gR y3))->(0<=y2/\y2< (aF y0))/\List.length y0<=1100/\R
abbrev Cr (y0:Value->Atom) (y1) (y2) (y3) (y4:List (ByteArray×Int)) (R:Prop):=WB y0 y1 y2 y3/\pj y3 y2 y4/\List.length y2<=1000000/\List.length y4<=100000/\R
abbrev Cm (y0:Nat):SV:=.v (.c (.k (.int .i64 (↑y0:Int))))
abbrev O9 (y0:List bx) (y1:Int) (y2:Nat):=List.Mem (gQ y0 y1) y0/\(gQ y0 y1).2.2.1=(1:Ty.den bw)/\16<=List.length (gQ y0 y1).1+y2
abbrev Ck (y0:List (Int×Int)) (y1:List bx) (y2:Int) (y3:Nat):=Kk.put Kk.int y0 (gQ y1 y2).2.1 (↑y3:Int)
abbrev Ci (y0:List (List UInt8)) (y1:List UInt8) (y2:Int) (y3:List bx) (y4:Int) (R:Prop):=V9 y0 y1 y2 (gQ y3 y4).2.2.2.2.2.2.1->aI .i64 y2->R
def FA (n:Nat) (k:Int) (L:List bx) (ids:List Int) (A1 A2 A3:Value->Atom) (Mr:(List (Int×Int))) (F:(List (Int×eH.den))) (Ms:(List (ByteArray×Int))):dE:=λQ=>aI .i64 k->0<=k/\k< (aF L)/\(Ty.ok noTy (gQ L k)->Ty.ok bw (gl (Kk.get Kk.int Mr (gQ L k).2.1) ah)->br (Option.isSome (Kk.get Kk.int Mr (gQ L k).2.1)) (Q (.v (.c (.k 
 (.int .i64 (gl (Kk.get Kk.int Mr (gQ L k).2.1) ah))))) [wL L ids,HO.abs A1,HO.abs A2,HO.abs A3,wJ Mr,wK F,kY Ms]) ((Ty.ok eH (Cy F L k)->br ((gQ L k).2.2.1==1) (rV L ids F/\(O9 L k n)/\∃ T s, 
 Ws A1 A2 A3 T s/\Ce Mr s.Mr Ms s.Ms L ids F s (∀ (A1' A2' A3':Value->Atom) (t:BS) (r:Int) (es:List (Ty.den cR)),Ws A1' A2' A3' T t->List.length t.Ms<=List.length t.Mr->Hr L ids F s t bJ (gQ L k).1 (List.length 
 (gQ L k).1+1)->hU ⟨#[]⟩ es->Pk L t.Mr k es t.fL t.RL r (Mn L k ids (∀ (i:Int),Mp i ids L k (∀ (cu:Int),Mm cu ids L k (∃ T RX fX,Cr A3' T RX fX t.Ms (∀ (A3':Value->Atom) (AF:List UInt8) (AD:List 
 (List UInt8)) (zu:List (ByteArray×Int)) (xa:Int),Mk A3' T AF AD RX fX zu t.Ms (Ci AD AF xa L k (oX (wI L k i cu xa r es F)/\(List.length (fM (wI L k i cu xa r es F))<=9223372036854775807->aI .i64 0->∃ T 
 R fs,WB A1' T R fs/\List.length R+List.length (fM (wI L k i cu xa r es F))<=10000000/\∀ (A':Value->Atom) (r_1:Nat) (fs':List (List UInt8)),WB A' T (R++fM (wI L k i cu xa r es F)) (fs++fs')->(∀ (gs:List 
 (List UInt8)),r_1=dV (fs++gs) (bQ R))->aI .i64 (↑r_1:Int)->l9 t.Mr (Q (Cm r_1) [wL L ids,HO.abs A',HO.abs A2',HO.abs A3',wJ (Ck t.Mr L k r_1),wK F,kY zu]))))))))))) ((0<=k/\k< (aF L))/\ 
 List.length L<=1100/\(Mn L k ids (∀ (i:Int),Mp i ids L k (∀ (cu:Int),Mm cu ids L k (∃ T RX fX,Cr A3 T RX fX Ms (∀ (A3':Value->Atom) (AF:List UInt8) (AD:List (List UInt8)) (zu:List (ByteArray×Int)) (xa: 
 Int),Mk A3' T AF AD RX fX zu Ms (Ci AD AF xa L k (oX (H9 L k i cu xa F)/\(List.length (fM (H9 L k i cu xa F))<=9223372036854775807->aI .i64 0->∃ T R fs,WB A1 T R fs/\List.length R+List.length (fM (H9 L 
 k i cu xa F))<=10000000/\∀ (A':Value->Atom) (r:Nat) (fs':List (List UInt8)),WB A' T (R++fM (H9 L k i cu xa F)) (fs++fs')->(∀ (gs:List (List UInt8)),r=dV (fs++gs) (bQ R))->aI .i64 (↑r:Int)->List.length 
 Mr< 9223372036854775807/\Q (Cm r) [wL L ids,HO.abs A',HO.abs A2,HO.abs A3',wJ (Ck Mr L k r),wK F,kY zu]))))))))))/\(Ty.ok eH (Cy F L k)->br ((gQ L k).2.2.1==1) (rV L ids F/\(O9 L k n)/\∃ T s,Ws 
 A1 A2 A3 T s/\Ce Mr s.Mr Ms s.Ms L ids F s (∀ (A1' A2' A3':Value->Atom) (t:BS) (r:Int) (es:List (Ty.den cR)),Ws A1' A2' A3' T t->List.length t.Ms<=List.length t.Mr->Hr L ids F s t bJ (gQ L k).1 (List.length 
 (gQ L k).1+1)->hU ⟨#[]⟩ es->Pk L t.Mr k es t.fL t.RL r (Mn L k ids (∀ (i:Int),Mp i ids L k (∀ (cu:Int),Mm cu ids L k (∃ T RX fX,Cr A3' T RX fX t.Ms (∀ (A3':Value->Atom) (AF:List UInt8) (AD:List 
 (List UInt8)) (zu:List (ByteArray×Int)) (xa:Int),Mk A3' T AF AD RX fX zu t.Ms (Ci AD AF xa L k (oX (wI L k i cu xa r es F)/\(List.length (fM (wI L k i cu xa r es F))<=9223372036854775807->aI .i64 0->∃ T 
 R fs,WB A1' T R fs/\List.length R+List.length (fM (wI L k i cu xa r es F))<=10000000/\∀ (A':Value->Atom) (r_1:Nat) (fs':List (List UInt8)),WB A' T (R++fM (wI L k i cu xa r es F)) (fs++fs')->(∀ (gs:List 
 (List UInt8)),r_1=dV (fs++gs) (bQ R))->aI .i64 (↑r_1:Int)->l9 t.Mr (Q (Cm r_1) [wL L ids,HO.abs A',HO.abs A2',HO.abs A3',wJ (Ck t.Mr L k r_1),wK F,kY zu]))))))))))) ((0<=k/\k< (aF L))/\ 
 List.length L<=1100/\(Mn L k ids (∀ (i:Int),Mp i ids L k (∀ (cu:Int),Mm cu ids L k (∃ T RX fX,Cr A3 T RX fX Ms (∀ (A3':Value->Atom) (AF:List UInt8) (AD:List (List UInt8)) (zu:List (ByteArray×Int)) (xa: 
 Int),Mk A3' T AF AD RX fX zu Ms (Ci AD AF xa L k (oX (H9 L k i cu xa F)/\(List.length (fM (H9 L k i cu xa F))<=9223372036854775807->aI .i64 0->∃ T R fs,WB A1 T R fs/\List.length R+List.length (fM (H9 L 
 k i cu xa F))<=10000000/\∀ (A':Value->Atom) (r:Nat) (fs':List (List UInt8)),WB A' T (R++fM (H9 L k i cu xa F)) (fs++fs')->(∀ (gs:List (List UInt8)),r=dV (fs++gs) (bQ R))->aI .i64 (↑r:Int)->List.length 
 Mr< 9223372036854775807/\Q (Cm r) [wL L ids,HO.abs A',HO.abs A2,HO.abs A3',wJ (Ck Mr L k r),wK F,kY zu]))))))))))))
theorem OC (n:Nat) (hn:cM 51 (jW n)):∀ args H Q,jW (n+1) args H Q->Wp Inv ck 51 args H Q:=by
 intro args H Q h;unfold jW at h;split at h;rotate_left;cases h;rename_i k L ids A1 A2 A3 Mr F Ms;refine Wp.Qe (X:=(abz n)) (Wd n hn) ⟨[],[]⟩ (fn:=Tryz.f51) (V:=FA n k L ids A1 A2 A3 Mr F Ms) (by kernel_rfl) (λ_=>by kernel_rfl) ?_;unfold FA Ce Ci Ck O9 Cm gQ l9 Cr Pk Mk Mm Mn bQ Mp wI H9 Cy ah a6 aF bC bJ wL wK wJ kY bw;obtain ⟨hT,⟨k0,k1,kn⟩,T,s,hW,rfl,rfl,hM,hB,h⟩:=h;have hl:=hT.len;have hx:aB noTy L k∈L:=rO (e:=noTy) k0 k1;have hd:=hT.deep _ hx;have hm:=yO (hT.may _ hx);have hil:=hT.idl;have hBl:=hB.len;have hBI:=hB.lI;have hBX:=hB.lX;refine λ_=>⟨k0,k1,λ_ _=>aw (λhg=>?_) (λhg=>both λ_=>aw (λhk=>?_) (λhk=>?_))⟩
 .obtain ⟨v,hv⟩:∃ v:Int,Kk.get .int s.Mr (aB noTy L k).2.1=some v:=lT.1 hg;rw [hv,show (some v).getD 0=v from rfl];exact h A1 A2 A3 s v hW hM ⟨hB,.refl s,λy q1 q2 q3=>hB.cov hT (y.1.length - (aB noTy L k).1.length) hx ⟨_,hv⟩ q1 q2 (by omega),λi r q=>.inl q⟩ hv
 .have Vy:Kk.get .int s.Mr (aB noTy L k).2.1=none:=by simpa using hg
  have rU:(aB noTy L k).2.2.1=1:=eq_of_beq hk;have hnf:=hT.nofile _ hx (by rw [rU];decide);refine ⟨hT,⟨hx,rU,by omega⟩,T,s,hW,rfl,rfl,hM,hB,λA1' A2' A3' t r es hW' hM' hP hE hEm hHs ali hEl _ _=>?_⟩;have hBl:=hP.ok.len;have hBI:=hP.ok.lI;have hBX:=hP.ok.lX;have kJ:Kk.get .int t.Mr (aB noTy L k).2.1=none:=by
   rw [Option.eq_none_iff_forall_not_mem];intro v hv;rcases hP.new _ _ hv with q| ⟨y,q1,q2,q3,q4⟩;rw [Vy] at q;cases q
   .have:=(hT.one _ hx y q1 q2.symm).1 rU;rw [<-this] at q4;omega
  obtain ⟨⟨iu',hu'⟩,⟨ig',hg'⟩⟩:=hT.uid _ hx;refine ⟨⟨k0,k1⟩,by omega,λ_=>⟨hT.J1,by omega,⟨⟨_,hu'⟩⟩,λiu iu0 _ iu2 _=>⟨hT.J1,by omega,⟨⟨_,hg'⟩⟩,λig ig0 _ ig2 _=>⟨hm.xa,T,t.RX,t.fX,hW'.x,hP.ok.ac3,by omega,by omega,λA3' AF AD zu xa hX1 hX2 hX3 hX4 hX5 hX6 _=>?_⟩⟩⟩⟩;have hN:=YE hT hx rU (s:= {t with RX:=AF,fX:=AD,Ms:=zu}) iu0 iu2 ig0 ig2 hX6 hE hEm.ok hHs ali hEl;rw [hnf];dsimp only [gl];have hrl:=HZ hN.ok;refine ⟨hN.ok,λ_ _=>⟨T,t.RI,t.fI,hW'.i,by omega,λA' r1 fs' hW2 vX _=>⟨by omega,?_⟩⟩⟩;obtain ⟨x1,x2,_,_,hmw⟩:=hW'.i;have hq:=sd hmw;have M3:=vX [];rw [a7] at M3;obtain ⟨hBu,hLu⟩:=hP.ok.put (by omega) k0 k1 kJ hX2 hX3 hX4 (fs:=fs') vX (by omega) (λo=>B7 hmw) hN;have J3:(Kk.put .int t.Mr (aB noTy L k).2.1 (r1:Int):List (Int×Int)).length=t.Mr.length+1:=pD kJ;have uJ:Kk.get .int (Kk.put .int t.Mr (aB noTy L k).2.1 (r1:Int):List (Int×Int)) (aB noTy L k).2.1=some (r1:Int):=gp (k:=.int);exact h A' A2' A3' (t.put (aB noTy L k).2.1 r1 _ fs' AF AD zu) r1 ⟨hW2,hW'.l,hX1⟩ (by show zu.length<=(Kk.put .int t.Mr (aB noTy L k).2.1 (r1:Int):List (Int×Int)).length;rw [J3];omega) ⟨hBu,hP.le.trans hLu,λy q1 q2 q3=>hBu.cov hT (y.1.length - (aB noTy L k).1.length) hx ⟨_,uJ⟩ q1 q2 (by omega),λi r q=>by
   by_cases hi:i=(aB noTy L k).2.1;exact .inr ⟨_,hx,hi.symm,sO _,az _⟩
   .have q:Kk.get .int (Kk.put .int t.Mr (aB noTy L k).2.1 (r1:Int):List (Int×Int)) i=some r:=q;rw [jR (k:=.int) hi] at q;exact (hP.new i r q).imp_right λ⟨y,q1,q2,q3,q4⟩=>⟨y,q1,q2,q3,by omega⟩⟩ uJ
 .have Vy:Kk.get .int s.Mr (aB noTy L k).2.1=none:=by simpa using hg
  rcases hm.or with ⟨q,_⟩| ⟨qS,_⟩| ⟨hk3,_⟩;rw [q] at hk;cases hk
  .obtain ⟨st,fr,off,hF1,hF2⟩:=hT.file _ hx qS;obtain ⟨⟨iu',hu'⟩,⟨ig',hg'⟩⟩:=hT.uid _ hx;refine ⟨⟨k0,k1⟩,by omega,λ_=>⟨hT.J1,by omega,⟨⟨_,hu'⟩⟩,λiu iu0 _ iu2 _=>⟨hT.J1,by omega,⟨⟨_,hg'⟩⟩,λig ig0 _ ig2 _=>⟨hm.xa,T,s.RX,s.fX,hW.x,hB.ac3,by omega,by omega,λA3' AF AD zu xa hX1 hX2 hX3 hX4 hX5 hX6 _=>?_⟩⟩⟩⟩;have hN:=Ve hT hx qS (s:= {s with RX:=AF,fX:=AD,Ms:=zu}) iu0 iu2 ig0 ig2 hX6 hF1 hF2;rw [hF1];dsimp only [gl];have hrl:=HZ hN.ok;refine ⟨hN.ok,λ_ _=>⟨T,s.RI,s.fI,hW.i,by omega,λA' r1 fs' hW2 vX _=>⟨by omega,?_⟩⟩⟩;obtain ⟨x1,x2,_,_,hmw⟩:=hW.i;have hq:=sd hmw;have M3:=vX [];rw [a7] at M3;obtain ⟨hBu,hLu⟩:=hB.put (by omega) k0 k1 Vy hX2 hX3 hX4 (fs:=fs') vX (by omega) (λo=>B7 hmw) hN;have J3:(Kk.put .int s.Mr (aB noTy L k).2.1 (r1:Int):List (Int×Int)).length=s.Mr.length+1:=pD Vy;have uJ:Kk.get .int (Kk.put .int s.Mr (aB noTy L k).2.1 (r1:Int):List (Int×Int)) (aB noTy L k).2.1=some (r1:Int):=gp (k:=.int);exact h A' A2 A3' (s.put (aB noTy L k).2.1 r1 _ fs' AF AD zu) r1 ⟨hW2,hW.l,hX1⟩ (by show zu.length<=(Kk.put .int s.Mr (aB noTy L k).2.1 (r1:Int):List (Int×Int)).length;rw [J3];omega) ⟨hBu,hLu,λy q1 q2 q3=>hBu.cov hT (y.1.length - (aB noTy L k).1.length) hx ⟨_,uJ⟩ q1 q2 (by omega),λi r q=>by
    by_cases hi:i=(aB noTy L k).2.1;exact .inr ⟨_,hx,hi.symm,sO _,az _⟩
    .have q:Kk.get .int (Kk.put .int s.Mr (aB noTy L k).2.1 (r1:Int):List (Int×Int)) i=some r:=q;rw [jR (k:=.int) hi] at q;exact .inl q⟩ uJ
  .have hnf:=hT.nofile _ hx (by rw [hk3];decide);obtain ⟨⟨iu',hu'⟩,⟨ig',hg'⟩⟩:=hT.uid _ hx;refine ⟨⟨k0,k1⟩,by omega,λ_=>⟨hT.J1,by omega,⟨⟨_,hu'⟩⟩,λiu iu0 _ iu2 _=>⟨hT.J1,by omega,⟨⟨_,hg'⟩⟩,λig ig0 _ ig2 _=>⟨hm.xa,T,s.RX,s.fX,hW.x,hB.ac3,by omega,by omega,λA3' AF AD zu xa hX1 hX2 hX3 hX4 hX5 hX6 _=>?_⟩⟩⟩⟩;have hN:=Vd hT hx hk3 (s:= {s with RX:=AF,fX:=AD,Ms:=zu}) iu0 iu2 ig0 ig2 hX6;rw [hnf];dsimp only [gl];have hrl:=HZ hN.ok;refine ⟨hN.ok,λ_ _=>⟨T,s.RI,s.fI,hW.i,by omega,λA' r1 fs' hW2 vX _=>⟨by omega,?_⟩⟩⟩;obtain ⟨x1,x2,_,_,hmw⟩:=hW.i;have hq:=sd hmw;have M3:=vX [];rw [a7] at M3;obtain ⟨hBu,hLu⟩:=hB.put (by omega) k0 k1 Vy hX2 hX3 hX4 (fs:=fs') vX (by omega) (λo=>B7 hmw) hN;have J3:(Kk.put .int s.Mr (aB noTy L k).2.1 (r1:Int):List (Int×Int)).length=s.Mr.length+1:=pD Vy;have uJ:Kk.get .int (Kk.put .int s.Mr (aB noTy L k).2.1 (r1:Int):List (Int×Int)) (aB noTy L k).2.1=some (r1:Int):=gp (k:=.int);exact h A' A2 A3' (s.put (aB noTy L k).2.1 r1 _ fs' AF AD zu) r1 ⟨hW2,hW.l,hX1⟩ (by show zu.length<=(Kk.put .int s.Mr (aB noTy L k).2.1 (r1:Int):List (Int×Int)).length;rw [J3];omega) ⟨hBu,hLu,λy q1 q2 q3=>hBu.cov hT (y.1.length - (aB noTy L k).1.length) hx ⟨_,uJ⟩ q1 q2 (by omega),λi r q=>by
    by_cases hi:i=(aB noTy L k).2.1;exact .inr ⟨_,hx,hi.symm,sO _,az _⟩
    .have q:Kk.get .int (Kk.put .int s.Mr (aB noTy L k).2.1 (r1:Int):List (Int×Int)) i=some r:=q;rw [jR (k:=.int) hi] at q;exact .inl q⟩ uJ
theorem KA:∀ (n:Nat) args H Q,jW n args H Q->Wp Inv ck 51 args H Q
 | 0=>by
  intro args H Q h;unfold jW at h;split at h
  .obtain ⟨hT,⟨k0,k1,k2⟩,_⟩:=h;have:=hT.deep _ (rO (e:=noTy) k0 k1);omega
  .cases h
 | n+1=>OC n (KA n)
def VZ:Ct:=jW 17
theorem Uu:cM 51 VZ:=KA 17
end Go.Proofs

namespace Go.Lm
open Go
abbrev afJ (st sz fr off:Int):eH.den:=(0,0,0,0,0,0,st,sz,fr,off,⟨#[]⟩,())
structure aeX (T:List Int) (fi:Int) (b row:List UInt8) (bg:List Int) (F:List (Int×eH.den)) (x:bx):Prop where
 ex:∃ st fr off,Kk.get .int F x.2.1=some (afJ st x.2.2.2.2.1.length fr off)/\zq T fi b st x.2.2.2.2.1/\qp row bg fr off (x.2.2.2.2.1.drop (128*(x.2.2.2.2.1.length / 128)))
structure rT (R:List bx) (T:List Int) (fi:Int) (b row:List UInt8) (bg:List Int) (F:List (Int×eH.den)):Prop where
 file:∀ x∈R,x.2.2.1=2->aeX T fi b row bg F x
 no:∀ i r,Kk.get .int F i=some r->∃ x∈R,x.2.1=i/\x.2.2.1=2
 len:F.length<=R.length
variable {R:List bx} {T:List Int} {fi:Int} {b row:List UInt8} {bg:List Int} {F:List (Int×eH.den)}
theorem rT.nil:rT [] T fi b row bg []:=⟨λx h=>(by cases h),λi r h=>(by cases h),az _⟩
theorem aeX.app {x:bx} (h:aeX T fi b row bg F x) (c:List UInt8):aeX T fi (b++c) row bg F x:=by
 obtain ⟨st,fr,off,h1,h2,h3⟩:=h;exact ⟨st,fr,off,h1,h2.app c,h3⟩
theorem rT.app (h:rT R T fi b row bg F) (c:List UInt8):rT R T fi (b++c) row bg F:=⟨λx hx hk=>(h.file x hx hk).app c,h.no,h.len⟩
theorem rT.skip (h:rT R T fi b row bg F) {x:bx} (sY:∀ y∈R,y.2.1=x.2.1->y.2.2=x.2.2) (hx:x.2.2.1≠2\/Kk.get .int F x.2.1≠none):rT (R++ [x]) T fi b row bg F:=by
 refine ⟨λy hy hk=>?_,λi r q=>?_,by rw [af];have:=h.len;omega⟩
 .rcases aY.1 hy with hy| hy
  .exact h.file y hy hk
  .obtain rfl:=aR.1 hy;rcases hx with hx| hx
   .exact absurd hk hx
   .obtain ⟨r,hr⟩:=Option.ne_none_iff_exists'.1 hx;obtain ⟨z,hz,e,hzk⟩:=h.no _ _ hr;obtain ⟨st,fr,off,h1,h2,h3⟩:=h.file z hz hzk;have e2:=sY z hz e;rw [e] at h1;rw [e2] at h1 h2 h3;exact ⟨st,fr,off,h1,h2,h3⟩
 .obtain ⟨z,hz,q⟩:=h.no i r q;exact ⟨z,bH _ hz,q⟩
theorem rT.put (h:rT R T fi b row bg F) {x:bx} (hn:Kk.get .int F x.2.1=none) (hk:x.2.2.1=2) {b' lE:List UInt8} {zi:List Int} {st fr off:Int} (hb:∃ c,b'=b++c) (hS:zq T fi b' st x.2.2.2.2.1) (hT:qp lE zi fr off (x.2.2.2.2.1.drop (128*(x.2.2.2.2.1.length / 128)))) (hK:∀ nu off u,qp row bg nu off u->qp lE zi nu off u):rT (R++ [x]) T fi b' lE zi (Kk.put .int F x.2.1 (afJ st x.2.2.2.2.1.length fr off)):=by
 obtain ⟨c,rfl⟩:=hb;refine ⟨λy hy hyk=>?_,λi r q=>?_,?_⟩
 .rcases aY.1 hy with hy| hy
  .obtain ⟨st',fr',ahT,h1,h2,h3⟩:=h.file y hy hyk;refine ⟨st',fr',ahT,?_,h2.app c,hK _ _ _ h3⟩;rw [jR (k:=.int) (λe=>by rw [e,hn] at h1;cases h1)];exact h1
  .obtain rfl:=aR.1 hy;exact ⟨st,fr,off,gp (k:=.int),hS,hT⟩
 .by_cases hi:i=x.2.1
  .exact ⟨x,ja _ aS,hi.symm,hk⟩
  .rw [jR (k:=.int) hi] at q;obtain ⟨z,hz,q⟩:=h.no i r q;exact ⟨z,bH _ hz,q⟩
 .rw [pD (k:=.int) hn,af];have:=h.len;simp only [ay];omega
structure rG (T:List Int) (fi:Int) (b:List UInt8) (bs:List (List UInt8)) (pl:List Int):Prop where
 len:pl.length=bs.length
 ats:∀ (i:Nat) a x,pl[i]?=some a->bs[i]?=some x->∃ (o:Nat) (z r:List UInt8),a=fi+o/\DK T x z/\b.drop o=z++r/\o<=b.length
theorem rG.nil:rG T fi b [] []:=⟨rfl,λi a x h=>by simp at h⟩
theorem rG.step {bs:List (List UInt8)} {pl:List Int} (h:rG T fi b bs pl) {x z:List UInt8} (hz:DK T x z):rG T fi (b++z) (bs++ [x]) (pl++ [fi+b.length]):=by
 refine ⟨by simp [h.len],λi a y h1 h2=>?_⟩;rcases eQ i pl.length with hl| hl
 .rw [aU hl] at h1;rw [aU (by rw [<-h.len];exact hl)] at h2;obtain ⟨o,w,r,q1,q2,q3,q4⟩:=h.ats i a y h1 h2;exact ⟨o,w,r++z,q1,q2,by rw [dz q4,q3,aH],by rw [af];omega⟩
 .have eJ:=(av.1 h1).1;rw [af,ay] at eJ;obtain rfl:i=pl.length:=by omega
  rw [aZ (az _),pq] at h1;rw [h.len,aZ (az _),pq] at h2;obtain rfl:fi+b.length=a:=by simpa using h1
  obtain rfl:x=y:=by simpa using h2
  exact ⟨b.length,z,[],rfl,hz,by rw [fB,a7],by rw [af];omega⟩
end Go.Lm

namespace Go.Proofs
open Go Go.Lm Go.RowKit
set_option maxRecDepth 1000000
def Hh:Ct
 | [.v (.c (.p 0 0)),.v (.c (.p 7 0))],[.cells 120 [.p 1 0,.p 2 0,.p 3 0,.d (.pair (.sl .str) (.pair (.int .i64) (.pair (.int .i64) (.pair (.pair (.int .i64) (.pair (.int .i64) (.pair (.int .i64) .unit))) (.pair (.sl .u8) (.pair .str (.pair (.sl (.pair .str (.pair (.sl .u8) .unit))) (.pair .bool .unit)))))))) L,.d (.int .i64) ids,.m 4,.m 5,.m 6],.abs A1,.abs A2,.abs A3,.map 3 .int (.int .i64) Mr,.map 3 .int (.pair (.int .i64) (.pair (.int .i64) (.pair (.int .i64) (.pair (.int .i64) (.pair (.int .i64) (.pair (.int .i64) (.pair (.int .i64) (.pair (.int .i64) (.pair (.int .i64) (.pair (.int .i64) (.pair .str .unit))))))))))) F,.map 9 .str (.int .i64) Ms,.abs AW],Q=>(L.length<=40/\(∀ x∈L,x.2.2.2.2.1.length<=4096)/\(∀ x∈L,∀ y∈L,x.2.1=y.2.1->x.2.2=y.2.2)/\F.length=0)/\∃ T fi,AW=jX [.cells 157 [.de (.int .u32) T 0 0,.k (.int .i64 fi),.o 1,.m 2],.sl 5 .u8 [],.map 9 .str (.int .i64) []]/\T.length=256/\(0<=fi/\fi<=1000000)/\∀ F' b' M' row bg pl,rT L T fi b' row bg F'->A8 row bg->rG T fi b' (mL row bg bg.length) pl->b'.length<=180000->pl.length<=40->Q (.c (.d (.int .i64) pl)) [.cells 120 [.p 1 0,.p 2 0,.p 3 0,.d noTy L,.d (.int .i64) ids,.m 4,.m 5,.m 6],.abs A1,.abs A2,.abs A3,.map 3 .int (.int .i64) Mr,.map 3 .int eH F',.map 9 .str (.int .i64) Ms,.abs (jX [.cells 157 [.de (.int .u32) T 0 0,.k (.int .i64 fi),.o 1,.m 2],.sl 5 .u8 b',.map 9 .str (.int .i64) M'])]
 | _,_,_=>False
def ajQ:=((((jr.add Bd).add Kx).add Ku).add W6).add W5
abbrev Se (y0:List bx) (y1):=List.drop (jf*(List.length (aB noTy y0 y1).2.2.2.2.1 / jf)) (aB noTy y0 y1).2.2.2.2.1
abbrev afb (y0:List bx) (y1) (y2) (y3) (y4) (y5:_->Prop):=(List.length (aB noTy y0 y1).2.2.2.2.1<=9223372036854775807->∃ T fi b M,y2=jX [.cells 157 [Cl.de (.int .u32) T ah bC,.k (aE fi),.o 1,Cl.m bj],.sl 5 Ty.u8 b,kY M]/\((List.length T=bN/\List.length (aB noTy y0 y1).2.2.2.2.1<=4096/\DW fi b M)/\(0<=fi/\fi<=1000000)/\List.length b<=10000000/\List.length M<=100000)/\∀ (st:Int) (b':List UInt8) (M':List (ByteArray×Int)),DW fi b' M'->(∃ c,b'=b++c)->zq T fi b' st (aB noTy y0 y1).2.2.2.2.1->List.length b'<=List.length b+4320->List.length M'<=List.length M+1->aI .i64 st->aN (List.length (Se y0 y1))->∃ row bg,y3=jX [.cells 213 [.o 1,.o 2],.sl 5 Ty.u8 row,.sl 3 bw bg]/\(A8 row bg/\List.length row<=10000000/\List.length bg<=100000/\List.length (Se y0 y1)< 128)/\∀ (nu off:Int) (lE:List UInt8) (zi:List Int),A8 lE zi->qp lE zi nu off (Se y0 y1)->(∀ (nu off:Int) (u:List UInt8),qp row bg nu off u->qp lE zi nu off u)->List.length lE<=List.length row+128->List.length zi<=List.length bg+1->aI .i64 nu->aI .i64 off->List.length y4< 9223372036854775807/\aI .i64 (y1+1)/\y5 ((y1+1,()),Kk.put Kk.int y4 (aB noTy y0 y1).2.1 (ah,ah,ah,ah,ah,ah,st,(↑(List.length (aB noTy y0 y1).2.2.2.2.1):Int),nu,off,ByteArray.mk #[],()),jX [.cells 157 [Cl.de (.int .u32) T ah bC,.k (aE fi),.o 1,Cl.m bj],.sl 5 Ty.u8 b',kY M'],jX [.cells 213 [.o 1,.o 2],.sl 5 Ty.u8 lE,.sl 3 bw zi],()))
abbrev Pn (y0) (y1:List bx) (y2) (y3:_->Prop) (y4) (y5) (y6):=Ty.ok eH (Cy y0 y1 y2)->br (Option.isSome (Kk.get Kk.int y0 (aB noTy y1 y2).2.1)) (cG y2 (y3 ((y2+1,()),y4))) (br ((aB noTy y1 y2).2.2.1 !=2) (cG y2 (y3 ((y2+1,()),y4))) (afb y1 y2 y5 y6 y0 y3))
abbrev gg {A0:Type} (y0:List A0) (R:Prop):=List.length y0<=10000000/\R
abbrev sm (y0) (y1):=mL y0 y1 (bQ y1)
def BB (L:List bx) (ids:List Int) (A1 A2 A3:Value->Atom) (Mr:(List (Int×Int))) (F:(List (Int×eH.den))) (Ms:(List (ByteArray×Int))) (AW:Value->Atom):dE:=λQ=>List.length L<=9223372036854775807->ba (λi ag=>br (decide (i.1.1< (aF L))) (0<=i.1.1/\i.1.1< (aF L)/\(Ty.ok noTy (aB noTy L i.1.1)->(Pn i.2.1 L i.1.1 ag i.2 i.2.2.1 i.2.2.2.1)/\ 
 (Pn i.2.1 L i.1.1 ag i.2 i.2.2.1 i.2.2.2.1))) (∃ row bg,i.2.2.2.1=jX [.cells 213 [.o 1,.o 2],.sl 5 Ty.u8 row,.sl 3 bw bg]/\(A8 row bg/\gg row (List.length bg<=100000))/\(aN (List.length (sm row bg))->aN 
 (List.length (sm row bg))->ba (λcu ag=>br (decide (cu.1.1< (a6 (sm row bg)))) (0<=cu.1.1/\cu.1.1< (a6 (sm row bg))/\(Ty.ok bD (aB bD (sm row bg) cu.1.1)->∃ T fi b M,cu.2.1=jX [.cells 157 
 [Cl.de (.int .u32) T ah bC,.k (aE fi),.o 1,Cl.m bj],.sl 5 Ty.u8 b,kY M]/\eG T (List.length (aB bD (sm row bg) cu.1.1)<=128/\(0<=fi/\fi<=1000000)/\kg b (∀ (z:List UInt8),DK T (aB bD (sm row 
 bg) cu.1.1) z->aI .i64 (fi+(aF b))->(List.length cu.1.2.1+List.length [fi+(aF b)])*8<=cC/\List.length cu.1.2.1+List.length [fi+(aF b)]<=9223372036854775807/\cG cu.1.1 (ag ((cu.1.1+1,cu.1.2.1++ [fi+ 
 (aF b)],()),jX (List.map (λl=>HO.fw (iw [bC,eX,bj]) (lN [.cells 157 [Cl.de (.int .u32) T ah bC,.k (aE fi),.o 3,Cl.m bj],.gone,kY M,.sl 5 Ty.u8 (b++z)] l)) [bC,eX,bj]),())))))) (Q 
 (SV.v (S1.c (.o 8))) [wL L ids,HO.abs A1,HO.abs A2,HO.abs A3,wJ Mr,wK i.2.1,kY Ms,HO.abs cu.2.1,.sl 3 bw cu.1.2.1])) ((ah,[],()),i.2.2.1,())))) ((ah,()),F,AW,jX (List.map (λl=>HO.fw (iw [bC, 
 bJ,bj]) (lN [.cells 213 [.o 1,.o 2],.sl 5 Ty.u8 [],.sl 3 bw []] l)) [bC,bJ,bj]),())
theorem Uw:cM 50 Hh:=by
 intro args H Q h;unfold Hh at h;split at h;rotate_left;cases h;rename_i L ids A1 A2 A3 Mr F Ms AW;refine Wp.lY [some (.sl (.int .i64))] [8] ?_;refine Wp.dL ajQ pw ⟨[(4,⟨[(22,.int .i64)],[(5,.map 3 .int eH),(7,.abs),(8,.abs)]⟩),(16,⟨[(74,.int .i64),(13,.own 3 (.int .i64))],[(7,.abs)]⟩)],[]⟩ Tryz.f50 (BB L ids A1 A2 A3 Mr F Ms AW) ?_;unfold BB sm kg gg Pn cG eG afb Se bQ cC aE Cy ah a6 aF aN bC bJ jf bj bN eX wL wK wJ kY bD bw;obtain ⟨⟨hl,aos,sY,hF0⟩,T,fi,rfl,hT,⟨f0,f1⟩,h⟩:=h;obtain rfl:=aK hF0;clear hF0;refine λ_=>ba.intro (λi=>∃ (j:Nat) (b:List UInt8) (M:List (ByteArray×Int)) (row:List UInt8) (bg:List Int),j<=L.length/\i.1.1=(j:Int)/\i.2.2.1=jX [.cells 157 [.de (.int .u32) T 0 0,.k (.int .i64 fi),.o 1,.m 2],.sl 5 .u8 b,.map 9 .str (.int .i64) M]/\i.2.2.2.1=jX [.cells 213 [.o 1,.o 2],.sl 5 .u8 row,.sl 3 (.int .i64) bg]/\rT (L.take j) T fi b row bg i.2.1/\DW fi b M/\A8 row bg/\b.length<=4320*j/\M.length<=j/\row.length<=128*j/\bg.length<=j) (λi=>L.length - i.1.1.toNat) ⟨0,[],[],[],[],cr _,rfl,rfl,rfl,rT.nil,⟨λp hp=>by cases hp⟩,A8.nil,az _,az _,az _,az _⟩ ?_;rintro ⟨⟨i,_⟩,F,AW,AT,_⟩ ⟨j,b,M,row,bg,hj,h1,h2,h3,h4,h5,h6,h7,h8,h9,h10⟩;simp only at h1 h2 h3 h4 ⊢;subst h1 h2 h3
 try dsimp only
 refine aw (λhc=>?_) (λhc=>?_)
 .have uz:(j:Int)< L.length:=of_decide_eq_true hc;have uL:j< L.length:=by omega
  have ek:aB noTy L (j:Int)=L[j]:=iI (e:=noTy) uL;have ht:L.take (j+1)=L.take j++ [L[j]]:=bZ uL;have hx:=aos _ (df uL);have ho:∀ y∈L.take j,y.2.1=(L[j]'uL).2.1->y.2.2=(L[j]'uL).2.2:=λy hy e=>sY y (List.mem_of_mem_take hy) _ (df uL) e;have hFl:=h4.len;rw [aD] at hFl;rw [ek];generalize L[j]=x at ek ht hx ho ⊢;refine ⟨by omega,uz,λ_=>both λ_=>aw (λhg=>?_) (λhg=>aw (λhk=>?_) (λhk=>λ_=>?_))⟩;exact ⟨by unfold aI;omega,⟨j+1,b,M,row,bg,uL,by omega,rfl,rfl,by rw [ht];exact h4.skip ho (.inr (by intro e;rw [e] at hg;cases hg)),h5,h6,by omega,by omega,by omega,by omega⟩,by omega⟩;exact ⟨by unfold aI;omega,⟨j+1,b,M,row,bg,uL,by omega,rfl,rfl,by rw [ht];exact h4.skip ho (.inl (by simpa using hk)),h5,h6,by omega,by omega,by omega,by omega⟩,by omega⟩
  .have hn:Kk.get .int F x.2.1=none:=by simpa using hg
   have qS:x.2.2.1=2:=by simpa using hk
   have hdl:(x.2.2.2.2.1.drop (128*(x.2.2.2.2.1.length / 128))).length< 128:=by rw [aW];omega
   exact ⟨T,fi,b,M,rfl,⟨⟨hT,hx,h5⟩,⟨f0,f1⟩,by omega,by omega⟩,λst b' M' d1 d2 d3 d4 d5 _ _=>⟨row,bg,rfl,⟨h6,by omega,by omega,hdl⟩,λnu off lE zi t1 t2 t3 t4 t5 _ _=>⟨by omega,by unfold aI;omega,⟨j+1,b',M',lE,zi,uL,by omega,rfl,rfl,by rw [ht];exact h4.put hn qS d2 d3 t2 t3,d1,t1,by omega,by omega,by omega,by omega⟩,by omega⟩⟩⟩
 .have hc:=of_decide_eq_false hc;obtain rfl:j=L.length:=by omega
  rw [ff] at h4;refine ⟨row,bg,rfl,⟨h6,by omega,by omega⟩,λ_ _=>?_⟩;have hbl:=uk row bg bg.length;have hbm:=V0 h6;have Zl:=λF' b' M' pl=>h F' b' M' row bg pl;clear h;generalize mL row bg bg.length=B at*;refine ba.intro (λi=>∃ (q:Nat) (c:List UInt8),q<=B.length/\i.1.1=(q:Int)/\i.2.1=jX [.cells 157 [.de (.int .u32) T 0 0,.k (.int .i64 fi),.o 1,.m 2],.sl 5 .u8 (b++c),.map 9 .str (.int .i64) M]/\c.length<=135*q/\rG T fi (b++c) (B.take q) i.1.2.1) (λi=>B.length - i.1.1.toNat) ⟨0,[],cr _,rfl,by rw [a7],az _,rG.nil⟩ ?_;rintro ⟨⟨i,pl,_⟩,AW,_⟩ ⟨q,c,hq,k1,k2,M9,k3⟩;simp only at k1 k2 k3 ⊢;subst k1 k2
  try dsimp only
  have DU:=k3.len;rw [aD,eP hq] at DU;refine aw (λhd=>?_) (λhd=>?_)
  .have hd1:(q:Int)< B.length:=of_decide_eq_true hd;have hq2:q< B.length:=by omega
   have ek:aB (.sl .u8) B (q:Int)=B[q]:=iI (e:=.sl .u8) hq2;have ht:B.take (q+1)=B.take q++ [B[q]]:=bZ hq2;have hx:=hbm _ (df hq2);rw [ek];generalize B[q]=x at ek ht hx ⊢;have hbc:(b++c).length<=180000:=by rw [af];omega
   refine ⟨by omega,hd1,λ_=>⟨T,fi,b++c,M,rfl,hT,hx.2,⟨f0,f1⟩,by omega,λz hz _=>⟨by simp only [ay];omega,by simp only [ay];omega,by unfold aI;omega,⟨q+1,c++z,hq2,by omega,by rw [<-aH];rfl,?_,?_⟩,by omega⟩⟩⟩
   .have:=hz.len;rw [af];omega
   .rw [ht,<-aH];exact k3.step hz
  .have hd:=of_decide_eq_false hd;obtain rfl:q=B.length:=by omega
   rw [ff] at k3;exact ⟨by show 8<=9;decide,Zl F (b++c) M pl (h4.app c) h6 k3 (by rw [af];omega) (by omega)⟩
end Go.Proofs

namespace Go.Lm
open Go
structure IR where
 s:ot.den
 b:List UInt8
 row:List UInt8
 bg:List Int
 pl:List Int
 ids:List Int
 F:List (Int×eH.den)
 t:BS
 fI:List (List UInt8)
 fL:List (List UInt8)
 fX:List (List UInt8)
 fP:List (List UInt8)
 fN:List (List UInt8)
def IR.im (d:IR) (T:List Int):List UInt8:=fS T d.s++(d.b++(d.fI.flatten++(d.fL.flatten++(d.fP.flatten++(d.fN.flatten++d.fX.flatten)))))
structure IR.Ok (d:IR) (T:List Int) (L:List bx):Prop where
 tok:rV L d.ids d.F
 root:∃ x∈L,x.1= []/\x.2.2.1=1/\Kk.get .int d.t.Mr x.2.1=some d.s.2.2.2.2.2.2.2.2.2.1
 ok:DN L d.ids d.F d.t 0
 all:∀ x∈L,∃ r,Kk.get .int d.t.Mr x.2.1=some r
 fl:rT L T 64 d.b d.row d.bg d.F
 pk:A8 d.row d.bg
 pls:rG T 64 d.b (mL d.row d.bg d.bg.length) d.pl
 rI:lg T d.fI d.t.RI/\∃ g,d.fI=d.t.fI++g
 rL:lg T d.fL d.t.RL/\∃ g,d.fL=d.t.fL++g
 rX:lg T d.fX d.t.RX/\∃ g,d.fX=d.t.fX++g
 rP:lg T d.fP (gA 4 d.pl)
 rN:lg T d.fN (gA 2 d.ids)
 idr:∀ y∈d.ids,0<=y/\y< 65536
 sup:rE d.s
 sI: @Eq Int d.s.2.2.1 (64+(d.b.length:Int))
 sL: @Eq Int d.s.2.2.2.1 (d.s.2.2.1+(d.fI.flatten.length:Int))
 sP: @Eq Int d.s.2.2.2.2.1 (d.s.2.2.2.1+(d.fL.flatten.length:Int))
 sN: @Eq Int d.s.2.2.2.2.2.1 (d.s.2.2.2.2.1+(d.fP.flatten.length:Int))
 sX: @Eq Int d.s.2.2.2.2.2.2.1 (d.s.2.2.2.2.2.1+(d.fN.flatten.length:Int))
 sZ: @Eq Int d.s.1 (d.s.2.2.2.2.2.2.1+(d.fX.flatten.length:Int))
 sn: @Eq Int d.s.2.1 ((d.t.Mr.length:Int))
 si: @Eq Int d.s.2.2.2.2.2.2.2.1 ((d.ids.length:Int))
 sf: @Eq Int d.s.2.2.2.2.2.2.2.2.1 ((d.pl.length:Int))
structure T8 (im:List UInt8) (L:List bx):Prop where
 ex:∃ d:IR,d.Ok dN L/\im=d.im dN
theorem lg.Zu {T:List Int} {fs:List (List UInt8)} {R:List UInt8} (h:lg T fs R):fs.flatten.length<=135*fs.length:=by
 have key:∀ n:Nat,n<=fs.length->fD fs n<=135*n:=by
  intro n
  induction n with
  | zero=>intro _;exact az _
  | succ n ih=>
   intro hn;have:=ih (by omega);have hf:=(h.fr n fs[n] (ak (by omega))).len;have hb:((R.drop (128*n)).take 128).length<=128:=by rw [aD];omega
   rw [n9 (by omega)];omega
 have:=key fs.length (az _);rw [qn] at this;exact this
structure Hn (l:List bx):Prop where
 nm:∀ x∈l,∀ s∈x.1,dA s=0
 deep:∀ x∈l,x.1.length<=16
 tw:l.Pairwise λa b=>a.1≠b.1
 root:∃ x∈l,x.1= []/\x.2.2.1=1
 par:∀ x∈l,x.1.length≠0->∃ y∈l,y.2.2.1=1/\y.1=x.1.take (x.1.length - 1)
 may:∀ x∈l,iF x=true
 one:l.Pairwise λa b=>a.2.1=b.2.1->b.2.2.1≠1/\b.2.2=a.2.2
theorem qc {x:bx} (h:iF x=true):x.2.2.2.2.2.2.2.1=false/\(x.2.2.1=1\/x.2.2.1=2\/x.2.2.1=3):=by
 unfold iF at h;split at h
 .rename_i q;simp only [ao,bG] at h;exact ⟨h.1.1.2,.inl q⟩
 .split at h
  .rename_i q;simp only [ao,bG] at h;exact ⟨h.1.1.2,.inr (.inl q)⟩
  .split at h
   .rename_i q;simp only [ao,bG] at h;exact ⟨h.1.1.2,.inr (.inr q)⟩
   .cases h
theorem Vg {x:bx} (h:iF x=true):PD x=true:=by
 obtain ⟨h1,h2⟩:=qc h;unfold PD;rw [if_neg (by rcases h2 with q| q| q<;>rw [q]<;>decide)];have e:(if x.2.2.1=1 then false else x.2.2.2.2.2.2.2.1)=x.2.2.2.2.2.2.2.1:=by
  split;exact h1.symm;rfl
 rw [e];exact h
theorem Hn.alT {l L:List bx} (g:Hn l) (hp:L.Perm l) (ho:L.Pairwise λx y=>¬cmpL y.1 x.1< 0):T9 L:=by
 have tw:L.Pairwise λa b=>a.1≠b.1:=hp.symm.pairwise g.tw (λh=>Ne.symm h);refine ⟨λx hx=>g.nm x (hp.mem_iff.1 hx),UE ho tw,?_,λx hx e=>?_,λx hx h0=>?_,λx hx=>Vg (g.may x (hp.mem_iff.1 hx)),?_⟩
 .obtain ⟨x,hx,e,_⟩:=g.root;exact ⟨x,hp.mem_iff.2 hx,e⟩
 .obtain ⟨y,hy,e1,e2⟩:=g.root;have:=YG tw hx (hp.mem_iff.2 hy) (e.trans e1.symm);rw [this];exact e2
 .obtain ⟨y,hy,e⟩:=g.par x (hp.mem_iff.1 hx) h0;exact ⟨y,hp.mem_iff.2 hy,e⟩
 .have h4:L.Pairwise λa b=>a.2.1=b.2.1->b.2.2.1≠1/\b.2.2=a.2.2:=hp.symm.pairwise g.one (λ{a b} h e=>by
   obtain ⟨h1,h2⟩:=h e.symm;rw [h2] at h1;exact ⟨h1,h2.symm⟩)
  refine h4.imp_of_mem λ{a b} _ hb h e=>⟨(h e).1,?_,(h e).2⟩;rcases (qc (g.may b (hp.mem_iff.1 hb))).2 with q| q| q<;>rw [q]<;>decide
structure uU (N:List bx):Prop where
 nm:∀ x∈N,∀ s∈x.1,dA s=0
 ord:N.Pairwise λa b=>cmpL a.1 b.1< 0
 deep:∀ x∈N,x.1.length<=16
 par:∀ x∈N,x.1.length≠0->∃ y∈N,y.2.2.1=1/\y.1=x.1.take (x.1.length - 1)
 may:∀ x∈N,iF x=true
 one:∀ x∈N,∀ y∈N,x.2.1=y.2.1->(x.2.2.1=1->x=y)/\x.2.2=y.2.2
 ino:∀ x∈N,1<=x.2.1/\x.2.1<=(N.length:Int)
 pos:0< N.length
 root:(aB noTy N 0).1= []/\(aB noTy N 0).2.2.1=1/\(aB noTy N 0).2.1=1
 isB:∃ Y,IsB Y N
theorem Pz:∀ (L:List bx) {m:List (Int×Int)},(∀ i z,Kk.get .int m i=some z->z<=(m.length:Int))->∀ i z,Kk.get .int (jN L m) i=some z->z<=((jN L m).length:Int)
 | [],_,h,i,z,hz=>h i z hz
 | x::L,m,h,i,z,hz=>by
  cases hg:Kk.get .int m x.2.1 with
  | some k=>rw [jt hg] at hz ⊢;exact Pz L h i z hz
  | none=>
   rw [ju hg] at hz ⊢;refine Pz L (λj y hy=>?_) i z hz;have e:((Kk.put .int m x.2.1 ((m.length:Int)+1):List (Int×Int)).length:Int)=(m.length:Int)+1:=by rw [pD (k:=.int) hg];rfl
   rw [e];by_cases hj:j=x.2.1
   .rw [hj,gp] at hy;obtain rfl:=aj hy;exact bp _
   .rw [jR (k:=.int) hj] at hy;have:=h j y hy;omega
theorem adz {x:bx} (p:List ByteArray) (i:Int):iF (p,i,x.2.2)=iF x:=rfl
theorem LB {l L:List bx} (g:Hn l) (hp:L.Perm l) (ho:L.Pairwise λx y=>¬cmpL y.1 x.1< 0):uU (dg L []):=by
 have gT:=g.alT hp ho;have hB:=Zv 0 0 gT;have ord:(dg L []).Pairwise λa b=>cmpL a.1 b.1< 0:=adu gT.ord;have mem:∀ c∈dg L [],∃ x∈l,x.1=c.1/\x.2.2=c.2.2:=λc hc=>by
  obtain ⟨x,hx,q⟩:=IS hc;exact ⟨x,hp.mem_iff.1 hx,q⟩
 have hlen:=j6 L [];have sW:0< (dg L []).length:=by
  obtain ⟨c,hc,_⟩:=hB.has;exact List.length_pos_of_mem hc
 have hkd:∀ c∈dg L [],iF c=true:=λc hc=>by
  obtain ⟨x,hx,e1,e2⟩:=mem c hc;have:=g.may x hx;rw [<-adz x.1 x.2.1,e2] at this;exact this
 have aod:∀ x∈dg L [],1<=x.2.1/\x.2.1<=((dg L []).length:Int):=λx hx=>by
  obtain ⟨j,hj,rfl⟩:=dH.1 hx;have hk:=AO L [] j (by rw [<-hlen];exact hj);have h1:=IQ L (m:=[]) (λi z q=>by cases q) _ _ hk;have h2:=Pz L (m:=[]) (λi z q=>by cases q) _ _ hk;have h3:=wP L [];simp only [aL] at h3;exact ⟨h1,by omega⟩
 refine ⟨λx hx=>?_,ord,λx hx=>?_,λx hx h0=>?_,hkd,λx hx y hy e=>?_,aod,sW,?_,⟨_,hB⟩⟩
 .obtain ⟨y,hy,e,_⟩:=mem x hx;rw [<-e];exact g.nm y hy
 .obtain ⟨y,hy,e,_⟩:=mem x hx;rw [<-e];exact g.deep y hy
 .obtain ⟨y,hy,hk,s,e⟩:=hB.par x hx (by intro q;rw [q] at h0;exact h0 rfl);exact ⟨y,hy,hk,by rw [e];simp⟩
 .have h1:=hB.get x hx;have h2:=hB.get y hy;rw [e,h2] at h1;have h3:=aj h1;have ox:=(qc (hkd x hx)).1;have oy:=(qc (hkd y hy)).1;refine ⟨λhk=>(hB.ZE x hx y hy (.inl hk) e.symm).symm,?_⟩;obtain ⟨x1,x2,x3,x4,x5,x6,x7,x8,x9⟩:=x;obtain ⟨y1,y2,y3,y4,y5,y6,y7,y8,y9⟩:=y;simp only at ox oy;subst ox oy;unfold bx.bare at h3;simp only [Prod.mk.injEq] at h3 ⊢;simp_all
 .have hr:(aB noTy (dg L []) 0).1= []:=by
   obtain ⟨c,hc,e⟩:=hB.has;obtain ⟨j,hj,rfl⟩:=dH.1 hc;have e0:aB noTy (dg L []) 0=(dg L [])[0]:=iI (e:=noTy) (k:=0) sW;rw [e0];rcases Nat.eq_zero_or_pos j with q| q;subst q;exact e
   .have:=da.1 ord 0 j sW hj q;rw [e] at this;exact absurd this (Dd _)
  have hm:aB noTy (dg L []) 0∈dg L []:=rO (e:=noTy) (bp 0) (by omega);refine ⟨hr,?_,hB.root _ hm hr⟩;obtain ⟨x,hx,e1,e2⟩:=IS hm;rw [<-e2];exact gT.ae9 x hx (by rw [e1,hr])
theorem CH {m u g:Int} (h:Ax m u g=true):(0<=u/\u<=65535)/\0<=g/\g<=65535:=by
 unfold Ax gS at h;simp only [ao,decide_eq_true_eq] at h;omega
theorem sR {x:bx} (h:iF x=true):((0<=wm x/\wm x<=65535)/\0<=AB x/\AB x<=65535)/\x.2.2.2.2.1.length<=4096:=by
 unfold iF at h;split at h
 .simp only [ao,beq_iff_eq] at h;exact ⟨CH h.1.2,by omega⟩
 .split at h
  .simp only [ao,decide_eq_true_eq] at h;exact ⟨CH h.1.2,by omega⟩
  .split at h
   .simp only [ao,beq_iff_eq] at h;exact ⟨CH h.1.2,by omega⟩
   .cases h
theorem ah9 {N:List bx} {ys:List Int} (g:uU N) (h:Oh N ys):∀ y∈ys,0<=y/\y< 65536:=λy hy=>by
 obtain ⟨n,hn,q⟩:=(h.mem y).1 hy;have:=(sR (g.may n hn)).1;rcases q with rfl| rfl<;>omega
theorem ahA {N:List bx} {ys:List Int} {F:List (Int×eH.den)} {T:List Int} {b row:List UInt8} {bg:List Int} (g:uU N) (hl:N.length<=40) (hi:Oh N ys) (hF:rT N T 64 b row bg F) (hP:A8 row bg) (hb:b.length<=180000) (hg:bg.length<=40):rV N ys F:=by
 refine ⟨hl,g.ord,g.nm,g.deep,g.par,g.may,g.one,λx hx=>by have:=g.ino x hx;omega,λx hx=>⟨?_,?_⟩,by have:=hi.len;omega,hi.J1,λx hx hk=>?_,λx hx hk=>?_⟩;exact List.mem_iff_getElem?.1 ((hi.mem _).2 ⟨x,hx,.inl rfl⟩);exact List.mem_iff_getElem?.1 ((hi.mem _).2 ⟨x,hx,.inr rfl⟩)
 .obtain ⟨st,fr,off,h1,h2,h3⟩:=hF.file x hx hk;have hx4:=(sR (g.may x hx)).2;have htl:(x.2.2.2.2.1.drop (128*(x.2.2.2.2.1.length / 128))).length=x.2.2.2.2.1.length % 128:=by rw [aW];omega
  refine ⟨st,fr,off,h1,?_,⟨by omega,by omega⟩,?_,?_,?_⟩
  .rcases h2.or with ⟨_,rfl⟩| ⟨_,o,rfl,q⟩
   .decide
   .obtain ⟨_,_,_,_,_,q⟩:=q.ex;omega
  .rcases h3.or with ⟨_,rfl,_⟩| ⟨_,_,_,i,a,rfl,q,_⟩
   .decide
   .have:=(av.1 q).1;omega
  .rcases h3.or with ⟨_,_,rfl⟩| ⟨q1,_,q2,i,a,_,q,q3,_⟩
   .decide
   .have:=hP.all i a q;omega
  .rcases h3.or with ⟨q0,rfl,rfl⟩| ⟨q1,_,q2,i,a,rfl,q,q3,_⟩
   .rw [q0] at htl;simp only [aL] at htl;omega
   .omega
 .cases hq:Kk.get .int F x.2.1 with
  | none=>rfl
  | some r=>
   obtain ⟨y,hy,e,hyk⟩:=hF.no _ _ hq;have:=(g.one x hx y hy e.symm).2;rw [<-this] at hyk;exact absurd hyk hk
theorem DN.nil (L:List bx) (ids:List Int) (F:List (Int×eH.den)):DN L ids F ⟨[],[],[],[],[],[],[],[]⟩ 0:=⟨λi r q=>(by cases q),⟨λp hp=>(by cases hp)⟩,λi j r q=>(by cases q),⟨[],List.nodup_nil,λv hv=>(by cases hv),rfl⟩,az _,az _,az _,List.nodup_nil⟩
theorem Yk {T:List Int} {b:List UInt8} {bs:List (List UInt8)} {pl:List Int} (h:rG T 64 b bs pl) (hb:b.length<=2000000):∀ x∈pl,0<=x/\x< 4294967296:=λx hx=>by
 obtain ⟨i,hi⟩:=List.mem_iff_getElem?.1 hx;have hl:=(av.1 hi).1;rw [h.len] at hl;obtain ⟨o,z,r,e,_,_,q⟩:=h.ats i x _ hi (ak hl);omega
theorem Ql (T:List Int) (s:ot.den) (x:List UInt8):l5 (au 64 (0:Ty.den Ty.u8)++x) 0 (fS T s)=fS T s++x:=by
 have h:=oq T s;unfold l5;rw [List.take_zero,eE,aV (by rw [h,af,aT];omega),h];have e:(au 64 (0:Ty.den Ty.u8)++x).length - 0=64+x.length:=by rw [af,aT];rfl
 rw [e,eP (by omega),show (0:Nat)+64=(au 64 (0:Ty.den Ty.u8)).length by rw [aT],fB]
theorem ah8 {N:List bx} {b row:List UInt8} {bg pl ids:List Int} {F:List (Int×eH.den)} {t:BS} {fI fL fX fP fN:List (List UInt8)} {q1 q2 q3 q4 q5:List UInt8} {r:Int} (e1:fI.flatten=q1) (e2:fL.flatten=q2) (e3:fP.flatten=q3) (e4:fN.flatten=q4) (e5:fX.flatten=q5) (tok:rV N ids F) (root:∃ x∈N,x.1= []/\x.2.2.1=1/\Kk.get .int t.Mr x.2.1=some r) (ok:DN N ids F t 0) (all:∀ x∈N,∃ r,Kk.get .int t.Mr x.2.1=some r) (fl:rT N dN 64 b row bg F) (pk:A8 row bg) (pls:rG dN 64 b (mL row bg bg.length) pl) (rI:lg dN fI t.RI/\∃ g,fI=t.fI++g) (rL:lg dN fL t.RL/\∃ g,fL=t.fL++g) (rX:lg dN fX t.RX/\∃ g,fX=t.fX++g) (rP:lg dN fP (gA 4 pl)) (rN:lg dN fN (gA 2 ids)) (idr:∀ y∈ids,0<=y/\y< 65536) (hS:rE ((((au 64 (0:Ty.den Ty.u8)++b++q1++q2++q3++q4++q5).length:Nat):Int),((t.Mr.length:Nat):Int),(((au 64 (0:Ty.den Ty.u8)++b).length:Nat):Int),(((au 64 (0:Ty.den Ty.u8)++b++q1).length:Nat):Int),(((au 64 (0:Ty.den Ty.u8)++b++q1++q2).length:Nat):Int),(((au 64 (0:Ty.den Ty.u8)++b++q1++q2++q3).length:Nat):Int),(((au 64 (0:Ty.den Ty.u8)++b++q1++q2++q3++q4).length:Nat):Int),((ids.length:Nat):Int),((pl.length:Nat):Int),r,())):T8 (l5 (au 64 (0:Ty.den Ty.u8)++b++q1++q2++q3++q4++q5) 0 (fS dN ((((au 64 (0:Ty.den Ty.u8)++b++q1++q2++q3++q4++q5).length:Nat):Int),((t.Mr.length:Nat):Int),(((au 64 (0:Ty.den Ty.u8)++b).length:Nat):Int),(((au 64 (0:Ty.den Ty.u8)++b++q1).length:Nat):Int),(((au 64 (0:Ty.den Ty.u8)++b++q1++q2).length:Nat):Int),(((au 64 (0:Ty.den Ty.u8)++b++q1++q2++q3).length:Nat):Int),(((au 64 (0:Ty.den Ty.u8)++b++q1++q2++q3++q4).length:Nat):Int),((ids.length:Nat):Int),((pl.length:Nat):Int),r,()))) N:=by
 refine ⟨⟨((((au 64 (0:Ty.den Ty.u8)++b++q1++q2++q3++q4++q5).length:Nat):Int),((t.Mr.length:Nat):Int),(((au 64 (0:Ty.den Ty.u8)++b).length:Nat):Int),(((au 64 (0:Ty.den Ty.u8)++b++q1).length:Nat):Int),(((au 64 (0:Ty.den Ty.u8)++b++q1++q2).length:Nat):Int),(((au 64 (0:Ty.den Ty.u8)++b++q1++q2++q3).length:Nat):Int),(((au 64 (0:Ty.den Ty.u8)++b++q1++q2++q3++q4).length:Nat):Int),((ids.length:Nat):Int),((pl.length:Nat):Int),r,()),b,row,bg,pl,ids,F,t,fI,fL,fX,fP,fN⟩,⟨tok,root,ok,all,fl,pk,pls,rI,rL,rX,rP,rN,idr,hS,?_,?_,?_,?_,?_,?_,rfl,rfl,rfl⟩,?_⟩
 .show (((au 64 (0:Ty.den Ty.u8)++b).length:Nat):Int)=_;rw [af,aT];rfl
 .show (((au 64 (0:Ty.den Ty.u8)++b++q1).length:Nat):Int)=(((au 64 (0:Ty.den Ty.u8)++b).length:Nat):Int)+(fI.flatten.length:Int);rw [e1,af (bs:=q1)];rfl
 .show (((au 64 (0:Ty.den Ty.u8)++b++q1++q2).length:Nat):Int)=(((au 64 (0:Ty.den Ty.u8)++b++q1).length:Nat):Int)+(fL.flatten.length:Int);rw [e2,af (bs:=q2)];rfl
 .show (((au 64 (0:Ty.den Ty.u8)++b++q1++q2++q3).length:Nat):Int)=(((au 64 (0:Ty.den Ty.u8)++b++q1++q2).length:Nat):Int)+(fP.flatten.length:Int);rw [e3,af (bs:=q3)];rfl
 .show (((au 64 (0:Ty.den Ty.u8)++b++q1++q2++q3++q4).length:Nat):Int)=(((au 64 (0:Ty.den Ty.u8)++b++q1++q2++q3).length:Nat):Int)+(fN.flatten.length:Int);rw [e4,af (bs:=q4)];rfl
 .show (((au 64 (0:Ty.den Ty.u8)++b++q1++q2++q3++q4++q5).length:Nat):Int)=(((au 64 (0:Ty.den Ty.u8)++b++q1++q2++q3++q4).length:Nat):Int)+(fX.flatten.length:Int);rw [e5,af (bs:=q5)];rfl
 .unfold IR.im;rw [show (au 64 (0:Ty.den Ty.u8)++b++q1++q2++q3++q4++q5)=au 64 (0:Ty.den Ty.u8)++(b++(q1++(q2++(q3++(q4++q5))))) by simp only [aH],Ql,<-e1,<-e2,<-e3,<-e4,<-e5]
end Go.Lm

namespace Go.Proofs
open Go Go.Lm Go.RowKit
set_option maxRecDepth 1000000
theorem Ta {a b:List UInt8}:Tb a b=true↔a=b:=by
 unfold Tb;rw [jA];constructor
 .intro h;have h1:(gk a).data.toList=(gk b).data.toList:=by rw [h]
  simpa [gk] using h1
 .intro h;rw [h]
theorem QG {x y:uT}:tu x y=true↔x=y:=by
 obtain ⟨a,b,u⟩:=x;obtain ⟨c,d,v⟩:=y;unfold tu;rw [ao,jA,Ta];simp
theorem Al:∀ {a b:List uT},jj a b=true↔a=b
 | [],[]=>by simp [jj]
 | [],_::_=>by simp [jj]
 | _::_,[]=>by simp [jj]
 | x::a,y::b=>by
  unfold jj;rw [ao,QG,Al];simp
theorem DD {x y:bx}:ri x y=true↔x.2.2=y.2.2:=by
 obtain ⟨p,i,k,⟨m,u,g,u1⟩,d,t,xs,o,u2⟩:=x;obtain ⟨p',i',k',⟨m',u',g',u1'⟩,d',t',xs',o',u2'⟩:=y;unfold ri;simp only [ao,jA,Ta,Al,beq_iff_eq,Bool.and_true,Prod.mk.injEq];constructor
 .rintro ⟨h1,⟨h2,h3,h4⟩,h5,h6,h7,h8⟩;exact ⟨h1,⟨h2,h3,h4,trivial⟩,h7,h5,h8,h6,trivial⟩
 .rintro ⟨h1,⟨h2,h3,h4,_⟩,h7,h5,h8,h6,_⟩;exact ⟨h1,⟨h2,h3,h4⟩,h5,h6,h7,h8⟩
theorem pP:∀ {a b:List ByteArray},gy a b=true↔a=b
 | [],[]=>by simp [gy]
 | [],_::_=>by simp [gy]
 | _::_,[]=>by simp [gy]
 | x::a,y::b=>by
  unfold gy;rw [ao,jA,pP];simp
theorem qh {k:Kk} {α:Type} {l:List (k.den×α)} {x:k.den} {v:α}:Kk.get k (Kk.put k l x v) x=some v:=by
 unfold Kk.get Kk.put iS qP;simp
theorem wY {k:Kk} {α:Type} {l:List (k.den×α)} {x y:k.den} {v:α} (h:y≠x):Kk.get k (Kk.put k l x v) y=Kk.get k l y:=by
 unfold Kk.get Kk.put iS qP mJ;have h':¬x=y:=λe=>h e.symm;rw [List.find?_cons];simp only [h',decide_false,List.find?_filter];congr 2;funext p;by_cases h2:p.1=y;simp [h2,h];simp [h2]
theorem Vu (x:bx):Ee x.1 x=true:=by unfold Ee;exact pP.2 rfl
def wN (l:List bx):Prop:=∀ x∈l,∀ s∈x.1,dA s=0
theorem Gv {p q:List ByteArray} (hp:∀ s∈p,dA s=0) (hq:∀ s∈q,dA s=0) (h:qi p=qi q):p=q:=by
 have e:=Go.LmN.Y2 (p:=p) (q:=q) (λs hs=>by rw [uX];exact hp s hs) (λs hs=>by rw [uX];exact hq s hs);rw [show Go.LmN.jB p=Go.LmN.jB q from h,beq_self_eq_true,Go.LmN.xV] at e;exact Go.LmN.YW.1 (of_decide_eq_true e.symm)
theorem vE:∀ {l:List bx} {m:List (ByteArray×bx)},wN l->((nC l m).isSome=true↔(l.Pairwise λa b=>a.1≠b.1)/\∀ x∈l,Kk.get .str m (qi x.1)=none)
 | [],m,_=>by simp [nC]
 | x::r,m,ok=>by
  have okr:wN r:=λy hy=>ok y (aG _ hy);unfold nC;cases hg:Kk.get .str m (qi x.1) with
  | some o=>
   rw [if_pos (show (some o).isSome=true from rfl)];constructor;intro h;cases h
   .rintro ⟨_,h⟩;have:=h x aS;rw [hg] at this;cases this
  | none=>
   rw [if_neg (by simp),vE okr,fA];constructor
   .rintro ⟨h1,h2⟩;refine ⟨⟨λy hy e=>?_,h1⟩,λy hy=>?_⟩
    .have:=h2 y hy;rw [<-e,qh] at this;cases this
    .rcases aX.1 hy with rfl| hy
     .exact hg
     .have:=h2 y hy;by_cases e:qi y.1=qi x.1
      .rw [e,qh] at this;cases this
      .rwa [wY (k:=.str) e] at this
   .rintro ⟨⟨h1,h2⟩,h3⟩;refine ⟨h2,λy hy=>?_⟩;rw [wY (k:=.str) λe=>h1 y hy (Gv (ok x aS) (okr y hy) e.symm)];exact h3 y (aG _ hy)
theorem Gm:∀ {l:List bx} {m m':List (ByteArray×bx)},wN l->nC l m=some m'->∀ p:List ByteArray,(∀ s∈p,dA s=0)->Kk.get .str m' (qi p)=match l.find? (Ee p) with
   | some x=>some x
   | none=>Kk.get .str m (qi p)
 | [],m,m',_,h,p,_=>by
  obtain rfl:m=m':=aj h;rfl
 | x::r,m,m',ok,h,p,hp=>by
  have okr:wN r:=λy hy=>ok y (aG _ hy);have hs:=(vE ok).1 (by rw [h];rfl);unfold nC at h;split at h;cases h
  .rw [Gm okr h p hp,List.find?_cons];by_cases e:x.1=p
   .subst e;rw [Vu];have:r.find? (Ee x.1)=none:=by
     rw [jC];intro y hy hn;unfold Ee at hn;exact (fA.1 hs.1).1 y hy (pP.1 hn).symm
    rw [this];exact qh
   .have hn:Ee p x=false:=by
     unfold Ee;rw [<-Bool.not_eq_true,pP];exact e
    rw [hn];cases r.find? (Ee p) with
    | some y=>rfl
    | none=>exact wY λq=>e (Gv (ok x aS) hp q.symm)
theorem vH:∀ {l:List bx} {m:List (Int×bx)},k7 l m=0↔(l.Pairwise λa b=>a.2.1=b.2.1->b.2.2.1≠1/\b.2.2=a.2.2)/\∀ x∈l,∀ o,Kk.get .int m x.2.1=some o->x.2.2.1≠1/\x.2.2=o.2.2
 | [],m=>by simp [k7]
 | x::r,m=>by
  unfold k7;rw [fA];cases hg:Kk.get .int m x.2.1 with
  | none=>
   simp only;rw [vH (l:=r)];constructor
   .rintro ⟨h1,h2⟩;refine ⟨⟨λy hy e=>h2 y hy x (by rw [<-e];exact qh),h1⟩,λy hy o ho=>?_⟩;rcases aX.1 hy with rfl| hy
    .rw [hg] at ho;cases ho
    .by_cases e:y.2.1=x.2.1
     .rw [e,hg] at ho;cases ho
     .exact h2 y hy o (by rw [wY (k:=.int) e];exact ho)
   .rintro ⟨⟨h1,h2⟩,h3⟩;refine ⟨h2,λy hy o ho=>?_⟩;by_cases e:y.2.1=x.2.1
    .rw [e,qh] at ho;obtain rfl:=aj ho;exact h1 y hy e.symm
    .rw [wY (k:=.int) e] at ho;exact h3 y (aG _ hy) o ho
  | some o=>
   simp only;by_cases hb:(x.2.2.1==1|| !ri x o)=true
   .rw [if_pos hb];constructor
    .intro h;cases h
    .rintro ⟨_,h⟩;obtain ⟨h1,h2⟩:=h x aS o hg;rw [DD.2 h2] at hb;simp [h1] at hb
   .rw [if_neg hb,vH (l:=r)];simp only [iD,beq_iff_eq,bG,not_or,Bool.not_eq_false,DD] at hb;constructor
    .rintro ⟨h1,h2⟩;refine ⟨⟨λy hy e=>?_,h1⟩,λy hy o' ho=>?_⟩
     .obtain ⟨h3,h4⟩:=h2 y hy o (by rw [<-e];exact hg);exact ⟨h3,h4.trans hb.2.symm⟩
     .rcases aX.1 hy with rfl| hy
      .rw [hg] at ho;obtain rfl:=aj ho;exact hb
      .exact h2 y hy o' ho
    .rintro ⟨⟨_,h2⟩,h3⟩;exact ⟨h2,λy hy o' ho=>h3 y (aG _ hy) o' ho⟩
theorem MS {l:List bx} (h:kj l=0) {p:List ByteArray} (hp:∀ s∈p,dA s=0) (hk:ml (gj l) p=1):∃ x∈l,x.1=p/\x.2.2.1=1:=by
 obtain ⟨hN,hD,hs⟩:=wS (l:=l) (by rw [h];rfl);have ok:wN l:=mE hN;cases hm:nC l [] with
 | none=>rw [hm] at hs;cases hs
 | some m=>
  have e:gj l=m:=by unfold gj;rw [hm];rfl
  have hg:=Gm ok hm p hp;rw [e] at hk;unfold ml at hk;rw [hg] at hk;cases hf:l.find? (Ee p) with
  | none=>rw [hf] at hk;exact absurd hk (show ¬((0:Int)=1) by decide)
  | some x=>
   rw [hf] at hk;have hn:=List.find?_some hf;unfold Ee at hn;exact ⟨x,pI hf,pP.1 hn,hk⟩
theorem LC {l:List bx} (h:dK l=0):Hn l:=by
 obtain ⟨_,h2,h3,h4,h5,h6⟩:=NC h;obtain ⟨hN,hD,hs⟩:=wS (l:=l) (by rw [h2];rfl);have ok:=mE hN;have tw:=((vE (m:=[]) ok).1 hs).1;refine ⟨ok,λx hx=>AS hD hx,tw,?_,λx hx h0=>?_,h5,(vH.1 h6).1⟩
 .obtain ⟨x,hx,e,k⟩:=MS h2 (p:=[]) (λs hs=>by cases hs) h3;exact ⟨x,hx,e,k⟩
 .have hq:(ml (gj l) (x.1.take (x.1.length - 1)) !=1)=false:=by
   unfold Mz at h4;have:=List.any_eq_false.1 h4 x hx;cases q:ml (gj l) (x.1.take (x.1.length - 1)) !=1 with
   | false=>rfl
   | true=>
    rw [q] at this;exact absurd (by simp;omega) this
  obtain ⟨y,hy,e,k⟩:=MS h2 (p:=x.1.take (x.1.length - 1)) (λs hs=>ok x hx s (List.take_subset _ _ hs)) (by simpa using hq);exact ⟨y,hy,k,e⟩
def aeN:Ct:=cD (Ty.int .i64) λl=>cI λn=>cT λT=>c0 λQ=>T.length=256/\((n=2\/n=4)/\(∀ x∈l,0<=x/\x< 256 ^ n.toNat)/\l.length<=100000)/\∀ fs,lg T fs (gA n.toNat l)->Q (.c (.d .u8 fs.flatten)) []
def ajP:=(((jr.add Ew).add A9).add wa).add Hw
abbrev yg (y0) (y1:List (List UInt8)):=List.length (ae (y0++y1))
def Lq (l:(List ((Ty.int .i64)).den)) (n:Int) (T:List Int):dE:=λQ=>ik l (aI .i64 n->eG T (∀ (A:Value->Atom),WB A T [] []->(n=du\/n=cH)/\(∀ (x:Ty.den bw),x∈l->(0:Ty.den bw)<=x/\x< (256:Ty.den bw) ^ aA n)/\List.length l<=100000/\(aN 
 (List.length (gA (bc n) l))->aI .i64 0->∃ T R fs,WB A T R fs/\List.length R+List.length (gA (bc n) l)<=10000000/\∀ (A':Value->Atom) (r:Nat) (fs':List (List UInt8)),WB A' T (R++gA (bc n) l) (fs++fs')-> 
 (∀ (gs:List (List UInt8)),r=dV (fs++gs) (bQ R))->aI .i64 (↑r:Int)->∃ T R fs,WB A' T R fs/\gg R (∀ (A':Value->Atom) (fs':List (List UInt8)),lg T (fs++fs') R->aN (yg fs fs')->Q (SV.v (S1.c (Cl.d Ty.u8 
 (ae (fs++fs'))))) []))))
theorem acN:cM 52 aeN:=fe<| kC λl=>nK λn=>okT λT=>iB λQ h=>by
 refine Wp.dL ajP pw ⟨[],[]⟩ Tryz.f52 (Lq l n T) (hold:=[47]) ?_;unfold Lq yg ik gg eG bQ bc du cH aN bN bw;obtain ⟨hT,⟨hn,hx,hl⟩,h⟩:=h;have hnl:=j5 n.toNat l;have hb:(gA n.toNat l).length<=400000:=by
  rw [hnl];rcases hn with rfl| rfl
  .show 2*l.length<=_;omega
  .show 4*l.length<=_;omega
 refine λ_ _=>⟨hT,λA hA=>⟨hn,hx,hl,λ_ _=>⟨T,[],[],hA,by rw [aL];omega,λA' r fs' hA' hr _=>⟨T,_,_,hA',by rw [eE];omega,λA'' fs'' hR _=>h _ hR⟩⟩⟩⟩
def To:Ct
 | [.v (.c cl)],[],Q=>(match (Ty.sl noTy).of [cl] with
  | some (l,[])=>(l.length:Int)<=1000/\dK l≠0/\Q (.cZ [.c (.d noTy []),.c (.k (.int .i64 (dK l)))]) []
  | _=>False)
 | _,_,_=>False
def Tn:Ct
 | [.v (.c cl)],[],Q=>(match (Ty.sl noTy).of [cl] with
  | some (l,[])=>(l.length:Int)<=1000/\dK l=0/\∀ L':List bx,L'.Perm l->L'.Pairwise (λx y=>¬cmpL y.1 x.1< 0)->Q (.cZ [.c (.d noTy (dg L' [])),.c (.k (.int .i64 0))]) []
  | _=>False)
 | _,_,_=>False
theorem ach:cM 45 To:=λargs H Q h=>by
 unfold To at h;split at h
 .refine Ka _ _ _ ?_;unfold xt;split at h
  .rename_i hq;simp only [hq];exact ⟨h.1,by rw [show (dK _ !=0)=true by simpa using h.2.1];exact h.2.2⟩
  .cases h
 .cases h
theorem acg:cM 45 Tn:=λargs H Q h=>by
 unfold Tn at h;split at h
 .refine Ka _ _ _ ?_;unfold xt;split at h
  .rename_i hq;simp only [hq];exact ⟨h.1,by rw [show (dK _ !=0)=false by simpa using h.2.1];exact h.2.2⟩
  .cases h
 .cases h
def Dx:Ct
 | [.v (.c cl)],[],Q=>(match (Ty.sl noTy).of [cl] with
  | some (l,[])=>(l.length:Int)<=40/\dK l≠0/\Q (.cZ [.c (.d .u8 []),.c (.k (.int .i64 (dK l)))]) []
  | _=>False)
 | _,_,_=>False
def ajO:=jr.add ach
def Fz (l:(List (noTy).den)):dE:=λQ=>gn l ((aF l)<=(1000:Int)/\dK l≠0/\(bC<=eU->aI .i64 (dK l)->br (dK l !=0) (Q (.cZ [.c (.k cA),.c (.k (.int .i64 (dK l)))]) []) False))
theorem Xg:cM 26 Dx:=by
 intro args H Q h;unfold Dx at h;split at h;rotate_left;cases h;rename_i cl;split at h;rotate_left;cases h;rename_i l hl;refine Wp.said (args':=[.c (.d noTy l)]) (λE g=>bE.dd (dR hl) (λ_ h=>h)) ?_;clear hl;refine Wp.lY [some (.sl .u8),none] [0] ?_;refine Wp.dL ajO pw ⟨[],[]⟩ Tryz.f26 (Fz l) (unr:=[(15,7)]) ?_;unfold Fz gn eU cA aF bC;obtain ⟨hl,hc,h⟩:=h;refine λ_=>⟨by omega,hc,λ_ _=>aw (λ_=>⟨cr _,h⟩) (λq=>absurd (by simpa using q) hc)⟩
def Dw:Ct
 | [.v (.c cl)],[],Q=>(match (Ty.sl noTy).of [cl] with
  | some (l,[])=>(l.length:Int)<=40/\dK l=0/\∀ L' im,L'.Perm l->L'.Pairwise (λx y=>¬cmpL y.1 x.1< 0)->T8 im (dg L' [])->Q (.cZ [.c (.d .u8 im),.c (.k (.int .i64 0))]) []
  | _=>False)
 | _,_,_=>False
def ajN:=((((((((((jr.add Bb).add EG).add Kv).add ae2).add A9).add Hw).add Be).add acg).add Uw).add Uu).add acN
abbrev Ik (R:Prop):=bN=bN/\bN=bN/\ah<=ah/\ah< (↑bN:Int)/\bN=bN/\R
abbrev Cf (y0:List bx):=aB noTy (dg y0 []) ah
def Fy (l:(List (noTy).den)):dE:=λQ=>gn l ((aF l)<=(1000:Int)/\dK l=ah/\∀ (L':List bx),yo L' l (aN (List.length (dg L' []))->aI .i64 0->bu (Ik (∀ (A:Value->Atom),WB A dN [] []->ah<=ah/\ah< oA/\ 
 bN=bN/\∀ (A_1:Value->Atom),WB A_1 dN [] []->ah<=ah/\ah< oA/\bN=bN/\∀ (A_2:Value->Atom),WB A_2 dN [] []->List.length (dg L' [])<=1100/\∀ (ys:List Int),Oh (dg L' []) ys-> 
 aN (List.length ys)->ah<=ah/\ah< oA/\(List.length (dg L' [])<=40/\(∀ (x:Ty.den (noTy)),List.Mem x (dg L' [])->List.length x.2.2.2.2.1<=4096)/\(∀ (x:Ty.den (noTy)),List.Mem x (dg L' [])->∀ (y:Ty.den 
 (noTy)),List.Mem y (dg L' [])->x.2.1=y.2.1->x.2.2=y.2.2)/\bC=bC)/\∃ T fi,jX (List.map (λl=>HO.fw (iw [bC,bj,bJ]) (lN [.cells 157 [Cl.de (.int .u32) dN ah bC,.k (.int .i64 64),.o 2,Cl.m 
 bJ],kY [],.sl 5 Ty.u8 []] l)) [bC,bj,bJ])=jX [.cells 157 [Cl.de (.int .u32) T ah bC,.k (aE fi),.o 1,Cl.m bj],.sl 5 Ty.u8 [],kY []]/\eG T ((0<=fi/\fi<=1000000)/\∀ (F':List (Int×Ty.den 
 eH)) (b':List UInt8) (M':List (Kk.den Kk.str×Ty.den bw)) (row:List UInt8) (bg pl:List Int),rT (dg L' []) T fi b' row bg F'->A8 row bg->rG T fi b' (mL row bg (List.length bg)) pl->List.length b'<=180000-> 
 List.length pl<=40->aN (List.length pl)->rV (dg L' []) ys F'/\(ah<=ah/\ah< (a6 (dg L' []))/\17<=List.length (Cf L').1+17)/\∃ T_1 s,Ws A A_1 A_2 T_1 s/\ []=s.Mr/\ []=s.Ms/\List.length s.Ms<= 
 List.length s.Mr/\DN (dg L' []) ys F' s bC/\∀ (A1' A2' A3':Value->Atom) (t:BS) (r:Int),Ws A1' A2' A3' T_1 t->List.length t.Ms<=List.length t.Mr->Hr (dg L' []) ys F' s t bC (Cf L').1 (List.length (Cf 
 L').1)->Kk.get Kk.int t.Mr (Cf L').2.1=some r->aI .i64 r->aN (bQ t.Mr)->aN (List.length ys)->aN (List.length pl)->gv=gv/\ah<=gv/\gv<=(140737488355328:Int)/\∃ T_2 fi_1 b M,jX [.cells 157 
 [Cl.de (.int .u32) T ah bC,.k (aE fi),.o 1,Cl.m bj],.sl 5 Ty.u8 b',kY M']=jX [.cells 157 [Cl.de (.int .u32) T_2 ah bC,.k (aE fi_1),.o 1,Cl.m bj],.sl 5 Ty.u8 b,kY M]/\kg b (aN (bQ b)->∃ T R 
 fs,WB A1' T R fs/\gg R (∀ (A':Value->Atom) (fs':List (List UInt8)),lg T (fs++fs') R->aN (yg fs fs')->∃ T R bT,WB A2' T R bT/\gg R (∀ (A':Value->Atom) (bf:List (List UInt8)),lg T (bT++bf) R 
 ->aN (yg bT bf)->ah<=ah/\ah< oA/\bN=bN/\((cH=du\/cH=cH)/\(∀ (x:Ty.den bw),x∈pl->(0:Ty.den bw)<=x/\x< (256:Ty.den bw) ^ cX)/\List.length pl<=100000)/\∀ 
 (bW:List (List UInt8)),lg dN bW (gA cX pl)->aN (List.length (ae bW))->ah<=ah/\ah< oA/\bN=bN/\((du=du\/du=cH)/\(∀ (x:Ty.den bw),x∈ys->(0:Ty.den bw) 
 <=x/\x< (256:Ty.den bw) ^ bj)/\List.length ys<=100000)/\∀ (bU:List (List UInt8)),lg dN bU (gA bj ys)->aN (List.length (ae bU))->∃ T R bS,WB A3' T R bS/\gg R (∀ (A':Value->Atom) 
 (bd:List (List UInt8)),lg T (bS++bd) R->aN (yg bS bd)->zQ<=eU/\ah<=ah/\ah< (↑zQ:Int)/\ah<=ah/\ah< (↑(List.length [b,ae (fs++fs'),ae (bT++bf), 
 ae bW,ae bU,ae (bS++bd)]):Int)/\ah<=ah/\ah< (↑(List.length [b,ae (fs++fs'),ae (bT++bf),ae bW,ae bU,ae (bS++ 
 bd)]):Int)/\(Ty.ok bD (aB bD [b,ae (fs++fs'),ae (bT++bf),ae bW,ae bU,ae (bS++bd)] ah)->(64+List.length (aB bD [b,ae (fs++fs'), 
 ae (bT++bf),ae bW,ae bU,ae (bS++bd)] ah))*1<=cC/\64+List.length (aB bD [b,ae (fs++fs'),ae (bT++bf),ae bW,ae 
 bU,ae (bS++bd)] ah)<=9223372036854775807/\(aN (List.length (au ef eC++aB bD [b,ae (fs++fs'),ae (bT++bf),ae bW,ae bU,ae 
 (bS++bd)] ah))->aI .i64 dG/\ah<=ah+1/\ah+1< (↑zQ:Int)/\ah<=ah+1/\ah+1< (↑(List.length [b,ae (fs++fs'),ae (bT++bf),ae bW,ae bU, 
 ae (bS++bd)]):Int)/\ah<=ah+1/\ah+1< (↑(List.length [b,ae (fs++fs'),ae (bT++bf),ae bW,ae bU,ae (bS++bd)]):Int)/\(Ty.ok bD 
 (aB bD [b,ae (fs++fs'),ae (bT++bf),ae bW,ae bU,ae (bS++bd)] dG)->(List.length (au ef eC++aB bD [b,ae (fs++fs'), 
 ae (bT++bf),ae bW,ae bU,ae (bS++bd)] ah)+List.length (aB bD [b,ae (fs++fs'),ae (bT++bf),ae bW,ae bU,ae 
 (bS++bd)] dG))*1<=cC/\List.length (au ef eC++aB bD [b,ae (fs++fs'),ae (bT++bf),ae bW,ae bU,ae (bS++bd)] ah)+List.length 
 (aB bD [b,ae (fs++fs'),ae (bT++bf),ae bW,ae bU,ae (bS++bd)] dG)<=9223372036854775807/\(aN (List.length (au ef eC++aB bD [b, 
 ae (fs++fs'),ae (bT++bf),ae bW,ae bU,ae (bS++bd)] ah++aB bD [b,ae (fs++fs'),ae (bT++bf),ae bW,ae bU, 
 ae (bS++bd)] dG))->aI .i64 dS/\ah<=ah+1+1/\ah+1+1< (↑zQ:Int)/\ah<=ah+1+1/\ah+1+1< (↑(List.length [b,ae (fs++fs'),ae (bT++bf), 
 ae bW,ae bU,ae (bS++bd)]):Int)/\ah<=ah+1+1/\ah+1+1< (↑(List.length [b,ae (fs++fs'),ae (bT++bf),ae bW,ae bU, 
 ae (bS++bd)]):Int)/\(Ty.ok bD (aB bD [b,ae (fs++fs'),ae (bT++bf),ae bW,ae bU,ae (bS++bd)] dS)->(List.length (au ef eC 
 ++aB bD [b,ae (fs++fs'),ae (bT++bf),ae bW,ae bU,ae (bS++bd)] ah++aB bD [b,ae (fs++fs'),ae (bT++bf),ae bW, 
 ae bU,ae (bS++bd)] dG)+List.length (aB bD [b,ae (fs++fs'),ae (bT++bf),ae bW,ae bU,ae (bS++bd)] dS))*1<=cC/\ 
 List.length (au ef eC++aB bD [b,ae (fs++fs'),ae (bT++bf),ae bW,ae bU,ae (bS++bd)] ah++aB bD [b,ae (fs++fs'), 
 ae (bT++bf),ae bW,ae bU,ae (bS++bd)] dG)+List.length (aB bD [b,ae (fs++fs'),ae (bT++bf),ae bW,ae bU,ae 
 (bS++bd)] dS)<=9223372036854775807/\(aN (List.length (au ef eC++aB bD [b,ae (fs++fs'),ae (bT++bf),ae bW,ae bU,ae (bS++bd)] 
 ah++aB bD [b,ae (fs++fs'),ae (bT++bf),ae bW,ae bU,ae (bS++bd)] dG++aB bD [b,ae (fs++fs'),ae (bT++bf),ae 
 bW,ae bU,ae (bS++bd)] dS))->aI .i64 ee/\ah<=ah+1+1+1/\ah+1+1+1< (↑zQ:Int)/\ah<=ah+1+1+1/\ah+1+1+1< (↑(List.length [b,ae (fs++fs'), 
 ae (bT++bf),ae bW,ae bU,ae (bS++bd)]):Int)/\ah<=ah+1+1+1/\ah+1+1+1< (↑(List.length [b,ae (fs++fs'),ae (bT++bf), 
 ae bW,ae bU,ae (bS++bd)]):Int)/\(Ty.ok bD (aB bD [b,ae (fs++fs'),ae (bT++bf),ae bW,ae bU,ae (bS++bd)] ee)-> 
 (List.length (au ef eC++aB bD [b,ae (fs++fs'),ae (bT++bf),ae bW,ae bU,ae (bS++bd)] ah++aB bD [b,ae (fs++fs'), 
 ae (bT++bf),ae bW,ae bU,ae (bS++bd)] dG++aB bD [b,ae (fs++fs'),ae (bT++bf),ae bW,ae bU,ae (bS++ 
 bd)] dS)+List.length (aB bD [b,ae (fs++fs'),ae (bT++bf),ae bW,ae bU,ae (bS++bd)] ee))*1<=cC/\List.length (au ef eC++aB 
 bD [b,ae (fs++fs'),ae (bT++bf),ae bW,ae bU,ae (bS++bd)] ah++aB bD [b,ae (fs++fs'),ae (bT++bf),ae bW, 
 ae bU,ae (bS++bd)] dG++aB bD [b,ae (fs++fs'),ae (bT++bf),ae bW,ae bU,ae (bS++bd)] dS)+List.length (aB bD [b, 
 ae (fs++fs'),ae (bT++bf),ae bW,ae bU,ae (bS++bd)] ee)<=9223372036854775807/\(aN (List.length (au ef eC++aB bD [b,ae (fs++ 
 fs'),ae (bT++bf),ae bW,ae bU,ae (bS++bd)] ah++aB bD [b,ae (fs++fs'),ae (bT++bf),ae bW,ae bU,ae (bS 
 ++bd)] dG++aB bD [b,ae (fs++fs'),ae (bT++bf),ae bW,ae bU,ae (bS++bd)] dS++aB bD [b,ae (fs++fs'),ae (bT++bf), 
 ae bW,ae bU,ae (bS++bd)] ee))->aI .i64 eV/\fV (ah+1+1+1+1< (↑zQ:Int)/\fV (ah+1+1+1+1< (↑(List.length [b,ae (fs++fs'),ae (bT++ 
 bf),ae bW,ae bU,ae (bS++bd)]):Int)/\fV (ah+1+1+1+1< (↑(List.length [b,ae (fs++fs'),ae (bT++bf),ae bW,ae bU, 
 ae (bS++bd)]):Int)/\(Ty.ok bD (aB bD [b,ae (fs++fs'),ae (bT++bf),ae bW,ae bU,ae (bS++bd)] eV)->(List.length (au ef eC 
 ++aB bD [b,ae (fs++fs'),ae (bT++bf),ae bW,ae bU,ae (bS++bd)] ah++aB bD [b,ae (fs++fs'),ae (bT++bf),ae bW, 
 ae bU,ae (bS++bd)] dG++aB bD [b,ae (fs++fs'),ae (bT++bf),ae bW,ae bU,ae (bS++bd)] dS++aB bD [b,ae (fs++ 
 fs'),ae (bT++bf),ae bW,ae bU,ae (bS++bd)] ee)+List.length (aB bD [b,ae (fs++fs'),ae (bT++bf),ae bW,ae bU, 
 ae (bS++bd)] eV))*1<=cC/\List.length (au ef eC++aB bD [b,ae (fs++fs'),ae (bT++bf),ae bW,ae bU,ae (bS++bd)] ah 
 ++aB bD [b,ae (fs++fs'),ae (bT++bf),ae bW,ae bU,ae (bS++bd)] dG++aB bD [b,ae (fs++fs'),ae (bT++bf),ae bW, 
 ae bU,ae (bS++bd)] dS++aB bD [b,ae (fs++fs'),ae (bT++bf),ae bW,ae bU,ae (bS++bd)] ee)+List.length (aB bD [b, 
 ae (fs++fs'),ae (bT++bf),ae bW,ae bU,ae (bS++bd)] eV)<=9223372036854775807/\(aN (List.length (au ef eC++aB bD [b,ae (fs++ 
 fs'),ae (bT++bf),ae bW,ae bU,ae (bS++bd)] ah++aB bD [b,ae (fs++fs'),ae (bT++bf),ae bW,ae bU,ae (bS 
 ++bd)] dG++aB bD [b,ae (fs++fs'),ae (bT++bf),ae bW,ae bU,ae (bS++bd)] dS++aB bD [b,ae (fs++fs'),ae (bT++bf), 
 ae bW,ae bU,ae (bS++bd)] ee++aB bD [b,ae (fs++fs'),ae (bT++bf),ae bW,ae bU,ae (bS++bd)] eV))->aI .i64 fZ/\ 
 ah<=ah+1+1+1+1+1/\ah+1+1+1+1+1< (↑zQ:Int)/\ah<=ah+1+1+1+1+1/\ah+1+1+1+1+1< (↑(List.length [b,ae (fs++fs'),ae (bT++bf),ae bW, 
 ae bU,ae (bS++bd)]):Int)/\ah<=ah+1+1+1+1+1/\ah+1+1+1+1+1< (↑(List.length [b,ae (fs++fs'),ae (bT++bf),ae bW,ae bU, 
 ae (bS++bd)]):Int)/\(Ty.ok bD (aB bD [b,ae (fs++fs'),ae (bT++bf),ae bW,ae bU,ae (bS++bd)] fZ)->(List.length (au ef eC 
 ++aB bD [b,ae (fs++fs'),ae (bT++bf),ae bW,ae bU,ae (bS++bd)] ah++aB bD [b,ae (fs++fs'),ae (bT++bf),ae bW, 
 ae bU,ae (bS++bd)] dG++aB bD [b,ae (fs++fs'),ae (bT++bf),ae bW,ae bU,ae (bS++bd)] dS++aB bD [b,ae (fs++ 
 fs'),ae (bT++bf),ae bW,ae bU,ae (bS++bd)] ee++aB bD [b,ae (fs++fs'),ae (bT++bf),ae bW,ae bU,ae (bS 
 ++bd)] eV)+List.length (aB bD [b,ae (fs++fs'),ae (bT++bf),ae bW,ae bU,ae (bS++bd)] fZ))*1<=cC/\List.length (au ef eC++aB 
 bD [b,ae (fs++fs'),ae (bT++bf),ae bW,ae bU,ae (bS++bd)] ah++aB bD [b,ae (fs++fs'),ae (bT++bf),ae bW, 
 ae bU,ae (bS++bd)] dG++aB bD [b,ae (fs++fs'),ae (bT++bf),ae bW,ae bU,ae (bS++bd)] dS++aB bD [b,ae (fs++ 
 fs'),ae (bT++bf),ae bW,ae bU,ae (bS++bd)] ee++aB bD [b,ae (fs++fs'),ae (bT++bf),ae bW,ae bU,ae (bS 
 ++bd)] eV)+List.length (aB bD [b,ae (fs++fs'),ae (bT++bf),ae bW,ae bU,ae (bS++bd)] fZ)<=9223372036854775807/\(aN (List.length (au 
 ef eC++aB bD [b,ae (fs++fs'),ae (bT++bf),ae bW,ae bU,ae (bS++bd)] ah++aB bD [b,ae (fs++fs'),ae (bT++bf), 
 ae bW,ae bU,ae (bS++bd)] dG++aB bD [b,ae (fs++fs'),ae (bT++bf),ae bW,ae bU,ae (bS++bd)] dS++aB bD [b, 
 ae (fs++fs'),ae (bT++bf),ae bW,ae bU,ae (bS++bd)] ee++aB bD [b,ae (fs++fs'),ae (bT++bf),ae bW,ae bU, 
 ae (bS++bd)] eV++aB bD [b,ae (fs++fs'),ae (bT++bf),ae bW,ae bU,ae (bS++bd)] fZ))->aI .i64 ln/\br (decide ((a6 (au 
 ef eC++aB bD [b,ae (fs++fs'),ae (bT++bf),ae bW,ae bU,ae (bS++bd)] ah++aB bD [b,ae (fs++fs'),ae (bT++bf), 
 ae bW,ae bU,ae (bS++bd)] dG++aB bD [b,ae (fs++fs'),ae (bT++bf),ae bW,ae bU,ae (bS++bd)] dS++aB bD [b, 
 ae (fs++fs'),ae (bT++bf),ae bW,ae bU,ae (bS++bd)] ee++aB bD [b,ae (fs++fs'),ae (bT++bf),ae bW,ae bU, 
 ae (bS++bd)] eV++aB bD [b,ae (fs++fs'),ae (bT++bf),ae bW,ae bU,ae (bS++bd)] fZ))>(1048576:Int))) (sC Q) (ah<=ah/\ah< 
 oA/\bN=bN/\rE ((a6 (au ef eC++aB bD [b,ae (fs++fs'),ae (bT++bf),ae bW,ae bU,ae (bS++bd)] ah++aB bD [b, 
 ae (fs++fs'),ae (bT++bf),ae bW,ae bU,ae (bS++bd)] dG++aB bD [b,ae (fs++fs'),ae (bT++bf),ae bW,ae bU, 
 ae (bS++bd)] dS++aB bD [b,ae (fs++fs'),ae (bT++bf),ae bW,ae bU,ae (bS++bd)] ee++aB bD [b,ae (fs++fs'),ae 
 (bT++bf),ae bW,ae bU,ae (bS++bd)] eV++aB bD [b,ae (fs++fs'),ae (bT++bf),ae bW,ae bU,ae (bS++bd)] fZ)), 
 (a6 t.Mr),(a6 (au ef eC++aB bD [b,ae (fs++fs'),ae (bT++bf),ae bW,ae bU,ae (bS++bd)] ah)),(a6 (au ef eC++aB 
 bD [b,ae (fs++fs'),ae (bT++bf),ae bW,ae bU,ae (bS++bd)] ah++aB bD [b,ae (fs++fs'),ae (bT++bf),ae bW, 
 ae bU,ae (bS++bd)] dG)),(a6 (au ef eC++aB bD [b,ae (fs++fs'),ae (bT++bf),ae bW,ae bU,ae (bS++bd)] ah 
 ++aB bD [b,ae (fs++fs'),ae (bT++bf),ae bW,ae bU,ae (bS++bd)] dG++aB bD [b,ae (fs++fs'),ae (bT++bf),ae bW, 
 ae bU,ae (bS++bd)] dS)),(a6 (au ef eC++aB bD [b,ae (fs++fs'),ae (bT++bf),ae bW,ae bU,ae (bS++bd)] ah 
 ++aB bD [b,ae (fs++fs'),ae (bT++bf),ae bW,ae bU,ae (bS++bd)] dG++aB bD [b,ae (fs++fs'),ae (bT++bf),ae bW, 
 ae bU,ae (bS++bd)] dS++aB bD [b,ae (fs++fs'),ae (bT++bf),ae bW,ae bU,ae (bS++bd)] ee)),(a6 (au ef eC 
 ++aB bD [b,ae (fs++fs'),ae (bT++bf),ae bW,ae bU,ae (bS++bd)] ah++aB bD [b,ae (fs++fs'),ae (bT++bf),ae bW, 
 ae bU,ae (bS++bd)] dG++aB bD [b,ae (fs++fs'),ae (bT++bf),ae bW,ae bU,ae (bS++bd)] dS++aB bD [b,ae (fs++ 
 fs'),ae (bT++bf),ae bW,ae bU,ae (bS++bd)] ee++aB bD [b,ae (fs++fs'),ae (bT++bf),ae bW,ae bU,ae (bS 
 ++bd)] eV)),(aF ys),(aF pl),r,())/\(List.length (fS dN ((a6 (au ef eC++aB bD [b,ae (fs++fs'),ae (bT++bf),ae bW,ae bU,ae 
 (bS++bd)] ah++aB bD [b,ae (fs++fs'),ae (bT++bf),ae bW,ae bU,ae (bS++bd)] dG++aB bD [b,ae (fs++fs'),ae (bT++bf), 
 ae bW,ae bU,ae (bS++bd)] dS++aB bD [b,ae (fs++fs'),ae (bT++bf),ae bW,ae bU,ae (bS++bd)] ee++aB bD [b, 
 ae (fs++fs'),ae (bT++bf),ae bW,ae bU,ae (bS++bd)] eV++aB bD [b,ae (fs++fs'),ae (bT++bf),ae bW,ae bU, 
 ae (bS++bd)] fZ)),(a6 t.Mr),(a6 (au ef eC++aB bD [b,ae (fs++fs'),ae (bT++bf),ae bW,ae bU,ae (bS++bd)] ah)), 
 (a6 (au ef eC++aB bD [b,ae (fs++fs'),ae (bT++bf),ae bW,ae bU,ae (bS++bd)] ah++aB bD [b,ae (fs++fs'),ae 
 (bT++bf),ae bW,ae bU,ae (bS++bd)] dG)),(a6 (au ef eC++aB bD [b,ae (fs++fs'),ae (bT++bf),ae bW,ae bU, 
 ae (bS++bd)] ah++aB bD [b,ae (fs++fs'),ae (bT++bf),ae bW,ae bU,ae (bS++bd)] dG++aB bD [b,ae (fs++fs'),ae 
 (bT++bf),ae bW,ae bU,ae (bS++bd)] dS)),(a6 (au ef eC++aB bD [b,ae (fs++fs'),ae (bT++bf),ae bW,ae bU, 
 ae (bS++bd)] ah++aB bD [b,ae (fs++fs'),ae (bT++bf),ae bW,ae bU,ae (bS++bd)] dG++aB bD [b,ae (fs++fs'),ae 
 (bT++bf),ae bW,ae bU,ae (bS++bd)] dS++aB bD [b,ae (fs++fs'),ae (bT++bf),ae bW,ae bU,ae (bS++bd)] ee)), 
 (a6 (au ef eC++aB bD [b,ae (fs++fs'),ae (bT++bf),ae bW,ae bU,ae (bS++bd)] ah++aB bD [b,ae (fs++fs'),ae 
 (bT++bf),ae bW,ae bU,ae (bS++bd)] dG++aB bD [b,ae (fs++fs'),ae (bT++bf),ae bW,ae bU,ae (bS++bd)] dS++ 
 aB bD [b,ae (fs++fs'),ae (bT++bf),ae bW,ae bU,ae (bS++bd)] ee++aB bD [b,ae (fs++fs'),ae (bT++bf),ae bW, 
 ae bU,ae (bS++bd)] eV)),(aF ys),(aF pl),r,()))<=9223372036854775807->aI .i64 0->Q nv [.sl 5 Ty.u8 (l5 (au ef eC++aB bD [b,ae (fs++fs'),ae 
 (bT++bf),ae bW,ae bU,ae (bS++bd)] ah++aB bD [b,ae (fs++fs'),ae (bT++bf),ae bW,ae bU,ae (bS++bd)] dG++ 
 aB bD [b,ae (fs++fs'),ae (bT++bf),ae bW,ae bU,ae (bS++bd)] dS++aB bD [b,ae (fs++fs'),ae (bT++bf),ae bW, 
 ae bU,ae (bS++bd)] ee++aB bD [b,ae (fs++fs'),ae (bT++bf),ae bW,ae bU,ae (bS++bd)] eV++aB bD [b,ae (fs++ 
 fs'),ae (bT++bf),ae bW,ae bU,ae (bS++bd)] fZ) bC (fS dN ((a6 (au ef eC++aB bD [b,ae (fs++fs'),ae (bT++bf), 
 ae bW,ae bU,ae (bS++bd)] ah++aB bD [b,ae (fs++fs'),ae (bT++bf),ae bW,ae bU,ae (bS++bd)] dG++aB bD [b, 
 ae (fs++fs'),ae (bT++bf),ae bW,ae bU,ae (bS++bd)] dS++aB bD [b,ae (fs++fs'),ae (bT++bf),ae bW,ae bU, 
 ae (bS++bd)] ee++aB bD [b,ae (fs++fs'),ae (bT++bf),ae bW,ae bU,ae (bS++bd)] eV++aB bD [b,ae (fs++fs'),ae 
 (bT++bf),ae bW,ae bU,ae (bS++bd)] fZ)),(a6 t.Mr),(a6 (au ef eC++aB bD [b,ae (fs++fs'),ae (bT++bf),ae bW, 
 ae bU,ae (bS++bd)] ah)),(a6 (au ef eC++aB bD [b,ae (fs++fs'),ae (bT++bf),ae bW,ae bU,ae (bS++bd)] ah 
 ++aB bD [b,ae (fs++fs'),ae (bT++bf),ae bW,ae bU,ae (bS++bd)] dG)),(a6 (au ef eC++aB bD [b,ae (fs++fs'),ae 
 (bT++bf),ae bW,ae bU,ae (bS++bd)] ah++aB bD [b,ae (fs++fs'),ae (bT++bf),ae bW,ae bU,ae (bS++bd)] dG++ 
 aB bD [b,ae (fs++fs'),ae (bT++bf),ae bW,ae bU,ae (bS++bd)] dS)),(a6 (au ef eC++aB bD [b,ae (fs++fs'),ae 
 (bT++bf),ae bW,ae bU,ae (bS++bd)] ah++aB bD [b,ae (fs++fs'),ae (bT++bf),ae bW,ae bU,ae (bS++bd)] dG++ 
 aB bD [b,ae (fs++fs'),ae (bT++bf),ae bW,ae bU,ae (bS++bd)] dS++aB bD [b,ae (fs++fs'),ae (bT++bf),ae bW, 
 ae bU,ae (bS++bd)] ee)),(a6 (au ef eC++aB bD [b,ae (fs++fs'),ae (bT++bf),ae bW,ae bU,ae (bS++bd)] ah 
 ++aB bD [b,ae (fs++fs'),ae (bT++bf),ae bW,ae bU,ae (bS++bd)] dG++aB bD [b,ae (fs++fs'),ae (bT++bf),ae bW, 
 ae bU,ae (bS++bd)] dS++aB bD [b,ae (fs++fs'),ae (bT++bf),ae bW,ae bU,ae (bS++bd)] ee++aB bD [b,ae (fs++ 
 fs'),ae (bT++bf),ae bW,ae bU,ae (bS++bd)] eV)),(aF ys),(aF pl),r,())))]))))))))))))))))))))))))))
theorem Xf:cM 26 Dw:=by
 intro args H Q h;unfold Dw at h;split at h;rotate_left;cases h;rename_i cl;split at h;rotate_left;cases h;rename_i l hl;refine Wp.said (args':=[.c (.d noTy l)]) (λE g=>bE.dd (dR hl) (λ_ h=>h)) ?_;clear hl;refine Wp.lY [some (.sl .u8),none] [0] ?_;refine Wp.dL ajN pw ⟨[],[]⟩ Tryz.f26 (Fy l) (hold:=[47,49,57,52]) (unr:=[(15,7)]) ?_;unfold Fy Cf oA yg kg Ik yo bu sC nv gg eG dG gn fV bQ eU eC dS ln cC ee fZ cA eV bn aE ah du cH gv a6 aF aN bC bJ bj bN cX zQ ef kY bD bw;obtain ⟨hl,hc,h⟩:=h;refine λ_=>⟨by omega,hc,λL' hp ho hnl _=>?_⟩;have g:=LB (LC hc) hp ho;have hN40:(dg L' []).length<=40:=by rw [j6,hp.length_eq];omega
 have Zl:=λim=>h L' im hp ho;clear h;generalize dg L' []=N at*;have sW:=g.pos;obtain ⟨gr1,gr2,gr3⟩:=g.root;have hm0:aB noTy N 0∈N:=rO (e:=noTy) (bp 0) (by omega);refine ⟨rfl,rfl,rfl,by decide,by decide,rfl,λA1 hA1=>⟨by decide,by decide,rfl,λA2 hA2=>⟨by decide,by decide,rfl,λA3 hA3=>⟨by omega,λys Jj _=>⟨by decide,by decide,⟨hN40,λx hx=>(sR (g.may x hx)).2,λx hx y hy e=>(g.one x hx y hy e).2,rfl⟩,dN,64,rfl,rfl,⟨by decide,by decide⟩,λF' b' M' row bg pl hF hP hPl hb DU _=>?_⟩⟩⟩⟩⟩;have hbg:bg.length<=40:=by have:=hPl.len;rw [uk] at this;omega
 have hTok:=ahA g hN40 Jj hF hP hb hbg;refine ⟨hTok,⟨bp _,by omega,by omega⟩,dN,⟨[],[],[],[],[],[],[],[]⟩,⟨hA1,hA2,hA3⟩,rfl,rfl,az _,DN.nil _ _ _,λB1 B2 B3 t r hW hM hP2 hr _ _ _ _=>?_⟩;have J3:=hP2.ok.len;have hRI:=hP2.ok.lI;have hRL:=hP2.ok.lL;have hRX:=hP2.ok.lX;have hil:=hTok.idl;have yS:=ah9 g Jj;refine ⟨rfl,by decide,by decide,dN,64,b',M',rfl,by omega,λ_=>⟨dN,t.RI,t.fI,hW.i,by omega,λ_ gI kI _=>⟨dN,t.RL,t.fL,hW.l,by omega,λ_ gL kL _=>⟨by decide,by decide,rfl,⟨.inr rfl,Yk hPl (by omega),by omega⟩,λfP kP _=>⟨by decide,by decide,rfl,⟨.inl rfl,yS,by omega⟩,λfN kN _=>⟨dN,t.RX,t.fX,hW.x,by omega,λ_ gX kX _=>?_⟩⟩⟩⟩⟩⟩;have nI:=kI.Zu;have nL:=kL.Zu;have nP:=kP.Zu;have nN:=kN.Zu;have nX:=kX.Zu;rw [kI.len] at nI;rw [kL.len] at nL;rw [kP.len,j5] at nP;rw [kN.len,j5] at nN;rw [kX.len] at nX;obtain ⟨q1,e1⟩:∃ q,(t.fI++gI).flatten=q:=⟨_,rfl⟩;obtain ⟨q2,e2⟩:∃ q,(t.fL++gL).flatten=q:=⟨_,rfl⟩;obtain ⟨q3,e3⟩:∃ q,fP.flatten=q:=⟨_,rfl⟩;obtain ⟨q4,e4⟩:∃ q,fN.flatten=q:=⟨_,rfl⟩;obtain ⟨q5,e5⟩:∃ q,(t.fX++gX).flatten=q:=⟨_,rfl⟩;rw [e1] at nI;rw [e2] at nL;rw [e3] at nP;rw [e4] at nN;rw [e5] at nX;rw [e1,e2,e3,e4,e5];have vX:=(hP2.ok.refs _ _ hr).1;have hMr:0< t.Mr.length:=List.length_pos_of_mem (oN (κ:=Int) hr);have hyl:0< ys.length:=List.length_pos_of_mem ((Jj.mem _).2 ⟨_,hm0,.inl rfl⟩);have six:(List.length [b',q1,q2,q3,q4,q5])=6:=rfl;have x0:aB (Ty.sl Ty.u8) [b',q1,q2,q3,q4,q5] ((0:Int))=b':=rfl;have x1:aB (Ty.sl Ty.u8) [b',q1,q2,q3,q4,q5] ((0:Int)+(1:Int))=q1:=rfl;have x2:aB (Ty.sl Ty.u8) [b',q1,q2,q3,q4,q5] ((0:Int)+(1:Int)+(1:Int))=q2:=rfl;have x3:aB (Ty.sl Ty.u8) [b',q1,q2,q3,q4,q5] ((0:Int)+(1:Int)+(1:Int)+(1:Int))=q3:=rfl;have x4:aB (Ty.sl Ty.u8) [b',q1,q2,q3,q4,q5] ((0:Int)+(1:Int)+(1:Int)+(1:Int)+(1:Int))=q4:=rfl;have x5:aB (Ty.sl Ty.u8) [b',q1,q2,q3,q4,q5] ((0:Int)+(1:Int)+(1:Int)+(1:Int)+(1:Int)+(1:Int))=q5:=rfl;simp only [x0,x1,x2,x3,x4,x5,six];clear x0 x1 x2 x3 x4 x5 six;have hS:∀ z0 z2 z3 z4 z5 z6:Int,z2=64+(b'.length:Int)->z3=z2+q1.length->z4=z3+q2.length->z5=z4+q3.length->z6=z5+q4.length->z0=z6+q5.length->rE (z0,(t.Mr.length:Int),z2,z3,z4,z5,z6,(ys.length:Int),(pl.length:Int),r,()):=λz0 z2 z3 z4 z5 z6 w2 w3 w4 w5 w6 w0=>⟨by show (64:Int)<=z2;omega,by show z2<=z3;omega,by show z3<=z4;omega,by show z4<=z5;omega,by show z5<=z6;omega,by show z6<=z0;omega,by show z0<=1048576;omega,by show (1:Int)<=(t.Mr.length:Int)/\(t.Mr.length:Int)<=1024;omega,by show (1:Int)<=(ys.length:Int)/\(ys.length:Int)<=2048;omega,by show (0:Int)<=(pl.length:Int)/\(pl.length:Int)<=1024;omega,vX⟩;refine ⟨by decide,by decide,by decide,by decide,by decide,by decide,by decide,λ_=>⟨by first| omega| (simp only [af,aT];omega),by first| omega| (simp only [af,aT];omega),λ_=>⟨by unfold aI;omega,⟨by decide,by decide,by decide,by decide,by decide,by decide,λ_=>⟨by first| omega| (simp only [af,aT];omega),by first| omega| (simp only [af,aT];omega),λ_=>⟨by unfold aI;omega,⟨by decide,by decide,by decide,by decide,by decide,by decide,λ_=>⟨by first| omega| (simp only [af,aT];omega),by first| omega| (simp only [af,aT];omega),λ_=>⟨by unfold aI;omega,⟨by decide,by decide,by decide,by decide,by decide,by decide,λ_=>⟨by first| omega| (simp only [af,aT];omega),by first| omega| (simp only [af,aT];omega),λ_=>⟨by unfold aI;omega,⟨by decide,by decide,by decide,by decide,by decide,by decide,λ_=>⟨by first| omega| (simp only [af,aT];omega),by first| omega| (simp only [af,aT];omega),λ_=>⟨by unfold aI;omega,⟨by decide,by decide,by decide,by decide,by decide,by decide,λ_=>⟨by first| omega| (simp only [af,aT];omega),by first| omega| (simp only [af,aT];omega),λ_=>⟨by unfold aI;omega,aw (λhq=>absurd (of_decide_eq_true hq) (by first| omega| (simp only [af,aT];omega))) (λ_=>⟨by decide,by decide,by trivial,hS _ _ _ _ _ _ (by first| omega| (simp only [af,aT];omega)) (by first| omega| (simp only [af,aT];omega)) (by first| omega| (simp only [af,aT];omega)) (by first| omega| (simp only [af,aT];omega)) (by first| omega| (simp only [af,aT];omega)) (by first| omega| (simp only [af,aT];omega)),λ_ _=>?_⟩)⟩⟩⟩⟩⟩⟩⟩⟩⟩⟩⟩⟩⟩⟩⟩⟩⟩⟩
 exact ⟨cr _,Zl _ (ah8 e1 e2 e3 e4 e5 hTok ⟨_,hm0,gr1,gr2,hr⟩ hP2.ok (λx hx=>hP2.cov x hx (by unfold pre;rw [gr1];rfl) (by rw [gr1];exact cr _)) hF hP hPl ⟨kI,gI,rfl⟩ ⟨kL,gL,rfl⟩ ⟨kX,gX,rfl⟩ kP kN yS (hS _ _ _ _ _ _ (by first| omega| (simp only [af,aT];omega)) (by first| omega| (simp only [af,aT];omega)) (by first| omega| (simp only [af,aT];omega)) (by first| omega| (simp only [af,aT];omega)) (by first| omega| (simp only [af,aT];omega)) (by first| omega| (simp only [af,aT];omega))))⟩
def TL:Ct
 | [.v (.c cl)],[],Q=>(match (Ty.sl noTy).of [cl] with
  | some (l,[])=>(l.length:Int)<=40/\br (dK l !=0) (Q (.cZ [.c (.d .u8 []),.c (.k (.int .i64 (dK l)))]) []) (∀ L' im,L'.Perm l->L'.Pairwise (λx y=>¬cmpL y.1 x.1< 0)->T8 im (dg L' [])->Q (.cZ [.c (.d .u8 im),.c (.k (.int .i64 0))]) [])
  | _=>False)
 | _,_,_=>False
theorem acM:cM 26 TL:=λargs H Q h=>by
 unfold TL at h;split at h
 .rename_i cl;cases hq:(Ty.sl noTy).of [cl] with
  | none=>rw [hq] at h;exact h.elim
  | some q=>
   obtain ⟨l,r⟩:=q;rw [hq] at h;cases r with
   | cons a r=>exact h.elim
   | nil=>
    obtain ⟨h1,h2⟩:=h;by_cases hc:dK l=0
    .refine Xf _ _ _ ?_;unfold Dw;simp only [hq];rw [show (dK l !=0)=false by simpa using hc] at h2;exact ⟨h1,hc,h2⟩
    .refine Xg _ _ _ ?_;unfold Dx;simp only [hq];rw [show (dK l !=0)=true by simpa using hc] at h2;exact ⟨h1,hc,h2⟩
 .cases h
end Go.Proofs

namespace Go.Lm
open Go
theorem Mh {T:List Int} {im A:List UInt8} {a c:Int} {fs S:List (List UInt8)} {R:List UInt8} (e:im=A++(fs.flatten++S.flatten)) (ea:a=A.length) (ec:c=a+fs.flatten.length) (h:lg T fs R) (hS:∀ z∈S,∃ x,DK T x z):iX T im a c fs R []:=by
 subst e ea ec;refine ⟨by omega,rfl,by simp only [af];omega,h,⟨S.flatten,by rw [bm,fB]⟩,?_,⟨[],List.nodup_nil,λk hk=>(by cases hk),rfl⟩⟩;cases S with
 | nil=>exact .inl (by simp)
 | cons z S=>
  obtain ⟨x,hx⟩:=hS z aS;refine .inr ⟨x,_,by omega,by simp only [af];omega,z,S.flatten,hx,?_,rfl⟩;rw [show ((A.length:Int)+(fs.flatten.length:Int)).toNat=A.length+fs.flatten.length by omega,<-iC,fB,fB,bF]
theorem lg.frm {T:List Int} {fs:List (List UInt8)} {R:List UInt8} (h:lg T fs R):∀ z∈fs,∃ x,DK T x z:=λz hz=>by
 obtain ⟨i,hi⟩:=List.mem_iff_getElem?.1 hz;exact ⟨_,h.fr i z hi⟩
structure Rds (T:List Int) (im:List UInt8) (d:IR):Prop where
 I:iX T im d.s.2.2.1 d.s.2.2.2.1 d.fI d.t.RI []
 L:iX T im d.s.2.2.2.1 d.s.2.2.2.2.1 d.fL d.t.RL []
 P:iX T im d.s.2.2.2.2.1 d.s.2.2.2.2.2.1 d.fP (gA 4 d.pl) []
 N:iX T im d.s.2.2.2.2.2.1 d.s.2.2.2.2.2.2.1 d.fN (gA 2 d.ids) []
 X:iX T im d.s.2.2.2.2.2.2.1 d.s.1 d.fX d.t.RX []
theorem V7 {P:List UInt8->Prop} {S S':List (List UInt8)} (h:∀ z∈S,P z) (h':∀ z∈S',P z):∀ z∈S++S',P z:=λz hz=>(aY.1 hz).elim (h z) (h' z)
theorem IR.Ok.rds {d:IR} {T:List Int} {L:List bx} (h:d.Ok T L):Rds T (d.im T) d:=by
 have fI:=h.rI.1.frm;have fL:=h.rL.1.frm;have fX:=h.rX.1.frm;have fP:=h.rP.frm;have fN:=h.rN.frm;have e0:=oq T d.s;have sI:=h.sI;have sL:=h.sL;have sP:=h.sP;have sN:=h.sN;have sX:=h.sX;have sZ:=h.sZ;unfold IR.im;refine ⟨Mh (A:=fS T d.s++d.b) (S:=d.fL++(d.fP++(d.fN++d.fX))) ?_ ?_ sL h.rI.1 (V7 fL (V7 fP (V7 fN fX))),
  Mh (A:=fS T d.s++d.b++d.fI.flatten) (S:=d.fP++(d.fN++d.fX)) ?_ ?_ sP h.rL.1 (V7 fP (V7 fN fX)),
  Mh (A:=fS T d.s++d.b++d.fI.flatten++d.fL.flatten) (S:=d.fN++d.fX) ?_ ?_ sN h.rP (V7 fN fX),
  Mh (A:=fS T d.s++d.b++d.fI.flatten++d.fL.flatten++d.fP.flatten) (S:=d.fX) ?_ ?_ sX h.rN fX,
  Mh (A:=fS T d.s++d.b++d.fI.flatten++d.fL.flatten++d.fP.flatten++d.fN.flatten) (S:=[]) ?_ ?_ sZ h.rX.1 (λz hz=>by cases hz)⟩
 all_goals first
  | (simp only [eT,aH,List.flatten_nil,a7];done)
  | (simp only [af,e0];omega)
theorem IR.Y5 {d:IR} {T:List Int} {L:List bx} (h:d.Ok T L): @Eq Int d.s.1 (d.im T).length:=by
 have:=h.sI;have:=h.sL;have:=h.sP;have:=h.sN;have:=h.sX;have:=h.sZ;unfold IR.im;simp only [af,oq];omega
theorem IR.Ok.small {d:IR} {T:List Int} {L:List bx} (h:d.Ok T L):(d.im T).length<=1048576/\d.b.length<=1048576/\d.t.RI.length<=8800/\d.t.RL.length<=420000/\d.t.RX.length<=168000/\d.pl.length<=1024/\d.ids.length<=80/\d.t.Mr.length<=40:=by
 have e:=IR.Y5 h;have p7:=h.sup.p7;have n3:=h.sup.n3;have sf:=h.sf;have hl:=h.tok.len;have hm:=h.ok.len;have hI:=h.ok.lI;have hL:=h.ok.lL;have hX:=h.ok.lX;have hi:=h.tok.idl;have hb:d.b.length<=(d.im T).length:=by
  unfold IR.im;simp only [af];omega
 have p7:(d.s.1:Int)<=1048576:=p7;have e2:((d.im T).length:Int)<=1048576:=by rw [<-e];exact p7
 have n3:(d.s.2.2.2.2.2.2.2.2.1:Int)<=1024:=n3.2;have n4:((d.pl.length:Nat):Int)<=1024:=by rw [<-sf];exact n3
 exact ⟨by omega,by omega,by omega,by omega,by omega,by omega,hi,by omega⟩
theorem Has.at {fs g:List (List UInt8)} {R b:List UInt8} {r:Int} (h:Has fs R r b):∃ o:Nat,o<=R.length/\r=(dV (fs++g) o:Nat)/\∃ q,R.drop o=b++q:=by
 obtain ⟨o,q,h1,h2⟩:=h;exact ⟨o,h1.le,h1.ref g,q,h2⟩
theorem zq.im {T:List Int} {im A b C x:List UInt8} {st:Int} (e:im=A++(b++C)) (ha:A.length=64) (hx:128<=x.length) (h:zq T 64 b st x):∃ fs,En T im st x fs/\64<=st/\st+fs.flatten.length<=64+b.length:=by
 rcases h.or with ⟨q,_⟩| ⟨_,o,rfl,q⟩;omega
 .obtain ⟨fs,r,h1,h2,h3,h4⟩:=q;have hl:=congrArg List.length h3;rw [aW,af] at hl;refine ⟨fs,⟨h1,h2,by omega,by rw [e];simp only [af];omega,r++C,?_⟩,by omega,by omega⟩;rw [e,show ((64:Int)+(o:Int)).toNat=A.length+o by omega,<-iC,fB,dz h4,h3,aH]
theorem zq.im0 {T:List Int} {im x:List UInt8} (hx:x.length< 128):En T im 0 x []:=by
 have:x.length / 128=0:=by omega
 exact ⟨by rw [this];rfl,zr.nil T x,bp _,by omega,im,rfl⟩
abbrev bK:Ty:=.pair eH (.pair (.int .i64) (.pair (.sl cR) (.pair (.sl dJ) .unit)))
abbrev iq (M:List (Int×Nat×bK.den)):HO:=.ab (.pm 3 82 bK M)
structure rF (d:IR) (N:List bx) (x:bx) (nm:Int) (r:bK.den):Prop where
 n:tB N d.ids d.F d.t x r.1
 nm:r.2.1=nm
 list:(x.2.2.1=1/\hU ⟨#[]⟩ r.2.2.1/\fH N d.t.Mr x.1.length (bX x.1 N 0) r.2.2.1)\/(x.2.2.1≠1/\r.2.2.1= [])
 xa:r.2.2.2.1=x.2.2.2.2.2.2.1
theorem tB.same {N:List bx} {ids:List Int} {F:List (Int×eH.den)} {s:BS} {x y:bx} {i:eH.den} (t:rV N ids F) (hx:x∈N) (hy:y∈N) (e:y.2.1=x.2.1) (h:tB N ids F s y i):tB N ids F s x i:=by
 obtain ⟨h1,h2⟩:=t.one x hx y hy e.symm;by_cases hk:x.2.2.1=1;rw [h1 hk];exact h
 .obtain ⟨x1,x2,x3⟩:=x;obtain ⟨y1,y2,y3⟩:=y;simp only at h2 e hk;subst h2 e;obtain ⟨q1,q2,q3,q4,q5,q6,q7,q8⟩:=h;refine ⟨q1,q2,q3,q4,q5,q6,q7,?_⟩;rcases q8 with ⟨q,_⟩| q| q
  .exact absurd q hk
  .exact .inr (.inl q)
  .exact .inr (.inr q)
theorem IR.Ok.fileAt {d:IR} {T:List Int} {N:List bx} (h:d.Ok T N) {x:bx} (hx:x∈N) (hk:x.2.2.1=2) {i:eH.den} (hi:tB N d.ids d.F d.t x i):∃ fs,En T (d.im T) i.2.2.2.2.2.2.1 x.2.2.2.2.1 fs/\ @Eq Int i.2.2.2.2.2.2.2.1 x.2.2.2.2.1.length/\(128<=x.2.2.2.2.1.length->(64:Int)<=i.2.2.2.2.2.2.1)/\(i.2.2.2.2.2.2.1:Int)+(fs.flatten.length:Int)<=d.s.2.2.1/\qp d.row d.bg i.2.2.2.2.2.2.2.2.1 i.2.2.2.2.2.2.2.2.2.1 (x.2.2.2.2.1.drop (128*(x.2.2.2.2.1.length / 128))):=by
 have sI:=h.sI;obtain ⟨st,fr,off,h1,h2,h3⟩:=h.fl.file x hx hk;rcases hi.or with ⟨q,_⟩| ⟨_,q⟩| ⟨q,_⟩;rw [hk] at q;exact absurd q (by decide)
 .rw [h1] at q;have q:=aj q;have e1:st=i.2.2.2.2.2.2.1:=congrArg (λz:eH.den=>z.2.2.2.2.2.2.1) q;have e2:(x.2.2.2.2.1.length:Int)=i.2.2.2.2.2.2.2.1:=congrArg (λz:eH.den=>z.2.2.2.2.2.2.2.1) q;have e3:fr=i.2.2.2.2.2.2.2.2.1:=congrArg (λz:eH.den=>z.2.2.2.2.2.2.2.2.1) q;have e4:off=i.2.2.2.2.2.2.2.2.2.1:=congrArg (λz:eH.den=>z.2.2.2.2.2.2.2.2.2.1) q;rw [<-e1,<-e2,<-e3,<-e4];rcases eQ x.2.2.2.2.1.length 128 with hl| hl
  .rcases h2.or with ⟨_,rfl⟩| ⟨q,_⟩
   .refine ⟨[],zq.im0 hl,rfl,λq=>by omega,?_,h3⟩;rw [sI];show (0:Int)+((0:Nat):Int)<=64+(d.b.length:Int);omega
   .omega
  .obtain ⟨fs,q1,q2,q3⟩:=zq.im (C:=d.fI.flatten++(d.fL.flatten++(d.fP.flatten++(d.fN.flatten++d.fX.flatten)))) (im:=d.im T) rfl (oq T d.s) hl h2;exact ⟨fs,q1,rfl,λ_=>q2,by rw [sI];exact q3,h3⟩
 .rw [hk] at q;exact absurd q (by decide)
theorem IR.Ok.YR {d:IR} {T:List Int} {N:List bx} (h:d.Ok T N) {x:bx} (hk:x.2.2.1=1) {i:eH.den} (hi:tB N d.ids d.F d.t x i):∃ es,hU ⟨#[]⟩ es/\fH N d.t.Mr x.1.length (bX x.1 N 0) es/\es.length<=1024/\ @Eq Int i.2.2.2.2.2.2.2.1 (gR es).length/\∃ o:Nat,o+(gR es).length<=d.t.RL.length/\(i.2.2.2.2.2.2.1:Int)=(dV d.fL o:Nat)/\(d.t.RL.drop o).take (gR es).length=gR es:=by
 rcases hi.or with ⟨_,es,h1,h2,h3,h4⟩| ⟨q,_⟩| ⟨q,_⟩
 .obtain ⟨_,g,eg⟩:=h.rL;obtain ⟨o,q1,q2,q,q3⟩:=h3.at (g:=g);rw [<-eg] at q2;have hl:=congrArg List.length q3;rw [aW,af] at hl;have hes:=h2.len;have P3:=jh x.1 (L:=N) (k:=0);have hN:=h.tok.len;exact ⟨es,h1,h2,by omega,h4,o,by omega,q2,by rw [q3,List.take_left]⟩
 .rw [hk] at q;exact absurd q (by decide)
 .rw [hk] at q;exact absurd q (by decide)
theorem IR.Ok.akq {d:IR} {T:List Int} {N:List bx} (h:d.Ok T N) {x:bx} (hx:x∈N) {i:eH.den} (hi:tB N d.ids d.F d.t x i):((i.2.2.2.2.2.1:Int)=0/\x.2.2.2.2.2.2.1= [])\/((1:Int)<=i.2.2.2.2.2.1/\x.2.2.2.2.2.2.1≠ []/\dI x.2.2.2.2.2.2.1=true/\∃ o:Nat,o<=d.t.RX.length/\(i.2.2.2.2.2.1:Int) - 1=(dV d.fX o:Nat)/\∃ q,d.t.RX.drop o=xsB x.2.2.2.2.2.2.1++q):=by
 rcases hi.xa.or with ⟨q1,q2⟩| ⟨q1,q2,q3⟩;exact .inl ⟨q2,q1⟩
 .obtain ⟨_,g,eg⟩:=h.rX;obtain ⟨o,p1,p2,q,p3⟩:=q3.at (g:=g);rw [<-eg] at p2;exact .inr ⟨q2,q1,(yO (h.tok.may x hx)).xa,o,p1,p2,q,p3⟩
theorem IR.Ok.recAt {d:IR} {T:List Int} {N:List bx} (h:d.Ok T N) {x:bx} (hx:x∈N) {ref:Int} (hg:Kk.get .int d.t.Mr x.2.1=some ref):∃ i,tB N d.ids d.F d.t x i/\∃ o:Nat,o<=d.t.RI.length/\ref=(dV d.fI o:Nat)/\∃ q,d.t.RI.drop o=fM i++q:=by
 obtain ⟨_,y,hy,ei,i,hH,hN⟩:=h.ok.refs _ _ hg;obtain ⟨_,g,eg⟩:=h.rI;obtain ⟨o,q1,q2,q,q3⟩:=hH.at (g:=g);rw [<-eg] at q2;exact ⟨i,hN.same h.tok hx hy ei,o,q1,q2,q,q3⟩
theorem IR.Ok.aoH {d:IR} {T:List Int} {N:List bx} (h:d.Ok T N) {x:bx} (hx:x∈N) {i:eH.den} (hi:tB N d.ids d.F d.t x i):(i.2.2.2.2.2.2.2.2.1:Int)<=(d.pl.length:Int):=by
 rcases hi.ok.or with ⟨_,_,_,q,_⟩| ⟨q,_⟩| ⟨_,_,_,_,q,_⟩;rw [q];exact jD _
 .obtain ⟨fs,_,_,_,_,q5⟩:=h.fileAt hx (by rw [<-hi.kind];exact q) hi;have hl:=h.pls.len;rw [uk] at hl;rcases q5.or with ⟨_,q,_⟩| ⟨_,_,_,j,a,q,q6,_⟩
  .rw [q];exact jD _
  .have:=(av.1 q6).1;rw [q];show (j:Int)+1<=(d.pl.length:Int);omega
 .rw [q];exact jD _
end Go.Lm

namespace Go.Proofs
open Go Go.Lm Go.RowKit
set_option maxRecDepth 1000000
def gE:List (Nat×Ty):=(82,bK)::pw
def aey:Ct:=λargs H Q=>∃ (a:Int) (c:Int) (T:List Int) (im:List UInt8) (s0:Int) (s1:Int) (s2:Int) (s3:Int) (s4:Int) (s5:Int) (s6:Int) (s7:Int) (s8:Int) (s9:Int) (nm:Int) (M:List (Int×Nat×bK.den)),args= [.v (.c (.p 0 0)),.int a,.int c]/\H= [.cells 90 [.de (.int .u32) T 0 0,.d .u8 im,.k (.int .i64 s0),.k (.int .i64 s1),.k (.int .i64 s2),.k (.int .i64 s3),.k (.int .i64 s4),.k (.int .i64 s5),.k (.int .i64 s6),.k (.int .i64 s7),.k (.int .i64 s8),.k (.int .i64 s9),.k (.slice none 0 0),.k (.slice none 0 0),.k (.pointer none),.k (.pointer none),.k (.pointer none),.m 1,.k (.int .i64 nm)],.ab (.pm 3 82 bK M)]/\T.length=256/\im.length<=100000000/\∃ fs R,R.length<=10000000/\iX T im a c fs R []/\∀ A,RB A fs R->Q (.c (.p 2 0)) [.cells 90 [.de (.int .u32) T 0 0,.d .u8 im,.k (.int .i64 s0),.k (.int .i64 s1),.k (.int .i64 s2),.k (.int .i64 s3),.k (.int .i64 s4),.k (.int .i64 s5),.k (.int .i64 s6),.k (.int .i64 s7),.k (.int .i64 s8),.k (.int .i64 s9),.k (.slice none 0 0),.k (.slice none 0 0),.k (.pointer none),.k (.pointer none),.k (.pointer none),.m 1,.k (.int .i64 nm)],.ab (.pm 3 82 bK M),.abs A]
def JU:=jr.add Kd
abbrev sj (y0:List Int) (y1:List UInt8):=eG y0 (List.length y1<=100000000)
def KQ (a c:Int) (T:List Int) (im:List UInt8) (s0 s1 s2 s3 s4 s5 s6 s7 s8 s9 nm:Int) (M:(List (Int×Nat×bK.den))):dE:=λQ=>cn a c ((sj T im)/\∃ fs R,gg R (iX T im a c fs R []/\∀ (A:Value->Atom),RB A fs R->Q (SV.v (S1.c (.p 2 0))) [.cells 90 [Cl.de (.int .u32) T ah bC,Cl.d Ty.u8 
 im,.k (aE s0),.k (aE s1),.k (aE s2),.k (aE s3),.k (aE s4),.k (aE s5),.k (aE s6),.k (aE s7),.k (aE s8),.k (aE s9),.k cA,.k cA,.k (.pointer none),.k (.pointer none),.k (.pointer none),Cl.m bJ,.k 
 (aE nm)],iq M,HO.abs A]))
theorem acu:cM 59 aey:=by
 intro args H Q h;obtain ⟨a,c,T,im,s0,s1,s2,s3,s4,s5,s6,s7,s8,s9,nm,M,rfl,rfl,h⟩:=h;refine Wp.dL JU gE ⟨[],[]⟩ Tryz.f59 (KQ a c T im s0 s1 s2 s3 s4 s5 s6 s7 s8 s9 nm M) ?_;unfold KQ sj gg cn eG cA aE ah bC bJ bN iq;obtain ⟨hT,hi,fs,R,hR,h1,h⟩:=h;exact λ_ _=>⟨⟨hT,hi⟩,fs,R,hR,h1,h⟩
def aex:Ct:=λargs H Q=>∃ (a:Int) (c:Int) (T:List Int) (im:List UInt8) (s0:Int) (s1:Int) (s2:Int) (s3:Int) (s4:Int) (s5:Int) (s6:Int) (s7:Int) (s8:Int) (s9:Int) (nm:Int) (R1:Value->Atom) (R2:Value->Atom) (R3:Value->Atom) (M:List (Int×Nat×bK.den)),args= [.v (.c (.p 0 0)),.int a,.int c]/\H= [.cells 90 [.de (.int .u32) T 0 0,.d .u8 im,.k (.int .i64 s0),.k (.int .i64 s1),.k (.int .i64 s2),.k (.int .i64 s3),.k (.int .i64 s4),.k (.int .i64 s5),.k (.int .i64 s6),.k (.int .i64 s7),.k (.int .i64 s8),.k (.int .i64 s9),.k (.slice none 0 0),.k (.slice none 0 0),.p 1 0,.p 2 0,.p 3 0,.m 4,.k (.int .i64 nm)],.abs R1,.abs R2,.abs R3,.ab (.pm 3 82 bK M)]/\T.length=256/\im.length<=100000000/\∃ fs R,R.length<=10000000/\iX T im a c fs R []/\∀ A,RB A fs R->Q (.c (.p 5 0)) [.cells 90 [.de (.int .u32) T 0 0,.d .u8 im,.k (.int .i64 s0),.k (.int .i64 s1),.k (.int .i64 s2),.k (.int .i64 s3),.k (.int .i64 s4),.k (.int .i64 s5),.k (.int .i64 s6),.k (.int .i64 s7),.k (.int .i64 s8),.k (.int .i64 s9),.k (.slice none 0 0),.k (.slice none 0 0),.p 1 0,.p 2 0,.p 3 0,.m 4,.k (.int .i64 nm)],.abs R1,.abs R2,.abs R3,.ab (.pm 3 82 bK M),.abs A]
abbrev l8:=SV.v (S1.c (.p 5 0))
def KP (a c:Int) (T:List Int) (im:List UInt8) (s0 s1 s2 s3 s4 s5 s6 s7 s8 s9 nm:Int) (R1 R2 R3:Value->Atom) (M:(List (Int×Nat×bK.den))):dE:=λQ=>cn a c ((sj T im)/\∃ fs R,gg R (iX T im a c fs R []/\∀ (A:Value->Atom),RB A fs R->Q l8 [.cells 90 [Cl.de (.int .u32) T ah bC,Cl.d Ty.u8 im,.k 
 (aE s0),.k (aE s1),.k (aE s2),.k (aE s3),.k (aE s4),.k (aE s5),.k (aE s6),.k (aE s7),.k (aE s8),.k (aE s9),.k cA,.k cA,.p 1 0,.p 2 0,.p 3 0,Cl.m cX,.k (aE nm)],HO.abs R1,HO.abs R2,HO.abs R3, 
 iq M,HO.abs A]))
theorem acs:cM 59 aex:=by
 intro args H Q h;obtain ⟨a,c,T,im,s0,s1,s2,s3,s4,s5,s6,s7,s8,s9,nm,R1,R2,R3,M,rfl,rfl,h⟩:=h;refine Wp.dL JU gE ⟨[],[]⟩ Tryz.f59 (KP a c T im s0 s1 s2 s3 s4 s5 s6 s7 s8 s9 nm R1 R2 R3 M) ?_;unfold KP sj l8 gg cn eG cA aE ah bC bN cX iq;obtain ⟨hT,hi,fs,R,hR,h1,h⟩:=h;exact λ_ _=>⟨⟨hT,hi⟩,fs,R,hR,h1,h⟩
def aew:Ct:=λargs H Q=>∃ (a:Int) (c:Int) (T:List Int) (im:List UInt8) (s0:Int) (s1:Int) (s2:Int) (s3:Int) (s4:Int) (s5:Int) (s6:Int) (s7:Int) (s8:Int) (s9:Int) (pl:List Int) (nm:Int) (R1:Value->Atom) (R2:Value->Atom) (R3:Value->Atom) (M:List (Int×Nat×bK.den)),args= [.v (.c (.p 0 0)),.int a,.int c]/\H= [.cells 90 [.de (.int .u32) T 0 0,.d .u8 im,.k (.int .i64 s0),.k (.int .i64 s1),.k (.int .i64 s2),.k (.int .i64 s3),.k (.int .i64 s4),.k (.int .i64 s5),.k (.int .i64 s6),.k (.int .i64 s7),.k (.int .i64 s8),.k (.int .i64 s9),.d (.int .i64) pl,.k (.slice none 0 0),.p 1 0,.p 2 0,.p 3 0,.m 4,.k (.int .i64 nm)],.abs R1,.abs R2,.abs R3,.ab (.pm 3 82 bK M)]/\T.length=256/\im.length<=100000000/\∃ fs R,R.length<=10000000/\iX T im a c fs R []/\∀ A,RB A fs R->Q (.c (.p 5 0)) [.cells 90 [.de (.int .u32) T 0 0,.d .u8 im,.k (.int .i64 s0),.k (.int .i64 s1),.k (.int .i64 s2),.k (.int .i64 s3),.k (.int .i64 s4),.k (.int .i64 s5),.k (.int .i64 s6),.k (.int .i64 s7),.k (.int .i64 s8),.k (.int .i64 s9),.d (.int .i64) pl,.k (.slice none 0 0),.p 1 0,.p 2 0,.p 3 0,.m 4,.k (.int .i64 nm)],.abs R1,.abs R2,.abs R3,.ab (.pm 3 82 bK M),.abs A]
def KN (a c:Int) (T:List Int) (im:List UInt8) (s0 s1 s2 s3 s4 s5 s6 s7 s8 s9:Int) (pl:List Int) (nm:Int) (R1 R2 R3:Value->Atom) (M:(List (Int×Nat×bK.den))):dE:=λQ=>cn a c ((sj T im)/\∃ fs R,gg R (iX T im a c fs R []/\∀ (A:Value->Atom),RB A fs R->Q l8 [.cells 90 [Cl.de (.int .u32) T ah bC,Cl.d Ty.u8 im,.k 
 (aE s0),.k (aE s1),.k (aE s2),.k (aE s3),.k (aE s4),.k (aE s5),.k (aE s6),.k (aE s7),.k (aE s8),.k (aE s9),Cl.d bw pl,.k cA,.p 1 0,.p 2 0,.p 3 0,Cl.m cX,.k (aE nm)],HO.abs R1,HO.abs R2,HO.abs 
 R3,iq M,HO.abs A]))
theorem acr:cM 59 aew:=by
 intro args H Q h;obtain ⟨a,c,T,im,s0,s1,s2,s3,s4,s5,s6,s7,s8,s9,pl,nm,R1,R2,R3,M,rfl,rfl,h⟩:=h;refine Wp.dL JU gE ⟨[],[]⟩ Tryz.f59 (KN a c T im s0 s1 s2 s3 s4 s5 s6 s7 s8 s9 pl nm R1 R2 R3 M) ?_;unfold KN sj l8 gg cn eG cA aE ah bC bN cX iq bw;obtain ⟨hT,hi,fs,R,hR,h1,h⟩:=h;exact λ_ _=>⟨⟨hT,hi⟩,fs,R,hR,h1,h⟩
def Y6 (o:HO) (k:List Int->List UInt8->Int->Int->Int->Int->Int->Int->Int->Int->Int->Int->Cl->Cl->Cl->Cl->Cl->Cl->Int->Prop):Prop:=(match o with
 | .cells 90 cs=>(match cs with
 | [c0,c1,c2,c3,c4,c5,c6,c7,c8,c9,c10,c11,c12,c13,c14,c15,c16,c17,c18]=>(match c0 with
 | .de (.int .u32) T 0 0=>(match c1 with
 | .d .u8 im=>(match c2 with
 | .k (.int .i64 s0)=>(match c3 with
 | .k (.int .i64 s1)=>(match c4 with
 | .k (.int .i64 s2)=>(match c5 with
 | .k (.int .i64 s3)=>(match c6 with
 | .k (.int .i64 s4)=>(match c7 with
 | .k (.int .i64 s5)=>(match c8 with
 | .k (.int .i64 s6)=>(match c9 with
 | .k (.int .i64 s7)=>(match c10 with
 | .k (.int .i64 s8)=>(match c11 with
 | .k (.int .i64 s9)=>(match c18 with
 | .k (.int .i64 nm)=>k T im s0 s1 s2 s3 s4 s5 s6 s7 s8 s9 c12 c13 c14 c15 c16 c17 nm
 | _=>False)
 | _=>False)
 | _=>False)
 | _=>False)
 | _=>False)
 | _=>False)
 | _=>False)
 | _=>False)
 | _=>False)
 | _=>False)
 | _=>False)
 | _=>False)
 | _=>False)
 | _=>False)
 | _=>False)
def Wl (o:HO) (k:List Int->List UInt8->Int->Int->Int->Int->Int->Int->Int->Int->Int->Int->Cl->Cl->Int->Prop):Prop:=Y6 o λT im s0 s1 s2 s3 s4 s5 s6 s7 s8 s9 c12 c13 c14 c15 c16 c17 nm=>(match c14 with
 | .p 1 0=>(match c15 with
 | .p 2 0=>(match c16 with
 | .p 3 0=>(match c17 with
 | .m 4=>k T im s0 s1 s2 s3 s4 s5 s6 s7 s8 s9 c12 c13 nm
 | _=>False)
 | _=>False)
 | _=>False)
 | _=>False)
def imR (o:HO) (k:List Int->List UInt8->Int->Int->Int->Int->Int->Int->Int->Int->Int->Int->List Int->List Int->Int->Prop):Prop:=Wl o λT im s0 s1 s2 s3 s4 s5 s6 s7 s8 s9 c12 c13 nm=>(match c12 with
 | .d (.int .i64) pl=>(match c13 with
 | .d (.int .i64) ids=>k T im s0 s1 s2 s3 s4 s5 s6 s7 s8 s9 pl ids nm
 | _=>False)
 | _=>False)
def Mv (o:HO) (k:List (Int×Nat×Ty.den (.pair ((.pair (.int .i64) (.pair (.int .i64) (.pair (.int .i64) (.pair (.int .i64) (.pair (.int .i64) (.pair (.int .i64) (.pair (.int .i64) (.pair (.int .i64) (.pair (.int .i64) (.pair (.int .i64) (.pair .str .unit)))))))))))) (.pair (.int .i64) (.pair (.sl (.pair .str (.pair (.int .i64) (.pair (.int .i64) .unit)))) (.pair (.sl (.pair .str (.pair (.sl .u8) .unit))) .unit)))))->Prop):Prop:=match o with
 | .ab (.pm 3 82 (.pair ((.pair (.int .i64) (.pair (.int .i64) (.pair (.int .i64) (.pair (.int .i64) (.pair (.int .i64) (.pair (.int .i64) (.pair (.int .i64) (.pair (.int .i64) (.pair (.int .i64) (.pair (.int .i64) (.pair .str .unit)))))))))))) (.pair (.int .i64) (.pair (.sl (.pair .str (.pair (.int .i64) (.pair (.int .i64) .unit)))) (.pair (.sl (.pair .str (.pair (.sl .u8) .unit))) .unit)))) M)=>k M
 | _=>False
def Dp:Ct:=λargs H Q=>(match args with
 | [.v (.c (.p 0 0)),.v (.c (.k (.int .i64 a))),.v (.c (.k (.int .i64 c)))]=>(match H with
 | [o0,o1]=>Y6 o0 λT im s0 s1 s2 s3 s4 s5 s6 s7 s8 s9 c12 c13 c14 c15 c16 c17 nm=>(match c12 with
 | .k (.slice none 0 0)=>(match c13 with
 | .k (.slice none 0 0)=>(match c14 with
 | .k (.pointer none)=>(match c15 with
 | .k (.pointer none)=>(match c16 with
 | .k (.pointer none)=>(match c17 with
 | .m 1=>Mv o1 λM=>T.length=256/\im.length<=100000000/\∃ fs R,R.length<=10000000/\iX T im a c fs R []/\∀ A,RB A fs R->Q (.c (.p 2 0)) [.cells 90 [.de (.int .u32) T 0 0,.d .u8 im,.k (.int .i64 s0),.k (.int .i64 s1),.k (.int .i64 s2),.k (.int .i64 s3),.k (.int .i64 s4),.k (.int .i64 s5),.k (.int .i64 s6),.k (.int .i64 s7),.k (.int .i64 s8),.k (.int .i64 s9),.k (.slice none 0 0),.k (.slice none 0 0),.k (.pointer none),.k (.pointer none),.k (.pointer none),.m 1,.k (.int .i64 nm)],.ab (.pm 3 82 bK M),.abs A]
 | _=>False)
 | _=>False)
 | _=>False)
 | _=>False)
 | _=>False)
 | _=>False)
 | _=>False)
 | _=>False)
theorem WL:cM 59 Dp:=λargs H Q h=>by
 unfold Dp Mv Y6 at h;dsimp only at h
 repeat (split at h;rotate_left;exact h.elim)
 exact acu _ _ _ ⟨_,_,_,_,_,_,_,_,_,_,_,_,_,_,_,_,rfl,rfl,h⟩
def Dn:Ct:=λargs H Q=>(match args with
 | [.v (.c (.p 0 0)),.v (.c (.k (.int .i64 a))),.v (.c (.k (.int .i64 c)))]=>(match H with
 | [o0,o1,o2,o3,o4]=>Wl o0 λT im s0 s1 s2 s3 s4 s5 s6 s7 s8 s9 c12 c13 nm=>(match c12 with
 | .k (.slice none 0 0)=>(match c13 with
 | .k (.slice none 0 0)=>(match o1 with
 | .abs R1=>(match o2 with
 | .abs R2=>(match o3 with
 | .abs R3=>Mv o4 λM=>T.length=256/\im.length<=100000000/\∃ fs R,R.length<=10000000/\iX T im a c fs R []/\∀ A,RB A fs R->Q (.c (.p 5 0)) [.cells 90 [.de (.int .u32) T 0 0,.d .u8 im,.k (.int .i64 s0),.k (.int .i64 s1),.k (.int .i64 s2),.k (.int .i64 s3),.k (.int .i64 s4),.k (.int .i64 s5),.k (.int .i64 s6),.k (.int .i64 s7),.k (.int .i64 s8),.k (.int .i64 s9),.k (.slice none 0 0),.k (.slice none 0 0),.p 1 0,.p 2 0,.p 3 0,.m 4,.k (.int .i64 nm)],.abs R1,.abs R2,.abs R3,.ab (.pm 3 82 bK M),.abs A]
 | _=>False)
 | _=>False)
 | _=>False)
 | _=>False)
 | _=>False)
 | _=>False)
 | _=>False)
theorem WK:cM 59 Dn:=λargs H Q h=>by
 unfold Dn Mv Wl Y6 at h;dsimp only at h
 repeat (split at h;rotate_left;exact h.elim)
 exact acs _ _ _ ⟨_,_,_,_,_,_,_,_,_,_,_,_,_,_,_,_,_,_,_,rfl,rfl,h⟩
def Dm:Ct:=λargs H Q=>(match args with
 | [.v (.c (.p 0 0)),.v (.c (.k (.int .i64 a))),.v (.c (.k (.int .i64 c)))]=>(match H with
 | [o0,o1,o2,o3,o4]=>Wl o0 λT im s0 s1 s2 s3 s4 s5 s6 s7 s8 s9 c12 c13 nm=>(match c12 with
 | .d (.int .i64) pl=>(match c13 with
 | .k (.slice none 0 0)=>(match o1 with
 | .abs R1=>(match o2 with
 | .abs R2=>(match o3 with
 | .abs R3=>Mv o4 λM=>T.length=256/\im.length<=100000000/\∃ fs R,R.length<=10000000/\iX T im a c fs R []/\∀ A,RB A fs R->Q (.c (.p 5 0)) [.cells 90 [.de (.int .u32) T 0 0,.d .u8 im,.k (.int .i64 s0),.k (.int .i64 s1),.k (.int .i64 s2),.k (.int .i64 s3),.k (.int .i64 s4),.k (.int .i64 s5),.k (.int .i64 s6),.k (.int .i64 s7),.k (.int .i64 s8),.k (.int .i64 s9),.d (.int .i64) pl,.k (.slice none 0 0),.p 1 0,.p 2 0,.p 3 0,.m 4,.k (.int .i64 nm)],.abs R1,.abs R2,.abs R3,.ab (.pm 3 82 bK M),.abs A]
 | _=>False)
 | _=>False)
 | _=>False)
 | _=>False)
 | _=>False)
 | _=>False)
 | _=>False)
theorem WJ:cM 59 Dm:=λargs H Q h=>by
 unfold Dm Mv Wl Y6 at h;dsimp only at h
 repeat (split at h;rotate_left;exact h.elim)
 exact acr _ _ _ ⟨_,_,_,_,_,_,_,_,_,_,_,_,_,_,_,_,_,_,_,_,rfl,rfl,h⟩
def Tr:Ct:=λargs H Q=>match H with
 | .cells _ (_::_::_::_::_::_::_::_::_::_::_::_::c::_)::_=>(match c with
  | .k _=>Dn args H Q
  | _=>Dm args H Q)
 | _=>False
theorem aco:cM 59 Tr:=λargs H Q h=>by
 unfold Tr at h;split at h
 .split at h
  .exact WK _ _ _ h
  .exact WJ _ _ _ h
 .cases h
def ai8:Ct:=cD (Ty.int .i64) λx=>c0 λQ=>x.length<=1000000/\Q (.c (.d (.int .i64) x)) []
def Rv (x:(List ((Ty.int .i64)).den)):dE:=λQ=>ik x (∀ (c:Bool),(c=true->x= [])->br (lJ c) (Q gf []) ((0+List.length x)*8<=cC/\0+List.length x<=9223372036854775807/\Q gd [.sl 3 bw ([]++x)]))
theorem W4:cM 107 ai8:=fe<| kC λx=>iB λQ h=>by
 refine Wp.IL (e:=.int .i64) ?_;refine Wp.dL jr gE ⟨[],[]⟩ Tryz.f107 (Rv x) ?_;unfold Rv lJ gd gf ik cC cA bw;obtain ⟨hl,h⟩:=h;refine λ_ c hc=>aw (λhb=>.inr (.inl ⟨rfl,?_⟩)) (λhb=>⟨by omega,by omega,.inr (.inr ⟨0,3,x,rfl,az 0,rfl,h⟩)⟩);rw [hc hb] at h;exact h
def ai7:Ct:=cD (Ty.int .i64) λx=>c0 λQ=>(x.Pairwise λa b=>a< b)/\Q (.c (.d (.int .i64) x)) []
def ajM:=jr.add W4
def Ru (x:(List ((Ty.int .i64)).den)):dE:=λQ=>ik x (aN (List.length x)->br (decide ((aF x)< du)) (Q (SV.v (S1.c (Cl.d bw x))) []) (ba (λi ag=>ik x (br (decide (i.1.1< (aF x))) (0<=i.1.1/\i.1.1< (aF x)/\(yy x i.1.1 (Ty.ok bw (lH x 
 i.1.1)->br (aB bw x i.1.1==aB bw x (i.1.1 - 1)) (0<=i.1.1/\i.1.1<=(aF x)/\False) (fW i.1.1 ag)))) (Q (SV.v (S1.c (Cl.d bw x))) []))) ((a8,()),())))
theorem ahg:cM 106 ai7:=fe<| kC λx=>iB λQ h=>by
 refine Wp.dL ajM gE ⟨[(5,⟨[(3,.int .i64)],[]⟩)],[]⟩ Tryz.f106 (Ru x) ?_;unfold Ru lH yy ik fW a8 du aF aN bw;obtain ⟨hs,h⟩:=h;refine λ_ _=>aw (λ_=>h) (λhc=>ba.intro (λi=>1<=i.1.1/\i.1.1<=(x.length:Int)) (λi=>x.length - i.1.1.toNat) ⟨bp _,by have:=of_decide_eq_false hc;show (1:Int)<=_;omega⟩ ?_);rintro ⟨⟨i,_⟩,_⟩ ⟨h0,h1⟩;simp only at h0 h1 ⊢;refine λ_=>aw (λhd=>?_) (λ_=>h);have hd:=of_decide_eq_true hd;have P:=da.1 hs (i - 1).toNat i.toNat (by omega) (by omega) (by omega);rw [<-fb (e:=.int .i64) (by omega) (by omega),<-fb (e:=.int .i64) (by omega) hd] at P;refine ⟨by omega,hd,λ_=>⟨by unfold aI;omega,by omega,by omega,λ_=>aw (λq=>?_) (λ_=>⟨by unfold aI;omega,⟨by omega,by omega⟩,by omega⟩)⟩⟩;have q:aB (.int .i64) x i=aB (.int .i64) x (i - 1):=eq_of_beq q;rw [q] at P;exact absurd P (Int.lt_irrefl _)
def ZR:Ct:=λargs H Q=>∃ (T:List Int) (im:List UInt8) (s0:Int) (s1:Int) (s2:Int) (s3:Int) (s4:Int) (s5:Int) (s6:Int) (s7:Int) (s8:Int) (s9:Int) (nm:Int) (R1:Value->Atom) (R2:Value->Atom) (R3:Value->Atom) (M:List (Int×Nat×bK.den)),args= [.v (.c (.p 0 0))]/\H= [.cells 90 [.de (.int .u32) T 0 0,.d .u8 im,.k (.int .i64 s0),.k (.int .i64 s1),.k (.int .i64 s2),.k (.int .i64 s3),.k (.int .i64 s4),.k (.int .i64 s5),.k (.int .i64 s6),.k (.int .i64 s7),.k (.int .i64 s8),.k (.int .i64 s9),.k (.slice none 0 0),.k (.slice none 0 0),.p 1 0,.p 2 0,.p 3 0,.m 4,.k (.int .i64 nm)],.abs R1,.abs R2,.abs R3,.ab (.pm 3 82 bK M)]/\∃ (d:IR) (N:List bx),d.Ok T N/\T.length=256/\im=d.im T/\d.s=(s0,s1,s2,s3,s4,s5,s6,s7,s8,s9,())/\Q (.bool true) [.cells 90 [.de (.int .u32) T 0 0,.d .u8 im,.k (.int .i64 s0),.k (.int .i64 s1),.k (.int .i64 s2),.k (.int .i64 s3),.k (.int .i64 s4),.k (.int .i64 s5),.k (.int .i64 s6),.k (.int .i64 s7),.k (.int .i64 s8),.k (.int .i64 s9),.d (.int .i64) d.pl,.d (.int .i64) d.ids,.p 1 0,.p 2 0,.p 3 0,.m 4,.k (.int .i64 nm)],.abs R1,.abs R2,.abs R3,.ab (.pm 3 82 bK M)]
def ajL:=((((jr.add Ev).add Ba).add aco).add W4).add ahg
def EN (T:List Int) (im:List UInt8) (s0 s1 s2 s3 s4 s5 s6 s7 s8 s9 nm:Int) (R1 R2 R3:Value->Atom) (M:(List (Int×Nat×bK.den))):dE:=λQ=>eG T (kg im (∃ fs R,gg R (iX T im s4 s5 fs R []/\∀ (A:Value->Atom),RB A fs R->∃ fs R,RB A fs R/\(cH=du\/cH=cH)/\∃ l,(∀ (x:Int),x∈l->0<= 
 x/\x< 256 ^ cX)/\R=gA cX l/\s8=(aF l)/\List.length l<=100000/\∀ (A':Value->Atom),RB A' fs R->aN (bQ l)->aI .i64 0->eG T (kg im (∃ fs R,gg R (iX T im s5 s6 fs R []/\∀ (A:Value->Atom),RB A 
 fs R->∃ fs R,RB A fs R/\(du=du\/du=cH)/\∃ Ec,(∀ (x:Int),x∈Ec->0<=x/\x< 256 ^ bj)/\R=gA bj Ec/\s7=(aF Ec)/\List.length Ec<=100000/\∀ (A':Value->Atom),RB A' fs R->aN (bQ Ec)-> 
 aI .i64 0->T6 Ec/\(aN (bQ Ec)->List.length Ec<=1000000/\(aN (bQ Ec)->List.Pairwise (λa b=>a< b) Ec/\(aN (bQ Ec)->aN (bQ Ec)->Q (.v (.c (.k (.bool ((aF Ec)==(aF Ec)))))) [je T im s0 s1 
 s2 s3 s4 s5 s6 s7 s8 s9 l Ec nm,HO.abs R1,HO.abs R2,HO.abs R3,iq M])))))))))
theorem WD:cM 60 ZR:=by
 intro args H Q h;obtain ⟨T,im,s0,s1,s2,s3,s4,s5,s6,s7,s8,s9,nm,R1,R2,R3,M,rfl,rfl,h⟩:=h;refine Wp.dL ajL gE ⟨[],[]⟩ Tryz.f60 (EN T im s0 s1 s2 s3 s4 s5 s6 s7 s8 s9 nm R1 R2 R3 M) ?_;unfold EN kg gg eG bQ du cH aF aN bj bN cX je iq;obtain ⟨d,N,hd,hT,rfl,hs,h⟩:=h;obtain ⟨z1,z2,z3,z4,z5,z6,z7,z8⟩:=hd.small;have hr:=hd.rds;have hP:=hr.P;have hN:=hr.N;have hf:=hd.sf;have hi:=hd.si;rw [hs] at hP hN hf hi;have n4:=j5 4 d.pl;have n2:=j5 2 d.ids;refine ⟨hT,by omega,d.fP,gA 4 d.pl,by omega,hP,λA hA=>⟨d.fP,_,hA,.inr rfl,d.pl,Yk hd.pls (by omega),rfl,hf,by omega,λA' _ _ _=>⟨hT,by omega,d.fN,gA 2 d.ids,by omega,hN,λB hB=>⟨d.fN,_,hB,.inl rfl,d.ids,hd.idr,rfl,hi,by omega,λB' _ _ _=>⟨⟨λi i1 i2=>?_⟩,λ_=>⟨by omega,λ_=>⟨hd.tok.J1,λ_ _=>?_⟩⟩⟩⟩⟩⟩⟩
 .have P:=da.1 hd.tok.J1 (i - 1).toNat i.toNat (by omega) (by omega) (by omega);rw [fb (e:=.int .i64) (by omega) (by omega),fb (e:=.int .i64) (by omega) i2];exact Int.le_of_lt P
 .rw [show (((d.ids.length:Nat):Int)==((d.ids.length:Nat):Int))=true by simp];exact h
def GZ:Ct:=λargs H Q=>(match args with
 | [.v (.c (.p 0 0))]=>(match H with
 | [o0,o1,o2,o3,o4]=>Wl o0 λT im s0 s1 s2 s3 s4 s5 s6 s7 s8 s9 c12 c13 nm=>(match c12 with
 | .k (.slice none 0 0)=>(match c13 with
 | .k (.slice none 0 0)=>(match o1 with
 | .abs R1=>(match o2 with
 | .abs R2=>(match o3 with
 | .abs R3=>Mv o4 λM=>∃ (d:IR) (N:List bx),d.Ok T N/\T.length=256/\im=d.im T/\d.s=(s0,s1,s2,s3,s4,s5,s6,s7,s8,s9,())/\Q (.bool true) [.cells 90 [.de (.int .u32) T 0 0,.d .u8 im,.k (.int .i64 s0),.k (.int .i64 s1),.k (.int .i64 s2),.k (.int .i64 s3),.k (.int .i64 s4),.k (.int .i64 s5),.k (.int .i64 s6),.k (.int .i64 s7),.k (.int .i64 s8),.k (.int .i64 s9),.d (.int .i64) d.pl,.d (.int .i64) d.ids,.p 1 0,.p 2 0,.p 3 0,.m 4,.k (.int .i64 nm)],.abs R1,.abs R2,.abs R3,.ab (.pm 3 82 bK M)]
 | _=>False)
 | _=>False)
 | _=>False)
 | _=>False)
 | _=>False)
 | _=>False)
 | _=>False)
theorem Ug:cM 60 GZ:=λargs H Q h=>by
 unfold GZ Mv Wl Y6 at h;dsimp only at h
 repeat (split at h;rotate_left;exact h.elim)
 exact WD _ _ _ ⟨_,_,_,_,_,_,_,_,_,_,_,_,_,_,_,_,_,rfl,rfl,h⟩
end Go.Proofs

namespace Go.Lm
open Go Go.RowKit
section
variable {I:cV->Prop} {P:Program} {f:FuncId} {args:List SV} {H:List HO} {Q:SV->List HO->Prop}
theorem Wp.cellOf {p:Nat} {t:TypeId} {e:Ty} (h:Wp I P f args H λsv H'=>∃ cs x,H'[p]?=some (.cells t cs)/\e.of cs=some (x,[])/\Q sv (H'.set p (.cells t (e.cells x)))):Wp I P f args H Q:=λW hW g w E F vs hs hv=>
 (h W hW g w E F vs hs hv).mono λv w' ⟨E1,g1,sv,H1,e1,m1,s1,r1,cs,x,hp,ho,hq⟩=>by
  have DU:=(av.1 hp).1;have hlen:E1.length=H1.length:=s1.len;refine ⟨E1,g1,sv,_,e1,m1,⟨?_,by simp [hlen]⟩,r1,hq⟩;refine s1.sl.cE λk s=>?_;obtain ⟨k1,k2,ap,e2,⟨bb,us,hE,hrel,hblk⟩,s2⟩:=bt.r5 hp s;obtain ⟨u1,u2,e3,h3,h4⟩:=of_cells e ho hrel;obtain rfl:u2= []:=h4;rw [a7] at e3;subst e3;have s3:bt g1 (cJ E1 p (.cells t (e.cells x))::(bh E1 0 (H1.set p .gone)++F)) k:=⟨k1,k2,ap,e2,⟨bb,_,hE,(eW E1 g1 e h3).1,hblk⟩,s2⟩;have s4:=bt.D8 (l:=p) (by simp;omega) s3;rw [List.set_set] at s4;exact s4
end
end Go.Lm

namespace Go.Proofs
open Go Go.Lm Go.RowKit
set_option maxRecDepth 1000000
def aeA:Ct:=λargs H Q=>∃ (ref:Int) (kd:Int) (T:List Int) (im:List UInt8) (s0:Int) (s1:Int) (s2:Int) (s3:Int) (s4:Int) (s5:Int) (s6:Int) (s7:Int) (s8:Int) (s9:Int) (pl:List Int) (ids:List Int) (nm:Int) (R1:Value->Atom) (R2:Value->Atom) (R3:Value->Atom) (M:List (Int×Nat×bK.den)),args= [.v (.c (.p 0 0)),.int ref,.int kd]/\H= [.cells 90 [.de (.int .u32) T 0 0,.d .u8 im,.k (.int .i64 s0),.k (.int .i64 s1),.k (.int .i64 s2),.k (.int .i64 s3),.k (.int .i64 s4),.k (.int .i64 s5),.k (.int .i64 s6),.k (.int .i64 s7),.k (.int .i64 s8),.k (.int .i64 s9),.d (.int .i64) pl,.d (.int .i64) ids,.p 1 0,.p 2 0,.p 3 0,.m 4,.k (.int .i64 nm)],.abs R1,.abs R2,.abs R3,.ab (.pm 3 82 bK M)]/\∃ (d:IR) (N:List bx),d.Ok T N/\(T=dN/\im=d.im T/\d.s=(s0,s1,s2,s3,s4,s5,s6,s7,s8,s9,())/\pl=d.pl/\ids=d.ids)/\(RB R1 d.fI d.t.RI/\RB R2 d.fL d.t.RL/\RB R3 d.fX d.t.RX)/\∃ x∈N,kd=x.2.2.1/\Kk.get .int d.t.Mr x.2.1=some ref/\∀ B1 B2 B3 r,RB B1 d.fI d.t.RI->RB B2 d.fL d.t.RL->RB B3 d.fX d.t.RX->rF d N x 0 r->Q (.c (.p 5 0)) [.cells 90 [.de (.int .u32) T 0 0,.d .u8 im,.k (.int .i64 s0),.k (.int .i64 s1),.k (.int .i64 s2),.k (.int .i64 s3),.k (.int .i64 s4),.k (.int .i64 s5),.k (.int .i64 s6),.k (.int .i64 s7),.k (.int .i64 s8),.k (.int .i64 s9),.d (.int .i64) pl,.d (.int .i64) ids,.p 1 0,.p 2 0,.p 3 0,.m 4,.k (.int .i64 nm)],.abs B1,.abs B2,.abs B3,.ab (.pm 3 82 bK M),.cells 82 (bK.cells r)]
def ajK:=((((jr.add EH).add Kc).add Q4).add QP).add Ko
abbrev sD:SV:=.v (.c (.k (.pointer none)))
abbrev O5 (y0) (y1:List UInt8) (y2) (y3) (y4) (y5) (y6:Int) (R:Prop):=En y0 y1 y2 y3 y4/\y5=(aF y3)/\List.length y3<=4096/\y2+(a6 (ae y4))<=y6/\R
def KV (ref kd:Int) (T:List Int) (im:List UInt8) (s0 s1 s2 s3 s4 s5 s6 s7 s8 s9:Int) (pl ids:List Int) (nm:Int) (R1 R2 R3:Value->Atom) (M:(List (Int×Nat×bK.den))):dE:=λQ=>cn ref kd (∃ fs R,RB R1 fs R/\∃ o,o<=List.length R/\ref=(↑(dV fs o):Int)/\∃ i q,oX i/\List.drop o R=fM i++q/\∀ (A':Value->Atom),RB A' 
 fs R->cU i.1 i.2.1 i.2.2.1 (cU i.2.2.2.1 i.2.2.2.2.1 i.2.2.2.2.2.1 (cU i.2.2.2.2.2.2.1 i.2.2.2.2.2.2.2.1 i.2.2.2.2.2.2.2.2.1 (aI .i64 i.2.2.2.2.2.2.2.2.2.1->dC i.2.2.2.2.2.2.2.2.2.2.1 (aI .i64 (↑(dV fs (o+List.length 
 (fM i))):Int)->aI .i64 0->br (i.1 !=kd) (Q sD [je T im s0 s1 s2 s3 s4 s5 s6 s7 s8 s9 pl ids nm,HO.abs A',HO.abs R2,HO.abs R3,iq M]) (aN (List.length ids)->br (decide (max i.2.2.1 i.2.2.2.1≥(aF ids))) (Q sD 
 [je T im s0 s1 s2 s3 s4 s5 s6 s7 s8 s9 pl ids nm,HO.abs A',HO.abs R2,HO.abs R3,iq M]) (br (decide (i.2.2.2.2.2.2.2.2.1>s8)) (Q sD [je T im s0 s1 s2 s3 s4 s5 s6 s7 s8 s9 pl ids nm,HO.abs A',HO.abs R2,HO.abs R3,iq M]) 
 (br (decide (i.2.2.2.2.2.1>0)) (aI .i64 (i.2.2.2.2.2.1 - 1)/\∃ fs R,RB R3 fs R/\∃ o,o<=List.length R/\i.2.2.2.2.2.1 - 1=(↑(dV fs o):Int)/\∃ l q,dI l=true/\l≠ []/\List.drop o R=xsB l++q/\∀ (DO:Value-> 
 Atom),RB DO fs R->aN (bQ l)->aI .i64 0->br (kd==2) (kg im (∃ T_1 x fs,O5 T_1 im i.2.2.2.2.2.2.1 x fs i.2.2.2.2.2.2.2.1 s2 (aI .i64 (i.2.2.2.2.2.2.1+(a6 (ae fs)))->aI .i64 0->br (decide 
 (i.2.2.2.2.2.2.2.1≥128)) (br (decide (i.2.2.2.2.2.2.1< 64)) (Q sD [je T im s0 s1 s2 s3 s4 s5 s6 s7 s8 s9 pl ids nm,HO.abs A',HO.abs R2,HO.abs DO,iq M]) (Q l8 [je T im s0 s1 s2 s3 s4 s5 s6 s7 s8 s9 pl ids nm,HO.abs 
 A',HO.abs R2,HO.abs DO,iq M,.cells 82 [.k (aE i.1),.k (aE i.2.1),.k (aE i.2.2.1),.k (aE i.2.2.2.1),.k (aE i.2.2.2.2.1),.k (aE i.2.2.2.2.2.1),.k (aE i.2.2.2.2.2.2.1),.k (aE i.2.2.2.2.2.2.2.1),.k (aE 
 i.2.2.2.2.2.2.2.2.1),.k (aE i.2.2.2.2.2.2.2.2.2.1),.k (.string i.2.2.2.2.2.2.2.2.2.2.1),.k bn,.k cA,Cl.d dJ l]])) (Q l8 [je T im s0 s1 s2 s3 s4 s5 s6 s7 s8 s9 pl ids nm,HO.abs A',HO.abs R2,HO.abs DO,iq M,.cells 
 82 [.k (aE i.1),.k (aE i.2.1),.k (aE i.2.2.1),.k (aE i.2.2.2.1),.k (aE i.2.2.2.2.1),.k (aE i.2.2.2.2.2.1),.k (aE i.2.2.2.2.2.2.1),.k (aE i.2.2.2.2.2.2.2.1),.k (aE i.2.2.2.2.2.2.2.2.1),.k (aE 
 i.2.2.2.2.2.2.2.2.2.1),.k (.string i.2.2.2.2.2.2.2.2.2.2.1),.k bn,.k cA,Cl.d dJ l]])))) (br (kd==1) (∃ fs R,RB R2 fs R/\∃ o,vw o R i.2.2.2.2.2.2.1 fs i.2.2.2.2.2.2.2.1 (∀ (aj3:Value->Atom) (z:List UInt8) (nx e: 
 Int),RB aj3 fs R->pn fs R o (bc i.2.2.2.2.2.2.2.1) z nx e->db z (cn nx e (br (e !=0) (Q sD [je T im s0 s1 s2 s3 s4 s5 s6 s7 s8 s9 pl ids nm,HO.abs A',HO.abs aj3,HO.abs DO,iq M]) (∃ Ec,hU ⟨#[]⟩ Ec/\ 
 List.length Ec<=1024/\z=gR Ec/\(aN (bQ Ec)->aI .i64 0->Q l8 [je T im s0 s1 s2 s3 s4 s5 s6 s7 s8 s9 pl ids nm,HO.abs A',HO.abs aj3,HO.abs DO,iq M,.cells 82 [.k (aE i.1),.k (aE i.2.1),.k (aE i.2.2.1), 
 .k (aE i.2.2.2.1),.k (aE i.2.2.2.2.1),.k (aE i.2.2.2.2.2.1),.k (aE i.2.2.2.2.2.2.1),.k (aE i.2.2.2.2.2.2.2.1),.k (aE i.2.2.2.2.2.2.2.2.1),.k (aE i.2.2.2.2.2.2.2.2.2.1),.k (.string i.2.2.2.2.2.2.2.2.2.2.1),.k bn, 
 Cl.d cR Ec,Cl.d dJ l]])))))) (Q l8 [je T im s0 s1 s2 s3 s4 s5 s6 s7 s8 s9 pl ids nm,HO.abs A',HO.abs R2,HO.abs DO,iq M,.cells 82 [.k (aE i.1),.k (aE i.2.1),.k (aE i.2.2.1),.k (aE i.2.2.2.1),.k (aE 
 i.2.2.2.2.1),.k (aE i.2.2.2.2.2.1),.k (aE i.2.2.2.2.2.2.1),.k (aE i.2.2.2.2.2.2.2.1),.k (aE i.2.2.2.2.2.2.2.2.1),.k (aE i.2.2.2.2.2.2.2.2.2.1),.k (.string i.2.2.2.2.2.2.2.2.2.2.1),.k bn,.k cA,Cl.d dJ l]]))) (br 
 (kd==2) (kg im (∃ T_1 x fs,O5 T_1 im i.2.2.2.2.2.2.1 x fs i.2.2.2.2.2.2.2.1 s2 (aI .i64 (i.2.2.2.2.2.2.1+(a6 (ae fs)))->aI .i64 0->br (decide (i.2.2.2.2.2.2.2.1≥128)) (br (decide (i.2.2.2.2.2.2.1< 64)) (Q 
 sD [je T im s0 s1 s2 s3 s4 s5 s6 s7 s8 s9 pl ids nm,HO.abs A',HO.abs R2,HO.abs R3,iq M]) (Q l8 [je T im s0 s1 s2 s3 s4 s5 s6 s7 s8 s9 pl ids nm,HO.abs A',HO.abs R2,HO.abs R3,iq M,.cells 82 [.k (aE i.1),.k (aE 
 i.2.1),.k (aE i.2.2.1),.k (aE i.2.2.2.1),.k (aE i.2.2.2.2.1),.k (aE i.2.2.2.2.2.1),.k (aE i.2.2.2.2.2.2.1),.k (aE i.2.2.2.2.2.2.2.1),.k (aE i.2.2.2.2.2.2.2.2.1),.k (aE i.2.2.2.2.2.2.2.2.2.1),.k (.string 
 i.2.2.2.2.2.2.2.2.2.2.1),.k bn,.k cA,.k cA]])) (Q l8 [je T im s0 s1 s2 s3 s4 s5 s6 s7 s8 s9 pl ids nm,HO.abs A',HO.abs R2,HO.abs R3,iq M,.cells 82 [.k (aE i.1),.k (aE i.2.1),.k (aE i.2.2.1),.k (aE 
 i.2.2.2.1),.k (aE i.2.2.2.2.1),.k (aE i.2.2.2.2.2.1),.k (aE i.2.2.2.2.2.2.1),.k (aE i.2.2.2.2.2.2.2.1),.k (aE i.2.2.2.2.2.2.2.2.1),.k (aE i.2.2.2.2.2.2.2.2.2.1),.k (.string i.2.2.2.2.2.2.2.2.2.2.1),.k bn,.k cA,.k 
 cA]])))) (br (kd==1) (∃ fs R,RB R2 fs R/\∃ o,vw o R i.2.2.2.2.2.2.1 fs i.2.2.2.2.2.2.2.1 (∀ (DO:Value->Atom) (z:List UInt8) (nx e:Int),RB DO fs R->pn fs R o (bc i.2.2.2.2.2.2.2.1) z nx e->db z (cn nx 
 e (br (e !=0) (Q sD [je T im s0 s1 s2 s3 s4 s5 s6 s7 s8 s9 pl ids nm,HO.abs A',HO.abs DO,HO.abs R3,iq M]) (∃ l,hU ⟨#[]⟩ l/\List.length l<=1024/\z=gR l/\(aN (bQ l)->aI .i64 0->Q l8 [je T im s0 s1 s2 
 s3 s4 s5 s6 s7 s8 s9 pl ids nm,HO.abs A',HO.abs DO,HO.abs R3,iq M,.cells 82 [.k (aE i.1),.k (aE i.2.1),.k (aE i.2.2.1),.k (aE i.2.2.2.1),.k (aE i.2.2.2.2.1),.k (aE i.2.2.2.2.2.1),.k (aE i.2.2.2.2.2.2.1),.k 
 (aE i.2.2.2.2.2.2.2.1),.k (aE i.2.2.2.2.2.2.2.2.1),.k (aE i.2.2.2.2.2.2.2.2.2.1),.k (.string i.2.2.2.2.2.2.2.2.2.2.1),.k bn,Cl.d cR l,.k cA]])))))) (Q l8 [je T im s0 s1 s2 s3 s4 s5 s6 s7 s8 s9 pl ids nm,HO.abs A', 
 HO.abs R2,HO.abs R3,iq M,.cells 82 [.k (aE i.1),.k (aE i.2.1),.k (aE i.2.2.1),.k (aE i.2.2.2.1),.k (aE i.2.2.2.2.1),.k (aE i.2.2.2.2.2.1),.k (aE i.2.2.2.2.2.2.1),.k (aE i.2.2.2.2.2.2.2.1),.k (aE 
 i.2.2.2.2.2.2.2.2.1),.k (aE i.2.2.2.2.2.2.2.2.2.1),.k (.string i.2.2.2.2.2.2.2.2.2.2.1),.k bn,.k cA,.k cA]])))))))))))
theorem acx:cM 108 aeA:=by
 intro args H Q h;obtain ⟨ref,kd,T,im,s0,s1,s2,s3,s4,s5,s6,s7,s8,s9,pl,ids,nm,R1,R2,R3,M,rfl,rfl,h⟩:=h;refine Wp.cellOf (p:=5) (t:=82) (e:=bK) ?_;refine Wp.dL ajK gE ⟨[],[]⟩ Tryz.f108 (KV ref kd T im s0 s1 s2 s3 s4 s5 s6 s7 s8 s9 pl ids nm R1 R2 R3 M) ?_;unfold KV O5 kg l8 sD vw db dC cn bQ cA bn cU bc aE a6 aF aN je iq;obtain ⟨d,N,hd,⟨rfl,rfl,hs,rfl,rfl⟩,⟨hR1,hR2,hR3⟩,x,hx,rfl,hg,h⟩:=h;obtain ⟨z1,z2,z3,z4,z5,z6,z7,z8⟩:=hd.small;obtain ⟨i,hN,o,ho,hro,q,hq⟩:=hd.recAt hx hg;have Wo:=hd.aoH hx hN;have hf:=hd.sf;have hs2:(d.s.2.2.1:Int)<=s2:=by rw [hs];exact bp _
 rw [hs] at hf;have hf:s8=(d.pl.length:Int):=hf;obtain ⟨fr,efr⟩:∃ a:Int,a=i.2.2.2.2.2.2.2.2.1:=⟨_,rfl⟩;obtain ⟨xv,exv⟩:∃ a:Int,a=i.2.2.2.2.2.1:=⟨_,rfl⟩;obtain ⟨sz,esz⟩:∃ a:Int,a=i.2.2.2.2.2.2.2.1:=⟨_,rfl⟩;obtain ⟨st,est⟩:∃ a:Int,a=i.2.2.2.2.2.2.1:=⟨_,rfl⟩;have Wo:fr<=(d.pl.length:Int):=by rw [efr];exact Wo
 have hu:=Ji hN.uid;have hgd:=Ji hN.gid;have hu0:=hN.ok.cm.q2.1;have hg0:=hN.ok.cm.q3.1;have hxc:=hN.ok.cm.q5;refine λ_ _=>⟨d.fI,d.t.RI,hR1,o,ho,hro,i,q,hN.ok,hq,λB1 hB1 _ _ _ _ _ _ _ _ _ _ _ _ _=>aw (λe=>?_) (λ_=>λ_=>aw (λe=>?_) (λ_=>aw (λe=>?_) (λ_=>aw (λhxa=>?_) (λhxa=>?_))))⟩
 .rw [hN.kind] at e;simp at e
 .have e:=of_decide_eq_true e;have e:(d.ids.length:Int)<=max (i.2.2.1:Int) (i.2.2.2.1:Int):=e;have u0:(0:Int)<=(i.2.2.1:Int):=hu0;have g0:(0:Int)<=(i.2.2.2.1:Int):=hg0;omega
 .have e:=of_decide_eq_true e;have e:s8< fr:=by rw [efr];exact e
  omega
 .have hxa:=of_decide_eq_true hxa;have hxa:0< xv:=by rw [exv];exact hxa
  rcases hd.akq hx hN with ⟨w1,_⟩| ⟨w1,w2,w3,o3,w4,w5,q3,w6⟩
  .have w1:xv=0:=by rw [exv];exact w1
   omega
  have hxc:xv<=4294967295:=by rw [exv];exact hxc.2
  refine ⟨by rw [<-exv];unfold aI;omega,d.fX,d.t.RX,hR3,o3,w4,w5,x.2.2.2.2.2.2.1,q3,w3,w2,w6,λB3 hB3 _ _=>?_⟩;refine aw (λhk=>?_) (λhk=>aw (λrU=>?_) (λrU=>⟨_,(i,0,[],x.2.2.2.2.2.2.1,()),rfl,rfl,h B1 R2 B3 (i,0,[],x.2.2.2.2.2.2.1,()) hB1 hR2 hB3 ⟨hN,rfl,(.inr ⟨by first| (rw [eq_of_beq hk];decide)| simpa using rU,rfl⟩),rfl⟩⟩))
  .obtain ⟨fs,f1,f2,f3,f4,_⟩:=hd.fileAt hx (eq_of_beq hk) hN;have hx4:=(sR (hd.tok.may x hx)).2;refine ⟨by omega,dN,x.2.2.2.2.1,fs,f1,f2,hx4,Int.le_trans f4 hs2,λ_ _=>aw (λq=>aw (λq2=>?_) (λ_=>⟨_,(i,0,[],x.2.2.2.2.2.2.1,()),rfl,rfl,h B1 R2 B3 (i,0,[],x.2.2.2.2.2.2.1,()) hB1 hR2 hB3 ⟨hN,rfl,(.inr ⟨by first| (rw [eq_of_beq hk];decide)| simpa using rU,rfl⟩),rfl⟩⟩)) (λ_=>⟨_,(i,0,[],x.2.2.2.2.2.2.1,()),rfl,rfl,h B1 R2 B3 (i,0,[],x.2.2.2.2.2.2.1,()) hB1 hR2 hB3 ⟨hN,rfl,(.inr ⟨by first| (rw [eq_of_beq hk];decide)| simpa using rU,rfl⟩),rfl⟩⟩)⟩
   have q:(128:Int)<=sz:=by rw [esz];exact of_decide_eq_true q
   have q2:st< 64:=by rw [est];exact of_decide_eq_true q2
   have f2:sz=(x.2.2.2.2.1.length:Int):=by rw [esz];exact f2
   have f3:64<=st:=by rw [est];exact f3 (by omega)
   omega
  .obtain ⟨es,l1,l2,l3,l4,o2,p1,p2,p3⟩:=hd.YR (eq_of_beq rU) hN;have hen:((i.2.2.2.2.2.2.2.1:Int)).toNat=(gR es).length:=by rw [l4];rfl
   refine ⟨d.fL,d.t.RL,hR2,o2,by omega,p2,⟨by rw [l4];exact jD _,by rw [l4];show ((gR es).length:Int)<=10000000;omega⟩,λB2 z nx e hB2 hz _ _ _=>?_⟩;rw [hen] at hz;obtain ⟨rfl,_,rfl⟩:=hz.ok p1;refine aw (λq=>by cases q) (λ_=>⟨es,l1,l3,p3,λ_ _=>⟨_,(i,0,es,x.2.2.2.2.2.2.1,()),rfl,rfl,h B1 B2 B3 (i,0,es,x.2.2.2.2.2.2.1,()) hB1 hB2 hB3 ⟨hN,rfl,(.inl ⟨eq_of_beq rU,l1,l2⟩),rfl⟩⟩⟩)
 .have hxa:=of_decide_eq_false hxa;have hxa:¬0< xv:=by rw [exv];exact hxa
  rcases hd.akq hx hN with ⟨_,w1⟩| ⟨w1,_⟩;rotate_left
  .have w1:1<=xv:=by rw [exv];exact w1
   omega
  refine aw (λhk=>?_) (λhk=>aw (λrU=>?_) (λrU=>⟨_,(i,0,[],[],()),rfl,rfl,h B1 R2 R3 (i,0,[],[],()) hB1 hR2 hR3 ⟨hN,rfl,(.inr ⟨by first| (rw [eq_of_beq hk];decide)| simpa using rU,rfl⟩),w1.symm⟩⟩))
  .obtain ⟨fs,f1,f2,f3,f4,_⟩:=hd.fileAt hx (eq_of_beq hk) hN;have hx4:=(sR (hd.tok.may x hx)).2;refine ⟨by omega,dN,x.2.2.2.2.1,fs,f1,f2,hx4,Int.le_trans f4 hs2,λ_ _=>aw (λq=>aw (λq2=>?_) (λ_=>⟨_,(i,0,[],[],()),rfl,rfl,h B1 R2 R3 (i,0,[],[],()) hB1 hR2 hR3 ⟨hN,rfl,(.inr ⟨by first| (rw [eq_of_beq hk];decide)| simpa using rU,rfl⟩),w1.symm⟩⟩)) (λ_=>⟨_,(i,0,[],[],()),rfl,rfl,h B1 R2 R3 (i,0,[],[],()) hB1 hR2 hR3 ⟨hN,rfl,(.inr ⟨by first| (rw [eq_of_beq hk];decide)| simpa using rU,rfl⟩),w1.symm⟩⟩)⟩
   have q:(128:Int)<=sz:=by rw [esz];exact of_decide_eq_true q
   have q2:st< 64:=by rw [est];exact of_decide_eq_true q2
   have f2:sz=(x.2.2.2.2.1.length:Int):=by rw [esz];exact f2
   have f3:64<=st:=by rw [est];exact f3 (by omega)
   omega
  .obtain ⟨es,l1,l2,l3,l4,o2,p1,p2,p3⟩:=hd.YR (eq_of_beq rU) hN;have hen:((i.2.2.2.2.2.2.2.1:Int)).toNat=(gR es).length:=by rw [l4];rfl
   refine ⟨d.fL,d.t.RL,hR2,o2,by omega,p2,⟨by rw [l4];exact jD _,by rw [l4];show ((gR es).length:Int)<=10000000;omega⟩,λB2 z nx e hB2 hz _ _ _=>?_⟩;rw [hen] at hz;obtain ⟨rfl,_,rfl⟩:=hz.ok p1;refine aw (λq=>by cases q) (λ_=>⟨es,l1,l3,p3,λ_ _=>⟨_,(i,0,es,[],()),rfl,rfl,h B1 B2 R3 (i,0,es,[],()) hB1 hB2 hR3 ⟨hN,rfl,(.inl ⟨eq_of_beq rU,l1,l2⟩),w1.symm⟩⟩⟩)
def Dq:Ct:=λargs H Q=>(match args with
 | [.v (.c (.p 0 0)),.v (.c (.k (.int .i64 ref))),.v (.c (.k (.int .i64 kd)))]=>(match H with
 | [o0,o1,o2,o3,o4]=>imR o0 λT im s0 s1 s2 s3 s4 s5 s6 s7 s8 s9 pl ids nm=>(match o1 with
 | .abs R1=>(match o2 with
 | .abs R2=>(match o3 with
 | .abs R3=>Mv o4 λM=>∃ (d:IR) (N:List bx),d.Ok T N/\(T=dN/\im=d.im T/\d.s=(s0,s1,s2,s3,s4,s5,s6,s7,s8,s9,())/\pl=d.pl/\ids=d.ids)/\(RB R1 d.fI d.t.RI/\RB R2 d.fL d.t.RL/\RB R3 d.fX d.t.RX)/\∃ x∈N,kd=x.2.2.1/\Kk.get .int d.t.Mr x.2.1=some ref/\∀ B1 B2 B3 r,RB B1 d.fI d.t.RI->RB B2 d.fL d.t.RL->RB B3 d.fX d.t.RX->rF d N x 0 r->Q (.c (.p 5 0)) [.cells 90 [.de (.int .u32) T 0 0,.d .u8 im,.k (.int .i64 s0),.k (.int .i64 s1),.k (.int .i64 s2),.k (.int .i64 s3),.k (.int .i64 s4),.k (.int .i64 s5),.k (.int .i64 s6),.k (.int .i64 s7),.k (.int .i64 s8),.k (.int .i64 s9),.d (.int .i64) pl,.d (.int .i64) ids,.p 1 0,.p 2 0,.p 3 0,.m 4,.k (.int .i64 nm)],.abs B1,.abs B2,.abs B3,.ab (.pm 3 82 bK M),.cells 82 [.k (.int .i64 r.1.1),.k (.int .i64 r.1.2.1),.k (.int .i64 r.1.2.2.1),.k (.int .i64 r.1.2.2.2.1),.k (.int .i64 r.1.2.2.2.2.1),.k (.int .i64 r.1.2.2.2.2.2.1),.k (.int .i64 r.1.2.2.2.2.2.2.1),.k (.int .i64 r.1.2.2.2.2.2.2.2.1),.k (.int .i64 r.1.2.2.2.2.2.2.2.2.1),.k (.int .i64 r.1.2.2.2.2.2.2.2.2.2.1),.k (.string r.1.2.2.2.2.2.2.2.2.2.2.1),.k (.int .i64 r.2.1),.d cR r.2.2.1,.d dJ r.2.2.2.1]]
 | _=>False)
 | _=>False)
 | _=>False)
 | _=>False)
 | _=>False)
theorem WR:cM 108 Dq:=λargs H Q h=>by
 unfold Dq Mv imR Wl Y6 at h;dsimp only at h
 repeat (split at h;rotate_left;exact h.elim)
 exact acx _ _ _ ⟨_,_,_,_,_,_,_,_,_,_,_,_,_,_,_,_,_,_,_,_,_,rfl,rfl,h⟩
end Go.Proofs

namespace Go.Lm
open Go
def og (N:List bx):Nat->Int->List Int
 | 0,_=>[]
 | n+1,k=>k::(bX (aB noTy N k).1 N 0).flatMap (og N n)
variable {N:List bx} {ids:List Int} {F:List (Int×eH.den)}
theorem PN (t:rV N ids F) {a b:Int} (a0:0<=a) (a1:a< (N.length:Int)) (b0:0<=b) (b1:b< (N.length:Int)) (h:(aB noTy N a).1=(aB noTy N b).1):a=b:=by
 rw [fb (e:=noTy) a0 a1,fb (e:=noTy) b0 b1] at h;have P:=da.1 t.ord;rcases Int.lt_trichotomy a b with q| q| q
 .have:=P a.toNat b.toNat (by omega) (by omega) (by omega);rw [h,j9] at this;exact absurd this (by decide)
 .exact q
 .have:=P b.toNat a.toNat (by omega) (by omega) (by omega);rw [h,j9] at this;exact absurd this (by decide)
theorem qv (t:rV N ids F):∀ (n:Nat) {k:Int},0<=k->k< (N.length:Int)->17<=(aB noTy N k).1.length+n->∀ j:Int,j∈og N n k↔0<=j/\j< (N.length:Int)/\pre (aB noTy N k).1 (aB noTy N j)
 | 0,k,k0,k1,hn,j=>by
  have:=t.deep _ (rO (e:=noTy) k0 k1);omega
 | n+1,k,k0,k1,hn,j=>by
  unfold og;rw [aX,List.mem_flatMap];constructor
  .rintro (rfl| ⟨a,ha,hj⟩)
   .exact ⟨k0,k1,sO _⟩
   .obtain ⟨a0,a1,al,ap⟩:=eY ha;obtain ⟨j0,j1,jp⟩:=(qv t n a0 a1 (by omega) j).1 hj;exact ⟨j0,j1,Gf (by omega) ap jp⟩
  .rintro ⟨j0,j1,jp⟩;have hl:=AN jp;rcases Nat.eq_or_lt_of_le hl with q| q
   .have e:(aB noTy N j).1=(aB noTy N k).1:=by
     unfold pre at jp;rw [aV (by omega)] at jp;exact jp
    exact .inl (PN t j0 j1 k0 k1 e)
   .obtain ⟨a,ha,hp⟩:=um t (p:=(aB noTy N k).1) ((aB noTy N j).1.length - ((aB noTy N k).1.length+1)) (rO (e:=noTy) j0 j1) jp (by omega);obtain ⟨a0,a1,al,_⟩:=eY ha;exact .inr ⟨a,ha,(qv t n a0 a1 (by omega) j).2 ⟨j0,j1,hp⟩⟩
theorem CF {α β:Type} {f:α->List β}:∀ {l:List α},l.Nodup->(∀ a∈l,(f a).Nodup)->(∀ a∈l,∀ b∈l,a≠b->∀ x∈f a,x ∉ f b)->(l.flatMap f).Nodup
 | [],_,_,_=>List.nodup_nil
 | a::l,hn,h1,h2=>by
  obtain ⟨n1,n2⟩:=eD.1 hn;rw [kq,fm];refine ⟨h1 a aS,CF n2 (λb hb=>h1 b (aG _ hb)) λb hb c hc=>h2 b (aG _ hb) c (aG _ hc),λx hx y hy e=>?_⟩;subst e;obtain ⟨b,hb,hq⟩:=List.mem_flatMap.1 hy;exact h2 a aS b (aG _ hb) (λe=>n1 (e▸hb)) x hx hq
theorem EI (t:rV N ids F):∀ (n:Nat) {k:Int},0<=k->k< (N.length:Int)->17<=(aB noTy N k).1.length+n->(og N n k).Nodup
 | 0,k,k0,k1,hn=>List.nodup_nil
 | n+1,k,k0,k1,hn=>by
  unfold og;have hK:=nV (aB noTy N k).1 (L:=N) (k:=0);refine eD.2 ⟨λq=>?_,CF (hK.imp λh e=>by rw [e] at h;exact Int.lt_irrefl _ h) (λa ha=>?_) λa ha b hb hab x hx hy=>?_⟩
  .obtain ⟨a,ha,hq⟩:=List.mem_flatMap.1 q;obtain ⟨a0,a1,al,_⟩:=eY ha;have:=AN ((qv t n a0 a1 (by omega) k).1 hq).2.2;omega
  .obtain ⟨a0,a1,al,_⟩:=eY ha;exact EI t n a0 a1 (by omega)
  .obtain ⟨a0,a1,al,_⟩:=eY ha;obtain ⟨b0,b1,bl,_⟩:=eY hb;have p1:=((qv t n a0 a1 (by omega) x).1 hx).2.2;have p2:=((qv t n b0 b1 (by omega) x).1 hy).2.2;refine hab (PN t a0 a1 b0 b1 ?_);unfold pre at p1 p2;rw [<-p1,<-p2,al,bl]
theorem akV:∀ {l:List Int} {n:Nat},l.Nodup->(∀ x∈l,0<=x/\x< (n:Int))->l.length<=n:=λ{l n} h1 h2=>by
 have:=pig (n:=n) (l:=l.map aA) ?_ ?_
 .rwa [bL] at this
 .rw [List.Nodup,iZ];refine h1.imp_of_mem λ{a b} ha hb hab e=>hab ?_;have:=h2 a ha;have:=h2 b hb;omega
 .intro x hx;obtain ⟨y,hy,rfl⟩:=aM.1 hx;have:=h2 y hy;omega
def Ej (N:List bx) (V:List Int) (i:Int):Nat:=V.countP λv=>(aB noTy N v).2.1==i
structure mz (d:IR) (N:List bx) (V:List Int) (M:List (Int×Nat×bK.den)):Prop where
 keys:(M.map (·.1)).Nodup
 kK:∀ p∈M,∃ k∈V,Kk.get .int d.t.Mr (aB noTy N k).2.1=some p.1/\rF d N (aB noTy N k) (Ej N V (aB noTy N k).2.1:Nat) p.2.2
 has:∀ k∈V,∃ p∈M,Kk.get .int d.t.Mr (aB noTy N k).2.1=some p.1
theorem mz.nil (d:IR) (N:List bx):mz d N [] []:=⟨List.nodup_nil,λp hp=>(by cases hp),λk hk=>(by cases hk)⟩
theorem ug (N:List bx) (V:List Int) (k i:Int):Ej N (V++ [k]) i=Ej N V i+if (aB noTy N k).2.1=i then 1 else 0:=by
 unfold Ej;rw [List.countP_append,List.countP_singleton];by_cases h:(aB noTy N k).2.1=i;rw [if_pos h,if_pos (by simpa using h)];rw [if_neg h,if_neg (by simpa using h)]
theorem mz.new {d:IR} {T:List Int} {V:List Int} {M:List (Int×Nat×bK.den)} (hd:d.Ok T N) (h:mz d N V M) {k ref:Int} (hr:Kk.get .int d.t.Mr (aB noTy N k).2.1=some ref) (kJ:∀ p∈M,p.1≠ref) {bb:Nat} {r:bK.den} (hR:rF d N (aB noTy N k) 1 r):mz d N (V++ [k]) ((ref,bb,r)::M):=by
 have gD:∀ v∈V,(aB noTy N v).2.1≠(aB noTy N k).2.1:=λv hv e=>by
  obtain ⟨p,hp,hg⟩:=h.has v hv;rw [e,hr] at hg;exact kJ p hp (aj hg).symm
 have h0:Ej N V (aB noTy N k).2.1=0:=by
  unfold Ej;rw [List.countP_eq_zero];intro v hv;simpa using gD v hv
 refine ⟨?_,λp hp=>?_,λv hv=>?_⟩
 .rw [cg,eD];refine ⟨λq=>?_,h.keys⟩;obtain ⟨p,hp,e⟩:=aM.1 q;exact kJ p hp e
 .rcases aX.1 hp with rfl| hp
  .refine ⟨k,ja _ aS,hr,?_⟩;rw [ug,h0,if_pos rfl];exact hR
  .obtain ⟨v,hv,h1,h2⟩:=h.kK p hp;refine ⟨v,bH _ hv,h1,?_⟩;rw [ug,if_neg (λe=>gD v hv e.symm)];exact h2
 .rcases aY.1 hv with hv| hv
  .obtain ⟨p,hp,hg⟩:=h.has v hv;exact ⟨p,aG _ hp,hg⟩
  .obtain rfl:=aR.1 hv;exact ⟨_,aS,hr⟩
theorem mz.again {d:IR} {T:List Int} {V:List Int} {M:List (Int×Nat×bK.den)} (hd:d.Ok T N) (h:mz d N V M) {k ref:Int} (hr:Kk.get .int d.t.Mr (aB noTy N k).2.1=some ref) {i:Nat} {bb:Nat} {r:bK.den} (hi:M[i]?=some (ref,bb,r)):mz d N (V++ [k]) (M.set i (ref,bb,(r.1,((r.2.1:Int)+1:Int),r.2.2))):=by
 obtain ⟨hl,pH⟩:=av.1 hi;have uy:(ref,bb,r)∈M:=pH▸df hl;have zZ:(M.set i (ref,bb,(r.1,((r.2.1:Int)+1:Int),r.2.2))).map (·.1)=M.map (·.1):=by
  rw [List.map_set];have:(M.map (·.1)).set i ref=M.map (·.1):=by
   have e:(M.map (·.1))[i]'(by rw [bL];exact hl)=ref:=by rw [List.getElem_map,pH]
   rw [<-e,List.set_getElem_self]
  exact this
 have anQ:∀ (j:Nat) (hj:j< M.length),M[j].1=ref->j=i:=λj hj e=>by
  refine (List.getElem_inj (h₀:=by rw [bL];exact hj) (h₁:=by rw [bL];exact hl) h.keys).1 ?_;rw [List.getElem_map,List.getElem_map,pH];exact e
 refine ⟨by rw [zZ];exact h.keys,λp hp=>?_,λv hv=>?_⟩
 .obtain ⟨j,hj,rfl⟩:=dH.1 hp;rw [gJ] at hj;rw [List.getElem_set];by_cases e:i=j
  .rw [if_pos e];obtain ⟨v,hv,h1,h2⟩:=h.kK _ uy;have he:=hd.ok.inj _ _ _ h1 hr;refine ⟨v,bH _ hv,h1,⟨h2.n,?_,h2.list,h2.xa⟩⟩;rw [ug,if_pos he.symm];have:=h2.nm;show (r.2.1:Int)+1=_;rw [this];rfl
  .rw [if_neg e];obtain ⟨v,hv,h1,h2⟩:=h.kK _ (df hj);refine ⟨v,bH _ hv,h1,?_⟩;rw [ug,if_neg (λq=>e (anQ j hj (by rw [<-q,hr] at h1;exact (aj h1).symm)).symm)];exact h2
 .have hk:∀ q,(∃ p∈M,some q=some p.1)->∃ p∈M.set i (ref,bb,(r.1,((r.2.1:Int)+1:Int),r.2.2)),some q=some p.1:=λq ⟨p,hp,e⟩=>by
   have:p.1∈M.map (·.1):=aM.2 ⟨p,hp,rfl⟩;rw [<-zZ] at this;obtain ⟨p',Zc,e'⟩:=aM.1 this;exact ⟨p',Zc,by rw [e,e']⟩
  rcases aY.1 hv with hv| hv
  .obtain ⟨p,hp,hg⟩:=h.has v hv;obtain ⟨p',h1,h2⟩:=hk p.1 ⟨p,hp,rfl⟩;exact ⟨p',h1,by rw [hg];exact h2⟩
  .obtain rfl:=aR.1 hv;obtain ⟨p',h1,h2⟩:=hk ref ⟨_,uy,rfl⟩;exact ⟨p',h1,by rw [hr];exact h2⟩
theorem Ux {d:IR} {T:List Int} {V:List Int} {M:List (Int×Nat×bK.den)} (hd:d.Ok T N) (h:mz d N V M) {n:Nat} {k ref:Int} (k0:0<=k) (k1:k< (N.length:Int)) (hV:∀ v∈V,0<=v/\v< (N.length:Int)) (hnd:(V++og N (n+1) k).Nodup) (hr:Kk.get .int d.t.Mr (aB noTy N k).2.1=some ref) {i:Nat} {bb:Nat} {r:bK.den} (hi:M[i]?=some (ref,bb,r)):(aB noTy N k).2.2.1≠1/\r.1.1=(aB noTy N k).2.2.1/\og N (n+1) k= [k]:=by
 obtain ⟨hl,pH⟩:=av.1 hi;have uy:(ref,bb,r)∈M:=pH▸df hl;obtain ⟨v,hv,h1,h2⟩:=h.kK _ uy;have he:=hd.ok.inj _ _ _ h1 hr;obtain ⟨v0,v1⟩:=hV v hv;have hmk:aB noTy N k∈N:=rO (e:=noTy) k0 k1;have hmv:aB noTy N v∈N:=rO (e:=noTy) v0 v1;obtain ⟨o1,o2⟩:=hd.tok.one _ hmk _ hmv he.symm;have gD:(aB noTy N k).2.2.1≠1:=λhk=>by
  have:=PN hd.tok v0 v1 k0 k1 (by rw [<-o1 hk]);subst this;exact (fm.1 hnd).2.2 _ hv _ (by unfold og;exact aS) rfl
 refine ⟨gD,?_,?_⟩;rw [h2.n.kind,o2]
 .unfold og;have:bX (aB noTy N k).1 N 0= []:=by
   rw [List.eq_nil_iff_forall_not_mem];intro a ha;obtain ⟨a0,a1,al,ap⟩:=eY ha;have:=hd.tok.below hmk gD (rO (e:=noTy) a0 a1) ap;rw [this] at al;omega
  rw [this];rfl
theorem fH.at {M:List (Int×Int)} {d:Nat}:∀ {ks:List Int} {es:List cR.den},fH N M d ks es->∀ (j:Nat) (h1:j< ks.length) (h2:j< es.length),es[j].2.1=(aB noTy N ks[j]).2.2.1/\Kk.get .int M (aB noTy N ks[j]).2.1=some es[j].2.2.1
 | [],[],_,_,h,_=>by simp at h
 | _::_,_::_,⟨_,q2,q3,_⟩,0,_,_=>⟨q2,q3⟩
 | _::_,_::_,⟨_,_,_,q4⟩,j+1,h1,h2=>fH.at q4 j (by simpa using h1) (by simpa using h2)
 | [],_::_,h,_,_,_=>h.elim
 | _::_,[],h,_,_,_=>h.elim
theorem acP (N:List bx) (n:Nat) (V:List Int) (k:Int) {K:List Int} {j:Nat} (hj:j< K.length):(V++k::(K.take j).flatMap (og N n))++og N n K[j]=V++k::(K.take (j+1)).flatMap (og N n)/\∃ q,V++k::K.flatMap (og N n)=(V++k::(K.take (j+1)).flatMap (og N n))++q:=by
 have e:K.take (j+1)=K.take j++ [K[j]]:=bZ hj;refine ⟨by rw [e,List.flatMap_append,aH];simp,(K.drop (j+1)).flatMap (og N n),?_⟩
 conv=>lhs;rw [<-bY (j+1) K,List.flatMap_append]
 simp
end Go.Lm

namespace Go.Proofs
open Go Go.Lm Go.RowKit
set_option maxRecDepth 1000000
def rb (n:Nat):Ct:=λargs H Q=>(match args with
 | [.v (.c (.p 0 0)),.v (.c (.k (.int .i64 ref))),.v (.c (.k (.int .i64 kd))),.v (.c (.k (.int .i64 dp)))]=>(match H with
 | [o0,o1,o2,o3,o4]=>imR o0 λT im s0 s1 s2 s3 s4 s5 s6 s7 s8 s9 pl ids nm=>(match o1 with
 | .abs R1=>(match o2 with
 | .abs R2=>(match o3 with
 | .abs R3=>Mv o4 λM=>∃ (d:IR) (N:List bx),d.Ok T N/\(T=dN/\im=d.im T/\d.s=(s0,s1,s2,s3,s4,s5,s6,s7,s8,s9,())/\pl=d.pl/\ids=d.ids)/\(RB R1 d.fI d.t.RI/\RB R2 d.fL d.t.RL/\RB R3 d.fX d.t.RX)/\∃ (V:List Int) (k:Int),mz d N V M/\nm=V.length/\(V++og N n k).Nodup/\(∀ v∈V,0<=v/\v< (N.length:Int))/\(0<=k/\k< (N.length:Int)/\dp=(aB noTy N k).1.length/\17<=(aB noTy N k).1.length+n)/\kd=(aB noTy N k).2.2.1/\Kk.get .int d.t.Mr (aB noTy N k).2.1=some ref/\∀ B1 B2 B3 M',RB B1 d.fI d.t.RI->RB B2 d.fL d.t.RL->RB B3 d.fX d.t.RX->mz d N (V++og N n k) M'->Q (.bool true) [.cells 90 [.de (.int .u32) T 0 0,.d .u8 im,.k (.int .i64 s0),.k (.int .i64 s1),.k (.int .i64 s2),.k (.int .i64 s3),.k (.int .i64 s4),.k (.int .i64 s5),.k (.int .i64 s6),.k (.int .i64 s7),.k (.int .i64 s8),.k (.int .i64 s9),.d (.int .i64) pl,.d (.int .i64) ids,.p 1 0,.p 2 0,.p 3 0,.m 4,.k (.int .i64 ((V++og N n k).length:Nat))],.abs B1,.abs B2,.abs B3,.ab (.pm 3 82 bK M')]
 | _=>False)
 | _=>False)
 | _=>False)
 | _=>False)
 | _=>False)
def aiR (n:Nat):Ct:=λargs H Q=>∃ (ref:Int) (kd:Int) (dp:Int) (T:List Int) (im:List UInt8) (s0:Int) (s1:Int) (s2:Int) (s3:Int) (s4:Int) (s5:Int) (s6:Int) (s7:Int) (s8:Int) (s9:Int) (pl:List Int) (ids:List Int) (nm:Int) (R1:Value->Atom) (R2:Value->Atom) (R3:Value->Atom) (M:List (Int×Nat×bK.den)),args= [.v (.c (.p 0 0)),.int ref,.int kd,.int dp]/\H= [.cells 90 [.de (.int .u32) T 0 0,.d .u8 im,.k (.int .i64 s0),.k (.int .i64 s1),.k (.int .i64 s2),.k (.int .i64 s3),.k (.int .i64 s4),.k (.int .i64 s5),.k (.int .i64 s6),.k (.int .i64 s7),.k (.int .i64 s8),.k (.int .i64 s9),.d (.int .i64) pl,.d (.int .i64) ids,.p 1 0,.p 2 0,.p 3 0,.m 4,.k (.int .i64 nm)],.abs R1,.abs R2,.abs R3,.ab (.pm 3 82 bK M)]/\∃ (d:IR) (N:List bx),d.Ok T N/\(T=dN/\im=d.im T/\d.s=(s0,s1,s2,s3,s4,s5,s6,s7,s8,s9,())/\pl=d.pl/\ids=d.ids)/\(RB R1 d.fI d.t.RI/\RB R2 d.fL d.t.RL/\RB R3 d.fX d.t.RX)/\∃ (V:List Int) (k:Int),mz d N V M/\nm=V.length/\(V++og N n k).Nodup/\(∀ v∈V,0<=v/\v< (N.length:Int))/\(0<=k/\k< (N.length:Int)/\dp=(aB noTy N k).1.length/\17<=(aB noTy N k).1.length+n)/\kd=(aB noTy N k).2.2.1/\Kk.get .int d.t.Mr (aB noTy N k).2.1=some ref/\∀ B1 B2 B3 M',RB B1 d.fI d.t.RI->RB B2 d.fL d.t.RL->RB B3 d.fX d.t.RX->mz d N (V++og N n k) M'->Q (.bool true) [.cells 90 [.de (.int .u32) T 0 0,.d .u8 im,.k (.int .i64 s0),.k (.int .i64 s1),.k (.int .i64 s2),.k (.int .i64 s3),.k (.int .i64 s4),.k (.int .i64 s5),.k (.int .i64 s6),.k (.int .i64 s7),.k (.int .i64 s8),.k (.int .i64 s9),.d (.int .i64) pl,.d (.int .i64) ids,.p 1 0,.p 2 0,.p 3 0,.m 4,.k (.int .i64 ((V++og N n k).length:Nat))],.abs B1,.abs B2,.abs B3,.ab (.pm 3 82 bK M')]
def aby (n:Nat):Vx:= {P:=ck,ct:=[(61,(rb n)),(108,Dq)],ty:=gE,hold:=[],clo:=true,cloH:=true}
theorem Wc (n:Nat) (hn:cM 61 (rb n)):iG Inv ck (aby n).ct:=iG.cons hn (iG.cons WR (iG.nil _ _))
abbrev vm:=Int×Nat×Ty.den bK
abbrev Ch (y0:List (Int×Nat×bK.den)) (y1:Int):=(∀ (p:Int×Nat×Ty.den bK),p∈y0->p.1≠y1)
def Q8 (n:Nat) (ref kd dp:Int) (T:List Int) (im:List UInt8) (s0 s1 s2 s3 s4 s5 s6 s7 s8 s9:Int) (pl ids:List Int) (nm:Int) (R1 R2 R3:Value->Atom) (M:(List (Int×Nat×bK.den))):dE:=λQ=>cU ref kd dp (cG nm (br (decide (dp>16)) (Q jF [je T im s0 s1 s2 s3 s4 s5 s6 s7 s8 s9 pl ids (nm+1),HO.abs R1,HO.abs R2,HO.abs R3,iq M]) (br 
 (decide (nm+1>(1024:Int))) (Q jF [je T im s0 s1 s2 s3 s4 s5 s6 s7 s8 s9 pl ids (nm+1),HO.abs R1,HO.abs R2,HO.abs R3,iq M]) (((Ch M ref)->∃ d N,IR.Ok d T N/\(T=dN/\im=IR.im d T/\d.s=(s0,s1,s2,s3,s4,s5, 
 s6,s7,s8,s9,())/\pl=d.pl/\ids=d.ids)/\(RB R1 d.fI d.t.RI/\RB R2 d.fL d.t.RL/\RB R3 d.fX d.t.RX)/\∃ x,x∈N/\kd=x.2.2.1/\Kk.get Kk.int d.t.Mr x.2.1=some ref/\∀ (B1 B2 B3:Value->Atom) (r:Ty.den bK),RB B1 d.fI 
 d.t.RI->RB B2 d.fL d.t.RL->RB B3 d.fX d.t.RX->rF d N x ah r->(Ch M ref)/\List.length M< 9223372036854775807/\∀ (bb:Nat),fU r.2.2.1 (ba (λi ag=>br (decide (i.1.1< (a6 r.2.2.1))) (0<=i.1.1/\i.1.1< (a6 
 r.2.2.1)/\(Ty.ok cR (aB cR r.2.2.1 i.1.1)->cG dp (∃ d N,IR.Ok d i.2.1.1 N/\(i.2.1.1=dN/\i.2.1.2.1=IR.im d i.2.1.1/\d.s=(i.2.1.2.2.1,i.2.1.2.2.2.1,i.2.1.2.2.2.2.1,i.2.1.2.2.2.2.2.1,i.2.1.2.2.2.2.2.2.1, 
 i.2.1.2.2.2.2.2.2.2.1,i.2.1.2.2.2.2.2.2.2.2.1,i.2.1.2.2.2.2.2.2.2.2.2.1,i.2.1.2.2.2.2.2.2.2.2.2.2.1,i.2.1.2.2.2.2.2.2.2.2.2.2.2.1,())/\i.2.1.2.2.2.2.2.2.2.2.2.2.2.2.1=d.pl/\i.2.1.2.2.2.2.2.2.2.2.2.2.2.2.2.1=d.ids)/\(RB i.2.2.1 
 d.fI d.t.RI/\RB i.2.2.2.1 d.fL d.t.RL/\RB i.2.2.2.2.1 d.fX d.t.RX)/\∃ V k,mz d N V i.2.2.2.2.2.1/\i.2.1.2.2.2.2.2.2.2.2.2.2.2.2.2.2.2.2.2.2.1=(aF V)/\List.Pairwise (λx1 x2=>x1≠x2) (V++og N n k)/\(∀ (v:Int),v∈V-> 
 0<=v/\v< (aF N))/\(0<=k/\k< (aF N)/\dp+1=(jo N k)/\17<=List.length (fE N k).1+n)/\(aB cR r.2.2.1 i.1.1).2.1=(fE N k).2.2.1/\Kk.get Kk.int d.t.Mr (fE N k).2.1=some (aB cR r.2.2.1 i.1.1).2.2.1/\ 
 ∀ (B1 B2 B3:Value->Atom) (M':List vm),RB B1 d.fI d.t.RI->RB B2 d.fL d.t.RL->RB B3 d.fX d.t.RX->mz d N (V++og N n k) M'->cG i.1.1 (ag ((i.1.1+1,()),(i.2.1.1,i.2.1.2.1,i.2.1.2.2.1,i.2.1.2.2.2.1,i.2.1.2.2.2.2.1, 
 i.2.1.2.2.2.2.2.1,i.2.1.2.2.2.2.2.2.1,i.2.1.2.2.2.2.2.2.2.1,i.2.1.2.2.2.2.2.2.2.2.1,i.2.1.2.2.2.2.2.2.2.2.2.1,i.2.1.2.2.2.2.2.2.2.2.2.2.1,i.2.1.2.2.2.2.2.2.2.2.2.2.2.1,i.2.1.2.2.2.2.2.2.2.2.2.2.2.2.1, 
 i.2.1.2.2.2.2.2.2.2.2.2.2.2.2.2.1,(),(),(),(),(a6 (V++og N n k)),()),B1,B2,B3,M',()))))) (Q oZ [je i.2.1.1 i.2.1.2.1 i.2.1.2.2.1 i.2.1.2.2.2.1 i.2.1.2.2.2.2.1 i.2.1.2.2.2.2.2.1 i.2.1.2.2.2.2.2.2.1 i.2.1.2.2.2.2.2.2.2.1 
 i.2.1.2.2.2.2.2.2.2.2.1 i.2.1.2.2.2.2.2.2.2.2.2.1 i.2.1.2.2.2.2.2.2.2.2.2.2.1 i.2.1.2.2.2.2.2.2.2.2.2.2.2.1 i.2.1.2.2.2.2.2.2.2.2.2.2.2.2.1 i.2.1.2.2.2.2.2.2.2.2.2.2.2.2.2.1 i.2.1.2.2.2.2.2.2.2.2.2.2.2.2.2.2.2.2.2.2.1,HO.abs i.2.2.1, 
 HO.abs i.2.2.2.1,HO.abs i.2.2.2.2.1,iq i.2.2.2.2.2.1])) ((ah,()),(T,im,s0,s1,s2,s3,s4,s5,s6,s7,s8,s9,pl,ids,(),(),(),(),nm+1,()),B1,B2,B3,List.set ((ref,bb,Ty.Nu bK)::M) bC (ref,bb,r.1,a8, 
 r.2.2),())))/\∀ (i bb:Nat) (x:Ty.den bK),M[i]?=some (ref,bb,x)->Ty.ok bK x->cG x.2.1 (br (kd !=1) (Q (.v (.c (.k (.bool (x.1.1==kd))))) [je T im s0 s1 s2 s3 s4 s5 s6 s7 s8 s9 pl ids (nm+1),HO.abs R1,HO.abs R2, 
 HO.abs R3,iq (List.set M i (ref,bb,x.1,x.2.1+1,x.2.2))]) (Q jF [je T im s0 s1 s2 s3 s4 s5 s6 s7 s8 s9 pl ids (nm+1),HO.abs R1,HO.abs R2,HO.abs R3,iq (List.set M i (ref,bb,x.1,x.2.1+1,x.2.2))]))))))
theorem Wy (n:Nat) (hn:cM 61 (rb n)):∀ args H Q,aiR (n+1) args H Q->Wp Inv ck 61 args H Q:=by
 intro args H Q h;obtain ⟨ref,kd,dp,T,im,s0,s1,s2,s3,s4,s5,s6,s7,s8,s9,pl,ids,nm,R1,R2,R3,M,rfl,rfl,h⟩:=h;refine Wp.Qe (X:=(aby n)) (Wc n hn) ⟨[(15,⟨[(78,.int .i64)],[(0,.cells 90 [.dp (.int .u32),.d .u8,.int .i64,.int .i64,.int .i64,.int .i64,.int .i64,.int .i64,.int .i64,.int .i64,.int .i64,.int .i64,.d (.int .i64),.d (.int .i64),.p 1 0,.p 2 0,.p 3 0,.m 4,.int .i64]),(1,.abs),(2,.abs),(3,.abs),(4,.ab (.pm 3 82 bK))]⟩)],[]⟩ (fn:=Tryz.f61) (V:=Q8 n ref kd dp T im s0 s1 s2 s3 s4 s5 s6 s7 s8 s9 pl ids nm R1 R2 R3 M) (by kernel_rfl) (λ_=>by kernel_rfl) ?_;unfold Q8 Ch vm fE cG fU jo cU jF oZ ah a8 a6 aF bC je iq;obtain ⟨d,N,hd,⟨rfl,rfl,hs,rfl,rfl⟩,⟨hR1,hR2,hR3⟩,V,k,hV,rfl,hnd,hVr,⟨k0,k1,rfl,hkn⟩,rfl,hg,h⟩:=h;have hx:aB noTy N k∈N:=rO (e:=noTy) k0 k1;have aqE:=hd.tok.deep _ hx;have hN40:=hd.tok.len;have hvm:=qv hd.tok (n+1) k0 k1 hkn;have aii:∀ v∈V++og N (n+1) k,0<=v/\v< (N.length:Int):=λv hv=>(aY.1 hv).elim (hVr v) λq=>⟨((hvm v).1 q).1,((hvm v).1 q).2.1⟩;have hlen:=akV (n:=N.length) hnd aii;have hv1:og N (n+1) k=k::(bX (aB noTy N k).1 N 0).flatMap (og N n):=rfl;have hVl:V.length+1<=40:=by rw [hv1,af,aq] at hlen;omega
 refine λ_ _ _=>⟨by unfold aI;omega,aw (λq=>absurd (of_decide_eq_true q) (by omega)) (λ_=>aw (λq=>absurd (of_decide_eq_true q) (by omega)) (λ_=>⟨λkJ=>?_,λi bb x hi _=>?_⟩))⟩;rotate_left
 .obtain ⟨a1,a2,a3⟩:=Ux hd hV k0 k1 hVr hnd hg hi;rw [a3] at h;obtain ⟨v,hv,_,h2⟩:=hV.kK _ (fc hi);have hc:Ej N V (aB noTy N v).2.1<=V.length:=List.countP_le_length;obtain ⟨nm,hnm⟩:∃ a:Int,a=x.2.1:=⟨_,rfl⟩;have ap6:nm=(Ej N V (aB noTy N v).2.1:Nat):=by rw [hnm];exact h2.nm
  have hf:=h R1 R2 R3 _ hR1 hR2 hR3 (hV.again hd hg hi);have e1:((V++ [k]).length:Int)=(V.length:Int)+1:=by simp
  rw [e1] at hf;refine ⟨by rw [<-hnm];unfold aI;omega,aw (λ_=>?_) (λq=>absurd (by simpa using q) a1)⟩;rw [a2,show ((aB noTy N k).2.2.1==(aB noTy N k).2.2.1)=true by simp];exact hf
 have hMl:M.length<=4294967296:=by
  have:=akV (l:=M.map (·.1)) (n:=4294967296) hV.keys λr hr=>by
   obtain ⟨p,hp,rfl⟩:=aM.1 hr;obtain ⟨v,_,hq,_⟩:=hV.kK p hp;have:=(hd.ok.refs _ _ hq).1;omega
  rwa [bL] at this
 refine ⟨d,N,hd,⟨rfl,rfl,hs,rfl,rfl⟩,⟨hR1,hR2,hR3⟩,_,hx,rfl,hg,λB1 B2 B3 r hB1 hB2 hB3 hr=>⟨kJ,by omega,λbb _=>?_⟩⟩;have hE:fH N d.t.Mr (aB noTy N k).1.length (bX (aB noTy N k).1 N 0) r.2.2.1:=by
  rcases hr.list with ⟨_,_,q⟩| ⟨q,e⟩;exact q
  .rw [e];have:bX (aB noTy N k).1 N 0= []:=by
    rw [List.eq_nil_iff_forall_not_mem];intro a ha;obtain ⟨a0,a1,al,ap⟩:=eY ha;have:=hd.tok.below hx q (rO (e:=noTy) a0 a1) ap;rw [this] at al;omega
   rw [this];trivial
 have hEl:=hE.len;have uw:=hV.new hd hg kJ (bb:=bb) (r:=(r.1,(1:Int),r.2.2)) ⟨hr.n,rfl,hr.list,hr.xa⟩;have hKm:∀ a∈bX (aB noTy N k).1 N 0,0<=a/\a< (N.length:Int)/\(aB noTy N a).1.length=(aB noTy N k).1.length+1:=λa ha=>⟨(eY ha).1,(eY ha).2.1,(eY ha).2.2.1⟩;have hKl:=jh (aB noTy N k).1 (L:=N) (k:=0);rw [hv1] at hnd aii h;generalize bX (aB noTy N k).1 N 0=K at*;refine ba.intro (λi=>∃ (j:Nat) (C1 C2 C3:Value->Atom) (M':List (Int×Nat×bK.den)),j<=K.length/\i.1.1=(j:Int)/\(RB C1 d.fI d.t.RI/\RB C2 d.fL d.t.RL/\RB C3 d.fX d.t.RX)/\mz d N (V++k::(K.take j).flatMap (og N n)) M'/\i.2=((dN,d.im dN,s0,s1,s2,s3,s4,s5,s6,s7,s8,s9,d.pl,d.ids,(),(),(),(),(((V++k::(K.take j).flatMap (og N n)).length:Nat):Int),()),C1,C2,C3,M',())) (λi=>K.length - i.1.1.toNat) ⟨0,B1,B2,B3,_,cr _,rfl,⟨hB1,hB2,hB3⟩,uw,by rw [show ((V.length:Int)+1)=(((V++k::((K.take 0).flatMap (og N n))).length:Nat):Int) by simp];rfl⟩ ?_;rintro ⟨⟨i,_⟩,o⟩ ⟨j,C1,C2,C3,M',hj,h1,⟨c1,c2,c3⟩,hV',h2⟩;simp only at h1 h2 ⊢;subst h1 h2;dsimp only;refine aw (λhc=>?_) (λhc=>?_)
 .have uz:=of_decide_eq_true hc;have uL:j< K.length:=by omega
  have hj3:j< r.2.2.1.length:=by omega
  obtain ⟨e1,e2⟩:=acP N n V k uL;obtain ⟨q,e2⟩:=e2;obtain ⟨f1,f2⟩:=hE.at j uL hj3;obtain ⟨a0,a1,al⟩:=hKm _ (df uL);have ek:aB cR r.2.2.1 (j:Int)=r.2.2.1[j]:=iI (e:=cR) hj3;rw [ek];have anX:((V++k::(K.take j).flatMap (og N n))++og N n K[j]).Nodup:=by
   rw [e1];rw [e2] at hnd;exact (fm.1 hnd).1
  refine ⟨by omega,by omega,λ_=>⟨by unfold aI;omega,d,N,hd,⟨rfl,rfl,hs,rfl,rfl⟩,⟨c1,c2,c3⟩,_,K[j],hV',rfl,anX,λv hv=>aii v ?_,⟨a0,a1,by omega,by omega⟩,f1,f2,λD1 D2 D3 M2 d1 d2 d3 hV2=>⟨by unfold aI;omega,⟨j+1,D1,D2,D3,M2,uL,by omega,⟨d1,d2,d3⟩,e1▸hV2,by rw [e1]⟩,by omega⟩⟩⟩;rw [e2,<-e1];exact bH _ (bH _ hv)
 .have hc:=of_decide_eq_false hc;obtain rfl:j=K.length:=by omega
  rw [ff] at hV' ⊢;exact h C1 C2 C3 M' c1 c2 c3 hV'
theorem QN:∀ (n:Nat) args H Q,rb n args H Q->Wp Inv ck 61 args H Q
 | 0=>λargs H Q h=>by
  unfold rb Mv imR Wl Y6 at h;dsimp only at h
  repeat (split at h;rotate_left;exact h.elim)
  obtain ⟨d,N,hd,_,_,V,k,_,_,_,_,⟨k0,k1,_,hkn⟩,_⟩:=h;have:=hd.tok.deep _ (rO (e:=noTy) k0 k1);omega
 | n+1=>λargs H Q h=>by
  unfold rb Mv imR Wl Y6 at h;dsimp only at h
  repeat (split at h;rotate_left;exact h.elim)
  exact Wy n (QN n) _ _ _ ⟨_,_,_,_,_,_,_,_,_,_,_,_,_,_,_,_,_,_,_,_,_,_,rfl,rfl,h⟩
def aek:Ct:=rb 17
theorem ab9:cM 61 aek:=QN 17
end Go.Proofs

namespace Go.Lm
open Go Go.RowKit
section
variable {I:cV->Prop} {P:Program} {f:FuncId} {args:List SV} {H:List HO} {Q:SV->List HO->Prop}
theorem Wp.ah7 {p l:Nat} {t u:TypeId} {e:Ty} {xs:List e.den} {cs:List Cl} (hp:H[p]?=some (.cells t (.oe l 1 0 0::cs))) (hl:H[l]?=some (.held u e xs)) (hx:0< xs.length) (h1:e.size=1) (h:Wp I P f args (H.set p (.cells t (.de e xs 0 0::cs))) Q):Wp I P f args H Q:=Wp.beg λW E g w F hs=>by
 have DU:=(av.1 hp).1;have hlen:E.length=H.length:=hs.len;obtain ⟨_,_,_,_,q1,q2,_,_,⟨v0,hE,hi⟩,_⟩:=hs.pick hl;refine ⟨E,_,bz.refl E,⟨hs.sl.cE λk s=>?_,by simp [hlen]⟩,h⟩;obtain ⟨k1,k2,ap,e2,⟨bb,us,hEp,hrel,hblk⟩,s2⟩:=bt.r5 hp s;obtain ⟨u1,r,rfl,⟨v,z1,z2,_⟩,h4⟩:=hrel;rw [hE] at z1;obtain rfl:=aj z1;have hd:cv E g (.de e xs 0 0) u1:=⟨⟨bp _,by omega,cr _⟩,v0,hi,by rw [h1];exact z2⟩;have s3:bt g (cJ E p (.cells t (.de e xs 0 0::cs))::(bh E 0 (H.set p .gone)++F)) k:=⟨k1,k2,ap,e2,⟨bb,_,hEp,bB.cons hd h4,hblk⟩,s2⟩;have s4:=bt.D8 (l:=p) (by simp;omega) s3;rw [List.set_set] at s4;exact s4
theorem Wp.ahP {p:Nat} (h:Wp I P f args H λsv H'=>∃ kt tR e M hz mb,H'[p]?=some (.ab (.pz kt tR e M hz mb))/\Q sv (H'.set p (.ab (.pm kt tR e M)))):Wp I P f args H Q:=λW hW g w E F vs hs hv=>
 (h W hW g w E F vs hs hv).mono λv w' ⟨E1,g1,sv,H1,e1,m1,s1,r1,kt,tR,e,M,hz,mb,hp,hq⟩=>by
  have DU:=(av.1 hp).1;have hlen:E1.length=H1.length:=s1.len;refine ⟨E1,g1,sv,_,e1,m1,⟨?_,by simp [hlen]⟩,r1,hq⟩;refine s1.sl.cE λk s=>?_;obtain ⟨k1,k2,ap,e2,⟨v0,hE,h1,h2,h3⟩,s2⟩:=bt.r5 hp s;have s3:bt g1 (cJ E1 p (.ab (.pm kt tR e M))::(bh E1 0 (H1.set p .gone)++F)) k:=⟨k1,k2,ap,e2,⟨v0,hE,h3⟩,s2⟩;have s4:=bt.D8 (l:=p) (by simp;omega) s3;rw [List.set_set] at s4;exact s4
end
end Go.Lm

namespace Go.Proofs
open Go Go.Lm Go.RowKit
set_option maxRecDepth 1000000
def aev:Ct:=λargs H Q=>∃ (a:Int) (c:Int) (T:List Int) (im:List UInt8) (s0:Int) (s1:Int) (s2:Int) (s3:Int) (s4:Int) (s5:Int) (s6:Int) (s7:Int) (s8:Int) (s9:Int) (nm:Int) (M:List (Int×Nat×bK.den)),args= [.v (.c (.p 0 0)),.int a,.int c]/\H= [.cells 90 [.de (.int .u32) T 0 0,.d .u8 im,.k (.int .i64 s0),.k (.int .i64 s1),.k (.int .i64 s2),.k (.int .i64 s3),.k (.int .i64 s4),.k (.int .i64 s5),.k (.int .i64 s6),.k (.int .i64 s7),.k (.int .i64 s8),.k (.int .i64 s9),.k (.slice none 0 0),.k (.slice none 0 0),.k (.pointer none),.k (.pointer none),.k (.pointer none),.m 2,.k (.int .i64 nm)],.held 109 (.int .u32) T,.ab (.pm 3 82 bK M)]/\T.length=256/\im.length<=100000000/\∃ fs R,R.length<=10000000/\iX T im a c fs R []/\∀ A,RB A fs R->Q (.c (.p 3 0)) [.cells 90 [.de (.int .u32) T 0 0,.d .u8 im,.k (.int .i64 s0),.k (.int .i64 s1),.k (.int .i64 s2),.k (.int .i64 s3),.k (.int .i64 s4),.k (.int .i64 s5),.k (.int .i64 s6),.k (.int .i64 s7),.k (.int .i64 s8),.k (.int .i64 s9),.k (.slice none 0 0),.k (.slice none 0 0),.k (.pointer none),.k (.pointer none),.k (.pointer none),.m 2,.k (.int .i64 nm)],.held 109 (.int .u32) T,.ab (.pm 3 82 bK M),.abs A]
def KM (a c:Int) (T:List Int) (im:List UInt8) (s0 s1 s2 s3 s4 s5 s6 s7 s8 s9 nm:Int) (M:(List (Int×Nat×bK.den))):dE:=λQ=>cn a c ((sj T im)/\∃ fs R,gg R (iX T im a c fs R []/\∀ (A:Value->Atom),RB A fs R->Q (SV.v (S1.c (.p 3 0))) [.cells 90 [Cl.de (.int .u32) T ah bC,Cl.d Ty.u8 
 im,.k (aE s0),.k (aE s1),.k (aE s2),.k (aE s3),.k (aE s4),.k (aE s5),.k (aE s6),.k (aE s7),.k (aE s8),.k (aE s9),.k cA,.k cA,.k (.pointer none),.k (.pointer none),.k (.pointer none),Cl.m bj,.k 
 (aE nm)],HO.held (109:TypeId) (.int .u32) T,iq M,HO.abs A]))
theorem acq:cM 59 aev:=by
 intro args H Q h;obtain ⟨a,c,T,im,s0,s1,s2,s3,s4,s5,s6,s7,s8,s9,nm,M,rfl,rfl,h⟩:=h;refine Wp.dL JU gE ⟨[],[]⟩ Tryz.f59 (KM a c T im s0 s1 s2 s3 s4 s5 s6 s7 s8 s9 nm M) ?_;unfold KM sj gg cn eG cA aE ah bC bj bN iq;obtain ⟨hT,hi,fs,R,hR,h1,h⟩:=h;exact λ_ _=>⟨⟨hT,hi⟩,fs,R,hR,h1,h⟩
def Dl:Ct:=λargs H Q=>(match args with
 | [.v (.c (.p 0 0)),.v (.c (.k (.int .i64 a))),.v (.c (.k (.int .i64 c)))]=>(match H with
 | [o0,o1,o2]=>(match o0 with
 | .cells 90 cs=>(match cs with
 | [c0,c1,c2,c3,c4,c5,c6,c7,c8,c9,c10,c11,c12,c13,c14,c15,c16,c17,c18]=>(match c0 with
 | .oe 1 1 0 0=>(match c1 with
 | .d .u8 im=>(match c2 with
 | .k (.int .i64 s0)=>(match c3 with
 | .k (.int .i64 s1)=>(match c4 with
 | .k (.int .i64 s2)=>(match c5 with
 | .k (.int .i64 s3)=>(match c6 with
 | .k (.int .i64 s4)=>(match c7 with
 | .k (.int .i64 s5)=>(match c8 with
 | .k (.int .i64 s6)=>(match c9 with
 | .k (.int .i64 s7)=>(match c10 with
 | .k (.int .i64 s8)=>(match c11 with
 | .k (.int .i64 s9)=>(match c12 with
 | .k (.slice none 0 0)=>(match c13 with
 | .k (.slice none 0 0)=>(match c14 with
 | .k (.pointer none)=>(match c15 with
 | .k (.pointer none)=>(match c16 with
 | .k (.pointer none)=>(match c17 with
 | .m 2=>(match c18 with
 | .k (.int .i64 nm)=>(match o1 with
 | .held 109 (.int .u32) T=>(match o2 with
 | .ab (.pm 3 82 (.pair ((.pair (.int .i64) (.pair (.int .i64) (.pair (.int .i64) (.pair (.int .i64) (.pair (.int .i64) (.pair (.int .i64) (.pair (.int .i64) (.pair (.int .i64) (.pair (.int .i64) (.pair (.int .i64) (.pair .str .unit)))))))))))) (.pair (.int .i64) (.pair (.sl (.pair .str (.pair (.int .i64) (.pair (.int .i64) .unit)))) (.pair (.sl (.pair .str (.pair (.sl .u8) .unit))) .unit)))) M)=>0< T.length/\(T.length=256/\im.length<=100000000/\∃ fs R,R.length<=10000000/\iX T im a c fs R []/\∀ A,RB A fs R->Q (.c (.p 3 0)) [.cells 90 [.de (.int .u32) T 0 0,.d .u8 im,.k (.int .i64 s0),.k (.int .i64 s1),.k (.int .i64 s2),.k (.int .i64 s3),.k (.int .i64 s4),.k (.int .i64 s5),.k (.int .i64 s6),.k (.int .i64 s7),.k (.int .i64 s8),.k (.int .i64 s9),.k (.slice none 0 0),.k (.slice none 0 0),.k (.pointer none),.k (.pointer none),.k (.pointer none),.m 2,.k (.int .i64 nm)],.held 109 (.int .u32) T,.ab (.pm 3 82 bK M),.abs A])
 | _=>False)
 | _=>False)
 | _=>False)
 | _=>False)
 | _=>False)
 | _=>False)
 | _=>False)
 | _=>False)
 | _=>False)
 | _=>False)
 | _=>False)
 | _=>False)
 | _=>False)
 | _=>False)
 | _=>False)
 | _=>False)
 | _=>False)
 | _=>False)
 | _=>False)
 | _=>False)
 | _=>False)
 | _=>False)
 | _=>False)
 | _=>False)
 | _=>False)
theorem WI:cM 59 Dl:=λargs H Q h=>by
 unfold Dl at h
 repeat (split at h;rotate_left;exact h.elim)
 exact Wp.ah7 (p:=0) (l:=1) rfl rfl h.1 rfl (acq _ _ _ ⟨_,_,_,_,_,_,_,_,_,_,_,_,_,_,_,_,rfl,rfl,h.2⟩)
def Ts:Ct:=λargs H Q=>match H with
 | [_,_]=>Dp args H Q
 | _=>Dl args H Q
theorem acp:cM 59 Ts:=λargs H Q h=>by
 unfold Ts at h;split at h;exact WL _ _ _ h;exact WI _ _ _ h
end Go.Proofs

namespace Go.Lm
open Go
variable {N:List bx} {ids:List Int} {F:List (Int×eH.den)}
theorem AI (t:rV N ids F) (hr:(aB noTy N 0).1= []) (hp:0< N.length):(og N 17 0).Nodup/\∀ j:Int,j∈og N 17 0↔0<=j/\j< (N.length:Int):=by
 have h17:17<=(aB noTy N 0).1.length+17:=by omega
 refine ⟨EI t 17 (bp 0) (by omega) h17,λj=>?_⟩;rw [qv t 17 (bp 0) (by omega) h17,hr];exact ⟨λh=>⟨h.1,h.2.1⟩,λh=>⟨h.1,h.2,rfl⟩⟩
theorem Xk (t:rV N ids F) (hr:(aB noTy N 0).1= []) (hp:0< N.length):(og N 17 0).Perm ((bP N.length).map Int.ofNat):=by
 obtain ⟨h1,h2⟩:=AI t hr hp;refine (List.perm_ext_iff_of_nodup h1 ?_).2 λj=>?_
 .rw [List.Nodup,iZ];exact List.nodup_range.imp λe q=>e (Int.ofNat.inj q)
 .rw [h2,aM];constructor
  .rintro ⟨a,b⟩;exact ⟨j.toNat,dm.2 (by omega),by show ((j.toNat:Nat):Int)=j;omega⟩
  .rintro ⟨n,hn,rfl⟩;have:=dm.1 hn;show 0<=(n:Int)/\(n:Int)< _;omega
theorem ah1 {N:List bx}:((bP N.length).map Int.ofNat).map (λv=>aB noTy N v)=N:=by
 refine List.ext_getElem (by simp) λi h1 h2=>?_;rw [List.getElem_map,List.getElem_map,List.getElem_range];exact iI (e:=noTy) h2
theorem Tj (t:rV N ids F) (hr:(aB noTy N 0).1= []) (hp:0< N.length) (i:Int):Ej N (og N 17 0) i=qd N i:=by
 unfold Ej qd;rw [(Xk t hr hp).countP_eq]
 conv=>rhs;rw [<-ah1 (N:=N)]
 rw [List.countP_map,List.countP_map,List.countP_map];rfl
theorem mz.count {d:IR} {T:List Int} {M:List (Int×Nat×bK.den)} (hd:d.Ok T N) (hr:(aB noTy N 0).1= []) (hp:0< N.length) (h:mz d N (og N 17 0) M):M.length=d.t.Mr.length:=by
 have jI:=(AI hd.tok hr hp).2;have key:(M.map (·.1)).Perm (d.t.Mr.map (·.2)):=by
  refine (List.perm_ext_iff_of_nodup h.keys ?_).2 λr=>?_
  .have hk:=hd.ok.kn;rw [List.Nodup,iZ] at hk ⊢;refine hk.imp_of_mem λ{a b} ha hb hab e=>hab ?_;have ga:Kk.get .int d.t.Mr a.1=some a.2:=lr (κ:=Int) hd.ok.kn ha;have gb:Kk.get .int d.t.Mr b.1=some b.2:=lr (κ:=Int) hd.ok.kn hb;exact hd.ok.inj _ _ _ ga (e▸gb)
  .rw [aM,aM];constructor
   .rintro ⟨p,hpM,rfl⟩;obtain ⟨k,hk,hg,_⟩:=h.kK p hpM;exact ⟨_,oN (κ:=Int) hg,rfl⟩
   .rintro ⟨q,hq,rfl⟩;obtain ⟨V,v1,v2,v3⟩:=hd.ok.keys;have:q.1∈d.t.Mr.map (·.1):=aM.2 ⟨q,hq,rfl⟩;rw [v3] at this;obtain ⟨v,hv,e⟩:=aM.1 this;have hvl:=v2 v hv;obtain ⟨p,hpM,hg⟩:=h.has (v:Int) ((jI _).2 ⟨by omega,by omega⟩);have gq:Kk.get .int d.t.Mr q.1=some q.2:=lr (κ:=Int) hd.ok.kn hq;have e:(aB noTy N (v:Int)).2.1=q.1:=e;rw [e,gq] at hg;exact ⟨p,hpM,(aj hg).symm⟩
 have:=key.length_eq
 rwa [bL,bL] at this
end Go.Lm

namespace Go.Lm
open Go
def Ot (N:List bx) (p:List ByteArray):Option bx:=N.find? λx=>decide (x.1=p)
theorem Ni {N:List bx} {p:List ByteArray} {x:bx} (h:Ot N p=some x):x∈N/\x.1=p:=by
 unfold Ot at h;exact ⟨pI h,by simpa using List.find?_some h⟩
theorem td {N:List bx} {p:List ByteArray}:Ot N p=none↔∀ x∈N,x.1≠p:=by
 unfold Ot;rw [jC];exact ⟨λh x hx e=>h x hx (by simpa using e),λh x hx e=>h x hx (by simpa using e)⟩
variable {N:List bx} {ids:List Int} {F:List (Int×eH.den)}
theorem Zw (t:rV N ids F) {x:bx} (hx:x∈N):Ot N x.1=some x:=by
 cases h:Ot N x.1 with
 | none=>exact absurd rfl (td.1 h x hx)
 | some y=>
  obtain ⟨h1,h2⟩:=Ni h;rw [t.uniq h1 hx h2]
def mF (N:List bx) (x:bx) (s:ByteArray):Int:=if x.2.2.1=1 then (match Ot N (x.1++ [s]) with
 | some _=>0
 | none=>20) else 24
def j8 (N:List bx):bx->List ByteArray->Int
 | _,[]=>0
 | x,s::r=>if x.2.2.1=1 then (match Ot N (x.1++ [s]) with
  | some y=>j8 N y r
  | none=>20) else 24
structure agT (d:IR) (N:List bx) (y:bx) (s:ByteArray) (e:cR.den):Prop where
 nm:e.1=s
 kind:e.2.1=y.2.2.1
 ref:Kk.get .int d.t.Mr y.2.1=some e.2.2.1
theorem fH.ahY {M:List (Int×Int)} {d:Nat}:∀ {ks:List Int} {es:List cR.den},fH N M d ks es->∀ (j:Nat) (h1:j< ks.length) (h2:j< es.length),es[j].1=(aB noTy N ks[j]).1.getD d ⟨#[]⟩
 | [],[],_,_,h,_=>by simp at h
 | _::_,_::_,⟨q1,_,_,_⟩,0,_,_=>q1
 | _::_,_::_,⟨_,_,_,q4⟩,j+1,h1,h2=>fH.ahY q4 j (by simpa using h1) (by simpa using h2)
 | [],_::_,h,_,_,_=>h.elim
 | _::_,[],h,_,_,_=>h.elim
theorem Jt (t:rV N ids F) {d:IR} {p:List ByteArray} {es:List cR.den} (hE:fH N d.t.Mr p.length (bX p N 0) es) {j:Nat} (hj:j< es.length):∃ y∈N,y.1=p++ [es[j].1]/\agT d N y es[j].1 es[j]:=by
 have hl:=hE.len;have hjk:j< (bX p N 0).length:=by omega
 obtain ⟨a0,a1,al,ap⟩:=eY (df hjk);obtain ⟨h1,h2⟩:=hE.at j hjk hj;refine ⟨_,rO (e:=noTy) a0 a1,?_,rfl,h1,h2⟩;rw [hE.ahY j hjk hj];exact nQ al ap
theorem SI (t:rV N ids F) {d:IR} {p:List ByteArray} {es:List cR.den} (hE:fH N d.t.Mr p.length (bX p N 0) es) {y:bx} {s:ByteArray} (hy:y∈N) (e:y.1=p++ [s]):∃ (j:Nat) (h:j< es.length),es[j].1=s:=by
 obtain ⟨k,hk,rfl⟩:=AR hy (by rw [e];simp) (show pre p y by unfold pre;rw [e,List.take_left]);obtain ⟨j,hj,rfl⟩:=dH.1 hk;have hl:=hE.len;refine ⟨j,by omega,?_⟩;rw [hE.ahY j hj (by omega),e,aP,aZ (az _),pq];rfl
theorem yV:∀ {last:ByteArray} {es:List cR.den},hU last es->(∀ x∈es,lD last x.1=true)/\es.Pairwise λa b=>lD a.1 b.1=true
 | _,[],_=>⟨λx h=>(by cases h),List.Pairwise.nil⟩
 | last,x::r,⟨h1,h2⟩=>by
  obtain ⟨q1,q2⟩:=yV h2;refine ⟨λy hy=>?_,fA.2 ⟨q1,q2⟩⟩;rcases aX.1 hy with rfl| hy;exact h1.lt
  .have a:=h1.lt;have b:=q1 y hy;rw [mA,decide_eq_true_eq] at a b ⊢;exact oR a b
end Go.Lm

namespace Go.Lm
open Go
variable {N:List bx} {ids:List Int} {F:List (Int×eH.den)}
theorem rF.same {d:IR} {T:List Int} (hd:d.Ok T N) {x y:bx} (hx:x∈N) (hy:y∈N) (e:y.2.1=x.2.1) {nm:Int} {r:bK.den} (h:rF d N y nm r):rF d N x nm r:=by
 obtain ⟨h1,h2⟩:=hd.tok.one x hx y hy e.symm;by_cases hk:x.2.2.1=1;rw [h1 hk];exact h
 .refine ⟨h.n.same hd.tok hx hy e,h.nm,?_,by rw [h2];exact h.xa⟩;rcases h.list with ⟨q,_⟩| ⟨_,q⟩
  .rw [h2] at hk;exact absurd q hk
  .exact .inr ⟨hk,q⟩
structure Ob (d:IR) (N:List bx) (M:List (Int×Nat×bK.den)) (x:bx) (ref:Int):Prop where
 ex:∃ p∈M,p.1=ref
 ok:∀ (i bb:Nat) (r:bK.den),M[i]?=some (ref,bb,r)->rF d N x (qd N x.2.1:Nat) r
theorem mz.recAt {d:IR} {T:List Int} {M:List (Int×Nat×bK.den)} (hd:d.Ok T N) (hr:(aB noTy N 0).1= []) (hp:0< N.length) (h:mz d N (og N 17 0) M) {x:bx} (hx:x∈N) {ref:Int} (hg:Kk.get .int d.t.Mr x.2.1=some ref):Ob d N M x ref:=by
 have jI:=(AI hd.tok hr hp).2;obtain ⟨k,hk,rfl⟩:=Sz hx;refine ⟨?_,λi bb r hi=>?_⟩
 .obtain ⟨p,hpM,h1⟩:=h.has (k:Int) ((jI _).2 ⟨by omega,by omega⟩);rw [hg] at h1;exact ⟨p,hpM,(aj h1).symm⟩
 .obtain ⟨v,hv,h1,h2⟩:=h.kK _ (fc hi);obtain ⟨v0,v1⟩:=(jI v).1 hv;have e:=hd.ok.inj _ _ _ h1 hg;rw [Tj hd.tok hr hp,e] at h2;exact rF.same hd hx (rO (e:=noTy) v0 v1) e h2
theorem rF.YQ {d:IR} {x:bx} {nm:Int} {r:bK.den} (h:rF d N x nm r) (hk:x.2.2.1=1):r.2.2.1.length=(bX x.1 N 0).length:=by
 rcases h.list with ⟨_,_,q⟩| ⟨q,_⟩;exact q.len;exact absurd hk q
end Go.Lm

namespace Go.Lm
open Go
theorem IT:∀ (L:List bx) {m:List (Int×Int)},(∀ i z,Kk.get .int m i=some z->z<=(m.length:Int))->(∀ i j z,Kk.get .int m i=some z->Kk.get .int m j=some z->i=j)->∀ i j z,Kk.get .int (jN L m) i=some z->Kk.get .int (jN L m) j=some z->i=j
 | [],_,_,h,i,j,z,hi,hj=>h i j z hi hj
 | x::L,m,hl,h,i,j,z,hi,hj=>by
  cases hg:Kk.get .int m x.2.1 with
  | some k=>rw [jt hg] at hi hj;exact IT L hl h i j z hi hj
  | none=>
   rw [ju hg] at hi hj;have e:((Kk.put .int m x.2.1 ((m.length:Int)+1):List (Int×Int)).length:Int)=(m.length:Int)+1:=by rw [pD (k:=.int) hg];rfl
   refine IT L (λj y hy=>?_) (λa b y ha hb=>?_) i j z hi hj
   .rw [e];by_cases hj:j=x.2.1
    .rw [hj,gp] at hy;obtain rfl:=aj hy;exact bp _
    .rw [jR (k:=.int) hj] at hy;have:=hl j y hy;omega
   .by_cases ea:a=x.2.1
    .by_cases eb:b=x.2.1
     .rw [ea,eb]
     .rw [ea,gp] at ha;rw [jR (k:=.int) eb] at hb;have:=hl b y hb;have:=aj ha;omega
    .rw [jR (k:=.int) ea] at ha;by_cases eb:b=x.2.1
     .rw [eb,gp] at hb;have:=hl a y ha;have:=aj hb;omega
     .rw [jR (k:=.int) eb] at hb;exact h a b y ha hb
structure JV (F N:List bx):Prop where
 l:Hn F
 tr:uU N
 to:∀ y∈F,∃ x∈N,x.1=y.1/\x.2.2=y.2.2
 of:∀ x∈N,∃ y∈F,y.1=x.1/\y.2.2=x.2.2
 ino:∀ y∈F,∀ y'∈F,∀ x∈N,∀ x'∈N,x.1=y.1->x'.1=y'.1->(x.2.1=x'.2.1↔y.2.1=y'.2.1)
 len:N.length=F.length
theorem ahz {F:List bx} (tw:F.Pairwise λa b=>a.1≠b.1) {a b:bx} (ha:a∈F) (hb:b∈F) (h:a.1=b.1):a=b:=by
 obtain ⟨i,hi,rfl⟩:=dH.1 ha;obtain ⟨j,hj,rfl⟩:=dH.1 hb;have P:=da.1 tw;rcases ko i j with q| q| q;exact absurd h (P i j hi hj q);subst q;rfl;exact absurd h.symm (P j i hj hi q)
theorem adr {F L:List bx} (g:Hn F) (hp:L.Perm F) (ho:L.Pairwise λx y=>¬cmpL y.1 x.1< 0):JV F (dg L []):=by
 have at':∀ (j:Nat) (hj:j< L.length),∃ h2:j< (dg L []).length,(dg L [])[j].1=L[j].1/\(dg L [])[j].2.2=L[j].2.2:=λj hj=>by
  have h2:j< (dg L []).length:=by rw [j6];exact hj
  have e:=congrArg (λl=>l[j]?) (pZ L []);simp only [cz,ak hj,ak h2,lu,km,Prod.mk.injEq] at e;exact ⟨h2,e.1,e.2⟩
 have tN:=LB g hp ho;have tw:L.Pairwise λa b=>a.1≠b.1:=hp.symm.pairwise g.tw (λh=>Ne.symm h);have back:∀ y∈L,∀ x∈dg L [],x.1=y.1->Kk.get .int (jN L []) y.2.1=some x.2.1:=λy hy x hx e=>by
  obtain ⟨j,hj,rfl⟩:=dH.1 hx;have uL:j< L.length:=by rw [j6] at hj;exact hj
  obtain ⟨_,e1,_⟩:=at' j uL;have:y=L[j]:=ahz tw hy (df uL) (by rw [<-e,e1]);rw [this];exact AO L [] j uL
 refine ⟨g,tN,λy hy=>?_,λx hx=>?_,λy hy y' CW x hx x' Gx e e'=>?_,by rw [j6,hp.length_eq]⟩
 .obtain ⟨j,hj,rfl⟩:=dH.1 (hp.mem_iff.2 hy);obtain ⟨h2,e1,e2⟩:=at' j hj;exact ⟨_,df h2,e1,e2⟩
 .obtain ⟨y,hy,q⟩:=IS hx;exact ⟨y,hp.mem_iff.1 hy,q⟩
 .have h1:=back y (hp.mem_iff.2 hy) x hx e;have h2:=back y' (hp.mem_iff.2 CW) x' Gx e';constructor
  .intro q;rw [<-q] at h2;exact IT L (λi z q=>by cases q) (λi j z q=>by cases q) _ _ _ h1 h2
  .intro q;rw [q,h2] at h1;exact (aj h1).symm
theorem Zt {N:List bx} (t:uU N) (u:∀ x∈N,∀ y∈N,x.1=y.1->x=y):∀ (r:List ByteArray) (x y:bx),x∈N->y∈N->y.1=x.1++r->j8 N x r=0
 | [],_,_,_,_,_=>rfl
 | s::r,x,y,hx,hy,e=>by
  have key:∀ (k:Nat) (z:bx),z∈N->z.1.length=x.1.length+1+k->(∃ q,y.1=z.1++q)->∃ w∈N,w.1=x.1++ [s]:=by
   intro k
   induction k with
   | zero=>
    rintro z hz hl ⟨q,eq⟩;refine ⟨z,hz,?_⟩;have h1:y.1.take (x.1.length+1)=z.1:=by rw [eq];exact List.take_left' (by omega)
    have h2:y.1.take (x.1.length+1)=x.1++ [s]:=by
     rw [e,show x.1++s::r=(x.1++ [s])++r by simp];exact List.take_left' (by simp)
    rw [<-h1,h2]
   | succ k ih=>
    rintro z hz hl ⟨q,eq⟩;obtain ⟨w,hw,_,ew⟩:=t.par z hz (by omega);refine ih w hw (by rw [ew,aD];omega) ⟨z.1.drop (z.1.length - 1)++q,?_⟩;rw [eq,ew,<-aH,bY]
  obtain ⟨w,hw,ew⟩:=key r.length y hy (by rw [e];simp;omega) ⟨[],by simp⟩;obtain ⟨p,hp,hk,ep⟩:=t.par w hw (by rw [ew];simp);have hpx:p=x:=u p hp x hx (by rw [ep,ew];simp);subst hpx;unfold j8;rw [if_pos hk];cases hf:Ot N (p.1++ [s]) with
  | none=>exact absurd ew (td.1 hf w hw)
  | some v=>
   obtain ⟨v1,v2⟩:=Ni hf;exact Zt t u r v y v1 hy (by rw [v2,e,aH];rfl)
end Go.Lm

namespace Go.Proofs
open Go Go.Lm Go.RowKit
set_option maxRecDepth 1000000
def Dr:Ct
 | [.v (.c cim)],[],Q=>(match (Ty.sl Ty.u8).of [cim] with
  | some (im,[])=>∃ (N:List bx) (d:IR),uU N/\d.Ok dN N/\im=d.im dN/\∀ A1 A2 A3 M,RB A1 d.fI d.t.RI->RB A2 d.fL d.t.RL->RB A3 d.fX d.t.RX->mz d N (og N 17 0) M->Q (.cZ [.c (.p 0 0),.c (.k (.int .i64 0))]) [.cells 90 [.de (.int .u32) dN 0 0,.d .u8 (d.im dN),.k (.int .i64 d.s.1),.k (.int .i64 d.s.2.1),.k (.int .i64 d.s.2.2.1),.k (.int .i64 d.s.2.2.2.1),.k (.int .i64 d.s.2.2.2.2.1),.k (.int .i64 d.s.2.2.2.2.2.1),.k (.int .i64 d.s.2.2.2.2.2.2.1),.k (.int .i64 d.s.2.2.2.2.2.2.2.1),.k (.int .i64 d.s.2.2.2.2.2.2.2.2.1),.k (.int .i64 d.s.2.2.2.2.2.2.2.2.2.1),.d (.int .i64) d.pl,.d (.int .i64) d.ids,.p 1 0,.p 2 0,.p 3 0,.m 4,.k (.int .i64 ((og N 17 0).length:Nat))],.abs A1,.abs A2,.abs A3,.ab (.pm 3 82 bK M)]
  | _=>False)
 | _,_,_=>False
def ajJ:=(((((jr.add zz).add Be).add ab9).add Ug).add acp).add Xi
abbrev Pm (y0) (y1) (y2) (y3) (R:Prop):=mz y0 y1 y2 []/\ah=(aF y2)/\List.Pairwise (λx1 x2=>x1≠x2) (y2++og y1 (17:Nat) y3)/\(∀ (v:Int),v∈y2->0<=v/\v< (aF y1))/\(0<=y3/\y3< (aF y1)/\ah=(jo y1 y3)/\17<=List.length (aB noTy y1 y3).1+17)/\a8=(aB noTy y1 y3).2.2.1/\R
abbrev Cq (y0:SV->List HO->Prop):=y0 (.cZ [.c (.k (.pointer none)),.c (.k (.int .i64 2))]) []
abbrev yr:=SV.cZ [S1.c (.p 0 0),.c (.k bn)]
def EW (im:(List (Ty.u8).den)):dE:=λQ=>cW im (bu (Ik (jc im (∃ s r,rE s/\im=fS dN s++r/\s.1=(↑(dv im):Ty.den bw)/\(cU s.1 s.2.1 s.2.2.1 (cU s.2.2.2.1 s.2.2.2.2.1 s.2.2.2.2.2.1 (cU s.2.2.2.2.2.2.1 s.2.2.2.2.2.2.2.1 
 s.2.2.2.2.2.2.2.2.1 (aI .i64 s.2.2.2.2.2.2.2.2.2.1->aI .i64 0->(fp (dv im)/\(aN (dv im)->bC< bN/\bN=bN/\jc im (∃ fs R,gg R (iX dN im s.2.2.1 s.2.2.2.1 fs R []/\∀ (A:Value->Atom),RB 
 A fs R->bN=bN/\jc im (∃ fs R,gg R (iX dN im s.2.2.2.1 s.2.2.2.2.1 fs R []/\∀ (A_1:Value->Atom),RB A_1 fs R->bN=bN/\jc im (∃ fs R,gg R (iX dN im s.2.2.2.2.2.2.1 s.1 fs R []/\∀ (A_2 
 :Value->Atom),RB A_2 fs R->∃ d N,IR.Ok d dN N/\bN=bN/\im=IR.im d dN/\d.s=s/\∃ qm N,IR.Ok qm dN N/\(dN=dN/\im=IR.im qm dN/\qm.s=s/\d.pl=qm.pl/\d.ids=qm.ids)/\(RB A qm.fI qm.t.RI/\ 
 RB A_1 qm.fL qm.t.RL/\RB A_2 qm.fX qm.t.RX)/\∃ V k,Pm qm N V k (Kk.get Kk.int qm.t.Mr (fE N k).2.1=some s.2.2.2.2.2.2.2.2.2.1/\∀ (B1 B2 B3:Value->Atom) (M':List vm),RB B1 qm.fI qm.t.RI->RB B2 qm.fL qm.t.RL 
 ->RB B3 qm.fX qm.t.RX->mz qm N (V++og N (17:Nat) k) M'->aN (List.length M')->br ((a6 M') !=s.2.1) (Cq Q) (∀ (hz:Hp) (mb:Nat),agQ (PUnit×(Hp×Nat×List (Int×Nat×(Int×Int×Int×Int×Int×Int×Int× 
 Int×Int×Int×ByteArray×PUnit)×Int×List (ByteArray×Int×Int×PUnit)×List (ByteArray×List UInt8×PUnit)×PUnit)×Option (Int×Nat×(Int×Int×Int×Int×Int×Int×Int×Int×Int×Int×ByteArray×PUnit)×Int× 
 List (ByteArray×Int×Int×PUnit)×List (ByteArray×List UInt8×PUnit)×PUnit))×PUnit) (λi ag=>hz=i.2.1.1/\mb=i.2.1.2.1/\(i.2.1.2.2.1= []->Q yr [je dN im s.1 s.2.1 s.2.2.1 s.2.2.2.1 s.2.2.2.2.1 s.2.2.2.2.2.1 
 s.2.2.2.2.2.2.1 s.2.2.2.2.2.2.2.1 s.2.2.2.2.2.2.2.2.1 s.2.2.2.2.2.2.2.2.2.1 d.pl d.ids (a6 (V++og N (17:Nat) k)),HO.abs B1,HO.abs B2,HO.abs B3,HO.ab (AbK.pz (3:TypeId) (82:TypeId) bK M' hz mb)])/\∀ (x:Int) (bb:Nat) (y 
 :Ty.den bK) (mG:List vm),List.Perm i.2.1.2.2.1 ((x,bb,y)::mG)->aI .i64 x->∃ DZ bb_1 y_1,hz=i.2.1.1/\mb=i.2.1.2.1/\some (x,bb,y)=some (DZ,bb_1,y_1)/\(aI .i64 DZ->∃ p,p∈M'/\p.2.1=bb_1/\(Ty.ok 
 bK p.2.2->∃ p_1,p_1∈M'/\p_1.2.1=bb_1/\(Ty.ok bK p_1.2.2->br (p.2.2.2.1 !=p_1.2.2.1.2.2.2.2.1) (Cq Q) (ag ((),(i.2.1.1,i.2.1.2.1,mG,some (x,bb,y)),())))))) ((),(hz,mb,M',none),())))))))))))/\fp (dv 
 im)/\(aN (dv im)->bC< bN/\bN=bN/\jc im (∃ fs R,gg R (iX dN im s.2.2.1 s.2.2.2.1 fs R []/\∀ (A:Value->Atom),RB A fs R->bN=bN/\jc im (∃ fs R,gg R (iX dN im s.2.2.2.1 
 s.2.2.2.2.1 fs R []/\∀ (A_1:Value->Atom),RB A_1 fs R->bN=bN/\jc im (∃ fs R,gg R (iX dN im s.2.2.2.2.2.2.1 s.1 fs R []/\∀ (A_2:Value->Atom),RB A_2 fs R->∃ d N,IR.Ok d dN N/\bN=bN/\im= 
 IR.im d dN/\d.s=s/\∃ qm N,IR.Ok qm dN N/\(dN=dN/\im=IR.im qm dN/\qm.s=s/\d.pl=qm.pl/\d.ids=qm.ids)/\(RB A qm.fI qm.t.RI/\RB A_1 qm.fL qm.t.RL/\RB A_2 qm.fX qm.t.RX)/\∃ V k,Pm qm N V k 
 (Kk.get Kk.int qm.t.Mr (fE N k).2.1=some s.2.2.2.2.2.2.2.2.2.1/\∀ (B1 B2 B3:Value->Atom) (M':List vm),RB B1 qm.fI qm.t.RI->RB B2 qm.fL qm.t.RL->RB B3 qm.fX qm.t.RX->mz qm N (V++og N (17:Nat) k) M'->aN 
 (List.length M')->br ((a6 M') !=s.2.1) (Cq Q) (∀ (hz:Hp) (mb:Nat),agQ (PUnit×(Hp×Nat×List (Int×Nat×(Int×Int×Int×Int×Int×Int×Int×Int×Int×Int×ByteArray×PUnit)×Int×List (ByteArray×Int×Int 
 ×PUnit)×List (ByteArray×List UInt8×PUnit)×PUnit)×Option (Int×Nat×(Int×Int×Int×Int×Int×Int×Int×Int×Int×Int×ByteArray×PUnit)×Int×List (ByteArray×Int×Int×PUnit)×List (ByteArray×List UInt8× 
 PUnit)×PUnit))×PUnit) (λi ag=>hz=i.2.1.1/\mb=i.2.1.2.1/\(i.2.1.2.2.1= []->Q yr [je dN im s.1 s.2.1 s.2.2.1 s.2.2.2.1 s.2.2.2.2.1 s.2.2.2.2.2.1 s.2.2.2.2.2.2.1 s.2.2.2.2.2.2.2.1 s.2.2.2.2.2.2.2.2.1 
 s.2.2.2.2.2.2.2.2.2.1 d.pl d.ids (a6 (V++og N (17:Nat) k)),HO.abs B1,HO.abs B2,HO.abs B3,HO.ab (AbK.pz (3:TypeId) (82:TypeId) bK M' hz mb)])/\∀ (x:Int) (bb:Nat) (y:Ty.den bK) (mG:List vm),List.Perm 
 i.2.1.2.2.1 ((x,bb,y)::mG)->aI .i64 x->∃ DZ bb_1 y_1,hz=i.2.1.1/\mb=i.2.1.2.1/\some (x,bb,y)=some (DZ,bb_1,y_1)/\(aI .i64 DZ->∃ p,p∈M'/\p.2.1=bb_1/\(Ty.ok bK p.2.2->∃ p_1,p_1∈M'/\p_1.2.1=bb_1/\ 
 (Ty.ok bK p_1.2.2->br (p.2.2.2.1 !=p_1.2.2.1.2.2.2.2.1) (Cq Q) (ag ((),(i.2.1.1,i.2.1.2.1,mG,some (x,bb,y)),())))))) ((),(hz,mb,M',none),()))))))))))))))))))
theorem WS:cM 27 Dr:=by
 intro args H Q h;unfold Dr at h;split at h;rotate_left;cases h;rename_i cim;split at h;rotate_left;cases h;rename_i im him;refine Wp.said (args':=[.c (.d Ty.u8 im)]) (λE g=>bE.dd (dR him) (λ_ h=>h)) ?_;clear him;refine (λhh=>Wp.ahP (p:=4) hh) ?_;refine Wp.dL ajJ gE ⟨[(11,⟨[],[(7,.ab (.Pr 3 2 bK))]⟩)],[]⟩ Tryz.f27 (EW im) (hold:=[58]) (clo:=true) (cloH:=true) (pmT:=[(88,82,bK)]) ?_;unfold EW vm Ik fE jc yr bu dv Cq gg Pm jo cW bn cU ah a8 a6 aF fp aN bC bN je bw;obtain ⟨N,d,tr,hd,rfl,h⟩:=h;obtain ⟨z1,z2,z3,z4,z5,z6,z7,z8⟩:=hd.small;have hr:=hd.rds;have hlen:=IR.Y5 hd;obtain ⟨r1,r2,r3⟩:=tr.root;have sW:=tr.pos;obtain ⟨x0,hx0,e1,e2,e3⟩:=hd.root;obtain rfl:=hd.tok.uniq hx0 (rO (e:=noTy) (bp 0) (by omega)) (e1.trans r1.symm);have hnd:=(AI hd.tok r1 sW).1;refine λ_=>⟨rfl,rfl,rfl,by decide,by decide,rfl,by omega,d.s,_,hd.sup,rfl,hlen,λ_ _ _ _ _ _ _ _ _ _ _=>both ⟨by omega,λ_=>⟨by decide,rfl,by omega,d.fI,d.t.RI,by omega,hr.I,λA1 hA1=>⟨rfl,by omega,d.fL,d.t.RL,by omega,hr.L,λA2 hA2=>⟨rfl,by omega,d.fX,d.t.RX,by omega,hr.X,λA3 hA3=>⟨d,N,hd,rfl,rfl,rfl,d,N,hd,⟨rfl,rfl,rfl,rfl,rfl⟩,⟨hA1,hA2,hA3⟩,[],0,mz.nil d N,rfl,hnd,(λv hv=>by cases hv),⟨by decide,by omega,by rw [r1];rfl,by omega⟩,r2.symm,e3,λB1 B2 B3 M h1 h2 h3 hV _=>?_⟩⟩⟩⟩⟩⟩;have hV:mz d N (og N 17 0) M:=hV;have hc:=hV.count hd r1 sW;have hsn:=hd.sn;refine aw (λq=>?_) (λ_=>λhz mb=>?_)
 .rw [hc,hsn] at q;simp at q
 refine ba.intro (λi=>i.2.1.1=hz/\i.2.1.2.1=mb/\∀ p∈i.2.1.2.2.1,p∈M) (λi=>i.2.1.2.2.1.length) ⟨rfl,rfl,λp hp=>hp⟩ ?_;rintro ⟨_,⟨SR,Ol,left,cur⟩,_⟩ ⟨rfl,rfl,hl⟩;simp only at hl ⊢;refine ⟨trivial,trivial,λ_=>⟨_,_,_,_,_,_,rfl,h B1 B2 B3 M h1 h2 h3 hV⟩,λx bb y mG hp _=>?_⟩;have hm:(x,bb,y)∈M:=hl _ (hp.mem_iff.2 aS);refine ⟨x,bb,y,trivial,trivial,rfl,λ_=>⟨(x,bb,y),hm,rfl,λ_=>⟨(x,bb,y),hm,rfl,λ_=>aw (λq=>?_) (λ_=>⟨⟨trivial,trivial,λp Zc=>hl p (hp.mem_iff.2 (aG _ Zc))⟩,by rw [hp.length_eq];exact Nat.lt_succ_self _⟩)⟩⟩⟩;obtain ⟨k,_,_,hk⟩:=hV.kK _ hm;have q1:=hk.nm;have q2:=hk.n.lnk;rw [Tj hd.tok r1 sW] at q1;have q3:(y.2.1:Int)=y.1.2.2.2.2.1:=q1.trans q2.symm;simp [q3] at q
def aeG:Ct:=λargs H Q=>∃ (ref:Int) (T:List Int) (im:List UInt8) (s0:Int) (s1:Int) (s2:Int) (s3:Int) (s4:Int) (s5:Int) (s6:Int) (s7:Int) (s8:Int) (s9:Int) (pl:List Int) (ids:List Int) (nm:Int) (R1:Value->Atom) (R2:Value->Atom) (R3:Value->Atom) (M:List (Int×Nat×bK.den)),args= [.v (.c (.p 0 0)),.int ref]/\H= [.cells 90 [.de (.int .u32) T 0 0,.d .u8 im,.k (.int .i64 s0),.k (.int .i64 s1),.k (.int .i64 s2),.k (.int .i64 s3),.k (.int .i64 s4),.k (.int .i64 s5),.k (.int .i64 s6),.k (.int .i64 s7),.k (.int .i64 s8),.k (.int .i64 s9),.d (.int .i64) pl,.d (.int .i64) ids,.p 1 0,.p 2 0,.p 3 0,.m 4,.k (.int .i64 nm)],.abs R1,.abs R2,.abs R3,.ab (.pm 3 82 bK M)]/\(∃ p∈M,p.1=ref)/\∀ (i bb:Nat) (r:bK.den),M[i]?=some (ref,bb,r)->bK.ok r->Q (.cZ [.c (.p 5 0),.c (.k (.int .i64 0))]) [.cells 90 [.de (.int .u32) T 0 0,.d .u8 im,.k (.int .i64 s0),.k (.int .i64 s1),.k (.int .i64 s2),.k (.int .i64 s3),.k (.int .i64 s4),.k (.int .i64 s5),.k (.int .i64 s6),.k (.int .i64 s7),.k (.int .i64 s8),.k (.int .i64 s9),.d (.int .i64) pl,.d (.int .i64) ids,.p 1 0,.p 2 0,.p 3 0,.m 4,.k (.int .i64 nm)],.abs R1,.abs R2,.abs R3,.qk (.pm 3 82 bK M i ref bb) 5,.cells 82 [.k (.int .i64 r.1.1),.k (.int .i64 r.1.2.1),.k (.int .i64 r.1.2.2.1),.k (.int .i64 r.1.2.2.2.1),.k (.int .i64 r.1.2.2.2.2.1),.k (.int .i64 r.1.2.2.2.2.2.1),.k (.int .i64 r.1.2.2.2.2.2.2.1),.k (.int .i64 r.1.2.2.2.2.2.2.2.1),.k (.int .i64 r.1.2.2.2.2.2.2.2.2.1),.k (.int .i64 r.1.2.2.2.2.2.2.2.2.2.1),.k (.string r.1.2.2.2.2.2.2.2.2.2.2.1),.k (.int .i64 r.2.1),.d cR r.2.2.1,.d dJ r.2.2.2.1]]
def K4 (ref:Int) (T:List Int) (im:List UInt8) (s0 s1 s2 s3 s4 s5 s6 s7 s8 s9:Int) (pl ids:List Int) (nm:Int) (R1 R2 R3:Value->Atom) (M:(List (Int×Nat×bK.den))):dE:=λQ=>aI .i64 ref->((Ch M ref)->Q (.cZ [.c (.k (.pointer none)),.c (.k (.int .i64 1))]) [je T im s0 s1 s2 s3 s4 s5 s6 s7 s8 s9 pl ids nm,HO.abs R1,HO.abs R2,HO.abs 
 R3,iq M])/\∀ (i bb:Nat) (x:Ty.den bK),M[i]?=some (ref,bb,x)->Ty.ok bK x->Q (SV.cZ [S1.c (.p 5 0),.c (.k bn)]) [je T im s0 s1 s2 s3 s4 s5 s6 s7 s8 s9 pl ids nm,HO.abs R1,HO.abs R2,HO.abs R3,HO.qk (HK.pm (3: 
 TypeId) (82:TypeId) bK M i ref bb) ke,.cells 82 [.k (aE x.1.1),.k (aE x.1.2.1),.k (aE x.1.2.2.1),.k (aE x.1.2.2.2.1),.k (aE x.1.2.2.2.2.1),.k (aE x.1.2.2.2.2.2.1),.k (aE x.1.2.2.2.2.2.2.1),.k (aE 
 x.1.2.2.2.2.2.2.2.1),.k (aE x.1.2.2.2.2.2.2.2.2.1),.k (aE x.1.2.2.2.2.2.2.2.2.2.1),.k (.string x.1.2.2.2.2.2.2.2.2.2.2.1),.k (aE x.2.1),Cl.d cR x.2.2.1,Cl.d dJ x.2.2.2.1]]
theorem QU:cM 30 aeG:=by
 intro args H Q h;obtain ⟨ref,T,im,s0,s1,s2,s3,s4,s5,s6,s7,s8,s9,pl,ids,nm,R1,R2,R3,M,rfl,rfl,h⟩:=h;refine Wp.dL jr gE ⟨[],[]⟩ Tryz.f30 (K4 ref T im s0 s1 s2 s3 s4 s5 s6 s7 s8 s9 pl ids nm R1 R2 R3 M) ?_;unfold K4 Ch bn aE ke je iq;obtain ⟨⟨p,hp,e⟩,h⟩:=h;exact λ_=>⟨λkJ=>absurd e (kJ p hp),λi bb r hi ho=>h i bb r hi ho⟩
def NO:Ct:=λargs H Q=>(match args with
 | [.v (.c (.p 0 0)),.v (.c (.k (.int .i64 ref)))]=>(match H with
 | [o0,o1,o2,o3,o4]=>imR o0 λT im s0 s1 s2 s3 s4 s5 s6 s7 s8 s9 pl ids nm=>(match o1 with
 | .abs R1=>(match o2 with
 | .abs R2=>(match o3 with
 | .abs R3=>Mv o4 λM=>(∃ p∈M,p.1=ref)/\∀ (i bb:Nat) (r:bK.den),M[i]?=some (ref,bb,r)->bK.ok r->Q (.cZ [.c (.p 5 0),.c (.k (.int .i64 0))]) [.cells 90 [.de (.int .u32) T 0 0,.d .u8 im,.k (.int .i64 s0),.k (.int .i64 s1),.k (.int .i64 s2),.k (.int .i64 s3),.k (.int .i64 s4),.k (.int .i64 s5),.k (.int .i64 s6),.k (.int .i64 s7),.k (.int .i64 s8),.k (.int .i64 s9),.d (.int .i64) pl,.d (.int .i64) ids,.p 1 0,.p 2 0,.p 3 0,.m 4,.k (.int .i64 nm)],.abs R1,.abs R2,.abs R3,.qk (.pm 3 82 bK M i ref bb) 5,.cells 82 [.k (.int .i64 r.1.1),.k (.int .i64 r.1.2.1),.k (.int .i64 r.1.2.2.1),.k (.int .i64 r.1.2.2.2.1),.k (.int .i64 r.1.2.2.2.2.1),.k (.int .i64 r.1.2.2.2.2.2.1),.k (.int .i64 r.1.2.2.2.2.2.2.1),.k (.int .i64 r.1.2.2.2.2.2.2.2.1),.k (.int .i64 r.1.2.2.2.2.2.2.2.2.1),.k (.int .i64 r.1.2.2.2.2.2.2.2.2.2.1),.k (.string r.1.2.2.2.2.2.2.2.2.2.2.1),.k (.int .i64 r.2.1),.d cR r.2.2.1,.d dJ r.2.2.2.1]]
 | _=>False)
 | _=>False)
 | _=>False)
 | _=>False)
 | _=>False)
theorem WW:cM 30 NO:=λargs H Q h=>by
 unfold NO Mv imR Wl Y6 at h;dsimp only at h
 repeat (split at h;rotate_left;exact h.elim)
 exact QU _ _ _ ⟨_,_,_,_,_,_,_,_,_,_,_,_,_,_,_,_,_,_,_,_,rfl,rfl,h⟩
structure Og (d:IR) (N:List bx) (x:bx) (es:List cR.den) (e:Int):Prop where
 or:(e=0/\x.2.2.1=1/\hU ⟨#[]⟩ es/\fH N d.t.Mr x.1.length (bX x.1 N 0) es)\/(e=24/\x.2.2.1≠1/\es= [])
structure abR (d:IR) (N:List bx) (x:bx) (s:ByteArray) (v:cR.den) (e:Int):Prop where
 eq:e=mF N x s
 ok:e=0->∃ y∈N,y.1=x.1++ [s]/\agT d N y s v
structure BsR (l:List cR.den) (s:ByteArray) (i:Int) (b:Bool):Prop where
 r:0<=i/\i<=(l.length:Int)
 yes:b=true->i< (l.length:Int)/\(aB cR l i).1=s
 no:b=false->∀ x∈l,x.1≠s
def aje:Ct:=cN cR λx=>cS λs=>c0 λQ=>Q (.int (fz x.1 s)) []
def abx:=jr.add QU
def RF:((cR).den)->(ByteArray)->dE:=
 λx s Q=>iQ x.1 (cn x.2.1 x.2.2.1 (IB s x.1 Q))
theorem ahp:cM 266 aje:=fe<| Va λx=>Yx λs=>iB λQ h=>by
 refine Wp.dL abx gE ⟨[],[]⟩ Tryz.f266 (RF x s) ?_;unfold RF IB dC iQ cn bn aN;refine λ_ _ _ _=>aw (λq=>?_) (λq=>aw (λq2=>?_) (λq2=>?_))
 .rw [mA,decide_eq_true_eq] at q;rcases jV x.1 s with ⟨_,e⟩| ⟨_,e⟩| ⟨_,e⟩<;>rw [e] at h q
  .exact h
  .exact absurd q (by decide)
  .exact absurd q (by decide)
 .rw [mA,decide_eq_false_iff_not] at q;rcases jV x.1 s with ⟨_,e⟩| ⟨_,e⟩| ⟨_,e⟩
  .rw [e] at q;exact absurd (by decide) q
  .rw [jA.2 (uh e)] at q2;simp at q2
  .rw [e] at h;exact h
 .rw [q] at q2;have q3:kR x.1 s=true:=by simpa using q2
  rw [jA.1 q3,mu] at h;exact h
def afR:Ct
 | [.v (.c cl),.v (.c (.k (.string s))),.v (.c (.fn 266 []))],[],Q=>(match (Ty.sl cR).of [cl] with
  | some (l,[])=>(l.Pairwise λa b=>lD a.1 b.1=true)/\l.length<=100000/\∀ (i:Int) (b:Bool),BsR l s i b->Q (.cZ [.c (.k (.int .i64 i)),.c (.k (.bool b))]) []
  | _=>False)
 | _,_,_=>False
def ajI:=abx.add ahp
def XB (l:(List (cR).den)) (s:ByteArray):dE:=λQ=>List.length l<=9223372036854775807->dC s (aN (List.length l)->ba (λi ag=>br (decide (i.1.1< i.1.2.1)) (aI .i64 (i.1.1+i.1.2.1)/\(qN i.1.1 i.1.2.1 (qO i.1.1 i.1.2.1 (0<=iM (iY i.1.1 i.1.2.1)/\ 
 iM (iY i.1.1 i.1.2.1)< (aF l)/\(Ty.ok cR (aB cR l (kW i.1.1 i.1.2.1))->aI .i64 (fz (aB cR l (kW i.1.1 i.1.2.1)).1 s)->br (decide (fz (aB cR l (kW i.1.1 i.1.2.1)).1 s< 0)) (sH i.1.1 i.1.2.1 ag 
 i.1.2) (sw ag i.1.1 i.1.2.1)))))) (br (decide (i.1.1< (aF l))) (0<=i.1.1/\i.1.1< (aF l)/\(Ty.ok cR (gW l i.1.1)->aI .i64 (fz (gW l i.1.1).1 s)->Q (.cZ [.c (.k (aE i.1.1)),.c (.k (.bool (fz (gW l 
 i.1.1).1 s==0)))]) [])) (Q (.cZ [.c (.k (aE i.1.1)),.c (.k (.bool false))]) []))) ((ah,(aF l),()),()))
theorem akG:cM 265 afR:=by
 intro args H Q h;unfold afR at h;split at h;rotate_left;cases h;rename_i cl s;split at h;rotate_left;cases h;rename_i l hl;refine Wp.said (args':=[.c (.d cR l),.str s,.v (.c (.fn 266 []))]) (λE g=>bE.dd (dR hl) (bE.dd (λ_ h=>h) (bE.dd (λ_ h=>h) (λ_ h=>h)))) ?_;clear hl;refine Wp.dL ajI gE ⟨[(4,⟨[(9,.int .i64),(10,.int .i64)],[]⟩)],[]⟩ Tryz.f265 (XB l s) ?_;unfold XB gW sw qN qO kW dC sH iY aE ah a8 aF aN pX iM;obtain ⟨hs,hl,h⟩:=h;have hP:∀ a c:Int,0<=a->a< c->c< (l.length:Int)->fz (aB cR l a).1 (aB cR l c).1< 0:=λa c a0 ac c1=>by
  have:=da.1 hs a.toNat c.toNat (by omega) (by omega) (by omega);rw [<-fb (e:=cR) a0 (by omega),<-fb (e:=cR) (by omega) c1,mA,decide_eq_true_eq] at this;exact this
 refine λ_ _ _=>ba.intro (λi=>0<=i.1.1/\i.1.1<=i.1.2.1/\i.1.2.1<=l.length/\(∀ a,0<=a->a< i.1.1->fz (aB cR l a).1 s< 0)/\∀ a,i.1.2.1<=a->a< (l.length:Int)->¬fz (aB cR l a).1 s< 0) (λi=>(i.1.2.1 - i.1.1).toNat) ⟨bp _,by show (0:Int)<=l.length;omega,bp _,λa a0 a1=>by have a1:a< 0:=a1;omega,λa a0 a1=>by have a0:(l.length:Int)<=a:=a0;omega⟩ ?_;rintro ⟨⟨i,j,_⟩,_⟩ ⟨h0,h1,h2,h3,h4⟩;simp only at h0 h1 h2 h3 h4 ⊢;refine aw (λhq=>?_) (λhq=>?_)
 .have hq:=of_decide_eq_true hq;refine ⟨by unfold aI;omega,λ_=>⟨by decide,λ_ _=>?_⟩⟩;rw [PB (n:=i+j) (by omega) (by omega)];refine ⟨by omega,by omega,λ_ _=>aw (λhd=>?_) (λhd=>?_)⟩
  .have hd:=of_decide_eq_true hd;refine ⟨by unfold aI;omega,⟨by omega,by omega,by omega,λa a0 a1=>?_,h4⟩,by omega⟩;rcases Int.lt_or_le a ((i+j) / 2) with q| q
   .exact oR (hP a ((i+j) / 2) a0 q (by omega)) hd
   .obtain rfl:a=(i+j) / 2:=by omega
    exact hd
  .have hd:=of_decide_eq_false hd;refine ⟨⟨by omega,by omega,by omega,h3,λa a0 a1 hc=>?_⟩,by omega⟩;rcases Int.lt_or_le ((i+j) / 2) a with q| q
   .exact hd (oR (hP ((i+j) / 2) a (by omega) q a1) hc)
   .obtain rfl:a=(i+j) / 2:=by omega
    exact hd hc
 .have hq:=of_decide_eq_false hq;obtain rfl:i=j:=by omega
  have kJ:(∀ c:Int,c=i->c< (l.length:Int)->(aB cR l c).1≠s)->∀ x∈l,x.1≠s:=λhi x hx e=>by
   obtain ⟨k,hk,rfl⟩:=dH.1 hx;rw [<-iI (e:=cR) hk] at e;rcases Int.lt_trichotomy (k:Int) i with q| q| q
   .have:=h3 k (by omega) q;rw [e,mu] at this;exact absurd this (by decide)
   .exact hi k q (by omega) e
   .have:=hP i k h0 q (by omega);rw [e] at this;exact h4 i (bp _) (by omega) this
  refine aw (λhi=>⟨h0,of_decide_eq_true hi,λ_ _=>h i _ ⟨⟨h0,h2⟩,λe=>⟨of_decide_eq_true hi,uh (eq_of_beq e)⟩,λe=>kJ λc hc M9 q=>?_⟩⟩) (λhi=>h i false ⟨⟨h0,h2⟩,(λe=>by cases e),λ_=>kJ λc hc M9=>absurd (hc▸M9) (of_decide_eq_false hi)⟩);subst hc;rw [q,mu] at e;exact absurd e (by decide)
def ajd:Ct:=cD cR λx=>c0 λQ=>x.length<=1000000/\Q (.c (.d cR x)) []
def RE (x:(List (cR).den)):dE:=λQ=>List.length x<=9223372036854775807->∀ (c:Bool),(c=true->x= [])->br (lJ c) (Q gf []) ((0+List.length x)*32<=140737488355328/\0+List.length x<=9223372036854775807/\Q gd [.sl 44 cR ([]++x)])
theorem aho:cM 31 ajd:=fe<| kC λx=>iB λQ h=>by
 refine Wp.IL (e:=cR) ?_;refine Wp.dL jr gE ⟨[],[]⟩ Tryz.f31 (RE x) ?_;unfold RE lJ gd gf cA;obtain ⟨hl,h⟩:=h;refine λ_ c hc=>aw (λhb=>.inr (.inl ⟨rfl,?_⟩)) (λhb=>⟨by omega,by omega,.inr (.inr ⟨0,44,x,rfl,az 0,rfl,h⟩)⟩);rw [hc hb] at h;exact h
theorem UJ {α:Type} {l:List α} {i:Nat} {a:α} (h:l[i]?=some a):l.set i a=l:=by
 obtain ⟨h1,rfl⟩:=av.1 h;exact List.set_getElem_self _
def aeD:Ct:=λargs H Q=>∃ (ref:Int) (T:List Int) (im:List UInt8) (s0:Int) (s1:Int) (s2:Int) (s3:Int) (s4:Int) (s5:Int) (s6:Int) (s7:Int) (s8:Int) (s9:Int) (pl:List Int) (ids:List Int) (nm:Int) (R1:Value->Atom) (R2:Value->Atom) (R3:Value->Atom) (M:List (Int×Nat×bK.den)),args= [.v (.c (.p 0 0)),.int ref]/\H= [.cells 90 [.de (.int .u32) T 0 0,.d .u8 im,.k (.int .i64 s0),.k (.int .i64 s1),.k (.int .i64 s2),.k (.int .i64 s3),.k (.int .i64 s4),.k (.int .i64 s5),.k (.int .i64 s6),.k (.int .i64 s7),.k (.int .i64 s8),.k (.int .i64 s9),.d (.int .i64) pl,.d (.int .i64) ids,.p 1 0,.p 2 0,.p 3 0,.m 4,.k (.int .i64 nm)],.abs R1,.abs R2,.abs R3,.ab (.pm 3 82 bK M)]/\∃ (d:IR) (N:List bx) (x:bx),d.Ok T N/\(T=dN/\im=d.im T/\d.s=(s0,s1,s2,s3,s4,s5,s6,s7,s8,s9,())/\pl=d.pl/\ids=d.ids)/\Ob d N M x ref/\x∈N/\∀ es e,Og d N x es e->Q (.cZ [.c (.d cR es),.c (.k (.int .i64 e))]) [.cells 90 [.de (.int .u32) T 0 0,.d .u8 im,.k (.int .i64 s0),.k (.int .i64 s1),.k (.int .i64 s2),.k (.int .i64 s3),.k (.int .i64 s4),.k (.int .i64 s5),.k (.int .i64 s6),.k (.int .i64 s7),.k (.int .i64 s8),.k (.int .i64 s9),.d (.int .i64) pl,.d (.int .i64) ids,.p 1 0,.p 2 0,.p 3 0,.m 4,.k (.int .i64 nm)],.abs R1,.abs R2,.abs R3,.ab (.pm 3 82 bK M)]
def ajH:=(jr.add aho).add WW
def KZ (ref:Int) (T:List Int) (im:List UInt8) (s0 s1 s2 s3 s4 s5 s6 s7 s8 s9:Int) (pl ids:List Int) (nm:Int) (R1 R2 R3:Value->Atom) (M:(List (Int×Nat×bK.den))):dE:=λQ=>aI .i64 ref->(∃ p,p∈M/\p.1=ref)/\∀ (i bb:Nat) (r:Ty.den bK),M[i]?=some (ref,bb,r)->Ty.ok bK r->aI .i64 0->br (r.1.1 !=1) (Q (.cZ [.c (.k 
 cA),.c (.k (.int .i64 24))]) [je T im s0 s1 s2 s3 s4 s5 s6 s7 s8 s9 pl ids nm,HO.abs R1,HO.abs R2,HO.abs R3,iq (List.set M i (ref,bb,r))]) (List.length r.2.2.1<=1000000/\(aN (bQ r.2.2.1)->Q (SV.cZ [S1.c (Cl.d cR 
 r.2.2.1),.c (.k bn)]) [je T im s0 s1 s2 s3 s4 s5 s6 s7 s8 s9 pl ids nm,HO.abs R1,HO.abs R2,HO.abs R3,iq (List.set M i (ref,bb,r))]))
theorem QS:cM 13 aeD:=by
 intro args H Q h;obtain ⟨ref,T,im,s0,s1,s2,s3,s4,s5,s6,s7,s8,s9,pl,ids,nm,R1,R2,R3,M,rfl,rfl,h⟩:=h;refine Wp.lY [some (.sl cR),none] [] ?_;refine Wp.dL ajH gE ⟨[],[]⟩ Tryz.f13 (KZ ref T im s0 s1 s2 s3 s4 s5 s6 s7 s8 s9 pl ids nm R1 R2 R3 M) (clo:=true) ?_;unfold KZ bQ cA bn aN je iq;obtain ⟨d,N,x,hd,⟨rfl,rfl,hs,rfl,rfl⟩,⟨⟨p0,hp0,hpr⟩,xd⟩,hx,h⟩:=h;refine λ_=>⟨⟨p0,hp0,hpr⟩,λi bb r hi _ _=>?_⟩;have hR:=xd i bb r hi;rw [UJ hi];have hN:=hR.n;have hmk:=(qc (hd.tok.may x hx)).2;obtain ⟨kd,ekd⟩:∃ a:Int,a=r.1.1:=⟨_,rfl⟩;have hkd:kd=x.2.2.1:=by rw [ekd];exact hN.kind
 
 rw [<-ekd];refine aw (λq=>⟨az _,h [] 24 ⟨.inr ⟨rfl,λe=>?_,rfl⟩⟩⟩) (λq=>?_);rw [hkd,e] at q;cases q;have hk:x.2.2.1=1:=by
  have:kd=1:=by simpa using q
  rw [<-hkd];exact this
 have hl:=hR.YQ hk;have uK:=jh x.1 (L:=N) (k:=0);have hl3:=hd.tok.len;refine ⟨by omega,λ_=>⟨az _,h r.2.2.1 0 ⟨.inl ⟨rfl,hk,?_⟩⟩⟩⟩;rcases hR.list with ⟨_,a,b⟩| ⟨a,_⟩;exact ⟨a,b⟩;exact absurd hk a
def NN:Ct:=λargs H Q=>(match args with
 | [.v (.c (.p 0 0)),.v (.c (.k (.int .i64 ref)))]=>(match H with
 | [o0,o1,o2,o3,o4]=>imR o0 λT im s0 s1 s2 s3 s4 s5 s6 s7 s8 s9 pl ids nm=>(match o1 with
 | .abs R1=>(match o2 with
 | .abs R2=>(match o3 with
 | .abs R3=>Mv o4 λM=>∃ (d:IR) (N:List bx) (x:bx),d.Ok T N/\(T=dN/\im=d.im T/\d.s=(s0,s1,s2,s3,s4,s5,s6,s7,s8,s9,())/\pl=d.pl/\ids=d.ids)/\Ob d N M x ref/\x∈N/\∀ es e,Og d N x es e->Q (.cZ [.c (.d cR es),.c (.k (.int .i64 e))]) [.cells 90 [.de (.int .u32) T 0 0,.d .u8 im,.k (.int .i64 s0),.k (.int .i64 s1),.k (.int .i64 s2),.k (.int .i64 s3),.k (.int .i64 s4),.k (.int .i64 s5),.k (.int .i64 s6),.k (.int .i64 s7),.k (.int .i64 s8),.k (.int .i64 s9),.d (.int .i64) pl,.d (.int .i64) ids,.p 1 0,.p 2 0,.p 3 0,.m 4,.k (.int .i64 nm)],.abs R1,.abs R2,.abs R3,.ab (.pm 3 82 bK M)]
 | _=>False)
 | _=>False)
 | _=>False)
 | _=>False)
 | _=>False)
theorem WT:cM 13 NN:=λargs H Q h=>by
 unfold NN Mv imR Wl Y6 at h;dsimp only at h
 repeat (split at h;rotate_left;exact h.elim)
 exact QS _ _ _ ⟨_,_,_,_,_,_,_,_,_,_,_,_,_,_,_,_,_,_,_,_,rfl,rfl,h⟩
def aeC:Ct:=λargs H Q=>∃ (ref:Int) (s:ByteArray) (T:List Int) (im:List UInt8) (s0:Int) (s1:Int) (s2:Int) (s3:Int) (s4:Int) (s5:Int) (s6:Int) (s7:Int) (s8:Int) (s9:Int) (pl:List Int) (ids:List Int) (nm:Int) (R1:Value->Atom) (R2:Value->Atom) (R3:Value->Atom) (M:List (Int×Nat×bK.den)),args= [.v (.c (.p 0 0)),.int ref,.str s]/\H= [.cells 90 [.de (.int .u32) T 0 0,.d .u8 im,.k (.int .i64 s0),.k (.int .i64 s1),.k (.int .i64 s2),.k (.int .i64 s3),.k (.int .i64 s4),.k (.int .i64 s5),.k (.int .i64 s6),.k (.int .i64 s7),.k (.int .i64 s8),.k (.int .i64 s9),.d (.int .i64) pl,.d (.int .i64) ids,.p 1 0,.p 2 0,.p 3 0,.m 4,.k (.int .i64 nm)],.abs R1,.abs R2,.abs R3,.ab (.pm 3 82 bK M)]/\∃ (d:IR) (N:List bx) (x:bx),d.Ok T N/\(T=dN/\im=d.im T/\d.s=(s0,s1,s2,s3,s4,s5,s6,s7,s8,s9,())/\pl=d.pl/\ids=d.ids)/\Ob d N M x ref/\x∈N/\∀ v e,abR d N x s v e->Q (.cZ [.agg (cR.cells v),.c (.k (.int .i64 e))]) [.cells 90 [.de (.int .u32) T 0 0,.d .u8 im,.k (.int .i64 s0),.k (.int .i64 s1),.k (.int .i64 s2),.k (.int .i64 s3),.k (.int .i64 s4),.k (.int .i64 s5),.k (.int .i64 s6),.k (.int .i64 s7),.k (.int .i64 s8),.k (.int .i64 s9),.d (.int .i64) pl,.d (.int .i64) ids,.p 1 0,.p 2 0,.p 3 0,.m 4,.k (.int .i64 nm)],.abs R1,.abs R2,.abs R3,.ab (.pm 3 82 bK M)]
def ajG:=(jr.add akG).add WT
def KY (ref:Int) (s:ByteArray) (T:List Int) (im:List UInt8) (s0 s1 s2 s3 s4 s5 s6 s7 s8 s9:Int) (pl ids:List Int) (nm:Int) (R1 R2 R3:Value->Atom) (M:(List (Int×Nat×bK.den))):dE:=λQ=>aI .i64 ref->dC s (∃ d N x,IR.Ok d T N/\(T=dN/\im=IR.im d T/\d.s=(s0,s1,s2,s3,s4,s5,s6,s7,s8,s9,())/\pl=d.pl/\ids=d.ids)/\Ob d N M 
 x ref/\x∈N/\∀ (es:List (Ty.den cR)) (e:Int),Og d N x es e->aN (List.length es)->aI .i64 e->br (e !=0) (Q (SV.cZ [S1.agg [.k (.string gY),.k bn,.k bn],.c (.k (aE e))]) [je T im s0 s1 s2 s3 s4 s5 s6 s7 
 s8 s9 pl ids nm,HO.abs R1,HO.abs R2,HO.abs R3,iq M]) (List.Pairwise (λa b=>lD a.1 b.1=true) es/\List.length es<=100000/\∀ (i:Int) (b:Bool),BsR es s i b->aI .i64 i->br (!b) (Q (SV.cZ [S1.agg [.k (.string gY),.k 
 bn,.k bn],.c (.k (.int .i64 20))]) [je T im s0 s1 s2 s3 s4 s5 s6 s7 s8 s9 pl ids nm,HO.abs R1,HO.abs R2,HO.abs R3,iq M]) (0<=i/\i< (aF es)/\(Ty.ok cR (aB cR es i)->Q (SV.cZ [S1.agg [.k (.string (aB cR es 
 i).1),.k (.int .i64 (aB cR es i).2.1),.k (.int .i64 (aB cR es i).2.2.1)],.c (.k bn)]) [je T im s0 s1 s2 s3 s4 s5 s6 s7 s8 s9 pl ids nm,HO.abs R1,HO.abs R2,HO.abs R3,iq M]))))
theorem acB:cM 263 aeC:=by
 intro args H Q h;obtain ⟨ref,s,T,im,s0,s1,s2,s3,s4,s5,s6,s7,s8,s9,pl,ids,nm,R1,R2,R3,M,rfl,rfl,h⟩:=h;refine Wp.dL ajG gE ⟨[],[]⟩ Tryz.f263 (KY ref s T im s0 s1 s2 s3 s4 s5 s6 s7 s8 s9 pl ids nm R1 R2 R3 M) (clo:=true) ?_;unfold KY gY dC bn aE aF aN je iq;obtain ⟨d,N,x,hd,⟨rfl,rfl,hs,rfl,rfl⟩,⟨⟨p0,hp0,hpr⟩,xd⟩,hx,h⟩:=h;refine λ_ _=>⟨d,N,x,hd,⟨rfl,rfl,hs,rfl,rfl⟩,⟨⟨p0,hp0,hpr⟩,xd⟩,hx,λes e hL _ _=>?_⟩;rcases hL.or with ⟨rfl,hk,ho,hE⟩| ⟨rfl,hk,rfl⟩;rotate_left;exact aw (λ_=>h (⟨#[]⟩,(0:Int),(0:Int),()) 24 ⟨by unfold mF;rw [if_neg hk],λq=>by cases q⟩) (λq=>by cases q);have hl:=hE.len;have uK:=jh x.1 (L:=N) (k:=0);have hl3:=hd.tok.len;refine aw (λq=>by cases q) (λ_=>⟨(yV ho).2,by omega,λi b hB _=>aw (λq=>?_) (λq=>?_)⟩)
 .have kJ:=hB.no (by simpa using q);refine h (⟨#[]⟩,(0:Int),(0:Int),()) 20 ⟨?_,λq=>by cases q⟩;have:Ot N (x.1++ [s])=none:=td.2 λy hy e=>by
   obtain ⟨j,hj,ej⟩:=SI hd.tok hE hy e;exact kJ _ (df hj) ej
  unfold mF;rw [if_pos hk,this]
 .obtain ⟨hi,hs'⟩:=hB.yes (by simpa using q);obtain ⟨h0,_⟩:=hB.r;refine ⟨h0,hi,λ_=>?_⟩;obtain ⟨j,rfl⟩:∃ j:Nat,i=j:=⟨i.toNat,by omega⟩;have hj:j< es.length:=by omega
  obtain ⟨y,hy,e1,e2⟩:=Jt hd.tok hE hj;have ex:aB cR es (j:Int)=es[j]:=iI (e:=cR) hj;rw [ex] at hs' ⊢;rw [hs'] at e1 e2;refine h es[j] 0 ⟨?_,λ_=>⟨y,hy,e1,e2⟩⟩;unfold mF;rw [if_pos hk];cases hf:Ot N (x.1++ [s]) with
  | none=>exact absurd e1 (td.1 hf y hy)
  | some v=>rfl
def aes:Ct:=λargs H Q=>∃ (T:List Int) (im:List UInt8) (s0:Int) (s1:Int) (s2:Int) (s3:Int) (s4:Int) (s5:Int) (s6:Int) (s7:Int) (s8:Int) (s9:Int) (pl:List Int) (ids:List Int) (nm:Int) (R1:Value->Atom) (R2:Value->Atom) (R3:Value->Atom) (M:List (Int×Nat×bK.den)),args= [.v (.c (.p 0 0))]/\H= [.cells 90 [.de (.int .u32) T 0 0,.d .u8 im,.k (.int .i64 s0),.k (.int .i64 s1),.k (.int .i64 s2),.k (.int .i64 s3),.k (.int .i64 s4),.k (.int .i64 s5),.k (.int .i64 s6),.k (.int .i64 s7),.k (.int .i64 s8),.k (.int .i64 s9),.d (.int .i64) pl,.d (.int .i64) ids,.p 1 0,.p 2 0,.p 3 0,.m 4,.k (.int .i64 nm)],.abs R1,.abs R2,.abs R3,.ab (.pm 3 82 bK M)]/\Q (.int s9) [.cells 90 [.de (.int .u32) T 0 0,.d .u8 im,.k (.int .i64 s0),.k (.int .i64 s1),.k (.int .i64 s2),.k (.int .i64 s3),.k (.int .i64 s4),.k (.int .i64 s5),.k (.int .i64 s6),.k (.int .i64 s7),.k (.int .i64 s8),.k (.int .i64 s9),.d (.int .i64) pl,.d (.int .i64) ids,.p 1 0,.p 2 0,.p 3 0,.m 4,.k (.int .i64 nm)],.abs R1,.abs R2,.abs R3,.ab (.pm 3 82 bK M)]
def KJ (T:List Int) (im:List UInt8) (s0 s1 s2 s3 s4 s5 s6 s7 s8 s9:Int) (pl ids:List Int) (nm:Int) (R1 R2 R3:Value->Atom) (M:(List (Int×Nat×bK.den))):dE:=λQ=>Q (gZ s9) [je T im s0 s1 s2 s3 s4 s5 s6 s7 s8 s9 pl ids nm,HO.abs R1,HO.abs R2,HO.abs R3,iq M]
theorem ack:cM 17 aes:=by
 intro args H Q h;obtain ⟨T,im,s0,s1,s2,s3,s4,s5,s6,s7,s8,s9,pl,ids,nm,R1,R2,R3,M,rfl,rfl,h⟩:=h;refine Wp.dL jr gE ⟨[],[]⟩ Tryz.f17 (KJ T im s0 s1 s2 s3 s4 s5 s6 s7 s8 s9 pl ids nm R1 R2 R3 M) ?_;unfold KJ gZ aE je iq;exact h
structure MB (A:Value->Atom) (d:IR) (N:List bx):Prop where
 ok:d.Ok dN N
 tr:uU N
 ex:∃ (s0 s1 s2 s3 s4 s5 s6 s7 s8 s9 nm:Int) (R1 R2 R3:Value->Atom) (M:List (Int×Nat×bK.den)),d.s=(s0,s1,s2,s3,s4,s5,s6,s7,s8,s9,())/\mz d N (og N 17 0) M/\A=jX [.cells 90 [.de (.int .u32) dN 0 0,.d .u8 (d.im dN),.k (.int .i64 s0),.k (.int .i64 s1),.k (.int .i64 s2),.k (.int .i64 s3),.k (.int .i64 s4),.k (.int .i64 s5),.k (.int .i64 s6),.k (.int .i64 s7),.k (.int .i64 s8),.k (.int .i64 s9),.d (.int .i64) d.pl,.d (.int .i64) d.ids,.p 1 0,.p 2 0,.p 3 0,.m 4,.k (.int .i64 nm)],.abs R1,.abs R2,.abs R3,.ab (.pm 3 82 bK M)]
theorem ZA {T:List Int} {im:List UInt8} {s0 s1 s2 s3 s4 s5 s6 s7 s8 s9 nm:Int} {pl ids:List Int} {R1 R2 R3:Value->Atom} {M:List (Int×Nat×bK.den)} {Q:SV->List HO->Prop} {sv:SV}:uB 0 [1,2,3,4] [0] 1 Q sv [.cells 90 [.de (.int .u32) T 0 0,.d .u8 im,.k (.int .i64 s0),.k (.int .i64 s1),.k (.int .i64 s2),.k (.int .i64 s3),.k (.int .i64 s4),.k (.int .i64 s5),.k (.int .i64 s6),.k (.int .i64 s7),.k (.int .i64 s8),.k (.int .i64 s9),.d (.int .i64) pl,.d (.int .i64) ids,.p 1 0,.p 2 0,.p 3 0,.m 4,.k (.int .i64 nm)],.abs R1,.abs R2,.abs R3,.ab (.pm 3 82 bK M)]=Q (sv.fw (iw [0])) [.abs (jX [.cells 90 [.de (.int .u32) T 0 0,.d .u8 im,.k (.int .i64 s0),.k (.int .i64 s1),.k (.int .i64 s2),.k (.int .i64 s3),.k (.int .i64 s4),.k (.int .i64 s5),.k (.int .i64 s6),.k (.int .i64 s7),.k (.int .i64 s8),.k (.int .i64 s9),.d (.int .i64) pl,.d (.int .i64) ids,.p 1 0,.p 2 0,.p 3 0,.m 4,.k (.int .i64 nm)],.abs R1,.abs R2,.abs R3,.ab (.pm 3 82 bK M)])]:=by kernel_rfl
def ZU:Ct
 | [.v (.c (.p 0 0))],[.abs A],Q=>∃ (d:IR) (N:List bx),MB A d N/\∀ ref:Int,Kk.get .int d.t.Mr (aB noTy N 0).2.1=some ref->Q (.int ref) [.abs A]
 | _,_,_=>False
theorem MB.root {A:Value->Atom} {d:IR} {N:List bx} (h:MB A d N):Kk.get .int d.t.Mr (aB noTy N 0).2.1=some d.s.2.2.2.2.2.2.2.2.2.1:=by
 obtain ⟨x0,hx0,e1,_,e3⟩:=h.ok.root;have hp:=h.tr.pos;obtain rfl:=h.ok.tok.uniq hx0 (rO (e:=noTy) (bp 0) (by omega)) (e1.trans h.tr.root.1.symm);exact e3
theorem ag2:cM 17 ZU:=λargs H Q h=>by
 unfold ZU at h;split at h
 .obtain ⟨d,N,hM,h⟩:=h;have hr:=hM.root;obtain ⟨s0,s1,s2,s3,s4,s5,s6,s7,s8,s9,nm,R1,R2,R3,M,hs,hV,rfl⟩:=hM.ex;rw [hs] at hr;exact Wp.JI (q:=0) (p:=0) (r:=[1,2,3,4]) (ls:=[0]) (L:=[.cells 90 [.de (.int .u32) dN 0 0,.d .u8 (d.im dN),.k (.int .i64 s0),.k (.int .i64 s1),.k (.int .i64 s2),.k (.int .i64 s3),.k (.int .i64 s4),.k (.int .i64 s5),.k (.int .i64 s6),.k (.int .i64 s7),.k (.int .i64 s8),.k (.int .i64 s9),.d (.int .i64) d.pl,.d (.int .i64) d.ids,.p 1 0,.p 2 0,.p 3 0,.m 4,.k (.int .i64 nm)],.abs R1,.abs R2,.abs R3,.ab (.pm 3 82 bK M)]) rfl (iL _) (ack _ _ _ ⟨_,_,_,_,_,_,_,_,_,_,_,_,_,_,_,_,_,_,_,rfl,rfl,ZA.mpr (h s9 hr)⟩)
 .cases h
def Z1:Ct
 | [.v (.c (.p 0 0)),.v (.c (.k (.int .i64 ref)))],[.abs A],Q=>∃ (d:IR) (N:List bx) (x:bx),MB A d N/\x∈N/\Kk.get .int d.t.Mr x.2.1=some ref/\∀ es e,Og d N x es e->Q (.cZ [.c (.d cR es),.c (.k (.int .i64 e))]) [.abs A]
 | _,_,_=>False
theorem ahb:cM 13 Z1:=λargs H Q h=>by
 unfold Z1 at h;split at h
 .obtain ⟨d,N,x,hM,hx,hg,h⟩:=h;obtain ⟨s0,s1,s2,s3,s4,s5,s6,s7,s8,s9,nm,R1,R2,R3,M,hs,hV,rfl⟩:=hM.ex;have hR:=hV.recAt hM.ok hM.tr.root.1 hM.tr.pos hx hg;exact Wp.JI (q:=0) (p:=0) (r:=[1,2,3,4]) (ls:=[0]) (L:=[.cells 90 [.de (.int .u32) dN 0 0,.d .u8 (d.im dN),.k (.int .i64 s0),.k (.int .i64 s1),.k (.int .i64 s2),.k (.int .i64 s3),.k (.int .i64 s4),.k (.int .i64 s5),.k (.int .i64 s6),.k (.int .i64 s7),.k (.int .i64 s8),.k (.int .i64 s9),.d (.int .i64) d.pl,.d (.int .i64) d.ids,.p 1 0,.p 2 0,.p 3 0,.m 4,.k (.int .i64 nm)],.abs R1,.abs R2,.abs R3,.ab (.pm 3 82 bK M)]) rfl (iL _) (QS _ _ _ ⟨_,_,_,_,_,_,_,_,_,_,_,_,_,_,_,_,_,_,_,_,rfl,rfl,d,N,x,hM.ok,⟨rfl,rfl,hs,rfl,rfl⟩,hR,hx,λes e q=>ZA.mpr (h es e q)⟩)
 .cases h
def Z0:Ct
 | [.v (.c (.p 0 0)),.v (.c (.k (.int .i64 ref))),.v (.c (.k (.string s)))],[.abs A],Q=>∃ (d:IR) (N:List bx) (x:bx),MB A d N/\x∈N/\Kk.get .int d.t.Mr x.2.1=some ref/\∀ v e,abR d N x s v e->Q (.cZ [.agg (cR.cells v),.c (.k (.int .i64 e))]) [.abs A]
 | _,_,_=>False
theorem aha:cM 263 Z0:=λargs H Q h=>by
 unfold Z0 at h;split at h
 .obtain ⟨d,N,x,hM,hx,hg,h⟩:=h;obtain ⟨s0,s1,s2,s3,s4,s5,s6,s7,s8,s9,nm,R1,R2,R3,M,hs,hV,rfl⟩:=hM.ex;have hR:=hV.recAt hM.ok hM.tr.root.1 hM.tr.pos hx hg;exact Wp.JI (q:=0) (p:=0) (r:=[1,2,3,4]) (ls:=[0]) (L:=[.cells 90 [.de (.int .u32) dN 0 0,.d .u8 (d.im dN),.k (.int .i64 s0),.k (.int .i64 s1),.k (.int .i64 s2),.k (.int .i64 s3),.k (.int .i64 s4),.k (.int .i64 s5),.k (.int .i64 s6),.k (.int .i64 s7),.k (.int .i64 s8),.k (.int .i64 s9),.d (.int .i64) d.pl,.d (.int .i64) d.ids,.p 1 0,.p 2 0,.p 3 0,.m 4,.k (.int .i64 nm)],.abs R1,.abs R2,.abs R3,.ab (.pm 3 82 bK M)]) rfl (iL _) (acB _ _ _ ⟨_,_,_,_,_,_,_,_,_,_,_,_,_,_,_,_,_,_,_,_,_,rfl,rfl,d,N,x,hM.ok,⟨rfl,rfl,hs,rfl,rfl⟩,hR,hx,λv e q=>ZA.mpr (h v e q)⟩)
 .cases h
theorem aiJ {T:List Int} {im:List UInt8} {s0 s1 s2 s3 s4 s5 s6 s7 s8 s9 nm:Int} {pl ids:List Int} {R1 R2 R3:Value->Atom} {M:List (Int×Nat×bK.den)} {Q:SV->List HO->Prop} {sv:SV}:uB 0 [1,2,3,4] [0] 0 Q sv [.cells 90 [.de (.int .u32) T 0 0,.d .u8 im,.k (.int .i64 s0),.k (.int .i64 s1),.k (.int .i64 s2),.k (.int .i64 s3),.k (.int .i64 s4),.k (.int .i64 s5),.k (.int .i64 s6),.k (.int .i64 s7),.k (.int .i64 s8),.k (.int .i64 s9),.d (.int .i64) pl,.d (.int .i64) ids,.p 1 0,.p 2 0,.p 3 0,.m 4,.k (.int .i64 nm)],.abs R1,.abs R2,.abs R3,.ab (.pm 3 82 bK M)]=Q (sv.fw (iw [0])) [.abs (jX [.cells 90 [.de (.int .u32) T 0 0,.d .u8 im,.k (.int .i64 s0),.k (.int .i64 s1),.k (.int .i64 s2),.k (.int .i64 s3),.k (.int .i64 s4),.k (.int .i64 s5),.k (.int .i64 s6),.k (.int .i64 s7),.k (.int .i64 s8),.k (.int .i64 s9),.d (.int .i64) pl,.d (.int .i64) ids,.p 1 0,.p 2 0,.p 3 0,.m 4,.k (.int .i64 nm)],.abs R1,.abs R2,.abs R3,.ab (.pm 3 82 bK M)])]:=by kernel_rfl
def Tv:Ct
 | [.v (.c cim)],[],Q=>(match (Ty.sl Ty.u8).of [cim] with
  | some (im,[])=>∃ (N:List bx) (d:IR),uU N/\d.Ok dN N/\im=d.im dN/\∀ A,MB A d N->Q (.cZ [.c (.p 0 0),.c (.k (.int .i64 0))]) [.abs A]
  | _=>False)
 | _,_,_=>False
theorem acz:cM 27 Tv:=λargs H Q h=>by
 unfold Tv at h;split at h
 .rename_i cim;cases hq:(Ty.sl Ty.u8).of [cim] with
  | none=>rw [hq] at h;exact h.elim
  | some p=>
   obtain ⟨im,r⟩:=p;rw [hq] at h;cases r with
   | cons a r=>exact h.elim
   | nil=>
    obtain ⟨N,d,tr,hd,e,h⟩:=h;refine Wp.YK (p:=0) (r:=[1,2,3,4]) (ls:=[0]) (WS _ _ _ ?_);unfold Dr;simp only [hq];exact ⟨N,d,tr,hd,e,λA1 A2 A3 M h1 h2 h3 hV=>aiJ.mpr (h _ ⟨hd,tr,_,_,_,_,_,_,_,_,_,_,_,A1,A2,A3,M,rfl,hV,rfl⟩)⟩
 .cases h
def ai0:Ct:=cD noTy λl=>c0 λQ=>(l.length:Int)<=40/\br (dK l !=0) (Q (.cZ [.c (.k (.pointer none)),.c (.k (.int .i64 (dK l)))]) []) (∀ A d N,JV l N->MB A d N->Q (.cZ [.c (.p 0 0),.c (.k (.int .i64 0))]) [.abs A])
def ajF:=(jr.add acM).add acz
def Rk (l:(List (noTy).den)):dE:=λQ=>gn l ((aF l)<=(40:Int)/\br (dK l !=0) (bC<=eU->aI .i64 (dK l)->br (dK l !=0) (Q (.cZ [.c (.k (.pointer none)),.c (.k (.int .i64 (dK l)))]) []) (∃ N d,uU N/\IR.Ok d dN N/\ []=IR.im d 
 dN/\∀ (A:Value->Atom),MB A d N->aI .i64 0->Q yr [HO.abs A])) (∀ (L':List bx) (im:List UInt8),yo L' l (T8 im (dg L' [])->db im (aI .i64 0->∃ N d,uU N/\IR.Ok d dN N/\im=IR.im d dN/\∀ (A: 
 Value->Atom),MB A d N->aI .i64 0->Q yr [HO.abs A]))))
theorem WM:cM 10 ai0:=fe<| kC λl=>iB λQ h=>by
 refine Wp.dL ajF gE ⟨[],[]⟩ Tryz.f10 (Rk l) ?_;unfold Rk yo yr db gn eU bn aF aN bC;obtain ⟨hl,h⟩:=h;refine λ_=>⟨hl,aw (λq=>λ_ _=>?_) (λq=>λL' im hp ho hI _ _=>?_)⟩;rw [q] at h ⊢;exact h
 .rw [q] at h;obtain ⟨d,hd,rfl⟩:=hI.ex;have O:=adr (LC (show dK l=0 by simpa using q)) hp ho;exact ⟨dg L' [],d,O.tr,hd,rfl,λA hA _=>h A d _ O hA⟩
structure Wk (d:IR) (N:List bx) (p:List ByteArray) (ref:Int):Prop where
 ok:j8 N (aB noTy N 0) p=0->∃ y∈N,y.1=p/\Kk.get .int d.t.Mr y.2.1=some ref
theorem ad3 {N:List bx} {x:bx} {s:ByteArray} {r:List ByteArray} (h:mF N x s≠0):j8 N x (s::r)=mF N x s:=by
 unfold j8;unfold mF at h ⊢;by_cases hk:x.2.2.1=1
 .rw [if_pos hk] at h ⊢;rw [if_pos hk];cases hf:Ot N (x.1++ [s]) with
  | none=>rfl
  | some y=>rw [hf] at h;exact absurd rfl h
 .rw [if_neg hk,if_neg hk]
theorem aiG {N:List bx} {x y:bx} {s:ByteArray} {r:List ByteArray} (h:mF N x s=0) (hf:Ot N (x.1++ [s])=some y):j8 N x (s::r)=j8 N y r:=by
 unfold mF at h;by_cases hk:x.2.2.1=1
 .conv=>lhs;unfold j8
  rw [if_pos hk,hf]
 .rw [if_neg hk] at h;exact absurd h (by decide)
def TE:Ct
 | [.v (.c (.DP 25 (.p 0 0))),.v (.c cp)],[.abs A],Q=>(match (Ty.sl Ty.str).of [cp] with
  | some (p,[])=>∃ d N,MB A d N/\∀ ref,Wk d N p ref->Q (.cZ [.c (.k (.int .i64 ref)),.c (.k (.int .i64 (j8 N (aB noTy N 0) p)))]) [.abs A]
  | _=>False)
 | _,_,_=>False
def ajE:=(jr.add ag2).add aha
abbrev mO (y0):=aB noTy y0 ah
def Ld (p:(List (Ty.str).den)) (A:Value->Atom):dE:=λQ=>mQ p (∃ d N,MB A d N/\∀ (ref:Int),Kk.get Kk.int d.t.Mr (mO N).2.1=some ref->aI .i64 ref->aN (fY p)->ba (λi ag=>br (decide (i.1.1< (aF p))) (0<=i.1.1/\i.1.1< (aF p)/\(Ty.ok Ty.str (aB 
 Ty.str p i.1.1)->∃ d N x,MB i.2.1 d N/\x∈N/\Kk.get Kk.int d.t.Mr x.2.1=some i.1.2.1/\∀ (v:Ty.den cR) (e:Int),abR d N x (aB Ty.str p i.1.1) v e->dC v.1 (cU v.2.1 v.2.2.1 e (br (e !=0) (Q (.cZ [.c (.k bn),.c 
 (.k (aE e))]) [HO.abs i.2.1]) (cG i.1.1 (ag ((i.1.1+1,v.2.2),i.2))))))) (Q (.cZ [.c (.k (aE i.1.2.1)),.c (.k bn)]) [HO.abs i.2.1])) ((ah,ref,()),A,()))
theorem QY:cM 11 TE:=by
 intro args H Q h;unfold TE at h;split at h;rotate_left;cases h;rename_i cp A;split at h;rotate_left;cases h;rename_i p hp;refine Wp.said (args':=[.v (.c (.DP 25 (.p 0 0))),.c (.d Ty.str p)]) (λE g=>bE.dd (λ_ h=>h) (bE.dd (dR hp) (λ_ h=>h))) ?_;clear hp;refine Wp.dL ajE gE ⟨[(4,⟨[(15,.int .i64),(6,.int .i64)],[(0,.abs)]⟩)],[]⟩ Tryz.f11 (Ld p A) ?_;unfold Ld mO fY mQ dC cG bn cU aE ah aF aN;obtain ⟨d,N,hM,h⟩:=h;have r1:=hM.tr.root.1;have hp:=hM.tr.pos;refine λ_=>⟨d,N,hM,λr0 M3 _ _=>ba.intro (λi=>i.2.1=A/\0<=i.1.1/\i.1.1<=p.length/\∃ x∈N,x.1=p.take i.1.1.toNat/\Kk.get .int d.t.Mr x.2.1=some i.1.2.1/\j8 N x (p.drop i.1.1.toNat)=j8 N (aB noTy N 0) p) (λi=>p.length - i.1.1.toNat) ⟨rfl,bp _,by simp,aB noTy N 0,rO (e:=noTy) (bp 0) (by omega),r1,M3,rfl⟩ ?_⟩;rintro ⟨⟨i,rf,_⟩,A1,_⟩ ⟨e,i0,i1,x,hx,hx1,hx2,hx3⟩;simp only at e i0 i1 hx1 hx2 hx3 ⊢;subst e;refine aw (λhc=>?_) (λhc=>?_)
 .have hc:=of_decide_eq_true hc;refine ⟨i0,hc,λ_=>⟨d,N,x,hM,hx,hx2,λv e hL _ _ _ _=>?_⟩⟩;rw [eK (e:=.str) i0 hc] at hx3;have ht:=pN (e:=.str) i0 hc;obtain ⟨s,es⟩:∃ s,aB .str p i=s:=⟨_,rfl⟩;rw [es] at hx3 hL ht;have hE:=hL.eq;refine aw (λq=>?_) (λq=>?_)
  .have he:e≠0:=by simpa using q
   have hz:j8 N (aB noTy N 0) p=e:=by rw [<-hx3,ad3 (by rw [<-hE];exact he),hE]
   have:=h 0 ⟨λz=>absurd (hz.symm.trans z) he⟩;rw [hz] at this;exact this
  .have he:e=0:=by simpa using q
   obtain ⟨y,hy,y1,y2⟩:=hL.ok he;have hf:Ot N (x.1++ [s])=some y:=by rw [<-y1];exact Zw hM.ok.tok hy
   rw [aiG (by rw [<-hE];exact he) hf] at hx3;exact ⟨by unfold aI;omega,⟨rfl,by omega,by omega,y,hy,by rw [y1,hx1,ht],y2.ref,hx3⟩,by omega⟩
 .have hc:=of_decide_eq_false hc;rw [eN hc] at hx3;have hz:j8 N (aB noTy N 0) p=0:=hx3.symm;have:=h rf ⟨λ_=>⟨x,hx,by rw [hx1,aV (by omega)],hx2⟩⟩;rw [hz] at this;exact this
abbrev OM:List Sh:=[.d .str,.int .i64,.int .i64,.int .i64,.int .i64,.int .i64,.d .u8,.str,.d dJ,.bool]
def amf:Ct:=cD noTy λl=>c0 λQ=>Q (.c (.o 0)) [.sl 38 noTy ((l.take 40).map NA)]
def Xz (l:(List (noTy).den)):dE:=λQ=>gn l (ba (λi ag=>gn l (br (iO i.1.1 l) (br (decide (i.1.1< 40)) (iP i.1.1 l (Ty.ok noTy (dh l i.1.1)->cY (λk=>List.length (dh l i.1.1).1<=9223372036854775807->br (decide ((jo l i.1.1) 
 >(18:Int))) (ah<=(18:Int)/\(18:Int)<=(jo l i.1.1)/\k ((),(List.take (18:Nat) (dh l i.1.1).1,(dh l i.1.1).2.1,(dh l i.1.1).2.2.1,(dh l i.1.1).2.2.2.1.1,(dh l i.1.1).2.2.2.1.2.1,(dh l 
 i.1.1).2.2.2.1.2.2.1,(dh l i.1.1).2.2.2.2.1,(dh l i.1.1).2.2.2.2.2.1,(dh l i.1.1).2.2.2.2.2.2.1,(dh l i.1.1).2.2.2.2.2.2.2.1,()),())) (k ((),((dh l i.1.1).1,(dh l i.1.1).2.1,(dh l i.1.1).2.2.1,(dh l 
 i.1.1).2.2.2.1.1,(dh l i.1.1).2.2.2.1.2.1,(dh l i.1.1).2.2.2.1.2.2.1,(dh l i.1.1).2.2.2.2.1,(dh l i.1.1).2.2.2.2.2.1,(dh l i.1.1).2.2.2.2.2.2.1,(dh l i.1.1).2.2.2.2.2.2.2.1,()),()))) λcu=>cY (λk 
 =>fU cu.2.1.2.2.2.2.2.2.1 (br (decide ((a6 cu.2.1.2.2.2.2.2.2.1)>(1500:Int))) (ah<=(1500:Int)/\(1500:Int)<=(a6 cu.2.1.2.2.2.2.2.2.1)/\k ((),(cu.2.1.1,cu.2.1.2.1,cu.2.1.2.2.1,cu.2.1.2.2.2.1, 
 cu.2.1.2.2.2.2.1,cu.2.1.2.2.2.2.2.1,List.take (1500:Nat) cu.2.1.2.2.2.2.2.2.1,cu.2.1.2.2.2.2.2.2.2.1,cu.2.1.2.2.2.2.2.2.2.2.1,cu.2.1.2.2.2.2.2.2.2.2.2.1,()),())) (k ((),(cu.2.1.1,cu.2.1.2.1,cu.2.1.2.2.1, 
 cu.2.1.2.2.2.1,cu.2.1.2.2.2.2.1,cu.2.1.2.2.2.2.2.1,cu.2.1.2.2.2.2.2.2.1,cu.2.1.2.2.2.2.2.2.2.1,cu.2.1.2.2.2.2.2.2.2.2.1,cu.2.1.2.2.2.2.2.2.2.2.2.1,()),())))) λgC=>cY (λk=>fU gC.2.1.2.2.2.2.2.2.2.2.1 (br 
 (decide ((a6 gC.2.1.2.2.2.2.2.2.2.2.1)>(10:Int))) (ah<=(10:Int)/\(10:Int)<=(a6 gC.2.1.2.2.2.2.2.2.2.2.1)/\k ((),(gC.2.1.1,gC.2.1.2.1,gC.2.1.2.2.1,gC.2.1.2.2.2.1,gC.2.1.2.2.2.2.1,gC.2.1.2.2.2.2.2.1, 
 gC.2.1.2.2.2.2.2.2.1,gC.2.1.2.2.2.2.2.2.2.1,List.take (10:Nat) gC.2.1.2.2.2.2.2.2.2.2.1,gC.2.1.2.2.2.2.2.2.2.2.2.1,()),())) (k ((),(gC.2.1.1,gC.2.1.2.1,gC.2.1.2.2.1,gC.2.1.2.2.2.1,gC.2.1.2.2.2.2.1,gC.2.1.2.2.2.2.2.1, 
 gC.2.1.2.2.2.2.2.2.1,gC.2.1.2.2.2.2.2.2.2.1,gC.2.1.2.2.2.2.2.2.2.2.1,gC.2.1.2.2.2.2.2.2.2.2.2.1,()),())))) λjT=>(List.length i.1.2.1+List.length [(jT.2.1.1,jT.2.1.2.1,jT.2.1.2.2.1,(jT.2.1.2.2.2.1,jT.2.1.2.2.2.2.1, 
 jT.2.1.2.2.2.2.2.1,()),jT.2.1.2.2.2.2.2.2.1,jT.2.1.2.2.2.2.2.2.2.1,jT.2.1.2.2.2.2.2.2.2.2.1,jT.2.1.2.2.2.2.2.2.2.2.2.1,())])*136<=cC/\List.length i.1.2.1+List.length [(jT.2.1.1,jT.2.1.2.1,jT.2.1.2.2.1, 
 (jT.2.1.2.2.2.1,jT.2.1.2.2.2.2.1,jT.2.1.2.2.2.2.2.1,()),jT.2.1.2.2.2.2.2.2.1,jT.2.1.2.2.2.2.2.2.2.1,jT.2.1.2.2.2.2.2.2.2.2.1,jT.2.1.2.2.2.2.2.2.2.2.2.1,())]<=9223372036854775807/\cG i.1.1 (ag ((i.1.1+1,i.1.2.1++ 
 [(jT.2.1.1,jT.2.1.2.1,jT.2.1.2.2.1,(jT.2.1.2.2.2.1,jT.2.1.2.2.2.2.1,jT.2.1.2.2.2.2.2.1,()),jT.2.1.2.2.2.2.2.2.1,jT.2.1.2.2.2.2.2.2.2.1,jT.2.1.2.2.2.2.2.2.2.2.1,jT.2.1.2.2.2.2.2.2.2.2.2.1,())],()),())))) (Q gd [.sl 
 38 noTy i.1.2.1])) (Q gd [.sl 38 noTy i.1.2.1]))) ((ah,[],()),()))
theorem akD:cM 9 amf:=fe<| kC λl=>iB λQ h=>by
 refine Wp.dL jr gE ⟨[(4,⟨[(4,.int .i64),(3,.own 38 noTy)],[]⟩)],[(9,⟨[],[(2,.cells 38 OM)]⟩),(11,⟨[],[(2,.cells 38 OM)]⟩),(13,⟨[],[(2,.cells 38 OM)]⟩)]⟩ Tryz.f9 (Xz l) ?_;unfold Xz iO iP gd dh cG gn fU jo cC ah a6 aF;intro hl0;refine ba.intro (λi=>0<=i.1.1/\i.1.1<=l.length/\i.1.1<=40/\i.1.2.1=(l.take i.1.1.toNat).map NA) (λi=>l.length - i.1.1.toNat) ⟨by simp,by simp,by simp,by simp⟩ ?_;rintro ⟨⟨i,out,_⟩,_⟩ ⟨h0,h1,h2,h3⟩;simp only at h0 h1 h2 h3 ⊢;intro _;have fin:¬(i< l.length/\i< 40)->Q (.c (.o 0)) [.sl 38 noTy out]:=λhn=>by
  have:l.take i.toNat=l.take 40:=by
   by_cases h4:i< l.length
   .have:i=40:=by omega
    subst this;rfl
   .rw [aV (by omega),aV (by omega)]
  rw [h3,this];exact h
 refine aw (λhc=>aw (λAa=>?_) (λAa=>fin ?_)) (λhc=>fin ?_)
 .have hc:i< l.length:=by simpa using hc
  have Aa:i< 40:=by simpa using Aa
  refine ⟨h0,hc,λ_=>?_⟩;have ht:=pN (e:=noTy) h0 hc;generalize aB noTy l i=x at ht ⊢;refine cY.intro (λk=>k.2.1=(x.1.take 18,x.2.1,x.2.2.1,x.2.2.2.1.1,x.2.2.2.1.2.1,x.2.2.2.1.2.2.1,x.2.2.2.2.1,x.2.2.2.2.2.1,x.2.2.2.2.2.2.1,x.2.2.2.2.2.2.2.1,())) ?_ ?_
  .intro _;refine aw (λh4=>?_) (λh4=>?_)
   .have h4:(18:Int)< x.1.length:=by simpa using h4
    exact ⟨by decide,by omega,rfl⟩
   .have h4:¬(18:Int)< x.1.length:=by simpa using h4
    have h5:x.1.take 18=x.1:=aV (by omega);simp [h5]
  rintro ⟨_,k1,_⟩ hk;simp only at hk;subst hk;dsimp only;refine cY.intro (λk=>k.2.1=(x.1.take 18,x.2.1,x.2.2.1,x.2.2.2.1.1,x.2.2.2.1.2.1,x.2.2.2.1.2.2.1,x.2.2.2.2.1.take 1500,x.2.2.2.2.2.1,x.2.2.2.2.2.2.1,x.2.2.2.2.2.2.2.1,())) ?_ ?_
  .intro _;refine aw (λh4=>?_) (λh4=>?_)
   .have h4:(1500:Int)< x.2.2.2.2.1.length:=by simpa using h4
    exact ⟨by decide,by omega,rfl⟩
   .have h4:¬(1500:Int)< x.2.2.2.2.1.length:=by simpa using h4
    have h5:x.2.2.2.2.1.take 1500=x.2.2.2.2.1:=aV (by omega);simp [h5]
  rintro ⟨_,k1,_⟩ hk;simp only at hk;subst hk;dsimp only;refine cY.intro (λk=>k.2.1=(x.1.take 18,x.2.1,x.2.2.1,x.2.2.2.1.1,x.2.2.2.1.2.1,x.2.2.2.1.2.2.1,x.2.2.2.2.1.take 1500,x.2.2.2.2.2.1,x.2.2.2.2.2.2.1.take 10,x.2.2.2.2.2.2.2.1,())) ?_ ?_
  .intro _;refine aw (λh4=>?_) (λh4=>?_)
   .have h4:(10:Int)< x.2.2.2.2.2.2.1.length:=by simpa using h4
    exact ⟨by decide,by omega,rfl⟩
   .have h4:¬(10:Int)< x.2.2.2.2.2.2.1.length:=by simpa using h4
    have h5:x.2.2.2.2.2.2.1.take 10=x.2.2.2.2.2.2.1:=aV (by omega);simp [h5]
  rintro ⟨_,k1,_⟩ hk;simp only at hk;subst hk;dsimp only;have hlen:out.length=i.toNat:=by rw [h3,bL,aD];omega
  refine ⟨by simp only [aq,aL,hlen];omega,by simp only [aq,aL,hlen];omega,by unfold aI;omega,⟨by omega,by omega,by omega,?_⟩,by omega⟩;rw [ht,eR,<-h3];rfl
 .have:¬i< 40:=by simpa using Aa
  omega
 .have:¬i< l.length:=by simpa using hc
  omega
theorem adq {F N:List bx} {d:IR} (O:JV F N) (hd:d.Ok dN N) {y:bx} (hy:y∈F) {ref:Int} (h:Wk d N y.1 ref):j8 N (aB noTy N 0) y.1=0/\∃ x∈N,x.1=y.1/\x.2.2=y.2.2/\Kk.get .int d.t.Mr x.2.1=some ref:=by
 obtain ⟨x,hx,e1,e2⟩:=O.to y hy;have hp:=O.tr.pos;have u:=λ(a:bx) ha (b:bx) hb q=>hd.tok.uniq (x:=a) (y:=b) ha hb q;have hz:=Zt O.tr u y.1 (aB noTy N 0) x (rO (e:=noTy) (bp 0) (by omega)) hx (by rw [O.tr.root.1,e1];rfl);obtain ⟨z,hz1,z1,z2⟩:=h.ok hz;obtain rfl:=u z hz1 x hx (z1.trans e1.symm);exact ⟨hz,z,hx,e1,e2,z2⟩
abbrev XT:List bx:=[([],(1:Int),(1:Int),((0:Int),(0:Int),(0:Int),()),[],⟨#[]⟩,[],false,()),([⟨#[97]⟩],(2:Int),(2:Int),((0:Int),(0:Int),(0:Int),()),[],⟨#[]⟩,[],false,())]
theorem xR {N:List bx} {d:IR} (O:JV XT N) (hd:d.Ok dN N):j8 N (aB noTy N 0) [⟨#[97]⟩]=0/\j8 N (aB noTy N 0) [⟨#[97]⟩,⟨#[98]⟩]=24/\j8 N (aB noTy N 0) [⟨#[98]⟩]=20:=by
 obtain ⟨r1,r2,_⟩:=O.tr.root;obtain ⟨x,hx,x1,x2⟩:=O.to _ (aG _ aS:([⟨#[97]⟩],(2:Int),(2:Int),((0:Int),(0:Int),(0:Int),()),([]:List UInt8),⟨#[]⟩,[],false,())∈XT);have x1:x.1= [⟨#[97]⟩]:=x1;have xk:x.2.2.1=2:=by rw [x2]
 have hf:Ot N ((aB noTy N 0).1++ [⟨#[97]⟩])=some x:=by rw [r1,eE,<-x1];exact Zw hd.tok hx
 have hn:Ot N ((aB noTy N 0).1++ [⟨#[98]⟩])=none:=td.2 λy hy e=>by
  obtain ⟨z,hz,z1,_⟩:=O.of y hy;rw [r1,eE] at e;rw [e] at z1;rcases aX.1 hz with rfl| hz;cases z1
  .rw [aR] at hz;subst hz;exact absurd (List.cons.inj z1).1 (by decide)
 refine ⟨?_,?_,?_⟩
 .unfold j8;rw [if_pos r2,hf];rfl
 .unfold j8;rw [if_pos r2,hf];show j8 N x _=24;unfold j8;rw [if_neg (by rw [xk];decide)]
 .unfold j8;rw [if_pos r2,hn]
def aer:Ct:=c0 λQ=>Q (.bool true) []
def ajD:=(jr.add WM).add QY
def KI:dE:=
 λQ=>(↑bj:Int)<=(40:Int)/\∀ (A:Value->Atom) (d:IR) (N:List bx),JV [(([]:List ByteArray),a8,a8,(ah,ah,ah,()),[],ByteArray.mk #[],[],false,()),([ByteArray.mk #[(97:UInt8)]],du,du, 
 (ah,ah,ah,()),[],ByteArray.mk #[],[],false,())] N->MB A d N->aI .i64 0->∃ d N,MB A d N/\∀ (ref:Int),Wk d N [ByteArray.mk #[(97:UInt8)]] ref->aI .i64 ref->aI .i64 (j8 N (mO N) [ByteArray.mk #[(97: 
 UInt8)]])->∃ d N_1,MB A d N_1/\∀ (ref:Int),Wk d N_1 [ByteArray.mk #[(97:UInt8)],ByteArray.mk #[(98:UInt8)]] ref->aI .i64 ref->aI .i64 (j8 N_1 (mO N_1) [ByteArray.mk #[(97:UInt8)],ByteArray.mk #[(98:UInt8)]])->∃ 
 d N_2,MB A d N_2/\∀ (ref:Int),Wk d N_2 [ByteArray.mk #[(98:UInt8)]] ref->aI .i64 ref->aI .i64 (j8 N_2 (mO N_2) [ByteArray.mk #[(98:UInt8)]])->br (j8 N (mO N) [ByteArray.mk #[(97:UInt8)]]==0) (br (j8 N_1 
 (mO N_1) [ByteArray.mk #[(97:UInt8)],ByteArray.mk #[(98:UInt8)]]==24) (Q (.v (.c (.k (.bool (j8 N_2 (mO N_2) [ByteArray.mk #[(98:UInt8)]]==20))))) []) (bq Q)) (bq Q)
theorem acj:cM 8 aer:=fe<| iB λQ h=>by
 refine Wp.dL ajD gE ⟨[],[]⟩ Tryz.f8 KI (hold:=[10,11]) ?_;unfold KI mO bq jF ah a8 du bj;refine ⟨by decide,λA d N O hM _=>?_⟩;have e1:j8 N (aB noTy N 0) [⟨#[97]⟩]=0:=(xR O hM.ok).1;have e2:j8 N (aB noTy N 0) [⟨#[97]⟩,⟨#[98]⟩]=24:=(xR O hM.ok).2.1;have e3:j8 N (aB noTy N 0) [⟨#[98]⟩]=20:=(xR O hM.ok).2.2;refine ⟨d,N,hM,λ_ _ _ _=>⟨d,N,hM,λ_ _ _ _=>⟨d,N,hM,λ_ _ _ _=>?_⟩⟩⟩;rw [e1,e2,e3];exact h
end Go.Proofs

namespace Go.Lm
open Go
theorem XM {α:Type} {r:α->α->Prop} (irr:∀ a,¬r a a) (tr:∀ a b c,r a b->r b c->r a c):∀ {A B:List α},A.Pairwise r->B.Pairwise r->(∀ x,x∈A↔x∈B)->A=B
 | [],[],_,_,_=>rfl
 | [],b::B,_,_,h=>absurd ((h b).2 aS) (by simp)
 | a::A,[],_,_,h=>absurd ((h a).1 aS) (by simp)
 | a::A,b::B,hA,hB,h=>by
  have hA:=fA.1 hA;have hB:=fA.1 hB;have e:a=b:=by
   rcases aX.1 ((h a).1 aS) with e| e;exact e;rcases aX.1 ((h b).2 aS) with q| q;exact q.symm;exact absurd (tr _ _ _ (hA.1 b q) (hB.1 a e)) (irr a)
  subst e;rw [XM irr tr hA.2 hB.2 λx=>⟨λq=>?_,λq=>?_⟩]
  .rcases aX.1 ((h x).1 (aG _ q)) with rfl| e
   .exact absurd (hA.1 _ q) (irr _)
   .exact e
  .rcases aX.1 ((h x).2 (aG _ q)) with rfl| e
   .exact absurd (hB.1 _ q) (irr _)
   .exact e
def xJ (F:List bx) (p:List ByteArray) (k:Int):ByteArray:=(aB noTy F k).1.getD p.length ⟨#[]⟩
structure uW (F:List bx) (p:List ByteArray) (K:List Int):Prop where
 perm:K.Perm (bX p F 0)
 J1:K.Pairwise λa b=>lD (xJ F p b) (xJ F p a)=false
theorem AK (a:ByteArray):¬lD a a=true:=by rw [mA,mu];decide
theorem HP (a b c:ByteArray) (h:lD a b=true) (k:lD b c=true):lD a c=true:=by
 rw [mA,decide_eq_true_eq] at*;exact oR h k
theorem OP {a b:ByteArray} (h:lD b a=false) (n:a≠b):lD a b=true:=by
 rw [mA,decide_eq_false_iff_not] at h;rw [mA,decide_eq_true_eq];have:=GU a b;have:fz a b≠0:=λe=>n (uh e);omega
theorem ac7 {a b c:ByteArray} (h:lD b a=false) (k:lD c b=false):lD c a=false:=by
 cases e:lD c a with
 | false=>rfl
 | true=>
  exfalso
  by_cases q:a=b;subst q;rw [e] at k;cases k
  .have:=HP _ _ _ e (OP h q);rw [this] at k;cases k
theorem CQ {F:List bx} {p:List ByteArray} {o:Int} (h:(aB noTy F o).1.length=p.length+1):aB .str (aB noTy F o).1 (((aB noTy F o).1.length:Int) - 1)=xJ F p o:=by
 rw [fb (e:=.str) (by omega) (by omega)];unfold xJ;rw [aP,ak (by omega),Option.getD_some];congr 1;omega
variable {F N:List bx} {ids:List Int} {G:List (Int×eH.den)}
theorem uW.names (O:JV F N) (t:rV N ids G) {d:IR} {p:List ByteArray} {es:List cR.den} {K:List Int} (hE:fH N d.t.Mr p.length (bX p N 0) es) (hO:hU ⟨#[]⟩ es) (hK:uW F p K):es.map (·.1)=K.map (xJ F p):=by
 have hm:∀ k,k∈K->0<=k/\k< (F.length:Int)/\(aB noTy F k).1=p++ [xJ F p k]:=λk hk=>by
  obtain ⟨a,b,c,e⟩:=eY (hK.perm.mem_iff.1 hk);exact ⟨a,b,nQ c e⟩
 refine XM (r:=λa b=>lD a b=true) AK HP (iZ.2 (yV hO).2) (iZ.2 ?_) λs=>⟨λh=>?_,λh=>?_⟩
 .have hn:K.Pairwise λa b=>a≠b:=hK.perm.symm.pairwise (List.Pairwise.imp (λh=>by omega) (nV p)) (λh=>Ne.symm h);refine List.Pairwise.imp_of_mem (λ{a b} ha hb h=>OP h.1 λe=>h.2 ?_) (hK.J1.and hn);obtain ⟨a0,a1,ea⟩:=hm a ha;obtain ⟨b0,b1,eb⟩:=hm b hb;have e2:(aB noTy F a).1=(aB noTy F b).1:=by rw [ea,eb,e]
  rw [fb (e:=noTy) a0 a1,fb (e:=noTy) b0 b1] at e2;have P:=da.1 O.l.tw;rcases ko a.toNat b.toNat with q| q| q;exact absurd e2 (P _ _ (by omega) (by omega) q);omega;exact absurd e2.symm (P _ _ (by omega) (by omega) q)
 .obtain ⟨x,hx,rfl⟩:=aM.1 h;obtain ⟨j,hj,rfl⟩:=dH.1 hx;obtain ⟨y,hy,e,_⟩:=Jt t hE hj;obtain ⟨z,hz,ez,_⟩:=O.of y hy;obtain ⟨k,hk,rfl⟩:=AR (p:=p) hz (by rw [ez,e];simp) (show pre p z by unfold pre;rw [ez,e,List.take_left]);refine aM.2 ⟨k,hK.perm.mem_iff.2 hk,?_⟩;unfold xJ;rw [ez,e,aP,aZ (az _),pq];rfl
 .obtain ⟨k,hk,rfl⟩:=aM.1 h;obtain ⟨k0,k1,e⟩:=hm k hk;obtain ⟨x,hx,ex,_⟩:=O.to _ (rO (e:=noTy) k0 k1);obtain ⟨j,hj,ej⟩:=SI t hE hx (ex.trans e);exact aM.2 ⟨_,df hj,ej⟩
structure Ao (d:IR) (F N:List bx) (R:List Int):Prop where
 all:∀ (k:Nat) (h:k< R.length),∃ x∈N,x.1=(aB noTy F (k:Int)).1/\x.2.2=(aB noTy F (k:Int)).2.2/\Kk.get .int d.t.Mr x.2.1=some R[k]
theorem Ao.snoc {d:IR} {R:List Int} {r:Int} (h:Ao d F N R) (hr:∃ x∈N,x.1=(aB noTy F (R.length:Int)).1/\x.2.2=(aB noTy F (R.length:Int)).2.2/\Kk.get .int d.t.Mr x.2.1=some r):Ao d F N (R++ [r]):=⟨λk hk=>by
 by_cases q:k< R.length;rw [List.getElem_append_left q];exact h.all k q
 .have:k=R.length:=by rw [af,ay] at hk;omega
  subst this;rw [List.getElem_append_right (az _)];simpa using hr⟩
theorem Ao.same (O:JV F N) {d:IR} {R:List Int} {r:Int} (inj:∀ i j r,Kk.get .int d.t.Mr i=some r->Kk.get .int d.t.Mr j=some r->i=j) (h:Ao d F N R) {i k:Int} (hi:i=(R.length:Int)) (k0:0<=k) (k1:k< i) (hF:R.length< F.length) (hr:∃ x∈N,x.1=(aB noTy F i).1/\x.2.2=(aB noTy F i).2.2/\Kk.get .int d.t.Mr x.2.1=some r):(aB (.int .i64) R k=r↔(aB noTy F k).2.1=(aB noTy F i).2.1):=by
 obtain ⟨x,hx,e1,_,e3⟩:=hr;obtain ⟨y,hy,f1,_,f3⟩:=h.all k.toNat (by omega);rw [nG k0] at f1;rw [fb (e:=.int .i64) k0 (by omega)];have:=O.ino _ (rO (e:=noTy) k0 (by omega)) _ (rO (e:=noTy) (show 0<=i by omega) (by omega)) y hy x hx f1 e1;rw [<-this];constructor
 .intro q;rw [<-q] at e3;exact inj _ _ _ f3 e3
 .intro q;rw [q,e3] at f3;exact (aj f3).symm
theorem uW.at (O:JV F N) (t:rV N ids G) {d:IR} {p:List ByteArray} {es:List cR.den} {K R:List Int} (hE:fH N d.t.Mr p.length (bX p N 0) es) (hO:hU ⟨#[]⟩ es) (hK:uW F p K) (hR:Ao d F N R) (hl:R.length=F.length) {j:Int} (j0:0<=j) (j1:j< (K.length:Int)):(0<=aB (.int .i64) K j/\aB (.int .i64) K j< (F.length:Int))/\(aB noTy F (aB (.int .i64) K j)).1.length=p.length+1/\(aB cR es j).1=aB .str (aB noTy F (aB (.int .i64) K j)).1 (((aB noTy F (aB (.int .i64) K j)).1.length:Int) - 1)/\(aB cR es j).2.2.1=aB (.int .i64) R (aB (.int .i64) K j)/\(aB cR es j).2.1=(aB noTy F (aB (.int .i64) K j)).2.2.1:=by
 have hn:=uW.names O t hE hO hK;have hlen:es.length=K.length:=by simpa using congrArg List.length hn
 rw [fb (e:=.int .i64) j0 j1,fb (e:=cR) j0 (by omega)];have hk:=hK.perm.mem_iff.1 (df (l:=K) (n:=j.toNat) (by omega));have hnm:(es[j.toNat]'(by omega)).1=xJ F p (K[j.toNat]'(by omega)):=by
  have:=congrArg (λl=>l[j.toNat]?) hn;simpa [ak (show j.toNat< es.length by omega),ak (show j.toNat< K.length by omega)] using this
 obtain ⟨y,hy,ey,q⟩:=Jt t hE (show j.toNat< es.length by omega);rw [hnm] at ey;generalize K[j.toNat]'(by omega)=k at*;obtain ⟨k0,k1,kl,kp⟩:=eY hk;have es1:=nQ kl kp;refine ⟨⟨k0,k1⟩,kl,?_,?_,?_⟩;rw [hnm];exact (CQ kl).symm
 .obtain ⟨x,hx,e1,_,e3⟩:=hR.all k.toNat (by omega);rw [nG k0] at e1;have:x=y:=t.uniq hx hy (by rw [e1,ey,es1];rfl);subst this;rw [fb (e:=.int .i64) k0 (by omega)];exact aj (q.ref.symm.trans e3)
 .obtain ⟨x,hx,e1,e2⟩:=O.to _ (rO (e:=noTy) k0 k1);have:x=y:=t.uniq hx hy (by rw [e1,ey,es1];rfl);subst this;rw [q.kind,e2]
theorem vK (p:List ByteArray):∀ (A B:List bx) (k:Int),bX p (A++B) k=bX p A k++bX p B (k+(A.length:Int))
 | [],B,k=>by simp [bX]
 | x::A,B,k=>by
  rw [eB,jS,vK p A B,jS p x A,aH];congr 3;rw [aq];omega
structure nF (F:List bx) (p:List ByteArray) (n:Nat) (K:List Int):Prop where
 perm:K.Perm (bX p (F.take n) 0)
 J1:K.Pairwise λa b=>lD (xJ F p b) (xJ F p a)=false
theorem nF.start (F:List bx) (p:List ByteArray):nF F p 0 []:=⟨by simp [bX],List.Pairwise.nil⟩
theorem nF.all {p:List ByteArray} {K:List Int} {n:Nat} (h:nF F p n K) (hn:F.length<=n):uW F p K:=⟨by have:=h.perm;rwa [aV hn] at this,h.J1⟩
theorem nF.len {p:List ByteArray} {K:List Int} {n:Nat} (h:nF F p n K):K.length<=F.length:=by
 have:=jh p (L:=F.take n) (k:=0);rw [h.perm.length_eq];rw [aD] at this;omega
theorem zX {p:List ByteArray} {i:Int} (h0:0<=i) (h1:i< (F.length:Int)):bX p (F.take (i+1).toNat) 0=bX p (F.take i.toNat) 0++if qg p (aB noTy F i) then [i] else []:=by
 rw [show F.take (i+1).toNat=F.take i.toNat++ [aB noTy F i] from pN (e:=noTy) h0 h1,vK,jS];rw [show (0:Int)+((F.take i.toNat).length:Int)=i by rw [aD];omega];simp [bX]
theorem nF.skip {p:List ByteArray} {K:List Int} {i:Int} (h:nF F p i.toNat K) (h0:0<=i) (h1:i< (F.length:Int)) (hk:qg p (aB noTy F i)=false):nF F p (i+1).toNat K:=⟨by
 rw [zX h0 h1,hk,if_neg (by decide),a7];exact h.perm,h.J1⟩
theorem nF.mem {p:List ByteArray} {K:List Int} {n:Nat} (h:nF F p n K) {o:Int} (ho:o∈K):0<=o/\o< (F.length:Int)/\(aB noTy F o).1.length=p.length+1:=by
 have:o∈bX p F 0:=by
  rw [<-bY n F,vK];exact bH _ (h.perm.mem_iff.1 ho)
 obtain ⟨a,b,c,_⟩:=eY this;exact ⟨a,b,c⟩
structure AG (F:List bx) (p:List ByteArray) (K:List Int) (i k:Int) (L:List Int):Prop where
 k0:0<=k
 k1:k<=(K.length:Int)
 eq:∃ y,L=K.take k.toNat++y::K.drop k.toNat
 up:∀ b∈K.drop k.toNat,lD (xJ F p i) (xJ F p b)=true
theorem AG.start (F:List bx) (p:List ByteArray) (K:List Int) (i:Int):AG F p K i (K.length:Int) (K++ [i]):=⟨by omega,bp _,⟨i,by simp⟩,by simp⟩
variable {p:List ByteArray} {K L:List Int} {i k:Int}
theorem AG.len (h:AG F p K i k L):L.length=K.length+1:=by
 obtain ⟨y,rfl⟩:=h.eq;have:=h.k1;rw [af,aq,aD,aW];omega
theorem AG.elem (h:AG F p K i k L) (hk:0< k):aB (.int .i64) L (k - 1)=aB (.int .i64) K (k - 1):=by
 obtain ⟨y,rfl⟩:=h.eq;have:=h.k1;unfold aB;rw [aP,aP,aU (by rw [aD];omega),dO,if_pos (by omega)]
theorem XV {α:Type} (A B:List α) (x y:α) {j:Nat} (h:A.length=j):(A++x::B).set j y=A++y::B:=by
 subst h;rw [List.set_append_right _ _ (az _),pq];rfl
theorem AG.step (h:AG F p K i k L) (hk:0< k) (hs:lD (xJ F p i) (xJ F p (aB (.int .i64) L (k - 1)))=true):AG F p K i (k - 1) (L.set k.toNat (aB (.int .i64) L (k - 1))):=by
 have e:=h.elem hk;rw [e] at hs ⊢;obtain ⟨y,rfl⟩:=h.eq;have h1:=h.k1;have e1:=eK (e:=.int .i64) (l:=K) (k:=k - 1) (by omega) (by omega);have e2:=pN (e:=.int .i64) (l:=K) (k:=k - 1) (by omega) (by omega);rw [show k - 1+1=k by omega] at e1 e2;refine ⟨by omega,by omega,⟨aB (.int .i64) K (k - 1),?_⟩,λb hb=>?_⟩
 .have hl:(K.take k.toNat).length=k.toNat:=by rw [aD];omega
  rw [XV (K.take k.toNat) (K.drop k.toNat) y (aB (.int .i64) K (k - 1)) hl,e1,e2,aH];rfl
 .rw [e1] at hb;rcases aX.1 hb with rfl| hb
  .exact hs
  .exact h.up b hb
theorem AG.fin (h:AG F p K i k L) (hQ:nF F p i.toNat K) (h0:0<=i) (h1:i< (F.length:Int)) (hb:qg p (aB noTy F i)=true) (hs:0< k->lD (xJ F p i) (xJ F p (aB (.int .i64) L (k - 1)))=false):nF F p (i+1).toNat (L.set k.toNat i):=by
 have e:=h.elem (k:=k);obtain ⟨y,rfl⟩:=h.eq;have S5:=h.k0;have rU:=h.k1;have hl:(K.take k.toNat).length=k.toNat:=by rw [aD];omega
 rw [XV (K.take k.toNat) (K.drop k.toNat) y i hl];have DR:(K.take k.toNat++K.drop k.toNat).Pairwise λa b=>lD (xJ F p b) (xJ F p a)=false:=by rw [bY];exact hQ.J1
 obtain ⟨s1,s2,s3⟩:=List.pairwise_append.1 DR;refine ⟨?_,List.pairwise_append.2 ⟨s1,fA.2 ⟨λb hb=>?_,s2⟩,λa ha b hb=>?_⟩⟩
 .rw [zX h0 h1,if_pos hb];refine List.perm_middle.trans ?_;rw [bY];exact (hQ.perm.cons i).trans (List.perm_append_singleton i _).symm
 .have:=h.up b hb;cases q:lD (xJ F p b) (xJ F p i) with
  | false=>rfl
  | true=>exact absurd (HP _ _ _ this q) (AK _)
 .rcases aX.1 hb with rfl| hb
  .by_cases hk:0< k
   .have hs:=hs hk;rw [e hk] at hs;have e2:=pN (e:=.int .i64) (l:=K) (k:=k - 1) (by omega) (by omega);rw [show k - 1+1=k by omega] at e2;rw [e2] at s1 ha;rcases aY.1 ha with ha| ha
    .exact ac7 ((List.pairwise_append.1 s1).2.2 a ha _ aS) hs
    .obtain rfl:=aR.1 ha;exact hs
   .rw [show k.toNat=0 by omega,List.take_zero] at ha;cases ha
  .exact s3 a ha b hb
end Go.Lm

namespace Go.Proofs
open Go Go.Lm Go.RowKit
set_option maxRecDepth 1000000
def aeF:Ct:=cD .str λp=>c0 λQ=>0< p.length/\Q (.str (aB .str p ((p.length:Int) - 1))) []
def K2 (p:(List (Ty.str).den)):dE:=λQ=>mQ p (aN (fY p)->aI .i64 ((aF p) - 1)/\ah<=(aF p) - 1/\(aF p) - 1< (aF p)/\(Ty.ok Ty.str (aB Ty.str p ((aF p) - 1))->Q (.v (.c (.k (.string (aB Ty.str p ((aF p) - 1)))))) []))
theorem acD:cM 29 aeF:=fe<| kC λp=>iB λQ h=>by
 refine Wp.dL jr gE ⟨[],[]⟩ Tryz.f29 (K2 p) ?_;unfold K2 fY mQ ah aF aN;obtain ⟨hp,h⟩:=h;exact λ_ _=>⟨by unfold aI;omega,by omega,by omega,λ_=>h⟩
def aeJ:Ct:=cD noTy λF=>cD .str λp=>c0 λQ=>F.length<=1000/\p.length<=1000/\∀ K,uW F p K->Q (.c (.o 0)) [.sl 3 (.int .i64) K]
def ajC:=(jr.add WU).add acD
abbrev IF (y0:List (noTy).den) (y1) (y2):=aB Ty.str (aB noTy y0 (aB bw y1 (y2 - 1))).1 ((↑(List.length (aB noTy y0 (aB bw y1 (y2 - 1))).1):Int) - 1)
abbrev O8 (y0) (y1) (y2) (y3:_->Prop):=uG y0 y1 (cG y2 (y3 ((y2+1,List.set y1 (bc y0) y2,()),())))
abbrev Ij (y0:List (noTy).den) (y1):=aB Ty.str (dh y0 y1).1 ((jo y0 y1) - 1)
def K8 (F:(List (noTy).den)) (p:(List (Ty.str).den)):dE:=λQ=>gn F (aN (fY p)->ba (λi ag=>gn F (br (iO i.1.1 F) (iP i.1.1 F (wD F i.1.1 (aN (fY p)->aI .i64 ((aF p)+1)/\br ((jo F i.1.1) !=(aF p)+1) (su i.1.1 ag i.1.2) (aN (fY 
 p)->ah<=(aF p)/\(aF p)<=(jo F i.1.1)/\br (!gy (List.take (aA (aF p)) (dh F i.1.1).1) p) (su i.1.1 ag i.1.2) (aN (bQ i.1.2.1)->zL i.1.2.1 i.1.1 (ba (λcu ag_1=>br (decide (cu.1.1>0)) 
 (aI .i64 (cu.1.1 - 1)/\0<=cu.1.1 - 1/\cu.1.1 - 1< (a6 cu.2.1)/\0<=cu.1.1 - 1/\cu.1.1 - 1< (a6 cu.2.1)/\(Ty.ok bw (lH cu.2.1 cu.1.1)->0<=aB bw cu.2.1 (cu.1.1 - 1)/\aB bw cu.2.1 (cu.1.1 - 1)< (aF 
 F)/\(Ty.ok noTy (aB noTy F (lH cu.2.1 cu.1.1))->0< List.length (aB noTy F (lH cu.2.1 cu.1.1)).1/\(ByteArray.size (IF F cu.2.1 cu.1.1)<=9223372036854775807->0< List.length (dh F i.1.1).1/\(ByteArray.size 
 (Ij F i.1.1)<=9223372036854775807->br (!(lD (IF F cu.2.1 cu.1.1) (Ij F i.1.1)|| kR (IF F cu.2.1 cu.1.1) (Ij F i.1.1))) (aI .i64 (cu.1.1 - 1)/\0<=cu.1.1 - 1/\cu.1.1 - 1< (a6 cu.2.1)/\0<=cu.1.1 - 1/\ 
 cu.1.1 - 1< (a6 cu.2.1)/\(Ty.ok bw (lH cu.2.1 cu.1.1)->uG cu.1.1 cu.2.1 (aI .i64 (cu.1.1 - 1)/\ag_1 ((cu.1.1 - 1,()),List.set cu.2.1 (bc cu.1.1) (lH cu.2.1 cu.1.1),())))) (O8 cu.1.1 cu.2.1 i.1.1 
 ag)))))) (O8 cu.1.1 cu.2.1 i.1.1 ag)) (((a6 i.1.2.1),()),i.1.2.1++ [i.1.1],()))))))) (Q gd [.sl 3 bw i.1.2.1]))) ((ah,[],()),()))
theorem acG:cM 12 aeJ:=fe<| kC λF=>kC λp=>iB λQ h=>by
 refine Wp.dL ajC gE ⟨[(4,⟨[(6,.int .i64),(5,.own 3 (.int .i64))],[]⟩),(10,⟨[(8,.int .i64)],[(3,.sl 3 (.int .i64))]⟩)],[]⟩ Tryz.f12 (K8 F p) ?_;unfold K8 lH fY su Ij O8 iO iP gd dh IF wD cG zL uG gn bQ jo cC bc ah a6 aF aN bw;obtain ⟨hl,hp,h⟩:=h;intro _ _;refine ba.intro (λi=>0<=i.1.1/\i.1.1<=F.length/\nF F p i.1.1.toNat i.1.2.1) (λi=>F.length - i.1.1.toNat) ⟨bp _,by simp,.start F p⟩ ?_;rintro ⟨⟨i,O,_⟩,_⟩ ⟨h0,h1,hQ⟩;simp only at h0 h1 hQ ⊢;refine λ_=>aw (λhc=>?_) (λhc=>h _ (hQ.all (by have:=of_decide_eq_false hc;omega)));have hc:i< (F.length:Int):=of_decide_eq_true hc;have skip:qg p (aB noTy F i)=false->aI .i64 (i+1)/\(0<=i+1/\i+1<=(F.length:Int)/\nF F p (i+1).toNat O)/\F.length - (i+1).toNat< F.length - i.toNat:=λe=>⟨by unfold aI;omega,⟨by omega,by omega,hQ.skip h0 hc e⟩,by omega⟩;refine ⟨h0,hc,λ_ _ _=>⟨by unfold aI;omega,aw (λhn=>skip ?_) (λhn=>?_)⟩⟩
 .unfold qg;rw [show (((aB noTy F i).1.length:Int)==(p.length:Int)+1)=false by simpa using hn,gO]
 have hn:((aB noTy F i).1.length:Int)=(p.length:Int)+1:=by simpa using hn
 refine λ_=>⟨by omega,by omega,aw (λhs=>skip ?_) (λhs=>?_)⟩
 .have hs:gy ((aB noTy F i).1.take p.length) p=false:=by simpa using hs
  unfold qg;rw [hs,Bool.and_false,Bool.and_false]
 have hb:qg p (aB noTy F i)=true:=by
  have hs:gy ((aB noTy F i).1.take p.length) p=true:=by simpa using hs
  unfold qg;rw [hs,hn,Bool.and_true];simp only [BEq.rfl,pr,decide_eq_true_eq];omega
 have qk:=hQ.len;refine λ_=>⟨by rw [ay];omega,by rw [ay];omega,ba.intro (λk=>AG F p O i k.1.1 k.2.1) (λk=>k.1.1.toNat) (.start F p O i) ?_⟩;rintro ⟨⟨k,_⟩,L,_⟩ hI;simp only at hI ⊢;have S5:=hI.k0;have rU:=hI.k1;have hlen:=hI.len;have fin:(0< k->lD (xJ F p i) (xJ F p (aB (.int .i64) L (k - 1)))=false)->0<=k/\k< (L.length:Int)/\0<=k/\k< (L.length:Int)/\aI .i64 (i+1)/\(0<=i+1/\i+1<=(F.length:Int)/\nF F p (i+1).toNat (L.set k.toNat i))/\F.length - (i+1).toNat< F.length - i.toNat:=λq=>⟨S5,by omega,S5,by omega,by unfold aI;omega,⟨by omega,by omega,hI.fin hQ h0 hc hb q⟩,by omega⟩;refine aw (λhk=>?_) (λhk=>fin λq=>absurd q (of_decide_eq_false hk));have hk:0< k:=of_decide_eq_true hk;have he:=hI.elem hk;obtain ⟨o0,o1,o2⟩:=hQ.mem (show aB (.int .i64) L (k - 1)∈O by rw [he];exact rO (e:=.int .i64) (by omega) (by omega));have rR:=hI.step hk;generalize aB (.int .i64) L (k - 1)=o at*;rw [CQ o2,CQ (p:=p) (o:=i) (by omega)];refine ⟨by unfold aI;omega,by omega,by omega,by omega,by omega,λ_=>⟨o0,o1,λ_=>⟨by omega,λ_=>⟨by omega,λ_=>aw (λhd=>?_) (λhd=>fin λ_=>?_)⟩⟩⟩⟩
 .have hd:lD (xJ F p o) (xJ F p i)=false/\¬xJ F p o=xJ F p i:=by
   rw [bG,Bool.or_eq_false_iff] at hd;exact ⟨hd.1,λe=>by rw [jA.2 e] at hd;cases hd.2⟩
  exact ⟨by unfold aI;omega,by omega,by omega,by omega,by omega,λ_=>⟨by omega,by omega,by omega,by omega,by unfold aI;omega,rR (OP hd.1 (Ne.symm hd.2)),by omega⟩⟩
 .rw [Bool.not_eq_false',iD] at hd;cases q:lD (xJ F p i) (xJ F p o) with
  | false=>rfl
  | true=>
   rcases hd with e| e;exact absurd (HP _ _ _ e q) (AK _);rw [jA.1 e] at q;exact absurd q (AK _)
def c_llinks:Ct
 | [.v (.c cl)],[],Q=>(match (Ty.sl noTy).of [cl] with
  | some (l,[])=>Q (.bool true) []
  | _=>False)
 | _,_,_=>False
def ajB:=(((((jr.add acG).add ahb).add QY).add WM).add akD).add acj
abbrev oz (y0:List (noTy).den):=List.map NA (List.take (40:Nat) y0)
abbrev vy (y0:List (noTy).den) (y1:List Int) (y2):=(↑(List.length (aB noTy (oz y0) (aB bw y1 y2)).1):Int)
abbrev lK (y0:List (noTy).den) (y1):=aB noTy (oz y0) y1
abbrev ym (y0:List (noTy).den) (y1:List Int) (y2):=aB noTy (oz y0) (aB bw y1 y2)
def EX (l:(List (noTy).den)):dE:=λQ=>gn l ((a6 (oz l))<=(40:Int)/\br (dK (oz l) !=0) (aI .i64 (dK (oz l))->br (dK (oz l) !=0) (br (dK (oz l) !=0) (Q oZ []) (bq Q)) (br (dK (oz l) !=0) (Q oZ []) (bq Q))) (∀ (A 
 :Value->Atom) (d:IR) (N:List bx),JV (oz l) N->MB A d N->aI .i64 0->ba (λi ag=>List.length (oz l)<=9223372036854775807->br (decide (i.1.1< (a6 (oz l)))) (0<=i.1.1/\i.1.1< (a6 (oz l))/\(Ty.ok noTy 
 (lK l i.1.1)->∃ d N,MB i.2.1 d N/\∀ (ref:Int),Wk d N (lK l i.1.1).1 ref->aI .i64 ref->aI .i64 (j8 N (mO N) (lK l i.1.1).1)->br (j8 N (mO N) (lK l i.1.1).1 !=0) (bq Q) (ba (λcu ag_1=>br 
 (decide (cu.1.1< i.1.1)) (uG cu.1.1 i.1.2.1 (Ty.ok bw (aB bw i.1.2.1 cu.1.1)->0<=cu.1.1/\cu.1.1< (a6 (oz l))/\(Ty.ok noTy (lK l cu.1.1)->0<=i.1.1/\i.1.1< (a6 (oz l))/\(Ty.ok noTy (lK l i.1.1)->br 
 (!(aB bw i.1.2.1 cu.1.1==ref)==((lK l cu.1.1).2.1==(lK l i.1.1).2.1)) (bq Q) (fW cu.1.1 ag_1))))) (zL i.1.2.1 ref (cG i.1.1 (ag ((i.1.1+1,i.1.2.1++ [ref],()),i.2))))) fx))) (ba (λcu ag=> 
 List.length (oz l)<=9223372036854775807->br (decide (cu.1.1< (a6 (oz l)))) (0<=cu.1.1/\cu.1.1< (a6 (oz l))/\(Ty.ok noTy (lK l cu.1.1)->List.length (oz l)<=1000/\List.length (lK l cu.1.1).1<=1000/\∀ (K: 
 List Int),uW (oz l) (lK l cu.1.1).1 K->uG cu.1.1 i.1.2.1 (Ty.ok bw (aB bw i.1.2.1 cu.1.1)->∃ d N x,MB cu.2.1 d N/\x∈N/\Kk.get Kk.int d.t.Mr x.2.1=some (aB bw i.1.2.1 cu.1.1)/\∀ (es:List (Ty.den cR)) 
 (e:Int),Og d N x es e->aN (List.length es)->aI .i64 e->0<=cu.1.1/\cu.1.1< (a6 (oz l))/\(Ty.ok noTy (lK l cu.1.1)->br ((lK l cu.1.1).2.2.1 !=1) (br (e !=24) (bq Q) (cG cu.1.1 (ag ((cu.1.1+1,()), 
 cu.2)))) (br (e !=0) (bq Q) (aN (List.length es)->aN (List.length K)->br ((aF es) !=(aF K)) (bq Q) (ba (λgC ag_1=>List.length K<=9223372036854775807->br (decide (gC.1.1< (aF K))) (qF gC.1.1 K (Ty.ok 
 bw (aB bw K gC.1.1)->0<=aB bw K gC.1.1/\aB bw K gC.1.1< (a6 (oz l))/\(Ty.ok noTy (ym l K gC.1.1)->0<=gC.1.1/\gC.1.1< (aF es)/\(Ty.ok cR (aB cR es gC.1.1)->List.length (ym l K gC.1.1).1<= 
 9223372036854775807->aI .i64 ((vy l K gC.1.1) - 1)/\ah<=(vy l K gC.1.1) - 1/\(vy l K gC.1.1) - 1< (vy l K gC.1.1)/\(Ty.ok Ty.str (aB Ty.str (ym l K gC.1.1).1 ((vy l K gC.1.1) - 1))->br (!kR (aB 
 cR es gC.1.1).1 (aB Ty.str (ym l K gC.1.1).1 ((vy l K gC.1.1) - 1))) (bq Q) (0<=gC.1.1/\gC.1.1< (aF es)/\(Ty.ok cR (aB cR es gC.1.1)->qF gC.1.1 K (Ty.ok bw (aB bw K gC.1.1)->0<=aB bw K gC.1.1 
 /\aB bw K gC.1.1< (a6 i.1.2.1)/\0<=aB bw K gC.1.1/\aB bw K gC.1.1< (a6 i.1.2.1)/\(Ty.ok bw (aB bw i.1.2.1 (aB bw K gC.1.1))->br ((aB cR es gC.1.1).2.2.1 !=aB bw i.1.2.1 (aB bw K gC.1.1)) (bq Q) 
 (0<=gC.1.1/\gC.1.1< (aF es)/\(Ty.ok cR (aB cR es gC.1.1)->br ((aB cR es gC.1.1).2.1 !=(ym l K gC.1.1).2.2.1) (bq Q) (fW gC.1.1 ag_1)))))))))))) (cG cu.1.1 (ag ((cu.1.1+1,()),cu.2)))) fx))))))) 
 (Q oZ [])) ((ah,()),i.2))) ((ah,[],()),A,())))
theorem w_llinks:cM 3 c_llinks:=by
 intro args H Q h;unfold c_llinks at h;split at h;rotate_left;cases h;rename_i cl;split at h;rotate_left;cases h;rename_i l hl;refine Wp.said (args':=[.c (.d noTy l)]) (λE g=>bE.dd (dR hl) (λ_ h=>h)) ?_;clear hl;refine Wp.dL ajB gE ⟨[(9,⟨[(7,.int .i64),(6,.own 3 (.int .i64))],[(1,.abs)]⟩),(15,⟨[(10,.int .i64)],[]⟩),(21,⟨[(11,.int .i64)],[(1,.abs)]⟩),(31,⟨[(15,.int .i64)],[]⟩)],[]⟩ Tryz.f3 (EX l) (hold:=[10,11,12]) ?_;unfold EX mO ym qF fx lK vy bq cG zL uG gn fW cC oz jF oZ ah a6 aF aN bw;have hF40:(List.map NA (List.take 40 l)).length<=40:=by rw [bL,aD];omega
 generalize List.map NA (List.take 40 l)=F at*;refine λ_=>⟨by omega,aw (λq=>λ_=>?_) (λq=>λA d N O hM _=>?_)⟩;rw [q];exact h;refine ba.intro (λi=>i.2.1=A/\0<=i.1.1/\i.1.1<=F.length/\(i.1.2.1.length:Int)=i.1.1/\Ao d F N i.1.2.1) (λi=>F.length - i.1.1.toNat) ⟨rfl,bp _,by simp,rfl,⟨λk h=>by cases h⟩⟩ ?_;rintro ⟨⟨i,R,_⟩,A1,_⟩ ⟨e,i0,i1,il,hR⟩;simp only at e i0 i1 il hR ⊢;subst e;refine λ_=>aw (λhc=>?_) (λhc=>?_)
 .have hc:=of_decide_eq_true hc;have hy:aB noTy F i∈F:=rO (e:=noTy) i0 hc;refine ⟨i0,hc,λ_=>⟨d,N,hM,λref hr _ _=>?_⟩⟩;obtain ⟨z,x,hx,x1,x2,x3⟩:=adq O hM.ok hy hr;rw [z];refine aw (λq=>by cases q) (λ_=>?_);have uJ:=λk k0 k1=>Ao.same O (k:=k) hM.ok.ok.inj hR il.symm k0 k1 (by omega) ⟨x,hx,x1,x2,x3⟩;refine ba.intro (λk=>0<=k.1.1/\k.1.1<=i) (λk=>i.toNat - k.1.1.toNat) ⟨bp _,i0⟩ ?_;rintro ⟨⟨k,_⟩,_⟩ ⟨k0,k1⟩;simp only at k0 k1 ⊢;refine aw (λhk=>?_) (λhk=>?_)
  .have hk:k< i:=of_decide_eq_true hk;refine ⟨k0,by omega,k0,by omega,λ_=>⟨k0,by omega,λ_=>⟨i0,hc,λ_=>aw (λq=>?_) (λ_=>⟨by unfold aI;omega,⟨by omega,by omega⟩,by omega⟩)⟩⟩⟩;rw [bG,beq_eq_false_iff_ne] at q;exact absurd (iE.2 (by rw [beq_iff_eq,beq_iff_eq];exact uJ k k0 hk)) q
  .exact ⟨by rw [ay];omega,by rw [ay];omega,by unfold aI;omega,⟨trivial,by omega,by omega,by rw [af,ay];omega,hR.snoc (by rw [il];exact ⟨x,hx,x1,x2,x3⟩)⟩,by omega⟩
 have hc:¬i< (F.length:Int):=of_decide_eq_false hc;have hl:R.length=F.length:=by omega
 refine ba.intro (λj=>j.2.1=A1/\0<=j.1.1/\j.1.1<=F.length) (λj=>F.length - j.1.1.toNat) ⟨rfl,bp _,by simp⟩ ?_;rintro ⟨⟨j,_⟩,A2,_⟩ ⟨e,j0,j1⟩;simp only at e j0 j1 ⊢;subst e;refine λ_=>aw (λhj=>?_) (λ_=>h);have hj:j< (F.length:Int):=of_decide_eq_true hj;have hy:aB noTy F j∈F:=rO (e:=noTy) j0 hj;obtain ⟨x,hx,x1,x2,x3⟩:=hR.all j.toNat (by omega);rw [nG j0] at x1 x2;have x4:Kk.get .int d.t.Mr x.2.1=some (aB (.int .i64) R j):=by rw [fb (e:=.int .i64) j0 (by omega)];exact x3
 have apc:=O.l.deep _ hy;have next:aI .i64 (j+1)/\(A2=A2/\0<=j+1/\j+1<=(F.length:Int))/\F.length - (j+1).toNat< F.length - j.toNat:=⟨by unfold aI;omega,⟨rfl,by omega,by omega⟩,by omega⟩
 refine ⟨j0,hj,λ_=>⟨by omega,by omega,λK hK=>⟨j0,by omega,j0,by omega,λ_=>⟨d,N,x,hM,hx,x4,λes e hL _ _=>⟨j0,hj,λ_=>aw (λq=>?_) (λq=>?_)⟩⟩⟩⟩⟩
 .rcases hL.or with ⟨_,k,_⟩| ⟨rfl,_⟩
  .rw [<-x2,k] at q;cases q
  .exact aw (λq=>by cases q) (λ_=>next)
 rcases hL.or with ⟨rfl,_,hO,hE⟩| ⟨_,k,_⟩;rotate_left;exact absurd (by rw [x2];simpa using q) k;rw [x1] at hE;have hlen:es.length=K.length:=by simpa using congrArg List.length (uW.names O hM.ok.tok hE hO hK)
 refine aw (λq=>by cases q) (λ_=>λ_ _=>aw (λq=>?_) (λ_=>?_));rw [hlen] at q;simp at q;refine ba.intro (λt=>0<=t.1.1/\t.1.1<=K.length) (λt=>K.length - t.1.1.toNat) ⟨bp _,by simp⟩ ?_;rintro ⟨⟨t,_⟩,_⟩ ⟨t0,t1⟩;simp only at t0 t1 ⊢;refine λ_=>aw (λht=>?_) (λ_=>⟨next.1,⟨trivial,next.2.1.2⟩,next.2.2⟩)
 have ht:t< (K.length:Int):=of_decide_eq_true ht;have P3:K.length<=F.length:=by rw [hK.perm.length_eq];exact jh _
 obtain ⟨⟨o0,o1⟩,ol,n1,n2,n3⟩:=uW.at O hM.ok.tok hE hO hK hR hl t0 ht;generalize aB (.int .i64) K t=o at*;have o2: @LT.lt Int _ o (R.length:Int):=by rw [hl];exact o1
 refine ⟨t0,ht,t0,ht,λ_=>⟨o0,o1,λ_=>⟨t0,by omega,λ_ _=>⟨by unfold aI;omega,by omega,by omega,λ_=>aw (λq=>?_) (λ_=>⟨t0,by omega,λ_=>⟨t0,ht,t0,ht,λ_=>⟨o0,o2,o0,o2,λ_=>aw (λq=>?_) (λ_=>⟨t0,by omega,λ_=>aw (λq=>?_) (λ_=>⟨by unfold aI;omega,⟨by omega,by omega⟩,by omega⟩)⟩)⟩⟩⟩)⟩⟩⟩⟩;rw [n1,jA.2 rfl] at q;cases q;rw [n2] at q;simp at q;rw [n3] at q;simp at q
end Go.Proofs

namespace Go.Lm
open Go Go.RowKit
section
variable {P:Program}
def JW (P:Program) (t:TypeId) (e:Ty):Prop:= @DJ P t e.den e.rep
def DI (P:Program) (fs:List Field) (off:Nat) (e:Ty):Prop:=
 ∀ {H:Type} (enc:TypeId×Value->H) (w:World) (base:Nat) (spare:Nat->Bool) (held:Bool) (fuel:Nat) (cs:List Value),cs.length=off+e.size->
  (∀ f∈fs,∃ y,DataW.trod enc P w base spare held fuel f.type ((cs.drop f.offset).take (P.cellsOf f.type))=some y)->∃ x:e.den,e.rep.rel w (cs.drop off) x
theorem Pv {off:Nat}:DI P [] off .unit:=λ_ _ _ _ _ _ cs hl _=>⟨(),by
 show cs.drop off= [];exact eZ (by rw [hl];exact az _)⟩
theorem zS {a b:Ty} {f:Field} {fs:List Field} {off:Nat} (ho:f.offset=off) (hs:P.cellsOf f.type=a.size) (h1:JW P f.type a) (h2:DI P fs (off+a.size) b):DI P (f::fs) off (.pair a b):=λenc w base spare held fuel cs hl h=>by
 obtain ⟨y,hy⟩:=h f (by simp);obtain ⟨x,hx⟩:=h1 enc w base spare held fuel _ y hy;have xe:cs.length=off+(a.size+b.size):=hl;obtain ⟨r,hr⟩:=h2 enc w base spare held fuel cs (by omega) λg hg=>h g (aG _ hg);rw [ho,hs] at hx;refine ⟨(x,r),_,_,?_,hx,hr⟩;rw [<-iC,bY]
theorem D9 {t:TypeId} {e:Ty} {fs:Array Field} (ht:P.underlying t=some (.struct fs)) (hs:P.cellsOf t=e.size) (h:DI P fs.toList 0 e):JW P t e:=λenc w base spare held fuel cs y hy=>by
 obtain ⟨xs,n,_,_,hlen,hxl,hf⟩:=DataW.trod_struct ht hy;obtain ⟨x,hx⟩:=h enc w base spare held n cs (by rw [hlen,hs];omega) λf hm=>by
  obtain ⟨i,hi⟩:=List.getElem?_of_mem hm;have pH:fs[i]?=some f:=by simpa using hi
  have eJ:i< xs.length:=by rw [hxl];exact (aQ.1 pH).1
  exact ⟨xs[i],by rw [hf i f pH,ak eJ]⟩
 rw [List.drop_zero] at hx;exact ⟨x,hx⟩
theorem Pw {k:IntKind} {t:TypeId} (ht:P.underlying t=some (.int k)):JW P t (.int k):=λ_ _ _ _ _ _ _ _ h=>by
 obtain ⟨n,hc,_,hw⟩:=DataW.trod_int ht h;exact ⟨n,hc,hw⟩
def fit (P:Program):Ty->TypeId ⊕ (List Field×Nat)->Bool
 | .int k,.inl t=>match P.underlying t with
  | some (.int k')=>IntKind.beq k k'
  | _=>false
 | .u8,.inl t=>match P.underlying t with
  | some (.int .u8)=>true
  | _=>false
 | .str,.inl t=>match P.underlying t with
  | some .string=>true
  | _=>false
 | .bool,.inl t=>match P.underlying t with
  | some .bool=>true
  | _=>false
 | .sl e,.inl t=>match P.underlying t with
  | some (.slice et)=>Nat.beq (P.cellsOf et) e.size&& fit P e (.inl et)
  | _=>false
 | .unit,.inr ([],_)=>true
 | .pair a b,.inr (f::fs,off)=>Nat.beq f.offset off&& (Nat.beq (P.cellsOf f.type) a.size&& (fit P a (.inl f.type)&& fit P b (.inr (fs,off+a.size))))
 | .pair a b,.inl t=>match P.underlying t with
  | some (.struct fs)=>match fs.toList with
   | f::r=>Nat.beq (P.cellsOf t) (a.size+b.size)&& (Nat.beq f.offset 0&& (Nat.beq (P.cellsOf f.type) a.size&& (fit P a (.inl f.type)&& fit P b (.inr (r,a.size)))))
   | []=>false
  | _=>false
 | _,_=>false
theorem yT:∀ (e:Ty),(∀ t,fit P e (.inl t)=true->JW P t e)/\∀ fs off,fit P e (.inr (fs,off))=true->DI P fs off e
 | .int k=>by
  refine ⟨λt h=>?_,λfs off h=>by simp [fit] at h⟩;unfold fit at h;split at h
  .rename_i k' hk;rw [IntKind.eq_of_beq h];exact Pw hk
  .cases h
 | .u8=>by
  refine ⟨λt h=>?_,λfs off h=>by simp [fit] at h⟩;unfold fit at h;split at h
  rename_i hk;exact Pt hk;cases h
 | .VF=>⟨λt h=>by simp [fit] at h,λfs off h=>by simp [fit] at h⟩
 | .str=>by
  refine ⟨λt h=>?_,λfs off h=>by simp [fit] at h⟩;unfold fit at h;split at h
  rename_i hk;exact U9 hk;cases h
 | .bool=>by
  refine ⟨λt h=>?_,λfs off h=>by simp [fit] at h⟩;unfold fit at h;split at h
  rename_i hk;exact Pu hk;cases h
 | .unit=>by
  refine ⟨λt h=>by simp [fit] at h,λfs off h=>?_⟩;cases fs with
  | nil=>exact Pv
  | cons f r=>simp [fit] at h
 | .sl e=>by
  refine ⟨λt h=>?_,λfs off h=>by simp [fit] at h⟩;unfold fit at h;split at h
  .rename_i et hk;rw [ao] at h;exact @Ps P t et e.den e.rep hk ((ai h.1).trans e.gz.symm) ((yT e).1 et h.2)
  .cases h
 | .pair a b=>by
  refine ⟨λt h=>?_,λfs off h=>?_⟩
  .unfold fit at h;split at h
   .rename_i fs hk;split at h
    .rename_i f r hf;simp only [ao] at h;obtain ⟨h1,h2,h3,h4,h5⟩:=h;refine D9 (e:=.pair a b) hk (ai h1) ?_;rw [hf];refine zS (ai h2) (ai h3) ((yT a).1 _ h4) ?_;rw [cd];exact (yT b).2 _ _ h5
    .cases h
   .cases h
  .cases fs with
   | nil=>simp [fit] at h
   | cons f r=>
    unfold fit at h;simp only [ao] at h;obtain ⟨h2,h3,h4,h5⟩:=h;exact zS (ai h2) (ai h3) ((yT a).1 _ h4) ((yT b).2 _ _ h5)
theorem open_sl {t:TypeId} {e:Ty} (hf:fit P (.sl e) (.inl t)=true) {H:Type} {enc:TypeId×Value->H} {w:World} {base:Nat} {spare:Nat->Bool} {held:Bool} {v:Value} {d:DataW H} {ps:List MemPlace}
  (hv:v.cells= #[v]) (h:DataW.Trod enc P w base spare held t v d ps):∃ x:List e.den,oa e w v x:=
 @Yv P t (List e.den) (AP e.den e.rep) ((yT (.sl e)).1 t hf) rfl H enc w base spare held v d ps hv h
theorem Wp.run {I:cV->Prop} {f:FuncId} {args:List SV} {vs:List Value} {w:World} {b:Bool} (hI:I {w:=w,g:=w}) (h:Wp I P f args [] λv _=>v=SV.bool b) (hv:bE [] w args vs):Ho P f vs.toArray w λv w'=>v= .bool b/\Le w w':=by
 have S:SL {w:=w,g:=w} w w []:=SL.start (rj.refl w);refine (h {w:=w,g:=w} hI w w [] [] vs ⟨S,rfl⟩ hv).mono λv w' ⟨E',g',sv,H',_,_,S',r,q⟩=>?_;subst q;exact ⟨r.1,S'.sl.anc⟩
end
theorem returns_shaped_and {H:Type} {enc:TypeId×Value->H} {a:Assume} {C:Checked} {os:Os} {f:FuncId} {fn:Func} {s:ChangeSpec} {conds:List PathCond} {apart fresh handsOn again:Bool} {X:World->Array Value->Prop}
  (hX:∀ (w w':World) (args:Array Value),w.heap=w'.heap->X w args->X w' args)
  (own:ownKnob C.prog.godebug=none) (started:os.Started) (noInit:C.prog.inits.idxOf? f=none) (hfn:C.prog.funcs[f]?=some fn)
  (witness:∃ (w:World) (tape:Tape) (i:Input),w.os=os/\(w.forCall tape i).Shaped C.prog/\i.vars= []/\Input.okWide C.prog (w.forCall tape i) .any w.heap.size f i/\
   ((s.pre enc C.prog fn conds apart (w.forCall tape i).memory i.args/\X (w.forCall tape i).memory i.args)/\sizedMet enc C.prog fn (OpenSpec.ofChange s) apart (w.forCall tape i).memory i.args)/\a.holds C.prog (lone (Frame.enter C.prog f i.args .normal) [] (w.forCall tape i)))
  (contract:∀ (W:World) (base:Nat) (args:Array Value) (ds gs:List (DataW H)) (before:List MemPlace),
   (∀ (j:Nat) t v,fn.params[j]?=some t->args[j]?=some v->Value.okWide C.prog W .any base t v)->
   DataW.Whole enc C.prog fn.params.toList s.vars apart W args.toList ds gs before->X W args->W.ShapedOpen C.prog->
   (DataW.weightsEach C.prog (fn.params.toList++s.plain.varTypes C.prog) (ds++gs)).all (· <=reachBytes)=true->
   Calls C.prog f args W λe W'=>∃ v,e= .returned v/\s.post enc C.prog fn apart fresh handsOn again W args v W'):
  ReturnsInHanded a C os f .any (λw args=>(s.pre enc C.prog fn conds apart w args/\X w args)/\sizedMet enc C.prog fn (OpenSpec.ofChange s) apart w args) (s.post enc C.prog fn apart fresh handsOn again):=by
 refine returnsInHanded_of_calls own started noInit witness ?_;intro w tape i _ hsh _ xd anM aof;obtain ⟨_,_,_,fn',aoh,_,_,_,_,hval⟩:=xd;obtain rfl:fn'=fn:=aj (aoh.symm.trans hfn);obtain ⟨⟨⟨ds,gs,before,hw,hc⟩,hx⟩,hz⟩:=anM;have hw':=DataW.Whole.of_heap (w':=w.forCall tape i) (by rfl) hw;refine (contract (w.forCall tape i) w.heap.size i.args ds gs before hval hw' (hX _ _ _ (by rfl) hx) hsh (hz.weights hw)).mono λe W' ⟨v,he,hp⟩=>?_;subst he;exact ChangeSpec.post_blind hp
theorem params_ok {P:Program} {ps:Array TypeId} (h:(ps.all λt=> !P.wantsStandIn t)=true) (j:Nat) (t:TypeId) (ht:ps[j]?=some t):P.wantsStandIn t=false:=by
 have:=Array.all_eq_true_iff_forall_mem.1 h t (Array.mem_of_getElem? ht);simpa using this
end Go.Lm

namespace Go.Proofs.YthjbdgokcljocaaGreatDoor
open Go Go.ChangeShapes Go.WideShapes Go.ChangeAt Go.RowKit Go.Lm
set_option maxRecDepth 1000000
set_option maxRecDepth 100000
def laidWorld (os:Os):World:=
 let w0:=World.doorLaid ck 19 os
 {w0 with heap:=w0.heap.modify 1 fun
   | .cells _ t frozen=>.cells (Pinned.utf8FirstZ.map λ(n:Nat)=>Value.int .u8 n).toArray t frozen
   | o=>o}
theorem own:ownKnob Tryz.prog.godebug=none:=by kernel_rfl
theorem laidOut:laidOutB ck=true:=by kernel_rfl
abbrev RQ:List (String×DataW Unit):=Rows.imageLinksRow.laid
theorem Pq:(RQ.all λx=>x.2.handleName?.isNone)=true:=by kernel_rfl
theorem door_met (os:Os) (args:Array Value):laidMetH ck RQ ((laidWorld os).forCall (λ_ _=>0) ⟨#[],args,[]⟩).memory:=by
 rw [MakeChecks.laidMetH_plain _ _ _ Pq];exact laidMet_of_run' 8 (by kernel_rfl) (by kernel_rfl)
theorem door_shaped (os:Os) (args:Array Value):((laidWorld os).forCall (λ_ _=>0) ⟨#[],args,[]⟩).Shaped ck:=World.shaped_of_RefB (by kernel_rfl) (by kernel_rfl)
end Go.Proofs.YthjbdgokcljocaaGreatDoor

