/- Texts of mine, laid together: Chk. -/
import Derived.Test.YthjbdgokcljocaaGreatDoorProg
import Derived.Test.YthjbdgokcljocaaGreatDoorChecked
import Derived.Test.YthjbdgokcljocaaGreatDoorQ3
import Derived.Shelf.SlIterI.Collect
set_option linter.unusedVariables false
open Int renaming toNat_natCast → bL
open List renaming length_cons → av, length_nil → aY, mem_cons → bm, cons_append → eH, nil_append → gS
open Nat renaming add_mul → gR
open Go.Proofs.Tryz renaming prog → cg
noncomputable section
namespace Go.Proofs
open Go Go.RowKit Go.Lm
set_option maxRecDepth 1000000
theorem Mb {sz:Nat} {p:Option Addr} {n c i m:Nat} (hm:0< m):F9 sz (.slice p n c) i m= .slice (p.map (·.add (i*sz))) m m:=by
 show Value.slice (if i+m=(i:Int).toNat then p else p.map (·.add ((i:Int).toNat*sz))) (((i+m:Nat):Int).toNat - (i:Int).toNat) (i+m - (i:Int).toNat)=_
 grind
set_option maxHeartbeats 2000000 in
theorem akj:agc cg 173 (Ty.u8):=by
 intro l b1 b2 v0 q J w q1 q2 ⟨p,n,c,Tu,hn,hnc,hp⟩ hJ hJd hY hJ0;subst Tu;obtain ⟨k,rfl⟩:∃ k:Nat,q=k:=⟨q.toNat,by omega⟩;refine callsIn_of_wp Tryz.func173 rfl trivial ?_ rfl;simp only [Tryz.ntmps173,List.size_toArray,av,aY,Nat.reduceAdd,Nat.reduceSub,Array.replicate_succ,Array.replicate_zero,List.push_toArray,List.append_toArray,gS,eH]
 gi_wp2
 gi_loopw [4] (λvi wr=>∃ j:Nat,vi= .int .i64 ((j*k:Nat):Int)/\(j*k<=n+k)/\J j wr) (λvi _=>match vi with| .int _ z=>(n+k - z).toNat| _=>0)
 case atStart=>exact ⟨0,by simp,by omega,hJ0⟩
 case round=>
  obtain ⟨j,rfl,hj,hJj⟩:=hrel;obtain ⟨vX,za⟩:=hJ j wr hJj;have hd1:wr.drew.cell? ⟨b1,0,none⟩=some (.slice p n c):=vX;have hd2:wr.drew.cell? ⟨b2,0,none⟩=some (.int .i64 k):=za
  gi_wp2
  .gi_region
   have hJ2:J j wr.drew:=hJd j wr hJj;have fB:j*k< n:=by omega
   obtain ⟨fn,tmps,assign,body,hy,hR⟩:=hY j wr.drew hJ2 (by simpa [uN] using fB);have Qm:(if n - j*k< k then ((n - j*k:Nat):Int) else (k:Int))=((min k (n - j*k):Nat):Int):=by split<;>omega
   first| simp only [Qm]| (have hm2:min (k:Int) ((n - j*k:Nat):Int)=((min k (n - j*k):Nat):Int):=(by omega);simp only [hm2])
   clear vX za;have hvk:F9 (Ty.u8).size (Value.slice p n c) (j*(k:Int).toNat) (min (k:Int).toNat (uN (Value.slice p n c) - j*(k:Int).toNat))=Value.slice (Option.map (λx=>x.add (j*k)) p) (min k (n - j*k)) (min k (n - j*k)):=by
    rw [bL,show uN (Value.slice p n c)=n from rfl,Mb (by omega),show (Ty.u8).size=1 from rfl,Nat.mul_one]
   rw [hvk] at hy
   gi_wp2
   refine hR.mono ?_;rintro e W3 ⟨rfl,hJ3⟩;obtain ⟨hc3,hc4⟩:=hJ _ W3 hJ3
   gi_wp2
   go_roundw
   case rel=>
    have e1:(j:Int)*k+k=(((j+1)*k:Nat):Int):=by rw [gR,Nat.one_mul];simp
    exact ⟨j+1,by rw [e1],by rw [gR];omega,hJ3⟩
   case measure=>
    simp;omega
  .go_end0
   exact ⟨⟨_,rfl⟩,j,hJj,by rw [bL];show n<=_;omega⟩
set_option maxHeartbeats 2000000 in
theorem aki:agc cg 228 (Ty.sl .u8):=by
 intro l b1 b2 v0 q J w q1 q2 ⟨p,n,c,Tu,hn,hnc,hp⟩ hJ hJd hY hJ0;subst Tu;obtain ⟨k,rfl⟩:∃ k:Nat,q=k:=⟨q.toNat,by omega⟩;refine callsIn_of_wp Tryz.func228 rfl trivial ?_ rfl;simp only [Tryz.ntmps228,List.size_toArray,av,aY,Nat.reduceAdd,Nat.reduceSub,Array.replicate_succ,Array.replicate_zero,List.push_toArray,List.append_toArray,gS,eH]
 gi_wp2
 gi_loopw [4] (λvi wr=>∃ j:Nat,vi= .int .i64 ((j*k:Nat):Int)/\(j*k<=n+k)/\J j wr) (λvi _=>match vi with| .int _ z=>(n+k - z).toNat| _=>0)
 case atStart=>exact ⟨0,by simp,by omega,hJ0⟩
 case round=>
  obtain ⟨j,rfl,hj,hJj⟩:=hrel;obtain ⟨vX,za⟩:=hJ j wr hJj;have hd1:wr.drew.cell? ⟨b1,0,none⟩=some (.slice p n c):=vX;have hd2:wr.drew.cell? ⟨b2,0,none⟩=some (.int .i64 k):=za
  gi_wp2
  .gi_region
   have hJ2:J j wr.drew:=hJd j wr hJj;have fB:j*k< n:=by omega
   obtain ⟨fn,tmps,assign,body,hy,hR⟩:=hY j wr.drew hJ2 (by simpa [uN] using fB);have Qm:(if n - j*k< k then ((n - j*k:Nat):Int) else (k:Int))=((min k (n - j*k):Nat):Int):=by split<;>omega
   first| simp only [Qm]| (have hm2:min (k:Int) ((n - j*k:Nat):Int)=((min k (n - j*k):Nat):Int):=(by omega);simp only [hm2])
   clear vX za;have hvk:F9 (Ty.sl .u8).size (Value.slice p n c) (j*(k:Int).toNat) (min (k:Int).toNat (uN (Value.slice p n c) - j*(k:Int).toNat))=Value.slice (Option.map (λx=>x.add (j*k)) p) (min k (n - j*k)) (min k (n - j*k)):=by
    rw [bL,show uN (Value.slice p n c)=n from rfl,Mb (by omega),show (Ty.sl .u8).size=1 from rfl,Nat.mul_one]
   rw [hvk] at hy
   gi_wp2
   refine hR.mono ?_;rintro e W3 ⟨rfl,hJ3⟩;obtain ⟨hc3,hc4⟩:=hJ _ W3 hJ3
   gi_wp2
   go_roundw
   case rel=>
    have e1:(j:Int)*k+k=(((j+1)*k:Nat):Int):=by rw [gR,Nat.one_mul];simp
    exact ⟨j+1,by rw [e1],by rw [gR];omega,hJ3⟩
   case measure=>
    simp;omega
  .go_end0
   exact ⟨⟨_,rfl⟩,j,hJj,by rw [bL];show n<=_;omega⟩
def afq:List (Nat×Ty):=[(173,Ty.u8),(228,Ty.sl .u8)]
theorem TO:xK cg afq:=λp h=>by
 unfold afq at h;simp only [bm,List.not_mem_nil,or_false] at h;rcases h with rfl| rfl;exact akj;exact aki
end Go.Proofs

