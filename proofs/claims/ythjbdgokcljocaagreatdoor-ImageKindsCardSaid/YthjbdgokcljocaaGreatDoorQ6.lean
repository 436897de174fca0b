/- Texts of mine, laid together: I17 LmZn I18 I19 LmYb LmYc LmYd LmYe LmYf LmYg LmYh LmYi LmYo LmYn LmYq LmYr LmYs LmYt LmYu LmZo LmZp LmZq ShelfJ T1 T2 T3 T4 Cmp LmVze Srt C1 C2 D1 D2. -/
import Derived.Test.YthjbdgokcljocaaGreatDoorQ5
import Derived.Test.YthjbdgokcljocaaGreatDoorQ4
import Derived.Test.YthjbdgokcljocaaGreatDoorProg
import Derived.Test.YthjbdgokcljocaaGreatDoorChecked
import Derived.Test.YthjbdgokcljocaaGreatDoorQ3
import Derived.Sort.Walk0
import Derived.Shelf.Strings.Builder1
import Derived.Shelf.Strings.Builder2
import Derived.Shelf.Strings.OnBuilder
import Derived.Shelf.Small.Bits
import Derived.Shelf.Small.Strs
import Derived.Shelf.Strings.BuilderF
import Derived.Shelf.Strings.BuilderK
import Derived.Shelf.Strings.Builder2Cap
import Derived.Shelf.Strconv.Itoa0
import Derived.Shelf.Strings.Search1
import Derived.Shelf.Sort.Plain
import Derived.Shelf.Strings.BuilderCap
import Derived.Ground.Names2Prog
import Derived.Shelf.Slices.Clone
import Derived.Shelf.Slices.In.SortNone
import Derived.Shelf.Bytes.SlSearch0
import Derived.Ground.SlbCloneProg
import Derived.Shelf.Bytes.SlClone
import Derived.Ground.SlsfProg
import Derived.Shelf.SlSortCmp.Insertion
import Derived.Shelf.Bytes.SlEqualAll
import Derived.Shelf.Bytes.Small
import Derived.Sort.Grow
import Derived.Deep.Draws
import Derived.Shelf.Lay
import Derived.Lib.Walk
import Derived.Handy
import Derived.Deep.LoopGhost
import Derived.Shelf.SlSortCmp.InsertionK
import Derived.Shelf.SlSortCmp.WholeK
import Derived.Shelf.SlSortCmp.NoneTotal
set_option linter.unusedVariables false
open Array renaming getElem?_eq_some_iff → aQ, getElem?_eq_getElem → cK, length_toList → dq, getElem?_toList → eS, getElem?_modify → iL, getElem?_append_left → jW
open Bool renaming and_eq_true → ao, not_eq_true' → bY, false_eq_true → eR, false_and → mI
open Int renaming toNat → ax, toNat_natCast → aU, le_refl → bz, tdiv → fQ, natCast_nonneg → jv
open Go.IntKind renaming signed → eH, bits → gY, max → kc
open List renaming length_append → af, getElem?_eq_getElem → ak, length_cons → aq, getElem?_eq_some_iff → au, replicate → av, length_take → aA, length_singleton → aD, append_assoc → aG, mem_cons_of_mem → aH, eq_nil_of_length_eq_zero → aJ, length_nil → aM, length_drop → aN, mem_map → aP, mem_singleton → aR, take_of_length_le → aT, getElem?_append_left → aV, append_nil → aW, mem_cons_self → aX, mem_append → aY, getElem?_append_right → a8, getD_eq_getElem?_getD → ba, mem_cons → bm, all_eq_true → bo, length_map → bH, flatten_cons → bI, range → bN, take_succ_eq_append_getElem → bU, map_cons → bX, drop_eq_getElem_cons → cg, getElem?_map → ck, take_append_drop → cv, drop_append_of_le_length → da, mem_range → dd, pairwise_iff_getElem → dj, getElem_mem → dw, getElem?_eq_none → dx, mem_iff_getElem → dR, getElem?_take → ez, nodup_cons → eB, take_take → eF, drop_drop → eG, take_length → eN, cons_append → eO, map_append → eQ, flatten_append → eU, drop_left → eV, nodup_append → fh, mem_filter → fO, map_congr_left → gD, drop_eq_nil_of_le → ik, mem_append_right → iK, drop_take → jk, pairwise_cons → jt, find?_eq_none → ju, drop_of_length_le → j4, filter_eq_self → ka, take_append_of_le_length → lT, pairwise_map → mL, getElem?_range → nD
open Nat renaming le_refl → ay, zero_add → bW, zero_le → cq, le_of_ble_eq_true → cH, min_eq_left → dK, lt_or_ge → dZ, add_mul → fg, blt → gn, zero_lt_succ → gJ, mul_le_mul_right → gR, add_zero → jP, mod_eq_of_lt → lS, lt_trichotomy → mK
open Option renaming getD → gd, map_some → js, isSome_iff_exists → lR
open Option.some renaming inj → aj, injEq → j8
open Go.Proofs.Tryz renaming prog → cd, underlying3 → oT
open UInt8 renaming ofNat → az, toNat → cW
noncomputable section
namespace Go.Proofs
open Go Go.Lm Go.RowKit
set_option maxRecDepth 1000000
def Z7:Ct:=cD (Ty.sl .u8) λl=>cI λn=>c0 λQ=>1<=n/\Q (.c (.fn 228 [.p 0 0,.p 1 0])) [.cells 129 [.d (.sl .u8) l],.cells 3 [.k (.int .i64 n)]]
def aaJ:=aaK.add abX
def Fw (l:(List ((Ty.sl .u8)).den)) (n:Int):dE:=λQ=>List.length l<=9223372036854775807->aF .i64 n->br (decide (n< 1)) False (Q (SV.v (S1.c (Cl.fn (228:Nat) [.p 0 0,.p 1 0]))) [.cells 129 [Cl.d bE l],.cells 3 [.k (aC n)]])
theorem WZ:cG 198 Z7:=fz<| lH λl=>nG λn=>iQ λQ h=>by
 refine Wp.dJ aaJ cX ⟨[],[]⟩ Tryz.f198 (Fw l n) ?_;unfold Fw aC bE;obtain ⟨hn,h⟩:=h;exact λ_ _=>aw (λhc=>absurd (of_decide_eq_true hc) (by omega)) (λ_=>h)
def aea:Ct:=cP<| cI λr=>cO λH Q=>match H with
 | [.abs A]=>∃ fs R,RB A fs R/\∃ o:Nat,o<=R.length/\r=(dU fs o:Int)/\∃ (l:List xt) (q:List UInt8),eI l=true/\l≠ []/\R.drop o=xsB l++q/\∀ A',RB A' fs R->Q (.cJ [.c (.d eD l),.c (.k (.int .i64 0))]) [.abs A']
 | _=>False
def Qy:=aaJ.add WZ
abbrev B5 {A1:Type} (y0) (y1:List A1):=List.take bn (List.drop (y0*2) y1)
abbrev Iw (y0) (y1):=(fD (aK bE (B5 y0 y1) ah),aK bE (B5 y0 y1) bd,())
def KF (r:Int) (A:Value->Atom):dE:=λQ=>aF .i64 r->∃ fs R,RB A fs R/\∃ o,o<=List.length R/\r=(↑(dU fs o):Int)/\(ah<=bd/\bd<=(10000000:Int))/\∀ (A':Value->Atom) (z:List UInt8) (nx e:Int),RB A' fs R->pc fs R o bJ z nx e-> 
 cY z (cj nx e (br (e !=0) (Q sA [HO.abs A']) (ah<=ah/\ah< (aE z)/\(kJ z (br ((fM z)==0) (Q sA [HO.abs A']) (ah<=ah/\ah< (aE z)/\(kJ z (br (decide ((fM z)>iA)) (Q sA 
 [HO.abs A']) (ah<=ah/\ah< (aE z)/\(kJ z (aF .i64 (di*(fM z))/\∃ fs R,RB A' fs R/\∃ o,o<=List.length R/\nx=(↑(dU fs o):Int)/\∃ ts q,List.drop o R=gj ts++q/\(∀ (t:List UInt8),t∈ts-> 
 List.length t<=255)/\di*(fM z)=(aE ts)/\List.length ts<=100/\∀ (A':Value->Atom),RB A' fs R->aL (bO ts)->aF .i64 0->bd<=di/\(bd<=di/\di<=(1000000000:Int))/\List.length ts<=1000000000000/\ 
 bp (λi ag=>br (gn (i.1*2) (bO ts)) (ah<=ah/\ah< (a7 (B5 i.1 ts))/\(Ty.ok bE (aK bE (B5 i.1 ts) ah)->ah<=bd/\bd< (a7 (B5 i.1 ts))/\(Ty.ok bE (aK bE (B5 i.1 ts) bd) 
 ->(List.length i.2.2.1.1+List.length [(Iw i.1 ts)])*40<=cw/\List.length i.2.2.1.1+List.length [(Iw i.1 ts)]<=9223372036854775807/\ag (i.1+1,(),(i.2.2.1.1++ [(Iw i.1 ts)],()),())))) (br (!eI i.2.2.1.1) (Q 
 sA [HO.abs A']) (Q (SV.cJ [S1.c (.o 1),.c (.k a6)]) [HO.abs A',HO.held (96:TypeId) eD i.2.2.1.1]))) (bD,(),([],()),()))))))))))))
theorem QE:cG 149 aea:=fz<| rJ<| nG λr=>rK λH Q h=>by
 split at h;rotate_left;cases h;rename_i A;refine Wp.lq [some (.sl eD),none] [1] ?_;refine Wp.P1 (X:=Qy.v cX [180] (chk:=ad3)) Qy.ok ⟨[(10,⟨[],[(1,.cells 36 [.own 96 eD])]⟩)],[]⟩ (fn:=Tryz.f149) (V:=KF r A) (by kernel_rfl) (λ_=>by kernel_rfl) ?_ (hch:=Tb);unfold KF kJ Iw sA cY cj B5 bO cw dL a6 fM ah bd di iA a7 aE aL bD bJ bn bE;obtain ⟨fs,R,hR,o,ho,rfl,l,q,hx,gx,hd,h⟩:=h;obtain ⟨hm,hl8⟩:=oV hx;have hle:=Hx hm;have hn0:=List.length_pos_iff.2 gx;have hd:R.drop o=az l.length::(gj (pf l)++q):=by rw [hd];unfold xsB;rw [show aI 1 l.length= [az (l.length % 256)] from rfl,lS (by omega)];rfl
 have hRl:=congrArg List.length hd;rw [aN,aq] at hRl;refine λ_=>⟨fs,R,hR,o,ho,rfl,⟨by decide,by decide⟩,λA' z nx e hR hz _ _ _=>?_⟩;obtain ⟨rfl,rfl,rfl⟩:=hz.ok (by omega);rw [hd];have hu:(aK .u8 (List.take 1 (az l.length::(gj (pf l)++q))) 0).toNat=l.length:=Xy (by omega);have h1:(List.take 1 (az l.length::(gj (pf l)++q))).length=1:=rfl;rw [hu,h1];refine aw (λhc=>by cases hc) (λ_=>⟨by decide,by decide,λ_=>aw (λhc=>?_) (λ_=>⟨by decide,by decide,λ_=>aw (λhc=>?_) (λ_=>⟨by decide,by decide,λ_=>⟨by unfold aF;omega,fs,R,hR,o+1,by omega,rfl,pf l,q,?_,hle,?_,?_,λA' hR _ _=>⟨by decide,?_⟩⟩⟩)⟩)⟩)
 .have hc:(l.length:Int)=0:=eq_of_beq hc;omega
 .have hc:(l.length:Int)>8:=of_decide_eq_true hc;omega
 .rw [<-eG,hd];rfl
 .rw [n5];omega
 .rw [n5];omega
 refine ⟨⟨by decide,by decide⟩,by rw [n5];omega,bp.intro (λi=>i.1<=l.length/\i.2.2.1.1=l.take i.1) (λi=>l.length - i.1) ⟨cq _,rfl⟩ ?_⟩;rintro ⟨k,_,⟨out,_⟩,_⟩ ⟨hk,ho⟩;simp only at hk ho ⊢;subst ho;rw [n5];refine aw (λhc=>?_) (λhc=>?_)
 .have eK:k< l.length:=by have:=cH hc;omega
  have hp:=Er eK;rw [hp];have e2:l.take k++ [(fD (l[k]).1.data.toList,(l[k]).2.1,())]=l.take (k+1):=by
   rw [zb,bU eK]
  refine ⟨by decide,by show (0:Int)< 2;decide,λ_=>⟨by decide,by show (1:Int)< 2;decide,λ_=>⟨?_,?_,⟨eK,e2⟩,by omega⟩⟩⟩;rw [aA,aD];omega;rw [aA,aD];omega
 .have hge:l.length<=k:=by
   rcases dZ k l.length with z| z
   .have:gn (k*2) (2*l.length)=true:=Nat.ble_eq_true_of_le (by omega);rw [this] at hc;cases hc
   .exact z
  rw [aT hge,hx];exact aw (λq=>by cases q) (λ_=>⟨by show 1<=2;decide,h A' hR⟩)
end Go.Proofs

namespace Go.Lm
open Go
def zc (b:List UInt8):List UInt8:=if (b.dropWhile (· ==0)).length=0 then [] else b
theorem aaf (b:List UInt8):(zc b).length<=b.length:=by unfold zc;split<;>simp
theorem aad {b:List UInt8} (h:(((b.dropWhile (· ==0)).length:Int)==0)=true):zc b= []:=by
 have:=eq_of_beq h;unfold zc;rw [if_pos (by omega)]
theorem aae {b:List UInt8} (h:(((b.dropWhile (· ==0)).length:Int)==0)=false):zc b=b:=by
 unfold zc;rw [if_neg];intro e;rw [e] at h;cases h
theorem alL {b:List UInt8} (h:(b.dropWhile (· ==0)).length=0):b=av b.length 0:=by
 induction b with
 | nil=>rfl
 | cons z r ih=>
  by_cases hz:z=0
  .subst hz;rw [List.dropWhile_cons_of_pos (by decide)] at h;rw [aq,List.replicate_succ,<-ih h]
  .rw [List.dropWhile_cons_of_neg (by simpa using hz)] at h;cases h
theorem VO {b:List UInt8}:(zc b= []/\b=av b.length 0)\/(zc b=b):=by
 unfold zc;split
 .rename_i h;exact .inl ⟨rfl,alL h⟩
 .exact .inr rfl
structure zm (T:List Int) (x:List UInt8) (fs:List (List UInt8)):Prop where
 fr:∀ (k:Nat) z,fs[k]?=some z->DM T (zc (kZ x k)) z
theorem zm.nil (T:List Int) (x:List UInt8):zm T x []:=⟨λ_ _ h=>by simp at h⟩
theorem zm.step {T:List Int} {x z:List UInt8} {fs:List (List UInt8)} (h:zm T x fs) (hz:DM T (zc (kZ x fs.length)) z):zm T x (fs++ [z]):=⟨λk q hk=>by
 rcases dZ k fs.length with hl| hl
 .rw [aV hl] at hk;exact h.fr k q hk
 .rw [a8 hl] at hk;have eK:=(au.1 hk).1;rw [aD] at eK;obtain rfl:k=fs.length:=by omega
  rw [Nat.sub_self] at hk;obtain rfl:z=q:=by simpa using hk
  exact hz⟩
theorem zm.len {T:List Int} {x:List UInt8} {fs:List (List UInt8)} (h:zm T x fs):3*fs.length<=fs.flatten.length/\fs.flatten.length<=135*fs.length:=by
 have key:∀ n:Nat,n<=fs.length->3*n<=fy fs n/\fy fs n<=135*n:=by
  intro n
  induction n with
  | zero=>intro _;exact ⟨cq _,ay _⟩
  | succ n ih=>
   intro hn;have:=ih (by omega);have hf:=(h.fr n fs[n] (ak (by omega))).len;have hb:=aaf (kZ x n);rw [rb] at hb;rw [nW (by omega)];omega
 have:=key fs.length (ay _);rw [qg] at this;exact this
theorem VP {x:List UInt8} {n k:Nat} (h:k< n):kZ (x.take (128*n)) k=kZ x k:=by
 unfold kZ;rw [jk,eF,dK (by omega)]
structure TT (T:List Int) (b:List UInt8) (o:Nat) (x:List UInt8):Prop where
 ex:∃ fs r,fs.length=x.length / 128/\zm T x fs/\b.drop o=fs.flatten++r/\o<=b.length
theorem TT.app {T:List Int} {b:List UInt8} {o:Nat} {x:List UInt8} (h:TT T b o x) (c:List UInt8):TT T (b++c) o x:=by
 obtain ⟨fs,r,h1,h2,h3,h4⟩:=h;exact ⟨fs,r++c,h1,h2,by rw [da h4,h3,aG],by rw [af];omega⟩
structure DW (first:Int) (b:List UInt8) (M:List (ByteArray×Int)):Prop where
 all:∀ p∈M,∃ o:Nat,p.2=first+o/\∃ r,b.drop o=p.1.data.toList++r/\o<=b.length
theorem DW.app {first:Int} {b:List UInt8} {M:List (ByteArray×Int)} (h:DW first b M) (c:List UInt8):DW first (b++c) M:=⟨λp hp=>by
 obtain ⟨o,h1,r,h2,h3⟩:=h.all p hp;exact ⟨o,h1,r++c,by rw [da h3,h2,aG],by rw [af];omega⟩⟩
theorem DW.put {first:Int} {b c:List UInt8} {M:List (ByteArray×Int)} (h:DW first b M):DW first (b++c) (Kk.put .str M (fD c) (first+b.length)):=⟨λp hp=>by
 rcases bm.1 hp with rfl| hp;exact ⟨b.length,rfl,[],by rw [eV,tb,aW],by rw [af];omega⟩
 .exact (h.app c).all p (fO.1 hp).1⟩
theorem DW.get {first:Int} {b c:List UInt8} {M:List (ByteArray×Int)} (h:DW first b M) {v:Int} (hg:Kk.get .str M (fD c)=some v):∃ o:Nat,v=first+o/\∃ r,b.drop o=c++r/\o<=b.length:=by
 have:=h.all _ (oF (κ:=ByteArray) hg);rw [tb] at this;exact this
structure zk (T:List Int) (first:Int) (b:List UInt8) (st:Int) (x:List UInt8):Prop where
 or:(x.length< 128/\st=0)\/(128<=x.length/\∃ o:Nat,st=first+o/\TT T b o x)
theorem zk.app {T:List Int} {first:Int} {b:List UInt8} {st:Int} {x:List UInt8} (h:zk T first b st x) (c:List UInt8):zk T first (b++c) st x:=⟨by
 rcases h.or with h| ⟨h1,o,h2,h3⟩;exact .inl h
 .exact .inr ⟨h1,o,h2,h3.app c⟩⟩
structure DL (T:List Int) (im:List UInt8) (st:Int) (x:List UInt8) (fs:List (List UInt8)):Prop where
 len:fs.length=x.length / 128
 fr:zm T x fs
 st0:0<=st
 st1:st<=im.length
 at':∃ r,im.drop st.toNat=fs.flatten++r
theorem DL.le {T:List Int} {im:List UInt8} {st:Int} {x:List UInt8} {fs:List (List UInt8)} (h:DL T im st x fs):st+fs.flatten.length<=im.length:=by
 obtain ⟨r,hr⟩:=h.at';have:=congrArg List.length hr;rw [aN,af] at this;have:=h.st0;have:=h.st1;omega
theorem DL.at {T:List Int} {im:List UInt8} {st:Int} {x:List UInt8} {fs:List (List UInt8)} (h:DL T im st x fs) {k:Nat} (hk:k< x.length / 128):En T im (st+fy fs k) (zc (kZ x k)) (st+fy fs (k+1))/\fy fs (k+1)<=fs.flatten.length:=by
 have qP:k< fs.length:=by rw [h.len];exact hk
 have h0:=h.st0;have hl:=h.le;obtain ⟨r,hr⟩:=h.at';have GB:fs.flatten=(fs.take k).flatten++(fs[k]++(fs.drop (k+1)).flatten):=by
  conv=>lhs;rw [<-cv k fs,eU,cg qP,bI]
 have hs:=nW qP;have hle:fy fs (k+1)<=fs.flatten.length:=by
  have:=congrArg List.length GB;simp only [af] at this;rw [hs];unfold fy;omega
 refine ⟨⟨by omega,by omega,fs[k],(fs.drop (k+1)).flatten++r,h.fr.fr k _ (ak qP),?_,by rw [hs];omega⟩,hle⟩;rw [show (st+(fy fs k:Int)).toNat=st.toNat+fy fs k by omega,<-eG,hr,GB,aG,aG];exact eV
theorem UR {x:List UInt8} {off m k:Nat} (ho:off< 128*(k+1)) (hm:128*k - off< m) (hx:128*(k+1)<=x.length):(x.drop off).take (min m (128*k - off))++((kZ x k).drop (off - 128*k)).take (min ((kZ x k).length - (off - 128*k)) (m - (min m (128*k - off))))=(x.drop off).take (min m (128*(k+1) - off)):=by
 have hb:(kZ x k).length=128:=by rw [rb];omega
 rw [hb,Nat.min_eq_right (Nat.le_of_lt hm)];have e:((kZ x k).drop (off - 128*k)).take (min (128 - (off - 128*k)) (m - (128*k - off)))=(x.drop (off+(128*k - off))).take (min (128 - (off - 128*k)) (m - (128*k - off))):=by
  unfold kZ;rw [jk,eG,eF,dK (Nat.le_trans (Nat.min_le_left _ _) (ay _)),show 128*k+(off - 128*k)=off+(128*k - off) by omega]
 rw [e,Mq];congr 1;omega
theorem AD (n:Nat):fQ (n:Int) 128=((n / 128:Nat):Int):=by rw [Int.tdiv_eq_ediv_of_nonneg (by omega)];rfl
theorem gU {e:Ty} {l:List e.den} {k:Nat} (h:k< l.length):aK e l (k:Int)=l[k]:=by
 unfold aK;rw [aU,ba,ak h];rfl
theorem nv:∀ {ls:List Nat} {n:Nat},ls.all (λl=>gn l n)=true->∀ l∈ls,l< n:=λh l hl=>by
 have:=bo.1 h l hl;exact cH this
theorem Mn (M:List (ByteArray×Int)) (k:ByteArray) (v:Int):(Kk.put .str M k v:List (ByteArray×Int)).length<=M.length+1:=by
 show (_::List.filter _ M).length<=_;rw [aq];exact Nat.succ_le_succ (List.length_filter_le _ M)
def nw (row:List UInt8) (bg:List Int) (i:Nat):Int:=(bg[i+1]?).getD row.length
structure AA (row:List UInt8) (bg:List Int):Prop where
 all:∀ (i:Nat) a,bg[i]?=some a->0<=a/\a< nw row bg i/\nw row bg i<=a+128/\nw row bg i<=row.length
theorem AA.nil:AA [] []:=⟨λ_ _ h=>by simp at h⟩
structure oL (row:List UInt8) (bg:List Int) (nu off:Int) (t:List UInt8):Prop where
 or:(t= []/\nu=0/\off=0)\/(0< t.length/\t.length< 128/\0<=off/\∃ (i:Nat) (a:Int),nu=(i:Int)+1/\bg[i]?=some a/\a+off+t.length<=nw row bg i/\(row.drop (a+off).toNat).take t.length=t)
theorem SZ {row:List UInt8} {bg:List Int} {i:Nat} (h:i+1< bg.length) (lB:List UInt8) (c:List Int):nw lB (bg++c) i=nw row bg i:=by
 unfold nw;rw [aV h,ak h];rfl
theorem nT {row:List UInt8} {bg:List Int} {i:Nat} (h:bg.length=i+1):nw row bg i=row.length:=by
 unfold nw;rw [dx (by omega)];rfl
theorem AA.more {row t:List UInt8} {bg:List Int} {n:Nat} {a:Int} (h:AA row bg) (hn:bg.length=n+1) (ha:bg[n]?=some a) (ht:0< t.length) (ht2:t.length< 128) (hl:(row.length:Int) - a+t.length<=128):AA (row++t) bg/\oL (row++t) bg ((n:Int)+1) ((row.length:Int) - a) t/\∀ nu off u,oL row bg nu off u->oL (row++t) bg nu off u:=by
 have key:∀ (i:Nat) b,bg[i]?=some b->nw (row++t) bg i=(if i=n then ((row++t).length:Int) else nw row bg i):=λi b hi=>by
  have eK:=(au.1 hi).1;split
  .rename_i e;subst e;exact nT hn
  .have:=SZ (row:=row) (bg:=bg) (i:=i) (by omega) (row++t) [];rw [aW] at this;exact this
 have hn0:=h.all n a ha;rw [nT hn] at hn0;refine ⟨⟨λi b hi=>?_⟩,⟨.inr ⟨ht,ht2,by omega,n,a,rfl,ha,?_,?_⟩⟩,λnu off u hu=>⟨?_⟩⟩
 .have:=h.all i b hi;rw [key i b hi,af];split
  .rename_i e;subst e;rw [ha] at hi;obtain rfl:=aj hi;omega
  .omega
 .rw [key n a ha,if_pos rfl,af];omega
 .rw [show (a+((row.length:Int) - a)).toNat=row.length by omega,eV,eN]
 .rcases hu.or with hu| ⟨u1,u2,u3,i,b,u4,u5,u6,u7⟩
  .exact .inl hu
  .have hb:=h.all i b u5;refine .inr ⟨u1,u2,u3,i,b,u4,u5,?_,?_⟩
   .rw [key i b u5,af];split
    .omega
    .exact u6
   .rw [da (by omega),lT (by rw [aN];omega)];exact u7
theorem AA.next {row t:List UInt8} {bg:List Int} (h:AA row bg) (ht:0< t.length) (ht2:t.length< 128):AA (row++t) (bg++ [(row.length:Int)])/\oL (row++t) (bg++ [(row.length:Int)]) ((bg.length:Int)+1) 0 t/\∀ nu off u,oL row bg nu off u->oL (row++t) (bg++ [(row.length:Int)]) nu off u:=by
 have key:∀ (i:Nat),i< bg.length->nw (row++t) (bg++ [(row.length:Int)]) i=nw row bg i:=λi hi=>by
  rcases dZ (i+1) bg.length with hl| hl;exact SZ hl _ _
  .have e:bg.length=i+1:=by omega
   rw [nT e];unfold nw;rw [a8 (by omega),show i+1 - bg.length=0 by omega];rfl
 have M5:nw (row++t) (bg++ [(row.length:Int)]) bg.length=(row++t).length:=nT (by simp);have M4:(bg++ [(row.length:Int)])[bg.length]?=some (row.length:Int):=by simp
 refine ⟨⟨λi b hi=>?_⟩,⟨.inr ⟨ht,ht2,bz _,bg.length,row.length,rfl,M4,?_,?_⟩⟩,λnu off u hu=>⟨?_⟩⟩
 .rcases dZ i bg.length with hl| hl
  .rw [aV hl] at hi;have:=h.all i b hi;rw [key i hl,af];omega
  .have eK:=(au.1 hi).1;rw [af,aD] at eK;obtain rfl:i=bg.length:=by omega
   rw [M4] at hi;obtain rfl:=aj hi;rw [M5,af];omega
 .rw [M5,af];omega
 .rw [Int.add_zero,aU,eV,eN]
 .rcases hu.or with hu| ⟨u1,u2,u3,i,b,u4,u5,u6,u7⟩
  .exact .inl hu
  .have hb:=h.all i b u5;have eK:=(au.1 u5).1;refine .inr ⟨u1,u2,u3,i,b,u4,by rw [aV eK];exact u5,by rw [key i eK];exact u6,?_⟩;rw [da (by omega),lT (by rw [aN];omega)];exact u7
def lO (row:List UInt8) (bg:List Int) (n:Nat):List (List UInt8):=(bN n).map λi=>(row.drop ((bg[i]?).getD 0).toNat).take (nw row bg i - (bg[i]?).getD 0).toNat
theorem Qm (row:List UInt8) (bg:List Int) (n:Nat):lO row bg (n+1)=lO row bg n++ [(row.drop ((bg[n]?).getD 0).toNat).take (nw row bg n - (bg[n]?).getD 0).toNat]:=by
 unfold lO;rw [List.range_succ,eQ];rfl
theorem qf (row:List UInt8) (bg:List Int) (n:Nat):(lO row bg n).length=n:=by unfold lO;simp
theorem oL.oP {row t:List UInt8} {bg:List Int} {nu off:Int} (h:oL row bg nu off t) (hf:AA row bg) (ht:0< t.length):0<=off/\∃ (i:Nat) (z:List UInt8),nu=(i:Int)+1/\i< bg.length/\(lO row bg bg.length)[i]?=some z/\0< z.length/\z.length<=128/\off+t.length<=z.length/\(z.drop off.toNat).take t.length=t:=by
 rcases h.or with ⟨rfl,_⟩| ⟨u1,u2,u3,i,b,u4,u5,u6,u7⟩;cases ht;have hb:=hf.all i b u5;have eK:=(au.1 u5).1;have hz:((row.drop b.toNat).take (nw row bg i - b).toNat).length=(nw row bg i - b).toNat:=by rw [aA,aN];omega
 refine ⟨u3,i,_,u4,eK,by unfold lO;rw [ck,nD eK,js,u5],?_,?_,?_,?_⟩;rw [show (some b).getD 0=b from rfl,hz];omega;rw [show (some b).getD 0=b from rfl,hz];omega;rw [show (some b).getD 0=b from rfl,hz];omega
 .rw [show (some b).getD 0=b from rfl,jk,eG,eF,dK (by omega),show b.toNat+off.toNat=(b+off).toNat by omega];exact u7
theorem VN {row:List UInt8} {bg:List Int} (hf:AA row bg):∀ z∈lO row bg bg.length,0< z.length/\z.length<=128:=λz hz=>by
 unfold lO at hz;obtain ⟨i,hi,rfl⟩:=aP.1 hz;have hi:=dd.1 hi;have hb:=hf.all i bg[i] (ak hi);rw [ak hi,Option.getD_some,aA,aN];omega
end Go.Lm

namespace Go.Proofs
open Go Go.Lm Go.RowKit
set_option maxRecDepth 1000000
def ZB:Ct:=cD .u8 λx=>cB λc=>c0 λQ=>c=0/\Q (.c (.d .u8 (x.dropWhile (· ==0)))) []
def aaI:=Qy.add QE
abbrev OZ (y0) (y1:SV->List HO->Prop):=aL (bO y0)->br ((a7 y0)==0) (y1 (.v (.c dL)) []) (y1 (SV.v (S1.c (Cl.d Ty.u8 y0))) [])
def EK (x:(List (Ty.u8).den)) (c:Int):dE:=λQ=>cM x (aF .u8 c->bp (λi ag=>gu i.1.1 (br (decide ((a7 i.1.1)>ah)) (ah<=ah/\ah< (a7 i.1.1)/\(kJ i.1.1 (br ((fM i.1.1)==c) (ah<=bd/\bd<=(a7 i.1.1)/\ag ((List.drop 1 
 i.1.1,()),())) (OZ i.1.1 Q)))) (OZ i.1.1 Q))) ((x,()),()))
theorem Wr:cG 219 ZB:=fz<| lH λx=>okB λc=>iQ λQ h=>by
 refine Wp.lq [some (.sl .u8)] [] ?_;refine Wp.dJ aaI cX ⟨[(2,⟨[(0,.d .u8)],[]⟩)],[]⟩ Tryz.f219 (EK x c) ?_;unfold EK kJ OZ gu bO cM dL fM ah bd a7 aL;obtain ⟨rfl,h⟩:=h;have fin:∀ y:List UInt8,y.dropWhile (· ==0)=x.dropWhile (· ==0)->(y= []\/∃ z r,y=z::r/\z≠0)->y=x.dropWhile (· ==0):=λy h1 h2=>by
  rcases h2 with rfl| ⟨z,r,rfl,hz⟩;exact h1;rw [<-h1,List.dropWhile_cons_of_neg (by simpa using hz)]
 refine λ_ _=>bp.intro (λi=>i.1.1.dropWhile (· ==0)=x.dropWhile (· ==0)) (λi=>i.1.1.length) rfl ?_;rintro ⟨⟨y,_⟩,_⟩ hy;simp only at hy ⊢;refine λ_=>aw (λhc=>?_) (λhc=>λ_=>?_)
 .have hc:(y.length:Int)>0:=of_decide_eq_true hc;cases y with
  | nil=>simp at hc
  | cons z r=>
   refine ⟨by decide,hc,λ_=>aw (λhz=>?_) (λhz=>λ_=>?_)⟩
   .have hz:(z.toNat:Int)=0:=eq_of_beq hz;have hz:z=0:=by
     have:z.toNat=0:=by omega
     exact UInt8.toNat_inj.1 this
    subst hz;exact ⟨by decide,by simp only [aq];omega,hy,by simp⟩
   .have hz:z≠0:=λe=>by subst e;cases hz
    have e:=fin _ hy (.inr ⟨z,r,rfl,hz⟩);refine aw (λq=>?_) (λ_=>⟨ay _,by rw [e];exact h⟩);have:(((z::r).length:Nat):Int)=0:=eq_of_beq q;simp at this;omega
 .have hc:¬(y.length:Int)>0:=of_decide_eq_false hc;obtain rfl:y= []:=aJ (by omega);have e:=fin _ hy (.inl rfl);refine aw (λ_=>⟨ay _,?_⟩) (λq=>by cases q);rw [<-e] at h;exact h
def ad8:Ct:=cD .u8 λx=>cS λs=>c0 λQ=>s=⟨#[0]⟩/\Q (.c (.d .u8 (x.dropWhile (· ==0)))) []
def aaH:=aaI.add Wr
abbrev Cd:=λx=>x==eA
abbrev vc (y0:List (Ty.u8).den):=List.dropWhile Cd y0
def KD (x:(List (Ty.u8).den)) (s:ByteArray):dE:=λQ=>cM x (aL (dr s)->aL (dm x)->br ((aE x)==0) (Q gy []) (br (mJ s iz) (Q (SV.v (S1.c (Cl.d Ty.u8 x))) []) (br ((iO s)==1) (ah<=ah/\ah< (iO s)/\br (decide ((↑(cW (ra 
 s ah)):Int)< bG)) (ah<=ah/\ah< (iO s)/\(↑(cW (ra s ah)):Int)=ah/\(aL (List.length (vc x))->Q (SV.v (S1.c (Cl.d Ty.u8 (vc x)))) [])) False) False)))
theorem abW:cG 174 ad8:=fz<| lH λx=>okS λs=>iQ λQ h=>by
 refine Wp.lq [some (.sl .u8)] [] ?_;refine Wp.dJ aaH cX ⟨[],[]⟩ Tryz.f174 (KD x s) ?_;unfold KD gy vc Cd iz iO dm dr eA cM dL ah bG aE aL;obtain ⟨rfl,h⟩:=h;refine λ_ _ _=>aw (λhc=>⟨ay _,?_⟩) (λ_=>aw (λq=>absurd q (by decide+kernel)) (λ_=>aw (λ_=>⟨by decide,by decide,aw (λ_=>⟨by decide,by decide,by decide+kernel,λ_=>⟨ay _,h⟩⟩) (λq=>absurd q (by decide+kernel))⟩) (λq=>absurd q (by decide+kernel))));have hc:(x.length:Int)=0:=eq_of_beq hc;obtain rfl:x= []:=aJ (by omega);exact h
def aiY:Ct:=cD .u8 λx=>c0 λQ=>Q (.bool (((x.dropWhile (· ==0)).length:Int)==0)) []
def aaG:=aaH.add abW
def Ro (x:(List (Ty.u8).den)):dE:=λQ=>cM x (ByteArray.mk #[(0:UInt8)]=ByteArray.mk #[(0:UInt8)]/\(aL (List.length (vc x))->aL (List.length (vc x))->Q (.v (.c (.k (.bool ((a7 (vc x))==0))))) []))
theorem ag5:cG 128 aiY:=fz<| lH λx=>iQ λQ h=>by
 refine Wp.dJ aaG cX ⟨[],[]⟩ Tryz.f128 (Ro x) ?_;unfold Ro vc Cd eA cM a7 aL;exact λ_=>⟨rfl,λ_ _=>h⟩
def aaa:Ct
 | [.v (.c (.o 0))],[.sl 5 .u8 x],Q=>x.length<=140737488355328/\Q (.c (.d .u8 x)) [.sl 5 .u8 x]
 | _,_,_=>False
def Qx:=aaG.add ag5
def Xs (x:List UInt8):dE:=λQ=>∀ (c:Bool),(c=true->x= [])->br (lE c) (Q gy [.sl 5 Ty.u8 x]) (Ix x Q)
theorem aeM:cG 72 aaa:=by
 intro args H Q h;unfold aaa at h;split at h;rotate_left;cases h;rename_i x;refine Wp.IN (e:=.u8) ?_;refine Wp.dJ Qx cX ⟨[],[]⟩ Tryz.f72 (Xs x) ?_;unfold Xs gy lE Ix cw dL;obtain ⟨hl,h⟩:=h;refine λc hc=>aw (λhb=>.inr (.inl ⟨rfl,?_⟩)) (λhb=>⟨by omega,by omega,.inr (.inr ⟨1,5,x,rfl,ay 1,rfl,h⟩)⟩);rw [hc hb] at h ⊢;exact h
def afG:Ct:=cD .u8 λx=>c0 λQ=>x.length<=140737488355328/\Q (.c (.d .u8 x)) []
def ajl:=Qx.add aeM
def Xt (x:(List (Ty.u8).den)):dE:=λQ=>cM x (zJ x Q)
theorem aky:cG 72 afG:=fz<| lH λx=>iQ λQ h=>by
 refine Wp.IN (e:=.u8) ?_;refine Wp.dJ ajl cX ⟨[],[]⟩ Tryz.f72 (Xt x) ?_;unfold Xt zJ cw cM dL;obtain ⟨hl,h⟩:=h;refine λ_ c hc=>aw (λhb=>.inr (.inl ⟨rfl,?_⟩)) (λhb=>⟨by omega,by omega,.inr (.inr ⟨0,5,x,rfl,ay 0,rfl,h⟩)⟩);rw [hc hb] at h;exact h
def al5:Ct:=λargs H Q=>match H with
 | []=>afG args H Q
 | [_]=>aaa args H Q
 | _=>False
theorem am1:cG 72 al5:=λargs H Q h=>by
 unfold al5 at h;split at h;exact aky _ _ _ h;exact aeM _ _ _ h;cases h
def Tz:Ct:=cT λT=>cI λfi=>c0 λQ=>Q (.c (.p 0 0)) [.cells 157 [.de (.int .u32) T 0 0,.k (.int .i64 fi),.o 2,.m 1],.map 9 .str (.int .i64) [],.sl 5 .u8 []]
def aaF:=Qx.add am1
def Lf (T:List Int) (fi:Int):dE:=λQ=>aF .i64 fi->Q mN [.cells 157 [Cl.de (.int .u32) T ah bD,.k (aC fi),.k eT,Cl.m bJ],HO.map iq Kk.str bF []]
theorem QR:cG 49 Tz:=fz<| okT λT=>nG λfi=>iQ λQ h=>by
 refine (λhh=>Wp.xi (p:=0) (t:=157) (tt:=5) (e:=.u8) hh) ?_;refine Wp.dJ aaF cX ⟨[],[]⟩ Tryz.f49 (Lf T fi) ?_;unfold Lf mN eT aC ah bD bJ iq bF;exact λ_=>⟨[_,_],[_],rfl,h⟩
def Hh:Ct:=cP<| cD .u8 λx=>cO λH Q=>match H with
 | [.cells 157 [.de (.int .u32) T 0 0,.k (.int .i64 fi),.o 1,.m 2],.sl 5 .u8 b,.map 9 .str (.int .i64) M]=>T.length=256/\x.length<=128/\(0<=fi/\fi<=1000000)/\b.length<=100000000/\∀ z,DM T x z->Q (.c (.k (.int .i64 (fi+b.length)))) [.cells 157 [.de (.int .u32) T 0 0,.k (.int .i64 fi),.o 3,.m 2],.gone,.map 9 .str (.int .i64) M,.sl 5 .u8 (b++z)]
 | _=>False
def aaE:=aaF.add QR
abbrev Ik (y0:List UInt8) (y1:List UInt8) (R:Prop):=(List.length y0+List.length y1)*1<=cw/\List.length y0+List.length y1<=9223372036854775807/\R
def Bu (x:(List (Ty.u8).den)) (T:List Int) (fi:Int) (b:List UInt8) (M:(List (ByteArray×Int))):dE:=λQ=>cM x (dO T (List.length x<=128/\∀ (rR:List UInt8),DM T x rR->cY rR (aF .i64 0->cY b (aF .i64 (fi+(aE b))/\Ik b rR (Q (.v (.c (.k (.int .i64 (fi+(aE b)))))) [.cells 157 [Cl.de 
 (.int .u32) T ah bD,.k (aC fi),.o 3,Cl.m bn],.gone,kO M,.sl 5 Ty.u8 (b++rR)])))))
theorem EF:cG 79 Hh:=fz<| rJ<| lH λx=>rK λH Q h=>by
 split at h;rotate_left;cases h;rename_i T fi b M;refine Wp.dJ aaE cX ⟨[],[]⟩ Tryz.f79 (Bu x T fi b M) ?_;unfold Bu Ik cY dO cw cM aC ah aE aL bD bn bK kO;obtain ⟨hT,hx,⟨f0,f1⟩,hb,h⟩:=h;exact λ_=>⟨hT,hx,λz hz _ _ _=>⟨by unfold aF;omega,by have:=hz.len.2;omega,by have:=hz.len.2;omega,h z hz⟩⟩
def NV:Ct:=cP<| cO λH Q=>match H with
 | [.cells 157 [.de (.int .u32) T 0 0,.k (.int .i64 fi),.o 1,.m 2],.sl 5 .u8 b,.map 9 .str (.int .i64) M]=>b.length<=100000000/\Q (.c (.d .u8 b)) [.gone,.gone,.gone]
 | _=>False
def aaD:=aaE.add EF
def Fp (T:List Int) (fi:Int) (b:List UInt8) (M:(List (ByteArray×Int))):dE:=λQ=>List.length b<=140737488355328/\(cY b (Q (SV.v (S1.c (Cl.d Ty.u8 b))) [.cells 157 [Cl.de (.int .u32) T ah bD,.k (aC fi),.o 1,Cl.m bn],.sl 5 Ty.u8 b,kO M]))
theorem Ku:cG 56 NV:=fz<| rJ<| rK λH Q h=>by
 split at h;rotate_left;cases h;rename_i T fi b M;refine Wp.ae6 ?_;refine Wp.dJ aaD cX ⟨[],[]⟩ Tryz.f56 (Fp T fi b M) ?_;unfold Fp cY aC ah aL bD bn kO;obtain ⟨hb,h⟩:=h;exact ⟨by omega,λ_=>h⟩
def aet:Ct:=cD .u8 λim=>cI λst=>cI λsz=>cI λen=>c0 λQ=>im.length<=100000000/\∃ (T:List Int) (x:List UInt8) (fs:List (List UInt8)),DL T im st x fs/\sz=x.length/\x.length<=4096/\st+fs.flatten.length<=en/\Q (.cJ [.c (.k (.int .i64 (st+fs.flatten.length))),.c (.k (.int .i64 0))]) []
def aaC:=aaD.add Ku
def Lh (im:(List (Ty.u8).den)) (st sz en:Int):dE:=λQ=>cM im (cA st sz en (br (cR sz) (Q (.cJ [.c (.k a6),.c (.k (.int .i64 1))]) []) (br (decide (sz>4096)) (Q (.cJ [.c (.k a6),.c (.k (.int .i64 1))]) []) (bG≠ah/\aF .i64 (fQ sz 
 bG)/\bp (λi ag=>br (decide (i.1.1< fQ sz bG)) (∃ p s st nx,gZ im (Cut im i.1.2.1 p s st nx/\(aF .i64 nx->aF .i64 0->br (decide (nx>en)) (Q (.cJ [.c (.k a6),.c (.k (.int .i64 2))]) []) (cL i.1.1 
 (ag ((i.1.1+1,nx,()),())))))) (Q (.cJ [.c (.k (aC i.1.2.1)),.c (.k a6)]) [])) ((ah,st,()),())))))
theorem QT:cG 150 aet:=fz<| lH λim=>nG λst=>nG λsz=>nG λen=>iQ λQ h=>by
 refine Wp.dJ aaC cX ⟨[(5,⟨[(20,.int .i64),(1,.int .i64)],[]⟩)],[]⟩ Tryz.f150 (Lh im st sz en) ?_;unfold Lh gZ cR cL cM a6 cA aC ah bG;obtain ⟨hl,T,x,fs,hI,rfl,hx,hen,h⟩:=h;have h0:=hI.st0;have anV:=hI.le;rw [AD];refine λ_ _ _ _=>aw (λhc=>absurd (of_decide_eq_true hc) (by omega)) (λ_=>aw (λhc=>absurd (of_decide_eq_true hc) (by omega)) (λ_=>⟨by decide,by unfold aF;omega,?_⟩));refine bp.intro (λi=>∃ k:Nat,k<=x.length / 128/\i.1.1=(k:Int)/\i.1.2.1=st+fy fs k) (λi=>x.length / 128 - i.1.1.toNat) ⟨0,cq _,rfl,by unfold fy;simp⟩ ?_;rintro ⟨⟨i,a,_⟩,_⟩ ⟨k,hk,h1,h2⟩;simp only at h1 h2 ⊢;subst h1 h2;refine aw (λhc=>?_) (λhc=>?_)
 .have hc:(k:Int)< ((x.length / 128:Nat):Int):=of_decide_eq_true hc;obtain ⟨hF,hle⟩:=hI.at (k:=k) (by omega);obtain ⟨p,s,t,hC,_⟩:=hF.cut (yS T 0);exact ⟨p,s,t,_,hl,hC,λ_ _=>aw (λhq=>absurd (of_decide_eq_true hq) (by omega)) (λ_=>⟨by unfold aF;omega,⟨k+1,by omega,by omega,rfl⟩,by omega⟩)⟩
 .have hc:¬(k:Int)< ((x.length / 128:Nat):Int):=of_decide_eq_false hc;obtain rfl:k=x.length / 128:=by omega
  rw [<-hI.len,qg];exact h
def Z8:Ct:=cD .u8 λl=>cI λn=>c0 λQ=>1<=n/\Q (.c (.fn 173 [.p 0 0,.p 1 0])) [.cells 35 [.d .u8 l],.cells 3 [.k (.int .i64 n)]]
def TP:=aaC.add QT
def Fx (l:(List (Ty.u8).den)) (n:Int):dE:=λQ=>cM l (aF .i64 n->br (decide (n< 1)) False (Q (SV.v (S1.c (Cl.fn (173:Nat) [.p 0 0,.p 1 0]))) [.cells 35 [Cl.d Ty.u8 l],.cells 3 [.k (aC n)]]))
theorem W2:cG 127 Z8:=fz<| lH λl=>nG λn=>iQ λQ h=>by
 refine Wp.dJ TP cX ⟨[],[]⟩ Tryz.f127 (Fx l n) ?_;unfold Fx cM aC;obtain ⟨hn,h⟩:=h;exact λ_ _=>aw (λhc=>absurd (of_decide_eq_true hc) (by omega)) (λ_=>h)
def AS:Ct
 | [.v (.c (.p 0 0)),.v (.c cx)],[.cells 157 [.de (.int .u32) T 0 0,.k (.int .i64 fi),.o 1,.m 2],.sl 5 .u8 b,.map 9 .str (.int .i64) M],Q=>(match (Ty.sl Ty.u8).of [cx] with
  | some (x,[])=>((T.length=256/\x.length<=4096/\DW fi b M)/\((0<=fi/\fi<=1000000)/\b.length<=10000000/\M.length<=100000))/\∀ st b' M',DW fi b' M'->(∃ c,b'=b++c)->zk T fi b' st x->b'.length<=b.length+4320->M'.length<=M.length+1->Q (.cJ [.c (.k (.int .i64 st)),.c (.d .u8 (x.drop (128*(x.length / 128))))]) [.cells 157 [.de (.int .u32) T 0 0,.k (.int .i64 fi),.o 1,.m 2],.sl 5 .u8 b',.map 9 .str (.int .i64) M']/\Q (.cJ [.c (.k (.int .i64 st)),.c (.d .u8 (x.drop (128*(x.length / 128))))]) [.cells 157 [.de (.int .u32) T 0 0,.k (.int .i64 fi),.o 3,.m 2],.gone,.map 9 .str (.int .i64) M',.sl 5 .u8 b']
  | _=>False)
 | _,_,_=>False
def JT:=TP.add W2
abbrev Mg {A0:Type} (y0:List A0):=ax (fQ (aE y0) bG*128)
abbrev Iq {A1:Type} (y0) (y1:List A1):=List.take gg (List.drop (y0*128) (List.take (Mg y1) y1))
abbrev qB (y0:List (ByteArray×Int)) (y1:List UInt8):=Kk.get Kk.str y0 (fD y1)
abbrev xT {A0:Type} (y0:List A0):=List.drop (Mg y0) y0
def Lg (x:(List (Ty.u8).den)) (T:List Int) (fi:Int) (b:List UInt8) (M:(List (ByteArray×Int))):dE:=λQ=>gu x (aL (bO x)->bG≠ah/\aF .i64 (fQ (aE x) bG)/\aF .i64 (fQ (aE x) bG*128)/\0<=fQ (aE x) bG*128/\fQ (aE x) bG*128<=(aE x)/\bd<= 
 bG/\(bd<=bG/\bG<=(1000000000:Int))/\List.length (List.take (Mg x) x)<=1000000000000/\bp (λi ag=>br (gn (i.1*128) (List.length (List.take (Mg x) x))) (br ((↑(List.length (List.dropWhile Cd 
 (Iq i.1 x))):Int)==0) (dO T (bD<=gg/\∀ (x:List UInt8),DM T [] x->aL (bO x)->Cv i.2.2.1.1 x (ag (i.1+1,(),(i.2.2.1.1++x,()),())))) (dO T (List.length (Iq i.1 x)<=128/\∀ (rR:List UInt8), 
 DM T (Iq i.1 x) rR->cY rR (Cv i.2.2.1.1 rR (ag (i.1+1,(),(i.2.2.1.1++rR,()),())))))) (0<=fQ (aE x) bG*128/\fQ (aE x) bG*128<=(aE x)/\fa (List.length (xT x))/\(aL 
 (List.length (xT x))->aL (bO i.2.2.1.1)->br ((a7 i.2.2.1.1)==0) (Q (.cJ [.c (.k a6),S1.c (Cl.d Ty.u8 (xT x))]) [.cells 157 [Cl.de (.int .u32) T ah bD,.k (aC fi),.o 1,Cl.m bn],.sl 5 Ty.u8 b,kO M]) 
 (Ty.ok bF (gd (qB M i.2.2.1.1) ah)->br (!Option.isSome (qB M i.2.2.1.1)) (cY b (aF .i64 (fi+(aE b))/\List.length M< 9223372036854775807/\Ik b i.2.2.1.1 (Q (.cJ [.c (.k (.int .i64 (fi+(aE b)))), 
 S1.c (Cl.d Ty.u8 (xT x))]) [.cells 157 [Cl.de (.int .u32) T ah bD,.k (aC fi),.o 3,Cl.m bn],.gone,kO (Kk.put Kk.str M (fD i.2.2.1.1) (fi+(aE b))),.sl 5 Ty.u8 (b++i.2.2.1.1)]))) (Q (.cJ [.c (.k (.int .i64 
 (gd (qB M i.2.2.1.1) ah))),S1.c (Cl.d Ty.u8 (xT x))]) [.cells 157 [Cl.de (.int .u32) T ah bD,.k (aC fi),.o 1,Cl.m bn],.sl 5 Ty.u8 b,kO M]))))) (bD,(),([],()),()))
theorem QS:cG 76 AS:=by
 intro args H Q h;unfold AS at h;split at h;rotate_left;cases h;rename_i cx T fi b M;split at h;rotate_left;cases h;rename_i x hx;refine Wp.said (args':=[.v (.c (.p 0 0)),.c (.d Ty.u8 x)]) (λE g=>bC.cE (λ_ h=>h) (bC.cE (dI hx) (λ_ h=>h))) ?_;clear hx;refine Wp.P1 (X:=JT.v cX (chk:=ad3)) JT.ok ⟨[(5,⟨[],[(4,.cells 35 [.own 5 .u8])]⟩)],[]⟩ (fn:=Tryz.f76) (V:=Lg x T fi b M) (by kernel_rfl) (λ_=>by kernel_rfl) ?_ (hch:=Tb);unfold Lg xT Cd Ik qB Iq cY Cv dO Mg gu bO eA cw a6 aC ah bd bG a7 aE fa aL bD gg bn bK kO bF;obtain ⟨⟨⟨hT,hx,hD⟩,⟨f0,f1⟩,hb,hM⟩,h⟩:=h;obtain ⟨c,hc⟩:∃ c,x.length / 128=c:=⟨_,rfl⟩;have hcx:128*c<=x.length/\x.length< 128*c+128:=by omega
 rw [AD,hc];rw [hc] at h;have hn:(((c:Nat):Int)*128).toNat=128*c:=by omega
 have ht:(x.take (128*c)).length=128*c:=by rw [aA];omega
 rw [hn,ht];refine λ_ _=>⟨by decide,by unfold aF;omega,by unfold aF;omega,by omega,by omega,by decide,⟨by decide,by decide⟩,by omega,?_⟩;refine bp.intro (λi=>i.1<=c/\∃ fs,fs.length=i.1/\zm T x fs/\i.2.2.1.1=fs.flatten) (λi=>c - i.1) ⟨cq _,[],rfl,zm.nil T x,rfl⟩ ?_;rintro ⟨k,_,⟨run,_⟩,_⟩ ⟨hk,fs,h1,h2,h3⟩;simp only at hk h1 h3 ⊢;subst h3;have hlen:=h2.len;refine aw (λhq=>?_) (λhq=>?_)
 .have Vm:k< c:=by have:=cH hq;omega
  have hblk:((x.take (128*c)).drop (k*128)).take 128=kZ x k:=by
   rw [Nat.mul_comm k 128];exact VP Vm
  rw [hblk];have step:∀ z,DM T (zc (kZ x k)) z->k+1<=c/\∃ gs,gs.length=k+1/\zm T x gs/\fs.flatten++z=gs.flatten:=λz hz=>⟨Vm,fs++ [z],by simp [h1],h2.step (by rw [h1];exact hz),by simp⟩;refine aw (λhh=>⟨hT,by decide,λz hz _ _=>?_⟩) (λhh=>⟨hT,by rw [rb];omega,λz hz _ _=>?_⟩)
  .have e:=aad hh;have Of:=hz.len.2;rw [aM] at Of;exact ⟨by omega,by omega,step z (by rw [e];exact hz),by omega⟩
  .have e:=aae hh;have Of:=hz.len.2;rw [rb] at Of;exact ⟨by omega,by omega,step z (by rw [e];exact hz),by omega⟩
 .have Vm:c<=k:=by
   rcases dZ k c with z| z
   .have:gn (k*128) (128*c)=true:=Nat.ble_eq_true_of_le (by omega);rw [this] at hq;cases hq
   .exact z
  obtain rfl:k=c:=by omega
  refine ⟨by omega,by omega,by rw [aN];omega,λ_ _=>aw (λhz=>?_) (λhz=>λ_=>aw (λhg=>?_) (λhg=>?_))⟩
  .have hz:(fs.flatten.length:Int)=0:=eq_of_beq hz;exact (h 0 b M hD ⟨[],by simp⟩ ⟨.inl ⟨by omega,rfl⟩⟩ (by omega) (by omega)).1
  .have hz:¬(fs.flatten.length:Int)=0:=by simpa using hz
   have Au:=Mn M (fD fs.flatten) (fi+(b.length:Int));exact λ_=>⟨by unfold aF;omega,by omega,by omega,by omega,(h _ _ _ hD.put ⟨_,rfl⟩ ⟨.inr ⟨by omega,b.length,rfl,fs,[],by omega,h2,by rw [eV,aW],by rw [af];omega⟩⟩ (by rw [af];omega) Au).2⟩
  .have hz:¬(fs.flatten.length:Int)=0:=by simpa using hz
   obtain ⟨v,hv⟩:=lR.1 (show (Kk.get .str M (fD fs.flatten)).isSome=true by simpa using hg);rw [hv];obtain ⟨o,ho,r,hr,hle⟩:=hD.get hv;exact (h v b M hD ⟨[],by simp⟩ ⟨.inr ⟨by omega,o,ho,fs,r,by omega,h2,hr,hle⟩⟩ (by omega) (by omega)).1
def NW:Ct
 | [.v (.c (.p 0 0)),.v (.c cx)],[.abs a],Q=>(match (Ty.sl Ty.u8).of [cx] with
  | some (x,[])=>∃ T fi b M,a=jM [.cells 157 [.de (.int .u32) T 0 0,.k (.int .i64 fi),.o 1,.m 2],.sl 5 .u8 b,.map 9 .str (.int .i64) M]/\((T.length=256/\x.length<=4096/\DW fi b M)/\((0<=fi/\fi<=1000000)/\b.length<=10000000/\M.length<=100000))/\∀ st b' M',DW fi b' M'->(∃ c,b'=b++c)->zk T fi b' st x->b'.length<=b.length+4320->M'.length<=M.length+1->Q (.cJ [.c (.k (.int .i64 st)),.c (.d .u8 (x.drop (128*(x.length / 128))))]) [.abs (jM [.cells 157 [.de (.int .u32) T 0 0,.k (.int .i64 fi),.o 1,.m 2],.sl 5 .u8 b',.map 9 .str (.int .i64) M'])]
  | _=>False)
 | _,_,_=>False
theorem Kv:cG 76 NW:=by
 intro args H Q h;unfold NW at h;split at h;rotate_left;cases h;rename_i Q cx a;split at h;rotate_left;cases h;rename_i x hx;obtain ⟨T,fi,b,M,rfl,h0,h⟩:=h;refine Wp.sel (Wp.Zd (Wp.Yk (p:=0) (L:=[.cells 157 [.de (.int .u32) T 0 0,.k (.int .i64 fi),.o 1,.m 2],.sl 5 .u8 b,.map 9 .str (.int .i64) M]) rfl (gJ _) (QS _ _ _ ?_)));show AS _ [.cells 157 [.de (.int .u32) T 0 0,.k (.int .i64 fi),.o 1,.m 2],.sl 5 .u8 b,.map 9 .str (.int .i64) M] _;unfold AS;simp only [hx];refine ⟨h0,λst b' M' h1 h2 h3 h4 h5=>?_⟩;have h6:=h st b' M' h1 h2 h3 h4 h5;exact ⟨⟨0,[1,2],by decide,nv rfl,[0],rfl,by decide,nv rfl,h6⟩,⟨0,[3,2],by decide,nv rfl,[0],rfl,by decide,nv rfl,h6⟩⟩
def aeu:Ct:=cT λT=>cD .u8 λim=>cI λst=>cI λsz=>cI λoff=>cI λn=>c0 λQ=>T.length=256/\im.length<=100000000/\∃ x fs,DL T im st x fs/\sz=x.length/\x.length<=4096/\0<=off/\(0<=n/\n<=4096)/\Q (.cJ [.c (.o 0),.c (.k (.int .i64 0))]) [.sl 5 .u8 (((x.take (128*(x.length / 128))).drop off.toNat).take n.toNat)]
def TO:=(JT.add QS).add Kv
abbrev B6 (y0:Int) (y1):=List.drop (ax (max ah (y0 - y1))) (av gg (0:Ty.den Ty.u8))
abbrev aeV {A3 A7:Type} (y0:Int) (y1) (y2) (y3:List A3) (y4:Int) (y5:Int) (y6:_->Prop) (y7:A7):=aL (List.length (List.drop (ax (max ah (y0 - y1))) y2))->aL (List.length y3)->aF .i64 (min y4 (fQ y5 bG*128 - y0) - (a7 y3))/\0<=min (a7 (List.drop (ax (max ah (y0 - y1))) y2)) (min y4 (fQ y5 bG*128 - y0) - (a7 y3))/\min (a7 (List.drop (ax (max ah (y0 - y1))) y2)) (min y4 (fQ y5 bG*128 - y0) - (a7 y3))<=(a7 (List.drop (ax (max ah (y0 - y1))) y2))/\(List.length y3+List.length (List.take (ax (min (a7 (List.drop (ax (max ah (y0 - y1))) y2)) (min y4 (fQ y5 bG*128 - y0) - (a7 y3)))) (List.drop (ax (max ah (y0 - y1))) y2)))*1<=(140737488355328:Nat)/\List.length y3+List.length (List.take (ax (min (a7 (List.drop (ax (max ah (y0 - y1))) y2)) (min y4 (fQ y5 bG*128 - y0) - (a7 y3)))) (List.drop (ax (max ah (y0 - y1))) y2))<=9223372036854775807/\aF .i64 (y1+128)/\y6 ((y3++List.take (ax (min (a7 (List.drop (ax (max ah (y0 - y1))) y2)) (min y4 (fQ y5 bG*128 - y0) - (a7 y3)))) (List.drop (ax (max ah (y0 - y1))) y2),y1+128,y7,()),())
abbrev X6 {A7:Type} (y0) (y1:Int) (y2) (y3) (y4:Int) (y5:Int) (y6:_->Prop) (y7:A7):=aL (List.length y0)->br ((aE y0)==0) (bG=bG/\ah<=bG/\bG<=(140737488355328:Int)/\aF .i64 (y1 - y2)/\0<=max ah (y1 - y2)/\max ah (y1 - y2)<=(↑gg:Int)/\(aL (List.length (B6 y1 y2))->aL (List.length y3)->aF .i64 (min y4 (fQ y5 bG*128 - y1) - (a7 y3))/\0<=min (a7 (B6 y1 y2)) (min y4 (fQ y5 bG*128 - y1) - (a7 y3))/\min (a7 (B6 y1 y2)) (min y4 (fQ y5 bG*128 - y1) - (a7 y3))<=(a7 (B6 y1 y2))/\(List.length y3+List.length (List.take (ax (min (a7 (B6 y1 y2)) (min y4 (fQ y5 bG*128 - y1) - (a7 y3)))) (B6 y1 y2)))*1<=(140737488355328:Nat)/\List.length y3+List.length (List.take (ax (min (a7 (B6 y1 y2)) (min y4 (fQ y5 bG*128 - y1) - (a7 y3)))) (B6 y1 y2))<=9223372036854775807/\aF .i64 (y2+128)/\y6 ((y3++List.take (ax (min (a7 (B6 y1 y2)) (min y4 (fQ y5 bG*128 - y1) - (a7 y3)))) (B6 y1 y2),y2+128,y7,()),()))) (aF .i64 (y1 - y2)/\0<=max ah (y1 - y2)/\max ah (y1 - y2)<=(aE y0)/\(aeV y1 y2 y0 y3 y4 y5 y6 y7))
abbrev sB (y0:SV->List HO->Prop):=y0 (.cJ [.c dL,.c (.k (.int .i64 35))]) []
abbrev Il (y0:Int) (R:Prop):=bG≠ah/\aF .i64 (fQ y0 bG)/\aF .i64 (fQ y0 bG*128)/\R
def Li (T:List Int) (im:(List (Ty.u8).den)) (st sz off n:Int):dE:=λQ=>cM im (cA st sz off (aF .i64 n->br (cR sz) (Q kj []) (br (cR off) (Q kj []) (br (cR n) (Q kj []) (br (decide (sz>4096)) (Q kj []) (Il sz (br (decide (off≥fQ sz bG 
 *128)) (Q (.cJ [.c dL,.c (.k a6)]) []) (aF .i64 (fQ sz bG*128 - off)/\bp (λi ag=>gu i.1.1 (br (decide ((a7 i.1.1)< min n (fQ sz bG*128 - off))) (aF .i64 (i.1.2.1+128)/\br (decide 
 (i.1.2.1+128<=off)) (∃ p s st nx,gZ im (Cut im i.1.2.2.1 p s st nx/\(aF .i64 nx->aF .i64 0->aF .i64 (i.1.2.1+128)/\ag ((i.1.1,i.1.2.1+128,nx,()),())))) (dO T (gZ im (∃ z nx e,FrE T im i.1.2.2.1 z nx e/\(aL 
 (bO z)->cj nx e (br (e !=0) (sB Q) (aL (bO z)->br ((aE z) !=0) (aL (bO z)->br ((aE z) !=128) (sB Q) (X6 z off i.1.2.1 i.1.1 n sz ag nx)) (X6 z off i.1.2.1 i.1.1 n sz ag nx)))))))) (Q nr [.sl 5 
 Ty.u8 i.1.1]))) (([],ah,st,()),())))))))))
theorem QU:cG 32 aeu:=fz<| okT λT=>lH λim=>nG λst=>nG λsz=>nG λoff=>nG λn=>iQ λQ h=>by
 refine (λhh=>Wp.sel (Wp.ac4 (t:=5) (e:=.u8) hh)) ?_;refine Wp.dJ TO cX ⟨[(10,⟨[(15,.own 5 .u8),(16,.int .i64),(2,.int .i64)],[]⟩)],[]⟩ Tryz.f32 (Li T im st sz off n) (mkd:=true) ?_;unfold Li Il gZ nr sB cj cR dO gu kj bO cM dL a6 cA X6 aeV B6 ah bG a7 aE aL gg bK;obtain ⟨hT,hl,x,fs,hI,rfl,hx,o0,⟨n0,n1⟩,h⟩:=h;obtain ⟨o,rfl⟩:∃ o:Nat,off=(o:Int):=⟨off.toNat,by omega⟩;obtain ⟨q,rfl⟩:∃ q:Nat,n=(q:Int):=⟨n.toNat,by omega⟩;obtain ⟨c,hc⟩:∃ c,x.length / 128=c:=⟨_,rfl⟩;have hcx:128*c<=x.length/\x.length< 128*c+128:=by omega
 have anV:=hI.le;have hs0:=hI.st0;rw [AD,hc];rw [hc] at h;simp only [aU] at h;refine λ_ _ _ _ _=>aw (λhq=>absurd (of_decide_eq_true hq) (by omega)) (λ_=>aw (λhq=>absurd (of_decide_eq_true hq) (by omega)) (λ_=>aw (λhq=>absurd (of_decide_eq_true hq) (by omega)) (λ_=>aw (λhq=>absurd (of_decide_eq_true hq) (by omega)) (λ_=>⟨by decide,by unfold aF;omega,by unfold aF;omega,aw (λhq=>?_) (λhq=>⟨by have:=of_decide_eq_false hq;unfold aF;omega,?_⟩)⟩))))
 .have hq:(o:Int)≥(c:Int)*128:=of_decide_eq_true hq;rw [j4 (by rw [aA];omega),List.take_nil] at h;exact .inr ⟨0,rfl,[0],rfl,by decide,nv rfl,h⟩
 have hq:¬(o:Int)≥(c:Int)*128:=of_decide_eq_false hq;obtain ⟨m,hm⟩:∃ m:Nat,min (q:Int) ((c:Int)*128 - o)=(m:Int):=⟨min q (128*c - o),by omega⟩;rw [hm];have e:((x.take (128*c)).drop o).take q=(x.drop o).take m:=by rw [jk,eF];congr 1;omega
 rw [e] at h;refine bp.intro (λi=>∃ k:Nat,k<=c/\i.1.2.1=((128*k:Nat):Int)/\i.1.2.2.1=st+fy fs k/\i.1.1=(x.drop o).take (min m (128*k - o))) (λi=>c - (i.1.2.1 / 128).toNat) ⟨0,cq _,rfl,by unfold fy;simp,by simp⟩ ?_;rintro ⟨⟨out,fi,a,_⟩,_⟩ ⟨k,hk,h1,h2,h3⟩;simp only at h1 h2 h3 ⊢;subst h1 h2 h3;have qk:((x.drop o).take (min m (128*k - o))).length=min m (128*k - o):=by rw [aA,aN];omega
 rw [qk];refine λ_=>aw (λhd=>?_) (λhd=>?_)
 .have hd:((min m (128*k - o):Nat):Int)< m:=of_decide_eq_true hd;have Vm:k< c:=by omega
  obtain ⟨hF,hle⟩:=hI.at (k:=k) (by omega);refine ⟨by unfold aF;omega,aw (λhe=>?_) (λhe=>?_)⟩
  .have he:((128*k:Nat):Int)+128<=o:=of_decide_eq_true he;obtain ⟨p,s,t,hC,_⟩:=hF.cut (yS T 0);exact ⟨p,s,t,_,hl,hC,λ_ _=>⟨by unfold aF;omega,⟨k+1,Vm,by omega,rfl,by rw [show min m (128*k - o)=0 by omega,show min m (128*(k+1) - o)=0 by omega]⟩,by omega⟩⟩
  .have he:¬((128*k:Nat):Int)+128<=o:=of_decide_eq_false he;have hb:(kZ x k).length=128:=by rw [rb];omega
   have mx:max (0:Int) ((o:Int) - ((128*k:Nat):Int))=((o - 128*k:Nat):Int):=by omega
   have hdl:((kZ x k).drop (o - 128*k)).length=128 - (o - 128*k):=by rw [aN,hb]
   have mn:min (((128 - (o - 128*k):Nat)):Int) ((m:Int) - ((min m (128*k - o):Nat):Int))=((min (128 - (o - 128*k)) (m - min m (128*k - o)):Nat):Int):=by omega
   have fin:=UR (x:=x) (off:=o) (m:=m) (k:=k) (by omega) (by omega) (by omega);rw [hb] at fin;refine ⟨hT,hl,_,_,0,⟨.inr ⟨rfl,hF⟩⟩,λ_ _ _=>aw (λhq=>by cases hq) (λ_=>?_)⟩;rcases VO (b:=kZ x k) with ⟨e1,e2⟩| e1
   .rw [hb] at e2;rw [e1];refine λ_=>aw (λhq=>by cases hq) (λ_=>λ_=>aw (λ_=>⟨by trivial,by decide,by decide,?_⟩) (λhq=>by cases hq));have e3:av 128 (0:Ty.den Ty.u8)=kZ x k:=e2.symm;rw [e3];rw [mx,aU];rw [hdl];rw [mn,aU];refine ⟨by unfold aF;omega,by omega,by omega,λ_ _=>⟨by unfold aF;omega,by omega,by omega,?_,?_,by unfold aF;omega,⟨k+1,by omega,by omega,rfl,fin⟩,by omega⟩⟩
    .rw [aA,hdl];omega
    .rw [aA,hdl];omega
   .rw [e1];have hbi:((kZ x k).length:Int)=128:=by omega
    rw [hbi];refine λ_=>aw (λ_=>λ_=>aw (λhq=>by cases hq) (λ_=>λ_=>aw (λhq=>by cases hq) (λ_=>?_))) (λhq=>by cases hq);rw [mx,aU];rw [hdl];rw [mn,aU];refine ⟨by unfold aF;omega,by omega,by omega,λ_ _=>⟨by unfold aF;omega,by omega,by omega,?_,?_,by unfold aF;omega,⟨k+1,by omega,by omega,rfl,fin⟩,by omega⟩⟩;rw [aA,hdl];omega;rw [aA,hdl];omega
 .have hd:¬((min m (128*k - o):Nat):Int)< m:=of_decide_eq_false hd;rw [show min m (128*k - o)=m by omega];exact .inl ⟨[0],rfl,by decide,nv rfl,h⟩
def Z2:Ct:=λargs H Q=>Tz args H (uq 0 [2,1] [0] H.length Q)
theorem Kt:cG 49 Z2:=λargs H Q h=>Wp.Yv (QR _ _ _ h)
def Dv:Ct
 | .v (.c (.p 0 0))::vs,[.abs a],Q=>∃ (T:List Int) (fi:Int) (b:List UInt8) (M:List (ByteArray×Int)),a=jM [.cells 157 [.de (.int .u32) T 0 0,.k (.int .i64 fi),.o 1,.m 2],.sl 5 .u8 b,.map 9 .str (.int .i64) M]/\Hh (.v (.c (.p 0 0))::vs) [.cells 157 [.de (.int .u32) T 0 0,.k (.int .i64 fi),.o 1,.m 2],.sl 5 .u8 b,.map 9 .str (.int .i64) M] (uq 0 [3,2] [0] 1 Q)
 | _,_,_=>False
theorem Ba:cG 79 Dv:=λargs H Q h=>by
 unfold Dv at h;split at h
 .obtain ⟨T,fi,b,M,rfl,h⟩:=h;exact Wp.Ek (q:=0) (L:=[.cells 157 [.de (.int .u32) T 0 0,.k (.int .i64 fi),.o 1,.m 2],.sl 5 .u8 b,.map 9 .str (.int .i64) M]) rfl (gJ _) (EF _ _ _ h)
 .cases h
def Hi:Ct
 | .v (.c (.p 0 0))::vs,[.abs a],Q=>∃ (T:List Int) (fi:Int) (b:List UInt8) (M:List (ByteArray×Int)),a=jM [.cells 157 [.de (.int .u32) T 0 0,.k (.int .i64 fi),.o 1,.m 2],.sl 5 .u8 b,.map 9 .str (.int .i64) M]/\NV (.v (.c (.p 0 0))::vs) [.cells 157 [.de (.int .u32) T 0 0,.k (.int .i64 fi),.o 1,.m 2],.sl 5 .u8 b,.map 9 .str (.int .i64) M] (uq 0 [1,2] [0] 1 Q)
 | _,_,_=>False
theorem EG:cG 56 Hi:=λargs H Q h=>by
 unfold Hi at h;split at h
 .obtain ⟨T,fi,b,M,rfl,h⟩:=h;exact Wp.Ek (q:=0) (L:=[.cells 157 [.de (.int .u32) T 0 0,.k (.int .i64 fi),.o 1,.m 2],.sl 5 .u8 b,.map 9 .str (.int .i64) M]) rfl (gJ _) (Ku _ _ _ h)
 .cases h
def Tv:Ct:=c0 λQ=>Q (.c (.p 0 0)) [.cells 213 [.o 1,.o 2],.sl 5 .u8 [],.sl 3 (.int .i64) []]
def TN:=(((TO.add QU).add Kt).add Ba).add EG
def La:dE:=
 λQ=>Q mN [.cells 213 [.k eT,.k eT]]
theorem QO:cG 75 Tv:=fz<| iQ λQ h=>by
 refine (λhh=>Wp.xi (p:=0) (t:=213) (tt:=3) (e:=.int .i64) (Wp.xi (p:=0) (t:=213) (tt:=5) (e:=.u8) hh)) ?_;refine Wp.dJ TN cX ⟨[],[]⟩ Tryz.f75 La ?_;unfold La mN eT;exact ⟨[],[_],rfl,[_],[],rfl,h⟩
def AR:Ct
 | [.v (.c (.p 0 0)),.v (.c cx)],[.cells 213 [.o 1,.o 2],.sl 5 .u8 row,.sl 3 (.int .i64) bg],Q=>(match (Ty.sl Ty.u8).of [cx] with
  | some (x,[])=>(AA row bg/\row.length<=10000000/\bg.length<=100000/\x.length< 128)/\∀ nu off lB zd,AA lB zd->oL lB zd nu off x->(∀ nu off u,oL row bg nu off u->oL lB zd nu off u)->lB.length<=row.length+128->zd.length<=bg.length+1->Q (.cJ [.c (.k (.int .i64 nu)),.c (.k (.int .i64 off))]) [.cells 213 [.o 1,.o 2],.sl 5 .u8 lB,.sl 3 (.int .i64) zd]/\Q (.cJ [.c (.k (.int .i64 nu)),.c (.k (.int .i64 off))]) [.cells 213 [.o 3,.o 4],.gone,.gone,.sl 5 .u8 lB,.sl 3 (.int .i64) zd]/\Q (.cJ [.c (.k (.int .i64 nu)),.c (.k (.int .i64 off))]) [.cells 213 [.o 3,.o 2],.gone,.sl 3 (.int .i64) zd,.sl 5 .u8 lB]
  | _=>False)
 | _,_,_=>False
def TM:=TN.add QO
abbrev X5 (y0:List UInt8) (y1:List Int) (y2:List (Ty.u8).den) (y3:SV->List HO->Prop):=aL (List.length y0)->(List.length y1+List.length [(aE y0)])*8<=(140737488355328:Nat)/\List.length y1+List.length [(aE y0)]<=9223372036854775807/\aF .i64 ((aE y1)+1)/\(aL (List.length y0)->aF .i64 ((aE y1)+1 - 1)/\ah<=(aE y1)+1 - 1/\(aE y1)+1 - 1< (a7 (y1++ [(aE y0)]))/\ah<=(aE y1)+1 - 1/\(aE y1)+1 - 1< (a7 (y1++ [(aE y0)]))/\(Ty.ok bF (aK bF (y1++ [(aE y0)]) ((aE y1)+1 - 1))->aF .i64 ((aE y0) - aK bF (y1++ [(aE y0)]) ((aE y1)+1 - 1))/\(List.length y0+List.length y2)*1<=(140737488355328:Nat)/\List.length y0+List.length y2<=9223372036854775807/\y3 (.cJ [.c (.k (.int .i64 ((aE y1)+1))),.c (.k (.int .i64 ((aE y0) - aK bF (y1++ [(aE y0)]) ((aE y1)+1 - 1))))]) [.cells 213 [.o 3,.o 4],.gone,.gone,.sl 5 Ty.u8 (y0++y2),.sl 3 bF (y1++ [(aE y0)])]))
def Lb (x:(List (Ty.u8).den)) (row:List UInt8) (bg:List Int):dE:=λQ=>cM x (aL (dm x)->br (decide ((aE x)< bd)) (Q yi [.cells 213 [.o 1,.o 2],.sl 5 Ty.u8 row,.sl 3 bF bg]) (aL (dm x)->br (decide ((aE x)≥bG)) (Q yi [.cells 213 [.o 1,.o 2],.sl 5 
 Ty.u8 row,.sl 3 bF bg]) (aL (List.length bg)->br ((aE bg)==0) (X5 row bg x Q) (cY row (aF .i64 ((aE bg) - 1)/\ah<=(aE bg) - 1/\(aE bg) - 1< (aE bg)/\ah<=(aE bg) - 1/\(aE bg) - 1< (aE bg)/\ 
 (Ty.ok bF (aK bF bg ((aE bg) - 1))->aF .i64 ((aE row) - aK bF bg ((aE bg) - 1))/\(aL (dm x)->aF .i64 ((aE row) - aK bF bg ((aE bg) - 1)+(aE x))/\br (decide ((aE row) - aK bF bg ((aE bg) - 1)+ 
 (aE x)>bG)) (X5 row bg x Q) (cY row (aF .i64 ((aE bg) - 1)/\ah<=(aE bg) - 1/\(aE bg) - 1< (aE bg)/\ah<=(aE bg) - 1/\(aE bg) - 1< (aE bg)/\(Ty.ok bF (aK bF bg ((aE bg) - 1))->aF .i64 
 ((aE row) - aK bF bg ((aE bg) - 1))/\yp row x (Q (.cJ [.c (.k (.int .i64 (aE bg))),.c (.k (.int .i64 ((aE row) - aK bF bg ((aE bg) - 1))))]) [.cells 213 [.o 3,.o 2],.gone,.sl 3 bF bg,.sl 5 Ty.u8 (row++ 
 x)])))))))))))
theorem QP:cG 77 AR:=by
 intro args H Q h;unfold AR at h;split at h;rotate_left;cases h;rename_i cx row bg;split at h;rotate_left;cases h;rename_i x hx;refine Wp.said (args':=[.v (.c (.p 0 0)),.c (.d Ty.u8 x)]) (λE g=>bC.cE (λ_ h=>h) (bC.cE (dI hx) (λ_ h=>h))) ?_;clear hx;refine Wp.dJ TM cX ⟨[],[]⟩ Tryz.f77 (Lb x row bg) ?_;unfold Lb yi dm yp cY cw cM X5 a6 ah bd bG a7 aE aL bF;obtain ⟨⟨hF,hr,hb,hx⟩,h⟩:=h;refine λ_ _=>aw (λhc=>?_) (λhc=>λ_=>aw (λhd=>absurd (of_decide_eq_true hd) (by omega)) (λ_=>λ_=>?_))
 .have hc:(x.length:Int)< 1:=of_decide_eq_true hc;obtain rfl:x= []:=aJ (by omega);exact (h 0 0 row bg hF ⟨.inl ⟨rfl,rfl,rfl⟩⟩ (λ_ _ _ q=>q) (by omega) (by omega)).1
 have hc:¬(x.length:Int)< 1:=of_decide_eq_false hc;obtain ⟨m1,m2,m3⟩:=hF.next (t:=x) (by omega) hx
 have uj:=(h _ _ _ _ m1 m2 m3 (by rw [af];omega) (by simp)).2.1;have e1:(bg++ [(row.length:Int)]).length=bg.length+1:=by simp
 have e2:aK (.int .i64) (bg++ [(row.length:Int)]) ((bg.length:Int)+1 - 1)=row.length:=by
  rw [show (bg.length:Int)+1 - 1=bg.length by omega,gU (by rw [e1];omega)];simp
 have go:(List.length bg+List.length [(row.length:Int)])*8<=140737488355328/\List.length bg+List.length [(row.length:Int)]<=9223372036854775807/\aF .i64 ((bg.length:Int)+1):=⟨by simp only [aD];omega,by simp only [aD];omega,by unfold aF;omega⟩;refine aw (λhz=>λ_=>⟨go.1,go.2.1,go.2.2,λ_=>?_⟩) (λhz=>λ_=>?_)
 .rw [e2,e1];exact ⟨by unfold aF;omega,by omega,by omega,by omega,by omega,λ_=>⟨by unfold aF;omega,by omega,by omega,by rw [Int.sub_self];exact uj⟩⟩
 have hz:¬(bg.length:Int)=0:=by simpa using hz
 obtain ⟨n,hn⟩:∃ n,bg.length=n+1:=⟨bg.length - 1,by omega⟩;have hg:=ak (show n< bg.length by omega);have hl:=hF.all n bg[n] hg;rw [nT hn] at hl;have e3:aK (.int .i64) bg ((bg.length:Int) - 1)=bg[n]:=by
  rw [show (bg.length:Int) - 1=(n:Nat) by omega,gU (by omega)]
 rw [e3];refine ⟨by unfold aF;omega,by omega,by omega,by omega,by omega,λ_=>⟨by unfold aF;omega,λ_=>⟨by unfold aF;omega,aw (λhd=>λ_=>⟨go.1,go.2.1,go.2.2,λ_=>?_⟩) (λhd=>λ_=>?_)⟩⟩⟩
 .rw [e2,e1];exact ⟨by unfold aF;omega,by omega,by omega,by omega,by omega,λ_=>⟨by unfold aF;omega,by omega,by omega,by rw [Int.sub_self];exact uj⟩⟩
 .have hd:¬(row.length:Int) - bg[n]+x.length>128:=of_decide_eq_false hd;obtain ⟨k1,k2,k3⟩:=hF.more (t:=x) hn hg (by omega) hx (by omega);have hold:=(h _ _ _ _ k1 k2 k3 (by rw [af];omega) (by omega)).2.2;rw [show (n:Int)+1=bg.length by omega] at hold;exact ⟨by unfold aF;omega,by omega,by omega,by omega,by omega,λ_=>⟨by unfold aF;omega,by omega,by omega,hold⟩⟩
def Du:Ct:=cP<| cO λH Q=>match H with
 | [.cells 213 [.o 1,.o 2],.sl 5 .u8 row,.sl 3 (.int .i64) bg]=>(AA row bg/\row.length<=10000000/\bg.length<=100000)/\Q (.c (.d (.sl .u8) (lO row bg bg.length))) [.cells 213 [.o 1,.o 2],.sl 5 .u8 row,.sl 3 (.int .i64) bg]
 | _=>False
def TL:=TM.add QP
abbrev F9 (y0:List Int) (y1):=cn (some (aK bF y0 y1)) ah
abbrev vm (y0:List Int) (y1) (y2:List UInt8):=List.drop (ax (F9 y0 y1)) y2
abbrev Ip (y0:List Int) (y1):=ax (aK bF y0 (y1+1)) - ax (F9 y0 y1)
def zz (row:List UInt8) (bg:List Int):dE:=λQ=>List.length row<=140737488355328/\(cY row (aL (List.length bg)->bp (λi ag=>br (decide (i.1.1< (aE bg))) (0<=i.1.1/\i.1.1< (aE bg)/\0<=i.1.1/\i.1.1< (aE bg)/\(Ty.ok bF (aK bF bg i.1.1)-> 
 cY row (cL i.1.1 (aL (List.length bg)->br (decide (i.1.1+1< (aE bg))) (cL i.1.1 (0<=i.1.1+1/\i.1.1+1< (aE bg)/\0<=i.1.1+1/\i.1.1+1< (aE bg)/\(Ty.ok bF (aK bF bg (i.1.1+1))->0<=cn (some (aK 
 bF bg i.1.1)) ah/\cn (some (aK bF bg i.1.1)) 0<=aK bF bg (i.1.1+1)/\aK bF bg (i.1.1+1)<=aK bF bg (i.1.1+1)/\aK bF bg (i.1.1+1)<=(aE row)/\(List.length i.1.2.1+List.length [List.take (Ip bg 
 i.1.1) (vm bg i.1.1 row)])*24<=cw/\List.length i.1.2.1+List.length [List.take (Ip bg i.1.1) (vm bg i.1.1 row)]<=9223372036854775807/\cL i.1.1 (ag ((i.1.1+1,i.1.2.1++ [List.take (Ip bg i.1.1) (vm bg 
 i.1.1 row)],()),()))))) (0<=cn (some (aK bF bg i.1.1)) ah/\cn (some (aK bF bg i.1.1)) ah<=(aE row)/\(aE row)<=(aE row)/\(aE row)<=(aE row)/\(List.length i.1.2.1+List.length [List.take (ax 
 (aE row) - ax (F9 bg i.1.1)) (vm bg i.1.1 row)])*24<=cw/\List.length i.1.2.1+List.length [List.take (ax (aE row) - ax (F9 bg i.1.1)) (vm bg i.1.1 row)]<=9223372036854775807/\cL i.1.1 (ag 
 ((i.1.1+1,i.1.2.1++ [List.take (ax (aE row) - ax (F9 bg i.1.1)) (vm bg i.1.1 row)],()),()))))))) (Q (SV.v (S1.c (.o 3))) [.cells 213 [.o 1,.o 2],.sl 5 Ty.u8 row,.sl 3 bF bg,.sl 35 bE i.1.2.1])) ((ah, 
 [],()),())))
theorem A9:cG 78 Du:=fz<| rJ<| rK λH Q h=>by
 split at h;rotate_left;cases h;rename_i row bg;refine Wp.lq [some (.sl (.sl .u8))] [3] ?_;refine Wp.dJ TL cX ⟨[(5,⟨[(18,.int .i64),(3,.own 35 (.sl .u8))],[]⟩)],[]⟩ Tryz.f78 (zz row bg) ?_;unfold zz Ip vm cY cL F9 cw ah aE aL bE bF;obtain ⟨⟨hF,hr,hb⟩,h⟩:=h;refine ⟨by omega,λ_ _=>bp.intro (λi=>∃ k:Nat,k<=bg.length/\i.1.1=(k:Int)/\i.1.2.1=lO row bg k) (λi=>bg.length - i.1.1.toNat) ⟨0,cq _,rfl,rfl⟩ ?_⟩;rintro ⟨⟨j,l,_⟩,_⟩ ⟨k,hk,h1,h2⟩;simp only at h1 h2 ⊢;subst h1 h2;have hl:=qf row bg k;refine aw (λhc=>?_) (λhc=>?_)
 .have hc:(k:Int)< bg.length:=of_decide_eq_true hc;have qP:k< bg.length:=by omega
  have hg:=ak qP;have ha:=hF.all k bg[k] hg;have hs:=Qm row bg k;rw [hg,Option.getD_some] at hs;rw [gU (e:=.int .i64) qP];have b0:cn (some bg[k]) 0=bg[k]:=rfl;rw [b0];have fin:∀ z:Int,z=nw row bg k->lO row bg k++ [List.take (z.toNat - bg[k].toNat) (List.drop bg[k].toNat row)]=lO row bg (k+1):=λz e=>by
   rw [hs,e,show (nw row bg k).toNat - bg[k].toNat=(nw row bg k - bg[k]).toNat by omega]
  refine ⟨by omega,hc,by omega,hc,λ_ _=>⟨by unfold aF;omega,λ_=>aw (λhd=>?_) (λhd=>?_)⟩⟩
  .have hd:(k:Int)+1< bg.length:=of_decide_eq_true hd;have he:aK (.int .i64) bg ((k:Int)+1)=nw row bg k:=by
    have:=gU (e:=.int .i64) (l:=bg) (k:=k+1) (by omega);unfold nw;rw [ak (show k+1< bg.length by omega)];exact this
   rw [he];exact ⟨by unfold aF;omega,by omega,hd,by omega,hd,λ_=>⟨by omega,by omega,bz _,ha.2.2.2,by simp only [aD];omega,by simp only [aD];omega,by unfold aF;omega,⟨k+1,by omega,by omega,fin _ rfl⟩,by omega⟩⟩
  .have hd:¬(k:Int)+1< bg.length:=of_decide_eq_false hd;have he:(row.length:Int)=nw row bg k:=by rw [nT (by omega)]
   exact ⟨by omega,by omega,by omega,bz _,by simp only [aD];omega,by simp only [aD];omega,by unfold aF;omega,⟨k+1,by omega,by omega,fin _ he⟩,by omega⟩
 .have hc:¬(k:Int)< bg.length:=of_decide_eq_false hc;obtain rfl:k=bg.length:=by omega
  exact ⟨by show 3<=4;decide,h⟩
def vO:Ct
 | [.v (.c (.de (.int .u32) T 0 0)),.v (.c cim),.v (.c cpl),.v (.c (.k (.int .i64 nu))),.v (.c (.k (.int .i64 off))),.v (.c (.k (.int .i64 n)))],[],Q=>(match (Ty.sl Ty.u8).of [cim] with
  | some (im,[])=>(match (Ty.sl (Ty.int .i64)).of [cpl] with
  | some (pl,[])=>(T.length=256/\im.length<=100000000/\pl.length<=100000)/\∃ (i:Nat) (a:Int) (z:List UInt8) (nx:Int),nu=(i:Int)+1/\pl[i]?=some a/\En T im a z nx/\0< z.length/\z.length<=128/\0<=off/\0<=n/\off+n<=z.length/\Q (.cJ [.c (.d .u8 ((z.drop off.toNat).take n.toNat)),.c (.k (.int .i64 0))]) []
  | _=>False)
  | _=>False)
 | _,_,_=>False
def aeC:=TL.add A9
abbrev Iu {A2:Type} (y0:Int) (y1:Int) (y2:List A2):=List.take (ax (y0+y1) - ax y0) (List.drop (aZ y0) y2)
def zy (T:List Int) (im:(List (Ty.u8).den)) (pl:(List ((Ty.int .i64)).den)) (nu off n:Int):dE:=λQ=>cM im (aL (List.length pl)->cA nu off n (br (decide (nu< 1)) (Q kj []) (aL (List.length pl)->br (decide (nu>(aE pl))) (Q kj []) (br (cR off) (Q kj []) (br (cR n) (Q kj []) (aF 
 .i64 (nu - 1)/\0<=nu - 1/\nu - 1< (aE pl)/\(Ty.ok bF (aK bF pl (nu - 1))->dO T (gZ im (∃ z nx e,FrE T im (aK bF pl (nu - 1)) z nx e/\(aL (bO z)->cj nx e (br (e !=0) (sB Q) (aL (bO z)->br ((aE 
 z)==0) (sB Q) (aL (bO z)->br (decide (off>(aE z))) (sB Q) (aL (bO z)->aF .i64 ((aE z) - off)/\br (decide (n>(aE z) - off)) (sB Q) (aF .i64 (off+n)/\0<=off/\off<=off+n/\off+n<=(aE z)/\ 
 fa (List.length (Iu off n z))/\(aL (List.length (Iu off n z))->Q (SV.cJ [S1.c (Cl.d Ty.u8 (Iu off n z)),.c (.k a6)]) []))))))))))))))))
theorem Ou:cG 33 vO:=by
 intro args H Q h;unfold vO at h;split at h;rotate_left;cases h;rename_i T cim cpl nu off n;split at h;rotate_left;cases h;rename_i im Wc;split at h;rotate_left;cases h;rename_i pl Au;refine Wp.said (args':=[.v (.c (.de (.int .u32) T 0 0)),.c (.d Ty.u8 im),.c (.d (Ty.int .i64) pl),.int nu,.int off,.int n]) (λE g=>bC.cE (λ_ h=>h) (bC.cE (dI Wc) (bC.cE (dI Au) (bC.cE (λ_ h=>h) (bC.cE (λ_ h=>h) (bC.cE (λ_ h=>h) (λ_ h=>h))))))) ?_;clear Wc Au;refine Wp.lq [some (.sl .u8),none] [] ?_;refine Wp.dJ aeC cX ⟨[],[]⟩ Tryz.f33 (zy T im pl nu off n) ?_;unfold zy gZ Iu sB cj cR dO kj bO cM dL aZ a6 cA aE fa aL bK bF;obtain ⟨⟨hT,hl,hp⟩,i,a,z,nx,rfl,hg,hF,z0,z1,o0,n0,hz,h⟩:=h;have hi:=(au.1 hg).1;have e1:aK (.int .i64) pl ((i:Int)+1 - 1)=a:=by
  rw [show (i:Int)+1 - 1=i by omega,gU (e:=.int .i64) hi];exact (au.1 hg).2
 rw [e1,show (off+n).toNat - off.toNat=n.toNat by omega];refine λ_ _ _ _ _=>aw (λhc=>absurd (of_decide_eq_true hc) (by omega)) (λ_=>λ_=>aw (λhc=>absurd (of_decide_eq_true hc) (by omega)) (λ_=>aw (λhc=>absurd (of_decide_eq_true hc) (by omega)) (λ_=>aw (λhc=>absurd (of_decide_eq_true hc) (by omega)) (λ_=>⟨by unfold aF;omega,by omega,by omega,λ_=>⟨hT,hl,z,nx,0,⟨.inr ⟨rfl,hF⟩⟩,λ_ _ _=>aw (λhc=>by cases hc) (λ_=>λ_=>aw (λhc=>?_) (λ_=>λ_=>aw (λhc=>absurd (of_decide_eq_true hc) (by omega)) (λ_=>λ_=>⟨by unfold aF;omega,aw (λhc=>absurd (of_decide_eq_true hc) (by omega)) (λ_=>⟨by unfold aF;omega,o0,by omega,by omega,by rw [aA];omega,λ_=>⟨ay _,h⟩⟩)⟩)))⟩⟩))));have hc:(z.length:Int)=0:=eq_of_beq hc;omega
def ZV:Ct:=λargs H Q=>Tv args H (uq 0 [1,2] [0] H.length Q)
theorem WR:cG 75 ZV:=λargs H Q h=>Wp.Yv (QO _ _ _ h)
def Ac:Ct
 | .v (.c (.p 0 0))::vs,[.abs a],Q=>∃ (row:List UInt8) (bg:List Int),a=jM [.cells 213 [.o 1,.o 2],.sl 5 .u8 row,.sl 3 (.int .i64) bg]/\Du (.v (.c (.p 0 0))::vs) [.cells 213 [.o 1,.o 2],.sl 5 .u8 row,.sl 3 (.int .i64) bg] (uq 0 [1,2] [0] 1 Q)
 | _,_,_=>False
theorem Ks:cG 78 Ac:=λargs H Q h=>by
 unfold Ac at h;split at h
 .obtain ⟨row,bg,rfl,h⟩:=h;exact Wp.Ek (q:=0) (L:=[.cells 213 [.o 1,.o 2],.sl 5 .u8 row,.sl 3 (.int .i64) bg]) rfl (gJ _) (A9 _ _ _ h)
 .cases h
def NU:Ct
 | [.v (.c (.p 0 0)),.v (.c cx)],[.abs a],Q=>(match (Ty.sl Ty.u8).of [cx] with
  | some (x,[])=>∃ row bg,a=jM [.cells 213 [.o 1,.o 2],.sl 5 .u8 row,.sl 3 (.int .i64) bg]/\(AA row bg/\row.length<=10000000/\bg.length<=100000/\x.length< 128)/\∀ nu off lB zd,AA lB zd->oL lB zd nu off x->(∀ nu off u,oL row bg nu off u->oL lB zd nu off u)->lB.length<=row.length+128->zd.length<=bg.length+1->Q (.cJ [.c (.k (.int .i64 nu)),.c (.k (.int .i64 off))]) [.abs (jM [.cells 213 [.o 1,.o 2],.sl 5 .u8 lB,.sl 3 (.int .i64) zd])]
  | _=>False)
 | _,_,_=>False
theorem WS:cG 77 NU:=by
 intro args H Q h;unfold NU at h;split at h;rotate_left;cases h;rename_i Q cx a;split at h;rotate_left;cases h;rename_i x hx;obtain ⟨row,bg,rfl,h0,h⟩:=h;refine Wp.sel (Wp.Zd (Wp.Yk (p:=0) (L:=[.cells 213 [.o 1,.o 2],.sl 5 .u8 row,.sl 3 (.int .i64) bg]) rfl (gJ _) (QP _ _ _ ?_)));show AR _ [.cells 213 [.o 1,.o 2],.sl 5 .u8 row,.sl 3 (.int .i64) bg] _;unfold AR;simp only [hx];refine ⟨h0,λnu off lB zd h1 h2 h3 h4 h5=>?_⟩;have h6:=h nu off lB zd h1 h2 h3 h4 h5;exact ⟨⟨0,[1,2],by decide,nv rfl,[0],rfl,by decide,nv rfl,h6⟩,⟨0,[3,4],by decide,nv rfl,[0],rfl,by decide,nv rfl,h6⟩,⟨0,[3,2],by decide,nv rfl,[0],rfl,by decide,nv rfl,h6⟩⟩
end Go.Proofs

namespace Go.Lm
open Go Go.RowKit
section
variable {L:List (Int×rH)} {Y:UpY}
theorem uK {α:Type} {p:α->Bool} {g:α->α} (h:∀ x,p (g x)=p x):∀ l:List α,(l.map g).find? p=(l.find? p).map g
 | []=>rfl
 | x::l=>by
  simp only [bX,List.find?_cons,h];cases p x with
  | true=>rfl
  | false=>exact uK h l
theorem TG {r:Int} {f:bu->bu} (hf:∀ n,(f n).2.1=n.2.1) (x:Int):({Y with L:=oQ Y.L r f}:UpY).at x=(Y.at x).map λn=>bif rM r n then f n else n:=by
 unfold UpY.at oQ;refine uK (λn=>?_) Y.L;unfold rM;cases n.2.1==r<;>simp [hf]
theorem UA {r:Int} {f:bu->bu} (hf:∀ n,(f n).2.1=n.2.1) (l:List bu):(oQ l r f).map (·.2.1)=l.map (·.2.1):=by
 unfold oQ;rw [List.map_map];refine gD λn _=>?_;show (bif rM r n then f n else n).2.1=n.2.1;cases rM r n<;>simp [hf]
end
section
variable {L:List (Int×rH)} {Y:UpY}
theorem S9 (E:List TX) (d:Int) (s:ByteArray) (x r:Int):(E++ [(d,s,x,())]).countP (Uq r)=E.countP (Uq r)+if x=r then 1 else 0:=by
 rw [List.countP_append];congr 1;unfold Uq;by_cases h:x=r<;>simp [h]
theorem Qr {n:bu} {r:Int} {y:bu} (h:Y.at r=some y) (E:List TX) (nx:Int):({Y with L:=Y.L++ [n],E:=E,nx:=nx}:UpY).at r=some y:=by
 show (Y.L++ [n]).find? (rM r)=some y;rw [List.find?_append];have:Y.L.find? (rM r)=some y:=h;rw [this];rfl
theorem Qs {n:bu} {r:Int} (h:Y.at r=none) (hn:n.2.1=r) (E:List TX) (nx:Int):({Y with L:=Y.L++ [n],E:=E,nx:=nx}:UpY).at r=some n:=by
 show (Y.L++ [n]).find? (rM r)=some n;rw [List.find?_append];have:Y.L.find? (rM r)=none:=h;rw [this];simp [rM,hn]
theorem ac9 (w:Y.Wf):Y.at Y.nx=none:=aez.2 λn hn e=>by
 have:=(w.lo n hn).2;omega
theorem aja (w:Y.Wf) {e:TX} (he:e∈Y.E):∃ y,Y.at e.1=some y/\y.2.2.1=1:=iE.1 (w.dir e he).1
theorem aam (w:Y.Wf) {e:TX} (he:e∈Y.E):∃ y,Y.at e.2.2.1=some y:=by
 have:=(w.ref e he).2;unfold UpY.atE at this;cases hy:Y.at e.2.2.1 with
 | none=>rw [hy] at this;cases this
 | some y=>exact ⟨y,rfl⟩
theorem ahL (w:Y.Wf):1< Y.nx:=by
 obtain ⟨y1,hy1,_⟩:=iE.1 w.root;have:=w.lo y1 (at_mem hy1).1;omega
end
section
variable {L:List (Int×rH)} {Y:UpY}
end
section
variable {α β:Type}
end
section
variable {L:List (Int×rH)} {Y:UpY}
theorem ze (w:Y.Wf) {n:bu} (h:n∈Y.L):Y.at n.2.1=some n:=by
 have key:∀ l:List bu,(l.map (·.2.1)).Nodup->n∈l->l.find? (rM n.2.1)=some n:=λl=>by
  induction l with
  | nil=>intro _ h;cases h
  | cons x l ih=>
   intro hn h;obtain ⟨h1,h2⟩:=eB.1 hn;rw [List.find?_cons];by_cases q:x.2.1=n.2.1
   .have e:rM n.2.1 x=true:=by simp [rM,q]
    rw [e];rcases bm.1 h with h| h;rw [h]
    .have h3:n.2.1∈l.map (·.2.1):=aP.2 ⟨n,h,rfl⟩;rw [<-q] at h3;exact absurd h3 h1
   .have e:rM n.2.1 x=false:=by simpa [rM] using q
    rw [e];rcases bm.1 h with h| h;exact absurd (by rw [h]) q;exact ih h2 h
 exact key _ w.nd h
end
def UpY.new (a b:Int):UpY:=⟨a,b,[([],1,1,(493,0,0,()),[],⟨#[]⟩,[],false,())],[],2⟩
theorem ahO (a b:Int):(UpY.new a b).Wf where
 nd:=by simp [UpY.new]
 lo:=λn hn=>by
  have:n=_:=aR.1 hn;subst this;exact ⟨by decide,by show (1:Int)< 2;decide⟩
 root:=rfl
 nm:=λn hn=>by
  have:n=_:=aR.1 hn;subst this;exact ⟨rfl,.inl rfl,by kernel_rfl⟩
 ne:=by simp [UpY.new]
 dir:=λe he=>by cases he
 ref:=λe he=>by cases he
 has:=λn hn h=>by
  have:n=_:=aR.1 hn;subst this;exact absurd rfl h
 one:=λe he=>by cases he
 dep:=⟨λ_=>0,λe he=>by cases he⟩
theorem acO (a b:ByteArray):uB a b=decide (a.data.toList< b.data.toList):=by
 unfold uB;rw [Lib.toList_data,Lib.toList_data,Go.Proofs.bytesLess_eq]
theorem gV {e:Ty} {l:List e.den} {i:Int} (h0:0<=i) (h:i< l.length):aK e l i=l[i.toNat]'(by omega):=by
 unfold aK;rw [ba,ak (by omega)];rfl
section
variable {α:Type}
end
section
variable {Y:UpY}
def aft (n:bu):Prop:=n.1= []/\((n.2.2.1=1\/n.2.2.2.2.2.2.2.1=false)/\wL n=true)
theorem tZ {r:Int} {f:bu->bu} (hf:∀ n,(f n).2.1=n.2.1) (hk:∀ n,(f n).2.2.1=n.2.2.1) (x:Int):({Y with L:=oQ Y.L r f}:UpY).lu x=Y.lu x:=by
 unfold UpY.lu;rw [TG hf];cases Y.at x with
 | none=>rfl
 | some n=>
  simp only [js];cases rM r n<;>simp [hk]
theorem aan {r:Int} {f:bu->bu} (hf:∀ n,(f n).2.1=n.2.1) (x:Int):({Y with L:=oQ Y.L r f}:UpY).atE x=Y.atE x:=by
 unfold UpY.atE;rw [TG hf];cases Y.at x<;>rfl
theorem BM {r:Int} {f:bu->bu} {L:List bu} {n:bu} (h:n∈oQ L r f):∃ n0∈L,(n0.2.1=r/\n=f n0)\/n=n0:=by
 unfold oQ at h;obtain ⟨n0,h0,rfl⟩:=aP.1 h;refine ⟨n0,h0,?_⟩;cases q:rM r n0 with
 | true=>exact .inl ⟨by simpa [rM] using q,rfl⟩
 | false=>exact .inr rfl
theorem UpY.Wf.oQ (w:Y.Wf) {r:Int} {f:bu->bu} (hf:∀ n,(f n).2.1=n.2.1) (hk:∀ n,(f n).2.2.1=n.2.2.1) (hg:∀ n∈Y.L,n.2.1=r->aft (f n)):({Y with L:=Lm.oQ Y.L r f}:UpY).Wf where
 nd:=by
  show ((Lm.oQ Y.L r f).map (·.2.1)).Nodup;rw [UA hf];exact w.nd
 lo:=λn hn=>by
  obtain ⟨n0,h0,⟨_,rfl⟩| rfl⟩:=BM hn;rw [hf];exact w.lo n0 h0;exact w.lo n h0
 root:=by rw [tZ hf hk];exact w.root
 nm:=λn hn=>by
  obtain ⟨n0,h0,⟨h1,rfl⟩| rfl⟩:=BM hn;exact hg n0 h0 h1;exact w.nm n h0
 ne:=w.ne
 dir:=λe he=>by rw [tZ hf hk];exact w.dir e he
 ref:=λe he=>by rw [aan hf];exact w.ref e he
 has:=λn hn h1=>by
  obtain ⟨n0,h0,⟨_,rfl⟩| rfl⟩:=BM hn;rw [hf] at h1 ⊢;exact w.has n0 h0 h1;exact w.has n h0 h1
 one:=λe he h=>by
  rw [tZ hf hk] at h;exact w.one e he h
 dep:=by
  obtain ⟨d,hd⟩:=w.dep;exact ⟨d,λe he h=>by rw [tZ hf hk] at h;exact hd e he h⟩
theorem U5 {n:bu} {a:AtD} (hn:wL n=true) (hk:n.2.2.1≠4) (ha:Yx a=true):wL (n.wk a)=true:=by
 unfold wL at hn ⊢;rw [if_neg hk] at hn;rw [if_neg (show ¬(n.wk a).2.2.1=4 from hk)];unfold iR bu.dS bu.wk at*;simp only at hn ⊢;have ha:D9 a.1 a.2.1 a.2.2.1=true:=ha;by_cases h1:n.2.2.1=1
 .simp only [h1,if_true,ao] at hn ⊢;exact ⟨⟨hn.1.1,ha⟩,hn.2⟩
 .by_cases h2:n.2.2.1=2
  .simp only [h2,show ¬(2:Int)=1 by decide,if_true,if_false,ao] at hn ⊢;exact ⟨⟨hn.1.1,ha⟩,hn.2⟩
  .by_cases h3:n.2.2.1=3
   .simp only [h3,show ¬(3:Int)=1 by decide,show ¬(3:Int)=2 by decide,if_true,if_false,ao] at hn ⊢;exact ⟨⟨hn.1.1,ha⟩,hn.2⟩
   .simp only [h1,h2,h3,if_false] at hn;cases hn
theorem U4 {n:bu} {x:List xt} (hn:wL n=true) (hk:n.2.2.1≠4) (hx:eI x=true):wL (n.acL x)=true:=by
 unfold wL at hn ⊢;rw [if_neg hk] at hn;rw [if_neg (show ¬(n.acL x).2.2.1=4 from hk)];unfold iR bu.dS bu.acL at*;simp only at hn ⊢;by_cases h1:n.2.2.1=1
 .simp only [h1,if_true,ao] at hn ⊢;exact ⟨hn.1,hx⟩
 .by_cases h2:n.2.2.1=2
  .simp only [h2,show ¬(2:Int)=1 by decide,if_true,if_false,ao] at hn ⊢;exact ⟨hn.1,hx⟩
  .by_cases h3:n.2.2.1=3
   .simp only [h3,show ¬(3:Int)=1 by decide,show ¬(3:Int)=2 by decide,if_true,if_false,ao] at hn ⊢;exact ⟨hn.1,hx⟩
   .simp only [h1,h2,h3,if_false] at hn;cases hn
structure UpY.N8 (Y:UpY) (n:Nat):Prop where
 wf:Y.Wf
 en:Y.E.length<=n
 nb:Y.nx<=n+2
theorem UpY.N8.le {n m:Nat} (h:Y.N8 n) (hn:n<=m):Y.N8 m:=⟨h.wf,by have:=h.en;omega,by have:=h.nb;omega⟩
theorem adf (a b:Int):(UpY.new a b).N8 0:=⟨ahO a b,ay _,by show (2:Int)<=_;omega⟩
theorem UpY.N8.oQ {n:Nat} (h:Y.N8 n) {r:Int} {f:bu->bu} (hf:∀ n,(f n).2.1=n.2.1) (hk:∀ n,(f n).2.2.1=n.2.2.1) (hg:∀ n∈Y.L,n.2.1=r->aft (f n)):({Y with L:=Lm.oQ Y.L r f}:UpY).N8 n:=⟨h.wf.oQ hf hk hg,h.en,h.nb⟩
theorem Mx {n:Nat} (h:Y.N8 n) (r:Int) (a:AtD):(Y.gK r a).N8 n:=by
 unfold UpY.gK;split
 .rename_i h0;refine h.oQ (λ_=>rfl) (λ_=>rfl) λy hy hr=>?_;have uo:Y.at r=some y:=by rw [<-hr];exact ze h.wf hy
  unfold UpY.BN at h0;rw [uo] at h0;simp only at h0;split at h0;cases h0
  .rename_i h1;obtain ⟨g1,g2,g3⟩:=h.wf.nm y hy;refine ⟨g1,g2,U5 g3 (λq=>h1 (.inl q)) ?_⟩;cases hm:Yx a with
   | true=>rfl
   | false=>exact absurd (.inr hm) h1
 .exact h
theorem D8 {n:Nat} (h:Y.N8 n) (r:Int) (x:List xt):(Y.fm r x).N8 n:=by
 unfold UpY.fm;split
 .rename_i h0;refine h.oQ (λ_=>rfl) (λ_=>rfl) λy hy hr=>?_;have uo:Y.at r=some y:=by rw [<-hr];exact ze h.wf hy
  unfold UpY.uY at h0;rw [uo] at h0;simp only at h0;split at h0;cases h0
  .rename_i h1;obtain ⟨g1,g2,g3⟩:=h.wf.nm y hy;refine ⟨g1,g2,U4 g3 (λq=>h1 (.inl q)) ?_⟩;cases hm:eI x with
   | true=>rfl
   | false=>exact absurd (.inr hm) h1
 .exact h
theorem uE {n:Nat} (h:Y.N8 n) (r:Int) (q:Bool):(Y.fG r q).N8 n:=by
 unfold UpY.fG;split
 .rename_i h0;refine h.oQ (λ_=>rfl) (λ_=>rfl) λy hy hr=>?_;have uo:Y.at r=some y:=by rw [<-hr];exact ze h.wf hy
  obtain ⟨y',CT,hk⟩:=iE.1 h0;rw [uo] at CT;obtain rfl:=aj CT;obtain ⟨g1,g2,g3⟩:=h.wf.nm y hy;exact ⟨g1,.inl hk,g3⟩
 .exact h
theorem zW {d:Int} {s:ByteArray} (h:Y.qT d s=0):Y.lu d=0/\dA s=0/\Y.kC d s=none:=by
 unfold UpY.qT at h;split at h
 .rename_i h1;split at h
  .rename_i h2;cases hx:Y.kC d s with
   | none=>exact ⟨h1,h2,rfl⟩
   | some e=>rw [hx] at h;cases h
  .rename_i h2;exact absurd h h2
 .rename_i h1;exact absurd h h1
theorem Yw {E:List TX} (h:(E.map λe=>(e.1,e.2.1)).Nodup) {d:Int} {s:ByteArray} {r:Int} (hn:∀ e∈E,¬(e.1=d/\e.2.1=s)):((E++ [(d,s,r,())]).map λe=>(e.1,e.2.1)).Nodup:=by
 rw [eQ];refine fh.2 ⟨h,by simp,λa ha b hb=>?_⟩;have hb:b=(d,s):=by simpa using hb
 subst hb;obtain ⟨e,he,rfl⟩:=aP.1 ha;exact λq=>hn e he ⟨congrArg Prod.fst q,congrArg Prod.snd q⟩
theorem xq {r:Int}:Y.atE r=0↔∃ y,Y.at r=some y:=by
 unfold UpY.atE;cases Y.at r<;>simp
theorem UpY.Wf.make (w:Y.Wf) {d:Int} {s:ByteArray} {x:bu} (hd:Y.lu d=0) (hs:dA s=0) (hn:Y.kC d s=none) (hm:wL x=true):({Y with L:=Y.L++ [Y.pV x],E:=Y.E++ [(d,s,Y.nx,())],nx:=Y.nx+1}:UpY).Wf:=by
 have hnx:=ac9 w;have hp:=ahL w;have vQ:∀ {z y},Y.at z=some y->({Y with L:=Y.L++ [Y.pV x],E:=Y.E++ [(d,s,Y.nx,())],nx:=Y.nx+1}:UpY).at z=some y:=λh=>Qr h _ _;have dold:∀ {z},Y.lu z=0->({Y with L:=Y.L++ [Y.pV x],E:=Y.E++ [(d,s,Y.nx,())],nx:=Y.nx+1}:UpY).lu z=0:=λh=>by
  obtain ⟨y,hy,hk⟩:=iE.1 h;exact iE.2 ⟨y,vQ hy,hk⟩
 have dback:∀ {e},e∈Y.E->({Y with L:=Y.L++ [Y.pV x],E:=Y.E++ [(d,s,Y.nx,())],nx:=Y.nx+1}:UpY).lu e.2.2.1=0->Y.lu e.2.2.1=0:=λhe h=>by
  obtain ⟨y,hy⟩:=aam w he;obtain ⟨y',CT,hk⟩:=iE.1 h;rw [vQ hy] at CT;obtain rfl:=aj CT;exact iE.2 ⟨y,hy,hk⟩
 have noref:∀ e∈Y.E,e.2.2.1≠Y.nx:=λe he q=>by
  obtain ⟨y1,h1⟩:=aam w he;rw [q,hnx] at h1;cases h1
 have nodir:∀ e∈Y.E,e.1≠Y.nx:=λe he q=>by
  obtain ⟨y1,h1,_⟩:=aja w he;rw [q,hnx] at h1;cases h1
 have hdn:d≠Y.nx:=λq=>by
  obtain ⟨y,hy,_⟩:=iE.1 hd;rw [q,hnx] at hy;cases hy
 refine ⟨?_,?_,dold w.root,?_,Yw w.ne (xc.1 hn),?_,?_,?_,?_,?_⟩
 .show ((Y.L++ [Y.pV x]).map (·.2.1)).Nodup;rw [eQ];refine fh.2 ⟨w.nd,by simp,λa ha b hb=>?_⟩;have hb:b=Y.nx:=aR.1 hb;obtain ⟨n,hn,rfl⟩:=aP.1 ha;have:=(w.lo n hn).2;omega
 .intro n hn;show 1<=n.2.1/\n.2.1< Y.nx+1;rcases aY.1 hn with hn| hn
  .have:=w.lo n hn;omega
  .have:n=Y.pV x:=by simpa using hn
   subst this;show 1<=Y.nx/\Y.nx< Y.nx+1;omega
 .intro n hn;rcases aY.1 hn with hn| hn
  .exact w.nm n hn
  .have:n=Y.pV x:=by simpa using hn
   subst this;exact ⟨rfl,.inr rfl,hm⟩
 .intro e he;rcases aY.1 he with he| he
  .exact ⟨dold (w.dir e he).1,(w.dir e he).2⟩
  .have:e=(d,s,Y.nx,()):=by simpa using he
   subst this;exact ⟨dold hd,hs⟩
 .intro e he;rcases aY.1 he with he| he
  .obtain ⟨h1,h2⟩:=w.ref e he;obtain ⟨y,hy⟩:=xq.1 h2;exact ⟨h1,xq.2 ⟨y,vQ hy⟩⟩
  .have:e=(d,s,Y.nx,()):=by simpa using he
   subst this;exact ⟨by show Y.nx≠1;omega,xq.2 ⟨_,Qs hnx rfl _ _⟩⟩
 .intro n hn h1;show (Y.E++ [(d,s,Y.nx,())]).any (Uq n.2.1)=true;rw [List.any_append];rcases aY.1 hn with hn| hn
  .rw [w.has n hn h1];rfl
  .have:n=Y.pV x:=by simpa using hn
   subst this;have:Uq (Y.pV x).2.1 (d,s,Y.nx,())=true:=by unfold Uq;exact beq_self_eq_true _
   simp [this]
 .intro e he h;show (Y.E++ [(d,s,Y.nx,())]).countP (Uq e.2.2.1)=1;rw [S9];rcases aY.1 he with he| he
  .rw [if_neg (Ne.symm (noref e he)),w.one e he (dback he h)]
  .have:e=(d,s,Y.nx,()):=by simpa using he
   subst this;rw [if_pos rfl,List.countP_eq_zero.2 λe he=>by simpa [Uq] using noref e he]
 .obtain ⟨dp,hdp⟩:=w.dep;refine ⟨λz=>if z=Y.nx then dp d+1 else dp z,λe he h=>?_⟩
  rcases aY.1 he with he| he
  .simp only [if_neg (nodir e he),if_neg (noref e he)];exact hdp e he (dback he h)
  .have:e=(d,s,Y.nx,()):=by simpa using he
   subst this;simp only [if_neg hdn,if_pos];omega
theorem Yl {n:Nat} (h:Y.N8 n) (d:Int) (s:ByteArray) (x:bu):(Y.oz d s x).N8 (n+1):=by
 unfold UpY.oz;split
 .rename_i h0;unfold UpY.MG at h0;split at h0
  .rename_i hf;obtain ⟨h1,h2,h3⟩:=zW hf;split at h0
   .rename_i hm;refine ⟨h.wf.make h1 h2 h3 hm,?_,?_⟩
    .show (Y.E++ [_]).length<=_;have:=h.en;simp;omega
    .show Y.nx+1<=_;have:=h.nb;omega
   .cases h0
  .rename_i hf;exact absurd h0 hf
 .exact h.le (Nat.le_succ n)
theorem UpY.Wf.link (w:Y.Wf) {d r:Int} {s:ByteArray} {y:bu} (hd:Y.lu d=0) (hs:dA s=0) (hn:Y.kC d s=none) (hy:Y.at r=some y) (hk:y.2.2.1≠1):({Y with E:=Y.E++ [(d,s,r,())]}:UpY).Wf:=by
 have hnd:Y.lu r≠0:=λq=>by
  obtain ⟨y',CT,vS⟩:=iE.1 q;rw [hy] at CT;obtain rfl:=aj CT;exact hk vS
 have vR:r≠1:=λq=>hnd (by rw [q];exact w.root);refine ⟨w.nd,w.lo,w.root,w.nm,Yw w.ne (xc.1 hn),λe he=>?_,λe he=>?_,λn hn h1=>?_,λe he h=>?_,?_⟩
 .rcases aY.1 he with he| he
  .exact w.dir e he
  .have:e=(d,s,r,()):=by simpa using he
   subst this;exact ⟨hd,hs⟩
 .rcases aY.1 he with he| he
  .exact w.ref e he
  .have:e=(d,s,r,()):=by simpa using he
   subst this;exact ⟨vR,xq.2 ⟨y,hy⟩⟩
 .show (Y.E++ [(d,s,r,())]).any (Uq n.2.1)=true;rw [List.any_append,w.has n hn h1];rfl
 .have h:Y.lu e.2.2.1=0:=h;show (Y.E++ [(d,s,r,())]).countP (Uq e.2.2.1)=1;rcases aY.1 he with he| he
  .rw [S9,if_neg (λq=>hnd (by rw [q];exact h)),w.one e he h]
  .have:e=(d,s,r,()):=by simpa using he
   subst this;exact absurd h hnd
 .obtain ⟨dp,hdp⟩:=w.dep;refine ⟨dp,λe he h=>?_⟩;have h:Y.lu e.2.2.1=0:=h;rcases aY.1 he with he| he
  .exact hdp e he h
  .have:e=(d,s,r,()):=by simpa using he
   subst this;exact absurd h hnd
theorem Py {d r:Int} {s:ByteArray} (h:Y.MM d s r=0):∃ y,Y.at r=some y/\y.2.2.1≠1/\Y.qT d s=0:=by
 unfold UpY.MM at h;split at h
 .rename_i y _ h1 _;split at h
  .rename_i hf;split at h
   .cases h
   .rename_i hk;exact ⟨y,h1,hk,hf⟩
  .rename_i hf;exact absurd h hf
 .cases h
theorem Ym {n:Nat} (h:Y.N8 n) (d:Int) (s:ByteArray) (r:Int):(Y.rC d s r).N8 (n+1):=by
 unfold UpY.rC;split
 .rename_i h0;obtain ⟨y,hy,hk,hf⟩:=Py h0;obtain ⟨h1,h2,h3⟩:=zW hf;refine ⟨h.wf.link h1 h2 h3 hy hk,?_,?_⟩
  .show (Y.E++ [_]).length<=_;have:=h.en;simp;omega
  .show Y.nx<=_;have:=h.nb;omega
 .exact h.le (Nat.le_succ n)
end
end Go.Lm

namespace Go.Lm
open Go
def UpY.iD (Y:UpY):List ByteArray->Int->Int×Int
 | [],r=>(r,0)
 | s::l,r=>if Y.mB r s=0 then Y.iD l (Y.Sn r s).2.2.1 else (0,Y.mB r s)
def zY (Y:UpY) (m:List (Int×Int)) (x:bu):Int×UpY:=
 if x.1.length=0 then (1,(Y.gK 1 x.2.2.2.1).fm 1 x.2.2.2.2.2.2.1)
 else match Kk.get .int m x.2.1 with
  | some r=>(r,Y.rC (Y.iD (x.1.take (x.1.length - 1)) 1).1 (aK .str x.1 ((x.1.length:Int) - 1)) r)
  | none=>(Y.Sm (Y.iD (x.1.take (x.1.length - 1)) 1).1 (aK .str x.1 ((x.1.length:Int) - 1)) x,Y.oz (Y.iD (x.1.take (x.1.length - 1)) 1).1 (aK .str x.1 ((x.1.length:Int) - 1)) x)
def w9 (Y:UpY) (m:List (Int×Int)) (x:bu):UpY:=if x.2.2.2.2.2.2.2.1 then (zY Y m x).2.fG (zY Y m x).1 true else (zY Y m x).2
def C5:List bu->List (Int×Int)->UpY->UpY
 | [],_,Y=>Y
 | x::r,m,Y=>C5 r (Kk.put .int m x.2.1 (zY Y m x).1) (w9 Y m x)
def fx (x y:ByteArray):Int:=if Op.bytesLess x.toList y.toList then -1 else if x.toList==y.toList then 0 else 1
def cmpL:List ByteArray->List ByteArray->Int
 | [],[]=>0
 | [],_::_=> -1
 | _::_,[]=>1
 | x::a,y::b=>if fx x y=0 then cmpL a b else fx x y
theorem Vw {xs ys:List ByteArray} {k:Nat} {x y:ByteArray} (hx:xs[k]?=some x) (hy:ys[k]?=some y):cmpL (xs.drop k) (ys.drop k)=if fx x y=0 then cmpL (xs.drop (k+1)) (ys.drop (k+1)) else fx x y:=by
 obtain ⟨h1,rfl⟩:=au.1 hx;obtain ⟨h2,rfl⟩:=au.1 hy;rw [cg h1,cg h2];rfl
theorem jK (x y:ByteArray):(Op.bytesLess x.toList y.toList=true/\fx x y= -1)\/(x.toList=y.toList/\fx x y=0)\/(Op.bytesLess y.toList x.toList=true/\fx x y=1):=by
 unfold fx;rcases Qo x.toList y.toList with h| h| h;exact .inl ⟨h,by rw [h];rfl⟩
 .refine .inr (.inl ⟨h,?_⟩);rw [h,re];simp
 .refine .inr (.inr ⟨h,?_⟩);have h1:=td h;have h2:(x.toList==y.toList)=false:=by
   cases e:(x.toList==y.toList) with
   | false=>rfl
   | true=>rw [eq_of_beq e,re] at h;cases h
  rw [h1,h2];rfl
theorem qY {x y z:ByteArray} (h:fx x y< 0) (k:fx y z< 0):fx x z< 0:=by
 rcases jK x y with ⟨h1,e⟩| ⟨_,e⟩| ⟨_,e⟩<;>rw [e] at h<;>try omega
 rcases jK y z with ⟨k1,e2⟩| ⟨_,e2⟩| ⟨_,e2⟩<;>rw [e2] at k<;>try omega
 unfold fx;rw [Dz h1 k1,if_pos rfl];decide
theorem AO {x y:ByteArray} (h:fx x y=0):x.toList=y.toList:=by
 rcases jK x y with ⟨_,e⟩| ⟨h1,_⟩| ⟨_,e⟩;rw [e] at h;omega;exact h1;rw [e] at h;omega
theorem oI {x y z u:ByteArray} (h:x.toList=y.toList) (k:z.toList=u.toList):fx x z=fx y u:=by unfold fx;rw [h,k]
theorem nU (x:ByteArray):fx x x=0:=by unfold fx;rw [re];simp
theorem Vv (x y:ByteArray):fx y x= - fx x y:=by
 rcases jK x y with ⟨h,e⟩| ⟨h,e⟩| ⟨h,e⟩<;>rw [e]
 .unfold fx;rw [td h];have h2:(y.toList==x.toList)=false:=by
   cases q:(y.toList==x.toList) with
   | false=>rfl
   | true=>rw [eq_of_beq q,re] at h;cases h
  rw [h2];rfl
 .rw [oI h.symm h,<-e];rw [oI (x:=x) (y:=x) rfl h.symm,nU];rfl
 .unfold fx;rw [h];rfl
theorem jV:∀ a:List ByteArray,cmpL a a=0
 | []=>rfl
 | x::a=>by unfold cmpL;rw [nU,if_pos rfl,jV a]
theorem nV:∀ a b:List ByteArray,cmpL b a= - cmpL a b
 | [],[]=>rfl
 | [],_::_=>rfl
 | _::_,[]=>rfl
 | x::a,y::b=>by
  unfold cmpL;rw [Vv x y,nV a b];by_cases h:fx x y=0;rw [if_pos h,if_pos (by omega)];rw [if_neg h,if_neg (by omega)]
theorem Dd:∀ {a b c:List ByteArray},cmpL a b=0->cmpL a c=cmpL b c
 | [],[],_,_=>rfl
 | [],_::_,_,h=>by cases h
 | _::_,[],_,h=>by cases h
 | x::a,y::b,[],_=>rfl
 | x::a,y::b,z::c,h=>by
  unfold cmpL at h ⊢;by_cases e:fx x y=0
  .rw [if_pos e] at h;rw [Dd h,oI (z:=z) (AO e) rfl]
  .rw [if_neg e] at h;exact absurd h e
theorem vN:∀ {a b c:List ByteArray},cmpL a b< 0->cmpL b c< 0->cmpL a c< 0
 | [],[],_,h,_=>by simp [cmpL] at h
 | [],_::_,[],_,k=>by simp [cmpL] at k
 | [],_::_,_::_,_,_=>by simp [cmpL]
 | _::_,[],_,h,_=>by simp [cmpL] at h
 | _::_,_::_,[],_,k=>by simp [cmpL] at k
 | x::a,y::b,z::c,h,k=>by
  unfold cmpL at h k ⊢;by_cases e1:fx x y=0
  .rw [if_pos e1] at h;rw [oI (z:=z) (AO e1) rfl];by_cases e2:fx y z=0
   .rw [if_pos e2] at k ⊢;exact vN h k
   .rw [if_neg e2] at k ⊢;exact k
  .rw [if_neg e1] at h;by_cases e2:fx y z=0
   .have:fx x z=fx x y:=oI (x:=x) rfl (AO e2).symm;rw [this,if_neg e1];exact h
   .rw [if_neg e2] at k;have:=qY h k;rw [if_neg (by omega)];exact this
theorem Nw {a b c:List ByteArray} (h:¬cmpL a b< 0) (k:¬cmpL b c< 0):¬cmpL a c< 0:=λq=>by
 have s1:=nV a b;have s2:=nV b c;by_cases e1:cmpL a b=0;rw [Dd e1] at q;exact k q
 .have h1:cmpL b a< 0:=by omega
  exact k (vN h1 q)
variable {Y:UpY}
theorem sS (s:ByteArray) (l:List ByteArray) (r:Int):Y.iD (s::l) r=if Y.mB r s=0 then Y.iD l (Y.Sn r s).2.2.1 else (0,Y.mB r s):=rfl
theorem uL:∀ (p q:List ByteArray) (r:Int),Y.iD (p++q) r=if (Y.iD p r).2=0 then Y.iD q (Y.iD p r).1 else (0,(Y.iD p r).2)
 | [],q,r=>by simp [UpY.iD]
 | s::p,q,r=>by
  rw [eO,sS,sS];by_cases h:Y.mB r s=0;rw [if_pos h,if_pos h];exact uL p q _;rw [if_neg h,if_neg h,if_neg h]
theorem Gq {d:Int} {s:ByteArray}:Y.mB d s=0↔Y.lu d=0/\∃ e,Y.kC d s=some e:=by
 unfold UpY.mB;constructor
 .intro h;split at h
  .rename_i hd;refine ⟨hd,?_⟩;cases he:Y.kC d s with
   | none=>rw [he] at h;cases h
   | some e=>exact ⟨e,rfl⟩
  .rename_i hd;exact absurd h hd
 .rintro ⟨hd,e,he⟩;rw [if_pos hd,he]
theorem MI {d:Int} {s:ByteArray} {e:TX} (hd:Y.lu d=0) (he:Y.kC d s=some e):(Y.Sn d s).2.2.1=e.2.2.1:=by
 unfold UpY.Sn;rw [if_pos hd,he]
theorem aiy (w:Y.Wf) {e:TX} (he:e∈Y.E):Y.kC e.1 e.2.1=some e:=by
 cases hf:Y.kC e.1 e.2.1 with
 | none=>exact absurd ⟨rfl,rfl⟩ (xc.1 hf e he)
 | some x=>
  obtain ⟨h1,h2,h3⟩:=SY hf;have:∀ {l:List TX},(l.map λe=>(e.1,e.2.1)).Nodup->x∈l->e∈l->x=e:=by
   intro l
   induction l with
   | nil=>intro _ h;cases h
   | cons a l ih=>
    intro hn hx hy;rw [bX,eB] at hn;rcases bm.1 hx with e1| hx
    .rcases bm.1 hy with e2| hy
     .rw [e1,e2]
     .exact absurd (aP.2 ⟨e,hy,by rw [<-e1,h2,h3]⟩) hn.1
    .rcases bm.1 hy with e2| hy
     .exact absurd (aP.2 ⟨x,hx,by rw [<-e2,h2,h3]⟩) hn.1
     .exact ih hn.2 hx hy
  rw [this w.ne h1 he]
theorem PV (w:Y.Wf) {p:List ByteArray} {s:ByteArray} {r z:Int}:Y.iD (p++ [s]) r=(z,0)↔∃ d,Y.iD p r=(d,0)/\Y.lu d=0/\(d,s,z,())∈Y.E:=by
 rw [uL];constructor
 .intro h;split at h
  .rename_i h0;refine ⟨(Y.iD p r).1,by rw [<-h0],?_⟩;generalize (Y.iD p r).1=d at*;unfold UpY.iD at h;split at h
   .rename_i hl;obtain ⟨hd,e,he⟩:=Gq.1 hl;rw [MI hd he] at h;unfold UpY.iD at h;obtain ⟨h1,h2,h3⟩:=SY he;have:e=(d,s,z,()):=by
     obtain ⟨a,b,c,u⟩:=e;simp only at h2 h3 h;have hc:c=z:=congrArg Prod.fst h;rw [h2,h3,hc]
    exact ⟨hd,this▸h1⟩
   .rename_i hl;exact absurd (congrArg Prod.snd h) hl
  .rename_i h0;exact absurd (congrArg Prod.snd h) h0
 .rintro ⟨d,h1,hd,he⟩;have:=aiy w he;simp only at this;rw [h1,if_pos rfl,sS,if_pos (Gq.2 ⟨hd,_,this⟩),MI hd this];rfl
theorem BC {a b:ByteArray} (h:a.data.toList=b.data.toList):a=b:=by
 obtain ⟨x⟩:=a;obtain ⟨y⟩:=b;have:x=y:=Array.ext' h;rw [this]
theorem adZ {a b:ByteArray} (h:a.data.toList<=b.data.toList) (hn:a≠b):fx a b< 0:=by
 rcases jK a b with ⟨_,e⟩| ⟨h1,_⟩| ⟨h1,_⟩;rw [e];decide
 .rw [Lib.toList_data,Lib.toList_data] at h1;exact absurd (BC h1) hn
 .have:=acO b a;unfold uB at this;rw [h1] at this;exact absurd (of_decide_eq_true this.symm) (List.not_lt.2 h)
theorem De:∀ (p a b:List ByteArray),cmpL (p++a) (p++b)=cmpL a b
 | [],_,_=>rfl
 | s::p,a,b=>by
  have:cmpL (s::(p++a)) (s::(p++b))=if fx s s=0 then cmpL (p++a) (p++b) else fx s s:=rfl
  rw [eO,eO,this,nU,if_pos rfl];exact De p a b
theorem Zu (p:List ByteArray) (s:ByteArray) (t:List ByteArray):cmpL p (p++s::t)< 0:=by
 have:=De p [] (s::t);rw [aW] at this;rw [this];unfold cmpL;decide
end Go.Lm

namespace Go.Lm
open Go
variable {Y:UpY}
def bu.lA (x:bu) (k:Int):bu:=(x.1,k,x.2.2)
def bu.bare (x:bu):bu:=([],x.2)
def o5 (l:List ByteArray):ByteArray:=aK .str l ((l.length:Int) - 1)
def YD (c:bu):Int:=if c.1.length=0 then 0 else ((o5 c.1).size:Int)
theorem BH {l:List ByteArray} (h:l.length≠0):l=l.take (l.length - 1)++ [o5 l]:=by
 have:=BD (e:=.str) (l:=l) (k:=(l.length:Int) - 1) (by omega) (by omega);rw [show ((l.length:Int) - 1+1).toNat=l.length by omega,show ((l.length:Int) - 1).toNat=l.length - 1 by omega,eN] at this;exact this
theorem Gv (p:List ByteArray) (s:ByteArray):o5 (p++ [s])=s:=by
 have h:=BH (l:=p++ [s]) (by simp);have h2:=congrArg List.getLast? h;simpa using h2.symm
def aau (acc:List bu) (c:bu):List bu:=if acc.any (rM c.2.1) then acc else acc++ [c.bare]
def qO (C:List bu):List bu:=C.foldl aau []
theorem IZ (C:List bu) (c:bu):qO (C++ [c])=aau (qO C) c:=by unfold qO;rw [List.foldl_append];rfl
structure IsB (Y:UpY) (C:List bu):Prop where
 wf:Y.Wf
 L:Y.L=qO C
 get:∀ c∈C,Y.at c.2.1=some c.bare
 kC:∀ e,e∈Y.E↔∃ c∈C,∃ y∈C,y.2.2.1=1/\∃ s,c.1=y.1++ [s]/\e=(y.2.1,s,c.2.1,())
 sum:(Y.E.map λe=>(e.2.1.size:Int)).sum=(C.map YD).sum
 root:∀ c∈C,c.1= []->c.2.1=1
 has:∃ c∈C,c.1= []
 Zp:∀ c∈C,∀ d∈C,c.2.2.1=1\/c.2.2.1=4->d.2.1=c.2.1->d=c
 par:∀ c∈C,c.1≠ []->∃ y∈C,y.2.2.1=1/\∃ s,c.1=y.1++ [s]
 nm:C.Pairwise λa b=>a.1≠b.1
theorem Yr {C:List bu} (h:C.Pairwise λa b=>a.1≠b.1) {a b:bu} (ha:a∈C) (hb:b∈C) (e:a.1=b.1):a=b:=by
 induction C with
 | nil=>cases ha
 | cons x C ih=>
  obtain ⟨h1,h2⟩:=jt.1 h;rcases bm.1 ha with ea| ha
  .rcases bm.1 hb with eb| hb
   .rw [ea,eb]
   .exact absurd (ea▸e) (h1 b hb)
  .rcases bm.1 hb with eb| hb
   .exact absurd (eb▸e).symm (h1 a ha)
   .exact ih h2 ha hb
namespace IsB
variable {C:List bu}
theorem dir (h:IsB Y C) {y:bu} (hy:y∈C) (hk:y.2.2.1=1):Y.lu y.2.1=0:=iE.2 ⟨y.bare,h.get y hy,hk⟩
theorem afv (h:IsB Y C):∀ (n:Nat) (c:bu),c∈C->c.1.length<=n->Y.iD c.1 1=(c.2.1,0)
 | 0,c,hc,hn=>by
  have e:c.1= []:=aJ (by omega);rw [e,h.root c hc e];rfl
 | n+1,c,hc,hn=>by
  by_cases e:c.1= [];rw [e,h.root c hc e];rfl
  .obtain ⟨y,hy,hk,s,hs⟩:=h.par c hc e;have ih:=h.afv n y hy (by rw [hs] at hn;simp at hn;omega);rw [hs];exact (PV h.wf).2 ⟨y.2.1,ih,h.dir hy hk,(h.kC _).2 ⟨c,hc,y,hy,hk,s,hs,rfl⟩⟩
theorem fresh (h:IsB Y C) {y:bu} {s:ByteArray} (hy:y∈C) (hk:y.2.2.1=1) (hv:dA s=0) (kB:∀ c∈C,c.1≠y.1++ [s]):Y.qT y.2.1 s=0/\Y.kC y.2.1 s=none:=by
 have he:Y.kC y.2.1 s=none:=xc.2 λe he=>by
  rintro ⟨h1,h2⟩;obtain ⟨c,hc,y',CT,vS,s',hs,rfl⟩:=(h.kC e).1 he;simp only at h1 h2;have:=h.Zp y hy y' CT (.inl hk) h1;subst this;subst h2;exact kB c hc hs
 refine ⟨?_,he⟩;unfold UpY.qT;rw [if_pos (h.dir hy hk),if_pos hv,he]
theorem lt (h:IsB Y C) {c:bu} (hc:c∈C):c.2.1< Y.nx:=by
 obtain ⟨h1,h2⟩:=at_mem (h.get c hc);have:=(h.wf.lo _ h1).2;rw [h2] at this;exact this
theorem akP (h:IsB Y C):(qO C).any (rM Y.nx)=false:=by
 rw [<-h.L,List.any_eq_false];intro n hn;have:=(h.wf.lo n hn).2;unfold rM;simp;omega
theorem akD (h:IsB Y C) {c:bu} (hc:c∈C):(qO C).any (rM c.2.1)=true:=by
 rw [<-h.L,List.any_eq_true];obtain ⟨h1,h2⟩:=at_mem (h.get c hc);exact ⟨_,h1,by unfold rM;simp only [beq_iff_eq];exact h2⟩
theorem more (h:IsB Y C) {Y':UpY} {x y:bu} {s:ByteArray} (hy:y∈C) (hk:y.2.2.1=1) (hx:x.1=y.1++ [s]) (kB:∀ c∈C,c.1≠x.1) (w:Y'.Wf) (hL:Y'.L=aau (qO C) x) (hE:Y'.E=Y.E++ [(y.2.1,s,x.2.1,())])
  (M4:Y'.at x.2.1=Option.some x.bare) (hold:∀ c∈C,Y'.at c.2.1=Y.at c.2.1) (hd1:x.2.2.1=1\/x.2.2.1=4->∀ c∈C,c.2.1≠x.2.1) (hd2:∀ c∈C,c.2.2.1=1\/c.2.2.1=4->x.2.1≠c.2.1):IsB Y' (C++ [x]) where
 wf:=w
 L:=by rw [IZ];exact hL
 get:=λc hc=>by
  rcases aY.1 hc with hc| hc;rw [hold c hc];exact h.get c hc
  .obtain rfl:c=x:=by simpa using hc
   exact M4
 kC:=λe=>by
  rw [hE,aY];constructor
  .rintro (he| he)
   .obtain ⟨c,hc,y',CT,r⟩:=(h.kC e).1 he;exact ⟨c,by simp [hc],y',by simp [CT],r⟩
   .obtain rfl:e=_:=by simpa using he
    exact ⟨x,by simp,y,by simp [hy],hk,s,hx,rfl⟩
  .rintro ⟨c,hc,y',CT,vS,s',hs,rfl⟩;rcases aY.1 CT with hyC| hyC
   .rcases aY.1 hc with We| We
    .exact .inl ((h.kC _).2 ⟨c,We,y',hyC,vS,s',hs,rfl⟩)
    .have ec:c=x:=by simpa using We
     rw [ec] at hs ⊢;have e:=List.append_inj' (hx.symm.trans hs) rfl;have:=Yr h.nm hy hyC e.1;subst this;have es:s=s':=by simpa using e.2
     subst es;exact .inr (by simp)
   .have ey:y'=x:=by simpa using hyC
    rw [ey] at hs;rcases aY.1 hc with We| We
    .obtain ⟨y2,hy2,_,s2,hs2⟩:=h.par c We (by rw [hs];simp);exact absurd (List.append_inj' (hs2.symm.trans hs) rfl).1 (kB y2 hy2)
    .have ec:c=x:=by simpa using We
     rw [ec] at hs;have:=congrArg List.length hs;simp at this
 sum:=by
  rw [hE,eQ,List.sum_append,h.sum,eQ,List.sum_append];congr 1;have:YD x=(s.size:Int):=by
   unfold YD;rw [hx,if_neg (by simp),Gv]
  simp [this]
 root:=λc hc e=>by
  rcases aY.1 hc with hc| hc;exact h.root c hc e
  .obtain rfl:c=x:=by simpa using hc
   rw [hx] at e;exact absurd e (by simp)
 has:=by
  obtain ⟨c,hc,e⟩:=h.has;exact ⟨c,by simp [hc],e⟩
 Zp:=λc hc d hd vS e=>by
  rcases aY.1 hc with We| We
  .rcases aY.1 hd with DV| DV
   .exact h.Zp c We d DV vS e
   .have ed:d=x:=by simpa using DV
    rw [ed] at e;exact absurd e (hd2 c We vS)
  .have ec:c=x:=by simpa using We
   rw [ec] at vS e ⊢;rcases aY.1 hd with DV| DV;exact absurd e (hd1 vS d DV);simpa using DV
 par:=λc hc e=>by
  rcases aY.1 hc with hc| hc
  .obtain ⟨y',CT,r⟩:=h.par c hc e;exact ⟨y',by simp [CT],r⟩
  .obtain rfl:c=x:=by simpa using hc
   exact ⟨y,by simp [hy],hk,s,hx⟩
 nm:=by
  rw [List.pairwise_append];refine ⟨h.nm,by simp,λa ha b hb=>?_⟩;obtain rfl:b=x:=by simpa using hb
  exact kB a ha
end IsB
theorem yG {x:bu} (h:Pr x=true):wL x=true/\(x.2.2.2.2.2.2.2.1=true->x.2.2.1=1):=by
 unfold Pr at h;by_cases h4:x.2.2.1=4
 .rw [if_pos h4] at h;have h':x.2.2.2.2.2.2.2.1=false:=by
   unfold ai9 at h;rw [h4] at h;simp only [beq_self_eq_true,Bool.true_and,bY,Bool.or_eq_false_iff] at h;exact h.2
  refine ⟨?_,λe=>by rw [h'] at e;cases e⟩;unfold wL;rw [if_pos h4];unfold bu.dS;have e:(x.1,x.2.1,x.2.2.1,x.2.2.2.1,x.2.2.2.2.1,x.2.2.2.2.2.1,x.2.2.2.2.2.2.1,false,())=x:=by rw [<-h']
  rw [e];exact h
 .rw [if_neg h4] at h;unfold wL;rw [if_neg h4];by_cases h1:x.2.2.1=1
  .rw [if_pos h1] at h;exact ⟨h,λ_=>h1⟩
  .rw [if_neg h1] at h;have h':x.2.2.2.2.2.2.2.1=false:=by
    unfold iR at h;simp only [h1,if_false] at h;split at h;simp only [ao,bY] at h;exact h.1.1.2
    .split at h
     simp only [ao,bY] at h;exact h.1.1.2;cases h
   refine ⟨?_,λe=>by rw [h'] at e;cases e⟩;unfold bu.dS;rw [h'] at h;exact h
namespace IsB
variable {C:List bu}
theorem make (h:IsB Y C) {x y:bu} {s:ByteArray} (hy:y∈C) (hk:y.2.2.1=1) (hx:x.1=y.1++ [s]) (hv:dA s=0) (kB:∀ c∈C,c.1≠x.1) (hm:Pr x=true):
  Y.Sm y.2.1 s x=Y.nx/\IsB (if x.2.2.2.2.2.2.2.1 then (Y.oz y.2.1 s x).fG Y.nx true else Y.oz y.2.1 s x) (C++ [x.lA Y.nx])/\(if x.2.2.2.2.2.2.2.1 then (Y.oz y.2.1 s x).fG Y.nx true else Y.oz y.2.1 s x).nx=Y.nx+1:=by
 obtain ⟨hm1,hm2⟩:=yG hm;have hE:Y.MG y.2.1 s x=0:=by
  unfold UpY.MG;rw [if_pos (h.fresh hy hk hv (λc hc=>by rw [<-hx];exact kB c hc)).1,if_pos hm1]
 have e1:Y.oz y.2.1 s x= {Y with L:=Y.L++ [Y.pV x],E:=Y.E++ [(y.2.1,s,Y.nx,())],nx:=Y.nx+1}:=by unfold UpY.oz;rw [if_pos hE]
 have hlo:∀ n∈Y.L,rM Y.nx n=false:=λn hn=>by
  have:=(h.wf.lo n hn).2;unfold rM;simp;omega
 have uo:(Y.oz y.2.1 s x).at Y.nx=Option.some (Y.pV x):=by
  rw [e1];unfold UpY.at
  simp only;rw [List.find?_append,ju.2 λn hn=>by rw [hlo n hn];simp];simp [rM,UpY.pV]
 have ok1:=Yl (n:=Y.E.length+Y.nx.toNat) ⟨h.wf,by omega,by omega⟩ y.2.1 s x;have ah5:oQ (Y.L++ [Y.pV x]) Y.nx (·.dS true)=Y.L++ [(Y.pV x).dS true]:=by
  unfold oQ;rw [eQ];congr 1
  .conv=>rhs;rw [<-List.map_id Y.L]
   exact gD λn hn=>by rw [hlo n hn];rfl
  .simp [rM,UpY.pV]
 have e2:(if x.2.2.2.2.2.2.2.1 then (Y.oz y.2.1 s x).fG Y.nx true else Y.oz y.2.1 s x)= {Y with L:=Y.L++ [(x.lA Y.nx).bare],E:=Y.E++ [(y.2.1,s,Y.nx,())],nx:=Y.nx+1}:=by
  cases ho:x.2.2.2.2.2.2.2.1 with
  | true=>
   rw [if_pos rfl];unfold UpY.fG;rw [if_pos (iE.2 ⟨_,uo,hm2 ho⟩),e1];simp only;rw [ah5];have:(Y.pV x).dS true=(x.lA Y.nx).bare:=by unfold UpY.pV bu.dS bu.lA bu.bare;rw [<-ho]
   rw [this]
  | false=>
   rw [if_neg (by simp),e1];have:Y.pV x=(x.lA Y.nx).bare:=by unfold UpY.pV bu.lA bu.bare;rw [<-ho]
   rw [this]
 have hw:({Y with L:=Y.L++ [(x.lA Y.nx).bare],E:=Y.E++ [(y.2.1,s,Y.nx,())],nx:=Y.nx+1}:UpY).Wf:=by
  rw [<-e2];split;exact (uE ok1 _ _).wf;exact ok1.wf
 refine ⟨by unfold UpY.Sm;rw [if_pos hE],?_,by rw [e2]⟩;rw [e2];refine h.more (y:=y) (s:=s) hy hk hx kB hw ?_ rfl ?_ (λc hc=>?_) (λ_ c hc=>?_) (λc hc _=>?_)
 .unfold aau;rw [show (x.lA Y.nx).2.1=Y.nx from rfl,h.akP,<-h.L];rfl
 .unfold UpY.at
  simp only;rw [List.find?_append,ju.2 λn hn=>by rw [show (x.lA Y.nx).2.1=Y.nx from rfl,hlo n hn];simp];simp [rM,bu.bare,bu.lA]
 .have hg:=h.get c hc;unfold UpY.at at hg ⊢;simp only;rw [List.find?_append,hg];rfl
 .have:=h.lt hc;show c.2.1≠Y.nx;omega
 .have:=h.lt hc;show Y.nx≠c.2.1;omega
theorem link (h:IsB Y C) {x y c0:bu} {s:ByteArray} (hy:y∈C) (hk:y.2.2.1=1) (hx:x.1=y.1++ [s]) (hv:dA s=0) (kB:∀ c∈C,c.1≠x.1) (hc0:c0∈C) (ha:x.2.2=c0.2.2) (tV:x.2.2.1≠1) (hk4:x.2.2.1≠4):
  IsB (Y.rC y.2.1 s c0.2.1) (C++ [x.lA c0.2.1])/\(Y.rC y.2.1 s c0.2.1).nx=Y.nx:=by
 have hg:=h.get c0 hc0;have hk0:c0.2.2.1≠1:=by rw [<-ha];exact tV
 have hE:Y.MM y.2.1 s c0.2.1=0:=by
  unfold UpY.MM;rw [hg,h.get y hy];simp only;rw [if_pos (h.fresh hy hk hv (λc hc=>by rw [<-hx];exact kB c hc)).1];exact if_neg hk0
 have e1:Y.rC y.2.1 s c0.2.1= {Y with E:=Y.E++ [(y.2.1,s,c0.2.1,())]}:=by unfold UpY.rC;rw [if_pos hE]
 have ok1:=(Ym (n:=Y.E.length+Y.nx.toNat) ⟨h.wf,by omega,by omega⟩ y.2.1 s c0.2.1).wf;rw [e1] at ok1 ⊢;refine ⟨h.more (x:=x.lA c0.2.1) (y:=y) (s:=s) hy hk hx kB ok1 ?_ rfl ?_ (λ_ _=>rfl) (λe=>absurd e (λq=>q.elim tV hk4)) (λc hc Vm e=>?_),rfl⟩
 .unfold aau;rw [show (x.lA c0.2.1).2.1=c0.2.1 from rfl,if_pos (h.akD hc0)];exact h.L
 .show Y.at c0.2.1=_;rw [hg];unfold bu.bare bu.lA;rw [ha]
 .have:=h.Zp c hc c0 hc0 Vm e;subst this;rw [<-ha] at Vm;exact Vm.elim tV hk4
end IsB
end Go.Lm

namespace Go.Lm
open Go
variable {Y:UpY}
theorem gh {k:Kk} {α:Type} {l:List (k.den×α)} {x:k.den} {v:α}:Kk.get k (Kk.put k l x v) x=some v:=by
 unfold Kk.get Kk.put iC qL;simp
theorem jI {k:Kk} {α:Type} {l:List (k.den×α)} {x y:k.den} {v:α} (h:y≠x):Kk.get k (Kk.put k l x v) y=Kk.get k l y:=by
 unfold Kk.get Kk.put iC qL mF;have h':¬x=y:=λe=>h e.symm;rw [List.find?_cons];simp only [h',decide_false,List.find?_filter];congr 2;funext p;by_cases h2:p.1=y;simp [h2,h];simp [h2]
theorem pw {k:Kk} {α:Type} {l:List (k.den×α)} {x:k.den} {v:α} (h:Kk.get k l x=none):(Kk.put k l x v).length=l.length+1:=by
 unfold Kk.put qL mF;rw [aq,ka.2];intro p hp;unfold Kk.get iC at h;rw [Option.map_eq_none_iff,ju] at h;have:=h p hp;simpa using this
def db:List bu->List (Int×Int)->List bu
 | [],_=>[]
 | x::r,m=>match Kk.get .int m x.2.1 with
  | some k=>x.lA k::db r m
  | none=>x.lA ((m.length:Int)+1)::db r (Kk.put .int m x.2.1 ((m.length:Int)+1))
theorem kR {x:bu} {r:List bu} {m:List (Int×Int)} {k:Int} (h:Kk.get .int m x.2.1=some k):db (x::r) m=x.lA k::db r m:=by
 conv=>lhs;unfold db
 rw [h]
theorem jF {x:bu} {r:List bu} {m:List (Int×Int)} (h:Kk.get .int m x.2.1=none):db (x::r) m=x.lA ((m.length:Int)+1)::db r (Kk.put .int m x.2.1 ((m.length:Int)+1)):=by
 conv=>lhs;unfold db
 rw [h]
theorem Vi (a b:Int) {x:bu} (hx:x.1= []) (hk:x.2.2.1=1) (hm:Pr x=true):
  IsB (if x.2.2.2.2.2.2.2.1 then (((UpY.new a b).gK 1 x.2.2.2.1).fm 1 x.2.2.2.2.2.2.1).fG 1 true else ((UpY.new a b).gK 1 x.2.2.2.1).fm 1 x.2.2.2.2.2.2.1) [x.lA 1]
  /\(if x.2.2.2.2.2.2.2.1 then (((UpY.new a b).gK 1 x.2.2.2.1).fm 1 x.2.2.2.2.2.2.1).fG 1 true else ((UpY.new a b).gK 1 x.2.2.2.1).fm 1 x.2.2.2.2.2.2.1).nx=2:=by
 obtain ⟨hm1,_⟩:=yG hm;obtain ⟨p,i,k,at',dt,tg,xs,op,u⟩:=x;simp only at hx hk;subst hx hk;unfold wL bu.dS iR at hm1;simp only [show ¬(1:Int)=4 by decide,if_false,if_true,ao,beq_iff_eq,Bool.not_false,and_true] at hm1;obtain ⟨⟨⟨h1,h2⟩,h3⟩,h4⟩:=hm1;have hdt:dt= []:=aJ (by omega);unfold noB at h2;have htg:=jQ.1 h2;subst hdt htg;have e1:(UpY.new a b).gK 1 at'=⟨a,b,[([],1,1,at',[],⟨#[]⟩,[],false,())],[],2⟩:=by
  have:(UpY.new a b).BN 1 at'=0:=by
   have hma:Yx at'=true:=h3;show (if (1:Int)=4\/Yx at'=false then (1:Int) else 0)=0
   rw [hma];rfl
  unfold UpY.gK;rw [if_pos this];rfl
 have e2:((UpY.new a b).gK 1 at').fm 1 xs=⟨a,b,[([],1,1,at',[],⟨#[]⟩,xs,false,())],[],2⟩:=by
  rw [e1];have:(⟨a,b,[([],1,1,at',[],⟨#[]⟩,[],false,())],[],2⟩:UpY).uY 1 xs=0:=by
   show (if (1:Int)=4\/eI xs=false then (1:Int) else 0)=0
   rw [h4];rfl
  unfold UpY.fm;rw [if_pos this];rfl
 have ok:=D8 (Mx (adf a b) 1 at') 1 xs;have e3:(if op then (((UpY.new a b).gK 1 at').fm 1 xs).fG 1 true else ((UpY.new a b).gK 1 at').fm 1 xs)=⟨a,b,[([],1,1,at',[],⟨#[]⟩,xs,op,())],[],2⟩:=by
  cases op with
  | true=>
   rw [if_pos rfl,e2];unfold UpY.fG;rw [if_pos (show (⟨a,b,[([],1,1,at',[],⟨#[]⟩,xs,false,())],[],2⟩:UpY).lu 1=0 from rfl)];rfl
  | false=>rw [if_neg (by simp),e2]
 have hw:(⟨a,b,[([],1,1,at',[],⟨#[]⟩,xs,op,())],[],2⟩:UpY).Wf:=by
  rw [<-e3];split;exact (uE ok _ _).wf;exact ok.wf
 simp only;rw [e3];refine ⟨⟨hw,rfl,λc hc=>?_,λe=>⟨λhe=>(by cases he),?_⟩,rfl,λc hc _=>?_,⟨_,aR.2 rfl,rfl⟩,λc hc d hd _ _=>?_,λc hc e=>?_,by simp⟩,rfl⟩
 .obtain rfl:=aR.1 hc;rfl
 .rintro ⟨c,hc,y,hy,_,s,hs,_⟩;obtain rfl:=aR.1 hc;have:=congrArg List.length hs;simp [bu.lA] at this
 .obtain rfl:=aR.1 hc;rfl
 .obtain rfl:=aR.1 hc;exact aR.1 hd
 .obtain rfl:=aR.1 hc;exact absurd rfl e
structure TV (L:List bu):Prop where
 nm:∀ x∈L,∀ s∈x.1,dA s=0
 ord:L.Pairwise λa b=>cmpL a.1 b.1< 0
 root:∃ x∈L,x.1= []
 aeS:∀ x∈L,x.1= []->x.2.2.1=1
 par:∀ x∈L,x.1.length≠0->∃ y∈L,y.2.2.1=1/\y.1=x.1.take (x.1.length - 1)
 may:∀ x∈L,Pr x=true
 one:L.Pairwise λa b=>a.2.1=b.2.1->b.2.2.1≠1/\b.2.2.1≠4/\b.2.2=a.2.2
structure TW (Y:UpY) (C D:List bu) (m mm:List (Int×Int)):Prop where
 b:IsB Y C
 get:∀ i,Kk.get .int m i=Kk.get .int mm i
 aeI:C=D.map λy=>y.lA ((Kk.get .int mm y.2.1).getD 0)
 key:∀ i,(Kk.get .int mm i).isSome=true↔∃ y∈D,y.2.1=i
 len:(mm.length:Int)+1=Y.nx
theorem Dc (a:List ByteArray):¬cmpL a []< 0:=by cases a<;>(unfold cmpL;decide)
theorem Jt:∀ (R D:List bu) {Y:UpY} {C:List bu} {m mm:List (Int×Int)},TV (D++R)->D≠ []->TW Y C D m mm->IsB (C5 R m Y) (C++db R mm)
 | [],D,Y,C,m,mm,_,_,h=>by
  rw [show db [] mm= [] from rfl,aW];exact h.b
 | x::R,D,Y,C,m,mm,g,hD,h=>by
  have hxm:x∈D++x::R:=by simp
  have ord:=List.pairwise_append.1 g.ord;have hDx:∀ d∈D,cmpL d.1 x.1< 0:=λd hd=>ord.2.2 d hd x aX;have hx0:x.1.length≠0:=λe=>by
   obtain ⟨d,hd⟩:=List.exists_mem_of_ne_nil D hD;have:=hDx d hd;rw [aJ e] at this;exact Dc _ this
  obtain ⟨y,hy,hyk,hyn⟩:=g.par x hxm hx0;have GB:=BH hx0;rw [<-hyn] at GB;have hyx:cmpL y.1 x.1< 0:=by rw [GB];exact Zu _ _ _
  have hyD:y∈D:=by
   rcases aY.1 hy with h1| h1;exact h1
   .rcases bm.1 h1 with h1| h1
    .rw [h1,jV] at hyx;omega
    .have:=(jt.1 ord.2.1).1 y h1;have:=nV x.1 y.1;omega
  have hC:∀ d∈D,d.lA ((Kk.get .int mm d.2.1).getD 0)∈C:=λd hd=>by rw [h.aeI];exact aP.2 ⟨d,hd,rfl⟩
  have hcy:=hC y hyD;generalize alv:y.lA ((Kk.get .int mm y.2.1).getD 0)=cy at hcy;have alw:cy.1=y.1:=by rw [<-alv];rfl
  have alu:cy.2.2.1=1:=by rw [<-alv];exact hyk
  have yL:x.1=cy.1++ [o5 x.1]:=by rw [alw];exact GB
  have kB:∀ c∈C,c.1≠x.1:=λc hc e=>by
   rw [h.aeI] at hc;obtain ⟨d,hd,rfl⟩:=aP.1 hc;have:=hDx d hd;rw [show d.1=x.1 from e,jV] at this;omega
  have hv:dA (o5 x.1)=0:=g.nm x hxm _ (by rw [yL,Gv];simp);have ali:=g.may x hxm;have hf:(Y.iD (x.1.take (x.1.length - 1)) 1).1=cy.2.1:=by
   rw [<-hyn,<-alw,h.b.afv _ cy hcy (ay _)]
  have g':TV ((D++ [x])++R):=by rw [aG];exact g
  have hD':D++ [x]≠ []:=by simp
  have Wd:zY Y m x=match Kk.get .int m x.2.1 with
   | some r=>(r,Y.rC cy.2.1 (o5 x.1) r)
   | none=>(Y.Sm cy.2.1 (o5 x.1) x,Y.oz cy.2.1 (o5 x.1) x):=by
   unfold zY;rw [if_neg hx0,hf];rfl
  unfold C5;have hmg:=h.get x.2.1;cases hg:Kk.get .int mm x.2.1 with
  | some r=>
   rw [kR hg];rw [hg] at hmg;rw [hmg] at Wd;simp only at Wd;obtain ⟨d,hd,J3⟩:=(h.key x.2.1).1 (by rw [hg];rfl);have hc0:=hC d hd;rw [J3,hg] at hc0;have oS:=(List.pairwise_append.1 g.one).2.2 d hd x aX J3;obtain ⟨l1,l2⟩:=h.b.link (x:=x) hcy alu yL hv kB hc0 oS.2.2 oS.1 oS.2.1;have l1:IsB (Y.rC cy.2.1 (o5 x.1) r) (C++ [x.lA r]):=l1;have l2:(Y.rC cy.2.1 (o5 x.1) r).nx=Y.nx:=l2;have hop:x.2.2.2.2.2.2.2.1=false:=by
    cases ho:x.2.2.2.2.2.2.2.1 with
    | false=>rfl
    | true=>exact absurd ((yG ali).2 ho) oS.1
   have hfy:w9 Y m x=Y.rC cy.2.1 (o5 x.1) r:=by
    unfold w9;rw [hop,Wd];rfl
   rw [hfy,Wd];simp only;have st:TW (Y.rC cy.2.1 (o5 x.1) r) (C++ [x.lA r]) (D++ [x]) (Kk.put .int m x.2.1 r) mm:=by
    refine ⟨l1,λi=>?_,?_,λi=>?_,by rw [l2];exact h.len⟩
    .by_cases hi:i=x.2.1
     .rw [hi,gh,hg]
     .rw [jI hi,h.get i]
    .rw [eQ,<-h.aeI];simp [hg]
    .rw [h.key i];constructor
     .rintro ⟨z,hz,e⟩;exact ⟨z,by simp [hz],e⟩
     .rintro ⟨z,hz,e⟩;rcases aY.1 hz with hz| hz
      .exact ⟨z,hz,e⟩
      .obtain rfl:=aR.1 hz;exact ⟨d,hd,J3.trans e⟩
   have:=Jt R (D++ [x]) g' hD' st
   rwa [aG] at this
  | none=>
   rw [jF hg];rw [hg] at hmg;rw [hmg] at Wd;simp only at Wd;obtain ⟨k1,k2,k3⟩:=h.b.make (x:=x) hcy alu yL hv kB ali;rw [k1] at Wd;have hfy:w9 Y m x=if x.2.2.2.2.2.2.2.1 then (Y.oz cy.2.1 (o5 x.1) x).fG Y.nx true else Y.oz cy.2.1 (o5 x.1) x:=by
    unfold w9;rw [Wd]
   rw [<-hfy] at k2 k3;rw [Wd];simp only;rw [h.len];have st:TW (w9 Y m x) (C++ [x.lA Y.nx]) (D++ [x]) (Kk.put .int m x.2.1 Y.nx) (Kk.put .int mm x.2.1 Y.nx):=by
    refine ⟨k2,λi=>?_,?_,λi=>?_,?_⟩
    .by_cases hi:i=x.2.1
     .rw [hi,gh,gh]
     .rw [jI hi,jI hi,h.get i]
    .rw [eQ];congr 1
     .rw [h.aeI];refine gD λd hd=>?_;have:d.2.1≠x.2.1:=λe=>by
       have:=(h.key x.2.1).2 ⟨d,hd,e⟩;rw [hg] at this;cases this
      rw [jI this]
     .simp [gh]
    .by_cases hi:i=x.2.1
     .rw [hi,gh];exact ⟨λ_=>⟨x,by simp,rfl⟩,λ_=>rfl⟩
     .rw [jI hi,h.key i];constructor
      .rintro ⟨z,hz,e⟩;exact ⟨z,by simp [hz],e⟩
      .rintro ⟨z,hz,e⟩;rcases aY.1 hz with hz| hz
       .exact ⟨z,hz,e⟩
       .obtain rfl:=aR.1 hz;exact absurd e.symm hi
    .rw [pw hg,k3,<-h.len];simp
   have:=Jt R (D++ [x]) g' hD' st
   rwa [aG] at this
theorem Zg (a b:Int) {L:List bu} (g:TV L):IsB (C5 L [] (UpY.new a b)) (db L []):=by
 obtain ⟨ρ,hρ,e0⟩:=g.root;cases L with
 | nil=>cases hρ
 | cons x R=>
  have hx:x.1= []:=by
   rcases bm.1 hρ with e| h;rw [<-e];exact e0
   .have:=(jt.1 g.ord).1 ρ h;rw [e0] at this;exact absurd this (Dc _)
  obtain ⟨f1,f2⟩:=Vi a b hx (g.aeS x aX hx) (g.may x aX);have hr:zY (UpY.new a b) [] x=(1,((UpY.new a b).gK 1 x.2.2.2.1).fm 1 x.2.2.2.2.2.2.1):=by
   unfold zY;rw [hx];rfl
  have hy:w9 (UpY.new a b) [] x=if x.2.2.2.2.2.2.2.1 then (((UpY.new a b).gK 1 x.2.2.2.1).fm 1 x.2.2.2.2.2.2.1).fG 1 true else ((UpY.new a b).gK 1 x.2.2.2.1).fm 1 x.2.2.2.2.2.2.1:=by
   unfold w9;rw [hr]
  rw [<-hy] at f1 f2;unfold C5;have e1:Kk.get .int ([]:List (Int×Int)) x.2.1=none:=rfl;rw [jF e1,hr];simp only [aM];have st:TW (w9 (UpY.new a b) [] x) [x.lA 1] [x] (Kk.put .int [] x.2.1 1) (Kk.put .int [] x.2.1 1):=by
   refine ⟨f1,λ_=>rfl,by simp [gh],λi=>?_,by rw [f2];rfl⟩;by_cases hi:i=x.2.1
   .rw [hi,gh];exact ⟨λ_=>⟨x,by simp,rfl⟩,λ_=>rfl⟩
   .rw [jI hi];constructor
    .intro h;cases h
    .rintro ⟨z,hz,e⟩;obtain rfl:=aR.1 hz;exact absurd e.symm hi
  exact Jt R [x] g (by simp) st
end Go.Lm

namespace Go.Lm
open Go
variable {Y:UpY}
def jE:List bu->List (Int×Int)->List (Int×Int)
 | [],m=>m
 | x::r,m=>match Kk.get .int m x.2.1 with
  | some _=>jE r m
  | none=>jE r (Kk.put .int m x.2.1 ((m.length:Int)+1))
theorem jc {x:bu} {r:List bu} {m:List (Int×Int)} {k:Int} (h:Kk.get .int m x.2.1=some k):jE (x::r) m=jE r m:=by
 conv=>lhs;unfold jE
 rw [h]
theorem jd {x:bu} {r:List bu} {m:List (Int×Int)} (h:Kk.get .int m x.2.1=none):jE (x::r) m=jE r (Kk.put .int m x.2.1 ((m.length:Int)+1)):=by
 conv=>lhs;unfold jE
 rw [h]
theorem qN:∀ (a b:List bu) (m:List (Int×Int)),db (a++b) m=db a m++db b (jE a m)/\jE (a++b) m=jE b (jE a m)
 | [],_,_=>⟨rfl,rfl⟩
 | x::a,b,m=>by
  rw [eO];cases hg:Kk.get .int m x.2.1 with
  | some k=>
   rw [kR hg,jc hg,kR hg,jc hg,(qN a b m).1,(qN a b m).2];exact ⟨rfl,rfl⟩
  | none=>
   rw [jF hg,jd hg,jF hg,jd hg,(qN a b _).1,(qN a b _).2];exact ⟨rfl,rfl⟩
theorem jS:∀ (a:List bu) (m:List (Int×Int)),(db a m).length=a.length
 | [],_=>rfl
 | x::a,m=>by
  cases hg:Kk.get .int m x.2.1 with
  | some k=>rw [kR hg,aq,aq,jS a]
  | none=>rw [jF hg,aq,aq,jS a]
theorem wH:∀ (a:List bu) (m:List (Int×Int)),(jE a m).length<=m.length+a.length
 | [],_=>ay _
 | x::a,m=>by
  cases hg:Kk.get .int m x.2.1 with
  | some k=>
   rw [jc hg,aq];have:=wH a m;omega
  | none=>
   rw [jd hg,aq];have:=wH a (Kk.put .int m x.2.1 ((m.length:Int)+1));rw [pw hg] at this;omega
namespace IsB
variable {C:List bu}
end IsB
theorem pU:∀ (L:List bu) (m:List (Int×Int)),(db L m).map (λc=>(c.1,c.2.2))=L.map λc=>(c.1,c.2.2)
 | [],_=>rfl
 | x::L,m=>by
  cases hg:Kk.get .int m x.2.1 with
  | some k=>rw [kR hg,bX,bX,pU L];rfl
  | none=>rw [jF hg,bX,bX,pU L];rfl
theorem ada {L:List bu} {m:List (Int×Int)} (h:L.Pairwise λa b=>cmpL a.1 b.1< 0):(db L m).Pairwise λa b=>cmpL a.1 b.1< 0:=by
 have e:=pU L m;have h1:(L.map λc=>(c.1,c.2.2)).Pairwise λa b=>cmpL a.1 b.1< 0:=mL.2 h;rw [<-e] at h1;exact mL.1 h1
theorem IU {L:List bu} {m:List (Int×Int)} {c:bu} (h:c∈db L m):∃ x∈L,x.1=c.1/\x.2.2=c.2.2:=by
 have e:=pU L m;have h1:(c.1,c.2.2)∈(db L m).map λc=>(c.1,c.2.2):=aP.2 ⟨c,h,rfl⟩;rw [e] at h1;obtain ⟨x,hx,e2⟩:=aP.1 h1;exact ⟨x,hx,(Prod.mk.inj e2).1,(Prod.mk.inj e2).2⟩
end Go.Lm

namespace Go.Lm
open Go
theorem tA (x y:ByteArray):uB x y=decide (fx x y< 0):=by
 unfold uB;rcases jK x y with ⟨h,e⟩| ⟨h,e⟩| ⟨h,e⟩<;>rw [e];rw [h];rfl;rw [h,re];rfl;rw [td h];rfl
theorem yU {x y:ByteArray} (h:fx x y=0):x=y:=by
 have:=AO h;rw [Lib.toList_data,Lib.toList_data] at this;exact BC this
theorem yV (x y:ByteArray) (a b:List ByteArray):cmpL (x::a) (y::b)=if fx x y=0 then cmpL a b else fx x y:=rfl
theorem tL:∀ (L:List bu) {m:List (Int×Int)} {i z:Int},Kk.get .int m i=some z->Kk.get .int (jE L m) i=some z
 | [],_,_,_,h=>h
 | x::L,m,i,z,h=>by
  cases hg:Kk.get .int m x.2.1 with
  | some k=>rw [jc hg];exact tL L h
  | none=>
   rw [jd hg];refine tL L ?_;have:i≠x.2.1:=λe=>by rw [e,hg] at h;cases h
   rw [jI (k:=.int) this];exact h
theorem IT:∀ (L:List bu) {m:List (Int×Int)},(∀ i z,Kk.get .int m i=some z->1<=z)->∀ i z,Kk.get .int (jE L m) i=some z->1<=z
 | [],_,h,i,z,hz=>h i z hz
 | x::L,m,h,i,z,hz=>by
  cases hg:Kk.get .int m x.2.1 with
  | some k=>rw [jc hg] at hz;exact IT L h i z hz
  | none=>
   rw [jd hg] at hz;refine IT L (λj y hy=>?_) i z hz;by_cases hj:j=x.2.1
   .rw [hj,gh] at hy;obtain rfl:=aj hy;omega
   .rw [jI (k:=.int) hj] at hy;exact h j y hy
theorem AI:∀ (L:List bu) (m:List (Int×Int)) (j:Nat) (hj:j< L.length),Kk.get .int (jE L m) (L[j]).2.1=some ((db L m)[j]'(by rw [jS];exact hj)).2.1
 | [],_,_,h=>by simp at h
 | x::L,m,j,hj=>by
  cases hg:Kk.get .int m x.2.1 with
  | some k=>
   have e:=kR (r:=L) hg;simp only [jc hg,e];cases j with
   | zero=>exact tL L hg
   | succ j=>exact AI L m j (by simpa using hj)
  | none=>
   have e:=jF (r:=L) hg;simp only [jd hg,e];cases j with
   | zero=>exact tL L gh
   | succ j=>exact AI L _ j (by simpa using hj)
theorem Yp {L:List bu} {x:bu} {v:Int} (h:Kk.get .int (jE L []) x.2.1=some v\/(Kk.get .int (jE L []) x.2.1=none/\v=((jE L []).length:Int)+1)):db (L++ [x]) []=db L []++ [x.lA v]/\((jE (L++ [x]) []).length:Int)=if Kk.get .int (jE L []) x.2.1=none then ((jE L []).length:Int)+1 else (jE L []).length:=by
 rw [(qN L [x] []).1,(qN L [x] []).2];rcases h with h| ⟨h,rfl⟩
 .rw [kR h,jc h,if_neg (by rw [h];simp)];exact ⟨rfl,rfl⟩
 .rw [jF h,jd h,if_pos h];refine ⟨rfl,?_⟩;show ((Kk.put .int _ _ _).length:Int)=_;rw [pw h];simp
theorem Uu {L:List bu} (h:L.Pairwise λx y=>¬cmpL y.1 x.1< 0) (hn:L.Pairwise λa b=>a.1≠b.1):L.Pairwise λa b=>cmpL a.1 b.1< 0:=by
 refine (h.imp₂ (λa b h1 h2=>?_) hn);have s:=nV a.1 b.1;by_cases e:cmpL a.1 b.1=0;exact absurd (cmpL_zero e) h2;omega
where
 cmpL_zero:∀ {a b:List ByteArray},cmpL a b=0->a=b
  | [],[],_=>rfl
  | [],_::_,h=>by cases h
  | _::_,[],h=>by cases h
  | x::a,y::b,h=>by
   rw [yV] at h;split at h
   .rename_i e;rw [yU e,cmpL_zero h]
   .rename_i e;exact absurd h e
theorem Pp {n:Int} (h0:0<=n) (h1:n< 4611686018427387904):IntKind.wrap .i64 (kD .u64 (IntKind.wrap .u64 n) 1)=n / 2:=by
 have e1:IntKind.wrap .u64 n=n:=oW (by simp [Lit.wf,IntKind.min,kc,eH,gY];omega);have e2:kD .u64 n 1=n / 2:=by
  unfold kD;rw [Int.fdiv_eq_ediv_of_nonneg _ (by decide)];rfl
 rw [e1,e2];exact wrap64 (by omega) (by omega)
structure nC (L:List bu) (x:List Int):Prop where
 inr:∀ y∈x,0<=y/\y< (L.length:Int)
 ord:∀ i j:Int,0<=i->i< j->j< (x.length:Int)->¬cmpL (aK noTy L (aK (.int .i64) x j)).1 (aK noTy L (aK (.int .i64) x i)).1< 0
theorem nC.at {L:List bu} {x:List Int} (h:nC L x) {i:Int} (h0:0<=i) (h1:i< (x.length:Int)):0<=(aK (.int .i64) x i:Int)/\(aK (.int .i64) x i:Int)< (L.length:Int):=h.inr _ (uF (e:=.int .i64) h0 h1)
theorem nC.of {L:List bu} {x:List Int} (hs:L.Pairwise λa b=>cmpL a.1 b.1< 0) (hx:x.Pairwise λa b=>a< b) (yM:∀ y∈x,0<=y/\y< (L.length:Int)):nC L x:=⟨yM,λi j h0 h1 h2 hc=>by
 have hi:i< (x.length:Int):=by omega
 have a1:=yM _ (uF (e:=.int .i64) h0 hi);have a2:=yM _ (uF (e:=.int .i64) (i:=j) (by omega) h2);have eK:(aK (.int .i64) x i:Int)< aK (.int .i64) x j:=by
  rw [gV (e:=.int .i64) h0 hi,gV (e:=.int .i64) (by omega) h2];exact dj.1 hx _ _ _ _ (by omega)
 have key:∀ u v:Int,0<=u->u< v->v< (L.length:Int)->¬cmpL (aK noTy L v).1 (aK noTy L u).1< 0:=λu v u0 uv v1 hc=>by
  have:=dj.1 hs u.toNat v.toNat (by omega) (by omega) (by omega);rw [gV (e:=noTy) u0 (by omega),gV (e:=noTy) (by omega) v1] at hc;have h3:=nV (L[u.toNat]'(by omega)).1 (L[v.toNat]'(by omega)).1;omega
 exact key _ _ a1.1 eK a2.2 hc⟩
def Aq (p:List ByteArray) (x:bu):Bool:=((x.1.length:Int)==(p.length:Int)+1)&& (decide ((x.1.length:Int)>(p.length:Int))&& iX (x.1.take p.length) p)
def dz (p:List ByteArray):List bu->Int->List Int
 | [],_=>[]
 | x::r,k=>if Aq p x then k::dz p r (k+1) else dz p r (k+1)
theorem o6 (p:List ByteArray) (x:bu) (r:List bu) (k:Int):dz p (x::r) k=(if Aq p x then [k] else [])++dz p r (k+1):=by
 conv=>lhs;unfold dz
 split<;>rfl
theorem oB (p:List ByteArray):∀ {L:List bu} {k y:Int},y∈dz p L k↔∃ j:Nat,∃ h:j< L.length,y=k+j/\Aq p L[j]=true
 | [],k,y=>by simp [dz]
 | x::r,k,y=>by
  rw [o6,aY,oB p (L:=r)];constructor
  .rintro (h| ⟨j,hj,e,hk⟩)
   .by_cases hx:Aq p x=true
    .rw [if_pos hx] at h;obtain rfl:=aR.1 h;exact ⟨0,by simp,by omega,hx⟩
    .rw [if_neg hx] at h;cases h
   .exact ⟨j+1,by simpa using hj,by omega,hk⟩
  .rintro ⟨j,hj,e,hk⟩;cases j with
   | zero=>
    left;have hk:Aq p x=true:=hk;rw [if_pos hk,e];simp
   | succ j=>exact .inr ⟨j,by simpa using hj,by omega,hk⟩
theorem pX (p:List ByteArray):∀ {L:List bu} {k:Int},(dz p L k).Pairwise λa b=>a< b
 | [],_=>List.Pairwise.nil
 | x::r,k=>by
  rw [o6];split
  .refine jt.2 ⟨λy hy=>?_,pX p⟩;obtain ⟨j,_,e,_⟩:=(oB p).1 hy;omega
  .exact pX p
theorem kU (p:List ByteArray):∀ {L:List bu} {k:Int},(dz p L k).length<=L.length
 | [],_=>ay _
 | x::r,k=>by
  rw [o6,af,aq];have:=kU p (L:=r) (k:=k+1);split;simp only [aD];omega;simp only [aM];omega
theorem YE {L:List bu} (hs:L.Pairwise λa b=>cmpL a.1 b.1< 0) (p:List ByteArray):nC L (dz p L 0):=.of hs (pX p) λy hy=>by
 obtain ⟨j,hj,e,_⟩:=(oB p).1 hy;omega
def mh (L:List bu) (i:Int):Nat:=L.countP (rM i)
structure RAt (fs:List (List UInt8)) (R:List UInt8) (o:Nat) (r:Int):Prop where
 le:o<=R.length
 ref:∀ gs,r=(dU (fs++gs) o:Nat)
structure Has (fs:List (List UInt8)) (R:List UInt8) (r:Int) (b:List UInt8):Prop where
 ex:∃ o q,RAt fs R o r/\R.drop o=b++q
theorem Has.app {fs:List (List UInt8)} {R:List UInt8} {r:Int} {b:List UInt8} (h:Has fs R r b) (gs:List (List UInt8)) (S:List UInt8):Has (fs++gs) (R++S) r b:=by
 obtain ⟨o,q,h1,h2⟩:=h;exact ⟨o,q++S,⟨by rw [af];have:=h1.le;omega,λhs=>by rw [aG];exact h1.ref _⟩,by rw [da h1.le,h2,aG]⟩
theorem Has.new {fs fs':List (List UInt8)} {R b:List UInt8} {r:Nat} (h:∀ gs,r=dU (fs++gs) R.length):Has (fs++fs') (R++b) (r:Int) b:=
 ⟨R.length,[],⟨by rw [af];omega,λgs=>by rw [aG];exact congrArg _ (h _)⟩,by rw [eV,aW]⟩
structure BS where
 RI:List UInt8
 fI:List (List UInt8)
 RL:List UInt8
 fL:List (List UInt8)
 RX:List UInt8
 fX:List (List UInt8)
 Mr:List (Int×Int)
 Ms:List (ByteArray×Int)
structure BS.Le (s t:BS):Prop where
 RI:∃ c,t.RI=s.RI++c
 fI:∃ c,t.fI=s.fI++c
 RL:∃ c,t.RL=s.RL++c
 fL:∃ c,t.fL=s.fL++c
 RX:∃ c,t.RX=s.RX++c
 fX:∃ c,t.fX=s.fX++c
 Mr:∀ i r,Kk.get .int s.Mr i=some r->Kk.get .int t.Mr i=some r
theorem zi {α:Type} {a b c:List α} (h:∃ x,b=a++x) (k:∃ x,c=b++x):∃ x,c=a++x:=by
 obtain ⟨x,rfl⟩:=h;obtain ⟨y,rfl⟩:=k;exact ⟨x++y,aG ..⟩
theorem BS.Le.refl (s:BS):BS.Le s s:=⟨⟨[],by simp⟩,⟨[],by simp⟩,⟨[],by simp⟩,⟨[],by simp⟩,⟨[],by simp⟩,⟨[],by simp⟩,λ_ _ h=>h⟩
theorem BS.Le.trans {s t u:BS} (h:BS.Le s t) (k:BS.Le t u):BS.Le s u:=⟨zi h.RI k.RI,zi h.fI k.fI,zi h.RL k.RL,zi h.fL k.fL,zi h.RX k.RX,zi h.fX k.fX,λi r q=>k.Mr i r (h.Mr i r q)⟩
theorem Has.le {fs gs:List (List UInt8)} {R S:List UInt8} {r:Int} {b:List UInt8} (h:Has fs R r b) (hf:∃ c,gs=fs++c) (hr:∃ c,S=R++c):Has gs S r b:=by
 obtain ⟨c,rfl⟩:=hf;obtain ⟨d,rfl⟩:=hr;exact h.app c d
structure VW (fX:List (List UInt8)) (RX:List UInt8) (x:Int) (l:List xt):Prop where
 or:(l= []/\x=0)\/(l≠ []/\1<=x/\Has fX RX (x - 1) (xsB l))
 le:0<=x/\x<=4294967295
structure o9 (fX:List (List UInt8)) (RX:List UInt8) (Ms:List (ByteArray×Int)):Prop where
 all:∀ p∈Ms,(0<=p.2/\p.2<=4294967294)/\Has fX RX p.2 p.1.data.toList
theorem o9.le {fX gX:List (List UInt8)} {RX SX:List UInt8} {Ms:List (ByteArray×Int)} (h:o9 fX RX Ms) (hf:∃ c,gX=fX++c) (hr:∃ c,SX=RX++c):o9 gX SX Ms:=⟨λp hp=>⟨(h.all p hp).1,(h.all p hp).2.le hf hr⟩⟩
theorem o9.put {fX:List (List UInt8)} {RX:List UInt8} {Ms:List (ByteArray×Int)} (h:o9 fX RX Ms) {b:List UInt8} {r:Int} (h0:0<=r/\r<=4294967294) (hb:Has fX RX r b):o9 fX RX (Kk.put .str Ms (fD b) r):=⟨λp hp=>by
 rcases bm.1 hp with rfl| hp;exact ⟨h0,by rw [tb];exact hb⟩
 .exact h.all p (fO.1 hp).1⟩
theorem o9.get {fX:List (List UInt8)} {RX:List UInt8} {Ms:List (ByteArray×Int)} (h:o9 fX RX Ms) {b:List UInt8} {r:Int} (hg:Kk.get .str Ms (fD b)=some r):(0<=r/\r<=4294967294)/\Has fX RX r b:=by
 have:=h.all _ (oF (κ:=ByteArray) hg);rw [tb] at this;exact this
def fZ (L:List bu) (Mr:List (Int×Int)) (d:Nat):List Int->List dh.den->Prop
 | [],[]=>True
 | k::ks,e::es=>e.1=(aK noTy L k).1.getD d ⟨#[]⟩/\e.2.1=(aK noTy L k).2.2.1/\Kk.get .int Mr (aK noTy L k).2.1=some e.2.2.1/\fZ L Mr d ks es
 | _,_=>False
theorem fZ.le {L:List bu} {M N:List (Int×Int)} {d:Nat} (hk:∀ i r,Kk.get .int M i=some r->Kk.get .int N i=some r):∀ {ks:List Int} {es:List dh.den},fZ L M d ks es->fZ L N d ks es
 | [],[],h=>h
 | _::_,_::_,⟨h1,h2,h3,h4⟩=>⟨h1,h2,hk _ _ h3,fZ.le hk h4⟩
 | [],_::_,h=>h
 | _::_,[],h=>h
theorem fZ.snoc {L:List bu} {M:List (Int×Int)} {d:Nat} {k:Int} {e:dh.den}:∀ {ks:List Int} {es:List dh.den},fZ L M d ks es->fZ L M d [k] [e]->fZ L M d (ks++ [k]) (es++ [e])
 | [],[],_,h=>h
 | _::_,_::_,⟨h1,h2,h3,h4⟩,h=>⟨h1,h2,h3,fZ.snoc h4 h⟩
 | [],_::_,h,_=>h.elim
 | _::_,[],h,_=>h.elim
theorem fZ.len {L:List bu} {M:List (Int×Int)} {d:Nat}:∀ {ks:List Int} {es:List dh.den},fZ L M d ks es->es.length=ks.length
 | [],[],_=>rfl
 | _::_,_::_,⟨_,_,_,h4⟩=>by rw [aq,aq,fZ.len h4]
 | [],_::_,h=>h.elim
 | _::_,[],h=>h.elim
structure rj (L:List bu) (ids:List Int) (F:List (Int×eE.den)) (s:BS) (x:bu) (i:eE.den):Prop where
 ok:oO i
 kind:i.1=x.2.2.1
 mode:i.2.1=x.2.2.2.1.1
 uid:ids[(i.2.2.1:Int).toNat]?=some (uS x)
 gid:ids[(i.2.2.2.1:Int).toNat]?=some (yN x)
 lnk:(i.2.2.2.2.1:Int)=(mh L x.2.1:Nat)
 xa:VW s.fX s.RX i.2.2.2.2.2.1 x.2.2.2.2.2.2.1
 or:(x.2.2.1=1/\∃ es,iG ⟨#[]⟩ es/\fZ L s.Mr x.1.length (dz x.1 L 0) es/\Has s.fL s.RL i.2.2.2.2.2.2.1 (gN es)/\(i.2.2.2.2.2.2.2.1:Int)=(gN es).length)\/
  (x.2.2.1=2/\Kk.get .int F x.2.1=some (0,0,0,0,0,0,i.2.2.2.2.2.2.1,i.2.2.2.2.2.2.2.1,i.2.2.2.2.2.2.2.2.1,i.2.2.2.2.2.2.2.2.2.1,⟨#[]⟩,()))\/
  (x.2.2.1=3/\i.2.2.2.2.2.2.2.2.2.2.1=x.2.2.2.2.2.1)
theorem rj.le {L:List bu} {ids:List Int} {F:List (Int×eE.den)} {s t:BS} {x:bu} {i:eE.den} (h:rj L ids F s x i) (k:BS.Le s t):rj L ids F t x i:=by
 refine ⟨h.ok,h.kind,h.mode,h.uid,h.gid,h.lnk,⟨?_,h.xa.le⟩,?_⟩
 .rcases h.xa.or with q| ⟨q,r⟩
  .exact .inl q
  .exact .inr ⟨q,r.1,r.2.le k.fX k.RX⟩
 .rcases h.or with ⟨q,es,r1,r2,r3,r4⟩| q| q
  .exact .inl ⟨q,es,r1,r2.le k.Mr,r3.le k.fL k.RL,r4⟩
  .exact .inr (.inl q)
  .exact .inr (.inr q)
structure DP (L:List bu) (ids:List Int) (F:List (Int×eE.den)) (s:BS) (e:Nat):Prop where
 refs:∀ i r,Kk.get .int s.Mr i=some r->(0<=r/\r<=4294967295)/\∃ x∈L,x.2.1=i/\∃ rec,Has s.fI s.RI r (fK rec)/\rj L ids F s x rec
 acK:o9 s.fX s.RX s.Ms
 inj:∀ i j r,Kk.get .int s.Mr i=some r->Kk.get .int s.Mr j=some r->i=j
 keys:∃ V:List Nat,V.Nodup/\(∀ v∈V,v< L.length)/\s.Mr.map (·.1)=V.map λv:Nat=>(aK noTy L (v:Int)).2.1
 lI:s.RI.length<=220*s.Mr.length
 lL:s.RL.length<=10500*(s.Mr.length+e)
 lX:s.RX.length<=4200*s.Mr.length
 kn:(s.Mr.map (·.1)).Nodup
theorem DP.len {L:List bu} {ids:List Int} {F:List (Int×eE.den)} {s:BS} {e:Nat} (h:DP L ids F s e):s.Mr.length<=L.length:=by
 obtain ⟨V,h1,h2,h3⟩:=h.keys;have:=pig h1 h2;have e:=congrArg List.length h3;rw [bH,bH] at e;omega
theorem sa {T:List Int} {x y R:List UInt8} {fs:List (List UInt8)} (h:MW T x y R fs):dU fs R.length<=270*R.length+128:=by
 have h1:=h.g.abR;have h2:=h.g.row;have h3:(fs.take (R.length / 128)).flatten.length<=fs.flatten.length:=by
  conv=>rhs;rw [<-cv (R.length / 128) fs,eU,af]
  omega
 rw [<-h.g.flat] at h3;unfold dU;omega
theorem aey {T:List Int} {x y R:List UInt8} {fs:List (List UInt8)} (h:MW T x y R fs):∀ {j k:Nat},j< k->k<=fs.length->fy fs j+3<=fy fs k:=λ{j} k=>by
 induction k with
 | zero=>intro q;omega
 | succ k ih=>
  intro q hk;have hf:=(h.g.fr k fs[k] (ak (by omega))).len;rw [nW (by omega)];rcases dZ j k with e| e;have:=ih e (by omega);omega
  .obtain rfl:j=k:=by omega
   omega
theorem B4 {T:List Int} {x y R:List UInt8} {fs:List (List UInt8)} (h:MW T x y R fs) {o:Nat} (ho:o< R.length):dU fs o< dU fs R.length:=by
 have hr:=h.g.row;have hy:=h.lt;have e1:R.length / 128=fs.length:=by omega
 have e2:R.length % 128=y.length:=by omega
 show 256*fy fs (o / 128)+o % 128< 256*fy fs (R.length / 128)+R.length % 128;rw [e1,e2];rcases dZ (o / 128) fs.length with q| q
 .have:=aey h q (ay _);omega
 .have:o / 128=fs.length:=by omega
  rw [this];omega
def pre (p:List ByteArray) (x:bu):Prop:=x.1.take p.length=p
theorem sG (x:bu):pre x.1 x:=eN
structure ue (L:List bu) (ids:List Int) (F:List (Int×eE.den)):Prop where
 len:L.length<=40
 ord:L.Pairwise λa b=>cmpL a.1 b.1< 0
 nm:∀ x∈L,∀ s∈x.1,dA s=0
 deep:∀ x∈L,x.1.length<=16
 par:∀ x∈L,x.1.length≠0->∃ y∈L,y.2.2.1=1/\y.1=x.1.take (x.1.length - 1)
 may:∀ x∈L,iR x=true
 one:∀ x∈L,∀ y∈L,x.2.1=y.2.1->(x.2.2.1=1->x=y)/\x.2.2=y.2.2
 ino:∀ x∈L,1<=x.2.1/\x.2.1<=40
 uid:∀ x∈L,(∃ i:Nat,ids[i]?=some (uS x))/\∃ i:Nat,ids[i]?=some (yN x)
 idl:ids.length<=80
 V7:ids.Pairwise λa b=>a< b
 file:∀ x∈L,x.2.2.1=2->∃ st fr off,Kk.get .int F x.2.1=some (0,0,0,0,0,0,st,(x.2.2.2.2.1.length:Int),fr,off,⟨#[]⟩,())/\zq st (x.2.2.2.2.1.length:Int) fr off
 nofile:∀ x∈L,x.2.2.1≠2->Kk.get .int F x.2.1=none
theorem u9:∀ {a b:List ByteArray},iX a b=true↔a=b
 | [],[]=>by simp [iX]
 | [],_::_=>by simp [iX]
 | _::_,[]=>by simp [iX]
 | x::a,y::b=>by
  unfold iX;rw [ao,jQ,u9,List.cons.injEq]
theorem Sz {p:List ByteArray} {x:bu}:Aq p x=true↔x.1.length=p.length+1/\pre p x:=by
 unfold Aq pre;simp only [ao,beq_iff_eq,decide_eq_true_eq];constructor
 .rintro ⟨h1,h2,h3⟩;exact ⟨by omega,u9.1 h3⟩
 .rintro ⟨h1,h2⟩;exact ⟨by omega,by omega,u9.2 h2⟩
theorem Sl {L:List bu} {x:bu} (h:x∈L):∃ k:Nat,k< L.length/\aK noTy L (k:Int)=x:=by
 obtain ⟨k,hk,rfl⟩:=dR.1 h;exact ⟨k,hk,gU (e:=noTy) hk⟩
theorem fW {L:List bu} {p:List ByteArray} {k:Int} (h:k∈dz p L 0):0<=k/\k< (L.length:Int)/\(aK noTy L k).1.length=p.length+1/\pre p (aK noTy L k):=by
 obtain ⟨j,hj,e,hk⟩:=(oB p).1 h;have e2:aK noTy L k=L[j]:=by rw [e,Int.zero_add];exact gU (e:=noTy) hj
 rw [e2];exact ⟨by omega,by omega,Sz.1 hk⟩
theorem Jd {L:List bu} {p:List ByteArray} {x:bu} (hx:x∈L) (h1:x.1.length=p.length+1) (h2:pre p x):∃ k∈dz p L 0,aK noTy L k=x:=by
 obtain ⟨j,hj,rfl⟩:=Sl hx;refine ⟨(j:Int),(oB p).2 ⟨j,hj,by omega,?_⟩,rfl⟩;rw [<-gU (e:=noTy) hj];exact Sz.2 ⟨h1,h2⟩
theorem ud {L:List bu} {ids:List Int} {F:List (Int×eE.den)} (t:ue L ids F) {p:List ByteArray}:∀ (n:Nat) {y:bu},y∈L->pre p y->y.1.length=p.length+1+n->∃ k∈dz p L 0,pre (aK noTy L k).1 y
 | 0,y,hy,hp,hl=>by
  obtain ⟨k,hk,e⟩:=Jd hy hl hp;exact ⟨k,hk,by rw [e];exact sG y⟩
 | n+1,y,hy,hp,hl=>by
  obtain ⟨z,hz,_,e⟩:=t.par y hy (by omega);have Of:z.1.length=p.length+1+n:=by rw [e,aA];omega
  have hzp:pre p z:=by
   unfold pre at*;rw [e,eF,dK (by omega),hp]
  obtain ⟨k,hk,hq⟩:=ud t n hz hzp Of;refine ⟨k,hk,?_⟩;have SN:=(fW hk).2.2.1;unfold pre at*;have:(aK noTy L k).1=(y.1.take (y.1.length - 1)).take (aK noTy L k).1.length:=by rw [<-e,hq]
  rw [eF,dK (by omega)] at this;exact this.symm
theorem Gh {p q:List ByteArray} {y:bu} (h1:p.length<=q.length) (h2:q.take p.length=p) (h:pre q y):pre p y:=by
 unfold pre at*;rw [<-h2,aA,dK h1]
 conv=>rhs;rw [<-h]
 rw [eF,dK h1]
theorem tz {p:List ByteArray} {x:bu} (h1:x.1.length=p.length+1) (h2:pre p x):x.1=p++ [x.1.getD p.length ⟨#[]⟩]:=by
 conv=>lhs;rw [<-cv p.length x.1]
 unfold pre at h2;rw [h2];congr 1;have:(x.1.drop p.length).length=1:=by rw [aN];omega
 obtain ⟨s,hs⟩:=List.length_eq_one_iff.1 this;have e:(x.1.drop p.length)[0]?=some s:=by rw [hs];rfl
 rw [List.getElem?_drop,jP] at e;rw [hs,ba,e];rfl
theorem acN {s:ByteArray} (h:dA s=0):uB ⟨#[]⟩ s=true:=by
 rw [tA,decide_eq_true_eq];refine adZ (List.nil_le _) (λe=>?_);subst e;exact absurd h (by decide+kernel)
theorem GR {L:List bu} {ids:List Int} {F:List (Int×eE.den)} (t:ue L ids F) {p:List ByteArray} {M:List (Int×Int)} (hM:∀ i r,Kk.get .int M i=some r->0<=r/\r<=4294967295):∀ {ks:List Int} {es:List dh.den} {last:ByteArray},fZ L M p.length ks es->(∀ k∈ks,k∈dz p L 0)->(ks.Pairwise λa b=>a< b)->(∀ k∈ks,uB last ((aK noTy L k).1.getD p.length ⟨#[]⟩)=true)->iG last es
 | [],[],_,_,_,_,_=>trivial
 | k::ks,e::es,last,⟨h1,h2,h3,h4⟩,hk,ho,hl=>by
  obtain ⟨k0,k1,kl,kp⟩:=fW (hk k aX);have uk:aK noTy L k∈L:=uF (e:=noTy) k0 k1;have hs:=tz kl kp;obtain ⟨o1,o2⟩:=jt.1 ho;have GF:1<=(aK noTy L k).2.2.1/\(aK noTy L k).2.2.1<=3:=by
   have:=t.may _ uk;unfold iR at this;split at this
   .rename_i q;exact ⟨by rw [q];decide,by rw [q];decide⟩
   .split at this
    .rename_i q;exact ⟨by rw [q];decide,by rw [q];decide⟩
    .split at this
     .rename_i q;exact ⟨by rw [q];decide,by rw [q];decide⟩
     .cases this
  refine ⟨⟨?_,?_,by rw [h2];exact GF,hM _ _ h3⟩,GR t hM h4 (λk' q=>hk k' (aH _ q)) o2 λk' vS=>?_⟩
  .rw [h1];refine t.nm _ uk _ (Eq.mpr (congrArg (λl:List ByteArray=>(aK noTy L k).1.getD p.length ⟨#[]⟩∈l) hs) ?_);exact iK _ aX
  .rw [h1];exact hl k aX
  .obtain ⟨j0,j1,jl,jp⟩:=fW (hk k' (aH _ vS));have hs':=tz jl jp;have eK:=o1 k' vS;have hc:=dj.1 t.ord k.toNat k'.toNat (by omega) (by omega) (by omega);rw [<-gV (e:=noTy) k0 k1,<-gV (e:=noTy) j0 j1,hs,hs',De] at hc;rw [h1,tA,decide_eq_true_eq];rw [yV] at hc;split at hc
   .exact absurd hc (by decide)
   .exact hc
 | [],_::_,_,h,_,_,_=>h.elim
 | _::_,[],_,h,_,_,_=>h.elim
theorem BS.Sq (t:BS) (b:List UInt8) (f:List (List UInt8)):BS.Le t {t with RL:=t.RL++b,fL:=t.fL++f}:=⟨⟨[],by simp⟩,⟨[],by simp⟩,⟨b,rfl⟩,⟨f,rfl⟩,⟨[],by simp⟩,⟨[],by simp⟩,λ_ _ h=>h⟩
theorem DP.list {L:List bu} {ids:List Int} {F:List (Int×eE.den)} {t:BS} (h:DP L ids F t 0) (b:List UInt8) (f:List (List UInt8)) (hb:b.length<=10500):DP L ids F {t with RL:=t.RL++b,fL:=t.fL++f} 1:=by
 refine ⟨λi r q=>?_,h.acK,h.inj,h.keys,h.lI,?_,h.lX,h.kn⟩
 .obtain ⟨q1,x,q2,q3,rec,q4,q5⟩:=h.refs i r q;exact ⟨q1,x,q2,q3,rec,q4,q5.le (BS.Sq t b f)⟩
 .have:=h.lL;show (t.RL++b).length<=10500*(t.Mr.length+1);rw [af];omega
theorem AH {p:List ByteArray} {y:bu} (h:pre p y):p.length<=y.1.length:=by
 unfold pre at h;have:=congrArg List.length h;rw [aA] at this;omega
theorem both {P:Prop} (h:P):P/\P:=⟨h,h⟩
structure ajP (l:List Int) (y:Int):Prop where
 ex:∃ i:Nat,l[i]?=some y
structure agF (L:List bu) (M:List (Int×Int)) (d:Nat) (ks:List Int) (es:List dh.den):Prop where
 ok:fZ L M d ks es
structure aoF (x:bu):Prop where
 mode:0<=x.2.2.2.1.1/\x.2.2.2.1.1<=511
 xa:eI x.2.2.2.2.2.2.1=true
 or:(x.2.2.1=1/\x.2.2.2.2.2.1=⟨#[]⟩)\/(x.2.2.1=2/\x.2.2.2.2.2.1=⟨#[]⟩)\/(x.2.2.1=3/\zp x.2.2.2.2.2.1)
theorem yI {m u g:Int} (h:D9 m u g=true):0<=m/\m<=511:=by
 unfold D9 iM at h;simp only [ao,decide_eq_true_eq] at h;omega
theorem yH {x:bu} (h:iR x=true):aoF x:=by
 unfold iR at h;split at h
 .rename_i q;simp only [ao] at h;exact ⟨yI h.1.2,h.2,.inl ⟨q,jQ.1 h.1.1.1.2⟩⟩
 .split at h
  .rename_i q;simp only [ao] at h;exact ⟨yI h.1.2,h.2,.inr (.inl ⟨q,jQ.1 h.1.1.1.2⟩)⟩
  .split at h
   .rename_i q;simp only [ao] at h;have hp:=h.1.1.1.2;unfold qM iM at hp;simp only [ao,decide_eq_true_eq] at hp;refine ⟨yI h.1.2,h.2,.inr (.inr ⟨q,⟨by omega,λc hc e=>?_⟩⟩)⟩;subst e;have h2:decide (Lib.indexByte x.2.2.2.2.2.1.data.toList 0< 0)=true:=decide_eq_true hp.2;rw [yK] at h2;simp only [bY,List.any_eq_false,beq_iff_eq] at h2;exact h2 _ hc rfl
   .cases h
variable {L:List bu} {ids:List Int} {F:List (Int×eE.den)}
theorem ue.uniq (t:ue L ids F) {x y:bu} (hx:x∈L) (hy:y∈L) (h:x.1=y.1):x=y:=by
 obtain ⟨i,hi,rfl⟩:=dR.1 hx;obtain ⟨j,hj,rfl⟩:=dR.1 hy;have P:=dj.1 t.ord;rcases mK i j with q| q| q
 .have:=P i j hi hj q;rw [h,jV] at this;exact absurd this (by decide)
 .subst q;rfl
 .have:=P j i hj hi q;rw [h,jV] at this;exact absurd this (by decide)
theorem ue.nd (t:ue L ids F):L.Nodup:=t.ord.imp λ{a b} h e=>by
 subst e;rw [jV] at h;exact absurd h (by decide)
theorem count_one {α:Type} {p:α->Bool} {x:α}:∀ {l:List α},l.Nodup->x∈l->p x=true->(∀ y∈l,p y=true->y=x)->l.countP p=1
 | [],_,h,_,_=>by cases h
 | a::r,hn,hx,hp,ha=>by
  obtain ⟨n1,n2⟩:=eB.1 hn;rw [List.countP_cons];rcases bm.1 hx with rfl| hx;rw [if_pos hp,List.countP_eq_zero.2 λy hy q=>n1 (ha y (aH _ hy) q▸hy)];rw [count_one n2 hx hp λy hy=>ha y (aH _ hy),if_neg λq=>n1 (ha a aX q▸hx)]
theorem ue.lnk (t:ue L ids F) {x:bu} (hx:x∈L):1<=mh L x.2.1/\mh L x.2.1<=40/\(x.2.2.1=1->mh L x.2.1=1):=by
 refine ⟨List.countP_pos_iff.2 ⟨x,hx,by simp [rM]⟩,Nat.le_trans List.countP_le_length t.len,λh=>count_one t.nd hx (by simp [rM]) λy hy q=>?_⟩;exact ((t.one x hx y hy (eq_of_beq q).symm).1 h).symm
theorem CN {M:List (Int×Int)} {i:Int}:Kk.get .int M i=none↔i ∉ M.map (·.1):=by
 unfold Kk.get iC;rw [Option.map_eq_none_iff,ju];constructor
 .intro h q;obtain ⟨p,hp,rfl⟩:=aP.1 q;exact absurd (h p hp) (by simp)
 .intro h p hp q;exact h (aP.2 ⟨p,hp,by simpa using q⟩)
theorem Sy {M:List (Int×Int)} {i r:Int} (h:Kk.get .int M i=none):(Kk.put .int M i r:List (Int×Int))=(i,r)::M:=by
 unfold Kk.put qL mF;rw [ka.2];intro p hp;have:=CN.1 h;simp only [bY,decide_eq_false_iff_not];intro e;exact this (aP.2 ⟨p,hp,e⟩)
theorem H8 {i:eE.den} (h:oO i):(fK i).length<=214:=by
 rw [RV h];rcases h.or with q| q| q;rw [if_pos q.1];decide
 .split
  .decide
  .split
   .decide
   .have:=q.2.2;rw [this];decide
 .have:=q.2.1.len;split
  .decide
  .split
   .decide
   .omega
theorem fZ.get {M:List (Int×Int)} {d:Nat}:∀ {ks:List Int} {es:List dh.den},fZ L M d ks es->∀ k∈ks,∃ r,Kk.get .int M (aK noTy L k).2.1=some r
 | [],[],_,k,hk=>by cases hk
 | a::ks,e::es,⟨_,_,h3,h4⟩,k,hk=>by
  rcases bm.1 hk with rfl| hk;exact ⟨_,h3⟩;exact fZ.get h4 k hk
 | [],_::_,h,_,_=>h.elim
 | _::_,[],h,_,_=>h.elim
theorem DP.cov (t:ue L ids F) {s:BS} {e:Nat} (h:DP L ids F s e):∀ (n:Nat) {x y:bu},x∈L->(∃ r,Kk.get .int s.Mr x.2.1=some r)->y∈L->pre x.1 y->y.1.length=x.1.length+n->∃ r,Kk.get .int s.Mr y.2.1=some r
 | 0,x,y,hx,hr,hy,hp,hl=>by
  unfold pre at hp;rw [aT (by omega)] at hp;rw [t.uniq hy hx hp];exact hr
 | n+1,x,y,hx,hr,hy,hp,hl=>by
  obtain ⟨z,hz,hzk,hze⟩:=t.par y hy (by omega);have Of:z.1.length=x.1.length+n:=by rw [hze,aA];omega
  have hzp:pre x.1 z:=by
   unfold pre at*;rw [hze,eF,dK (by omega),hp]
  obtain ⟨r,hg⟩:=DP.cov t h n hx hr hz hzp Of;obtain ⟨_,x',Gz,ei,rec,_,hN⟩:=h.refs _ _ hg;obtain rfl:=(t.one z hz x' Gz ei.symm).1 hzk;rcases hN.or with ⟨_,es,_,q,_⟩| ⟨q,_⟩| ⟨q,_⟩
  .obtain ⟨k,hk,rfl⟩:=Jd (p:=z.1) hy (by omega) (by unfold pre;rw [hze,aA];congr 1;omega);exact q.get k hk
  .rw [hzk] at q;exact absurd q (by decide)
  .rw [hzk] at q;exact absurd q (by decide)
abbrev BS.put (t:BS) (i:Int) (r:Int) (b:List UInt8) (f:List (List UInt8)) (RX:List UInt8) (fX:List (List UInt8)) (Ms:List (ByteArray×Int)):BS:=⟨t.RI++b,t.fI++f,t.RL,t.fL,RX,fX,Kk.put .int t.Mr i r,Ms⟩
theorem DP.put {t:BS} {e:Nat} (h:DP L ids F t e) (he:e<=1) {k:Int} (k0:0<=k) (k1:k< (L.length:Int)) (kB:Kk.get .int t.Mr (aK noTy L k).2.1=none) {RX:List UInt8} {fX:List (List UInt8)} {Ms:List (ByteArray×Int)} (hR:∃ c,RX=t.RX++c/\c.length<=4100) (hf:∃ c,fX=t.fX++c) (hS:o9 fX RX Ms) {rec:eE.den} {r:Nat} {fs:List (List UInt8)} (hr:∀ gs,r=dU (t.fI++gs) t.RI.length) (ak5:r<=4294967295) (eK:∀ o,o< t.RI.length->dU t.fI o< dU t.fI t.RI.length) (hN:rj L ids F {t with RX:=RX,fX:=fX,Ms:=Ms} (aK noTy L k) rec):DP L ids F (t.put (aK noTy L k).2.1 r (fK rec) fs RX fX Ms) 0/\BS.Le t (t.put (aK noTy L k).2.1 r (fK rec) fs RX fX Ms):=by
 have hM:∀ i q,Kk.get .int t.Mr i=some q->Kk.get .int (Kk.put .int t.Mr (aK noTy L k).2.1 (r:Int):List (Int×Int)) i=some q:=λi q hq=>by
  rw [jI (k:=.int) (by intro e;rw [e,kB] at hq;cases hq)];exact hq
 obtain ⟨c,hc,M6⟩:=hR;have hle:BS.Le t (t.put (aK noTy L k).2.1 r (fK rec) fs RX fX Ms):=⟨⟨_,rfl⟩,⟨_,rfl⟩,⟨[],by simp⟩,⟨[],by simp⟩,⟨c,hc⟩,hf,hM⟩;have alk:BS.Le {t with RX:=RX,fX:=fX,Ms:=Ms} (t.put (aK noTy L k).2.1 r (fK rec) fs RX fX Ms):=⟨⟨_,rfl⟩,⟨_,rfl⟩,⟨[],by simp⟩,⟨[],by simp⟩,⟨[],by simp⟩,⟨[],by simp⟩,hM⟩;have J1:(Kk.put .int t.Mr (aK noTy L k).2.1 (r:Int):List (Int×Int)).length=t.Mr.length+1:=pw kB;have hrl:=H8 hN.ok;have uj:∀ j q,Kk.get .int t.Mr j=some q->q≠(r:Int):=λj q hq e=>by
  obtain ⟨_,y,_,_,rc,⟨o,qq,ho,hd⟩,hn⟩:=h.refs j q hq;have h1:=ho.ref [];have h2:=hr [];rw [aW] at h1 h2;obtain ⟨tl,htl⟩:=Ma hn.ok;have hl:=congrArg List.length hd;rw [aN,af,htl,aq] at hl;have:=eK o (by omega);omega
 refine ⟨⟨λi q hq=>?_,hS,λi j q hi hj=>?_,?_,?_,?_,?_,by show ((Kk.put .int t.Mr (aK noTy L k).2.1 (r:Int):List (Int×Int)).map (·.1)).Nodup;rw [Sy kB,bX,eB];exact ⟨CN.1 kB,h.kn⟩⟩,hle⟩
 .by_cases hi:i=(aK noTy L k).2.1
  .subst hi;have hq:Kk.get .int (Kk.put .int t.Mr (aK noTy L k).2.1 (r:Int):List (Int×Int)) _=some q:=hq;rw [gh (k:=.int)] at hq;obtain rfl:=aj hq;exact ⟨⟨jv _,by omega⟩,_,uF (e:=noTy) k0 k1,rfl,rec,Has.new hr,hN.le alk⟩
  .have hq:Kk.get .int (Kk.put .int t.Mr (aK noTy L k).2.1 (r:Int):List (Int×Int)) i=some q:=hq;rw [jI (k:=.int) hi] at hq;obtain ⟨q1,x,q2,q3,rc,q4,q5⟩:=h.refs i q hq;exact ⟨q1,x,q2,q3,rc,q4.le hle.fI hle.RI,q5.le hle⟩
 .have hi:Kk.get .int (Kk.put .int t.Mr (aK noTy L k).2.1 (r:Int):List (Int×Int)) i=some q:=hi;have hj:Kk.get .int (Kk.put .int t.Mr (aK noTy L k).2.1 (r:Int):List (Int×Int)) j=some q:=hj;by_cases ei:i=(aK noTy L k).2.1
  .by_cases ej:j=(aK noTy L k).2.1
   .rw [ei,ej]
   .rw [jI (k:=.int) ej] at hj;rw [ei,gh (k:=.int)] at hi;exact absurd (aj hi).symm (uj j q hj)
  .rw [jI (k:=.int) ei] at hi;by_cases ej:j=(aK noTy L k).2.1
   .rw [ej,gh (k:=.int)] at hj;exact absurd (aj hj).symm (uj i q hi)
   .rw [jI (k:=.int) ej] at hj;exact h.inj i j q hi hj
 .obtain ⟨V,v1,v2,v3⟩:=h.keys;refine ⟨k.toNat::V,eB.2 ⟨λq=>?_,v1⟩,λv hv=>?_,?_⟩
  .refine CN.1 kB ?_;rw [v3];refine aP.2 ⟨_,q,?_⟩;rw [Int.toNat_of_nonneg k0]
  .rcases bm.1 hv with rfl| hv
   .omega
   .exact v2 v hv
  .show (Kk.put .int t.Mr (aK noTy L k).2.1 (r:Int):List (Int×Int)).map (·.1)=_;rw [Sy kB,bX,bX,v3,Int.toNat_of_nonneg k0]
 .show (t.RI++fK rec).length<=220*(Kk.put .int t.Mr (aK noTy L k).2.1 (r:Int):List (Int×Int)).length;have:=h.lI;rw [af,J1];omega
 .show t.RL.length<=10500*((Kk.put .int t.Mr (aK noTy L k).2.1 (r:Int):List (Int×Int)).length+0);have:=h.lL;rw [J1];omega
 .show RX.length<=4200*(Kk.put .int t.Mr (aK noTy L k).2.1 (r:Int):List (Int×Int)).length;have:=h.lX;rw [J1,hc,af];omega
theorem Jk {ids:List Int} {i y:Int} (h:ids[i.toNat]?=some y):i.toNat< ids.length:=(au.1 h).1
theorem IY (t:ue L ids F) {x:bu} (hx:x∈L) {iu ig xa:Int} (u0:0<=iu) (hu:ids[iu.toNat]?=some (uS x)) (g0:0<=ig) (hg:ids[ig.toNat]?=some (yN x)) (ha:0<=xa/\xa<=4294967295):DO x.2.2.2.1.1 iu ig (mh L x.2.1:Nat) xa:=by
 have h1:=t.idl;have h2:=Jk hu;have h3:=Jk hg;have h4:=t.lnk hx;exact ⟨(yH (t.may x hx)).mode,by omega,by omega,by omega,ha⟩
theorem Yq (t:ue L ids F) {x:bu} (hx:x∈L) (hk:x.2.2.1=1) {s:BS} {iu ig xa st:Int} (u0:0<=iu) (hu:ids[iu.toNat]?=some (uS x)) (g0:0<=ig) (hg:ids[ig.toNat]?=some (yN x)) (ha:VW s.fX s.RX xa x.2.2.2.2.2.2.1) {es:List dh.den} (h1:iG ⟨#[]⟩ es) (h2:fZ L s.Mr x.1.length (dz x.1 L 0) es) (h3:Has s.fL s.RL st (gN es)) (h4:0<=st/\st<=4294967295) (h5:(gN es).length<=10440):rj L ids F s x (x.2.2.1,x.2.2.2.1.1,iu,ig,((mh L x.2.1:Nat):Int),xa,st,((gN es).length:Int),0,0,x.2.2.2.2.2.1,()):=by
 have hl:=t.lnk hx;have hz:x.2.2.2.2.2.1=⟨#[]⟩:=by
  rcases (yH (t.may x hx)).or with q| q| q;exact q.2;exact q.2;rw [hk] at q;exact absurd q.1 (by decide)
 refine ⟨⟨IY t hx u0 hu g0 hg ha.le,.inl ⟨hk,⟨h4,by show (0:Int)<=((gN es).length:Int)/\((gN es).length:Int)<=1048576;omega⟩,?_,rfl,rfl,hz⟩⟩,rfl,rfl,hu,hg,rfl,ha,.inl ⟨hk,es,h1,h2,h3,rfl⟩⟩;show ((mh L x.2.1:Nat):Int)=1;rw [hl.2.2 hk];rfl
theorem U1 (t:ue L ids F) {x:bu} (hx:x∈L) (hk:x.2.2.1=2) {s:BS} {iu ig xa st fr off:Int} (u0:0<=iu) (hu:ids[iu.toNat]?=some (uS x)) (g0:0<=ig) (hg:ids[ig.toNat]?=some (yN x)) (ha:VW s.fX s.RX xa x.2.2.2.2.2.2.1) (h1:Kk.get .int F x.2.1=some (0,0,0,0,0,0,st,(x.2.2.2.2.1.length:Int),fr,off,⟨#[]⟩,())) (h2:zq st (x.2.2.2.2.1.length:Int) fr off):rj L ids F s x (x.2.2.1,x.2.2.2.1.1,iu,ig,((mh L x.2.1:Nat):Int),xa,st,(x.2.2.2.2.1.length:Int),fr,off,x.2.2.2.2.2.1,()):=by
 have hz:x.2.2.2.2.2.1=⟨#[]⟩:=by
  rcases (yH (t.may x hx)).or with q| q| q;exact q.2;exact q.2;rw [hk] at q;exact absurd q.1 (by decide)
 exact ⟨⟨IY t hx u0 hu g0 hg ha.le,.inr (.inl ⟨hk,h2,hz⟩)⟩,rfl,rfl,hu,hg,rfl,ha,.inr (.inl ⟨hk,h1⟩)⟩
theorem U0 (t:ue L ids F) {x:bu} (hx:x∈L) (hk:x.2.2.1=3) {s:BS} {iu ig xa:Int} (u0:0<=iu) (hu:ids[iu.toNat]?=some (uS x)) (g0:0<=ig) (hg:ids[ig.toNat]?=some (yN x)) (ha:VW s.fX s.RX xa x.2.2.2.2.2.2.1):rj L ids F s x (x.2.2.1,x.2.2.2.1.1,iu,ig,((mh L x.2.1:Nat):Int),xa,0,0,0,0,x.2.2.2.2.2.1,()):=by
 have hz:zp x.2.2.2.2.2.1:=by
  rcases (yH (t.may x hx)).or with q| q| q;rw [hk] at q;exact absurd q.1 (by decide);rw [hk] at q;exact absurd q.1 (by decide);exact q.2
 exact ⟨⟨IY t hx u0 hu g0 hg ha.le,.inr (.inr ⟨hk,hz,rfl,rfl,rfl,rfl⟩)⟩,rfl,rfl,hu,hg,rfl,ha,.inr (.inr ⟨hk,rfl⟩)⟩
theorem ue.below (t:ue L ids F) {x y:bu} (hx:x∈L) (hk:x.2.2.1≠1) (hy:y∈L) (hp:pre x.1 y):y=x:=by
 have hl:=AH hp;rcases Nat.eq_or_lt_of_le hl with q| q
 .unfold pre at hp;rw [aT (by omega)] at hp;exact t.uniq hy hx hp
 .obtain ⟨k,qP,hq⟩:=ud t (p:=x.1) (y.1.length - (x.1.length+1)) hy hp (by omega);obtain ⟨k0,k1,kl,kp⟩:=fW qP;obtain ⟨z,hz,hzk,hze⟩:=t.par _ (uF (e:=noTy) k0 k1) (by omega);have:z.1=x.1:=by
   rw [hze,kl];unfold pre at kp;exact kp
  have:=t.uniq hz hx this;subst this;exact absurd hzk hk
end Go.Lm

namespace Go.Proofs
open Go.Shelf
set_option maxRecDepth 1000000
def Tryz.zR:Go.Shelf.Ren:=⟨fun| 156=>154| 165=>200| 166=>201| 169=>202| 240=>229| 241=>230| 276=>242| 277=>243| n=>n,fun| 31=>32| 9=>9| 3=>3| 4=>4| 0=>0| 20=>20| 72=>294| 76=>298| 70=>292| 37=>35| 75=>297| 127=>324| 164=>334| 5=>5| 80=>291| n=>n,fun| n=>n⟩
theorem Tryz.Sw:Go.Proofs.Lays.n156 cd Tryz.zR:= {
 mixed:=by kernel_rfl
 f156:=Tryz.func154.trans (congrArg some (by kernel_rfl))
 f165:=Tryz.func200.trans (congrArg some (by kernel_rfl))
 f166:=Tryz.func201.trans (congrArg some (by kernel_rfl))
 f169:=Tryz.func202.trans (congrArg some (by kernel_rfl))
 f240:=Tryz.func229.trans (congrArg some (by kernel_rfl))
 f241:=Tryz.func230.trans (congrArg some (by kernel_rfl))
 f276:=Tryz.func242.trans (congrArg some (by kernel_rfl))
 f277:=Tryz.func243.trans (congrArg some (by kernel_rfl))
 t0:=Tryz.underlying0
 a0:=Tryz.isAgg0
 z0:=Tryz.sizeOf0
 v0:=Tryz.zeroValue0
 t3:=oT
 a3:=Tryz.isAgg3
 z3:=Tryz.sizeOf3
 v3:=Tryz.zeroValue3
 t4:=Tryz.underlying4
 a4:=Tryz.isAgg4
 z4:=Tryz.sizeOf4
 v4:=Tryz.zeroValue4
 t9:=Tryz.underlying9
 a9:=Tryz.isAgg9
 z9:=Tryz.sizeOf9
 v9:=Tryz.zeroValue9
 t20:=Tryz.underlying20
 a20:=Tryz.isAgg20
 z20:=Tryz.sizeOf20
 v20:=Tryz.zeroValue20
 t31:=Tryz.underlying32
 a31:=Tryz.isAgg32
 z31:=Tryz.sizeOf32
 v31:=Tryz.zeroValue32
 t37:=Tryz.underlying35
 a37:=Tryz.isAgg35
 z37:=Tryz.sizeOf35
 v37:=Tryz.zeroValue35
 t70:=Tryz.underlying292
 a70:=Tryz.isAgg292
 z70:=Tryz.sizeOf292
 v70:=Tryz.zeroValue292
 t72:=Tryz.underlying294
 a72:=Tryz.isAgg294
 z72:=Tryz.sizeOf294
 v72:=Tryz.zeroValue294
 t75:=Tryz.underlying297
 a75:=Tryz.isAgg297
 z75:=Tryz.sizeOf297
 v75:=Tryz.zeroValue297
 t76:=Tryz.underlying298
 a76:=Tryz.isAgg298
 z76:=Tryz.sizeOf298
 v76:=Tryz.zeroValue298
 t127:=Tryz.underlying324
 a127:=Tryz.isAgg324
 z127:=Tryz.sizeOf324
 v127:=Tryz.zeroValue324
 t164:=Tryz.underlying334
 a164:=Tryz.isAgg334
 z164:=Tryz.sizeOf334
 v164:=Tryz.zeroValue334}
theorem Tryz.pd:Builder.Extra cd Tryz.zR:= {
 sizeBuilder:=by kernel_rfl
 liesBuilder:=by kernel_rfl
 t5:=Tryz.underlying5
 a5:=Tryz.isAgg5
 z5:=Tryz.sizeOf5
 v5:=Tryz.zeroValue5
 infoByte:=by kernel_rfl
 cellsByte:=by kernel_rfl
 sizeByte:=by kernel_rfl
 neB5:=by decide}
open Go.RowKit in
theorem Tryz.strings_Join_none (a:Option Addr) (c:Nat) (sep:ByteArray) (w:World):
  Calls cd 154 #[.slice a 0 c,.string sep] w λe w'=>e= .returned (.string ⟨#[]⟩)/\w'=w:=Any.strings_Join_none Tryz.Sw Tryz.pd a c sep w
open Go.RowKit in
theorem Tryz.strings_Join (bk o c:Nat) (xs:List ByteArray) (sep:ByteArray) (w:World) (PQ:∀ (j:Nat) x,xs[j]?=some x->w.cell? ⟨bk,o+j,none⟩=some (.string x)) (hbk:bk< w.heap.size) (hN:xs.length<=140737488355328) (Jq:xs.length<=c) (hlen:(Lib.join (xs.map (·.data.toList)) sep.data.toList).length<=140737488355328):
  Calls cd 154 #[.slice (some ⟨bk,o,none⟩) xs.length c,.string sep] w λe w'=>e= .returned (.string ⟨(Lib.join (xs.map (·.data.toList)) sep.data.toList).toArray⟩)/\Below w.heap.size w w':=Any.strings_Join Tryz.Sw Tryz.pd bk o c xs sep w PQ hbk hN Jq hlen
end Go.Proofs

namespace Go.Proofs
open Go Go.Lm Go.RowKit
set_option maxRecDepth 1000000
def VG:Ct:=cI λx=>cI λa=>cI λb=>c0 λQ=>Q (.bool (iM x a b)) []
def afR:=(iH.add QD).add J9
def Bl (x a b:Int):dE:=λQ=>cA x a b (br (decide (a<=x)) (Q (.v (.c (.k (.bool (decide (x<=b)))))) []) (bc Q))
theorem Ud:cG 157 VG:=fz<| nG λx=>nG λa=>nG λb=>iQ λQ h=>by
 refine Wp.dJ afR cX ⟨[],[]⟩ Tryz.f157 (Bl x a b) ?_;unfold Bl bc cA kQ;intro _ _ _;unfold iM at h;refine aw (λhc=>?_) (λhc=>?_)<;>rw [hc] at h<;>exact h
def ZN:Ct:=cS λs=>cI λm=>c0 λQ=>Q (.bool (qM s m)) []
def afQ:=afR.add Ud
def EZ (s:ByteArray) (m:Int):dE:=λQ=>j6 s (aF .i64 m->br (iM (iO s) bd m) (IC s.data.toList Q) (bc Q))
theorem WK:cG 156 ZN:=fz<| okS λs=>nG λm=>iQ λQ h=>by
 refine Wp.dJ afQ cX ⟨[],[]⟩ Tryz.f156 (EZ s m) ?_;unfold EZ iO IC j6 bc dr kQ bd bD;intro _ _;unfold qM at h;refine aw (λhc=>?_) (λhc=>?_)<;>rw [hc] at h
 .intro _;exact h
 .exact h
def VF:Ct:=cD eD λl=>c0 λQ=>Q (.bool (eI l)) []
def afP:=afQ.add WK
def Bk (l:(List (eD).den)):dE:=λQ=>ye l (bp (λi ag=>br (decide (i.1.1< (aE l))) (0<=i.1.1/\i.1.1< (aE l)/\(Ty.ok eD (eJ l i.1.1)->br (!qM (eJ l i.1.1).1 (40:Int)) (bc Q) (br (uB (eJ l i.1.1).1 i.1.2.1|| mJ (eJ l 
 i.1.1).1 i.1.2.1) (bc Q) (II l i.1.1 Q ag)))) (Ie l Q)) ((ah,ByteArray.mk #[],()),()))
theorem Uc:cG 158 VF:=fz<| lH λl=>iQ λQ h=>by
 refine Wp.dJ afP cX ⟨[(4,⟨[(8,.int .i64),(3,.str)],[]⟩)],[]⟩ Tryz.f158 (Bk l) ?_;unfold Bk Ie ye eJ II bc cL kQ ah iA aE aL;intro hl0 _;refine bp.intro (λi=>0<=i.1.1/\i.1.1<=l.length/\iW l ⟨#[]⟩=iW (l.drop i.1.1.toNat) i.1.2.1) (λi=>l.length - i.1.1.toNat) ⟨by simp,by simp,by simp⟩ ?_;rintro ⟨⟨i,last,_⟩,_⟩ ⟨h0,h1,h2⟩;simp only at h0 h1 h2 ⊢;refine aw (λhc=>?_) (λhc=>?_)
 .have hc:i< l.length:=by simpa using hc
  refine ⟨h0,hc,λ_=>?_⟩;rw [fE (e:=eD) h0 hc] at h2;have bad:DB (aK eD l i) last=true->Q (.bool false) []:=λhb=>by
   simp only [iW,hb,if_true] at h2;unfold eI at h;rw [h2,mI] at h;exact h
  unfold DB Go.Lm.leB at bad;refine aw (λh3=>bad (by rw [h3];rfl)) (λh3=>aw (λh4=>bad (by rw [h4];simp)) (λh4=>?_));intro _;refine aw (λh5=>bad (by rw [h5];simp)) (λh5=>?_);have hn:DB (aK eD l i) last=false:=by unfold DB Go.Lm.leB;rw [h3,h4,h5];rfl
  simp only [iW,hn,eR,if_false] at h2;exact ⟨by unfold aF;omega,⟨by omega,by omega,h2⟩,by omega⟩
 .have hc:¬i< l.length:=by simpa using hc
  rw [ft hc] at h2;intro _;unfold eI at h;rw [h2] at h;exact h
def aiV:Ct:=cN noTy λx=>c0 λQ=>Q (.bool (iR x)) []
def afO:=afP.add Uc
abbrev R6 (y0) (y1) (y2) (y3) (y4:SV->List HO->Prop) (y5):=br (!y0) (br (iM y1 ah (511:Int)) (br (iM y2 ah (65535:Int)) (br (iM y3 ah (65535:Int)) (y4 (.v (.c (.k (.bool (eI y5))))) []) (y4 kQ [])) (y4 kQ [])) (y4 kQ [])) (y4 kQ [])
def Rj:((noTy).den)->dE:=
 λx Q=>gu x.1 (cA x.2.1 x.2.2.1 x.2.2.2.1.1 (cj x.2.2.2.1.2.1 x.2.2.2.1.2.2.1 (aL (bO x.2.2.2.2.1)->aL (dr x.2.2.2.2.2.1)->aL (bO x.2.2.2.2.2.2.1)->aL (bO x.2.2.2.2.1)->br (x.2.2.1==1) (br ((a7 
 x.2.2.2.2.1)==0) (br (mJ x.2.2.2.2.2.1 iz) (R6 x.2.2.2.2.2.2.2.1 x.2.2.2.1.1 x.2.2.2.1.2.1 x.2.2.2.1.2.2.1 Q x.2.2.2.2.2.2.1) (bc Q)) (bc Q)) (br (x.2.2.1==2) (aL (bO x.2.2.2.2.1)->br (decide ((a7 x.2.2.2.2.1)<= 
 (4096:Int))) (br (mJ x.2.2.2.2.2.1 iz) (R6 x.2.2.2.2.2.2.2.1 x.2.2.2.1.1 x.2.2.2.1.2.1 x.2.2.2.1.2.2.1 Q x.2.2.2.2.2.2.1) (bc Q)) (bc Q)) (br (x.2.2.1==3) (br ((a7 x.2.2.2.2.1)==0) (br (qM x.2.2.2.2.2.1 (200: 
 Int)) (R6 x.2.2.2.2.2.2.2.1 x.2.2.2.1.1 x.2.2.2.1.2.1 x.2.2.2.1.2.2.1 Q x.2.2.2.2.2.2.1) (bc Q)) (bc Q)) (bc Q))))))
theorem ag1:cG 119 aiV:=fz<| V8 λx=>iQ λQ h=>by
 refine Wp.dJ afO cX ⟨[],[]⟩ Tryz.f119 (Rj x) ?_;unfold Rj iz bc dr cj gu R6 bO cA kQ ah a7 aL;intro _ _ _ _ _ _ _ _ _ _
 repeat' (first| (intro _;done)| refine aw (λ_=>?_) (λ_=>?_)| intro _)
 all_goals refine Eq.mp (congrArg (λz=>Q (SV.bool z) []) ?_) h
 all_goals unfold iR noB D9
 all_goals clear h
 all_goals simp_all
 all_goals (intros;omega)
def aes:Ct:=cN noTy λx=>c0 λQ=>Q (.bool (!iR x)) []
def afN:=afO.add ag1
def K7:((noTy).den)->dE:=
 λx Q=>gu x.1 (cA x.2.1 x.2.2.1 x.2.2.2.1.1 (cj x.2.2.2.1.2.1 x.2.2.2.1.2.2.1 (aL (bO x.2.2.2.2.1)->aL (dr x.2.2.2.2.2.1)->aL (bO x.2.2.2.2.2.2.1)->Q (.v (.c (.k (.bool !iR (x.1,x.2.1,x.2.2.1, 
 (x.2.2.2.1.1,x.2.2.2.1.2.1,x.2.2.2.1.2.2.1,()),x.2.2.2.2.1,x.2.2.2.2.2.1,x.2.2.2.2.2.2.1,x.2.2.2.2.2.2.2.1,()))))) [])))
theorem aco:cG 118 aes:=fz<| V8 λx=>iQ λQ h=>by
 refine Wp.dJ afN cX ⟨[],[]⟩ Tryz.f118 (K7 x) ?_;unfold K7 dr cj gu bO cA aL
 intros
 exact h
def Tp:Ct
 | [.v (.c cl),.v (.c (.fn 118 []))],[],Q=>(match (Ty.sl noTy).of [cl] with
  | some (l,[])=>Q (.int (CS (λx:bu=> !iR x) l 0)) []
  | _=>False)
 | _,_,_=>False
def afM:=afN.add aco
abbrev Cp (y0:List (noTy).den) (y1):=((aK noTy y0 y1).1,(aK noTy y0 y1).2.1,(aK noTy y0 y1).2.2.1,((aK noTy y0 y1).2.2.2.1.1,(aK noTy y0 y1).2.2.2.1.2.1,(aK noTy y0 y1).2.2.2.1.2.2.1,()),(aK noTy y0 y1).2.2.2.2.1,(aK noTy y0 y1).2.2.2.2.2.1,(aK noTy y0 y1).2.2.2.2.2.2.1,(aK noTy y0 y1).2.2.2.2.2.2.2.1,())
def K4 (l:(List (noTy).den)):dE:=λQ=>gr l (aL (List.length l)->bp (λi ag=>br (ji i.1.1 l) (jj i.1.1 l (Ty.ok noTy (dy l i.1.1)->br (!iR (Cp l i.1.1)) (Q (gQ i.1.1) []) (jq i.1.1 ag))) (xV Q)) jh)
theorem acm:cG 155 Tp:=by
 intro args H Q h;unfold Tp at h;split at h;rotate_left;cases h;rename_i cl;split at h;rotate_left;cases h;rename_i l hl;refine Wp.said (args':=[.c (.d noTy l),.c (.fn 118 [])]) (λE g=>bC.cE (dI hl) (bC.cE (λ_ h=>h) (λ_ h=>h))) ?_;clear hl;refine Wp.dJ afM cX ⟨[(3,⟨[(8,.int .i64)],[]⟩)],[]⟩ Tryz.f155 (K4 l) ?_;unfold K4 xV jh ji jj gQ dy gr jq Cp aC ah aE aL;intro hl _;refine bp.intro (λi=>0<=i.1.1/\i.1.1<=l.length/\CS (λx:bu=> !iR x) (l.drop i.1.1.toNat) i.1.1=CS (λx:bu=> !iR x) l 0) (λi=>l.length - i.1.1.toNat) ⟨by simp,by simp,by simp⟩ ?_;rintro ⟨⟨i,_⟩,_⟩ ⟨h0,h1,h2⟩;simp only at h0 h1 h2 ⊢;refine aw (λhc=>?_) (λhc=>?_)
 .have hc:i< l.length:=by simpa using hc
  refine ⟨h0,hc,λ_=>?_⟩;rw [fE (e:=noTy) h0 hc] at h2;refine aw (λh3=>?_) (λh3=>?_)
  .simp only [CS,h3,if_true] at h2;rw [h2];exact h
  .simp only [CS,h3,eR,if_false] at h2;refine ⟨by unfold aF;omega,⟨by omega,by omega,?_⟩,by omega⟩;rw [show (i+1).toNat=(i+1).toNat from rfl];exact h2
 .have hc:¬i< l.length:=by simpa using hc
  rw [ft hc] at h2;simp only [CS] at h2;rw [h2];exact h
def Ts:Ct
 | [.v (.c cl),.v (.c (.fn 118 []))],[],Q=>(match (Ty.sl noTy).of [cl] with
  | some (l,[])=>Q (.bool (l.any λx:bu=> !iR x)) []
  | _=>False)
 | _,_,_=>False
def aaz:=afM.add acm
def K8 (l:(List (noTy).den)):dE:=λQ=>gr l (aF .i64 (CS (λx=> !iR x) l ah)->Q (.v (.c (.k (.bool (decide (CS (λx=> !iR x) l ah≥ah)))))) [])
theorem QM:cG 117 Ts:=by
 intro args H Q h;unfold Ts at h;split at h;rotate_left;cases h;rename_i cl;split at h;rotate_left;cases h;rename_i l hl;refine Wp.said (args':=[.c (.d noTy l),.c (.fn 118 [])]) (λE g=>bC.cE (dI hl) (bC.cE (λ_ h=>h) (λ_ h=>h))) ?_;clear hl;refine Wp.dJ aaz cX ⟨[],[]⟩ Tryz.f117 (K8 l) ?_;unfold K8 gr ah;intro _ _;rw [<-MU (bz 0)] at h;exact h
def SU (a b:List UInt8):Bool:=mJ (fD a) (fD b)
def VJ:Ct:=cD .u8 λa=>cD .u8 λb=>c0 λQ=>Q (.bool (SU a b)) []
def afL:=aaz.add QM
def Bo (a b:(List (Ty.u8).den)):dE:=λQ=>cM a (aL (dm b)->Q (.v (.c (.k (.bool (mJ (fD a) (fD b)))))) [])
theorem EC:cG 204 VJ:=fz<| lH λa=>lH λb=>iQ λQ h=>by
 refine Wp.dJ afL cX ⟨[],[]⟩ Tryz.f204 (Bo a b) ?_;unfold Bo dm cM aL
 intros
 exact h
def tf (x y:xt):Bool:=mJ x.1 y.1&& SU x.2.1 y.2.1
def VK:Ct:=cN eD λx=>cN eD λy=>c0 λQ=>Q (.bool (tf x y)) []
def afK:=afL.add EC
def Bp:((eD).den)->((eD).den)->dE:=
 λx y Q=>j6 x.1 (aL (bO x.2.1)->aL (dr y.1)->aL (bO y.2.1)->br (mJ x.1 y.1) (Q (.v (.c (.k (.bool (SU x.2.1 y.2.1))))) []) (bc Q))
theorem ED:cG 203 VK:=fz<| V8 λx=>V8 λy=>iQ λQ h=>by
 refine Wp.dJ afK cX ⟨[],[]⟩ Tryz.f203 (Bp x y) ?_;unfold Bp j6 bc dr bO kQ aL;unfold tf at h
 intros
 refine aw (λhc=>?_) (λhc=>?_)<;>rw [hc] at h<;>first| exact h| (intros;exact h)
def iV:List xt->List xt->Bool
 | [],[]=>true
 | x::a,y::b=>tf x y&& iV a b
 | _,_=>false
theorem Ae:∀ {a b:List xt},a.length≠b.length->iV a b=false
 | [],[],h=>absurd rfl h
 | _::a,_::b,h=>by
  unfold iV;rw [Ae (a:=a) (b:=b) (by simpa using h),Bool.and_false]
 | [],_::_,_=>rfl
 | _::_,[],_=>rfl
def Tr:Ct
 | [.v (.c ca),.v (.c cb),.v (.c (.fn 203 []))],[],Q=>(match (Ty.sl eD).of [ca] with
  | some (a,[])=>(match (Ty.sl eD).of [cb] with
  | some (b,[])=>Q (.bool (iV a b)) []
  | _=>False)
  | _=>False)
 | _,_,_=>False
def aay:=afK.add ED
def K6 (a b:(List (eD).den)):dE:=λQ=>List.length a<=9223372036854775807->aL (List.length b)->aL (List.length a)->aL (List.length b)->br ((aE a) !=(aE b)) (bc Q) (aL (List.length a)->bp (λi ag=>br (decide (i.1.1< (aE a))) (0<= 
 i.1.1/\i.1.1< (aE a)/\(Ty.ok eD (eJ a i.1.1)->0<=i.1.1/\i.1.1< (aE b)/\(Ty.ok eD (eJ b i.1.1)->br (!tf ((eJ a i.1.1).1,(eJ a i.1.1).2.1,()) ((eJ b i.1.1).1,(eJ b i.1.1).2.1,())) (bc Q) 
 (jq i.1.1 ag)))) (Q qK [])) jh)
theorem QL:cG 205 Tr:=by
 intro args H Q h;unfold Tr at h;split at h;rotate_left;cases h;rename_i ca cb;split at h;rotate_left;cases h;rename_i a ha;split at h;rotate_left;cases h;rename_i b hb;refine Wp.said (args':=[.c (.d eD a),.c (.d eD b),.c (.fn 203 [])]) (λE g=>bC.cE (dI ha) (bC.cE (dI hb) (bC.cE (λ_ h=>h) (λ_ h=>h)))) ?_;clear ha hb;refine Wp.dJ aay cX ⟨[(5,⟨[(17,.int .i64)],[]⟩)],[]⟩ Tryz.f205 (K6 a b) ?_;unfold K6 jh eJ bc jq kQ qK ah aE aL;intro _ _ _ _;refine aw (λh1=>?_) (λh1=>?_)
 .rw [Ae (by intro e;rw [e] at h1;simp at h1)] at h;exact h
 .have hl:a.length=b.length:=by
   have:(a.length:Int)=(b.length:Int):=by simpa only [bne_eq_false_iff_eq] using h1
   omega
  intro _;refine bp.intro (λi=>0<=i.1.1/\i.1.1<=a.length/\iV (a.drop i.1.1.toNat) (b.drop i.1.1.toNat)=iV a b) (λi=>a.length - i.1.1.toNat) ⟨by simp,by simp,by simp⟩ ?_;rintro ⟨⟨i,_⟩,_⟩ ⟨h0,h2,h3⟩;simp only at h0 h2 h3 ⊢;refine aw (λhc=>?_) (λhc=>?_)
  .have hc:i< a.length:=by simpa using hc
   have CZ:i< b.length:=by omega
   rw [fE (e:=eD) h0 hc,fE (e:=eD) h0 CZ] at h3;simp only [iV] at h3;refine ⟨h0,hc,λ_=>⟨h0,CZ,λ_=>aw (λh4=>?_) (λh4=>?_)⟩⟩
   .have h4:tf (aK eD a i) (aK eD b i)=false:=by simpa using h4
    rw [h4,mI] at h3;rw [<-h3] at h;exact h
   .have h4:tf (aK eD a i) (aK eD b i)=true:=by simpa using h4
    rw [h4,Bool.true_and] at h3;exact ⟨by unfold aF;omega,⟨by omega,by omega,h3⟩,by omega⟩
  .have hc:¬i< a.length:=by simpa using hc
   rw [ft hc,ft (by omega)] at h3;simp only [iV] at h3;rw [<-h3] at h;exact h
def rh (x y:bu):Bool:=x.2.2.1==y.2.2.1&& ((x.2.2.2.1.1==y.2.2.2.1.1&& (x.2.2.2.1.2.1==y.2.2.2.1.2.1&& (x.2.2.2.1.2.2.1==y.2.2.2.1.2.2.1&& true)))&& (mJ x.2.2.2.2.2.1 y.2.2.2.2.2.1&& (x.2.2.2.2.2.2.2.1==y.2.2.2.2.2.2.2.1&& (SU x.2.2.2.2.1 y.2.2.2.2.1&& iV x.2.2.2.2.2.2.1 y.2.2.2.2.2.2.1))))
def ZR:Ct:=cN noTy λx=>cN noTy λy=>c0 λQ=>Q (.bool (rh x y)) []
def aax:=aay.add QL
def Fe:((noTy).den)->((noTy).den)->dE:=
 λx y Q=>gu x.1 (cA x.2.1 x.2.2.1 x.2.2.2.1.1 (cj x.2.2.2.1.2.1 x.2.2.2.1.2.2.1 (aL (bO x.2.2.2.2.1)->aL (dr x.2.2.2.2.2.1)->aL (bO x.2.2.2.2.2.2.1)->aL (bO y.1)->cA y.2.1 y.2.2.1 y.2.2.2.1.1 
 (cj y.2.2.2.1.2.1 y.2.2.2.1.2.2.1 (aL (bO y.2.2.2.2.1)->aL (dr y.2.2.2.2.2.1)->aL (bO y.2.2.2.2.2.2.1)->br (x.2.2.1==y.2.2.1) (br (x.2.2.2.1.1==y.2.2.2.1.1&& (x.2.2.2.1.2.1==y.2.2.2.1.2.1&& (x.2.2.2.1.2.2.1== 
 y.2.2.2.1.2.2.1&& true))) (br (mJ x.2.2.2.2.2.1 y.2.2.2.2.2.1) (br (x.2.2.2.2.2.2.2.1==y.2.2.2.2.2.2.2.1) (br (SU x.2.2.2.2.1 y.2.2.2.2.1) (Q (.v (.c (.k (.bool (iV x.2.2.2.2.2.2.1 y.2.2.2.2.2.2.1))))) []) (bc Q)) (bc Q)) 
 (bc Q)) (bc Q)) (bc Q))))))
theorem Kl:cG 159 ZR:=fz<| V8 λx=>V8 λy=>iQ λQ h=>by
 refine Wp.dJ aax cX ⟨[],[]⟩ Tryz.f159 (Fe x y) ?_;unfold Fe bc dr cj gu bO cA kQ aL;unfold rh at h;intro _ _ _ _ _ _ _ _ _ _ _ _ _ _ _ _ _ _
 repeat' (first| refine aw (λhc=>?_) (λhc=>?_)| intro _)
 all_goals refine Eq.mp (congrArg (λz=>Q (SV.bool z) []) ?_) h
 all_goals clear h
 all_goals simp only [*,Bool.true_and,mI,Bool.and_false]
def kT:List bu->List (Int×bu)->Int
 | [],_=>0
 | x::r,m=>match Kk.get .int m x.2.1 with
  | some o=>if x.2.2.1==1|| !rh x o then 8 else kT r m
  | none=>kT r (Kk.put .int m x.2.1 x)
def VH:Ct:=cD noTy λl=>c0 λQ=>Q (.int (kT l [])) []
def aaw:=aax.add Kl
abbrev rr (y0) (y1:List (noTy).den) (y2):=gd (Kk.get Kk.int y0 (aK noTy y1 y2).2.1) IJ
abbrev O1 (y0) (y1:List (noTy).den) (y2) (y3:_->Prop):=br (!Option.isSome (Kk.get Kk.int y0 (aK noTy y1 y2).2.1)) (l8 y0 (cL y2 (y3 ((y2+1,()),Kk.put Kk.int y0 (aK noTy y1 y2).2.1 (Cp y1 y2),())))) (cL y2 (y3 ((y2+1,()),y0,())))
def Bm (l:(List (noTy).den)):dE:=λQ=>gr l (aL (List.length l)->bp (λi ag=>br (ji i.1.1 l) (jj i.1.1 l (Ty.ok noTy (dy l i.1.1)->Ty.ok noTy (rr i.2.1 l i.1.1)->br (Option.isSome (Kk.get Kk.int i.2.1 (dy l i.1.1).2.1)) (br ((dy l 
 i.1.1).2.2.1==1) (Q (.v (.c (.k (.int .i64 8)))) []) (br (!rh (Cp l i.1.1) ((rr i.2.1 l i.1.1).1,(rr i.2.1 l i.1.1).2.1,(rr i.2.1 l i.1.1).2.2.1,((rr i.2.1 l i.1.1).2.2.2.1.1,(rr i.2.1 l i.1.1).2.2.2.1.2.1, 
 (rr i.2.1 l i.1.1).2.2.2.1.2.2.1,()),(rr i.2.1 l i.1.1).2.2.2.2.1,(rr i.2.1 l i.1.1).2.2.2.2.2.1,(rr i.2.1 l i.1.1).2.2.2.2.2.2.1,(rr i.2.1 l i.1.1).2.2.2.2.2.2.2.1,())) (Q (.v (.c (.k (.int .i64 8)))) []) (O1 i.2.1 
 l i.1.1 ag))) (O1 i.2.1 l i.1.1 ag))) (Q lZ [])) ((ah,()),[],()))
theorem EB:cG 120 VH:=fz<| lH λl=>iQ λQ h=>by
 refine Wp.dJ aaw cX ⟨[(4,⟨[(11,.int .i64)],[(0,.map 3 .int noTy)]⟩)],[]⟩ Tryz.f120 (Bm l) ?_;unfold Bm lZ ji jj dy O1 l8 cL gr rr a6 Cp ah aE aL IJ;intro hl _;refine bp.intro (λi=>0<=i.1.1/\i.1.1<=l.length/\kT (l.drop i.1.1.toNat) i.2.1=kT l []/\(i.2.1.length:Int)<=i.1.1) (λi=>l.length - i.1.1.toNat) ⟨by simp,by simp,by simp,by simp⟩ ?_;rintro ⟨⟨i,_⟩,m,_⟩ ⟨h0,h1,h2,h3⟩;simp only at h0 h1 h2 h3 ⊢;refine aw (λhc=>?_) (λhc=>?_)
 .have hc:i< l.length:=by simpa using hc
  rw [fE (e:=noTy) h0 hc] at h2;refine ⟨h0,hc,λ_=>?_⟩;have hp:=R9 (k:=.int) (l:=m) (x:=(aK noTy l i).2.1) (v:=aK noTy l i);cases hg:Kk.get .int m (aK noTy l i).2.1 with
  | none=>
   simp only [kT,hg] at h2;intro _;refine aw (λh4=>by cases h4) (λ_=>aw (λ_=>?_) (λh5=>by cases h5));exact ⟨by omega,by unfold aF;omega,⟨by omega,by omega,h2,Int.le_trans (Int.ofNat_le.2 hp) (by omega)⟩,by omega⟩
  | some o=>
   simp only [kT,hg] at h2;intro _;refine aw (λ_=>aw (λh5=>?_) (λh5=>aw (λh6=>?_) (λh6=>aw (λh7=>by cases h7) (λ_=>?_)))) (λh4=>by cases h4)
   .rw [h5,Bool.true_or,if_pos rfl] at h2;rw [<-h2] at h;exact h
   .have h6:(!rh (aK noTy l i) o)=true:=h6;rw [h6,Bool.or_true,if_pos rfl] at h2;rw [<-h2] at h;exact h
   .have h6:(!rh (aK noTy l i) o)=false:=h6;rw [h5,h6] at h2;exact ⟨by unfold aF;omega,⟨by omega,by omega,h2,by omega⟩,by omega⟩
 .have hc:¬i< l.length:=by simpa using hc
  rw [ft hc] at h2;simp only [kT] at h2;rw [<-h2] at h;exact h
def kf:List ByteArray->Int
 | []=>0
 | s::r=>if dA s !=0 then dA s else kf r
def kA:List bu->Int
 | []=>0
 | x::r=>if kf x.1 !=0 then kf x.1 else kA r
def uM (l:List bu):Bool:=l.any λx=>decide ((x.1.length:Int)>16)
theorem uR (s:ByteArray):Go.LmN.dA s=dA s:=by
 unfold Go.LmN.dA dA;rw [show Go.LmN.aiB s=Zo s from rfl,show Go.LmN.Ax s 0=rZ s 0 from rfl,Bool.or_comm]
def Th:Ct
 | [.v (.c ca),.v (.c (.k (.string z)))],[],Q=>(match (Ty.sl Ty.str).of [ca] with
  | some (a,[])=>z=⟨#[47]⟩/\(Go.LmN.jr a).size<=140737488355328/\Q (.str ⟨(Lib.join (a.map (·.data.toList)) [47]).toArray⟩) []
  | _=>False)
 | _,_,_=>False
theorem RM (l:List ByteArray) (hb:(Go.LmN.jr l).size<=140737488355328):1+(ByteArray.mk ((Lib.join (l.map (·.data.toList)) [47]).toArray)).size<=9223372036854775807:=by
 have hj:=Go.LmN.Ve l;have e:(ByteArray.mk ((Lib.join (l.map (·.data.toList)) [47]).toArray)).size=(Lib.join (l.map (·.data.toList)) [47]).length:=by rw [Go.LmN.gF]
 rw [e];omega
theorem YJ (l:List ByteArray) (v:Value) (g w:World) (uf:bx g w) (h:Is g v l) (hb:(Go.LmN.jr l).size<=140737488355328):Hs cd 154 #[v,.string ⟨#[47]⟩] w λu w'=>u= .string ⟨(Lib.join (l.map (·.data.toList)) [47]).toArray⟩/\Le w w':=by
 have hj:=Go.LmN.YK l;by_cases hl:l= []
 .subst hl;rcases dv.1 h with ⟨rfl,_⟩| ⟨a,cap,rfl,_⟩
  .exact (Hs.of (Tryz.strings_Join_none none 0 ⟨#[47]⟩ w)).mono λ_ _ ⟨h1,h2⟩=>⟨h1,by rw [h2];exact Le.refl w⟩
  .exact (Hs.of (Tryz.strings_Join_none (some a) cap ⟨#[47]⟩ w)).mono λ_ _ ⟨h1,h2⟩=>⟨h1,by rw [h2];exact Le.refl w⟩
 .obtain ⟨bk,o,c,rfl,h1,h2,h3⟩:=Go.LmN.PA h uf hl;have hn:l.length<=(Go.LmN.jr l).size:=by
   have e:=Go.LmN.oC l;rw [if_neg (by simpa using hl)] at e;rw [Go.LmN.gF,e];exact Go.LmN.LC l
  exact (Hs.of (Tryz.strings_Join bk o c l ⟨#[47]⟩ w h1 h2 (by omega) h3 (by show (Lib.join (l.map (·.data.toList)) [47]).length<=_;omega))).mono λ_ _ ⟨h1,h2⟩=>⟨h1,h2⟩
theorem QF:cG 154 Th:=by
 intro args H Q h;unfold Th at h;split at h
 .split at h
  .rename_i a ha;obtain ⟨rfl,hb,h⟩:=h;refine Wp.Sd (λE g w vs m hv=>?_) h;obtain ⟨u,v,rfl,hu,⟨rfl,_⟩⟩:=nK hv;have hu:nY .str g u a:=dI ha u hu;refine (YJ a u g w m hu hb).mono λx w' ⟨h1,h2⟩=>⟨?_,h2⟩;rw [h1];refine ⟨rfl,?_⟩;exact Nat.le_trans (Nat.le_add_left _ 1) (RM a hb)
  .cases h
 .cases h
def aer:Ct:=cD .str λa=>c0 λQ=>((Go.LmN.jr a).size<=140737488355328/\Q (.str (Go.LmN.jr a)) [])
def aav:=(aaw.add EB).add QF
abbrev IE (y0:List (Ty.str).den):=List.toArray (Lib.join (List.map (λx=>x.data.toList) y0) [(47:UInt8)])
abbrev lF (y0:List (Ty.str).den) (R:Prop):=List.length y0<=9223372036854775807->R
def K2 (a:(List (Ty.str).den)):dE:=λQ=>lF a (ByteArray.mk #[(47:UInt8)]=ByteArray.mk #[(47:UInt8)]/\ByteArray.size (LmN.jr a)<=140737488355328/\(ByteArray.size (ByteArray.mk (IE a))<=9223372036854775807->bJ+ByteArray.size (ByteArray.mk 
 (IE a))<=9223372036854775807/\Q (.v (.c (.k (.string (ByteArray.mk #[(47:UInt8)]++ByteArray.mk (IE a)))))) []))
theorem QK:cG 116 aer:=fz<| lH λa=>iQ λQ h=>by
 refine Wp.dJ aav cX ⟨[],[]⟩ Tryz.f116 (K2 a) ?_;unfold K2 lF IE bJ;obtain ⟨hb,h⟩:=h;intro _;refine ⟨rfl,hb,λ_=>⟨?_,?_⟩⟩;exact RM a hb
 .rw [<-Go.LmN.yJ] at h;exact h
abbrev pZ (l:List ByteArray):ByteArray:=Go.LmN.jr l
def nA:List bu->List (ByteArray×bu)->Option (List (ByteArray×bu))
 | [],m=>some m
 | x::r,m=>if (Kk.get .str m (pZ x.1)).isSome then none else nA r (Kk.put .str m (pZ x.1) x)
theorem FB:∀ {l:List ByteArray},kf l=0->∀ s∈l,dA s=0
 | [],_,s,hs=>by cases hs
 | x::r,h,s,hs=>by
  unfold kf at h;by_cases hx:(dA x !=0)=true
  .rw [if_pos hx] at h;rw [h] at hx;simp at hx
  .rw [if_neg hx] at h;rcases bm.1 hs with rfl| hs
   .simpa using hx
   .exact FB h s hs
theorem mA:∀ {l:List bu},kA l=0->∀ x∈l,∀ s∈x.1,dA s=0
 | [],_,x,hx=>by cases hx
 | y::r,h,x,hx=>by
  unfold kA at h;by_cases hy:(kf y.1 !=0)=true
  .rw [if_pos hy] at h;rw [h] at hy;simp at hy
  .rw [if_neg hy] at h;rcases bm.1 hx with rfl| hx
   .exact FB (by simpa using hy)
   .exact mA h x hx
theorem AN {l:List bu} (h:uM l=false) {x:bu} (hx:x∈l):x.1.length<=16:=by
 unfold uM at h;rw [List.any_eq_false] at h;have:=h x hx;simp at this;omega
theorem CP {p:List ByteArray} (h:∀ s∈p,dA s=0) (hl:p.length<=30):(pZ p).size<=140737488355328:=by
 have:=Go.LmN.VV (l:=p) (λs hs=>by rw [uR];exact h s hs) hl;show (Go.LmN.jr p).size<=_;omega
theorem SE {e:Ty} {l:List e.den} {k:Int} (h0:0<=k) (h1:k< l.length):aK e l k∈l:=by
 have eK:k.toNat< l.length:=by omega
 unfold aK;rw [ba,ak eK];exact dw eK
def j7 (l:List bu):Int:=if kA l !=0 then kA l else if uM l then 9 else if (nA l []).isNone then 6 else 0
def fY (l:List bu):List (ByteArray×bu):=(nA l []).getD []
def ZO:Ct:=cD noTy λl=>c0 λQ=>br (j7 l !=0) (Q (.cJ [.c (.k (.map none)),.c (.k (.int .i64 (j7 l)))]) []) (Q (.cJ [.c (.m 0),.c (.k (.int .i64 0))]) [.map 9 .str noTy (fY l)])
def ajh:=aav.add QK
abbrev km (y0:List (noTy).den) (y1):=(↑(List.length (aK noTy y0 y1).1):Int)
abbrev vr (y0:List (noTy).den) (y1) (R:Prop):=Ty.ok noTy (aK noTy y0 y1)->List.length (aK noTy y0 y1).1<=9223372036854775807->R
abbrev xS (y0:List (noTy).den) (y1):=LmN.jr (dy y0 y1).1
def E7 (l:(List (noTy).den)):dE:=λQ=>gr l (aL (List.length l)->bp (λi ag=>br (ji i.1.1 l) (jj i.1.1 l (vr l i.1.1 (bp (λdu ag_1=>br (decide (du.1.1< (km l i.1.1))) (0<=du.1.1/\du.1.1< (km l i.1.1)/\(Ty.ok Ty.str (aK 
 Ty.str (dy l i.1.1).1 du.1.1)->aF .i64 (dA (aK Ty.str (dy l i.1.1).1 du.1.1))->br (dA (aK Ty.str (dy l i.1.1).1 du.1.1) !=0) (Q (.cJ [.c (.k (.map none)),.c (.k (.int .i64 (dA (aK Ty.str (dy l 
 i.1.1).1 du.1.1))))]) []) (jq du.1.1 ag_1))) (jq i.1.1 ag)) jh))) (aL (List.length l)->bp (λi ag=>br (ji i.1.1 l) (jj i.1.1 l (vr l i.1.1 (br (decide ((km l i.1.1)>X7)) (Q (.cJ [.c (.k (.map 
 none)),.c (.k (.int .i64 9))]) []) (jq i.1.1 ag)))) (aL (List.length l)->bp (λi ag=>br (ji i.1.1 l) (jj i.1.1 l (Ty.ok noTy (dy l i.1.1)->ByteArray.size (xS l i.1.1)<=140737488355328/\(aL (ByteArray.size 
 (xS l i.1.1))->Ty.ok noTy (gd (Kk.get Kk.str i.2.1 (xS l i.1.1)) IJ)->br (Option.isSome (Kk.get Kk.str i.2.1 (xS l i.1.1))) (Q (.cJ [.c (.k (.map none)),.c (.k (.int .i64 6))]) []) (l8 i.2.1 (cL i.1.1 (ag 
 ((i.1.1+1,()),Kk.put Kk.str i.2.1 (xS l i.1.1) (Cp l i.1.1),()))))))) (Q (SV.cJ [S1.c (Cl.m bD),.c (.k a6)]) [HO.map (9:TypeId) Kk.str noTy i.2.1])) ((ah,()),[],()))) jh)) jh)
theorem WL:cG 115 ZO:=fz<| lH λl=>iQ λQ h=>by
 refine Wp.dJ ajh cX ⟨[(3,⟨[(19,.int .i64)],[]⟩),(6,⟨[(26,.int .i64)],[]⟩),(14,⟨[(39,.int .i64)],[]⟩),(21,⟨[(51,.int .i64)],[(0,.map 9 .str noTy)]⟩)],[]⟩ Tryz.f115 (E7 l) ?_;unfold E7 xS jh ji jj dy l8 vr cL gr jq km a6 Cp ah X7 aE aL IJ bD;intro _ _;refine bp.intro (λi=>0<=i.1.1/\i.1.1<=l.length/\kA (l.drop i.1.1.toNat)=kA l) (λi=>l.length - i.1.1.toNat) ⟨by simp,by simp,by simp⟩ ?_;rintro ⟨⟨i,_⟩,_⟩ ⟨h0,h1,h2⟩;simp only at h0 h1 h2 ⊢;refine aw (λhc=>?_) (λhc=>?_)
 .have hc:i< l.length:=by simpa using hc
  rw [fE (e:=noTy) h0 hc] at h2;simp only [kA] at h2;generalize aK noTy l i=x at*;refine ⟨h0,hc,λ_ _=>?_⟩;refine bp.intro (λk=>0<=k.1.1/\k.1.1<=x.1.length/\kf (x.1.drop k.1.1.toNat)=kf x.1) (λk=>x.1.length - k.1.1.toNat) ⟨by simp,by simp,by simp⟩ ?_;rintro ⟨⟨k,_⟩,_⟩ ⟨k0,k1,k2⟩;simp only at k0 k1 k2 ⊢;refine aw (λhk=>?_) (λhk=>?_)
  .have hk:k< x.1.length:=by simpa using hk
   rw [fE (e:=Ty.str) k0 hk] at k2;simp only [kf] at k2;refine ⟨k0,hk,λ_ _=>aw (λhb=>?_) (λhb=>?_)⟩
   .rw [if_pos hb] at k2;rw [k2] at hb;rw [if_pos hb] at h2;rw [h2] at hb;have e:j7 l=kA l:=if_pos hb;rw [e,hb,<-h2,<-k2] at h;exact h
   .rw [if_neg (by rw [hb];simp)] at k2;exact ⟨by unfold aF;omega,⟨by omega,by omega,k2⟩,by omega⟩
  .have hk:¬k< x.1.length:=by simpa using hk
   rw [ft hk] at k2;simp only [kf] at k2;rw [<-k2,if_neg (by simp)] at h2;exact ⟨by unfold aF;omega,⟨by omega,by omega,h2⟩,by omega⟩
 have hc:¬i< l.length:=by simpa using hc
 rw [ft hc] at h2;simp only [kA] at h2;have hN:kA l=0:=h2.symm;have e1:j7 l=if uM l then 9 else if (nA l []).isNone then 6 else 0:=if_neg (by rw [hN];simp)
 rw [e1] at h;clear h0 h1 h2 hc;intro _;refine bp.intro (λi=>0<=i.1.1/\i.1.1<=l.length/\uM (l.drop i.1.1.toNat)=uM l) (λi=>l.length - i.1.1.toNat) ⟨by simp,by simp,by simp⟩ ?_;rintro ⟨⟨i,_⟩,_⟩ ⟨h0,h1,h2⟩;simp only at h0 h1 h2 ⊢;refine aw (λhc=>?_) (λhc=>?_)
 .have hc:i< l.length:=by simpa using hc
  rw [fE (e:=noTy) h0 hc] at h2;unfold uM at h2;rw [List.any_cons] at h2;refine ⟨h0,hc,λ_ _=>aw (λhb=>?_) (λhb=>?_)⟩
  .rw [hb,Bool.true_or] at h2;have hD:uM l=true:=h2.symm;rw [if_pos hD] at h;exact h
  .rw [hb,Bool.false_or] at h2;exact ⟨by unfold aF;omega,⟨by omega,by omega,h2⟩,by omega⟩
 have hc:¬i< l.length:=by simpa using hc
 rw [ft hc] at h2;have hD:uM l=false:=h2.symm;rw [if_neg (by rw [hD];decide)] at h;clear h0 h1 h2 hc;intro _;refine bp.intro (λi=>0<=i.1.1/\i.1.1<=l.length/\nA (l.drop i.1.1.toNat) i.2.1=nA l []/\(i.2.1.length:Int)<=i.1.1) (λi=>l.length - i.1.1.toNat) ⟨by simp,by simp,by simp,by simp⟩ ?_;rintro ⟨⟨i,_⟩,m,_⟩ ⟨h0,h1,h2,h3⟩;simp only at h0 h1 h2 h3 ⊢;refine aw (λhc=>?_) (λhc=>?_)
 .have hc:i< l.length:=by simpa using hc
  rw [fE (e:=noTy) h0 hc] at h2;have hx:aK noTy l i∈l:=SE (e:=noTy) h0 hc;have hb:=CP (mA hN _ hx) (by have:=AN hD hx;omega);have hp:=R9 (k:=.str) (l:=m) (x:=pZ (aK noTy l i).1) (v:=aK noTy l i);generalize aK noTy l i=x at*;simp only [nA] at h2;refine ⟨h0,hc,λ_=>⟨hb,λ_ _=>aw (λh4=>?_) (λh4=>?_)⟩⟩
  .rw [if_pos h4] at h2;rw [<-h2] at h;exact h
  .rw [if_neg (by rw [h4];simp)] at h2;exact ⟨by omega,by unfold aF;omega,⟨by omega,by omega,h2,Int.le_trans (Int.ofNat_le.2 hp) (by omega)⟩,by omega⟩
 have hc:¬i< l.length:=by simpa using hc
 rw [ft hc] at h2;simp only [nA] at h2;have e2:fY l=m:=by unfold fY;rw [<-h2];rfl
 rw [<-h2,e2] at h;exact h
def mi (m:List (ByteArray×bu)) (p:List ByteArray):Int:=((Kk.get .str m (pZ p)).getD ([],0,0,(0,0,0,()),[],⟨#[]⟩,[],false,())).2.2.1
def Mu (m:List (ByteArray×bu)) (l:List bu):Bool:=l.any λx=>decide ((x.1.length:Int) - 1≥0)&& (mi m (x.1.take (x.1.length - 1)) !=1)
def dH (l:List bu):Int:=if (l.length:Int)>1024 then 3 else if j7 l !=0 then j7 l else if mi (fY l) [] !=1 then 4 else if Mu (fY l) l then 5 else if l.any (λx=> !iR x) then 7 else kT l []
theorem wK {l:List bu} (h:(j7 l !=0)=false):kA l=0/\uM l=false/\(nA l []).isSome=true:=by
 have h:j7 l=0:=by simpa using h
 unfold j7 at h;split at h
 .rename_i h1;rw [h] at h1;simp at h1
 .rename_i h1;split at h
  .simp at h
  .rename_i h2;split at h
   .simp at h
   .rename_i h3;refine ⟨by simpa using h1,by simpa using h2,?_⟩;cases hm:nA l [] with
    | none=>rw [hm] at h3;simp at h3
    | some m=>rfl
def ZQ:Ct:=cD noTy λl=>c0 λQ=>Q (.int (dH l)) []
def ajg:=((((((((aaz.add EC).add ED).add QL).add Kl).add EB).add QF).add QK).add WL).add QM
abbrev Cr (y0:List (noTy).den) (y1):=LmN.jr (List.take (ax ((km y0 y1) - 1)) (aK noTy y0 y1).1)
def Fc (l:(List (noTy).den)):dE:=λQ=>gr l (aL (List.length l)->br (decide ((aE l)>(1024:Int))) (Q (.v (.c (.k (.int .i64 3)))) []) (br (j7 l !=0) (aF .i64 (j7 l)->br (j7 l !=0) (Q (.v (.c (.k (.int .i64 (j7 l))))) []) (bJ<=cw/\ 
 (bJ<=eW->False))) (aF .i64 0->bJ<=cw/\(bJ<=eW->Ty.ok noTy (gd (Kk.get Kk.str (fY l) (LmN.jr [])) IJ)->br ((gd (Kk.get Kk.str (fY l) (LmN.jr [])) IJ).2.2.1 !=1) (Q (.v (.c (.k 
 (.int .i64 4)))) []) (aL (List.length l)->bp (λi ag=>br (ji i.1.1 l) (jj i.1.1 l (vr l i.1.1 (aF .i64 ((km l i.1.1) - 1)/\br (decide ((km l i.1.1) - 1≥ah)) (ah<=(km l i.1.1) - 1/\(km l i.1.1) - 
 1<=(km l i.1.1)/\ByteArray.size (Cr l i.1.1)<=140737488355328/\(ByteArray.size (Cr l i.1.1)<=9223372036854775807->Ty.ok noTy (gd (Kk.get Kk.str (fY l) (Cr l i.1.1)) IJ)->br ((gd (Kk.get Kk.str 
 (fY l) (Cr l i.1.1)) IJ).2.2.1 !=1) (Q (.v (.c (.k (.int .i64 5)))) []) (jq i.1.1 ag))) (jq i.1.1 ag)))) (br (!List.any l λx=> !iR x) (aF .i64 (kT l [])->Q (.v (.c (.k (.int .i64 (kT l []))))) []) (Q (.v (.c 
 (.k (.int .i64 7)))) []))) jh)))))
theorem WN:cG 67 ZQ:=fz<| lH λl=>iQ λQ h=>by
 refine Wp.dJ ajg cX ⟨[(10,⟨[(28,.int .i64)],[]⟩)],[]⟩ Tryz.f67 (Fc l) ?_;unfold Fc jh ji jj Cr vr gr jq km eW cw ah aE aL IJ bJ;intro _ _;unfold dH at h;refine aw (λhc=>?_) (λhc=>?_);rw [if_pos (by simpa using hc)] at h;exact h;rw [if_neg (by simpa using hc)] at h;refine aw (λhc=>?_) (λhc=>?_)
 .rw [if_pos hc] at h;intro _;rw [hc];exact h
 rw [if_neg (by rw [hc];simp)] at h;obtain ⟨hN,hD,_⟩:=wK hc;intro _;refine ⟨by decide,λ_ _=>aw (λhc=>?_) (λhc=>?_)⟩;rw [if_pos (show (mi (fY l) [] !=1)=true from hc)] at h;exact h;rw [if_neg (by show ¬(mi (fY l) [] !=1)=true;rw [show (mi (fY l) [] !=1)=false from hc];simp)] at h;intro _;refine bp.intro (λi=>0<=i.1.1/\i.1.1<=l.length/\Mu (fY l) (l.drop i.1.1.toNat)=Mu (fY l) l) (λi=>l.length - i.1.1.toNat) ⟨by simp,by simp,by simp⟩ ?_;rintro ⟨⟨i,_⟩,_⟩ ⟨h0,h1,h2⟩;simp only at h0 h1 h2 ⊢;refine aw (λhc=>?_) (λhc=>?_)
 .have hc:i< l.length:=by simpa using hc
  rw [fE (e:=noTy) h0 hc] at h2;have hx:aK noTy l i∈l:=SE (e:=noTy) h0 hc;have hv:=mA hN _ hx;have hl:=AN hD hx;generalize aK noTy l i=x at*;have h2:((decide ((x.1.length:Int) - 1≥0)&& (mi (fY l) (x.1.take (x.1.length - 1)) !=1))|| Mu (fY l) (l.drop (i+1).toNat))=Mu (fY l) l:=h2;refine ⟨h0,hc,λ_ _=>⟨by unfold aF;omega,aw (λhb=>?_) (λhb=>?_)⟩⟩
  .rw [hb,Bool.true_and] at h2;have hb:(x.1.length:Int) - 1≥0:=by simpa using hb
   have e1:cn (some ((x.1.length:Int) - 1)) (x.1.length:Int)=(x.1.length:Int) - 1:=rfl;have e2:cn none 0=0:=rfl;refine ⟨by omega,by omega,?_⟩;rw [show ((x.1.length:Int) - 1).toNat=x.1.length - 1 by omega];refine ⟨CP (λs hs=>hv s (List.take_subset _ _ hs)) (by rw [aA];omega),λ_ _=>aw (λhd=>?_) (λhd=>?_)⟩
   .rw [show (mi (fY l) (x.1.take (x.1.length - 1)) !=1)=true from hd,Bool.true_or] at h2;rw [<-h2,if_pos rfl] at h;exact h
   .rw [show (mi (fY l) (x.1.take (x.1.length - 1)) !=1)=false from hd,Bool.false_or] at h2;exact ⟨by unfold aF;omega,⟨by omega,by omega,h2⟩,by omega⟩
  .rw [hb,mI,Bool.false_or] at h2;exact ⟨by unfold aF;omega,⟨by omega,by omega,h2⟩,by omega⟩
 have hc:¬i< l.length:=by simpa using hc
 rw [ft hc] at h2;rw [<-h2,if_neg (by simp [Mu])] at h;refine aw (λhb=>λ_=>?_) (λhb=>?_)
 .have hb:(l.any λx=> !iR x)=false:=by simpa only [bY] using hb
  rw [if_neg (by rw [hb];simp)] at h;exact h
 .have hb:(l.any λx=> !iR x)=true:=by simpa only [Bool.not_eq_false'] using hb
  rw [if_pos hb] at h;exact h
end Go.Proofs

namespace Go.Proofs
open Go Go.Shelf Go.Lib Go.Sort Go.Lm
set_option maxRecDepth 1000000
set_option maxHeartbeats 1000000 in
theorem Tryz.adp (x:ByteArray) (w:World):Calls cd 170 #[.string x] w λe w'=>e= .returned (.bool false)/\w'=w:=by
 go_enter Tryz.func170,Tryz.ntmps170
 go_wp2
 go_ret
 exact ⟨by simp,rfl⟩
set_option maxHeartbeats 1000000 in
theorem Tryz.Vu (x y:ByteArray) (w:World):Calls cd 123 #[.string x,.string y] w λe w'=>e= .returned (.int .i64 (fx x y))/\w'=w:=by
 go_enter Tryz.func123,Tryz.ntmps123
 go_wp2_with (first| (go_at_call 170;refine (Tryz.adp _ _).mono ?_;rintro e w' ⟨rfl,hw⟩;rw [hw])| rw [Tryz.str_gtr])
 all_goals go_ret
 all_goals (refine ⟨?_,rfl⟩;simp_all [fx])
set_option maxHeartbeats 2000000 in
theorem Tryz.Zt (a a2:Option Addr) (c c2:Nat) (xs ys:List ByteArray) (w:World) (lx:xs.length<=9223372036854775807) (ly:ys.length<=9223372036854775807)
  (h1:∀ (j:Nat) x,xs[j]?=some x->∃ bk o,a=some ⟨bk,o,none⟩/\w.cell? ⟨bk,o+j,none⟩=some (.string x))
  (h2:∀ (j:Nat) x,ys[j]?=some x->∃ bk o,a2=some ⟨bk,o,none⟩/\w.cell? ⟨bk,o+j,none⟩=some (.string x)):
  Calls cd 71 #[.slice a xs.length c,.slice a2 ys.length c2] w λe w'=>e= .returned (.int .i64 (cmpL xs ys))/\w'=w:=by
 generalize hn:xs.length=n at*;generalize hm:ys.length=m at*
 go_enter Tryz.func71,Tryz.ntmps71
 go_wp2
 go_loop [11] (λv11=>∃ k:Nat,k<=n/\k<=m/\v11= .int .i64 k/\Aside (cmpL (xs.drop k) (ys.drop k)=cmpL xs ys)) (λv11=>match v11 with| .int _ m=>n - m.toNat| _=>0)
 case atStart=>exact ⟨0,cq _,cq _,rfl,rfl⟩
 case round=>
  obtain ⟨k,hk,qP,rfl,A⟩:=hrel;by_cases eK:k< n
  .by_cases aif:k< m
   .obtain ⟨bk,o,rfl,g1⟩:=h1 k xs[k] (ak (by omega));obtain ⟨bk2,o2,rfl,g2⟩:=h2 k ys[k] (ak (by omega));have B:Aside (cmpL (xs.drop k) (ys.drop k)=if fx xs[k] ys[k]=0 then cmpL (xs.drop (k+1)) (ys.drop (k+1)) else fx xs[k] ys[k]):=Vw (ak (by omega:k< xs.length)) (ak (by omega:k< ys.length))
    clear h1 h2;have hc:=λw=>Tryz.Vu xs[k] ys[k] w;generalize xs[k]=x at*;generalize ys[k]=y at*;generalize fx x y=r at*;by_cases hr:r=0
    .subst hr
     go_wp2_with (go_at_call 123;refine (hc _).mono ?_;rintro e w' ⟨rfl,rfl⟩)
     refine ⟨⟨k+1,by omega,by omega,rfl,?_⟩,by simp only [aU];omega⟩;simp only [if_true] at B;exact (Eq.symm B).trans A
    .go_wp2_with (go_at_call 123;refine (hc _).mono ?_;rintro e w' ⟨rfl,rfl⟩)
     go_ret
     have B:cmpL (xs.drop k) (ys.drop k)=r:=by
      have B':cmpL (xs.drop k) (ys.drop k)=if r=0 then cmpL (xs.drop (k+1)) (ys.drop (k+1)) else r:=B
      rw [if_neg hr] at B';exact B'
     exact ⟨congrArg (λz=>Ending.returned (.int .i64 z)) ((Eq.symm B).trans A),rfl⟩
   .obtain ⟨bk,o,rfl,g1⟩:=h1 k xs[k] (ak (by omega));have B:Aside (cmpL (xs.drop k) (ys.drop k)=1):=by
     rw [cg (show k< xs.length by omega),@ik _ ys k (by omega)];rfl
    clear h1 h2;generalize xs[k]=x at*
    go_wp2
    go_ret
    exact ⟨congrArg (λz=>Ending.returned (.int .i64 z)) ((Eq.symm B).trans A),rfl⟩
  .clear h1 h2;have e1:xs.drop k= []:=ik (by omega);by_cases aif:n< m
   .have B:Aside (cmpL (xs.drop k) (ys.drop k)= -1):=by
     rw [e1,cg (show k< ys.length by omega)];rfl
    go_wp2
    go_ret
    exact ⟨congrArg (λz=>Ending.returned (.int .i64 z)) ((Eq.symm B).trans A),rfl⟩
   .have B:Aside (cmpL (xs.drop k) (ys.drop k)=0):=by
     rw [e1,@ik _ ys k (by omega)];rfl
    go_wp2
    go_ret
    exact ⟨congrArg (λz=>Ending.returned (.int .i64 z)) ((Eq.symm B).trans A),rfl⟩
theorem uc {w:World} {os:Array Obj} {a:Addr} {v:Value} (h:w.cell? a=some v):(grow w os).cell? a=some v:=by
 unfold World.cell? at h ⊢;split at h
 .rename_i c e z hb;have:(grow w os).heap[a.block]?=some (.cells c e z):=by
   show (w.heap++os)[a.block]?=_;rw [jW (aQ.1 hb).1];exact hb
  rw [this];exact h
 .cases h
set_option maxHeartbeats 2000000 in
theorem Tryz.alJ (a a2:Option Addr) (c c2:Nat) (xs ys:List ByteArray) (p1 p2 p3 p4 p5 p6 p7 p8 p9 q1 q2 q3 q4 q5 q6 q7 q8 q9:Value) (w:World) (lx:xs.length<=9223372036854775807) (ly:ys.length<=9223372036854775807)
  (h1:∀ (j:Nat) x,xs[j]?=some x->∃ bk o,a=some ⟨bk,o,none⟩/\w.cell? ⟨bk,o+j,none⟩=some (.string x))
  (h2:∀ (j:Nat) x,ys[j]?=some x->∃ bk o,a2=some ⟨bk,o,none⟩/\w.cell? ⟨bk,o+j,none⟩=some (.string x)):
  Calls cd 70 #[.agg #[.slice a xs.length c,p1,p2,p3,p4,p5,p6,p7,p8,p9],.agg #[.slice a2 ys.length c2,q1,q2,q3,q4,q5,q6,q7,q8,q9]] w λe w'=>e= .returned (.int .i64 (cmpL xs ys))/\∃ q os',w'=grow (w.drewN q) os':=by
 have aok:∀ W' os,W'=grow w os->Calls cd 71 #[.slice a xs.length c,.slice a2 ys.length c2] W' λe w'=>e= .returned (.int .i64 (cmpL xs ys))/\w'=W':=by
  rintro W' os rfl;refine Tryz.Zt a a2 c c2 xs ys _ lx ly (λj x hj=>?_) (λj x hj=>?_)
  .obtain ⟨bk,o,e,h⟩:=h1 j x hj;exact ⟨bk,o,e,uc h⟩
  .obtain ⟨bk,o,e,h⟩:=h2 j x hj;exact ⟨bk,o,e,uc h⟩
 clear h1 h2;generalize cmpL xs ys=r at*;generalize xs.length=n at*;generalize ys.length=m at*
 go_enter Tryz.func70,Tryz.ntmps70
 go_wp2_with (go_at_call 71;refine (aok _ _ (by rw [alloc_eq_grow,alloc_eq_grow,grow_grow])).mono ?_;rintro e w' ⟨rfl,rfl⟩)
 go_ret
 exact ⟨rfl,0,_,by rw [alloc_eq_grow,alloc_eq_grow,grow_grow];rfl⟩
end Go.Proofs

namespace Go.Lm
open Go Go.RowKit Go.Proofs
def agB (P:Program) (f fk k:Nat):Prop:=∀ {α:Type} [Inhabited α] (enc:α->List Value),(∀ x,(enc x).length=k)->(∀ x,∀ v∈enc x,v.oneCell'=true)->∀ (cf:α->α->Int),Sort.SWO (ltOf cf)->∀ (oP off cap:Nat) (d:Array α) (w:World),
 CmpLays P fk #[] enc k cf oP off d.size w->Sort.HoldsK enc k w oP off d->oP< w.heap.size->d.size< 4611686018427387904->
 Calls P f #[.slice (some ⟨oP,off,none⟩) d.size cap,.func (.func fk) #[] #[]] w λe w'=>e= .returned (.tuple #[])/\∃ d' n os,Sort.PermIn 0 d.size d d'/\Sort.SortedIn (ltOf cf) 0 d.size d'/\w'=Go.Proofs.sortWorldK enc k w oP off n d' os
def aml (P:Program) (fk:Nat):Prop:=∀ (a a2:Option Addr) (c c2:Nat) (xs ys:List ByteArray) (p1 p2 p3 p4 p5 p6 p7 p8 p9 q1 q2 q3 q4 q5 q6 q7 q8 q9:Value) (w:World),xs.length<=9223372036854775807->ys.length<=9223372036854775807->
  (∀ (j:Nat) x,xs[j]?=some x->∃ bk o,a=some ⟨bk,o,none⟩/\w.cell? ⟨bk,o+j,none⟩=some (.string x))->
  (∀ (j:Nat) x,ys[j]?=some x->∃ bk o,a2=some ⟨bk,o,none⟩/\w.cell? ⟨bk,o+j,none⟩=some (.string x))->
  Calls P fk #[.agg #[.slice a xs.length c,p1,p2,p3,p4,p5,p6,p7,p8,p9],.agg #[.slice a2 ys.length c2,q1,q2,q3,q4,q5,q6,q7,q8,q9]] w λe w'=>e= .returned (.int .i64 (cmpL xs ys))/\∃ q os',w'=Sort.grow (w.drewN q) os'
theorem flat_get {k:Nat}:∀ {l:List (List Value)},(∀ x∈l,x.length=k)->∀ {t:Nat},t< l.length*k->∃ c v,l[t / k]?=some c/\c[t % k]?=some v/\l.flatten[t]?=some v
 | [],_,t,h=>by simp at h
 | c::l,hl,t,h=>by
  have hc:=hl c (by simp);by_cases ht:t< k
  .refine ⟨c,c[t]'(by omega),?_,?_,?_⟩
   .rw [Nat.div_eq_of_lt ht];rfl
   .rw [lS ht];exact ak (by omega)
   .rw [bI,aV (by omega)];exact ak (by omega)
  .have hk:0< k:=by
    cases k with
    | zero=>simp at h
    | succ _=>omega
   have h':t - k< l.length*k:=by
    rw [aq,fg] at h;omega
   obtain ⟨c',v,h1,h2,h3⟩:=flat_get (λx hx=>hl x (aH _ hx)) h';refine ⟨c',v,?_,?_,?_⟩;rw [Nat.div_eq_sub_div hk (by omega),List.getElem?_cons_succ];exact h1;rw [Nat.mod_eq_sub_mod (by omega)];exact h2;rw [bI,a8 (by omega),hc];exact h3
theorem vI {α:Type} [Inhabited α] {enc:α->List Value} {k:Nat} (hk:∀ x,(enc x).length=k) (d:Array α):(Sort.flatK enc k d).toList=(d.toList.map enc).flatten:=by
 have hl:∀ x∈d.toList.map enc,x.length=k:=λx hx=>by
  obtain ⟨y,_,rfl⟩:=aP.1 hx;exact hk y
 have hlen:(d.toList.map enc).flatten.length=d.size*k:=by
  rw [List.length_flatten,List.map_map];have:(d.toList.map (List.length ∘ enc))=av d.size k:=by
   rw [List.eq_replicate_iff];refine ⟨by simp,λx hx=>?_⟩;obtain ⟨y,_,rfl⟩:=aP.1 hx;exact hk y
  rw [this,List.sum_replicate_nat]
 refine List.ext_getElem? λt=>?_;by_cases ht:t< d.size*k
 .obtain ⟨c,v,h1,h2,h3⟩:=flat_get hl (t:=t) (by simpa using ht);rw [h3];have hg:=Sort.get_flatK enc k d t ht;have hs:t< (Sort.flatK enc k d).size:=by rw [Sort.size_flatK];exact ht
  rw [getElem!_pos _ t hs] at hg;have hdk:t / k< d.size:=by
   rcases au.1 h1 with ⟨q,_⟩;simpa using q
  have hc:c=enc d[t / k]:=by
   rw [ck] at h1;simp only [eS,cK hdk,js,j8] at h1;exact h1.symm
  rw [eS,cK hs,hg,getElem!_pos d _ hdk,<-hc];obtain ⟨q,e⟩:=au.1 h2;rw [getElem!_pos c _ q,e]
 .rw [dx (by simpa using Nat.le_of_not_lt ht),dx (by omega)]
structure oN (g:World) where
 cs:List Value
 x:bu
 rel:noTy.rep.rel g cs x
theorem oN.len {g:World} (r:oN g):r.cs.length=10:=by
 have:=noTy.rep.len r.rel;rw [Ty.gp] at this;exact this
theorem oN.names {g:World} (r:oN g):∃ a c p1 p2 p3 p4 p5 p6 p7 p8 p9,r.cs= [.slice a r.x.1.length c,p1,p2,p3,p4,p5,p6,p7,p8,p9]/\r.x.1.length<=9223372036854775807/\∀ (j:Nat) s,r.x.1[j]?=some s->∃ bk o,a=some ⟨bk,o,none⟩/\g.cell? ⟨bk,o+j,none⟩=some (.string s):=by
 have hl:=r.len;obtain ⟨cs,x,c1,c2,e,⟨v,um,hs⟩,_⟩:=r;simp only at e hl ⊢;subst e;subst um;have uG:c2.length=9:=by simpa using hl
 match c2,uG with
 | [p1,p2,p3,p4,p5,p6,p7,p8,p9],_=>
  rcases hs with ⟨rfl,hx⟩| ⟨a,cap,rfl,h1,h2,h3⟩
  .refine ⟨none,0,p1,p2,p3,p4,p5,p6,p7,p8,p9,?_,?_,?_⟩
   .rw [hx];rfl
   .rw [hx];simp
   .intro j s hj;rw [hx] at hj;simp at hj
  .refine ⟨some a,cap,p1,p2,p3,p4,p5,p6,p7,p8,p9,rfl,Nat.le_trans h1 h2,λj s hj=>?_⟩;obtain ⟨cs,hc,hr⟩:=h3 j s hj;obtain ⟨rfl,_⟩:cs= [.string s]/\_:=hr;have h4:=hc 0 (.string s) rfl;have h0:∃ s0,x.1[0]?=some s0:=⟨x.1[0]'(by have:=(au.1 hj).1;omega),ak _⟩;obtain ⟨s0,hs0⟩:=h0;obtain ⟨cs0,hc0,MY⟩:=h3 0 s0 hs0;obtain ⟨rfl,_⟩:cs0= [.string s0]/\_:=MY;have h5:=hc0 0 (.string s0) rfl;obtain ⟨bk,o,sp⟩:=a;have GB:sp=none:=by
    cases sp with
    | none=>rfl
    | some z=>
     have:g.cell? ⟨bk,o,some z⟩=some (.string s0):=by simpa [Addr.add] using h5
     unfold World.cell? at this;split at this<;>simp at this
   subst GB;refine ⟨bk,o,rfl,?_⟩;have e:(⟨bk,o,none⟩:Addr).add (j*aO.size ByteArray+0)=⟨bk,o+j,none⟩:=by
    have:j*aO.size ByteArray+0=j:=by show j*1+0=j;omega
    rw [this];unfold Addr.add;split
    .rename_i h;rw [h];rfl
    .rfl
   exact e▸h4
theorem RT {g:World}:∀ {cs:List (List Value)} {xs:List bu},@eC bu noTy.rep g cs xs->∃ rows:List (oN g),rows.map (·.cs)=cs/\rows.map (·.x)=xs
 | [],[],_=>⟨[],rfl,rfl⟩
 | c::cs,x::xs,h=>by
  obtain ⟨rows,h1,h2⟩:=RT (cs:=cs) (xs:=xs) h.2;exact ⟨⟨c,x,h.1⟩::rows,by rw [bX,h1],by rw [bX,h2]⟩
 | [],_::_,h=>h.elim
 | _::_,[],h=>h.elim
theorem RR {g:World}:∀ (rows:List (oN g)),@eC bu noTy.rep g (rows.map (·.cs)) (rows.map (·.x))
 | []=>trivial
 | r::rows=>⟨r.rel,RR rows⟩
theorem uc {w:World} {os:Array Obj} {a:Addr} {v:Value} (h:w.cell? a=some v):(Sort.grow w os).cell? a=some v:=by
 unfold World.cell? at h ⊢;split at h
 .rename_i c e z hb;have:(Sort.grow w os).heap[a.block]?=some (.cells c e z):=by
   show (w.heap++os)[a.block]?=_;rw [jW (aQ.1 hb).1];exact hb
  rw [this];exact h
 .cases h
theorem Ur {g:World}:Sort.SWO (ltOf λx y:oN g=>cmpL x.x.1 y.x.1) where
 irrefl x:=by
  unfold ltOf;have:=jV x.x.1;simp only [this];decide
 trans x y z h k:=by
  unfold ltOf at*;simp only [decide_eq_true_eq] at*;exact vN h k
 ntrans x y z h k:=by
  unfold ltOf at*;simp only [decide_eq_false_iff_not] at*;exact Nw h k
theorem Wp.Ux {I:cQ->Prop} {P:Program} {f fk:Nat} {tN:TypeId} {L:List bu} {Q:SV->List HO->Prop} (hS:agB P f fk 10) (hN:∀ (p:Option Addr) (cap:Nat) (fv:Value) (w:World),Calls P f #[.slice p 0 cap,fv] w λe w'=>e= .returned (.tuple #[])/\w'=w) (hC:aml P fk)
  (hL:L.length< 4611686018427387904) (hq:∀ L':List bu,L'.Perm L->L'.Pairwise (λx y=>¬cmpL y.1 x.1< 0)->Q (.cJ []) [.sl tN noTy L']):
  Wp I P f [.v (.c (.o 0)),.v (.c (.fn fk []))] [.sl tN noTy L] Q:=by
 intro W hW g w E F vs S DR;obtain ⟨u1,r1,rfl,⟨hE,_⟩,Wa⟩:=DR;obtain ⟨u2,r2,rfl,⟨us,Wb,rfl⟩,hr2⟩:=Wa;obtain rfl:us= []:=Wb;obtain rfl:r2= []:=hr2;letI:=noTy.rep;have H1:SL W g w (pj noTy tN u1 L::F):=S.sl.cz λh ⟨k1,k2,ap,q,⟨v,hv,s1⟩,s2⟩=>by
  rw [hE] at hv;obtain rfl:=aj hv;exact ⟨k1,k2,ap,q,s1,s2⟩
 obtain ⟨cs,rel,H2⟩:=H1.pj;obtain ⟨rows,wY,yL⟩:=RT rel;have hln:rows.length=L.length:=by rw [<-yL,bH]
 have same:L= []->Q (.cJ []) [.sl tN noTy L]:=λe=>by
  subst e;exact hq [] (List.Perm.refl _) List.Pairwise.nil
 have nil:∀ (p:Option Addr) (cap:Nat),u1= .slice p 0 cap->L= []->Hs P f #[u1,.func (.func fk) #[] [].toArray] w λv w'=>∃ E' g' sv H',bw E E'/\bx g g'/\Sat W E' g' w' H' F/\df E' g' sv v/\Q sv H':=λp cap hu he=>by
  subst hu;refine (Hs.of (hN p cap _ w)).mono λv w' ⟨h1,h2⟩=>?_;subst h1;subst h2;exact ⟨E,g,.cJ [],_,bw.refl E,bx.refl g,S,⟨[],rfl,rfl⟩,same he⟩
 rcases H2.row.2 with ⟨rfl,h0⟩| ⟨k,cap,cur,rfl,hbk,o7,hn,Jq,Y6,GA⟩;exact nil none 0 rfl (aJ h0);by_cases hz:L= [];subst hz;exact nil _ _ rfl rfl;obtain ⟨r0,MY⟩:∃ r,r∈rows:=List.exists_mem_of_ne_nil rows λe=>hz (by rw [<-yL,e];rfl);letI:Inhabited (oN g):=⟨r0⟩;have hk:∀ x:oN g,x.cs.length=10:=λx=>x.len;have kB:tm g k:=by
  obtain ⟨h,be,s,ow,h1,h2,ap,rfl,⟨hl,hv⟩,s2⟩:=H2;rcases hv with ⟨hv,_⟩| ⟨k',Zy,adX,hv,vS,_⟩;cases hv
  .have:k=k':=by
    injection hv with e1 _ _;injection e1 with e1;injection e1
   subst this;exact (ow k _ (Hp.fJ vS)).2.2
 have hF:(Sort.flatK (λx:oN g=>x.cs) 10 rows.toArray).toList=cur.toList.take (L.length*10):=by
  rw [vI hk];show (rows.map (·.cs)).flatten=_;rw [wY,<-GA];rfl
 have hHolds:Sort.HoldsK (λx:oN g=>x.cs) 10 w k 0 rows.toArray:=λj hj=>by
  have CX:j< (cur.toList.take (L.length*10)).length:=by rw [<-hF];simpa using hj
  have e1:(Sort.flatK (λx:oN g=>x.cs) 10 rows.toArray)[j]?=cur[j]?:=by
   rw [<-eS,hF,ez,if_pos (by simp at CX;omega),eS]
  have e2:(Sort.flatK (λx:oN g=>x.cs) 10 rows.toArray)[j]?=some (Sort.flatK (λx:oN g=>x.cs) 10 rows.toArray)[j]!:=by
   rw [getElem!_pos _ j hj];exact cK hj
  refine ⟨?_,?_⟩
  .simp only [World.cell?,o7,bW];rw [<-e1,e2];rfl
  .simp [World.frozen?,o7]
 have aio:CmpLays P fk #[] (λx:oN g=>x.cs) 10 (λx y=>cmpL x.x.1 y.x.1) k 0 rows.toArray.size w:=λm os dk _ x y=>by
  obtain ⟨a,c,p1,p2,p3,p4,p5,p6,p7,p8,p9,ex,lx,hx⟩:=x.names;obtain ⟨a2,c2,q1,q2,q3,q4,q5,q6,q7,q8,q9,ey,ly,hy⟩:=y.names;have seen:∀ bk o s,g.cell? ⟨bk,o,none⟩=some (.string s)->(Go.Proofs.sortWorldK (λx:oN g=>x.cs) 10 w k 0 m dk os).cell? ⟨bk,o,none⟩=some (.string s):=λbk o s hg=>by
   refine uc ?_;have gx:bk≠k:=λe=>by
    have:=kB ⟨bk,o,none⟩ e;rw [this] at hg;cases hg
   rw [Sort.cell?_putRowK_other (h:=gx),Sort.cell?_ahead];exact S.sl.m _ _ hg
  have:=hC a a2 c c2 x.x.1 y.x.1 p1 p2 p3 p4 p5 p6 p7 p8 p9 q1 q2 q3 q4 q5 q6 q7 q8 q9 (Go.Proofs.sortWorldK (λx:oN g=>x.cs) 10 w k 0 m dk os) lx ly
   (λj s hj=>by obtain ⟨bk,o,e,h⟩:=hx j s hj;exact ⟨bk,o,e,seen _ _ _ h⟩) (λj s hj=>by obtain ⟨bk,o,e,h⟩:=hy j s hj;exact ⟨bk,o,e,seen _ _ _ h⟩)
  have e:(#[Value.agg x.cs.toArray,Value.agg y.cs.toArray]++ #[]:Array Value)= #[.agg #[.slice a x.x.1.length c,p1,p2,p3,p4,p5,p6,p7,p8,p9],.agg #[.slice a2 y.x.1.length c2,q1,q2,q3,q4,q5,q6,q7,q8,q9]]:=by rw [ex,ey];rfl
  show Calls P fk (#[Value.agg x.cs.toArray,Value.agg y.cs.toArray]++ #[]) _ _;rw [e];exact this
 have gG:=hS (λx:oN g=>x.cs) hk (λx v hv=>(oneCellsTy noTy).one x.rel v hv) (λx y=>cmpL x.x.1 y.x.1) Ur k 0 cap rows.toArray w aio hHolds (uO o7) (by simpa [hln] using hL);have kr:rows.toArray.size=L.length:=by simpa using hln
 rw [kr] at gG;refine (Hs.of gG).mono λv w' ⟨hv,d',n,os,hp,hso,hw'⟩=>?_;subst hv;have hd:d'.size=L.length:=hp.1.trans kr;have ak8:d'.toList.Perm rows:=by
  have:=hp.2.2;rw [<-hd] at this;rw [show d'.extract 0 d'.size=d' by simp,show rows.toArray.extract 0 d'.size=rows.toArray by rw [hd,<-kr];simp] at this;simpa using this
 have hb:w'.heap[k]?=some (.cells (Sort.putCells id 0 (Sort.flatK (λx:oN g=>x.cs) 10 d') cur) tN (0,0)):=by
  rw [hw'];show ((w.heap.modify k (Sort.onCells (Sort.putCells id 0 (Sort.flatK (λx:oN g=>x.cs) 10 d'))))++os)[k]?=_;rw [jW (by rw [Array.size_modify];exact uO o7),iL,if_pos rfl,o7];rfl
 have hFs:(Sort.flatK (λx:oN g=>x.cs) 10 d').size=L.length*10:=by rw [Sort.size_flatK,hd]
 have aly:(Sort.putCells id 0 (Sort.flatK (λx:oN g=>x.cs) 10 d') cur).size=cur.size:=by unfold Sort.putCells;simp
 have hle:L.length*10<=cur.size:=by rw [Y6];exact gR _ hn
 have htk:(Sort.putCells id 0 (Sort.flatK (λx:oN g=>x.cs) 10 d') cur).toList.take (L.length*10)=(d'.toList.map (·.cs)).flatten:=by
  rw [<-vI hk];refine List.ext_getElem? λj=>?_;by_cases hj:j< L.length*10
  .rw [ez,if_pos hj,eS,eS];unfold Sort.putCells;rw [Array.getElem?_mapIdx,cK (by omega:j< cur.size),js,if_pos ⟨cq _,by rw [hFs];omega⟩,Nat.sub_zero,getElem!_pos _ j (by rw [hFs];exact hj),cK (by rw [hFs];exact hj)];rfl
  .rw [dx (by rw [aA];omega),dx (by rw [dq,hFs];omega)]
 have M3:w.grownBy w' (some k):=by
  rw [hw'];refine ⟨rfl,rfl,rfl,?_,λj hj gx=>?_⟩
  .show w.heap.size<=((w.heap.modify k _)++os).size;rw [Array.size_append,Array.size_modify];omega
  .show ((w.heap.modify k _)++os)[j]?=_;rw [jW (by rw [Array.size_modify];exact hj),iL,if_neg (λe=>gx (by rw [e]))]
 have hlen:((d'.toList.map (·.cs)).flatten).length=L.length*10:=by rw [<-vI hk,dq,hFs]
 have H3:=H2.grown (v':=.slice (some ⟨k,0,none⟩) L.length cap) (n':=L.length) (xs':=(d'.toList.map (·.cs)).flatten) (w':=w') ⟨hlen,.inr ⟨k,cap,_,rfl,hbk,hb,hn,Jq,by rw [aly];exact Y6,htk⟩⟩ M3 (λq hq=>.inl hq);have hxl:(d'.toList.map (·.x)).length=L.length:=by rw [bH,dq,hd]
 have H4:SL W g w' (pj noTy tN (.slice (some ⟨k,0,none⟩) L.length cap) (d'.toList.map (·.x))::F):=by
  refine SL.XE (cs:=d'.toList.map (·.cs)) (RR _) ?_;rw [hxl];exact H3
 have hpL:(d'.toList.map (·.x)).Perm L:=by rw [<-yL];exact ak8.map _
 refine ⟨E,g,.cJ [],[.sl tN noTy (d'.toList.map (·.x))],bw.refl E,bx.refl g,⟨H4.cz λh ⟨k1,k2,ap,q,s1,s2⟩=>⟨k1,k2,ap,q,⟨_,hE,s1⟩,s2⟩,S.len⟩,⟨[],rfl,rfl⟩,hq _ hpL ?_⟩;rw [mL,dj];intro i j hi hj hij;have pB:i< d'.size:=by simpa using hi
 have CX:j< d'.size:=by simpa using hj
 have:=hso i j (cq _) hij (by omega);rw [getElem!_pos d' i pB,getElem!_pos d' j CX] at this;unfold ltOf at this;simpa using this
end Go.Lm

namespace Go.Proofs
open Go Go.Shelf Go.Lm
set_option maxRecDepth 1000000
def Tryz.Uy:Go.Shelf.Ren:=⟨fun| 6=>69| 15=>122| 14=>121| 28=>168| 29=>169| 20=>160| 21=>161| 22=>162| 23=>163| 24=>164| 25=>165| 26=>166| 27=>167| 46=>206| 47=>207| 48=>208| 49=>209| 50=>210| 57=>231| n=>n,fun| 22=>22| 24=>38| 25=>146| 3=>3| 39=>148| 0=>0| 53=>107| 55=>267| 4=>4| 46=>260| 45=>259| 50=>104| 5=>5| 9=>9| 66=>303| 70=>130| 76=>325| 77=>163| n=>n,fun| n=>n⟩
theorem Tryz.aeO:Go.Proofs.SlLaysF0.n6 cd Tryz.Uy:= {
 mixed:=by kernel_rfl
 f6:=⟨"slices.SortFunc[[]lamella/api.Node,lamella/api.Node]",by kernel_rfl,Tryz.func69.trans (congrArg some (by kernel_rfl))⟩
 f14:=⟨"slices.pdqsortCmpFunc[lamella/api.Node]",by kernel_rfl,Tryz.func121.trans (congrArg some (by kernel_rfl))⟩
 f15:=Tryz.func122.trans (congrArg some (by kernel_rfl))
 f20:=⟨"slices.insertionSortCmpFunc[lamella/api.Node]",by kernel_rfl,Tryz.func160.trans (congrArg some (by kernel_rfl))⟩
 f21:=⟨"slices.heapSortCmpFunc[lamella/api.Node]",by kernel_rfl,Tryz.func161.trans (congrArg some (by kernel_rfl))⟩
 f22:=⟨"slices.breakPatternsCmpFunc[lamella/api.Node]",by kernel_rfl,Tryz.func162.trans (congrArg some (by kernel_rfl))⟩
 f23:=⟨"slices.choosePivotCmpFunc[lamella/api.Node]",by kernel_rfl,Tryz.func163.trans (congrArg some (by kernel_rfl))⟩
 f24:=⟨"slices.reverseRangeCmpFunc[lamella/api.Node]",by kernel_rfl,Tryz.func164.trans (congrArg some (by kernel_rfl))⟩
 f25:=⟨"slices.partialInsertionSortCmpFunc[lamella/api.Node]",by kernel_rfl,Tryz.func165.trans (congrArg some (by kernel_rfl))⟩
 f26:=⟨"slices.partitionEqualCmpFunc[lamella/api.Node]",by kernel_rfl,Tryz.func166.trans (congrArg some (by kernel_rfl))⟩
 f27:=⟨"slices.partitionCmpFunc[lamella/api.Node]",by kernel_rfl,Tryz.func167.trans (congrArg some (by kernel_rfl))⟩
 f28:=Tryz.func168.trans (congrArg some (by kernel_rfl))
 f29:=Tryz.func169.trans (congrArg some (by kernel_rfl))
 f46:=⟨"slices.siftDownCmpFunc[lamella/api.Node]",by kernel_rfl,Tryz.func206.trans (congrArg some (by kernel_rfl))⟩
 f47:=Tryz.func207.trans (congrArg some (by kernel_rfl))
 f48:=Tryz.func208.trans (congrArg some (by kernel_rfl))
 f49:=⟨"slices.medianAdjacentCmpFunc[lamella/api.Node]",by kernel_rfl,Tryz.func209.trans (congrArg some (by kernel_rfl))⟩
 f50:=⟨"slices.medianCmpFunc[lamella/api.Node]",by kernel_rfl,Tryz.func210.trans (congrArg some (by kernel_rfl))⟩
 f57:=⟨"slices.order2CmpFunc[lamella/api.Node]",by kernel_rfl,Tryz.func231.trans (congrArg some (by kernel_rfl))⟩
 t0:=Tryz.underlying0
 a0:=Tryz.isAgg0
 z0:=Tryz.sizeOf0
 v0:=Tryz.zeroValue0
 t3:=oT
 a3:=Tryz.isAgg3
 z3:=Tryz.sizeOf3
 v3:=Tryz.zeroValue3
 t4:=Tryz.underlying4
 a4:=Tryz.isAgg4
 z4:=Tryz.sizeOf4
 v4:=Tryz.zeroValue4
 t5:=Tryz.underlying5
 a5:=Tryz.isAgg5
 z5:=Tryz.sizeOf5
 v5:=Tryz.zeroValue5
 t9:=Tryz.underlying9
 a9:=Tryz.isAgg9
 z9:=Tryz.sizeOf9
 v9:=Tryz.zeroValue9
 t22:=Tryz.underlying22
 a22:=Tryz.isAgg22
 z22:=Tryz.sizeOf22
 v22:=Tryz.zeroValue22
 t25:=Tryz.underlying146
 a25:=Tryz.isAgg146
 z25:=Tryz.sizeOf146
 v25:=Tryz.zeroValue146
 t39:=Tryz.underlying148
 a39:=Tryz.isAgg148
 z39:=Tryz.sizeOf148
 v39:=Tryz.zeroValue148
 t45:=Tryz.underlying259
 a45:=Tryz.isAgg259
 z45:=Tryz.sizeOf259
 v45:=Tryz.zeroValue259
 t46:=Tryz.underlying260
 a46:=Tryz.isAgg260
 z46:=Tryz.sizeOf260
 v46:=Tryz.zeroValue260
 t50:=Tryz.underlying104
 a50:=Tryz.isAgg104
 z50:=Tryz.sizeOf104
 v50:=Tryz.zeroValue104
 t53:=Tryz.underlying107
 a53:=Tryz.isAgg107
 z53:=Tryz.sizeOf107
 v53:=Tryz.zeroValue107
 t55:=Tryz.underlying267
 a55:=Tryz.isAgg267
 z55:=Tryz.sizeOf267
 v55:=Tryz.zeroValue267
 t66:=Tryz.underlying303
 a66:=Tryz.isAgg303
 z66:=Tryz.sizeOf303
 v66:=Tryz.zeroValue303
 t70:=Tryz.underlying130
 a70:=Tryz.isAgg130
 z70:=Tryz.sizeOf130
 v70:=Tryz.zeroValue130
 t76:=Tryz.underlying325
 a76:=Tryz.isAgg325
 z76:=Tryz.sizeOf325
 v76:=Tryz.zeroValue325
 t77:=Tryz.underlying163
 a77:=Tryz.isAgg163
 z77:=Tryz.sizeOf163
 v77:=Tryz.zeroValue163
}
theorem Tryz.akB:agB cd 69 70 10:=λenc hk h1 cf hO oP off cap d w aio hH hblk kr=>
 AnyQ.slices_SortFunc Tryz.aeO 10 Tryz.isAgg38 Tryz.sizeOf38 enc hk h1 cf hO 70 #[] oP off cap d w (enters_of Tryz.func70 (by kernel_rfl) rfl) aio hH hblk kr
theorem Tryz.akC (p:Option Addr) (cap:Nat) (fv:Value) (w:World):Calls cd 69 #[.slice p 0 cap,fv] w λe w'=>e= .returned (.tuple #[])/\w'=w:=AnyF.slices_SortFunc_none {Tryz.aeO with} p cap fv w
theorem Tryz.aoy:aml cd 70:=Tryz.alJ
end Go.Proofs

namespace Go.Proofs
open Go Go.Lm Go.RowKit
set_option maxRecDepth 1000000
def ai5:Ct:=cD .u8 λx=>c0 λQ=>x.length<=5000000000000/\Q (.c (.d .u8 x)) []
def RA (x:(List (Ty.u8).den)):dE:=λQ=>cM x (zJ x Q)
theorem W8:cG 72 ai5:=fz<| lH λx=>iQ λQ h=>by
 refine Wp.IN (e:=.u8) ?_;refine Wp.dJ iH cX ⟨[],[]⟩ Tryz.f72 (RA x) ?_;unfold RA zJ cw cM dL;obtain ⟨hl,h⟩:=h;refine λ_ c hc=>aw (λhb=>.inr (.inl ⟨rfl,?_⟩)) (λhb=>⟨by omega,by omega,.inr (.inr ⟨0,5,x,rfl,ay 0,rfl,h⟩)⟩);rw [hc hb] at h;exact h
def alP:Ct:=cD .str λx=>c0 λQ=>x.length<=1000/\Q (.c (.d .str x)) []
def abr:=iH.add W8
def Xb (x:(List (Ty.str).den)):dE:=λQ=>lF x (∀ (c:Bool),(c=true->x= [])->br (lE c) (Q gy []) ((0+List.length x)*16<=cw/\0+List.length x<=9223372036854775807/\Q gA [.sl 9 Ty.str ([]++x)]))
theorem aeJ:cG 43 alP:=fz<| lH λx=>iQ λQ h=>by
 refine Wp.IN (e:=.str) ?_;refine Wp.dJ abr cX ⟨[],[]⟩ Tryz.f43 (Xb x) ?_;unfold Xb gy lE lF gA cw dL;obtain ⟨hl,h⟩:=h;refine λ_ c hc=>aw (λhb=>.inr (.inl ⟨rfl,?_⟩)) (λhb=>⟨by omega,by omega,.inr (.inr ⟨0,9,x,rfl,ay 0,rfl,h⟩)⟩);rw [hc hb] at h;exact h
def alO:Ct:=cD eD λx=>c0 λQ=>x.length<=1000/\Q (.c (.o 0)) [.sl 96 eD x]
def ajM:=abr.add aeJ
def Xa (x:(List (eD).den)):dE:=λQ=>List.length x<=9223372036854775807->∀ (c:Bool),(c=true->x= [])->br (lE c) (Q gy []) ((0+List.length x)*40<=cw/\0+List.length x<=9223372036854775807/\Q gA [.sl 96 eD ([]++x)])
theorem akf:cG 37 alO:=fz<| lH λx=>iQ λQ h=>by
 refine Wp.IM (t:=96) (e:=eD) ?_;refine Wp.dJ ajM cX ⟨[],[]⟩ Tryz.f37 (Xa x) ?_;unfold Xa gy lE gA cw dL;intro _ c hc;refine aw (λhb=>.inr ⟨rfl,?_⟩) (λhb=>⟨by omega,by omega,.inl ?_⟩)
 .have:=hc (by simpa using hb);subst this;exact h.2
 .exact h.2
def alT:Ct:=cD noTy λx=>c0 λQ=>x.length<=1100/\Q (.c (.o 0)) [.sl 38 noTy x]
def Xe (x:(List (noTy).den)):dE:=λQ=>gr x (∀ (c:Bool),(c=true->x= [])->br (lE c) (Q gy []) ((0+List.length x)*136<=cw/\0+List.length x<=9223372036854775807/\Q gA [.sl 38 noTy ([]++x)]))
theorem aki:cG 68 alT:=fz<| lH λx=>iQ λQ h=>by
 refine Wp.IM (t:=38) (e:=noTy) ?_;refine Wp.dJ iH cX ⟨[],[]⟩ Tryz.f68 (Xe x) ?_;unfold Xe gy lE gA gr cw dL;intro _ c hc;refine aw (λhb=>.inr ⟨rfl,?_⟩) (λhb=>⟨by omega,by omega,.inl ?_⟩)
 .have:=hc (by simpa using hb);subst this;exact h.2
 .exact h.2
def Tk:Ct
 | [.v (.c (.o 0)),.v (.c (.fn 70 []))],[.sl tN e xs],Q=>(match zf noTy xs with
  | some L=>(L.length:Int)<=1100/\∀ L':List bu,L'.Perm L->L'.Pairwise (λx y=>¬cmpL y.1 x.1< 0)->Q (.cJ []) [.sl tN noTy L']
  | none=>False)
 | _,_,_=>False
theorem ahw {e e':Ty} {xs:List e.den} {L:List e'.den} (h:zf e' xs=some L) (t:TypeId):HO.sl t e xs=HO.sl t e' L:=by
 obtain ⟨q,hy⟩:=ev h;subst q;subst hy;rfl
theorem acb:cG 69 Tk:=by
 intro args H Q h;unfold Tk at h;split at h
 .split at h
  .rename_i tN e xs x_ L hL;rw [ahw hL];exact Wp.Ux Tryz.akB Tryz.akC Tryz.aoy (by have:=h.1;omega) h.2
  .cases h
 .cases h
theorem Ny {l:List bu} (h:dH l=0):l.length<=1024/\j7 l=0/\mi (fY l) []=1/\Mu (fY l) l=false/\(∀ x∈l,iR x=true)/\kT l []=0:=by
 unfold dH at h;split at h;cases h;rename_i h1;split at h
 .rename_i h2;rw [h] at h2;cases h2
 rename_i h2;split at h;cases h;rename_i h3;split at h;cases h;rename_i h4;split at h;cases h;rename_i h5;refine ⟨by omega,by simpa using h2,by simpa using h3,by simpa using h4,λx hx=>?_,h⟩;have:(l.any λx=> !iR x)=false:=by simpa using h5
 have:=List.any_eq_false.1 this x hx;simpa using this
theorem Ps {x:bu} (h:iR x=true):x.2.2.2.2.1.length<=4096/\eI x.2.2.2.2.2.2.1=true/\x.2.2.2.2.2.2.2.1=false:=by
 unfold iR at h;split at h
 .simp only [ao,beq_iff_eq,bY] at h;exact ⟨by omega,h.2,h.1.1.2⟩
 .split at h
  .simp only [ao,decide_eq_true_eq,bY] at h;exact ⟨by omega,h.2,h.1.1.2⟩
  .split at h
   .simp only [ao,beq_iff_eq,bY] at h;exact ⟨by omega,h.2,h.1.1.2⟩
   .cases h
theorem Nx {l:List bu} (h:dH l=0):∀ x∈l,x.1.length<=16/\x.2.2.2.2.1.length<=4096/\x.2.2.2.2.2.2.1.length<=8/\∀ z∈x.2.2.2.2.2.2.1,z.2.1.length<=200:=λx hx=>by
 obtain ⟨_,h2,_,_,h5,_⟩:=Ny h;obtain ⟨_,hD,_⟩:=wK (show (j7 l !=0)=false by rw [h2];rfl);obtain ⟨a,b,_⟩:=Ps (h5 x hx);obtain ⟨c,d⟩:=oV b;exact ⟨AN hD hx,a,d,λz hz=>(c z hz).2.2⟩
theorem acM {e:Ty} {L:List e.den} {i:Int} (h0:0<=i) (h1:i< (L.length:Int)):L.set i.toNat (aK e L i)=L:=by
 rw [gV h0 h1,List.set_getElem_self]
theorem SD {e:Ty} (A B:List e.den) (x:e.den) {j:Nat} (h:A.length=j):aK e (A++x::B) (j:Int)=x:=by
 subst h;unfold aK;rw [aU,ba,a8 (ay _),Nat.sub_self];rfl
theorem RN {α:Type} (A B:List α) (x y:α) {j:Nat} (h:A.length=j):(A++x::B).set (j:Int).toNat y=A++y::B:=by
 subst h;rw [aU,List.set_append_right _ _ (ay _),Nat.sub_self];rfl
def xj:Ct
 | [.v (.c cl)],[],Q=>(match (Ty.sl noTy).of [cl] with
  | some (l,[])=>(l.length:Int)<=1000/\br (dH l !=0) (Q (.cJ [.c (.d noTy []),.c (.k (.int .i64 (dH l)))]) []) (∀ L':List bu,L'.Perm l->L'.Pairwise (λx y=>¬cmpL y.1 x.1< 0)->Q (.cJ [.c (.d noTy (db L' [])),.c (.k (.int .i64 0))]) [])
  | _=>False)
 | _,_,_=>False
def ajL:=(((((iH.add WN).add W8).add aeJ).add akf).add aki).add acb
abbrev acZ (y0) (y1):=List.set (List.set y0 (ax y1) (aK noTy y0 y1)) (ax y1) ((aK noTy (List.set y0 (ax y1) (aK noTy y0 y1)) y1).1,(aK noTy (List.set y0 (ax y1) (aK noTy y0 y1)) y1).2.1,(aK noTy (List.set y0 (ax y1) (aK noTy y0 y1)) y1).2.2.1,(aK noTy (List.set y0 (ax y1) (aK noTy y0 y1)) y1).2.2.2.1,(aK noTy y0 y1).2.2.2.2.1,(aK noTy (List.set y0 (ax y1) (aK noTy y0 y1)) y1).2.2.2.2.2)
abbrev su (y0) (y1):=aK noTy (acZ y0 y1) y1
abbrev fB (y0) (y1):=aK noTy y0 y1
abbrev yg (y0:List bu) (y1:List (noTy).den) (R:Prop):=List.Perm y0 y1->List.Pairwise (λx y=>¬cmpL y.1 x.1< 0) y0->R
def EM (l:(List (noTy).den)):dE:=λQ=>gr l (aF .i64 (dH l)->br (dH l !=0) (Q (.cJ [.c dL,.c (.k (.int .i64 (dH l)))]) []) (List.length l<=1100/\(aE l)<=(1100:Int)/\∀ (L':List bu),yg L' l (aL (List.length L')->bp (λi ag 
 =>br (decide (i.1.1< (a7 L'))) (0<=i.1.1/\i.1.1< (a7 i.2.1)/\0<=i.1.1/\i.1.1< (a7 i.2.1)/\(Ty.ok noTy (fB i.2.1 i.1.1)->Ty.ok bF (gd (Kk.get Kk.int i.2.2.1 (fB i.2.1 i.1.1).2.1) ah)->cV (λk=> 
 br (!Option.isSome (Kk.get Kk.int i.2.2.1 (fB i.2.1 i.1.1).2.1)) (aL (bO i.2.2.1)->aF .i64 ((a7 i.2.2.1)+1)/\0<=i.1.1/\i.1.1< (a7 i.2.1)/\(Ty.ok noTy (fB i.2.1 i.1.1)->l8 i.2.2.1 (k (((a7 i.2.2.1)+1,()), 
 Kk.put Kk.int i.2.2.1 (fB i.2.1 i.1.1).2.1 ((a7 i.2.2.1)+1),())))) (k ((gd (Kk.get Kk.int i.2.2.1 (fB i.2.1 i.1.1).2.1) ah,()),i.2.2))) λdu=>cV (λk=>0<=i.1.1/\i.1.1< (a7 i.2.1)/\k ((),List.set 
 i.2.1 (aZ i.1.1) ((fB i.2.1 i.1.1).1,du.1.1,(fB i.2.1 i.1.1).2.2),())) λkV=>0<=i.1.1/\i.1.1< (a7 kV.2.1)/\(Ty.ok noTy (fB kV.2.1 i.1.1)->0<=i.1.1/\i.1.1< (a7 kV.2.1)/\(Ty.ok noTy (fB kV.2.1 
 i.1.1)->0<=i.1.1/\i.1.1< (a7 kV.2.1)/\(Ty.ok noTy (fB kV.2.1 i.1.1)->List.length (fB kV.2.1 i.1.1).1<=1000/\(List.length (fB kV.2.1 i.1.1).1<=9223372036854775807->List.length (fB kV.2.1 i.1.1).2.2.2.2.1<= 
 5000000000000/\(List.length (fB kV.2.1 i.1.1).2.2.2.2.1<=9223372036854775807->List.length (fB kV.2.1 i.1.1).2.2.2.2.2.2.1<=1000/\0<=i.1.1/\i.1.1< (a7 kV.2.1)/\0<=i.1.1/\i.1.1< (a7 (List.set kV.2.1 (aZ i.1.1) 
 (fB kV.2.1 i.1.1)))/\0<=i.1.1/\i.1.1< (↑(List.length (acZ kV.2.1 i.1.1)):Int)/\i.1.1=i.1.1/\(List.length (fB kV.2.1 i.1.1).2.2.2.2.2.2.1<=9223372036854775807->bp (λiT ag_1=>br (decide (iT.1.1< 
 (↑(List.length (fB kV.2.1 i.1.1).2.2.2.2.2.2.1):Int))) (0<=iT.1.1/\iT.1.1< (a7 iT.2.1)/\0<=iT.1.1/\iT.1.1< (a7 iT.2.1)/\(Ty.ok eD (eJ iT.2.1 iT.1.1)->i.1.1=i.1.1/\List.length (eJ iT.2.1 iT.1.1).2.1 
 <=5000000000000/\(List.length (eJ iT.2.1 iT.1.1).2.1<=9223372036854775807->0<=iT.1.1/\iT.1.1< (a7 iT.2.1)/\0<=iT.1.1/\iT.1.1< (a7 iT.2.1)/\cL iT.1.1 (ag_1 ((iT.1.1+1,()),List.set iT.2.1 (aZ iT.1.1) 
 (eJ iT.2.1 iT.1.1),()))))) (cL i.1.1 (ag ((i.1.1+1,()),List.set (acZ kV.2.1 i.1.1) (aZ i.1.1) ((su kV.2.1 i.1.1).1,(su kV.2.1 i.1.1).2.1,(su kV.2.1 i.1.1).2.2.1,(su kV.2.1 i.1.1).2.2.2.1,(su 
 kV.2.1 i.1.1).2.2.2.2.1,(su kV.2.1 i.1.1).2.2.2.2.2.1,iT.2.1,(su kV.2.1 i.1.1).2.2.2.2.2.2.2),du.2)))) ((ah,()),(fB kV.2.1 i.1.1).2.2.2.2.2.2.1,()))))))))) (Q nr [.sl 38 noTy i.2.1])) ((ah,()),L',[], 
 ()))))
theorem J8:cG 45 xj:=by
 intro args H Q h;unfold xj at h;split at h;rotate_left;cases h;rename_i cl;split at h;rotate_left;cases h;rename_i l hl;refine Wp.said (args':=[.c (.d noTy l)]) (λE g=>bC.cE (dI hl) (λ_ h=>h)) ?_;clear hl;refine Wp.lq [some (.sl noTy),none] [0] ?_;refine Wp.dJ ajL cX ⟨[(9,⟨[(25,.int .i64)],[(0,.sl 38 noTy),(1,.map 3 .int (.int .i64))]⟩),(19,⟨[(84,.int .i64)],[(2,.sl 96 eD)]⟩)],[(16,⟨[(9,.int .i64)],[(1,.map 3 .int (.int .i64))]⟩),(17,⟨[],[(0,.sl 38 noTy)]⟩)]⟩ Tryz.f45 (EM l) (sfh:=true) ?_;unfold EM yg fB eJ su nr l8 cL gr bO dL aZ a6 acZ ah a7 aE aL bF;obtain ⟨hl,h⟩:=h;refine λ_ _=>aw (λhc=>?_) (λhc=>?_);rw [hc] at h;exact ⟨ay _,h⟩;rw [hc] at h;have hck:dH l=0:=by simpa using hc
 have air:=Nx hck;refine ⟨by omega,by omega,λL' hp ho _=>?_⟩;have hq:=h L' hp ho;have hlen:L'.length=l.length:=hp.length_eq;clear h ho hc;refine bp.intro (λi=>∃ j:Nat,j<=L'.length/\i.1.1=(j:Int)/\i.2.1=db (L'.take j) []++L'.drop j/\i.2.2.1=jE (L'.take j) []) (λi=>L'.length - i.1.1.toNat) ⟨0,cq _,rfl,by simp [db],by simp [jE]⟩ ?_;rintro ⟨⟨i,_⟩,out,m,_⟩ ⟨j,hj,h1,h2,h3⟩;simp only at h1 h2 h3 ⊢;subst h1 h2 h3;have hA:(db (L'.take j) []).length=j:=by rw [jS,aA];omega
 have qk:(db (L'.take j) []++L'.drop j).length=L'.length:=by rw [af,hA,aN];omega
 have J1:=wH (L'.take j) [];rw [aA,aM] at J1;refine aw (λhc=>?_) (λhc=>?_)
 .have um:(j:Int)< L'.length:=of_decide_eq_true hc;clear hc;have uH:j< L'.length:=by omega
  have GB:=cg uH;obtain ⟨b1,b2,b3,b4⟩:=air _ (hp.mem_iff.1 (dw uH));have ht:L'.take (j+1)=L'.take j++ [L'[j]]:=bU uH;have hna:=(qN (L'.take j) [L'[j]] []).2;have hns:∀ v:Int,(Kk.get .int (jE (L'.take j) []) (L'[j]'uH).2.1=some v\/(Kk.get .int (jE (L'.take j) []) (L'[j]'uH).2.1=none/\v=((jE (L'.take j) []).length:Int)+1))->db (L'.take j++ [L'[j]'uH]) []=db (L'.take j) []++ [bu.lA (L'[j]'uH) v]:=λv q=>(Yp q).1;rw [<-ht] at hna hns;generalize L'[j]=x at*;rw [GB] at qk ⊢;generalize db (L'.take j) []=A at*;generalize jE (L'.take j) []=m0 at*;rw [qk,SD (e:=noTy) A _ x hA];refine ⟨by omega,um,by omega,um,λ_ _=>?_⟩;refine cV.intro (λk=>(Kk.get .int m0 x.2.1=some k.1.1\/(Kk.get .int m0 x.2.1=none/\k.1.1=(m0.length:Int)+1))/\k.2.1=jE (L'.take (j+1)) []) ?_ ?_
  .refine aw (λhg=>?_) (λhg=>?_)
   .have hg:Kk.get .int m0 x.2.1=none:=by simpa using hg
    exact λ_=>⟨by unfold aF;omega,by omega,um,λ_=>⟨by omega,.inr ⟨hg,rfl⟩,by rw [hna,jd hg];rfl⟩⟩
   .obtain ⟨v,hv⟩:=lR.1 (show (Kk.get .int m0 x.2.1).isSome=true by simpa using hg);exact ⟨.inl (by rw [hv];rfl),by rw [hna,jc hv];rfl⟩
  rintro ⟨⟨v,_⟩,m1,_⟩ ⟨hv,hm1⟩;simp only at hv hm1 ⊢;subst hm1;refine cV.intro (λk=>k.2.1=A++(x.1,v,x.2.2)::L'.drop (j+1)) ⟨by omega,um,RN _ _ _ _ hA⟩ ?_;rintro ⟨_,L2,_⟩ hL2;have hL2:L2=_:=hL2;subst hL2;have PJ:=hns v hv;have Y5:A++(x.1,v,x.2.2)::L'.drop (j+1)=db (L'.take (j+1)) []++L'.drop (j+1):=by
   rw [PJ,aG];rfl
  have b1:(x.1,v,x.2.2).1.length<=16:=b1;have b2:(x.1,v,x.2.2).2.2.2.2.1.length<=4096:=b2;have b3:(x.1,v,x.2.2).2.2.2.2.2.2.1.length<=8:=b3;have b4:∀ z∈(x.1,v,x.2.2).2.2.2.2.2.2.1,z.2.1.length<=200:=b4;have aib:(A++(x.1,v,x.2.2)::L'.drop (j+1)).length=L'.length:=by rw [<-qk];simp
  generalize ((x.1,v,x.2.2):bu)=y at*;have hix:=SD (e:=noTy) A (L'.drop (j+1)) y hA;have hse:=RN A (L'.drop (j+1)) y y hA;have ans:(A++y::L'.drop (j+1)).set (j:Int).toNat (y.1,y.2.1,y.2.2.1,y.2.2.2.1,y.2.2.2.2.1,y.2.2.2.2.2)=A++y::L'.drop (j+1):=hse;have anr:(A++y::L'.drop (j+1)).set (j:Int).toNat (y.1,y.2.1,y.2.2.1,y.2.2.2.1,y.2.2.2.2.1,y.2.2.2.2.2.1,y.2.2.2.2.2.2.1,y.2.2.2.2.2.2.2)=A++y::L'.drop (j+1):=hse;simp only [hix,hse,aib];have alq:∀ Z,y.2.2.2.2.2.2.1=Z->(A++y::L'.drop (j+1)).set (j:Int).toNat (y.1,y.2.1,y.2.2.1,y.2.2.2.1,y.2.2.2.2.1,y.2.2.2.2.2.1,Z,y.2.2.2.2.2.2.2)=db (L'.take (j+1)) []++L'.drop (j+1):=by
   rintro Z rfl;exact anr.trans Y5
  refine ⟨by omega,um,λ_=>⟨by omega,um,λ_=>⟨by omega,um,λ_=>⟨by omega,λ_=>⟨by omega,λ_=>⟨by omega,by omega,um,by omega,um,by omega,um,by trivial,λ_=>?_⟩⟩⟩⟩⟩⟩;generalize hX:y.2.2.2.2.2.2.1=X at*;refine bp.intro (λi=>0<=i.1.1/\i.2.1=X) (λi=>X.length - i.1.1.toNat) ⟨bz _,rfl⟩ ?_;rintro ⟨⟨k,_⟩,X',_⟩ ⟨k0,kX⟩;simp only at k0 kX ⊢;subst kX;refine aw (λhk=>?_) (λhk=>?_)
  .have hk:k< (X'.length:Int):=of_decide_eq_true hk;have Wa:=b4 _ (uF (e:=eD) k0 hk);rw [acM (e:=eD) k0 hk];exact ⟨k0,hk,k0,hk,λ_=>⟨by trivial,by omega,λ_=>⟨k0,hk,k0,hk,by unfold aF;omega,⟨by omega,by trivial⟩,by omega⟩⟩⟩
  .exact ⟨by unfold aF;omega,⟨j+1,uH,by omega,alq _ rfl,by trivial⟩,by omega⟩
 .have hc:¬(j:Int)< L'.length:=of_decide_eq_false hc;obtain rfl:j=L'.length:=by omega
  rw [eN,List.drop_length,aW];exact ⟨cq _,hq⟩
def ZE:Ct:=cD .str λa=>cD .str λb=>c0 λQ=>Q (.bool (iX a b)) []
abbrev gz (y0:List (Ty.str).den):=List.length y0
abbrev jB (y0:List (Ty.str).den) (y1):=aK Ty.str y0 y1
def Q1 (a b:(List (Ty.str).den)):dE:=λQ=>lF a (aL (gz b)->aL (gz a)->aL (gz b)->br ((aE a) !=(aE b)) (bc Q) (aL (gz a)->bp (λi ag=>br (decide (i.1.1< (aE a))) (0<=i.1.1/\i.1.1< (aE a)/\(Ty.ok Ty.str (jB a 
 i.1.1)->0<=i.1.1/\i.1.1< (aE b)/\(Ty.ok Ty.str (jB b i.1.1)->br (!mJ (jB a i.1.1) (jB b i.1.1)) (bc Q) (jq i.1.1 ag)))) (Q qK [])) jh))
theorem Wu:cG 238 ZE:=fz<| lH λa=>lH λb=>iQ λQ h=>by
 refine Wp.dJ iH cX ⟨[(5,⟨[(13,.int .i64)],[]⟩)],[]⟩ Tryz.f238 (Q1 a b) ?_;unfold Q1 jB jh gz lF bc jq kQ qK ah aE aL;intro _ _ _ _;refine aw (λh1=>?_) (λh1=>?_)
 .rw [FN (by intro e;rw [e] at h1;simp at h1)] at h;exact h
 .have hl:a.length=b.length:=by
   have:((a.length:Int)=b.length):=by simpa using h1
   omega
  refine λ_=>bp.intro (λi=>0<=i.1.1/\i.1.1<=a.length/\iX (a.drop i.1.1.toNat) (b.drop i.1.1.toNat)=iX a b) (λi=>a.length - i.1.1.toNat) ⟨by simp,by simp,by simp⟩ ?_;rintro ⟨⟨i,_⟩,_⟩ ⟨h0,h2,h3⟩;simp only at h0 h2 h3 ⊢;refine aw (λhc=>?_) (λhc=>?_)
  .have hc:i< a.length:=by simpa using hc
   have CZ:i< b.length:=by omega
   rw [fE (e:=.str) h0 hc,fE (e:=.str) h0 CZ] at h3;simp only [iX] at h3;refine ⟨h0,hc,λ_=>⟨h0,CZ,λ_=>aw (λh4=>?_) (λh4=>?_)⟩⟩
   .have h4:mJ (aK .str a i) (aK .str b i)=false:=by simpa using h4
    rw [h4,mI] at h3;rw [<-h3] at h;exact h
   .have h4:mJ (aK .str a i) (aK .str b i)=true:=by simpa using h4
    rw [h4,Bool.true_and] at h3;exact ⟨by unfold aF;omega,⟨by omega,by omega,h3⟩,by omega⟩
  .have hc:¬i< a.length:=by simpa using hc
   rw [ft hc,ft (by omega)] at h3;simp only [iX] at h3;rw [<-h3] at h;exact h
def NH:Ct:=cD .str λa=>cD .str λb=>c0 λQ=>Q (.bool (iX a b)) []
def abq:=iH.add Wu
def EP (a b:(List (Ty.str).den)):dE:=λQ=>lF a (aL (gz b)->Q (.v (.c (.k (.bool (iX a b))))) [])
theorem Kc:cG 223 NH:=fz<| lH λa=>lH λb=>iQ λQ h=>by
 refine Wp.dJ abq cX ⟨[],[]⟩ Tryz.f223 (EP a b) ?_;unfold EP gz lF aL;exact λ_ _=>h
def G9:Ct:=cD .str λa=>cD .str λb=>c0 λQ=>Q (.bool (decide ((a.length:Int)>b.length)&& iX (a.take b.length) b)) []
def abp:=abq.add Kc
def Bi (a b:(List (Ty.str).den)):dE:=λQ=>lF a (aL (gz b)->aL (gz a)->aL (gz b)->br (decide ((aE a)>(aE b))) (aL (gz b)->ah<=(aE b)/\(aE b)<=(aE a)/\Q (.v (.c (.k (.bool (iX (List.take (ax (aE b)) a) b))))) 
 []) (bc Q))
theorem xD:cG 175 G9:=fz<| lH λa=>lH λb=>iQ λQ h=>by
 refine Wp.dJ abp cX ⟨[],[]⟩ Tryz.f175 (Bi a b) ?_;unfold Bi gz lF bc kQ ah aE aL;refine λ_ _ _ _=>aw (λhc=>λ_=>?_) (λhc=>?_)
 .rw [hc,Bool.true_and] at h;have hc:=of_decide_eq_true hc;exact ⟨by omega,by omega,h⟩
 .rw [hc,mI] at h;exact h
def ZK:Ct:=cS λx=>c0 λQ=>Q (.bool false) []
def abo:=abp.add xD
def Rc (x:ByteArray):dE:=λQ=>j6 x (Q (.v (.c (.k (.bool !mJ x x)))) [])
theorem WE:cG 170 ZK:=fz<| okS λx=>iQ λQ h=>by
 refine Wp.dJ abo cX ⟨[],[]⟩ Tryz.f170 (Rc x) ?_;unfold Rc j6;rw [jQ.2 rfl];exact λ_=>h
def TA:Ct:=cS λx=>cS λy=>c0 λQ=>Q (.int (fx x y)) []
def abn:=abo.add WE
abbrev IG (y0:ByteArray) (y1:ByteArray) (y2:SV->List HO->Prop):=aL (dr y0)->br (uB y1 y0) (y2 (.v (.c (.k (.int .i64 (-1:Int))))) []) (br (!(uB y1 y0|| mJ y1 y0)) (y2 (.v (.c (.k (.int .i64 1)))) []) (y2 (.v (.c (.k a6))) []))
def Lj (x y:ByteArray):dE:=λQ=>j6 x (IG y x Q)
theorem QV:cG 123 TA:=fz<| okS λx=>okS λy=>iQ λQ h=>by
 refine Wp.dJ abn cX ⟨[],[]⟩ Tryz.f123 (Lj x y) ?_;unfold Lj IG j6 dr a6 aL;refine λ_ _=>aw (λh1=>?_) (λh1=>aw (λh2=>?_) (λh2=>?_))
 .have e:fx x y= -1:=if_pos h1;rw [e] at h;exact h
 .rw [h1,Bool.false_or] at h2;have e:fx x y=1:=by
   unfold fx;rw [if_neg (by show ¬uB x y=true;rw [h1];simp),if_neg (by show ¬mJ x y=true;simpa using h2)]
  rw [e] at h;exact h
 .rw [h1,Bool.false_or] at h2;have e:fx x y=0:=by
   unfold fx;rw [if_neg (by show ¬uB x y=true;rw [h1];simp),if_pos (by show mJ x y=true;simpa using h2)]
  rw [e] at h;exact h
def TB:Ct:=cD .str λa=>cD .str λb=>c0 λQ=>Q (.int (cmpL a b)) []
def abm:=abn.add QV
def Lk (a b:(List (Ty.str).den)):dE:=λQ=>lF a (aL (gz b)->aL (gz a)->bp (λi ag=>br (decide (i.1.1< (aE a))) (0<=i.1.1/\i.1.1< (aE a)/\(Ty.ok Ty.str (jB a i.1.1)->aL (gz b)->br (decide (i.1.1≥(aE b))) (Q (.v (.c (.k 
 (.int .i64 1)))) []) (0<=i.1.1/\i.1.1< (aE b)/\(Ty.ok Ty.str (jB b i.1.1)->aF .i64 (fx (jB a i.1.1) (jB b i.1.1))->br (fx (jB a i.1.1) (jB b i.1.1) !=0) (Q (.v (.c (.k (.int .i64 (fx (jB a i.1.1) 
 (jB b i.1.1)))))) []) (jq i.1.1 ag))))) (aL (gz a)->aL (gz b)->br (decide ((aE a)< (aE b))) (xV Q) (Q lZ []))) jh)
theorem QW:cG 71 TB:=fz<| lH λa=>lH λb=>iQ λQ h=>by
 refine Wp.dJ abm cX ⟨[(3,⟨[(11,.int .i64)],[]⟩)],[]⟩ Tryz.f71 (Lk a b) ?_;unfold Lk xV lZ jB jh gz lF jq a6 ah aE aL;refine λ_ _ _=>bp.intro (λi=>0<=i.1.1/\i.1.1<=a.length/\i.1.1<=b.length/\cmpL (a.drop i.1.1.toNat) (b.drop i.1.1.toNat)=cmpL a b) (λi=>a.length - i.1.1.toNat) ⟨by simp,by simp,by simp,by simp⟩ ?_;rintro ⟨⟨i,_⟩,_⟩ ⟨h0,h1,h2,h3⟩;simp only at h0 h1 h2 h3 ⊢;rw [<-h3] at h;refine aw (λha=>?_) (λha=>λ_ _=>?_)
 .have ha:i< (a.length:Int):=of_decide_eq_true ha;refine ⟨h0,ha,λ_ _=>aw (λhb=>?_) (λhb=>?_)⟩
  .have hb:i≥(b.length:Int):=of_decide_eq_true hb;rw [fE (e:=.str) h0 ha,ft (l:=b) (by omega)] at h;exact h
  .have hb:i< (b.length:Int):=by have:=of_decide_eq_false hb;omega
   rw [fE (e:=.str) h0 ha,fE (e:=.str) h0 hb,yV] at h h3;refine ⟨h0,hb,λ_ _=>aw (λhd=>?_) (λhd=>?_)⟩;rw [if_neg (by simpa using hd)] at h;exact h
   .rw [if_pos (by simpa using hd)] at h3;exact ⟨by unfold aF;omega,⟨by omega,by omega,by omega,h3⟩,by omega⟩
 .have ha:¬i< (a.length:Int):=of_decide_eq_false ha;rw [ft ha] at h;refine aw (λhb=>?_) (λhb=>?_)
  .have hb:=of_decide_eq_true hb;rw [fE (e:=.str) h0 (by omega)] at h;exact h
  .have hb:=of_decide_eq_false hb;rw [ft (l:=b) (by omega)] at h;exact h
def NM:Ct:=cI λa=>cI λb=>cP<| cO λH Q=>match H with
 | [.cells 22 [.d (.pair (.sl .str) (.pair (.int .i64) (.pair (.int .i64) (.pair (.pair (.int .i64) (.pair (.int .i64) (.pair (.int .i64) .unit))) (.pair (.sl .u8) (.pair .str (.pair (.sl (.pair .str (.pair (.sl .u8) .unit))) (.pair .bool .unit)))))))) L]]=>(0<=a/\a< (L.length:Int))/\(0<=b/\b< (L.length:Int))/\Q (.int (cmpL (aK noTy L a).1 (aK noTy L b).1)) [.cells 22 [.d noTy L]]
 | _=>False
def abl:=abm.add QW
abbrev gM (y0:List bu) (y1:Int):=aK noTy y0 y1
def Fb (a b:Int) (L:List bu):dE:=λQ=>cj a b (0<=a/\a< (aE L)/\(Ty.ok noTy (gM L a)->0<=b/\b< (aE L)/\(Ty.ok noTy (gM L b)->aF .i64 (cmpL (gM L a).1 (gM L b).1)->Q (.v (.c (.k (.int .i64 (cmpL (gM L a).1 (gM L b).1))))) 
 [.cells 22 [Cl.d noTy L]])))
theorem Kj:cG 177 NM:=fz<| nG λa=>nG λb=>rJ<| rK λH Q h=>by
 split at h;rotate_left;cases h;rename_i L;refine Wp.dJ abl cX ⟨[],[]⟩ Tryz.f177 (Fb a b L) ?_;unfold Fb gM cj aE;obtain ⟨⟨a0,a1⟩,⟨b0,b1⟩,h⟩:=h;exact λ_ _=>⟨a0,a1,λ_=>⟨b0,b1,λ_ _=>h⟩⟩
def Dt:Ct
 | [.v (.c cx),.v (.c (.k (.int .i64 a))),.v (.c (.k (.int .i64 b))),.v (.c (.fn 177 [.p 0 0]))],[.cells 22 [.d (.pair (.sl .str) (.pair (.int .i64) (.pair (.int .i64) (.pair (.pair (.int .i64) (.pair (.int .i64) (.pair (.int .i64) .unit))) (.pair (.sl .u8) (.pair .str (.pair (.sl (.pair .str (.pair (.sl .u8) .unit))) (.pair .bool .unit)))))))) L]],Q=>(match (Ty.sl (Ty.int .i64)).of [cx] with
  | some (x,[])=>nC L x/\(0<=a/\a<=x.length/\b<=x.length)/\x.length<=100000/\Q .tx [.cells 22 [.d noTy L]]
  | _=>False)
 | _,_,_=>False
def abk:=abl.add Kj
abbrev RY (y0) (y1:List ((Ty.int .i64)).den):=aF .i64 (y0 - 1)/\aF .i64 (y0 - 1)/\0<=y0 - 1/\y0 - 1< (aE y1)/\(Ty.ok bF (aK bF y1 (y0 - 1))->0<=y0/\y0< (aE y1)/\(Ty.ok bF (aK bF y1 y0)->0<=y0/\y0< (aE y1)/\False))
abbrev vg (y0:SV->List HO->Prop) (y1:List bu):=y0 (SV.cJ []) [.cells 22 [Cl.d noTy y1]]
abbrev sh (y0:List bu) (y1:List ((Ty.int .i64)).den) (y2:Int):=aK noTy y0 (aK bF y1 y2)
abbrev B9 (y0:List ((Ty.int .i64)).den) (y1:Int) (y2:List bu):=0<=aK bF y0 y1/\aK bF y0 y1< (aE y2)
def Fa (x:(List ((Ty.int .i64)).den)) (a b:Int) (L:List bu):dE:=λQ=>hU x (cj a b (cL a (bp (λi ag=>br (decide (i.1.1< b)) (bp (λdu ag_1=>br (decide (du.1.1>a)) (0<=du.1.1/\du.1.1< (aE x)/\(yo x du.1.1 (Ty.ok bF (aK bF x (du.1.1 - 1))-> 
 (B9 x du.1.1 L)/\(0<=aK bF x (du.1.1 - 1)/\aK bF x (du.1.1 - 1)< (aE L))/\L=L/\(aF .i64 (cmpL (sh L x du.1.1).1 (aK noTy L (aK bF x (du.1.1 - 1))).1)->br (decide (cmpL (sh L x du.1.1).1 (aK noTy L 
 (aK bF x (du.1.1 - 1))).1< 0)) (RY du.1.1 x) (jq i.1.1 ag))))) (jq i.1.1 ag)) i) (vg Q L)) ((a+1,()),()))))
theorem Ki:cG 239 Dt:=by
 intro args H Q h;unfold Dt at h;split at h;rotate_left;cases h;rename_i cx a b L;split at h;rotate_left;cases h;rename_i x hx;refine Wp.said (args':=[.c (.d (Ty.int .i64) x),.int a,.int b,.c (.fn 177 [.p 0 0])]) (λE g=>bC.cE (dI hx) (bC.cE (λ_ h=>h) (bC.cE (λ_ h=>h) (bC.cE (λ_ h=>h) (λ_ h=>h))))) ?_;clear hx;refine Wp.dJ abk cX ⟨[(2,⟨[(8,.int .i64)],[]⟩),(5,⟨[(9,.int .i64)],[]⟩)],[]⟩ Tryz.f239 (Fa x a b L) (ro:=[177]) ?_;unfold Fa B9 sh vg yo hU cj cL RY jq aE bF;obtain ⟨hs,⟨a0,a1,b1⟩,hl,h⟩:=h;refine λ_ _ _=>⟨by unfold aF;omega,bp.intro (λi=>a+1<=i.1.1) (λi=>(b - i.1.1).toNat) (bz _) ?_⟩;rintro ⟨⟨i,_⟩,_⟩ hi;simp only at hi ⊢;refine aw (λhc=>?_) (λ_=>h);have hc:i< b:=of_decide_eq_true hc;refine bp.intro (λj=>j.1.1=i) (λj=>0) rfl ?_;rintro ⟨⟨j,_⟩,_⟩ hj;simp only at hj ⊢;subst hj;have p1:=hs.at (i:=j) (by omega) (by omega);have p2:=hs.at (i:=j - 1) (by omega) (by omega);have p3:=hs.ord (j - 1) j (by omega) (by omega) (by omega);refine aw (λ_=>⟨by omega,by omega,λ_=>⟨by unfold aF;omega,by omega,by omega,λ_=>⟨p1,p2,by trivial,λ_=>aw (λq=>absurd (of_decide_eq_true q) p3) (λ_=>⟨by unfold aF;omega,by omega,by omega⟩)⟩⟩⟩) (λ_=>⟨by unfold aF;omega,by omega,by omega⟩)
def mG (n:Nat):Ct
 | [.v (.c cx),.v (.c (.k (.int .i64 a))),.v (.c (.k (.int .i64 m))),.v (.c (.k (.int .i64 b))),.v (.c (.fn 177 [.p 0 0]))],[.cells 22 [.d (.pair (.sl .str) (.pair (.int .i64) (.pair (.int .i64) (.pair (.pair (.int .i64) (.pair (.int .i64) (.pair (.int .i64) .unit))) (.pair (.sl .u8) (.pair .str (.pair (.sl (.pair .str (.pair (.sl .u8) .unit))) (.pair .bool .unit)))))))) L]],Q=>(match (Ty.sl (Ty.int .i64)).of [cx] with
  | some (x,[])=>nC L x/\(0<=a/\a< m/\m< b/\b<=x.length)/\b - a<=n/\x.length<=100000/\Q .tx [.cells 22 [.d noTy L]]
  | _=>False)
 | _,_,_=>False
def abj (n:Nat):Vx:= {P:=cd,ct:=[(240,(mG n)),(239,Dt),(177,NM),(71,TB),(123,TA),(170,ZK),(175,G9),(223,NH),(238,ZE)],ty:=cX,hold:=[],ro:=[177,239,240]}
theorem V2 (n:Nat) (hn:cG 240 (mG n)):ir Inv cd (abj n).ct:=ir.cons hn (ir.cons Ki (ir.cons Kj (ir.cons QW (ir.cons QV (ir.cons WE (ir.cons xD (ir.cons Kc (ir.cons Wu (ir.nil _ _)))))))))
abbrev acY (y0:Int) (y1:Int) (y2:Int) (y3) (y4:List bu) (y5:List ((Ty.int .i64)).den) (y6:Nat) (y7:SV->List HO->Prop):=br (decide (iy (pS (y0+y1))+y2 - y3< y1)) (nC y4 y5/\(0<=iy (pS (y0+y1))/\iy (pS (y0+y1))< iy (pS (y0+y1))+y2 - y3/\iy (pS (y0+y1))+y2 - y3< y1/\y1<=(aE y5))/\y1 - iy (pS (y0+y1))<=(↑y6:Int)/\List.length y5<=100000/\y4=y4/\y7 (SV.cJ []) [.cells 22 [Cl.d noTy y4]]) (y7 (SV.cJ []) [.cells 22 [Cl.d noTy y4]])
abbrev X4 (y0:Int) (y1) (y2:Int) (y3:List bu) (y4:List ((Ty.int .i64)).den) (y5:Nat) (y6:Int) (y7:SV->List HO->Prop):=br (decide (y0< y1)) (br (decide (y1< iy (pS (y0+y2)))) (nC y3 y4/\(0<=y0/\y0< y1/\y1< iy (pS (y0+y2))/\iy (pS (y0+y2))<=(aE y4))/\iy (pS (y0+y2)) - y0<=(↑y5:Int)/\List.length y4<=100000/\y3=y3/\br (decide (iy (pS (y0+y2))< iy (pS (y0+y2))+y6 - y1)) (acY y0 y2 y6 y1 y3 y4 y5 y7) (y7 (SV.cJ []) [.cells 22 [Cl.d noTy y3]])) (br (decide (iy (pS (y0+y2))< iy (pS (y0+y2))+y6 - y1)) (acY y0 y2 y6 y1 y3 y4 y5 y7) (y7 (SV.cJ []) [.cells 22 [Cl.d noTy y3]]))) (br (decide (iy (pS (y0+y2))< iy (pS (y0+y2))+y6 - y1)) (acY y0 y2 y6 y1 y3 y4 y5 y7) (y7 (SV.cJ []) [.cells 22 [Cl.d noTy y3]]))
abbrev iJ (y0:Int) (y1:Int):=pS (y0+y1)
abbrev sC {A3:Type} (y0) (y1) (y2:_->Prop) (y3:A3):=aF .i64 (iy (iJ y0 y1)+1)/\y2 ((iy (iJ y0 y1)+1,y3),())
abbrev kM (y0:Int) (y1:Int):=iy (iJ y0 y1)
abbrev qJ (y0:Int) (y1:Int) (R:Prop):=aF .u64 (iJ y0 y1)->aF .i64 (kM y0 y1)->R
abbrev qI (y0:Int) (y1:Int) (R:Prop):=aF .u64 (IntKind.wrap .u64 (y0+y1))->ah<=bd/\R
abbrev vo (y0:Int) (y1:Int) (y2:Int) (y3) (y4):=iy (iJ y0 y1)+y2 - 1 - iy (iJ y3 y4)
abbrev ym (y0) (y1) (y2:List ((Ty.int .i64)).den) (R:Prop):=0<=iy (iJ y0 y1)/\iy (iJ y0 y1)< (aE y2)/\R
abbrev Iy (y0:List ((Ty.int .i64)).den) (y1) (y2) (y3:List bu):=0<=aK bF y0 (kM y1 y2)/\aK bF y0 (kM y1 y2)< (aE y3)
abbrev vj (y0:List bu) (y1:List ((Ty.int .i64)).den) (y2) (y3):=aK noTy y0 (aK bF y1 (kM y2 y3))
abbrev sm (y0:_->Prop) (y1) (y2):=y0 ((y1,iy (iJ y1 y2),()),())
def E8 (n:Nat) (x:(List ((Ty.int .i64)).den)) (a m b:Int) (L:List bu):dE:=λQ=>hU x (cA a m b (aF .i64 (m - a)/\br (m - a==1) (bp (λi ag=>br (decide (i.1.1< i.1.2.1)) (aF .i64 (i.1.1+i.1.2.1)/\(qI i.1.1 i.1.2.1 (qJ i.1.1 i.1.2.1 (ym i.1.1 i.1.2.1 x (Ty.ok bF 
 (aK bF x (kM i.1.1 i.1.2.1))->0<=a/\a< (aE x)/\(Ty.ok bF (aK bF x a)->(Iy x i.1.1 i.1.2.1 L)/\(B9 x a L)/\L=L/\(aF .i64 (cmpL (vj L x i.1.1 i.1.2.1).1 (sh L x a).1)->br (decide (cmpL (vj L x 
 i.1.1 i.1.2.1).1 (sh L x a).1< 0)) (sC i.1.1 i.1.2.1 ag i.1.2) (sm ag i.1.1 i.1.2.1)))))))) (bp (λdu ag=>aF .i64 (i.1.1 - 1)/\br (decide (du.1.1< i.1.1 - 1)) (cL du.1.1 (cL du.1.1 (0<=du.1.1+1/\du.1.1 
 +1< (aE x)/\(Ty.ok bF (aK bF x (du.1.1+1))->0<=du.1.1/\du.1.1< (aE x)/\(Ty.ok bF (aK bF x du.1.1)->0<=du.1.1/\du.1.1< (aE x)/\False))))) (vg Q L)) ((a,()),()))) ((m,b,()),())) (aF .i64 (b - m) 
 /\br (b - m==1) (bp (λi ag=>br (decide (i.1.1< i.1.2.1)) (aF .i64 (i.1.1+i.1.2.1)/\(qI i.1.1 i.1.2.1 (qJ i.1.1 i.1.2.1 (0<=m/\m< (aE x)/\(Ty.ok bF (aK bF x m)->ym i.1.1 i.1.2.1 x (Ty.ok bF (aK bF 
 x (kM i.1.1 i.1.2.1))->(B9 x m L)/\(Iy x i.1.1 i.1.2.1 L)/\L=L/\(aF .i64 (cmpL (sh L x m).1 (vj L x i.1.1 i.1.2.1).1)->br (!decide (cmpL (sh L x m).1 (vj L x i.1.1 i.1.2.1).1< 0)) (sC i.1.1 i.1.2.1 
 ag i.1.2) (sm ag i.1.1 i.1.2.1)))))))) (bp (λdu ag=>br (decide (du.1.1>i.1.1)) (RY du.1.1 x) (vg Q L)) ((m,()),()))) ((a,m,()),())) (aF .i64 (a+b)/\(qI a b (qJ a b (aF .i64 (iy (iJ a b)+m)/\ 
 cV (λk=>br (decide (m>iy (iJ a b))) (aF .i64 (iy (iJ a b)+m - b)/\k ((iy (iJ a b)+m - b,iy (iJ a b),()),())) (k ((a,m,()),()))) λi=>aF .i64 (iy (iJ a b)+m - 1)/\bp (λi ag=>br 
 (decide (i.1.1< i.1.2.1)) (aF .i64 (i.1.1+i.1.2.1)/\(qI i.1.1 i.1.2.1 (qJ i.1.1 i.1.2.1 (aF .i64 (vo a b m i.1.1 i.1.2.1)/\0<=iy (iJ a b)+m - 1 - iy (iJ i.1.1 i.1.2.1)/\iy (iJ a b)+m - 1 - iy (iJ 
 i.1.1 i.1.2.1)< (aE x)/\(Ty.ok bF (aK bF x (vo a b m i.1.1 i.1.2.1))->ym i.1.1 i.1.2.1 x (Ty.ok bF (aK bF x (kM i.1.1 i.1.2.1))->(0<=aK bF x (vo a b m i.1.1 i.1.2.1)/\aK bF x (vo a b m i.1.1 
 i.1.2.1)< (aE L))/\(Iy x i.1.1 i.1.2.1 L)/\L=L/\(aF .i64 (cmpL (aK noTy L (aK bF x (vo a b m i.1.1 i.1.2.1))).1 (vj L x i.1.1 i.1.2.1).1)->br (!decide (cmpL (aK noTy L (aK bF x (vo a b m i.1.1 i.1.2.1))).1 
 (vj L x i.1.1 i.1.2.1).1< 0)) (sC i.1.1 i.1.2.1 ag i.1.2) (sm ag i.1.1 i.1.2.1)))))))) (aF .i64 (iy (iJ a b)+m - i.1.1)/\br (decide (i.1.1< m)) (br (decide (m< iy (iJ a b)+m - i.1.1)) False (X4 a i.1.1 b L 
 x n m Q)) (X4 a i.1.1 b L x n m Q))) i)))))))
theorem Ot (n:Nat) (hn:cG 240 (mG n)):∀ args H Q,mG (n+1) args H Q->Wp Inv cd 240 args H Q:=by
 intro args H Q h;unfold mG at h;split at h;rotate_left;cases h;rename_i cx a m b L;split at h;rotate_left;cases h;rename_i x hx;refine Wp.said (args':=[.c (.d (Ty.int .i64) x),.int a,.int m,.int b,.c (.fn 177 [.p 0 0])]) (λE g=>bC.cE (dI hx) (bC.cE (λ_ h=>h) (bC.cE (λ_ h=>h) (bC.cE (λ_ h=>h) (bC.cE (λ_ h=>h) (λ_ h=>h)))))) ?_;clear hx;refine Wp.P1 (X:=(abj n)) (V2 n hn) ⟨[(4,⟨[(10,.int .i64),(11,.int .i64)],[]⟩),(10,⟨[(13,.int .i64)],[]⟩),(16,⟨[(14,.int .i64),(15,.int .i64)],[]⟩),(22,⟨[(17,.int .i64)],[]⟩),(34,⟨[(20,.int .i64),(21,.int .i64)],[]⟩)],[(33,⟨[(20,.int .i64),(21,.int .i64)],[]⟩)]⟩ (fn:=Tryz.f240) (V:=E8 n x a m b L) (by kernel_rfl) (λ_=>by kernel_rfl) ?_;unfold E8 B9 sh vg sm vj Iy ym vo qI qJ kM hU sC cL RY iJ X4 cA acY ah bd aE pS bF iy;obtain ⟨hs,⟨a0,a1,a2,a3⟩,hn,hl,h⟩:=h;have M:=λz:Int=>Pp (n:=z);refine λ_ _ _ _=>⟨by unfold aF;omega,aw (λhc=>?_) (λhc=>⟨by unfold aF;omega,aw (λhd=>?_) (λhd=>?_)⟩)⟩
 .have hc:m - a=1:=eq_of_beq hc;refine bp.intro (λi=>i.1.1=m/\m<=i.1.2.1/\i.1.2.1<=b) (λi=>(i.1.2.1 - m).toNat) ⟨rfl,by show m<=b;omega,bz _⟩ ?_;rintro ⟨⟨i,j,_⟩,_⟩ ⟨h1,h2,h3⟩;simp only at h1 h2 h3 ⊢;subst h1;refine aw (λhq=>?_) (λhq=>?_)
  .have hq:i< j:=of_decide_eq_true hq;refine ⟨by unfold aF;omega,λ_=>⟨by decide,λ_ _=>?_⟩⟩;rw [M (i+j) (by omega) (by omega)];have p1:=hs.at (i:=(i+j) / 2) (by omega) (by omega);have p2:=hs.at (i:=a) (by omega) (by omega);have p3:=hs.ord a ((i+j) / 2) (by omega) (by omega) (by omega);exact ⟨by omega,by omega,λ_=>⟨by omega,by omega,λ_=>⟨p1,p2,by trivial,λ_=>aw (λq=>absurd (of_decide_eq_true q) p3) (λ_=>⟨⟨by trivial,by omega,by omega⟩,by omega⟩)⟩⟩⟩
  .refine bp.intro (λk=>k.1.1=a) (λ_=>0) rfl ?_;rintro ⟨⟨k,_⟩,_⟩ hk;simp only at hk ⊢;subst hk;exact ⟨by unfold aF;omega,aw (λq=>by have:=of_decide_eq_true q;omega) (λ_=>h)⟩
 .have hd:b - m=1:=eq_of_beq hd;refine bp.intro (λi=>i.1.2.1=m/\a<=i.1.1/\i.1.1<=m) (λi=>(m - i.1.1).toNat) ⟨rfl,bz _,by show a<=m;omega⟩ ?_;rintro ⟨⟨i,j,_⟩,_⟩ ⟨h1,h2,h3⟩;simp only at h1 h2 h3 ⊢;subst h1;refine aw (λhq=>?_) (λhq=>?_)
  .have hq:i< j:=of_decide_eq_true hq;refine ⟨by unfold aF;omega,λ_=>⟨by decide,λ_ _=>?_⟩⟩;rw [M (i+j) (by omega) (by omega)];have p1:=hs.at (i:=(i+j) / 2) (by omega) (by omega);have p2:=hs.at (i:=j) (by omega) (by omega);have p3:=hs.ord ((i+j) / 2) j (by omega) (by omega) (by omega);refine ⟨by omega,by omega,λ_=>⟨by omega,by omega,λ_=>⟨p2,p1,by trivial,λ_=>aw (λ_=>⟨by unfold aF;omega,⟨by trivial,by omega,by omega⟩,by omega⟩) (λq=>?_)⟩⟩⟩;rw [decide_eq_false p3] at q;cases q
  .have hq:¬i< j:=of_decide_eq_false hq;obtain rfl:i=j:=by omega
   refine bp.intro (λk=>k.1.1=i) (λ_=>0) rfl ?_;rintro ⟨⟨k,_⟩,_⟩ hk;simp only at hk ⊢;subst hk;exact aw (λq=>by have:=of_decide_eq_true q;omega) (λ_=>h)
 have hc:¬m - a=1:=by simpa using hc
 have hd:¬b - m=1:=by simpa using hd
 refine ⟨by unfold aF;omega,λ_=>⟨by decide,λ_ _=>?_⟩⟩;rw [M (a+b) (by omega) (by omega)];obtain ⟨d,hdd⟩:∃ d,(a+b) / 2=d:=⟨_,rfl⟩;have hdr:a< d/\d< b:=by omega
 rw [hdd];refine ⟨by unfold aF;omega,cV.intro (λk=>(d< m/\k.1.1=d+m - b/\k.1.2.1=d)\/(m<=d/\k.1.1=a/\k.1.2.1=m)) (aw (λhq=>⟨by unfold aF;omega,.inl ⟨of_decide_eq_true hq,rfl,rfl⟩⟩) (λhq=>.inr ⟨by have:=of_decide_eq_false hq;omega,rfl,rfl⟩)) ?_⟩;rintro ⟨⟨s0,r0,_⟩,_⟩ hk;simp only at hk ⊢;have hr:r0=min d m/\a<=s0/\s0<=r0:=by omega
 refine ⟨by unfold aF;omega,bp.intro (λi=>i.1.2.1=r0/\s0<=i.1.1/\i.1.1<=r0) (λi=>(r0 - i.1.1).toNat) ⟨rfl,bz _,hr.2.2⟩ ?_⟩;rintro ⟨⟨s,r,_⟩,_⟩ ⟨h1,h2,h3⟩;simp only at h1 h2 h3 ⊢;subst h1;refine aw (λhq=>?_) (λhq=>?_)
 .have hq:s< r:=of_decide_eq_true hq;refine ⟨by unfold aF;omega,λ_=>⟨by decide,λ_ _=>?_⟩⟩;rw [M (s+r) (by omega) (by omega)];have p1:=hs.at (i:=(s+r) / 2) (by omega) (by omega);have p2:=hs.at (i:=d+m - 1 - (s+r) / 2) (by omega) (by omega);have p3:=hs.ord ((s+r) / 2) (d+m - 1 - (s+r) / 2) (by omega) (by omega) (by omega);refine ⟨by unfold aF;omega,by omega,by omega,λ_=>⟨by omega,by omega,λ_=>⟨p2,p1,by trivial,λ_=>aw (λ_=>⟨by unfold aF;omega,⟨by trivial,by omega,by omega⟩,by omega⟩) (λq=>?_)⟩⟩⟩;rw [decide_eq_false p3] at q;cases q
 .have hq:¬s< r:=of_decide_eq_false hq;obtain rfl:s=r:=by omega
  have go1:∀ hh:s< d,br (decide (a< s)) (br (decide (s< d)) True True) True:=λ_=>aw (λ_=>aw (λ_=>trivial) (λ_=>trivial)) (λ_=>trivial);refine ⟨by unfold aF;omega,?_⟩
  repeat' (first| exact h| exact hs| exact rfl| refine aw (λq=>?_) (λq=>?_)| apply And.intro| intro _)
  all_goals (simp only [decide_eq_true_eq,decide_eq_false_iff_not] at*)
  all_goals omega
theorem Kh:∀ (n:Nat) args H Q,mG n args H Q->Wp Inv cd 240 args H Q
 | 0=>by
  intro args H Q h;unfold mG at h;split at h
  .split at h
   .obtain ⟨_,⟨_,h1,h2,_⟩,h3,_⟩:=h;omega
   .cases h
  .cases h
 | n+1=>Ot n (Kh n)
def VI:Ct:=mG 100000
theorem Ue:cG 240 VI:=Kh 100000
def NL:Ct
 | [.v (.c cx),.v (.c (.k (.int .i64 m))),.v (.c (.fn 177 [.p 0 0]))],[.cells 22 [.d (.pair (.sl .str) (.pair (.int .i64) (.pair (.int .i64) (.pair (.pair (.int .i64) (.pair (.int .i64) (.pair (.int .i64) .unit))) (.pair (.sl .u8) (.pair .str (.pair (.sl (.pair .str (.pair (.sl .u8) .unit))) (.pair .bool .unit)))))))) L]],Q=>(match (Ty.sl (Ty.int .i64)).of [cx] with
  | some (x,[])=>nC L x/\m=x.length/\x.length<=100000/\Q .tx [.cells 22 [.d noTy L]]
  | _=>False)
 | _,_,_=>False
def abi:=(abk.add Ki).add Ue
abbrev O2 (y0:List bu) (y1:List ((Ty.int .i64)).den) (y2) (y3) (y4:Int) (R:Prop):=nC y0 y1/\(0<=y2/\y2< y2+y3/\y2+y3< y4/\y4<=(aE y1))/\y4 - y2<=(↑(100000:Nat):Int)/\List.length y1<=100000/\y0=y0/\R
def E9 (x:(List ((Ty.int .i64)).den)) (m:Int) (L:List bu):dE:=λQ=>hU x (aF .i64 m->bp (λi ag=>br (decide (i.1.2.1<=m)) (nC L x/\(0<=i.1.1/\i.1.1<=(aE x)/\i.1.2.1<=(aE x))/\List.length x<=100000/\L=L/\aF .i64 (i.1.2.1+20)/\ag ((i.1.2.1,i.1.2.1+20, 
 ()),())) (nC L x/\(0<=i.1.1/\i.1.1<=(aE x)/\m<=(aE x))/\List.length x<=100000/\L=L/\bp (λi ag=>br (decide (i.1.1< m)) (aF .i64 (di*i.1.1)/\bp (λdu ag_1=>br (decide (du.1.2.1<=m)) (aF .i64 
 (du.1.1+i.1.1)/\O2 L x du.1.1 i.1.1 du.1.2.1 (aF .i64 (di*i.1.1)/\aF .i64 (du.1.2.1+2*i.1.1)/\ag_1 ((du.1.2.1,du.1.2.1+2*i.1.1,()),()))) (aF .i64 (du.1.1+i.1.1)/\br (decide (du.1.1+i.1.1< m)) 
 (O2 L x du.1.1 i.1.1 m (aF .i64 (i.1.1*2)/\ag ((i.1.1*2,()),()))) (aF .i64 (i.1.1*2)/\ag ((i.1.1*2,()),())))) ((ah,di*i.1.1,()),())) (vg Q L)) (((20:Int),()),()))) ((ah,(20:Int),()),()))
theorem WM:cG 224 NL:=by
 intro args H Q h;unfold NL at h;split at h;rotate_left;cases h;rename_i cx m L;split at h;rotate_left;cases h;rename_i x hx;refine Wp.said (args':=[.c (.d (Ty.int .i64) x),.int m,.c (.fn 177 [.p 0 0])]) (λE g=>bC.cE (dI hx) (bC.cE (λ_ h=>h) (bC.cE (λ_ h=>h) (λ_ h=>h)))) ?_;clear hx;refine Wp.dJ abi cX ⟨[(3,⟨[(7,.int .i64),(8,.int .i64)],[]⟩),(8,⟨[(6,.int .i64)],[]⟩),(10,⟨[(7,.int .i64),(8,.int .i64)],[]⟩)],[]⟩ Tryz.f224 (E9 x m L) (ro:=[177,239,240]) ?_;unfold E9 vg O2 hU ah di aE;obtain ⟨hs,rfl,hl,h⟩:=h;refine λ_ _=>bp.intro (λi=>0<=i.1.1/\i.1.1<=x.length/\i.1.2.1=i.1.1+20) (λi=>(x.length - i.1.1).toNat) ⟨bz _,by show (0:Int)<=_;omega,rfl⟩ ?_;rintro ⟨⟨a,b,_⟩,_⟩ ⟨h1,h2,h3⟩;simp only at h1 h2 h3 ⊢;subst h3;refine aw (λhc=>?_) (λhc=>?_)
 .have hc:=of_decide_eq_true hc;exact ⟨hs,⟨by omega,by omega,by omega⟩,hl,by trivial,by unfold aF;omega,⟨by omega,by omega,by trivial⟩,by omega⟩
 refine ⟨hs,⟨by omega,by omega,by omega⟩,hl,by trivial,?_⟩;clear h1 h2 hc;refine bp.intro (λi=>20<=i.1.1/\i.1.1<=2*(x.length:Int)+20) (λi=>(x.length - i.1.1).toNat) ⟨bz _,by show (20:Int)<=_;omega⟩ ?_;rintro ⟨⟨z,_⟩,_⟩ ⟨h1,h2⟩;simp only at h1 h2 ⊢;refine aw (λhc=>?_) (λ_=>h);have hc:=of_decide_eq_true hc;refine ⟨by unfold aF;omega,bp.intro (λi=>0<=i.1.1/\i.1.1<=x.length/\i.1.2.1=i.1.1+2*z) (λi=>(x.length - i.1.1).toNat) ⟨bz _,by show (0:Int)<=_;omega,by show 2*z=0+2*z;omega⟩ ?_⟩;rintro ⟨⟨a,b,_⟩,_⟩ ⟨k1,k2,k3⟩;simp only at k1 k2 k3 ⊢;subst k3;refine aw (λhd=>?_) (λhd=>⟨by unfold aF;omega,aw (λhe=>?_) (λhe=>?_)⟩)
 .have hd:=of_decide_eq_true hd;exact ⟨by unfold aF;omega,hs,⟨by omega,by omega,by omega,by omega⟩,by omega,hl,by trivial,by unfold aF;omega,by unfold aF;omega,⟨by omega,by omega,by trivial⟩,by omega⟩
 .have he:=of_decide_eq_true he;exact ⟨hs,⟨by omega,by omega,by omega,by omega⟩,by omega,hl,by trivial,by unfold aF;omega,⟨by omega,by omega⟩,by omega⟩
 .exact ⟨by unfold aF;omega,⟨by omega,by omega⟩,by omega⟩
def Hd:Ct
 | [.v (.c cx),.v (.c (.fn 177 [.p 0 0]))],[.cells 22 [.d (.pair (.sl .str) (.pair (.int .i64) (.pair (.int .i64) (.pair (.pair (.int .i64) (.pair (.int .i64) (.pair (.int .i64) .unit))) (.pair (.sl .u8) (.pair .str (.pair (.sl (.pair .str (.pair (.sl .u8) .unit))) (.pair .bool .unit)))))))) L]],Q=>(match (Ty.sl (Ty.int .i64)).of [cx] with
  | some (x,[])=>nC L x/\x.length<=100000/\Q .tx [.cells 22 [.d noTy L]]
  | _=>False)
 | _,_,_=>False
def ajK:=abi.add WM
def Bn (x:(List ((Ty.int .i64)).den)) (L:List bu):dE:=λQ=>hU x (aL (List.length x)->nC L x/\(aE x)=(aE x)/\List.length x<=100000/\Q (SV.cJ []) [.cells 22 [Cl.d noTy L]])
theorem Uf:cG 176 Hd:=by
 intro args H Q h;unfold Hd at h;split at h;rotate_left;cases h;rename_i cx L;split at h;rotate_left;cases h;rename_i x hx;refine Wp.said (args':=[.c (.d (Ty.int .i64) x),.c (.fn 177 [.p 0 0])]) (λE g=>bC.cE (dI hx) (bC.cE (λ_ h=>h) (λ_ h=>h))) ?_;clear hx;refine Wp.dJ ajK cX ⟨[],[]⟩ Tryz.f176 (Bn x L) (ro:=[177,239,240]) ?_;unfold Bn hU aE aL;exact λ_ _=>⟨h.1,by trivial,h.2.1,h.2.2⟩
def ZP:Ct:=cD noTy λl=>cD .str λp=>c0 λQ=>(l.length<=1100/\p.length<=1000/\l.Pairwise λa b=>cmpL a.1 b.1< 0)/\Q (.c (.d (.int .i64) (dz p l 0))) []
def ajJ:=(iH.add xD).add Uf
def Rk (l:(List (noTy).den)) (p:(List (Ty.str).den)):dE:=λQ=>gr l (aL (gz p)->aL (List.length l)->bp (λi ag=>br (ji i.1.1 l) (jj i.1.1 l (vr l i.1.1 (aL (gz p)->aF .i64 ((aE p)+1)/\br ((km l i.1.1)==(aE p)+1) (br (decide ((km l 
 i.1.1)>(aE p))&& iX (List.take (gz p) (dy l i.1.1).1) p) ((List.length i.1.2.1+List.length [i.1.1])*8<=cw/\List.length i.1.2.1+List.length [i.1.1]<=9223372036854775807/\cL i.1.1 (ag ((i.1.1+1,i.1.2.1++ 
 [i.1.1],()),()))) (cL i.1.1 (ag ((i.1.1+1,i.1.2),())))) (cL i.1.1 (ag ((i.1.1+1,i.1.2),())))))) (nC l i.1.2.1/\List.length i.1.2.1<=100000/\Q gA [HO.held (3:TypeId) bF i.1.2.1])) ((ah,[],()),()))
theorem ag2:cG 129 ZP:=fz<| lH λl=>lH λp=>iQ λQ h=>by
 refine Wp.lq [some (.sl (.int .i64))] [0] ?_;refine Wp.dJ ajJ cX ⟨[(4,⟨[(10,.int .i64),(5,.own 3 (.int .i64))],[]⟩)],[]⟩ Tryz.f129 (Rk l p) (hold:=[176]) ?_;unfold Rk ji jj gz gA dy vr cL gr km cw ah aE aL bF;obtain ⟨⟨hl,hp,hs⟩,h⟩:=h;refine λ_ _ _=>bp.intro (λi=>0<=i.1.1/\i.1.1<=l.length/\i.1.2.1++dz p (l.drop i.1.1.toNat) i.1.1=dz p l 0) (λi=>l.length - i.1.1.toNat) ⟨by simp,by simp,by simp⟩ ?_;rintro ⟨⟨i,o,_⟩,_⟩ ⟨h0,h1,h2⟩;simp only at h0 h1 h2 ⊢;have qk:o.length<=1100:=by
  have e1:=congrArg List.length h2;have e2:=kU p (L:=l) (k:=0);rw [af] at e1;omega
 refine aw (λhc=>?_) (λhc=>?_)
 .have hc:=of_decide_eq_true hc;rw [ixR (e:=noTy) h0 hc,o6] at h2;generalize aK noTy l i=x at*;have no:Aq p x=false->(0<=i+1/\i+1<=(l.length:Int)/\o++dz p (l.drop (i+1).toNat) (i+1)=dz p l 0)/\l.length - (i+1).toNat< l.length - i.toNat:=λe=>by
   rw [e] at h2;exact ⟨⟨by omega,by omega,h2⟩,by omega⟩
  refine ⟨h0,hc,λ_ _ _=>⟨by unfold aF;omega,aw (λe1=>aw (λe2=>?_) (λe2=>?_)) (λe1=>?_)⟩⟩
  .have e:Aq p x=true:=by unfold Aq;rw [e1,e2];rfl
   rw [e,if_pos rfl] at h2;exact ⟨by simp only [aD];omega,by simp only [aD];omega,by unfold aF;omega,⟨by omega,by omega,by rw [aG];exact h2⟩,by omega⟩
  .exact ⟨by unfold aF;omega,no (by unfold Aq;rw [e1,e2];rfl)⟩
  .exact ⟨by unfold aF;omega,no (by unfold Aq;rw [e1];rfl)⟩
 .have hc:=of_decide_eq_false hc;rw [ft hc] at h2;have h2:o=dz p l 0:=by rw [<-h2];simp [dz]
  subst h2;exact ⟨YE hs p,by omega,⟨cq _,h⟩⟩
def To:Ct:=cD noTy λl=>cI λi=>c0 λQ=>(0<=i/\i< (l.length:Int))/\l.length<=1100/\Q (.int (mh l (aK noTy l i).2.1:Nat)) []
def KZ (l:(List (noTy).den)) (i:Int):dE:=λQ=>gr l (aF .i64 i->br (cR i) (Q lZ []) (aL (List.length l)->br (decide (i≥(aE l))) (Q lZ []) (aL (List.length l)->bp (λdu ag=>br (ji du.1.1 l) (jj du.1.1 l (Ty.ok noTy (dy l 
 du.1.1)->0<=i/\i< (aE l)/\(Ty.ok noTy (aK noTy l i)->br ((dy l du.1.1).2.1==(aK noTy l i).2.1) (cL du.1.2.1 (cL du.1.1 (ag ((du.1.1+1,du.1.2.1+1,()),())))) (cL du.1.1 (ag ((du.1.1+1,du.1.2), 
 ())))))) (Q (gQ du.1.2.1) [])) ((ah,ah,()),()))))
theorem ack:cG 81 To:=fz<| lH λl=>nG λi=>iQ λQ h=>by
 refine Wp.dJ iH cX ⟨[(6,⟨[(18,.int .i64),(5,.int .i64)],[]⟩)],[]⟩ Tryz.f81 (KZ l i) ?_;unfold KZ lZ ji jj gQ dy cR cL gr a6 aC ah aE aL;obtain ⟨⟨i0,i1⟩,hl,h⟩:=h;refine λ_ _=>aw (λq=>by have:=of_decide_eq_true q;omega) (λ_=>λ_=>aw (λq=>by have:=of_decide_eq_true q;omega) (λ_=>λ_=>?_));refine bp.intro (λk=>0<=k.1.1/\k.1.1<=l.length/\0<=k.1.2.1/\k.1.2.1+((l.drop k.1.1.toNat).countP (rM (aK noTy l i).2.1):Nat)=(mh l (aK noTy l i).2.1:Nat)) (λk=>l.length - k.1.1.toNat) ⟨by simp,by simp,bz _,by simp [mh]⟩ ?_;rintro ⟨⟨k,c,_⟩,_⟩ ⟨k0,k1,c0,hk⟩;simp only at k0 k1 c0 hk ⊢;have hle:mh l (aK noTy l i).2.1<=l.length:=List.countP_le_length;refine aw (λhc=>?_) (λhc=>?_)
 .have hc:=of_decide_eq_true hc;rw [ixR (e:=noTy) k0 hc,List.countP_cons] at hk;refine ⟨k0,hc,λ_=>⟨i0,i1,λ_=>aw (λe=>?_) (λe=>?_)⟩⟩
  .have e':rM (aK noTy l i).2.1 (aK noTy l k)=true:=e;rw [if_pos e'] at hk;exact ⟨by unfold aF;omega,by unfold aF;omega,⟨by omega,by omega,by omega,by omega⟩,by omega⟩
  .have e':rM (aK noTy l i).2.1 (aK noTy l k)=false:=e;rw [if_neg (by rw [e'];simp)] at hk;exact ⟨by unfold aF;omega,⟨by omega,by omega,by omega,by omega⟩,by omega⟩
 .have hc:=of_decide_eq_false hc;rw [ft hc,List.countP_nil] at hk;obtain rfl:c=(mh l (aK noTy l i).2.1:Nat):=by omega
  exact h
def pg:List (Nat×Ty):=(80,eE)::cX
def aek:Ct:=cI λx=>c0 λQ=>Q (.bool false) []
def abh:=(iH.add WG).add QI
def KQ (x:Int):dE:=λQ=>aF .i64 x->Q (.v (.c (.k (.bool (x !=x))))) []
theorem acd:cG 132 aek:=fz<| nG λx=>iQ λQ h=>by
 refine Wp.dJ abh pg ⟨[],[]⟩ Tryz.f132 (KQ x) ?_;unfold KQ;rw [show (x !=x)=false by simp];exact λ_=>h
def afD:Ct:=cD (Ty.int .i64) λl=>cI λy=>c0 λQ=>(l.Pairwise λa b=>a< b)/\l.length<=100000/\ajP l y/\∀ i:Int,0<=i->i< (l.length:Int)->l[i.toNat]?=some y->Q (.cJ [.c (.k (.int .i64 i)),.c (.k (.bool true))]) []
def ajI:=abh.add acd
def Xq (l:(List ((Ty.int .i64)).den)) (y:Int):dE:=λQ=>hU l (aF .i64 y->aL (List.length l)->bp (λi ag=>br (decide (i.1.1< i.1.2.1)) (aF .i64 (i.1.1+i.1.2.1)/\(qI i.1.1 i.1.2.1 (qJ i.1.1 i.1.2.1 (ym i.1.1 i.1.2.1 l (Ty.ok bF (aK bF l (kM 
 i.1.1 i.1.2.1))->br (decide (aK bF l (kM i.1.1 i.1.2.1)< y)) (sC i.1.1 i.1.2.1 ag i.1.2) (sm ag i.1.1 i.1.2.1)))))) (br (decide (i.1.1< (aE l))) (0<=i.1.1/\i.1.1< (aE l)/\(Ty.ok bF (aK bF l i.1.1)->br (aK 
 bF l i.1.1==y) (Q (.cJ [.c (.k (aC i.1.1)),.c (.k (.bool true))]) []) (0<=i.1.1/\i.1.1< (aE l)/\(Ty.ok bF (aK bF l i.1.1)->Q (.cJ [.c (.k (aC i.1.1)),.c (.k (.bool false))]) [])))) (Q (.cJ [.c (.k (aC i.1.1)),.c 
 (.k (.bool false))]) []))) ((ah,(aE l),()),()))
theorem akv:cG 82 afD:=fz<| lH λl=>nG λy=>iQ λQ h=>by
 refine Wp.dJ ajI pg ⟨[(4,⟨[(7,.int .i64),(8,.int .i64)],[]⟩)],[]⟩ Tryz.f82 (Xq l y) ?_;unfold Xq sm ym qI qJ kM hU sC iJ aC ah bd aE aL pS bF iy;obtain ⟨hs,hl,⟨⟨k,hk⟩⟩,h⟩:=h;obtain ⟨tV,qP⟩:=au.1 hk;have eK:∀ a:Int,0<=a->a< (l.length:Int)->((aK (.int .i64) l a:Int)< y↔a< (k:Int)):=λa a0 a1=>by
  rw [gV (e:=.int .i64) a0 a1,<-qP];have P:=dj.1 hs;constructor
  .intro q;rcases mK a.toNat k with z| z| z
   .omega
   .simp only [z,Int.lt_irrefl] at q
   .exact absurd q (Int.lt_asymm (P k a.toNat tV (by omega) z))
  .intro q;exact P a.toNat k (by omega) tV (by omega)
 refine λ_ _ _=>bp.intro (λi=>0<=i.1.1/\i.1.1<=(k:Int)/\(k:Int)<=i.1.2.1/\i.1.2.1<=l.length) (λi=>(i.1.2.1 - i.1.1).toNat) ⟨bz _,by show (0:Int)<=k;omega,by show (k:Int)<=l.length;omega,bz _⟩ ?_;rintro ⟨⟨i,j,_⟩,_⟩ ⟨h0,h1,h2,h3⟩;simp only at h0 h1 h2 h3 ⊢;refine aw (λhq=>?_) (λhq=>?_)
 .have hq:=of_decide_eq_true hq;refine ⟨by unfold aF;omega,λ_=>⟨by decide,λ_ _=>?_⟩⟩;rw [Pp (n:=i+j) (by omega) (by omega)];refine ⟨by omega,by omega,λ_=>aw (λhd=>?_) (λhd=>?_)⟩
  .have:=(eK ((i+j) / 2) (by omega) (by omega)).1 (of_decide_eq_true hd);exact ⟨by unfold aF;omega,⟨by omega,by omega,by omega,by omega⟩,by omega⟩
  .have:¬(i+j) / 2< (k:Int):=λq=>absurd ((eK _ (by omega) (by omega)).2 q) (of_decide_eq_false hd);exact ⟨⟨by omega,by omega,by omega,by omega⟩,by omega⟩
 .have hq:=of_decide_eq_false hq;obtain rfl:i=(k:Int):=by omega
  have e:aK (.int .i64) l (k:Int)=y:=by rw [gU (e:=.int .i64) tV];exact qP
  refine aw (λ_=>⟨by omega,by omega,λ_=>?_⟩) (λq=>absurd (of_decide_eq_false q) (by omega));rw [e];exact aw (λ_=>h k (by omega) (by omega) (by rw [aU];exact hk)) (λq=>by simp at q)
def TD:Ct:=cP<| cN noTy λx=>cO λH Q=>match H with
 | [.cells 120 [.p 1 0,.p 2 0,.p 3 0,.d (.pair (.sl .str) (.pair (.int .i64) (.pair (.int .i64) (.pair (.pair (.int .i64) (.pair (.int .i64) (.pair (.int .i64) .unit))) (.pair (.sl .u8) (.pair .str (.pair (.sl (.pair .str (.pair (.sl .u8) .unit))) (.pair .bool .unit)))))))) L,.d (.int .i64) ids,.m 4,.m 5,.m 6],.abs A1,.abs A2,.abs A3,.map 3 .int (.int .i64) Mr,.map 3 .int (.pair (.int .i64) (.pair (.int .i64) (.pair (.int .i64) (.pair (.int .i64) (.pair (.int .i64) (.pair (.int .i64) (.pair (.int .i64) (.pair (.int .i64) (.pair (.int .i64) (.pair (.int .i64) (.pair .str .unit))))))))))) F,.map 9 .str (.int .i64) Ms]=>eI x.2.2.2.2.2.2.1=true/\∃ T RX fX,WB A3 T RX fX/\o9 fX RX Ms/\RX.length<=1000000/\Ms.length<=100000/\∀ A3' Ay Aw zo xa,WB A3' T Ay Aw->(∃ c,Ay=RX++c/\c.length<=4100)->(∃ c,Aw=fX++c)->o9 Aw Ay zo->zo.length<=Ms.length+1->VW Aw Ay xa x.2.2.2.2.2.2.1->Q (.int xa) [.cells 120 [.p 1 0,.p 2 0,.p 3 0,.d noTy L,.d (.int .i64) ids,.m 4,.m 5,.m 6],.abs A1,.abs A2,.abs A3',.map 3 .int (.int .i64) Mr,.map 3 .int eE F,.map 9 .str (.int .i64) zo]
 | _=>False
def ajH:=(iH.add vW).add Wx
def Lo:((noTy).den)->(List bu)->(List Int)->(Value->Atom)->(Value->Atom)->(Value->Atom)->(List (Int×Int))->(List (Int×eE.den))->(List (ByteArray×Int))->dE:=
 λx L ids A1 A2 A3 Mr F Ms Q=>gu x.1 (cA x.2.1 x.2.2.1 x.2.2.2.1.1 (cj x.2.2.2.1.2.1 x.2.2.2.1.2.2.1 (aL (bO x.2.2.2.2.1)->aL (dr x.2.2.2.2.2.1)->aL (bO x.2.2.2.2.2.2.1)->eI x.2.2.2.2.2.2.1=true/\∀ 
 (z:List UInt8) (e:Int),amh x.2.2.2.2.2.2.1 z e->cY z (aF .i64 e->br (e !=0) (Q lZ [wD L ids,HO.abs A1,HO.abs A2,HO.abs A3,wB Mr,wC F,kO Ms]) (Ty.ok bF (gd (qB Ms z) ah)->br (!Option.isSome 
 (qB Ms z)) (∃ T R fs,WB A3 T R fs/\List.length R+List.length z<=10000000/\∀ (A':Value->Atom) (r:Nat) (fs':List (List UInt8)),WB A' T (R++z) (fs++fs')->(∀ (gs:List (List UInt8)),r=dU (fs++gs) (bO R))->aF 
 .i64 (↑r:Int)->List.length Ms< 9223372036854775807/\aF .i64 ((↑r:Int)+1)/\Q (.v (.c (.k (.int .i64 ((↑r:Int)+1))))) [wD L ids,HO.abs A1,HO.abs A2,HO.abs A',wB Mr,wC F,kO (Kk.put Kk.str Ms (fD z) (↑r:Int))]) 
 (aF .i64 (gd (qB Ms z) ah+1)/\Q (.v (.c (.k (.int .i64 (gd (qB Ms z) ah+1))))) [wD L ids,HO.abs A1,HO.abs A2,HO.abs A3,wB Mr,wC F,kO Ms]))))))
theorem acu:cG 83 TD:=fz<| rJ<| V8 λx=>rK λH Q h=>by
 split at h;rotate_left;cases h;rename_i L ids A1 A2 A3 Mr F Ms;refine Wp.dJ ajH pg ⟨[],[]⟩ Tryz.f83 (Lo x L ids A1 A2 A3 Mr F Ms) ?_;unfold Lo lZ qB cY dr cj gu bO a6 cA ah aL wD wC wB kO bF;obtain ⟨hx,T,RX,fX,hW,hS,hl,hM,h⟩:=h;obtain ⟨hm8,hl8⟩:=oV hx;have Of:(xsB x.2.2.2.2.2.2.1).length<=4100:=by
  have h1:=uT (Hx hm8);have h2:=n5 x.2.2.2.2.2.2.1;unfold xsB;rw [af,aB];omega
 refine λ_ _ _ _ _ _ _ _ _=>⟨hx,λz e hz _ _=>?_⟩;rcases hz.or with ⟨h1,rfl,rfl⟩| ⟨h1,rfl,rfl⟩;exact aw (λ_=>h A3 RX fX Ms 0 hW ⟨[],by simp,by simp⟩ ⟨[],by simp⟩ hS (by omega) ⟨.inl ⟨h1,rfl⟩,by decide⟩) (λq=>by cases q);obtain ⟨z,hzz⟩:∃ z,xsB x.2.2.2.2.2.2.1=z:=⟨_,rfl⟩;rw [hzz] at Of ⊢;refine aw (λq=>by cases q) (λ_=>λ_=>aw (λhg=>?_) (λhg=>?_))
 .obtain ⟨x',y',rfl,hT,hm⟩:=hW;refine ⟨T,RX,fX,⟨x',y',rfl,hT,hm⟩,by omega,λA' r fs' hW' hr _=>?_⟩;have hrl:=sa hm;have MY:=hr [];rw [aW] at MY;have hH:=Has.new (b:=z) (fs':=fs') hr;have h0:0<=(r:Int)/\(r:Int)<=4294967294:=by omega
  exact ⟨by omega,by unfold aF;omega,h A' _ _ _ _ hW' ⟨_,rfl,Of⟩ ⟨_,rfl⟩ ((hS.le ⟨_,rfl⟩ ⟨_,rfl⟩).put h0 hH) (Mn _ _ _) ⟨.inr ⟨h1,by omega,by rw [show (r:Int)+1 - 1=r by omega,hzz];exact hH⟩,by omega⟩⟩
 .obtain ⟨v,hv⟩:∃ v:Int,Kk.get .str Ms (fD z)=some v:=lR.1 (show (Kk.get .str Ms (fD z)).isSome=true by simpa using hg);rw [hv,show (some v).getD 0=v from rfl];obtain ⟨h0,hH⟩:=hS.get hv;have h1v:1<=v+1/\0<=v+1/\v+1<=4294967295:=by omega
  have h2v:v+1 - 1=v:=by omega
  exact ⟨by unfold aF;omega,h A3 RX fX Ms (v+1) hW ⟨[],by simp,by simp⟩ ⟨[],by simp⟩ hS (by omega) ⟨.inr ⟨h1,h1v.1,by rw [h2v,hzz];exact hH⟩,h1v.2⟩⟩
structure Ws (A1 A2 A3:Value->Atom) (T:List Int) (s:BS):Prop where
 i:WB A1 T s.RI s.fI
 l:WB A2 T s.RL s.fL
 x:WB A3 T s.RX s.fX
structure Hu (L:List bu) (ids:List Int) (F:List (Int×eE.den)) (s t:BS) (e:Nat) (p:List ByteArray) (d:Nat):Prop where
 ok:DP L ids F t e
 le:BS.Le s t
 cov:∀ y∈L,pre p y->d<=y.1.length->∃ r,Kk.get .int t.Mr y.2.1=some r
 new:∀ i r,Kk.get .int t.Mr i=some r->Kk.get .int s.Mr i=some r\/∃ y∈L,y.2.1=i/\pre p y/\d<=y.1.length
def jL (n:Nat):Ct
 | [.v (.c (.p 0 0)),.v (.c (.k (.int .i64 k)))],[.cells 120 [.p 1 0,.p 2 0,.p 3 0,.d (.pair (.sl .str) (.pair (.int .i64) (.pair (.int .i64) (.pair (.pair (.int .i64) (.pair (.int .i64) (.pair (.int .i64) .unit))) (.pair (.sl .u8) (.pair .str (.pair (.sl (.pair .str (.pair (.sl .u8) .unit))) (.pair .bool .unit)))))))) L,.d (.int .i64) ids,.m 4,.m 5,.m 6],.abs A1,.abs A2,.abs A3,.map 3 .int (.int .i64) Mr,.map 3 .int (.pair (.int .i64) (.pair (.int .i64) (.pair (.int .i64) (.pair (.int .i64) (.pair (.int .i64) (.pair (.int .i64) (.pair (.int .i64) (.pair (.int .i64) (.pair (.int .i64) (.pair (.int .i64) (.pair .str .unit))))))))))) F,.map 9 .str (.int .i64) Ms],Q=>ue L ids F/\(0<=k/\k< (L.length:Int)/\17<=(aK noTy L k).1.length+n)/\∃ T s,Ws A1 A2 A3 T s/\Mr=s.Mr/\Ms=s.Ms/\s.Ms.length<=s.Mr.length/\DP L ids F s 0/\∀ A1' A2' A3' t r,Ws A1' A2' A3' T t->t.Ms.length<=t.Mr.length->Hu L ids F s t 0 (aK noTy L k).1 (aK noTy L k).1.length->Kk.get .int t.Mr (aK noTy L k).2.1=some r->Q (.c (.k (.int .i64 r))) [.cells 120 [.p 1 0,.p 2 0,.p 3 0,.d noTy L,.d (.int .i64) ids,.m 4,.m 5,.m 6],.abs A1',.abs A2',.abs A3',.map 3 .int (.int .i64) t.Mr,.map 3 .int eE F,.map 9 .str (.int .i64) t.Ms]
 | _,_,_=>False
def JI (n:Nat):Ct
 | [.v (.c (.p 0 0)),.v (.agg cx)],[.cells 120 [.p 1 0,.p 2 0,.p 3 0,.d (.pair (.sl .str) (.pair (.int .i64) (.pair (.int .i64) (.pair (.pair (.int .i64) (.pair (.int .i64) (.pair (.int .i64) .unit))) (.pair (.sl .u8) (.pair .str (.pair (.sl (.pair .str (.pair (.sl .u8) .unit))) (.pair .bool .unit)))))))) L,.d (.int .i64) ids,.m 4,.m 5,.m 6],.abs A1,.abs A2,.abs A3,.map 3 .int (.int .i64) Mr,.map 3 .int (.pair (.int .i64) (.pair (.int .i64) (.pair (.int .i64) (.pair (.int .i64) (.pair (.int .i64) (.pair (.int .i64) (.pair (.int .i64) (.pair (.int .i64) (.pair (.int .i64) (.pair (.int .i64) (.pair .str .unit))))))))))) F,.map 9 .str (.int .i64) Ms],Q=>(match (noTy).of cx with
  | some (x,[])=>ue L ids F/\(x∈L/\x.2.2.1=1/\16<=x.1.length+n)/\∃ T s,Ws A1 A2 A3 T s/\Mr=s.Mr/\Ms=s.Ms/\s.Ms.length<=s.Mr.length/\DP L ids F s 0/\∀ A1' A2' A3' t r es,Ws A1' A2' A3' T t->t.Ms.length<=t.Mr.length->Hu L ids F s t 1 x.1 (x.1.length+1)->iG ⟨#[]⟩ es->agF L t.Mr x.1.length (dz x.1 L 0) es->Has t.fL t.RL r (gN es)->(0<=r/\r<=4294967295)->(gN es).length<=10440->Q (.cJ [.c (.k (.int .i64 r)),.c (.k (.int .i64 (gN es).length))]) [.cells 120 [.p 1 0,.p 2 0,.p 3 0,.d noTy L,.d (.int .i64) ids,.m 4,.m 5,.m 6],.abs A1',.abs A2',.abs A3',.map 3 .int (.int .i64) t.Mr,.map 3 .int eE F,.map 9 .str (.int .i64) t.Ms]
  | _=>False)
 | _,_,_=>False
def abg (n:Nat):Vx:= {P:=cd,ct:=[(51,(jL n)),(129,ZP),(130,NX),(54,AP)],ty:=pg,hold:=[130]}
theorem V1 (n:Nat) (hn:cG 51 (jL n)):ir Inv cd (abg n).ct:=ir.cons hn (ir.cons ag2 (ir.cons Kw (ir.cons vW (ir.nil _ _))))
abbrev uC (y0) (y1) (y2:List bu) (y3):=aK noTy y0 (aK bF (dz y1 y2 ah) y3)
abbrev IH {A4:Type} (y0) (y1) (y2:List bu) (y3) (y4:A4):=(aK Ty.str (uC y0 y1 y2 y3).1 (a7 y1),(uC y0 y1 y2 y3).2.2.1,y4,())
abbrev pn (y0) (y1:List bu):=dz y0 y1 ah
abbrev Cb (y0:List (Int×Int)) (y1) (y2:List (ByteArray×Int)) (y3) (y4:List bu) (y5:List Int) (y6:List (Int×eE.den)) (y7) (R:Prop):=y0=y1/\y2=y3/\List.length y3<=List.length y1/\DP y4 y5 y6 y7 bD/\R
def Ln:Nat->((noTy).den)->(List bu)->(List Int)->(Value->Atom)->(Value->Atom)->(Value->Atom)->(List (Int×Int))->(List (Int×eE.den))->(List (ByteArray×Int))->dE:=
 λn x L ids A1 A2 A3 Mr F Ms Q=>gu x.1 (cA x.2.1 x.2.2.1 x.2.2.2.1.1 (cj x.2.2.2.1.2.1 x.2.2.2.1.2.2.1 (aL (bO x.2.2.2.2.1)->aL (dr x.2.2.2.2.2.1)->aL (bO x.2.2.2.2.2.2.1)->(List.length L<=1100/\ 
 List.length x.1<=1000/\List.Pairwise (λa b=>cmpL a.1 b.1< 0) L)/\(aL (List.length (pn x.1 L))->aL (List.length (pn x.1 L))->bp (λi ag=>br (decide (i.1.1< (a7 (pn x.1 L)))) (0<=i.1.1/\i.1.1< (a7 
 (pn x.1 L))/\(Ty.ok bF (aK bF (pn x.1 L) i.1.1)->0<=aK bF (pn x.1 L) i.1.1/\aK bF (pn x.1 L) i.1.1< (a7 i.2.1.2.2.2.1)/\(Ty.ok noTy (uC i.2.1.2.2.2.1 x.1 L i.1.1)->aL (bO x.1)->ah<=(a7 x.1) 
 /\(a7 x.1)< (↑(List.length (uC i.2.1.2.2.2.1 x.1 L i.1.1).1):Int)/\(Ty.ok Ty.str (aK Ty.str (uC i.2.1.2.2.2.1 x.1 L i.1.1).1 (a7 x.1))->ue i.2.1.2.2.2.1 i.2.1.2.2.2.2.1 i.2.2.2.2.2.2.1/\(0<=aK bF (pn x.1 L) i.1.1/\ 
 aK bF (pn x.1 L) i.1.1< (a7 i.2.1.2.2.2.1)/\17<=List.length (uC i.2.1.2.2.2.1 x.1 L i.1.1).1+n)/\∃ T s,Ws i.2.2.1 i.2.2.2.1 i.2.2.2.2.1 T s/\Cb i.2.2.2.2.2.1 s.Mr i.2.2.2.2.2.2.2.1 s.Ms i.2.1.2.2.2.1 i.2.1.2.2.2.2.1 
 i.2.2.2.2.2.2.1 s (∀ (A1' A2' A3':Value->Atom) (t:BS) (r:Int),Ws A1' A2' A3' T t->List.length t.Ms<=List.length t.Mr->Hu i.2.1.2.2.2.1 i.2.1.2.2.2.2.1 i.2.2.2.2.2.2.1 s t bD (uC i.2.1.2.2.2.1 x.1 L i.1.1).1 (List.length 
 (uC i.2.1.2.2.2.1 x.1 L i.1.1).1)->Kk.get Kk.int t.Mr (uC i.2.1.2.2.2.1 x.1 L i.1.1).2.1=some r->aF .i64 r->(List.length i.1.2.1+List.length [(IH i.2.1.2.2.2.1 x.1 L i.1.1 r)])*32<=140737488355328/\List.length i.1.2.1 
 +List.length [(IH i.2.1.2.2.2.1 x.1 L i.1.1 r)]<=9223372036854775807/\cL i.1.1 (ag ((i.1.1+1,i.1.2.1++ [(IH i.2.1.2.2.2.1 x.1 L i.1.1 r)],()),((),(),(),i.2.1.2.2.2.1,i.2.1.2.2.2.2.1,(),(),(),()),A1',A2',A3', 
 t.Mr,i.2.2.2.2.2.2.1,t.Ms,()))))))) ((iG ⟨#[]⟩ i.1.2.1/\List.length i.1.2.1<=1024)/\(aL (List.length (gN i.1.2.1))->aF .i64 0->∃ T R fs,WB i.2.2.2.1 T R fs/\List.length R+List.length (gN i.1.2.1)<=10000000/\∀ (A': 
 Value->Atom) (r:Nat) (fs':List (List UInt8)),WB A' T (R++gN i.1.2.1) (fs++fs')->(∀ (gs:List (List UInt8)),r=dU (fs++gs) (bO R))->aF .i64 (↑r:Int)->aL (List.length (gN i.1.2.1))->Q (.cJ [.c (.k (.int .i64 
 (↑r:Int))),.c (.k (.int .i64 (a7 (gN i.1.2.1))))]) [wD i.2.1.2.2.2.1 i.2.1.2.2.2.2.1,HO.abs i.2.2.1,HO.abs A',HO.abs i.2.2.2.2.1,wB i.2.2.2.2.2.1,wC i.2.2.2.2.2.2.1,kO i.2.2.2.2.2.2.2.1]))) ((ah,[],()),((),(), 
 (),L,ids,(),(),(),()),A1,A2,A3,Mr,F,Ms,())))))
theorem Ul (n:Nat) (hn:cG 51 (jL n)):cG 80 (JI n):=by
 intro args H Q h;unfold JI at h;split at h;rotate_left;cases h;rename_i cx L ids A1 A2 A3 Mr F Ms;split at h;rotate_left;cases h;rename_i x hx;refine Wp.said (args':=[.v (.c (.p 0 0)),.v (.agg (Ty.cells noTy x))]) (λE g=>bC.cE (λ_ h=>h) (bC.cE (IP hx) (λ_ h=>h))) ?_;clear hx;refine Wp.P1 (X:=(abg n)) (V1 n hn) ⟨[(4,⟨[(20,.int .i64),(6,.own 44 dh)],[(0,.cells 120 [.p 1 0,.p 2 0,.p 3 0,.d noTy,.d (.int .i64),.m 4,.m 5,.m 6]),(1,.abs),(2,.abs),(3,.abs),(4,.map 3 .int (.int .i64)),(5,.map 3 .int eE),(6,.map 9 .str (.int .i64))]⟩)],[]⟩ (fn:=Tryz.f80) (V:=Ln n x L ids A1 A2 A3 Mr F Ms) (by kernel_rfl) (λ_=>by kernel_rfl) ?_;unfold Ln Cb pn IH dr cj cL uC gu bO cA ah a7 aL bD wD wC wB kO bF;obtain ⟨hT,⟨hx,hxk,hn⟩,T,s,hW,rfl,rfl,hM,hB,h⟩:=h;have hl:=hT.len;have hd:=hT.deep x hx;refine λ_ _ _ _ _ _ _ _ _=>⟨⟨by omega,by omega,hT.ord⟩,λ_ _=>?_⟩;have hKl:=kU x.1 (L:=L) (k:=0);have hKm:∀ k∈dz x.1 L 0,0<=k/\k< (L.length:Int)/\(aK noTy L k).1.length=x.1.length+1/\pre x.1 (aK noTy L k):=λk q=>fW q;have hKo:=pX x.1 (L:=L) (k:=0);have hKe:∀ {t:BS} {es:List dh.den},DP L ids F t 0->fZ L t.Mr x.1.length (dz x.1 L 0) es->iG ⟨#[]⟩ es:=λq1 q2=>GR hT (λi r q=>(q1.refs i r q).1) q2 (λk q=>q) hKo λk q=>by
  obtain ⟨k0,k1,k2,k3⟩:=hKm k q;refine acN (hT.nm _ (uF (e:=noTy) k0 k1) _ (Eq.mpr (congrArg (λl:List ByteArray=>(aK noTy L k).1.getD x.1.length ⟨#[]⟩∈l) (tz k2 k3)) ?_));exact iK _ aX
 have hKb:∀ y∈L,pre x.1 y->x.1.length+1<=y.1.length->∃ k∈dz x.1 L 0,pre (aK noTy L k).1 y:=λy q1 q2 q3=>ud hT (y.1.length - (x.1.length+1)) q1 q2 (by omega);generalize dz x.1 L 0=K at*;refine bp.intro (λi=>∃ (j:Nat) (t:BS) (B1 B2 B3:Value->Atom),j<=K.length/\i.1.1=(j:Int)/\fZ L t.Mr x.1.length (K.take j) i.1.2.1/\i.2=(((),(),(),L,ids,(),(),(),()),B1,B2,B3,t.Mr,F,t.Ms,())/\Ws B1 B2 B3 T t/\t.Ms.length<=t.Mr.length/\DP L ids F t 0/\BS.Le s t/\(∀ k∈K.take j,∀ y∈L,pre (aK noTy L k).1 y->∃ r,Kk.get .int t.Mr y.2.1=some r)/\∀ i r,Kk.get .int t.Mr i=some r->Kk.get .int s.Mr i=some r\/∃ y∈L,y.2.1=i/\pre x.1 y/\x.1.length+1<=y.1.length) (λi=>K.length - i.1.1.toNat) ⟨0,s,A1,A2,A3,cq _,rfl,trivial,rfl,hW,hM,hB,.refl s,by simp,λi r q=>.inl q⟩ ?_;rintro ⟨⟨i,es,_⟩,o⟩ ⟨j,t,B1,B2,B3,hj,h1,h2,h3,h4,h5,h6,h7,h8,h9⟩;simp only at h1 h2 h3 ⊢;subst h1 h3;dsimp only;have SO:=h2.len;rw [aA,dK hj] at SO;refine aw (λhc=>?_) (λhc=>?_)
 .have um:(j:Int)< K.length:=of_decide_eq_true hc;have uH:j< K.length:=by omega
  have ht:K.take (j+1)=K.take j++ [K[j]]:=bU uH;have ek:aK (.int .i64) K (j:Int)=K[j]:=gU (e:=.int .i64) uH;have hkm:=hKm _ (dw uH);rw [ek];generalize K[j]=k at*;obtain ⟨k0,k1,kl,kp⟩:=hkm;refine ⟨by omega,um,λ_=>⟨k0,k1,λ_ _=>⟨by omega,by omega,λ_=>⟨hT,⟨k0,k1,by omega⟩,T,t,h4,rfl,rfl,h5,h6,λC1 C2 C3 u r hW' hM' hP hr _=>⟨by simp only [aD];omega,by simp only [aD];omega,by unfold aF;omega,⟨j+1,u,C1,C2,C3,uH,by omega,?_,rfl,hW',hM',hP.ok,h7.trans hP.le,?_,?_⟩,by omega⟩⟩⟩⟩⟩
  .rw [ht];refine fZ.snoc (h2.le hP.le.Mr) ⟨?_,rfl,hr,trivial⟩;show aK .str _ _=_;unfold aK;rw [aU];rfl
  .rw [ht];intro k' vS y hy YV;rcases aY.1 vS with q| q
   .obtain ⟨r',q'⟩:=h8 k' q y hy YV;exact ⟨r',hP.le.Mr _ _ q'⟩
   .obtain rfl:=aR.1 q;exact hP.cov y hy YV (AH YV)
  .intro i' r' q;rcases hP.new i' r' q with q| ⟨y,q1,q2,q3,q4⟩
   .exact h9 i' r' q
   .exact .inr ⟨y,q1,q2,Gh (by omega) kp q3,by omega⟩
 .have hc:=of_decide_eq_false hc;obtain rfl:j=K.length:=by omega
  rw [eN] at h2 h8;have ail:=hKe h6 h2;have hen:=xd ail;have hBl:=h6.len;have hlL:=h6.lL;refine ⟨⟨ail,by omega⟩,λ_ _=>⟨T,t.RL,t.fL,h4.l,by omega,λA' r fs' hW' hr _ _=>?_⟩⟩;obtain ⟨x',y',e',hT',hm⟩:=h4.l;have hrl:=sa hm;have MY:=hr [];rw [aW] at MY;have hle:=BS.Sq t (gN es) fs';exact h B1 A' B3 {t with RL:=t.RL++gN es,fL:=t.fL++fs'} r es ⟨h4.i,hW',h4.x⟩ h5 ⟨h6.list _ _ (by omega),h7.trans hle,λy q1 q2 q3=>(hKb y q1 q2 q3).elim λk q=>h8 k q.1 y q1 q.2,h9⟩ ail ⟨h2⟩ (Has.new hr) ⟨by omega,by omega⟩ (by omega)
def abf (n:Nat):Vx:= {P:=cd,ct:=[(80,(JI n)),(51,(jL n)),(82,afD),(83,TD),(81,To),(84,JH),(54,AP)],ty:=pg,hold:=[]}
theorem V0 (n:Nat) (hn:cG 51 (jL n)):ir Inv cd (abf n).ct:=ir.cons (Ul n hn) (ir.cons hn (ir.cons akv (ir.cons acu (ir.cons ack (ir.cons vX (ir.cons vW (ir.nil _ _)))))))
abbrev Cw (y0:List (Int×eE.den)) (y1:List bu) (y2:Int):=gd (Kk.get Kk.int y0 (aK noTy y1 y2).2.1) (ah,ah,ah,ah,ah,ah,ah,ah,ah,ah,ByteArray.mk #[],())
abbrev Ia (y0:List bu) (y1:Int) (y2:Int) (y3:Int) (y4:Int) (y5:List (Int×eE.den)):=((aK noTy y0 y1).2.2.1,(aK noTy y0 y1).2.2.2.1.1,y2,y3,(↑(mh y0 (aK noTy y0 y1).2.1):Int),y4,(Cw y5 y0 y1).2.2.2.2.2.2.1,(Cw y5 y0 y1).2.2.2.2.2.2.2.1,(Cw y5 y0 y1).2.2.2.2.2.2.2.2.1,(Cw y5 y0 y1).2.2.2.2.2.2.2.2.2.1,(aK noTy y0 y1).2.2.2.2.2.1,())
abbrev wA {A5:Type} (y0:List bu) (y1:Int) (y2:Int) (y3:Int) (y4:Int) (y5:A5) (y6:List (Ty.den dh)) (y7:List (Int×eE.den)):=((aK noTy y0 y1).2.2.1,(aK noTy y0 y1).2.2.2.1.1,y2,y3,(↑(mh y0 (aK noTy y0 y1).2.1):Int),y4,y5,(a7 (gN y6)),(Cw y7 y0 y1).2.2.2.2.2.2.2.2.1,(Cw y7 y0 y1).2.2.2.2.2.2.2.2.2.1,(aK noTy y0 y1).2.2.2.2.2.1,())
abbrev Mk (y0:Int) (y1:List Int) (y2:List bu) (y3:Int) (R:Prop):=0<=y0->y0< (aE y1)->y1[ax y0]?=some (aK noTy y2 y3).2.2.2.1.2.1->aF .i64 y0->List.Pairwise (λa b=>a< b) y1/\List.length y1<=100000/\ajP y1 (aK noTy y2 y3).2.2.2.1.2.2.1/\R
abbrev Mi (y0:List bu) (y1:Int) (y2:List Int) (R:Prop):=aF .i64 (↑(mh y0 (aK noTy y0 y1).2.1):Int)->List.Pairwise (λa b=>a< b) y2/\List.length y2<=100000/\ajP y2 (aK noTy y0 y1).2.2.2.1.2.1/\R
abbrev Mh (y0:Int) (y1:List Int) (y2:List bu) (y3:Int) (R:Prop):=0<=y0->y0< (aE y1)->y1[ax y0]?=some (aK noTy y2 y3).2.2.2.1.2.2.1->aF .i64 y0->eI (aK noTy y2 y3).2.2.2.2.2.2.1=true/\R
abbrev Mf (y0:Value->Atom) (y1) (y2:List UInt8) (y3:List (List UInt8)) (y4) (y5) (y6:List (ByteArray×Int)) (y7:List (ByteArray×Int)) (R:Prop):=WB y0 y1 y2 y3->(∃ c,y2=y4++c/\List.length c<=4100)->(∃ c,y3=y5++c)->o9 y3 y2 y6->List.length y6<=List.length y7+1->R
abbrev O7 (y0:List bu) (y1) (y2:Int) (y3:List (Ty.den dh)) (y4) (y5) (y6) (R:Prop):=agF y0 y1 (List.length (aK noTy y0 y2).1) (dz (aK noTy y0 y2).1 y0 ah) y3->Has y4 y5 y6 (gN y3)->0<=y6/\y6<=4294967295->List.length (gN y3)<=10440->aF .i64 y6->aF .i64 (a7 (gN y3))->(0<=y2/\y2< (aE y0))/\List.length y0<=1100/\R
abbrev Cq (y0:Value->Atom) (y1) (y2) (y3) (y4:List (ByteArray×Int)) (R:Prop):=WB y0 y1 y2 y3/\o9 y3 y2 y4/\List.length y2<=1000000/\List.length y4<=100000/\R
abbrev Cj (y0:Nat):SV:=.v (.c (.k (.int .i64 (↑y0:Int))))
abbrev OY (y0:List bu) (y1:Int) (y2:Nat):=List.Mem (gM y0 y1) y0/\(gM y0 y1).2.2.1=(1:Ty.den bF)/\16<=List.length (gM y0 y1).1+y2
abbrev Ci (y0:List (Int×Int)) (y1:List bu) (y2:Int) (y3:Nat):=Kk.put Kk.int y0 (gM y1 y2).2.1 (↑y3:Int)
abbrev Cg (y0:List (List UInt8)) (y1:List UInt8) (y2:Int) (y3:List bu) (y4:Int) (R:Prop):=VW y0 y1 y2 (gM y3 y4).2.2.2.2.2.2.1->aF .i64 y2->R
def FA (n:Nat) (k:Int) (L:List bu) (ids:List Int) (A1 A2 A3:Value->Atom) (Mr:(List (Int×Int))) (F:(List (Int×eE.den))) (Ms:(List (ByteArray×Int))):dE:=λQ=>aF .i64 k->0<=k/\k< (aE L)/\(Ty.ok noTy (gM L k)->Ty.ok bF (gd (Kk.get Kk.int Mr (gM L k).2.1) ah)->br (Option.isSome (Kk.get Kk.int Mr (gM L k).2.1)) (Q (.v (.c (.k 
 (.int .i64 (gd (Kk.get Kk.int Mr (gM L k).2.1) ah))))) [wD L ids,HO.abs A1,HO.abs A2,HO.abs A3,wB Mr,wC F,kO Ms]) ((Ty.ok eE (Cw F L k)->br ((gM L k).2.2.1==1) (ue L ids F/\(OY L k n)/\∃ T s, 
 Ws A1 A2 A3 T s/\Cb Mr s.Mr Ms s.Ms L ids F s (∀ (A1' A2' A3':Value->Atom) (t:BS) (r:Int) (es:List (Ty.den dh)),Ws A1' A2' A3' T t->List.length t.Ms<=List.length t.Mr->Hu L ids F s t bJ (gM L k).1 (List.length 
 (gM L k).1+1)->iG ⟨#[]⟩ es->O7 L t.Mr k es t.fL t.RL r (Mi L k ids (∀ (i:Int),Mk i ids L k (∀ (du:Int),Mh du ids L k (∃ T RX fX,Cq A3' T RX fX t.Ms (∀ (A3':Value->Atom) (Ay:List UInt8) (Aw:List 
 (List UInt8)) (zo:List (ByteArray×Int)) (xa:Int),Mf A3' T Ay Aw RX fX zo t.Ms (Cg Aw Ay xa L k (oO (wA L k i du xa r es F)/\(List.length (fK (wA L k i du xa r es F))<=9223372036854775807->aF .i64 0->∃ T 
 R fs,WB A1' T R fs/\List.length R+List.length (fK (wA L k i du xa r es F))<=10000000/\∀ (A':Value->Atom) (r_1:Nat) (fs':List (List UInt8)),WB A' T (R++fK (wA L k i du xa r es F)) (fs++fs')->(∀ (gs:List 
 (List UInt8)),r_1=dU (fs++gs) (bO R))->aF .i64 (↑r_1:Int)->l8 t.Mr (Q (Cj r_1) [wD L ids,HO.abs A',HO.abs A2',HO.abs A3',wB (Ci t.Mr L k r_1),wC F,kO zo]))))))))))) ((0<=k/\k< (aE L))/\ 
 List.length L<=1100/\(Mi L k ids (∀ (i:Int),Mk i ids L k (∀ (du:Int),Mh du ids L k (∃ T RX fX,Cq A3 T RX fX Ms (∀ (A3':Value->Atom) (Ay:List UInt8) (Aw:List (List UInt8)) (zo:List (ByteArray×Int)) (xa: 
 Int),Mf A3' T Ay Aw RX fX zo Ms (Cg Aw Ay xa L k (oO (Ia L k i du xa F)/\(List.length (fK (Ia L k i du xa F))<=9223372036854775807->aF .i64 0->∃ T R fs,WB A1 T R fs/\List.length R+List.length (fK (Ia L 
 k i du xa F))<=10000000/\∀ (A':Value->Atom) (r:Nat) (fs':List (List UInt8)),WB A' T (R++fK (Ia L k i du xa F)) (fs++fs')->(∀ (gs:List (List UInt8)),r=dU (fs++gs) (bO R))->aF .i64 (↑r:Int)->List.length 
 Mr< 9223372036854775807/\Q (Cj r) [wD L ids,HO.abs A',HO.abs A2,HO.abs A3',wB (Ci Mr L k r),wC F,kO zo]))))))))))/\(Ty.ok eE (Cw F L k)->br ((gM L k).2.2.1==1) (ue L ids F/\(OY L k n)/\∃ T s,Ws 
 A1 A2 A3 T s/\Cb Mr s.Mr Ms s.Ms L ids F s (∀ (A1' A2' A3':Value->Atom) (t:BS) (r:Int) (es:List (Ty.den dh)),Ws A1' A2' A3' T t->List.length t.Ms<=List.length t.Mr->Hu L ids F s t bJ (gM L k).1 (List.length 
 (gM L k).1+1)->iG ⟨#[]⟩ es->O7 L t.Mr k es t.fL t.RL r (Mi L k ids (∀ (i:Int),Mk i ids L k (∀ (du:Int),Mh du ids L k (∃ T RX fX,Cq A3' T RX fX t.Ms (∀ (A3':Value->Atom) (Ay:List UInt8) (Aw:List 
 (List UInt8)) (zo:List (ByteArray×Int)) (xa:Int),Mf A3' T Ay Aw RX fX zo t.Ms (Cg Aw Ay xa L k (oO (wA L k i du xa r es F)/\(List.length (fK (wA L k i du xa r es F))<=9223372036854775807->aF .i64 0->∃ T 
 R fs,WB A1' T R fs/\List.length R+List.length (fK (wA L k i du xa r es F))<=10000000/\∀ (A':Value->Atom) (r_1:Nat) (fs':List (List UInt8)),WB A' T (R++fK (wA L k i du xa r es F)) (fs++fs')->(∀ (gs:List 
 (List UInt8)),r_1=dU (fs++gs) (bO R))->aF .i64 (↑r_1:Int)->l8 t.Mr (Q (Cj r_1) [wD L ids,HO.abs A',HO.abs A2',HO.abs A3',wB (Ci t.Mr L k r_1),wC F,kO zo]))))))))))) ((0<=k/\k< (aE L))/\ 
 List.length L<=1100/\(Mi L k ids (∀ (i:Int),Mk i ids L k (∀ (du:Int),Mh du ids L k (∃ T RX fX,Cq A3 T RX fX Ms (∀ (A3':Value->Atom) (Ay:List UInt8) (Aw:List (List UInt8)) (zo:List (ByteArray×Int)) (xa: 
 Int),Mf A3' T Ay Aw RX fX zo Ms (Cg Aw Ay xa L k (oO (Ia L k i du xa F)/\(List.length (fK (Ia L k i du xa F))<=9223372036854775807->aF .i64 0->∃ T R fs,WB A1 T R fs/\List.length R+List.length (fK (Ia L 
 k i du xa F))<=10000000/\∀ (A':Value->Atom) (r:Nat) (fs':List (List UInt8)),WB A' T (R++fK (Ia L k i du xa F)) (fs++fs')->(∀ (gs:List (List UInt8)),r=dU (fs++gs) (bO R))->aF .i64 (↑r:Int)->List.length 
 Mr< 9223372036854775807/\Q (Cj r) [wD L ids,HO.abs A',HO.abs A2,HO.abs A3',wB (Ci Mr L k r),wC F,kO zo]))))))))))))
theorem Ow (n:Nat) (hn:cG 51 (jL n)):∀ args H Q,jL (n+1) args H Q->Wp Inv cd 51 args H Q:=by
 intro args H Q h;unfold jL at h;split at h;rotate_left;cases h;rename_i k L ids A1 A2 A3 Mr F Ms;refine Wp.P1 (X:=(abf n)) (V0 n hn) ⟨[],[]⟩ (fn:=Tryz.f51) (V:=FA n k L ids A1 A2 A3 Mr F Ms) (by kernel_rfl) (λ_=>by kernel_rfl) ?_;unfold FA Cb Cg Ci OY Cj gM l8 Cq O7 Mf Mh Mi bO Mk wA Ia Cw ah a7 aE bD bJ wD wC wB kO bF;obtain ⟨hT,⟨k0,k1,kn⟩,T,s,hW,rfl,rfl,hM,hB,h⟩:=h;have hl:=hT.len;have hx:aK noTy L k∈L:=uF (e:=noTy) k0 k1;have hd:=hT.deep _ hx;have hm:=yH (hT.may _ hx);have hil:=hT.idl;have hBl:=hB.len;have hBI:=hB.lI;have hBX:=hB.lX;refine λ_=>⟨k0,k1,λ_ _=>aw (λhg=>?_) (λhg=>both λ_=>aw (λhk=>?_) (λhk=>?_))⟩
 .obtain ⟨v,hv⟩:∃ v:Int,Kk.get .int s.Mr (aK noTy L k).2.1=some v:=lR.1 hg;rw [hv,show (some v).getD 0=v from rfl];exact h A1 A2 A3 s v hW hM ⟨hB,.refl s,λy q1 q2 q3=>hB.cov hT (y.1.length - (aK noTy L k).1.length) hx ⟨_,hv⟩ q1 q2 (by omega),λi r q=>.inl q⟩ hv
 .have Vk:Kk.get .int s.Mr (aK noTy L k).2.1=none:=by simpa using hg
  have tV:(aK noTy L k).2.2.1=1:=eq_of_beq hk;have hnf:=hT.nofile _ hx (by rw [tV];decide);refine ⟨hT,⟨hx,tV,by omega⟩,T,s,hW,rfl,rfl,hM,hB,λA1' A2' A3' t r es hW' hM' hP hE hEm hHs ak5 hEl _ _=>?_⟩;have hBl:=hP.ok.len;have hBI:=hP.ok.lI;have hBX:=hP.ok.lX;have kB:Kk.get .int t.Mr (aK noTy L k).2.1=none:=by
   rw [Option.eq_none_iff_forall_not_mem];intro v hv;rcases hP.new _ _ hv with q| ⟨y,q1,q2,q3,q4⟩;rw [Vk] at q;cases q
   .have:=(hT.one _ hx y q1 q2.symm).1 tV;rw [<-this] at q4;omega
  obtain ⟨⟨iu',hu'⟩,⟨ig',hg'⟩⟩:=hT.uid _ hx;refine ⟨⟨k0,k1⟩,by omega,λ_=>⟨hT.V7,by omega,⟨⟨_,hu'⟩⟩,λiu iu0 _ iu2 _=>⟨hT.V7,by omega,⟨⟨_,hg'⟩⟩,λig ig0 _ ig2 _=>⟨hm.xa,T,t.RX,t.fX,hW'.x,hP.ok.acK,by omega,by omega,λA3' Ay Aw zo xa hX1 hX2 hX3 hX4 hX5 hX6 _=>?_⟩⟩⟩⟩;have hN:=Yq hT hx tV (s:= {t with RX:=Ay,fX:=Aw,Ms:=zo}) iu0 iu2 ig0 ig2 hX6 hE hEm.ok hHs ak5 hEl;rw [hnf];dsimp only [gd];have hrl:=H8 hN.ok;refine ⟨hN.ok,λ_ _=>⟨T,t.RI,t.fI,hW'.i,by omega,λA' r1 fs' hW2 vR _=>⟨by omega,?_⟩⟩⟩;obtain ⟨x1,x2,_,_,hmw⟩:=hW'.i;have hq:=sa hmw;have MY:=vR [];rw [aW] at MY;obtain ⟨hBu,hLu⟩:=hP.ok.put (by omega) k0 k1 kB hX2 hX3 hX4 (fs:=fs') vR (by omega) (λo=>B4 hmw) hN;have J1:(Kk.put .int t.Mr (aK noTy L k).2.1 (r1:Int):List (Int×Int)).length=t.Mr.length+1:=pw kB;have zT:Kk.get .int (Kk.put .int t.Mr (aK noTy L k).2.1 (r1:Int):List (Int×Int)) (aK noTy L k).2.1=some (r1:Int):=gh (k:=.int);exact h A' A2' A3' (t.put (aK noTy L k).2.1 r1 _ fs' Ay Aw zo) r1 ⟨hW2,hW'.l,hX1⟩ (by show zo.length<=(Kk.put .int t.Mr (aK noTy L k).2.1 (r1:Int):List (Int×Int)).length;rw [J1];omega) ⟨hBu,hP.le.trans hLu,λy q1 q2 q3=>hBu.cov hT (y.1.length - (aK noTy L k).1.length) hx ⟨_,zT⟩ q1 q2 (by omega),λi r q=>by
   by_cases hi:i=(aK noTy L k).2.1;exact .inr ⟨_,hx,hi.symm,sG _,ay _⟩
   .have q:Kk.get .int (Kk.put .int t.Mr (aK noTy L k).2.1 (r1:Int):List (Int×Int)) i=some r:=q;rw [jI (k:=.int) hi] at q;exact (hP.new i r q).imp_right λ⟨y,q1,q2,q3,q4⟩=>⟨y,q1,q2,q3,by omega⟩⟩ zT
 .have Vk:Kk.get .int s.Mr (aK noTy L k).2.1=none:=by simpa using hg
  rcases hm.or with ⟨q,_⟩| ⟨qP,_⟩| ⟨hk3,_⟩;rw [q] at hk;cases hk
  .obtain ⟨st,fr,off,hF1,hF2⟩:=hT.file _ hx qP;obtain ⟨⟨iu',hu'⟩,⟨ig',hg'⟩⟩:=hT.uid _ hx;refine ⟨⟨k0,k1⟩,by omega,λ_=>⟨hT.V7,by omega,⟨⟨_,hu'⟩⟩,λiu iu0 _ iu2 _=>⟨hT.V7,by omega,⟨⟨_,hg'⟩⟩,λig ig0 _ ig2 _=>⟨hm.xa,T,s.RX,s.fX,hW.x,hB.acK,by omega,by omega,λA3' Ay Aw zo xa hX1 hX2 hX3 hX4 hX5 hX6 _=>?_⟩⟩⟩⟩;have hN:=U1 hT hx qP (s:= {s with RX:=Ay,fX:=Aw,Ms:=zo}) iu0 iu2 ig0 ig2 hX6 hF1 hF2;rw [hF1];dsimp only [gd];have hrl:=H8 hN.ok;refine ⟨hN.ok,λ_ _=>⟨T,s.RI,s.fI,hW.i,by omega,λA' r1 fs' hW2 vR _=>⟨by omega,?_⟩⟩⟩;obtain ⟨x1,x2,_,_,hmw⟩:=hW.i;have hq:=sa hmw;have MY:=vR [];rw [aW] at MY;obtain ⟨hBu,hLu⟩:=hB.put (by omega) k0 k1 Vk hX2 hX3 hX4 (fs:=fs') vR (by omega) (λo=>B4 hmw) hN;have J1:(Kk.put .int s.Mr (aK noTy L k).2.1 (r1:Int):List (Int×Int)).length=s.Mr.length+1:=pw Vk;have zT:Kk.get .int (Kk.put .int s.Mr (aK noTy L k).2.1 (r1:Int):List (Int×Int)) (aK noTy L k).2.1=some (r1:Int):=gh (k:=.int);exact h A' A2 A3' (s.put (aK noTy L k).2.1 r1 _ fs' Ay Aw zo) r1 ⟨hW2,hW.l,hX1⟩ (by show zo.length<=(Kk.put .int s.Mr (aK noTy L k).2.1 (r1:Int):List (Int×Int)).length;rw [J1];omega) ⟨hBu,hLu,λy q1 q2 q3=>hBu.cov hT (y.1.length - (aK noTy L k).1.length) hx ⟨_,zT⟩ q1 q2 (by omega),λi r q=>by
    by_cases hi:i=(aK noTy L k).2.1;exact .inr ⟨_,hx,hi.symm,sG _,ay _⟩
    .have q:Kk.get .int (Kk.put .int s.Mr (aK noTy L k).2.1 (r1:Int):List (Int×Int)) i=some r:=q;rw [jI (k:=.int) hi] at q;exact .inl q⟩ zT
  .have hnf:=hT.nofile _ hx (by rw [hk3];decide);obtain ⟨⟨iu',hu'⟩,⟨ig',hg'⟩⟩:=hT.uid _ hx;refine ⟨⟨k0,k1⟩,by omega,λ_=>⟨hT.V7,by omega,⟨⟨_,hu'⟩⟩,λiu iu0 _ iu2 _=>⟨hT.V7,by omega,⟨⟨_,hg'⟩⟩,λig ig0 _ ig2 _=>⟨hm.xa,T,s.RX,s.fX,hW.x,hB.acK,by omega,by omega,λA3' Ay Aw zo xa hX1 hX2 hX3 hX4 hX5 hX6 _=>?_⟩⟩⟩⟩;have hN:=U0 hT hx hk3 (s:= {s with RX:=Ay,fX:=Aw,Ms:=zo}) iu0 iu2 ig0 ig2 hX6;rw [hnf];dsimp only [gd];have hrl:=H8 hN.ok;refine ⟨hN.ok,λ_ _=>⟨T,s.RI,s.fI,hW.i,by omega,λA' r1 fs' hW2 vR _=>⟨by omega,?_⟩⟩⟩;obtain ⟨x1,x2,_,_,hmw⟩:=hW.i;have hq:=sa hmw;have MY:=vR [];rw [aW] at MY;obtain ⟨hBu,hLu⟩:=hB.put (by omega) k0 k1 Vk hX2 hX3 hX4 (fs:=fs') vR (by omega) (λo=>B4 hmw) hN;have J1:(Kk.put .int s.Mr (aK noTy L k).2.1 (r1:Int):List (Int×Int)).length=s.Mr.length+1:=pw Vk;have zT:Kk.get .int (Kk.put .int s.Mr (aK noTy L k).2.1 (r1:Int):List (Int×Int)) (aK noTy L k).2.1=some (r1:Int):=gh (k:=.int);exact h A' A2 A3' (s.put (aK noTy L k).2.1 r1 _ fs' Ay Aw zo) r1 ⟨hW2,hW.l,hX1⟩ (by show zo.length<=(Kk.put .int s.Mr (aK noTy L k).2.1 (r1:Int):List (Int×Int)).length;rw [J1];omega) ⟨hBu,hLu,λy q1 q2 q3=>hBu.cov hT (y.1.length - (aK noTy L k).1.length) hx ⟨_,zT⟩ q1 q2 (by omega),λi r q=>by
    by_cases hi:i=(aK noTy L k).2.1;exact .inr ⟨_,hx,hi.symm,sG _,ay _⟩
    .have q:Kk.get .int (Kk.put .int s.Mr (aK noTy L k).2.1 (r1:Int):List (Int×Int)) i=some r:=q;rw [jI (k:=.int) hi] at q;exact .inl q⟩ zT
theorem Ky:∀ (n:Nat) args H Q,jL n args H Q->Wp Inv cd 51 args H Q
 | 0=>by
  intro args H Q h;unfold jL at h;split at h
  .obtain ⟨hT,⟨k0,k1,k2⟩,_⟩:=h;have:=hT.deep _ (uF (e:=noTy) k0 k1);omega
  .cases h
 | n+1=>Ow n (Ky n)
def VM:Ct:=jL 17
theorem Uk:cG 51 VM:=Ky 17
end Go.Proofs

