/- Texts of mine, laid together: I17 LmZn I18 I19 LmYb LmYc LmYd LmYe LmYf LmYg LmYh LmYi LmYo LmYn LmYq LmYr LmYs LmYt LmYu LmZo LmZp LmZq ShelfJ T1 T2 T3 T4 Cmp LmVze Srt C1 C2 D1. -/
import Derived.Test.YthjbdgokcljocaaGreatDoorQ5
import Derived.Test.YthjbdgokcljocaaGreatDoorQ4
import Derived.Test.YthjbdgokcljocaaGreatDoorProg
import Derived.Test.YthjbdgokcljocaaGreatDoorChecked
import Derived.Test.YthjbdgokcljocaaGreatDoorQ3
import Derived.Sort.Walk0
import Derived.Shelf.Strings.Builder1
import Derived.Shelf.Strings.Builder2
import Derived.Shelf.Strings.OnBuilder
import Derived.Shelf.Small.Bits
import Derived.Shelf.Small.Strs
import Derived.Shelf.Strings.BuilderF
import Derived.Shelf.Strings.BuilderK
import Derived.Shelf.Strings.Builder2Cap
import Derived.Shelf.Strconv.Itoa0
import Derived.Shelf.Strings.Search1
import Derived.Shelf.Sort.Plain
import Derived.Shelf.Strings.BuilderCap
import Derived.Ground.Names2Prog
import Derived.Shelf.Slices.Clone
import Derived.Shelf.Slices.In.SortNone
import Derived.Shelf.Bytes.SlSearch0
import Derived.Ground.SlbCloneProg
import Derived.Shelf.Bytes.SlClone
import Derived.Ground.SlsfProg
import Derived.Shelf.SlSortCmp.Insertion
import Derived.Shelf.Bytes.SlEqualAll
import Derived.Shelf.Bytes.Small
import Derived.Sort.Grow
import Derived.Deep.Draws
import Derived.Shelf.Lay
import Derived.Lib.Walk
import Derived.Handy
import Derived.Deep.LoopGhost
import Derived.Shelf.SlSortCmp.InsertionK
import Derived.Shelf.SlSortCmp.WholeK
import Derived.Shelf.SlSortCmp.NoneTotal
set_option linter.unusedVariables false
open Array renaming getElem?_eq_some_iff → aQ, getElem?_eq_getElem → cL, length_toList → dw, getElem?_toList → eS, getElem?_modify → jb, getElem?_append_left → ka
open Bool renaming and_eq_true → ao, not_eq_true' → bG, false_eq_true → dP, false_and → gO, false_or → jE, true_and → pr
open Int renaming toNat → aA, toNat_natCast → bm, le_refl → bp, tdiv → gr, natCast_nonneg → jD, toNat_of_nonneg → nG
open Go.IntKind renaming signed → eI, bits → ij, max → ku
open List renaming length_append → af, getElem?_eq_getElem → ak, length_cons → aq, replicate → au, getElem?_eq_some_iff → av, length_singleton → ay, length_take → aD, mem_cons_of_mem → aG, append_assoc → aH, eq_nil_of_length_eq_zero → aK, length_nil → aL, mem_map → aM, getD_eq_getElem?_getD → aP, mem_singleton → aR, mem_cons_self → aS, getElem?_append_left → aU, take_of_length_le → aV, length_drop → aW, mem_cons → aX, mem_append → aY, getElem?_append_right → aZ, append_nil → a7, all_eq_true → bo, flatten_cons → bF, length_map → bL, drop_eq_getElem_cons → bO, range → bP, take_append_drop → bY, take_succ_eq_append_getElem → bZ, map_cons → cg, getElem?_map → cz, pairwise_iff_getElem → da, getElem_mem → df, mem_range → dm, getElem?_eq_none → dy, drop_append_of_le_length → dz, mem_iff_getElem → dH, getElem?_take → dO, cons_append → eB, nodup_cons → eD, map_append → eR, flatten_append → eT, drop_eq_nil_of_le → eZ, take_length → ff, nodup_append → fm, pairwise_cons → fA, drop_left → fB, mem_filter → fQ, take_take → fR, map_congr_left → gH, drop_drop → iC, pairwise_map → iZ, mem_append_right → ja, find?_eq_none → jC, filter_eq_self → kr, take_append_of_le_length → lV, drop_take → pJ
open Nat renaming le_refl → az, zero_add → cd, zero_le → cr, le_of_ble_eq_true → cK, min_eq_left → eP, lt_or_ge → eQ, add_mul → fj, blt → gx, mul_le_mul_right → hZ, zero_lt_succ → iL, add_zero → j4, lt_trichotomy → ko, mod_eq_of_lt → lU, sub_self → pq
open Option renaming getD → gl, map_some → lu, isSome_iff_exists → lT
open Option.some renaming inj → aj, injEq → km
open Go.Proofs.Tryz renaming prog → ck, underlying3 → o5
open UInt8 renaming ofNat → ax, toNat → cF
noncomputable section
namespace Go.Proofs
open Go Go.Lm Go.RowKit
set_option maxRecDepth 1000000
def aam:Ct:=cD (Ty.sl .u8) λl=>cI λn=>c0 λQ=>1<=n/\Q (.c (.fn 228 [.p 0 0,.p 1 0])) [.cells 129 [.d (.sl .u8) l],.cells 3 [.k (.int .i64 n)]]
def aa2:=aa3.add acf
def Fw (l:(List ((Ty.sl .u8)).den)) (n:Int):dE:=λQ=>List.length l<=9223372036854775807->aI .i64 n->br (decide (n< 1)) False (Q (SV.v (S1.c (Cl.fn (228:Nat) [.p 0 0,.p 1 0]))) [.cells 129 [Cl.d bD l],.cells 3 [.k (aE n)]])
theorem Xd:cM 198 aam:=fe<| kC λl=>nK λn=>iB λQ h=>by
 refine Wp.dL aa2 cQ ⟨[],[]⟩ Tryz.f198 (Fw l n) ?_;unfold Fw aE bD;obtain ⟨hn,h⟩:=h;exact λ_ _=>aw (λhc=>absurd (of_decide_eq_true hc) (by omega)) (λ_=>h)
def aeq:Ct:=cP<| cI λr=>cO λH Q=>match H with
 | [.abs A]=>∃ fs R,RB A fs R/\∃ o:Nat,o<=R.length/\r=(dV fs o:Int)/\∃ (l:List uT) (q:List UInt8),dI l=true/\l≠ []/\R.drop o=xsB l++q/\∀ A',RB A' fs R->Q (.cZ [.c (.d dJ l),.c (.k (.int .i64 0))]) [.abs A']
 | _=>False
def QK:=aa2.add Xd
abbrev B8 {A1:Type} (y0) (y1:List A1):=List.take bj (List.drop (y0*2) y1)
abbrev It (y0) (y1):=(gk (aB bD (B8 y0 y1) ah),aB bD (B8 y0 y1) a8,())
def KH (r:Int) (A:Value->Atom):dE:=λQ=>aI .i64 r->∃ fs R,RB A fs R/\∃ o,o<=List.length R/\r=(↑(dV fs o):Int)/\(ah<=a8/\a8<=(10000000:Int))/\∀ (A':Value->Atom) (z:List UInt8) (nx e:Int),RB A' fs R->pn fs R o bJ z nx e-> 
 db z (cn nx e (br (e !=0) (Q sG [HO.abs A']) (ah<=ah/\ah< (aF z)/\(kV z (br ((fO z)==0) (Q sG [HO.abs A']) (ah<=ah/\ah< (aF z)/\(kV z (br (decide ((fO z)>iA)) (Q sG 
 [HO.abs A']) (ah<=ah/\ah< (aF z)/\(kV z (aI .i64 (du*(fO z))/\∃ fs R,RB A' fs R/\∃ o,o<=List.length R/\nx=(↑(dV fs o):Int)/\∃ ts q,List.drop o R=gu ts++q/\(∀ (t:List UInt8),t∈ts-> 
 List.length t<=255)/\du*(fO z)=(aF ts)/\List.length ts<=100/\∀ (A':Value->Atom),RB A' fs R->aN (bQ ts)->aI .i64 0->a8<=du/\(a8<=du/\du<=(1000000000:Int))/\List.length ts<=1000000000000/\ 
 ba (λi ag=>br (gx (i.1*2) (bQ ts)) (ah<=ah/\ah< (a6 (B8 i.1 ts))/\(Ty.ok bD (aB bD (B8 i.1 ts) ah)->ah<=a8/\a8< (a6 (B8 i.1 ts))/\(Ty.ok bD (aB bD (B8 i.1 ts) a8) 
 ->(List.length i.2.2.1.1+List.length [(It i.1 ts)])*40<=cC/\List.length i.2.2.1.1+List.length [(It i.1 ts)]<=9223372036854775807/\ag (i.1+1,(),(i.2.2.1.1++ [(It i.1 ts)],()),())))) (br (!dI i.2.2.1.1) (Q 
 sG [HO.abs A']) (Q (SV.cZ [S1.c (.o 1),.c (.k bn)]) [HO.abs A',HO.held (96:TypeId) dJ i.2.2.1.1]))) (bC,(),([],()),()))))))))))))
theorem QP:cM 149 aeq:=fe<| rK<| nK λr=>rM λH Q h=>by
 split at h;rotate_left;cases h;rename_i A;refine Wp.lY [some (.sl dJ),none] [1] ?_;refine Wp.Qe (X:=QK.v cQ [180] (chk:=aej)) QK.ok ⟨[(10,⟨[],[(1,.cells 36 [.own 96 dJ])]⟩)],[]⟩ (fn:=Tryz.f149) (V:=KH r A) (by kernel_rfl) (λ_=>by kernel_rfl) ?_ (hch:=Tk);unfold KH kV It db sG cn B8 bQ cC cA bn fO ah a8 du iA a6 aF aN bC bJ bj bD;obtain ⟨fs,R,hR,o,ho,rfl,l,q,hx,gD,hd,h⟩:=h;obtain ⟨hm,hl8⟩:=o7 hx;have hle:=Hu hm;have hn0:=List.length_pos_iff.2 gD;have hd:R.drop o=ax l.length::(gu (pt l)++q):=by rw [hd];unfold xsB;rw [show aJ 1 l.length= [ax (l.length % 256)] from rfl,lU (by omega)];rfl
 have hRl:=congrArg List.length hd;rw [aW,aq] at hRl;refine λ_=>⟨fs,R,hR,o,ho,rfl,⟨by decide,by decide⟩,λA' z nx e hR hz _ _ _=>?_⟩;obtain ⟨rfl,rfl,rfl⟩:=hz.ok (by omega);rw [hd];have hu:(aB .u8 (List.take 1 (ax l.length::(gu (pt l)++q))) 0).toNat=l.length:=XI (by omega);have h1:(List.take 1 (ax l.length::(gu (pt l)++q))).length=1:=rfl;rw [hu,h1];refine aw (λhc=>by cases hc) (λ_=>⟨by decide,by decide,λ_=>aw (λhc=>?_) (λ_=>⟨by decide,by decide,λ_=>aw (λhc=>?_) (λ_=>⟨by decide,by decide,λ_=>⟨by unfold aI;omega,fs,R,hR,o+1,by omega,rfl,pt l,q,?_,hle,?_,?_,λA' hR _ _=>⟨by decide,?_⟩⟩⟩)⟩)⟩)
 .have hc:(l.length:Int)=0:=eq_of_beq hc;omega
 .have hc:(l.length:Int)>8:=of_decide_eq_true hc;omega
 .rw [<-iC,hd];rfl
 .rw [od];omega
 .rw [od];omega
 refine ⟨⟨by decide,by decide⟩,by rw [od];omega,ba.intro (λi=>i.1<=l.length/\i.2.2.1.1=l.take i.1) (λi=>l.length - i.1) ⟨cr _,rfl⟩ ?_⟩;rintro ⟨k,_,⟨out,_⟩,_⟩ ⟨hk,ho⟩;simp only at hk ho ⊢;subst ho;rw [od];refine aw (λhc=>?_) (λhc=>?_)
 .have eJ:k< l.length:=by have:=cK hc;omega
  have hp:=Er eJ;rw [hp];have e2:l.take k++ [(gk (l[k]).1.data.toList,(l[k]).2.1,())]=l.take (k+1):=by
   rw [zg,bZ eJ]
  refine ⟨by decide,by show (0:Int)< 2;decide,λ_=>⟨by decide,by show (1:Int)< 2;decide,λ_=>⟨?_,?_,⟨eJ,e2⟩,by omega⟩⟩⟩;rw [aD,ay];omega;rw [aD,ay];omega
 .have hge:l.length<=k:=by
   rcases eQ k l.length with z| z
   .have:gx (k*2) (2*l.length)=true:=Nat.ble_eq_true_of_le (by omega);rw [this] at hc;cases hc
   .exact z
  rw [aV hge,hx];exact aw (λq=>by cases q) (λ_=>⟨by show 1<=2;decide,h A' hR⟩)
end Go.Proofs

namespace Go.Lm
open Go
def zh (b:List UInt8):List UInt8:=if (b.dropWhile (· ==0)).length=0 then [] else b
theorem aau (b:List UInt8):(zh b).length<=b.length:=by unfold zh;split<;>simp
theorem aas {b:List UInt8} (h:(((b.dropWhile (· ==0)).length:Int)==0)=true):zh b= []:=by
 have:=eq_of_beq h;unfold zh;rw [if_pos (by omega)]
theorem aat {b:List UInt8} (h:(((b.dropWhile (· ==0)).length:Int)==0)=false):zh b=b:=by
 unfold zh;rw [if_neg];intro e;rw [e] at h;cases h
theorem alY {b:List UInt8} (h:(b.dropWhile (· ==0)).length=0):b=au b.length 0:=by
 induction b with
 | nil=>rfl
 | cons z r ih=>
  by_cases hz:z=0
  .subst hz;rw [List.dropWhile_cons_of_pos (by decide)] at h;rw [aq,List.replicate_succ,<-ih h]
  .rw [List.dropWhile_cons_of_neg (by simpa using hz)] at h;cases h
theorem V1 {b:List UInt8}:(zh b= []/\b=au b.length 0)\/(zh b=b):=by
 unfold zh;split
 .rename_i h;exact .inl ⟨rfl,alY h⟩
 .exact .inr rfl
structure zr (T:List Int) (x:List UInt8) (fs:List (List UInt8)):Prop where
 fr:∀ (k:Nat) z,fs[k]?=some z->DK T (zh (lf x k)) z
theorem zr.nil (T:List Int) (x:List UInt8):zr T x []:=⟨λ_ _ h=>by simp at h⟩
theorem zr.step {T:List Int} {x z:List UInt8} {fs:List (List UInt8)} (h:zr T x fs) (hz:DK T (zh (lf x fs.length)) z):zr T x (fs++ [z]):=⟨λk q hk=>by
 rcases eQ k fs.length with hl| hl
 .rw [aU hl] at hk;exact h.fr k q hk
 .rw [aZ hl] at hk;have eJ:=(av.1 hk).1;rw [ay] at eJ;obtain rfl:k=fs.length:=by omega
  rw [pq] at hk;obtain rfl:z=q:=by simpa using hk
  exact hz⟩
theorem zr.len {T:List Int} {x:List UInt8} {fs:List (List UInt8)} (h:zr T x fs):3*fs.length<=fs.flatten.length/\fs.flatten.length<=135*fs.length:=by
 have key:∀ n:Nat,n<=fs.length->3*n<=fD fs n/\fD fs n<=135*n:=by
  intro n
  induction n with
  | zero=>intro _;exact ⟨cr _,az _⟩
  | succ n ih=>
   intro hn;have:=ih (by omega);have hf:=(h.fr n fs[n] (ak (by omega))).len;have hb:=aau (lf x n);rw [re] at hb;rw [n9 (by omega)];omega
 have:=key fs.length (az _);rw [qn] at this;exact this
theorem V2 {x:List UInt8} {n k:Nat} (h:k< n):lf (x.take (128*n)) k=lf x k:=by
 unfold lf;rw [pJ,fR,eP (by omega)]
structure T7 (T:List Int) (b:List UInt8) (o:Nat) (x:List UInt8):Prop where
 ex:∃ fs r,fs.length=x.length / 128/\zr T x fs/\b.drop o=fs.flatten++r/\o<=b.length
theorem T7.app {T:List Int} {b:List UInt8} {o:Nat} {x:List UInt8} (h:T7 T b o x) (c:List UInt8):T7 T (b++c) o x:=by
 obtain ⟨fs,r,h1,h2,h3,h4⟩:=h;exact ⟨fs,r++c,h1,h2,by rw [dz h4,h3,aH],by rw [af];omega⟩
structure DW (first:Int) (b:List UInt8) (M:List (ByteArray×Int)):Prop where
 all:∀ p∈M,∃ o:Nat,p.2=first+o/\∃ r,b.drop o=p.1.data.toList++r/\o<=b.length
theorem DW.app {first:Int} {b:List UInt8} {M:List (ByteArray×Int)} (h:DW first b M) (c:List UInt8):DW first (b++c) M:=⟨λp hp=>by
 obtain ⟨o,h1,r,h2,h3⟩:=h.all p hp;exact ⟨o,h1,r++c,by rw [dz h3,h2,aH],by rw [af];omega⟩⟩
theorem DW.put {first:Int} {b c:List UInt8} {M:List (ByteArray×Int)} (h:DW first b M):DW first (b++c) (Kk.put .str M (gk c) (first+b.length)):=⟨λp hp=>by
 rcases aX.1 hp with rfl| hp;exact ⟨b.length,rfl,[],by rw [fB,tm,a7],by rw [af];omega⟩
 .exact (h.app c).all p (fQ.1 hp).1⟩
theorem DW.get {first:Int} {b c:List UInt8} {M:List (ByteArray×Int)} (h:DW first b M) {v:Int} (hg:Kk.get .str M (gk c)=some v):∃ o:Nat,v=first+o/\∃ r,b.drop o=c++r/\o<=b.length:=by
 have:=h.all _ (oN (κ:=ByteArray) hg);rw [tm] at this;exact this
structure zq (T:List Int) (first:Int) (b:List UInt8) (st:Int) (x:List UInt8):Prop where
 or:(x.length< 128/\st=0)\/(128<=x.length/\∃ o:Nat,st=first+o/\T7 T b o x)
theorem zq.app {T:List Int} {first:Int} {b:List UInt8} {st:Int} {x:List UInt8} (h:zq T first b st x) (c:List UInt8):zq T first (b++c) st x:=⟨by
 rcases h.or with h| ⟨h1,o,h2,h3⟩;exact .inl h
 .exact .inr ⟨h1,o,h2,h3.app c⟩⟩
structure En (T:List Int) (im:List UInt8) (st:Int) (x:List UInt8) (fs:List (List UInt8)):Prop where
 len:fs.length=x.length / 128
 fr:zr T x fs
 st0:0<=st
 st1:st<=im.length
 at':∃ r,im.drop st.toNat=fs.flatten++r
theorem En.le {T:List Int} {im:List UInt8} {st:Int} {x:List UInt8} {fs:List (List UInt8)} (h:En T im st x fs):st+fs.flatten.length<=im.length:=by
 obtain ⟨r,hr⟩:=h.at';have:=congrArg List.length hr;rw [aW,af] at this;have:=h.st0;have:=h.st1;omega
theorem En.at {T:List Int} {im:List UInt8} {st:Int} {x:List UInt8} {fs:List (List UInt8)} (h:En T im st x fs) {k:Nat} (hk:k< x.length / 128):Wj T im (st+fD fs k) (zh (lf x k)) (st+fD fs (k+1))/\fD fs (k+1)<=fs.flatten.length:=by
 have qS:k< fs.length:=by rw [h.len];exact hk
 have h0:=h.st0;have hl:=h.le;obtain ⟨r,hr⟩:=h.at';have DR:fs.flatten=(fs.take k).flatten++(fs[k]++(fs.drop (k+1)).flatten):=by
  conv=>lhs;rw [<-bY k fs,eT,bO qS,bF]
 have hs:=n9 qS;have hle:fD fs (k+1)<=fs.flatten.length:=by
  have:=congrArg List.length DR;simp only [af] at this;rw [hs];unfold fD;omega
 refine ⟨⟨by omega,by omega,fs[k],(fs.drop (k+1)).flatten++r,h.fr.fr k _ (ak qS),?_,by rw [hs];omega⟩,hle⟩;rw [show (st+(fD fs k:Int)).toNat=st.toNat+fD fs k by omega,<-iC,hr,DR,aH,aH];exact fB
theorem U4 {x:List UInt8} {off m k:Nat} (ho:off< 128*(k+1)) (hm:128*k - off< m) (hx:128*(k+1)<=x.length):(x.drop off).take (min m (128*k - off))++((lf x k).drop (off - 128*k)).take (min ((lf x k).length - (off - 128*k)) (m - (min m (128*k - off))))=(x.drop off).take (min m (128*(k+1) - off)):=by
 have hb:(lf x k).length=128:=by rw [re];omega
 rw [hb,Nat.min_eq_right (Nat.le_of_lt hm)];have e:((lf x k).drop (off - 128*k)).take (min (128 - (off - 128*k)) (m - (128*k - off)))=(x.drop (off+(128*k - off))).take (min (128 - (off - 128*k)) (m - (128*k - off))):=by
  unfold lf;rw [pJ,iC,fR,eP (Nat.le_trans (Nat.min_le_left _ _) (az _)),show 128*k+(off - 128*k)=off+(128*k - off) by omega]
 rw [e,Mx];congr 1;omega
theorem HF (n:Nat):gr (n:Int) 128=((n / 128:Nat):Int):=by rw [Int.tdiv_eq_ediv_of_nonneg (by omega)];rfl
theorem iI {e:Ty} {l:List e.den} {k:Nat} (h:k< l.length):aB e l (k:Int)=l[k]:=by
 unfold aB;rw [bm,aP,ak h];rfl
theorem nz:∀ {ls:List Nat} {n:Nat},ls.all (λl=>gx l n)=true->∀ l∈ls,l< n:=λh l hl=>by
 have:=bo.1 h l hl;exact cK this
theorem Mu (M:List (ByteArray×Int)) (k:ByteArray) (v:Int):(Kk.put .str M k v:List (ByteArray×Int)).length<=M.length+1:=by
 show (_::List.filter _ M).length<=_;rw [aq];exact Nat.succ_le_succ (List.length_filter_le _ M)
def oP (row:List UInt8) (bg:List Int) (i:Nat):Int:=(bg[i+1]?).getD row.length
structure A8 (row:List UInt8) (bg:List Int):Prop where
 all:∀ (i:Nat) a,bg[i]?=some a->0<=a/\a< oP row bg i/\oP row bg i<=a+128/\oP row bg i<=row.length
theorem A8.nil:A8 [] []:=⟨λ_ _ h=>by simp at h⟩
structure qp (row:List UInt8) (bg:List Int) (nu off:Int) (t:List UInt8):Prop where
 or:(t= []/\nu=0/\off=0)\/(0< t.length/\t.length< 128/\0<=off/\∃ (i:Nat) (a:Int),nu=(i:Int)+1/\bg[i]?=some a/\a+off+t.length<=oP row bg i/\(row.drop (a+off).toNat).take t.length=t)
theorem Td {row:List UInt8} {bg:List Int} {i:Nat} (h:i+1< bg.length) (lE:List UInt8) (c:List Int):oP lE (bg++c) i=oP row bg i:=by
 unfold oP;rw [aU h,ak h];rfl
theorem nZ {row:List UInt8} {bg:List Int} {i:Nat} (h:bg.length=i+1):oP row bg i=row.length:=by
 unfold oP;rw [dy (by omega)];rfl
theorem A8.more {row t:List UInt8} {bg:List Int} {n:Nat} {a:Int} (h:A8 row bg) (hn:bg.length=n+1) (ha:bg[n]?=some a) (ht:0< t.length) (ht2:t.length< 128) (hl:(row.length:Int) - a+t.length<=128):A8 (row++t) bg/\qp (row++t) bg ((n:Int)+1) ((row.length:Int) - a) t/\∀ nu off u,qp row bg nu off u->qp (row++t) bg nu off u:=by
 have key:∀ (i:Nat) b,bg[i]?=some b->oP (row++t) bg i=(if i=n then ((row++t).length:Int) else oP row bg i):=λi b hi=>by
  have eJ:=(av.1 hi).1;split
  .rename_i e;subst e;exact nZ hn
  .have:=Td (row:=row) (bg:=bg) (i:=i) (by omega) (row++t) [];rw [a7] at this;exact this
 have hn0:=h.all n a ha;rw [nZ hn] at hn0;refine ⟨⟨λi b hi=>?_⟩,⟨.inr ⟨ht,ht2,by omega,n,a,rfl,ha,?_,?_⟩⟩,λnu off u hu=>⟨?_⟩⟩
 .have:=h.all i b hi;rw [key i b hi,af];split
  .rename_i e;subst e;rw [ha] at hi;obtain rfl:=aj hi;omega
  .omega
 .rw [key n a ha,if_pos rfl,af];omega
 .rw [show (a+((row.length:Int) - a)).toNat=row.length by omega,fB,ff]
 .rcases hu.or with hu| ⟨u1,u2,u3,i,b,u4,u5,u6,u7⟩
  .exact .inl hu
  .have hb:=h.all i b u5;refine .inr ⟨u1,u2,u3,i,b,u4,u5,?_,?_⟩
   .rw [key i b u5,af];split
    .omega
    .exact u6
   .rw [dz (by omega),lV (by rw [aW];omega)];exact u7
theorem A8.next {row t:List UInt8} {bg:List Int} (h:A8 row bg) (ht:0< t.length) (ht2:t.length< 128):A8 (row++t) (bg++ [(row.length:Int)])/\qp (row++t) (bg++ [(row.length:Int)]) ((bg.length:Int)+1) 0 t/\∀ nu off u,qp row bg nu off u->qp (row++t) (bg++ [(row.length:Int)]) nu off u:=by
 have key:∀ (i:Nat),i< bg.length->oP (row++t) (bg++ [(row.length:Int)]) i=oP row bg i:=λi hi=>by
  rcases eQ (i+1) bg.length with hl| hl;exact Td hl _ _
  .have e:bg.length=i+1:=by omega
   rw [nZ e];unfold oP;rw [aZ (by omega),show i+1 - bg.length=0 by omega];rfl
 have M8:oP (row++t) (bg++ [(row.length:Int)]) bg.length=(row++t).length:=nZ (by simp);have M7:(bg++ [(row.length:Int)])[bg.length]?=some (row.length:Int):=by simp
 refine ⟨⟨λi b hi=>?_⟩,⟨.inr ⟨ht,ht2,bp _,bg.length,row.length,rfl,M7,?_,?_⟩⟩,λnu off u hu=>⟨?_⟩⟩
 .rcases eQ i bg.length with hl| hl
  .rw [aU hl] at hi;have:=h.all i b hi;rw [key i hl,af];omega
  .have eJ:=(av.1 hi).1;rw [af,ay] at eJ;obtain rfl:i=bg.length:=by omega
   rw [M7] at hi;obtain rfl:=aj hi;rw [M8,af];omega
 .rw [M8,af];omega
 .rw [Int.add_zero,bm,fB,ff]
 .rcases hu.or with hu| ⟨u1,u2,u3,i,b,u4,u5,u6,u7⟩
  .exact .inl hu
  .have hb:=h.all i b u5;have eJ:=(av.1 u5).1;refine .inr ⟨u1,u2,u3,i,b,u4,by rw [aU eJ];exact u5,by rw [key i eJ];exact u6,?_⟩;rw [dz (by omega),lV (by rw [aW];omega)];exact u7
def mL (row:List UInt8) (bg:List Int) (n:Nat):List (List UInt8):=(bP n).map λi=>(row.drop ((bg[i]?).getD 0).toNat).take (oP row bg i - (bg[i]?).getD 0).toNat
theorem Qy (row:List UInt8) (bg:List Int) (n:Nat):mL row bg (n+1)=mL row bg n++ [(row.drop ((bg[n]?).getD 0).toNat).take (oP row bg n - (bg[n]?).getD 0).toNat]:=by
 unfold mL;rw [List.range_succ,eR];rfl
theorem uk (row:List UInt8) (bg:List Int) (n:Nat):(mL row bg n).length=n:=by unfold mL;simp
theorem V0 {row:List UInt8} {bg:List Int} (hf:A8 row bg):∀ z∈mL row bg bg.length,0< z.length/\z.length<=128:=λz hz=>by
 unfold mL at hz;obtain ⟨i,hi,rfl⟩:=aM.1 hz;have hi:=dm.1 hi;have hb:=hf.all i bg[i] (ak hi);rw [ak hi,Option.getD_some,aD,aW];omega
end Go.Lm

namespace Go.Proofs
open Go Go.Lm Go.RowKit
set_option maxRecDepth 1000000
def ZQ:Ct:=cD .u8 λx=>cB λc=>c0 λQ=>c=0/\Q (.c (.d .u8 (x.dropWhile (· ==0)))) []
def aa1:=QK.add QP
abbrev Pa (y0) (y1:SV->List HO->Prop):=aN (bQ y0)->br ((a6 y0)==0) (y1 gf []) (y1 (SV.v (S1.c (Cl.d Ty.u8 y0))) [])
def EK (x:(List (Ty.u8).den)) (c:Int):dE:=λQ=>cW x (aI .u8 c->ba (λi ag=>fU i.1.1 (br (decide ((a6 i.1.1)>ah)) (ah<=ah/\ah< (a6 i.1.1)/\(kV i.1.1 (br ((fO i.1.1)==c) (ah<=a8/\a8<=(a6 i.1.1)/\ag ((List.drop 1 
 i.1.1,()),())) (Pa i.1.1 Q)))) (Pa i.1.1 Q))) ((x,()),()))
theorem WC:cM 219 ZQ:=fe<| kC λx=>okB λc=>iB λQ h=>by
 refine Wp.lY [some (.sl .u8)] [] ?_;refine Wp.dL aa1 cQ ⟨[(2,⟨[(0,.d .u8)],[]⟩)],[]⟩ Tryz.f219 (EK x c) ?_;unfold EK kV Pa gf fU bQ cW cA fO ah a8 a6 aN;obtain ⟨rfl,h⟩:=h;have fin:∀ y:List UInt8,y.dropWhile (· ==0)=x.dropWhile (· ==0)->(y= []\/∃ z r,y=z::r/\z≠0)->y=x.dropWhile (· ==0):=λy h1 h2=>by
  rcases h2 with rfl| ⟨z,r,rfl,hz⟩;exact h1;rw [<-h1,List.dropWhile_cons_of_neg (by simpa using hz)]
 refine λ_ _=>ba.intro (λi=>i.1.1.dropWhile (· ==0)=x.dropWhile (· ==0)) (λi=>i.1.1.length) rfl ?_;rintro ⟨⟨y,_⟩,_⟩ hy;simp only at hy ⊢;refine λ_=>aw (λhc=>?_) (λhc=>λ_=>?_)
 .have hc:(y.length:Int)>0:=of_decide_eq_true hc;cases y with
  | nil=>simp at hc
  | cons z r=>
   refine ⟨by decide,hc,λ_=>aw (λhz=>?_) (λhz=>λ_=>?_)⟩
   .have hz:(z.toNat:Int)=0:=eq_of_beq hz;have hz:z=0:=by
     have:z.toNat=0:=by omega
     exact UInt8.toNat_inj.1 this
    subst hz;exact ⟨by decide,by simp only [aq];omega,hy,by simp⟩
   .have hz:z≠0:=λe=>by subst e;cases hz
    have e:=fin _ hy (.inr ⟨z,r,rfl,hz⟩);refine aw (λq=>?_) (λ_=>⟨az _,by rw [e];exact h⟩);have:(((z::r).length:Nat):Int)=0:=eq_of_beq q;simp at this;omega
 .have hc:¬(y.length:Int)>0:=of_decide_eq_false hc;obtain rfl:y= []:=aK (by omega);have e:=fin _ hy (.inl rfl);refine aw (λ_=>⟨az _,?_⟩) (λq=>by cases q);rw [<-e] at h;exact h
def aeo:Ct:=cD .u8 λx=>cS λs=>c0 λQ=>s=⟨#[0]⟩/\Q (.c (.d .u8 (x.dropWhile (· ==0)))) []
def aa0:=aa1.add WC
abbrev Cg:=λx=>x==eC
abbrev vj (y0:List (Ty.u8).den):=List.dropWhile Cg y0
def KF (x:(List (Ty.u8).den)) (s:ByteArray):dE:=λQ=>cW x (dC s (aN (dv x)->br ((aF x)==0) (Q gf []) (br (kR s gY) (Q (SV.v (S1.c (Cl.d Ty.u8 x))) []) (br ((iN s)==1) (ah<=ah/\ah< (iN s)/\br (decide ((↑(cF (iV s ah)) 
 :Int)< bI)) (ah<=ah/\ah< (iN s)/\(↑(cF (iV s ah)):Int)=ah/\(aN (List.length (vj x))->Q (SV.v (S1.c (Cl.d Ty.u8 (vj x)))) [])) False) False))))
theorem ace:cM 174 aeo:=fe<| kC λx=>Yx λs=>iB λQ h=>by
 refine Wp.lY [some (.sl .u8)] [] ?_;refine Wp.dL aa0 cQ ⟨[],[]⟩ Tryz.f174 (KF x s) ?_;unfold KF vj Cg gY dv gf dC iN eC cW cA ah bI aF aN;obtain ⟨rfl,h⟩:=h;refine λ_ _ _=>aw (λhc=>⟨az _,?_⟩) (λ_=>aw (λq=>absurd q (by decide+kernel)) (λ_=>aw (λ_=>⟨by decide,by decide,aw (λ_=>⟨by decide,by decide,by decide+kernel,λ_=>⟨az _,h⟩⟩) (λq=>absurd q (by decide+kernel))⟩) (λq=>absurd q (by decide+kernel))));have hc:(x.length:Int)=0:=eq_of_beq hc;obtain rfl:x= []:=aK (by omega);exact h
def ai9:Ct:=cD .u8 λx=>c0 λQ=>Q (.bool (((x.dropWhile (· ==0)).length:Int)==0)) []
def aaZ:=aa0.add ace
def Rw (x:(List (Ty.u8).den)):dE:=λQ=>cW x (ByteArray.mk #[(0:UInt8)]=ByteArray.mk #[(0:UInt8)]/\(aN (List.length (vj x))->aN (List.length (vj x))->Q (.v (.c (.k (.bool ((a6 (vj x))==0))))) []))
theorem ahh:cM 128 ai9:=fe<| kC λx=>iB λQ h=>by
 refine Wp.dL aaZ cQ ⟨[],[]⟩ Tryz.f128 (Rw x) ?_;unfold Rw vj Cg eC cW a6 aN;exact λ_=>⟨rfl,λ_ _=>h⟩
def aap:Ct
 | [.v (.c (.o 0))],[.sl 5 .u8 x],Q=>x.length<=140737488355328/\Q (.c (.d .u8 x)) [.sl 5 .u8 x]
 | _,_,_=>False
def QJ:=aaZ.add ahh
def XC (x:List UInt8):dE:=λQ=>∀ (c:Bool),(c=true->x= [])->br (lJ c) (Q gf [.sl 5 Ty.u8 x]) (Iu x Q)
theorem ae3:cM 72 aap:=by
 intro args H Q h;unfold aap at h;split at h;rotate_left;cases h;rename_i x;refine Wp.IL (e:=.u8) ?_;refine Wp.dL QJ cQ ⟨[],[]⟩ Tryz.f72 (XC x) ?_;unfold XC lJ Iu gf cC cA;obtain ⟨hl,h⟩:=h;refine λc hc=>aw (λhb=>.inr (.inl ⟨rfl,?_⟩)) (λhb=>⟨by omega,by omega,.inr (.inr ⟨1,5,x,rfl,az 1,rfl,h⟩)⟩);rw [hc hb] at h ⊢;exact h
def afT:Ct:=cD .u8 λx=>c0 λQ=>x.length<=140737488355328/\Q (.c (.d .u8 x)) []
def ajx:=QJ.add ae3
def XD (x:(List (Ty.u8).den)):dE:=λQ=>cW x (zP x Q)
theorem akI:cM 72 afT:=fe<| kC λx=>iB λQ h=>by
 refine Wp.IL (e:=.u8) ?_;refine Wp.dL ajx cQ ⟨[],[]⟩ Tryz.f72 (XD x) ?_;unfold XD zP cC cW cA;obtain ⟨hl,h⟩:=h;refine λ_ c hc=>aw (λhb=>.inr (.inl ⟨rfl,?_⟩)) (λhb=>⟨by omega,by omega,.inr (.inr ⟨0,5,x,rfl,az 0,rfl,h⟩)⟩);rw [hc hb] at h;exact h
def amg:Ct:=λargs H Q=>match H with
 | []=>afT args H Q
 | [_]=>aap args H Q
 | _=>False
theorem anb:cM 72 amg:=λargs H Q h=>by
 unfold amg at h;split at h;exact akI _ _ _ h;exact ae3 _ _ _ h;cases h
def TI:Ct:=cT λT=>cI λfi=>c0 λQ=>Q (.c (.p 0 0)) [.cells 157 [.de (.int .u32) T 0 0,.k (.int .i64 fi),.o 2,.m 1],.map 9 .str (.int .i64) [],.sl 5 .u8 []]
def aaY:=QJ.add anb
def Lj (T:List Int) (fi:Int):dE:=λQ=>aI .i64 fi->Q (SV.v (S1.c (.p 0 0))) [.cells 157 [Cl.de (.int .u32) T ah bC,.k (aE fi),.k cA,Cl.m bJ],HO.map iz Kk.str bw []]
theorem Q2:cM 49 TI:=fe<| okT λT=>nK λfi=>iB λQ h=>by
 refine (λhh=>Wp.xr (p:=0) (t:=157) (tt:=5) (e:=.u8) hh) ?_;refine Wp.dL aaY cQ ⟨[],[]⟩ Tryz.f49 (Lj T fi) ?_;unfold Lj cA aE ah bC bJ iz bw;exact λ_=>⟨[_,_],[_],rfl,h⟩
def He:Ct:=cP<| cD .u8 λx=>cO λH Q=>match H with
 | [.cells 157 [.de (.int .u32) T 0 0,.k (.int .i64 fi),.o 1,.m 2],.sl 5 .u8 b,.map 9 .str (.int .i64) M]=>T.length=256/\x.length<=128/\(0<=fi/\fi<=1000000)/\b.length<=100000000/\∀ z,DK T x z->Q (.c (.k (.int .i64 (fi+b.length)))) [.cells 157 [.de (.int .u32) T 0 0,.k (.int .i64 fi),.o 3,.m 2],.gone,.map 9 .str (.int .i64) M,.sl 5 .u8 (b++z)]
 | _=>False
def aaX:=aaY.add Q2
abbrev Ii (y0:List UInt8) (y1:List UInt8) (R:Prop):=(List.length y0+List.length y1)*1<=cC/\List.length y0+List.length y1<=9223372036854775807/\R
def By (x:(List (Ty.u8).den)) (T:List Int) (fi:Int) (b:List UInt8) (M:(List (ByteArray×Int))):dE:=λQ=>cW x (eG T (List.length x<=128/\∀ (DZ:List UInt8),DK T x DZ->db DZ (aI .i64 0->db b (aI .i64 (fi+(aF b))/\Ii b DZ (Q (.v (.c (.k (.int .i64 (fi+(aF b)))))) [.cells 157 [Cl.de 
 (.int .u32) T ah bC,.k (aE fi),.o 3,Cl.m bj],.gone,kY M,.sl 5 Ty.u8 (b++DZ)])))))
theorem EF:cM 79 He:=fe<| rK<| kC λx=>rM λH Q h=>by
 split at h;rotate_left;cases h;rename_i T fi b M;refine Wp.dL aaX cQ ⟨[],[]⟩ Tryz.f79 (By x T fi b M) ?_;unfold By Ii db eG cC cW aE ah aF aN bC bj bN kY;obtain ⟨hT,hx,⟨f0,f1⟩,hb,h⟩:=h;exact λ_=>⟨hT,hx,λz hz _ _ _=>⟨by unfold aI;omega,by have:=hz.len.2;omega,by have:=hz.len.2;omega,h z hz⟩⟩
def NZ:Ct:=cP<| cO λH Q=>match H with
 | [.cells 157 [.de (.int .u32) T 0 0,.k (.int .i64 fi),.o 1,.m 2],.sl 5 .u8 b,.map 9 .str (.int .i64) M]=>b.length<=100000000/\Q (.c (.d .u8 b)) [.gone,.gone,.gone]
 | _=>False
def aaW:=aaX.add EF
def Fp (T:List Int) (fi:Int) (b:List UInt8) (M:(List (ByteArray×Int))):dE:=λQ=>List.length b<=140737488355328/\(db b (Q (SV.v (S1.c (Cl.d Ty.u8 b))) [.cells 157 [Cl.de (.int .u32) T ah bC,.k (aE fi),.o 1,Cl.m bj],.sl 5 Ty.u8 b,kY M]))
theorem Kw:cM 56 NZ:=fe<| rK<| rM λH Q h=>by
 split at h;rotate_left;cases h;rename_i T fi b M;refine Wp.afm ?_;refine Wp.dL aaW cQ ⟨[],[]⟩ Tryz.f56 (Fp T fi b M) ?_;unfold Fp db aE ah aN bC bj kY;obtain ⟨hb,h⟩:=h;exact ⟨by omega,λ_=>h⟩
def aeL:Ct:=cD .u8 λim=>cI λst=>cI λsz=>cI λen=>c0 λQ=>im.length<=100000000/\∃ (T:List Int) (x:List UInt8) (fs:List (List UInt8)),En T im st x fs/\sz=x.length/\x.length<=4096/\st+fs.flatten.length<=en/\Q (.cZ [.c (.k (.int .i64 (st+fs.flatten.length))),.c (.k (.int .i64 0))]) []
def aaV:=aaW.add Kw
def Ll (im:(List (Ty.u8).den)) (st sz en:Int):dE:=λQ=>cW im (cU st sz en (br (dj sz) (Q (.cZ [.c (.k bn),.c (.k (.int .i64 1))]) []) (br (decide (sz>4096)) (Q (.cZ [.c (.k bn),.c (.k (.int .i64 1))]) []) (bI≠ah/\aI .i64 (gr sz 
 bI)/\ba (λi ag=>br (decide (i.1.1< gr sz bI)) (∃ p s st nx,jc im (Cut im i.1.2.1 p s st nx/\(aI .i64 nx->aI .i64 0->br (decide (nx>en)) (Q (.cZ [.c (.k bn),.c (.k (.int .i64 2))]) []) (cG i.1.1 
 (ag ((i.1.1+1,nx,()),())))))) (Q (.cZ [.c (.k (aE i.1.2.1)),.c (.k bn)]) [])) ((ah,st,()),())))))
theorem Q4:cM 150 aeL:=fe<| kC λim=>nK λst=>nK λsz=>nK λen=>iB λQ h=>by
 refine Wp.dL aaV cQ ⟨[(5,⟨[(20,.int .i64),(1,.int .i64)],[]⟩)],[]⟩ Tryz.f150 (Ll im st sz en) ?_;unfold Ll jc dj cG cW bn cU aE ah bI;obtain ⟨hl,T,x,fs,hI,rfl,hx,hen,h⟩:=h;have h0:=hI.st0;have an6:=hI.le;rw [HF];refine λ_ _ _ _=>aw (λhc=>absurd (of_decide_eq_true hc) (by omega)) (λ_=>aw (λhc=>absurd (of_decide_eq_true hc) (by omega)) (λ_=>⟨by decide,by unfold aI;omega,?_⟩));refine ba.intro (λi=>∃ k:Nat,k<=x.length / 128/\i.1.1=(k:Int)/\i.1.2.1=st+fD fs k) (λi=>x.length / 128 - i.1.1.toNat) ⟨0,cr _,rfl,by unfold fD;simp⟩ ?_;rintro ⟨⟨i,a,_⟩,_⟩ ⟨k,hk,h1,h2⟩;simp only at h1 h2 ⊢;subst h1 h2;refine aw (λhc=>?_) (λhc=>?_)
 .have hc:(k:Int)< ((x.length / 128:Nat):Int):=of_decide_eq_true hc;obtain ⟨hF,hle⟩:=hI.at (k:=k) (by omega);obtain ⟨p,s,t,hC,_⟩:=hF.cut (yY T 0);exact ⟨p,s,t,_,hl,hC,λ_ _=>aw (λhq=>absurd (of_decide_eq_true hq) (by omega)) (λ_=>⟨by unfold aI;omega,⟨k+1,by omega,by omega,rfl⟩,by omega⟩)⟩
 .have hc:¬(k:Int)< ((x.length / 128:Nat):Int):=of_decide_eq_false hc;obtain rfl:k=x.length / 128:=by omega
  rw [<-hI.len,qn];exact h
def aan:Ct:=cD .u8 λl=>cI λn=>c0 λQ=>1<=n/\Q (.c (.fn 173 [.p 0 0,.p 1 0])) [.cells 35 [.d .u8 l],.cells 3 [.k (.int .i64 n)]]
def TY:=aaV.add Q4
def Fx (l:(List (Ty.u8).den)) (n:Int):dE:=λQ=>cW l (aI .i64 n->br (decide (n< 1)) False (Q (SV.v (S1.c (Cl.fn (173:Nat) [.p 0 0,.p 1 0]))) [.cells 35 [Cl.d Ty.u8 l],.cells 3 [.k (aE n)]]))
theorem Xe:cM 127 aan:=fe<| kC λl=>nK λn=>iB λQ h=>by
 refine Wp.dL TY cQ ⟨[],[]⟩ Tryz.f127 (Fx l n) ?_;unfold Fx cW aE;obtain ⟨hn,h⟩:=h;exact λ_ _=>aw (λhc=>absurd (of_decide_eq_true hc) (by omega)) (λ_=>h)
def AZ:Ct
 | [.v (.c (.p 0 0)),.v (.c cx)],[.cells 157 [.de (.int .u32) T 0 0,.k (.int .i64 fi),.o 1,.m 2],.sl 5 .u8 b,.map 9 .str (.int .i64) M],Q=>(match (Ty.sl Ty.u8).of [cx] with
  | some (x,[])=>((T.length=256/\x.length<=4096/\DW fi b M)/\((0<=fi/\fi<=1000000)/\b.length<=10000000/\M.length<=100000))/\∀ st b' M',DW fi b' M'->(∃ c,b'=b++c)->zq T fi b' st x->b'.length<=b.length+4320->M'.length<=M.length+1->Q (.cZ [.c (.k (.int .i64 st)),.c (.d .u8 (x.drop (128*(x.length / 128))))]) [.cells 157 [.de (.int .u32) T 0 0,.k (.int .i64 fi),.o 1,.m 2],.sl 5 .u8 b',.map 9 .str (.int .i64) M']/\Q (.cZ [.c (.k (.int .i64 st)),.c (.d .u8 (x.drop (128*(x.length / 128))))]) [.cells 157 [.de (.int .u32) T 0 0,.k (.int .i64 fi),.o 3,.m 2],.gone,.map 9 .str (.int .i64) M',.sl 5 .u8 b']
  | _=>False)
 | _,_,_=>False
def JT:=TY.add Xe
abbrev Ml {A0:Type} (y0:List A0):=aA (gr (aF y0) bI*128)
abbrev Io {A1:Type} (y0) (y1:List A1):=List.take jf (List.drop (y0*128) (List.take (Ml y1) y1))
abbrev qG (y0:List (ByteArray×Int)) (y1:List UInt8):=Kk.get Kk.str y0 (gk y1)
abbrev yb {A0:Type} (y0:List A0):=List.drop (Ml y0) y0
def Lk (x:(List (Ty.u8).den)) (T:List Int) (fi:Int) (b:List UInt8) (M:(List (ByteArray×Int))):dE:=λQ=>fU x (aN (bQ x)->bI≠ah/\aI .i64 (gr (aF x) bI)/\aI .i64 (gr (aF x) bI*128)/\0<=gr (aF x) bI*128/\gr (aF x) bI*128<=(aF x)/\a8<= 
 bI/\(a8<=bI/\bI<=(1000000000:Int))/\List.length (List.take (Ml x) x)<=1000000000000/\ba (λi ag=>br (gx (i.1*128) (List.length (List.take (Ml x) x))) (br ((↑(List.length (List.dropWhile Cg 
 (Io i.1 x))):Int)==0) (eG T (bC<=jf/\∀ (x:List UInt8),DK T [] x->aN (bQ x)->Cx i.2.2.1.1 x (ag (i.1+1,(),(i.2.2.1.1++x,()),())))) (eG T (List.length (Io i.1 x)<=128/\∀ (DZ:List UInt8), 
 DK T (Io i.1 x) DZ->db DZ (Cx i.2.2.1.1 DZ (ag (i.1+1,(),(i.2.2.1.1++DZ,()),())))))) (0<=gr (aF x) bI*128/\gr (aF x) bI*128<=(aF x)/\fp (List.length (yb x))/\(aN 
 (List.length (yb x))->aN (bQ i.2.2.1.1)->br ((a6 i.2.2.1.1)==0) (Q (.cZ [.c (.k bn),S1.c (Cl.d Ty.u8 (yb x))]) [.cells 157 [Cl.de (.int .u32) T ah bC,.k (aE fi),.o 1,Cl.m bj],.sl 5 Ty.u8 b,kY M]) 
 (Ty.ok bw (gl (qG M i.2.2.1.1) ah)->br (!Option.isSome (qG M i.2.2.1.1)) (db b (aI .i64 (fi+(aF b))/\List.length M< 9223372036854775807/\Ii b i.2.2.1.1 (Q (.cZ [.c (.k (.int .i64 (fi+(aF b)))), 
 S1.c (Cl.d Ty.u8 (yb x))]) [.cells 157 [Cl.de (.int .u32) T ah bC,.k (aE fi),.o 3,Cl.m bj],.gone,kY (Kk.put Kk.str M (gk i.2.2.1.1) (fi+(aF b))),.sl 5 Ty.u8 (b++i.2.2.1.1)]))) (Q (.cZ [.c (.k (.int .i64 
 (gl (qG M i.2.2.1.1) ah))),S1.c (Cl.d Ty.u8 (yb x))]) [.cells 157 [Cl.de (.int .u32) T ah bC,.k (aE fi),.o 1,Cl.m bj],.sl 5 Ty.u8 b,kY M]))))) (bC,(),([],()),()))
theorem Q3:cM 76 AZ:=by
 intro args H Q h;unfold AZ at h;split at h;rotate_left;cases h;rename_i cx T fi b M;split at h;rotate_left;cases h;rename_i x hx;refine Wp.said (args':=[.v (.c (.p 0 0)),.c (.d Ty.u8 x)]) (λE g=>bE.dd (λ_ h=>h) (bE.dd (dR hx) (λ_ h=>h))) ?_;clear hx;refine Wp.Qe (X:=JT.v cQ (chk:=aej)) JT.ok ⟨[(5,⟨[],[(4,.cells 35 [.own 5 .u8])]⟩)],[]⟩ (fn:=Tryz.f76) (V:=Lk x T fi b M) (by kernel_rfl) (λ_=>by kernel_rfl) ?_ (hch:=Tk);unfold Lk yb Cg Ii qG Io db Cx eG Ml fU bQ eC cC bn aE ah a8 bI a6 aF fp aN bC jf bj bN kY bw;obtain ⟨⟨⟨hT,hx,hD⟩,⟨f0,f1⟩,hb,hM⟩,h⟩:=h;obtain ⟨c,hc⟩:∃ c,x.length / 128=c:=⟨_,rfl⟩;have hcx:128*c<=x.length/\x.length< 128*c+128:=by omega
 rw [HF,hc];rw [hc] at h;have hn:(((c:Nat):Int)*128).toNat=128*c:=by omega
 have ht:(x.take (128*c)).length=128*c:=by rw [aD];omega
 rw [hn,ht];refine λ_ _=>⟨by decide,by unfold aI;omega,by unfold aI;omega,by omega,by omega,by decide,⟨by decide,by decide⟩,by omega,?_⟩;refine ba.intro (λi=>i.1<=c/\∃ fs,fs.length=i.1/\zr T x fs/\i.2.2.1.1=fs.flatten) (λi=>c - i.1) ⟨cr _,[],rfl,zr.nil T x,rfl⟩ ?_;rintro ⟨k,_,⟨run,_⟩,_⟩ ⟨hk,fs,h1,h2,h3⟩;simp only at hk h1 h3 ⊢;subst h3;have hlen:=h2.len;refine aw (λhq=>?_) (λhq=>?_)
 .have VA:k< c:=by have:=cK hq;omega
  have hblk:((x.take (128*c)).drop (k*128)).take 128=lf x k:=by
   rw [Nat.mul_comm k 128];exact V2 VA
  rw [hblk];have step:∀ z,DK T (zh (lf x k)) z->k+1<=c/\∃ gs,gs.length=k+1/\zr T x gs/\fs.flatten++z=gs.flatten:=λz hz=>⟨VA,fs++ [z],by simp [h1],h2.step (by rw [h1];exact hz),by simp⟩;refine aw (λhh=>⟨hT,by decide,λz hz _ _=>?_⟩) (λhh=>⟨hT,by rw [re];omega,λz hz _ _=>?_⟩)
  .have e:=aas hh;have Om:=hz.len.2;rw [aL] at Om;exact ⟨by omega,by omega,step z (by rw [e];exact hz),by omega⟩
  .have e:=aat hh;have Om:=hz.len.2;rw [re] at Om;exact ⟨by omega,by omega,step z (by rw [e];exact hz),by omega⟩
 .have VA:c<=k:=by
   rcases eQ k c with z| z
   .have:gx (k*128) (128*c)=true:=Nat.ble_eq_true_of_le (by omega);rw [this] at hq;cases hq
   .exact z
  obtain rfl:k=c:=by omega
  refine ⟨by omega,by omega,by rw [aW];omega,λ_ _=>aw (λhz=>?_) (λhz=>λ_=>aw (λhg=>?_) (λhg=>?_))⟩
  .have hz:(fs.flatten.length:Int)=0:=eq_of_beq hz;exact (h 0 b M hD ⟨[],by simp⟩ ⟨.inl ⟨by omega,rfl⟩⟩ (by omega) (by omega)).1
  .have hz:¬(fs.flatten.length:Int)=0:=by simpa using hz
   have DU:=Mu M (gk fs.flatten) (fi+(b.length:Int));exact λ_=>⟨by unfold aI;omega,by omega,by omega,by omega,(h _ _ _ hD.put ⟨_,rfl⟩ ⟨.inr ⟨by omega,b.length,rfl,fs,[],by omega,h2,by rw [fB,a7],by rw [af];omega⟩⟩ (by rw [af];omega) DU).2⟩
  .have hz:¬(fs.flatten.length:Int)=0:=by simpa using hz
   obtain ⟨v,hv⟩:=lT.1 (show (Kk.get .str M (gk fs.flatten)).isSome=true by simpa using hg);rw [hv];obtain ⟨o,ho,r,hr,hle⟩:=hD.get hv;exact (h v b M hD ⟨[],by simp⟩ ⟨.inr ⟨by omega,o,ho,fs,r,by omega,h2,hr,hle⟩⟩ (by omega) (by omega)).1
def N0:Ct
 | [.v (.c (.p 0 0)),.v (.c cx)],[.abs a],Q=>(match (Ty.sl Ty.u8).of [cx] with
  | some (x,[])=>∃ T fi b M,a=jX [.cells 157 [.de (.int .u32) T 0 0,.k (.int .i64 fi),.o 1,.m 2],.sl 5 .u8 b,.map 9 .str (.int .i64) M]/\((T.length=256/\x.length<=4096/\DW fi b M)/\((0<=fi/\fi<=1000000)/\b.length<=10000000/\M.length<=100000))/\∀ st b' M',DW fi b' M'->(∃ c,b'=b++c)->zq T fi b' st x->b'.length<=b.length+4320->M'.length<=M.length+1->Q (.cZ [.c (.k (.int .i64 st)),.c (.d .u8 (x.drop (128*(x.length / 128))))]) [.abs (jX [.cells 157 [.de (.int .u32) T 0 0,.k (.int .i64 fi),.o 1,.m 2],.sl 5 .u8 b',.map 9 .str (.int .i64) M'])]
  | _=>False)
 | _,_,_=>False
theorem Kx:cM 76 N0:=by
 intro args H Q h;unfold N0 at h;split at h;rotate_left;cases h;rename_i Q cx a;split at h;rotate_left;cases h;rename_i x hx;obtain ⟨T,fi,b,M,rfl,h0,h⟩:=h;refine Wp.sel (Wp.Zs (Wp.Yw (p:=0) (L:=[.cells 157 [.de (.int .u32) T 0 0,.k (.int .i64 fi),.o 1,.m 2],.sl 5 .u8 b,.map 9 .str (.int .i64) M]) rfl (iL _) (Q3 _ _ _ ?_)));show AZ _ [.cells 157 [.de (.int .u32) T 0 0,.k (.int .i64 fi),.o 1,.m 2],.sl 5 .u8 b,.map 9 .str (.int .i64) M] _;unfold AZ;simp only [hx];refine ⟨h0,λst b' M' h1 h2 h3 h4 h5=>?_⟩;have h6:=h st b' M' h1 h2 h3 h4 h5;exact ⟨⟨0,[1,2],by decide,nz rfl,[0],rfl,by decide,nz rfl,h6⟩,⟨0,[3,2],by decide,nz rfl,[0],rfl,by decide,nz rfl,h6⟩⟩
def aeM:Ct:=cT λT=>cD .u8 λim=>cI λst=>cI λsz=>cI λoff=>cI λn=>c0 λQ=>T.length=256/\im.length<=100000000/\∃ x fs,En T im st x fs/\sz=x.length/\x.length<=4096/\0<=off/\(0<=n/\n<=4096)/\Q (.cZ [.c (.o 0),.c (.k (.int .i64 0))]) [.sl 5 .u8 (((x.take (128*(x.length / 128))).drop off.toNat).take n.toNat)]
def TX:=(JT.add Q3).add Kx
abbrev Ca (y0:Int) (y1):=List.drop (aA (max ah (y0 - y1))) (au jf (0:Ty.den Ty.u8))
abbrev afc {A3 A7:Type} (y0:Int) (y1) (y2) (y3:List A3) (y4:Int) (y5:Int) (y6:_->Prop) (y7:A7):=aN (List.length (List.drop (aA (max ah (y0 - y1))) y2))->aN (List.length y3)->aI .i64 (min y4 (gr y5 bI*128 - y0) - (a6 y3))/\0<=min (a6 (List.drop (aA (max ah (y0 - y1))) y2)) (min y4 (gr y5 bI*128 - y0) - (a6 y3))/\min (a6 (List.drop (aA (max ah (y0 - y1))) y2)) (min y4 (gr y5 bI*128 - y0) - (a6 y3))<=(a6 (List.drop (aA (max ah (y0 - y1))) y2))/\(List.length y3+List.length (List.take (aA (min (a6 (List.drop (aA (max ah (y0 - y1))) y2)) (min y4 (gr y5 bI*128 - y0) - (a6 y3)))) (List.drop (aA (max ah (y0 - y1))) y2)))*1<=(140737488355328:Nat)/\List.length y3+List.length (List.take (aA (min (a6 (List.drop (aA (max ah (y0 - y1))) y2)) (min y4 (gr y5 bI*128 - y0) - (a6 y3)))) (List.drop (aA (max ah (y0 - y1))) y2))<=9223372036854775807/\aI .i64 (y1+128)/\y6 ((y3++List.take (aA (min (a6 (List.drop (aA (max ah (y0 - y1))) y2)) (min y4 (gr y5 bI*128 - y0) - (a6 y3)))) (List.drop (aA (max ah (y0 - y1))) y2),y1+128,y7,()),())
abbrev Yh {A7:Type} (y0) (y1:Int) (y2) (y3) (y4:Int) (y5:Int) (y6:_->Prop) (y7:A7):=aN (List.length y0)->br ((aF y0)==0) (bI=bI/\ah<=bI/\bI<=(140737488355328:Int)/\aI .i64 (y1 - y2)/\0<=max ah (y1 - y2)/\max ah (y1 - y2)<=(↑jf:Int)/\(aN (List.length (Ca y1 y2))->aN (List.length y3)->aI .i64 (min y4 (gr y5 bI*128 - y1) - (a6 y3))/\0<=min (a6 (Ca y1 y2)) (min y4 (gr y5 bI*128 - y1) - (a6 y3))/\min (a6 (Ca y1 y2)) (min y4 (gr y5 bI*128 - y1) - (a6 y3))<=(a6 (Ca y1 y2))/\(List.length y3+List.length (List.take (aA (min (a6 (Ca y1 y2)) (min y4 (gr y5 bI*128 - y1) - (a6 y3)))) (Ca y1 y2)))*1<=(140737488355328:Nat)/\List.length y3+List.length (List.take (aA (min (a6 (Ca y1 y2)) (min y4 (gr y5 bI*128 - y1) - (a6 y3)))) (Ca y1 y2))<=9223372036854775807/\aI .i64 (y2+128)/\y6 ((y3++List.take (aA (min (a6 (Ca y1 y2)) (min y4 (gr y5 bI*128 - y1) - (a6 y3)))) (Ca y1 y2),y2+128,y7,()),()))) (aI .i64 (y1 - y2)/\0<=max ah (y1 - y2)/\max ah (y1 - y2)<=(aF y0)/\(afc y1 y2 y0 y3 y4 y5 y6 y7))
def Ln (T:List Int) (im:(List (Ty.u8).den)) (st sz off n:Int):dE:=λQ=>cW im (cU st sz off (aI .i64 n->br (dj sz) (Q rn []) (br (dj off) (Q rn []) (br (dj n) (Q rn []) (br (decide (sz>4096)) (Q rn []) (bI≠ah/\aI .i64 (gr sz bI) 
 /\aI .i64 (gr sz bI*128)/\br (decide (off≥gr sz bI*128)) (Q (.cZ [.c (.k cA),.c (.k bn)]) []) (aI .i64 (gr sz bI*128 - off)/\ba (λi ag=>fU i.1.1 (br (decide ((a6 i.1.1)< min 
 n (gr sz bI*128 - off))) (aI .i64 (i.1.2.1+128)/\br (decide (i.1.2.1+128<=off)) (∃ p s st nx,jc im (Cut im i.1.2.2.1 p s st nx/\(aI .i64 nx->aI .i64 0->aI .i64 (i.1.2.1+128)/\ag ((i.1.1,i.1.2.1+128,nx, 
 ()),())))) (eG T (jc im (∃ z nx e,FrE T im i.1.2.2.1 z nx e/\(aN (bQ z)->cn nx e (br (e !=0) (Q (.cZ [.c (.k cA),.c (.k (.int .i64 35))]) []) (aN (bQ z)->br ((aF z) !=0) (aN (bQ z)->br ((aF z) != 
 128) (Q (.cZ [.c (.k cA),.c (.k (.int .i64 35))]) []) (Yh z off i.1.2.1 i.1.1 n sz ag nx)) (Yh z off i.1.2.1 i.1.1 n sz ag nx)))))))) (Q nv [.sl 5 Ty.u8 i.1.1]))) (([],ah,st,()),()))))))))
theorem acL:cM 32 aeM:=fe<| okT λT=>kC λim=>nK λst=>nK λsz=>nK λoff=>nK λn=>iB λQ h=>by
 refine (λhh=>Wp.sel (Wp.adp (t:=5) (e:=.u8) hh)) ?_;refine Wp.dL TX cQ ⟨[(10,⟨[(15,.own 5 .u8),(16,.int .i64),(2,.int .i64)],[]⟩)],[]⟩ Tryz.f32 (Ln T im st sz off n) (mkd:=true) ?_;unfold Ln jc nv dj cn rn eG fU bQ cW cA bn cU Yh afc Ca ah bI a6 aF aN jf bN;obtain ⟨hT,hl,x,fs,hI,rfl,hx,o0,⟨n0,n1⟩,h⟩:=h;obtain ⟨o,rfl⟩:∃ o:Nat,off=(o:Int):=⟨off.toNat,by omega⟩;obtain ⟨q,rfl⟩:∃ q:Nat,n=(q:Int):=⟨n.toNat,by omega⟩;obtain ⟨c,hc⟩:∃ c,x.length / 128=c:=⟨_,rfl⟩;have hcx:128*c<=x.length/\x.length< 128*c+128:=by omega
 have an6:=hI.le;have hs0:=hI.st0;rw [HF,hc];rw [hc] at h;simp only [bm] at h;refine λ_ _ _ _ _=>aw (λhq=>absurd (of_decide_eq_true hq) (by omega)) (λ_=>aw (λhq=>absurd (of_decide_eq_true hq) (by omega)) (λ_=>aw (λhq=>absurd (of_decide_eq_true hq) (by omega)) (λ_=>aw (λhq=>absurd (of_decide_eq_true hq) (by omega)) (λ_=>⟨by decide,by unfold aI;omega,by unfold aI;omega,aw (λhq=>?_) (λhq=>⟨by have:=of_decide_eq_false hq;unfold aI;omega,?_⟩)⟩))))
 .have hq:(o:Int)≥(c:Int)*128:=of_decide_eq_true hq;rw [List.drop_of_length_le (by rw [aD];omega),List.take_nil] at h;exact .inr ⟨0,rfl,[0],rfl,by decide,nz rfl,h⟩
 have hq:¬(o:Int)≥(c:Int)*128:=of_decide_eq_false hq;obtain ⟨m,hm⟩:∃ m:Nat,min (q:Int) ((c:Int)*128 - o)=(m:Int):=⟨min q (128*c - o),by omega⟩;rw [hm];have e:((x.take (128*c)).drop o).take q=(x.drop o).take m:=by rw [pJ,fR];congr 1;omega
 rw [e] at h;refine ba.intro (λi=>∃ k:Nat,k<=c/\i.1.2.1=((128*k:Nat):Int)/\i.1.2.2.1=st+fD fs k/\i.1.1=(x.drop o).take (min m (128*k - o))) (λi=>c - (i.1.2.1 / 128).toNat) ⟨0,cr _,rfl,by unfold fD;simp,by simp⟩ ?_;rintro ⟨⟨out,fi,a,_⟩,_⟩ ⟨k,hk,h1,h2,h3⟩;simp only at h1 h2 h3 ⊢;subst h1 h2 h3;have qk:((x.drop o).take (min m (128*k - o))).length=min m (128*k - o):=by rw [aD,aW];omega
 rw [qk];refine λ_=>aw (λhd=>?_) (λhd=>?_)
 .have hd:((min m (128*k - o):Nat):Int)< m:=of_decide_eq_true hd;have VA:k< c:=by omega
  obtain ⟨hF,hle⟩:=hI.at (k:=k) (by omega);refine ⟨by unfold aI;omega,aw (λhe=>?_) (λhe=>?_)⟩
  .have he:((128*k:Nat):Int)+128<=o:=of_decide_eq_true he;obtain ⟨p,s,t,hC,_⟩:=hF.cut (yY T 0);exact ⟨p,s,t,_,hl,hC,λ_ _=>⟨by unfold aI;omega,⟨k+1,VA,by omega,rfl,by rw [show min m (128*k - o)=0 by omega,show min m (128*(k+1) - o)=0 by omega]⟩,by omega⟩⟩
  .have he:¬((128*k:Nat):Int)+128<=o:=of_decide_eq_false he;have hb:(lf x k).length=128:=by rw [re];omega
   have mx:max (0:Int) ((o:Int) - ((128*k:Nat):Int))=((o - 128*k:Nat):Int):=by omega
   have hdl:((lf x k).drop (o - 128*k)).length=128 - (o - 128*k):=by rw [aW,hb]
   have mn:min (((128 - (o - 128*k):Nat)):Int) ((m:Int) - ((min m (128*k - o):Nat):Int))=((min (128 - (o - 128*k)) (m - min m (128*k - o)):Nat):Int):=by omega
   have fin:=U4 (x:=x) (off:=o) (m:=m) (k:=k) (by omega) (by omega) (by omega);rw [hb] at fin;refine ⟨hT,hl,_,_,0,⟨.inr ⟨rfl,hF⟩⟩,λ_ _ _=>aw (λhq=>by cases hq) (λ_=>?_)⟩;rcases V1 (b:=lf x k) with ⟨e1,e2⟩| e1
   .rw [hb] at e2;rw [e1];refine λ_=>aw (λhq=>by cases hq) (λ_=>λ_=>aw (λ_=>⟨by trivial,by decide,by decide,?_⟩) (λhq=>by cases hq));have e3:au 128 (0:Ty.den Ty.u8)=lf x k:=e2.symm;rw [e3];rw [mx,bm];rw [hdl];rw [mn,bm];refine ⟨by unfold aI;omega,by omega,by omega,λ_ _=>⟨by unfold aI;omega,by omega,by omega,?_,?_,by unfold aI;omega,⟨k+1,by omega,by omega,rfl,fin⟩,by omega⟩⟩
    .rw [aD,hdl];omega
    .rw [aD,hdl];omega
   .rw [e1];have hbi:((lf x k).length:Int)=128:=by omega
    rw [hbi];refine λ_=>aw (λ_=>λ_=>aw (λhq=>by cases hq) (λ_=>λ_=>aw (λhq=>by cases hq) (λ_=>?_))) (λhq=>by cases hq);rw [mx,bm];rw [hdl];rw [mn,bm];refine ⟨by unfold aI;omega,by omega,by omega,λ_ _=>⟨by unfold aI;omega,by omega,by omega,?_,?_,by unfold aI;omega,⟨k+1,by omega,by omega,rfl,fin⟩,by omega⟩⟩;rw [aD,hdl];omega;rw [aD,hdl];omega
 .have hd:¬((min m (128*k - o):Nat):Int)< m:=of_decide_eq_false hd;rw [show min m (128*k - o)=m by omega];exact .inl ⟨[0],rfl,by decide,nz rfl,h⟩
def aah:Ct:=λargs H Q=>TI args H (uB 0 [2,1] [0] H.length Q)
theorem Kv:cM 49 aah:=λargs H Q h=>Wp.YK (Q2 _ _ _ h)
def Dv:Ct
 | .v (.c (.p 0 0))::vs,[.abs a],Q=>∃ (T:List Int) (fi:Int) (b:List UInt8) (M:List (ByteArray×Int)),a=jX [.cells 157 [.de (.int .u32) T 0 0,.k (.int .i64 fi),.o 1,.m 2],.sl 5 .u8 b,.map 9 .str (.int .i64) M]/\He (.v (.c (.p 0 0))::vs) [.cells 157 [.de (.int .u32) T 0 0,.k (.int .i64 fi),.o 1,.m 2],.sl 5 .u8 b,.map 9 .str (.int .i64) M] (uB 0 [3,2] [0] 1 Q)
 | _,_,_=>False
theorem Bd:cM 79 Dv:=λargs H Q h=>by
 unfold Dv at h;split at h
 .obtain ⟨T,fi,b,M,rfl,h⟩:=h;exact Wp.JI (q:=0) (L:=[.cells 157 [.de (.int .u32) T 0 0,.k (.int .i64 fi),.o 1,.m 2],.sl 5 .u8 b,.map 9 .str (.int .i64) M]) rfl (iL _) (EF _ _ _ h)
 .cases h
def Hf:Ct
 | .v (.c (.p 0 0))::vs,[.abs a],Q=>∃ (T:List Int) (fi:Int) (b:List UInt8) (M:List (ByteArray×Int)),a=jX [.cells 157 [.de (.int .u32) T 0 0,.k (.int .i64 fi),.o 1,.m 2],.sl 5 .u8 b,.map 9 .str (.int .i64) M]/\NZ (.v (.c (.p 0 0))::vs) [.cells 157 [.de (.int .u32) T 0 0,.k (.int .i64 fi),.o 1,.m 2],.sl 5 .u8 b,.map 9 .str (.int .i64) M] (uB 0 [1,2] [0] 1 Q)
 | _,_,_=>False
theorem EG:cM 56 Hf:=λargs H Q h=>by
 unfold Hf at h;split at h
 .obtain ⟨T,fi,b,M,rfl,h⟩:=h;exact Wp.JI (q:=0) (L:=[.cells 157 [.de (.int .u32) T 0 0,.k (.int .i64 fi),.o 1,.m 2],.sl 5 .u8 b,.map 9 .str (.int .i64) M]) rfl (iL _) (Kw _ _ _ h)
 .cases h
def TF:Ct:=c0 λQ=>Q (.c (.p 0 0)) [.cells 213 [.o 1,.o 2],.sl 5 .u8 [],.sl 3 (.int .i64) []]
def TW:=(((TX.add acL).add Kv).add Bd).add EG
def Lf:dE:=
 λQ=>Q (SV.v (S1.c (.p 0 0))) [.cells 213 [.k cA,.k cA]]
theorem QZ:cM 75 TF:=fe<| iB λQ h=>by
 refine (λhh=>Wp.xr (p:=0) (t:=213) (tt:=3) (e:=.int .i64) (Wp.xr (p:=0) (t:=213) (tt:=5) (e:=.u8) hh)) ?_;refine Wp.dL TW cQ ⟨[],[]⟩ Tryz.f75 Lf ?_;unfold Lf cA;exact ⟨[],[_],rfl,[_],[],rfl,h⟩
def AY:Ct
 | [.v (.c (.p 0 0)),.v (.c cx)],[.cells 213 [.o 1,.o 2],.sl 5 .u8 row,.sl 3 (.int .i64) bg],Q=>(match (Ty.sl Ty.u8).of [cx] with
  | some (x,[])=>(A8 row bg/\row.length<=10000000/\bg.length<=100000/\x.length< 128)/\∀ nu off lE zi,A8 lE zi->qp lE zi nu off x->(∀ nu off u,qp row bg nu off u->qp lE zi nu off u)->lE.length<=row.length+128->zi.length<=bg.length+1->Q (.cZ [.c (.k (.int .i64 nu)),.c (.k (.int .i64 off))]) [.cells 213 [.o 1,.o 2],.sl 5 .u8 lE,.sl 3 (.int .i64) zi]/\Q (.cZ [.c (.k (.int .i64 nu)),.c (.k (.int .i64 off))]) [.cells 213 [.o 3,.o 4],.gone,.gone,.sl 5 .u8 lE,.sl 3 (.int .i64) zi]/\Q (.cZ [.c (.k (.int .i64 nu)),.c (.k (.int .i64 off))]) [.cells 213 [.o 3,.o 2],.gone,.sl 3 (.int .i64) zi,.sl 5 .u8 lE]
  | _=>False)
 | _,_,_=>False
def TV:=TW.add QZ
abbrev Yg (y0:List UInt8) (y1:List Int) (y2:List (Ty.u8).den) (y3:SV->List HO->Prop):=aN (List.length y0)->(List.length y1+List.length [(aF y0)])*8<=(140737488355328:Nat)/\List.length y1+List.length [(aF y0)]<=9223372036854775807/\aI .i64 ((aF y1)+1)/\(aN (List.length y0)->aI .i64 ((aF y1)+1 - 1)/\ah<=(aF y1)+1 - 1/\(aF y1)+1 - 1< (a6 (y1++ [(aF y0)]))/\ah<=(aF y1)+1 - 1/\(aF y1)+1 - 1< (a6 (y1++ [(aF y0)]))/\(Ty.ok bw (aB bw (y1++ [(aF y0)]) ((aF y1)+1 - 1))->aI .i64 ((aF y0) - aB bw (y1++ [(aF y0)]) ((aF y1)+1 - 1))/\(List.length y0+List.length y2)*1<=(140737488355328:Nat)/\List.length y0+List.length y2<=9223372036854775807/\y3 (.cZ [.c (.k (.int .i64 ((aF y1)+1))),.c (.k (.int .i64 ((aF y0) - aB bw (y1++ [(aF y0)]) ((aF y1)+1 - 1))))]) [.cells 213 [.o 3,.o 4],.gone,.gone,.sl 5 Ty.u8 (y0++y2),.sl 3 bw (y1++ [(aF y0)])]))
def Lg (x:(List (Ty.u8).den)) (row:List UInt8) (bg:List Int):dE:=λQ=>cW x (aN (dv x)->br (decide ((aF x)< a8)) (Q yq [.cells 213 [.o 1,.o 2],.sl 5 Ty.u8 row,.sl 3 bw bg]) (aN (dv x)->br (decide ((aF x)≥bI)) (Q yq [.cells 213 [.o 1,.o 2],.sl 5 
 Ty.u8 row,.sl 3 bw bg]) (aN (List.length bg)->br ((aF bg)==0) (Yg row bg x Q) (db row (aI .i64 ((aF bg) - 1)/\ah<=(aF bg) - 1/\(aF bg) - 1< (aF bg)/\ah<=(aF bg) - 1/\(aF bg) - 1< (aF bg)/\ 
 (Ty.ok bw (aB bw bg ((aF bg) - 1))->aI .i64 ((aF row) - aB bw bg ((aF bg) - 1))/\(aN (dv x)->aI .i64 ((aF row) - aB bw bg ((aF bg) - 1)+(aF x))/\br (decide ((aF row) - aB bw bg ((aF bg) - 1)+ 
 (aF x)>bI)) (Yg row bg x Q) (db row (aI .i64 ((aF bg) - 1)/\ah<=(aF bg) - 1/\(aF bg) - 1< (aF bg)/\ah<=(aF bg) - 1/\(aF bg) - 1< (aF bg)/\(Ty.ok bw (aB bw bg ((aF bg) - 1))->aI .i64 
 ((aF row) - aB bw bg ((aF bg) - 1))/\yz row x (Q (.cZ [.c (.k (.int .i64 (aF bg))),.c (.k (.int .i64 ((aF row) - aB bw bg ((aF bg) - 1))))]) [.cells 213 [.o 3,.o 2],.gone,.sl 3 bw bg,.sl 5 Ty.u8 (row++ 
 x)])))))))))))
theorem Q0:cM 77 AY:=by
 intro args H Q h;unfold AY at h;split at h;rotate_left;cases h;rename_i cx row bg;split at h;rotate_left;cases h;rename_i x hx;refine Wp.said (args':=[.v (.c (.p 0 0)),.c (.d Ty.u8 x)]) (λE g=>bE.dd (λ_ h=>h) (bE.dd (dR hx) (λ_ h=>h))) ?_;clear hx;refine Wp.dL TV cQ ⟨[],[]⟩ Tryz.f77 (Lg x row bg) ?_;unfold Lg yq dv yz db cC cW Yg bn ah a8 bI a6 aF aN bw;obtain ⟨⟨hF,hr,hb,hx⟩,h⟩:=h;refine λ_ _=>aw (λhc=>?_) (λhc=>λ_=>aw (λhd=>absurd (of_decide_eq_true hd) (by omega)) (λ_=>λ_=>?_))
 .have hc:(x.length:Int)< 1:=of_decide_eq_true hc;obtain rfl:x= []:=aK (by omega);exact (h 0 0 row bg hF ⟨.inl ⟨rfl,rfl,rfl⟩⟩ (λ_ _ _ q=>q) (by omega) (by omega)).1
 have hc:¬(x.length:Int)< 1:=of_decide_eq_false hc;obtain ⟨m1,m2,m3⟩:=hF.next (t:=x) (by omega) hx
 have uw:=(h _ _ _ _ m1 m2 m3 (by rw [af];omega) (by simp)).2.1;have e1:(bg++ [(row.length:Int)]).length=bg.length+1:=by simp
 have e2:aB (.int .i64) (bg++ [(row.length:Int)]) ((bg.length:Int)+1 - 1)=row.length:=by
  rw [show (bg.length:Int)+1 - 1=bg.length by omega,iI (by rw [e1];omega)];simp
 have go:(List.length bg+List.length [(row.length:Int)])*8<=140737488355328/\List.length bg+List.length [(row.length:Int)]<=9223372036854775807/\aI .i64 ((bg.length:Int)+1):=⟨by simp only [ay];omega,by simp only [ay];omega,by unfold aI;omega⟩;refine aw (λhz=>λ_=>⟨go.1,go.2.1,go.2.2,λ_=>?_⟩) (λhz=>λ_=>?_)
 .rw [e2,e1];exact ⟨by unfold aI;omega,by omega,by omega,by omega,by omega,λ_=>⟨by unfold aI;omega,by omega,by omega,by rw [Int.sub_self];exact uw⟩⟩
 have hz:¬(bg.length:Int)=0:=by simpa using hz
 obtain ⟨n,hn⟩:∃ n,bg.length=n+1:=⟨bg.length - 1,by omega⟩;have hg:=ak (show n< bg.length by omega);have hl:=hF.all n bg[n] hg;rw [nZ hn] at hl;have e3:aB (.int .i64) bg ((bg.length:Int) - 1)=bg[n]:=by
  rw [show (bg.length:Int) - 1=(n:Nat) by omega,iI (by omega)]
 rw [e3];refine ⟨by unfold aI;omega,by omega,by omega,by omega,by omega,λ_=>⟨by unfold aI;omega,λ_=>⟨by unfold aI;omega,aw (λhd=>λ_=>⟨go.1,go.2.1,go.2.2,λ_=>?_⟩) (λhd=>λ_=>?_)⟩⟩⟩
 .rw [e2,e1];exact ⟨by unfold aI;omega,by omega,by omega,by omega,by omega,λ_=>⟨by unfold aI;omega,by omega,by omega,by rw [Int.sub_self];exact uw⟩⟩
 .have hd:¬(row.length:Int) - bg[n]+x.length>128:=of_decide_eq_false hd;obtain ⟨k1,k2,k3⟩:=hF.more (t:=x) hn hg (by omega) hx (by omega);have hold:=(h _ _ _ _ k1 k2 k3 (by rw [af];omega) (by omega)).2.2;rw [show (n:Int)+1=bg.length by omega] at hold;exact ⟨by unfold aI;omega,by omega,by omega,by omega,by omega,λ_=>⟨by unfold aI;omega,by omega,by omega,hold⟩⟩
def Du:Ct:=cP<| cO λH Q=>match H with
 | [.cells 213 [.o 1,.o 2],.sl 5 .u8 row,.sl 3 (.int .i64) bg]=>(A8 row bg/\row.length<=10000000/\bg.length<=100000)/\Q (.c (.d (.sl .u8) (mL row bg bg.length))) [.cells 213 [.o 1,.o 2],.sl 5 .u8 row,.sl 3 (.int .i64) bg]
 | _=>False
def aeU:=TV.add Q0
abbrev F7 (y0:List Int) (y1):=cq (some (aB bw y0 y1)) ah
abbrev vt (y0:List Int) (y1) (y2:List UInt8):=List.drop (aA (F7 y0 y1)) y2
abbrev Im (y0:List Int) (y1):=aA (aB bw y0 (y1+1)) - aA (F7 y0 y1)
def zE (row:List UInt8) (bg:List Int):dE:=λQ=>List.length row<=140737488355328/\(db row (aN (List.length bg)->ba (λi ag=>br (decide (i.1.1< (aF bg))) (qF i.1.1 bg (Ty.ok bw (aB bw bg i.1.1)->db row (cG i.1.1 (aN (List.length bg)-> 
 br (decide (i.1.1+1< (aF bg))) (cG i.1.1 (0<=i.1.1+1/\i.1.1+1< (aF bg)/\0<=i.1.1+1/\i.1.1+1< (aF bg)/\(Ty.ok bw (aB bw bg (i.1.1+1))->0<=cq (some (aB bw bg i.1.1)) ah/\cq (some (aB bw 
 bg i.1.1)) 0<=aB bw bg (i.1.1+1)/\aB bw bg (i.1.1+1)<=aB bw bg (i.1.1+1)/\aB bw bg (i.1.1+1)<=(aF row)/\(List.length i.1.2.1+List.length [List.take (Im bg i.1.1) (vt bg i.1.1 row)])*24<=cC/\ 
 List.length i.1.2.1+List.length [List.take (Im bg i.1.1) (vt bg i.1.1 row)]<=9223372036854775807/\cG i.1.1 (ag ((i.1.1+1,i.1.2.1++ [List.take (Im bg i.1.1) (vt bg i.1.1 row)],()),()))))) (0<=cq (some (aB 
 bw bg i.1.1)) ah/\cq (some (aB bw bg i.1.1)) ah<=(aF row)/\(aF row)<=(aF row)/\(aF row)<=(aF row)/\(List.length i.1.2.1+List.length [List.take (aA (aF row) - aA (F7 bg i.1.1)) (vt bg 
 i.1.1 row)])*24<=cC/\List.length i.1.2.1+List.length [List.take (aA (aF row) - aA (F7 bg i.1.1)) (vt bg i.1.1 row)]<=9223372036854775807/\cG i.1.1 (ag ((i.1.1+1,i.1.2.1++ [List.take (aA (aF 
 row) - aA (F7 bg i.1.1)) (vt bg i.1.1 row)],()),()))))))) (Q (SV.v (S1.c (.o 3))) [.cells 213 [.o 1,.o 2],.sl 5 Ty.u8 row,.sl 3 bw bg,.sl 35 bD i.1.2.1])) ((ah,[],()),())))
theorem OB:cM 78 Du:=fe<| rK<| rM λH Q h=>by
 split at h;rotate_left;cases h;rename_i row bg;refine Wp.lY [some (.sl (.sl .u8))] [3] ?_;refine Wp.dL aeU cQ ⟨[(5,⟨[(18,.int .i64),(3,.own 35 (.sl .u8))],[]⟩)],[]⟩ Tryz.f78 (zE row bg) ?_;unfold zE qF Im vt db cG F7 cC ah aF aN bD bw;obtain ⟨⟨hF,hr,hb⟩,h⟩:=h;refine ⟨by omega,λ_ _=>ba.intro (λi=>∃ k:Nat,k<=bg.length/\i.1.1=(k:Int)/\i.1.2.1=mL row bg k) (λi=>bg.length - i.1.1.toNat) ⟨0,cr _,rfl,rfl⟩ ?_⟩;rintro ⟨⟨j,l,_⟩,_⟩ ⟨k,hk,h1,h2⟩;simp only at h1 h2 ⊢;subst h1 h2;have hl:=uk row bg k;refine aw (λhc=>?_) (λhc=>?_)
 .have hc:(k:Int)< bg.length:=of_decide_eq_true hc;have qS:k< bg.length:=by omega
  have hg:=ak qS;have ha:=hF.all k bg[k] hg;have hs:=Qy row bg k;rw [hg,Option.getD_some] at hs;rw [iI (e:=.int .i64) qS];have b0:cq (some bg[k]) 0=bg[k]:=rfl;rw [b0];have fin:∀ z:Int,z=oP row bg k->mL row bg k++ [List.take (z.toNat - bg[k].toNat) (List.drop bg[k].toNat row)]=mL row bg (k+1):=λz e=>by
   rw [hs,e,show (oP row bg k).toNat - bg[k].toNat=(oP row bg k - bg[k]).toNat by omega]
  refine ⟨by omega,hc,by omega,hc,λ_ _=>⟨by unfold aI;omega,λ_=>aw (λhd=>?_) (λhd=>?_)⟩⟩
  .have hd:(k:Int)+1< bg.length:=of_decide_eq_true hd;have he:aB (.int .i64) bg ((k:Int)+1)=oP row bg k:=by
    have:=iI (e:=.int .i64) (l:=bg) (k:=k+1) (by omega);unfold oP;rw [ak (show k+1< bg.length by omega)];exact this
   rw [he];exact ⟨by unfold aI;omega,by omega,hd,by omega,hd,λ_=>⟨by omega,by omega,bp _,ha.2.2.2,by simp only [ay];omega,by simp only [ay];omega,by unfold aI;omega,⟨k+1,by omega,by omega,fin _ rfl⟩,by omega⟩⟩
  .have hd:¬(k:Int)+1< bg.length:=of_decide_eq_false hd;have he:(row.length:Int)=oP row bg k:=by rw [nZ (by omega)]
   exact ⟨by omega,by omega,by omega,bp _,by simp only [ay];omega,by simp only [ay];omega,by unfold aI;omega,⟨k+1,by omega,by omega,fin _ he⟩,by omega⟩
 .have hc:¬(k:Int)< bg.length:=of_decide_eq_false hc;obtain rfl:k=bg.length:=by omega
  exact ⟨by show 3<=4;decide,h⟩
def aaa:Ct:=λargs H Q=>TF args H (uB 0 [1,2] [0] H.length Q)
theorem W5:cM 75 aaa:=λargs H Q h=>Wp.YK (QZ _ _ _ h)
def Ai:Ct
 | .v (.c (.p 0 0))::vs,[.abs a],Q=>∃ (row:List UInt8) (bg:List Int),a=jX [.cells 213 [.o 1,.o 2],.sl 5 .u8 row,.sl 3 (.int .i64) bg]/\Du (.v (.c (.p 0 0))::vs) [.cells 213 [.o 1,.o 2],.sl 5 .u8 row,.sl 3 (.int .i64) bg] (uB 0 [1,2] [0] 1 Q)
 | _,_,_=>False
theorem Ku:cM 78 Ai:=λargs H Q h=>by
 unfold Ai at h;split at h
 .obtain ⟨row,bg,rfl,h⟩:=h;exact Wp.JI (q:=0) (L:=[.cells 213 [.o 1,.o 2],.sl 5 .u8 row,.sl 3 (.int .i64) bg]) rfl (iL _) (OB _ _ _ h)
 .cases h
def NY:Ct
 | [.v (.c (.p 0 0)),.v (.c cx)],[.abs a],Q=>(match (Ty.sl Ty.u8).of [cx] with
  | some (x,[])=>∃ row bg,a=jX [.cells 213 [.o 1,.o 2],.sl 5 .u8 row,.sl 3 (.int .i64) bg]/\(A8 row bg/\row.length<=10000000/\bg.length<=100000/\x.length< 128)/\∀ nu off lE zi,A8 lE zi->qp lE zi nu off x->(∀ nu off u,qp row bg nu off u->qp lE zi nu off u)->lE.length<=row.length+128->zi.length<=bg.length+1->Q (.cZ [.c (.k (.int .i64 nu)),.c (.k (.int .i64 off))]) [.abs (jX [.cells 213 [.o 1,.o 2],.sl 5 .u8 lE,.sl 3 (.int .i64) zi])]
  | _=>False)
 | _,_,_=>False
theorem W6:cM 77 NY:=by
 intro args H Q h;unfold NY at h;split at h;rotate_left;cases h;rename_i Q cx a;split at h;rotate_left;cases h;rename_i x hx;obtain ⟨row,bg,rfl,h0,h⟩:=h;refine Wp.sel (Wp.Zs (Wp.Yw (p:=0) (L:=[.cells 213 [.o 1,.o 2],.sl 5 .u8 row,.sl 3 (.int .i64) bg]) rfl (iL _) (Q0 _ _ _ ?_)));show AY _ [.cells 213 [.o 1,.o 2],.sl 5 .u8 row,.sl 3 (.int .i64) bg] _;unfold AY;simp only [hx];refine ⟨h0,λnu off lE zi h1 h2 h3 h4 h5=>?_⟩;have h6:=h nu off lE zi h1 h2 h3 h4 h5;exact ⟨⟨0,[1,2],by decide,nz rfl,[0],rfl,by decide,nz rfl,h6⟩,⟨0,[3,4],by decide,nz rfl,[0],rfl,by decide,nz rfl,h6⟩,⟨0,[3,2],by decide,nz rfl,[0],rfl,by decide,nz rfl,h6⟩⟩
end Go.Proofs

namespace Go.Lm
open Go Go.RowKit
section
variable {L:List (Int×rJ)} {Y:UpY}
theorem uO {α:Type} {p:α->Bool} {g:α->α} (h:∀ x,p (g x)=p x):∀ l:List α,(l.map g).find? p=(l.find? p).map g
 | []=>rfl
 | x::l=>by
  simp only [cg,List.find?_cons,h];cases p x with
  | true=>rfl
  | false=>exact uO h l
theorem TQ {r:Int} {f:bx->bx} (hf:∀ n,(f n).2.1=n.2.1) (x:Int):({Y with L:=oY Y.L r f}:UpY).at x=(Y.at x).map λn=>bif rQ r n then f n else n:=by
 unfold UpY.at oY;refine uO (λn=>?_) Y.L;unfold rQ;cases n.2.1==r<;>simp [hf]
theorem UL {r:Int} {f:bx->bx} (hf:∀ n,(f n).2.1=n.2.1) (l:List bx):(oY l r f).map (·.2.1)=l.map (·.2.1):=by
 unfold oY;rw [List.map_map];refine gH λn _=>?_;show (bif rQ r n then f n else n).2.1=n.2.1;cases rQ r n<;>simp [hf]
end
section
variable {L:List (Int×rJ)} {Y:UpY}
theorem Ti (E:List Ub) (d:Int) (s:ByteArray) (x r:Int):(E++ [(d,s,x,())]).countP (UA r)=E.countP (UA r)+if x=r then 1 else 0:=by
 rw [List.countP_append];congr 1;unfold UA;by_cases h:x=r<;>simp [h]
theorem QD {n:bx} {r:Int} {y:bx} (h:Y.at r=some y) (E:List Ub) (nx:Int):({Y with L:=Y.L++ [n],E:=E,nx:=nx}:UpY).at r=some y:=by
 show (Y.L++ [n]).find? (rQ r)=some y;rw [List.find?_append];have:Y.L.find? (rQ r)=some y:=h;rw [this];rfl
theorem QE {n:bx} {r:Int} (h:Y.at r=none) (hn:n.2.1=r) (E:List Ub) (nx:Int):({Y with L:=Y.L++ [n],E:=E,nx:=nx}:UpY).at r=some n:=by
 show (Y.L++ [n]).find? (rQ r)=some n;rw [List.find?_append];have:Y.L.find? (rQ r)=none:=h;rw [this];simp [rQ,hn]
theorem adt (w:Y.Wf):Y.at Y.nx=none:=aeR.2 λn hn e=>by
 have:=(w.lo n hn).2;omega
theorem ajl (w:Y.Wf) {e:Ub} (he:e∈Y.E):∃ y,Y.at e.1=some y/\y.2.2.1=1:=iU.1 (w.dir e he).1
theorem aaC (w:Y.Wf) {e:Ub} (he:e∈Y.E):∃ y,Y.at e.2.2.1=some y:=by
 have:=(w.ref e he).2;unfold UpY.atE at this;cases hy:Y.at e.2.2.1 with
 | none=>rw [hy] at this;cases this
 | some y=>exact ⟨y,rfl⟩
theorem ahW (w:Y.Wf):1< Y.nx:=by
 obtain ⟨y1,hy1,_⟩:=iU.1 w.root;have:=w.lo y1 (at_mem hy1).1;omega
end
section
variable {L:List (Int×rJ)} {Y:UpY}
end
section
variable {α β:Type}
end
section
variable {L:List (Int×rJ)} {Y:UpY}
theorem zj (w:Y.Wf) {n:bx} (h:n∈Y.L):Y.at n.2.1=some n:=by
 have key:∀ l:List bx,(l.map (·.2.1)).Nodup->n∈l->l.find? (rQ n.2.1)=some n:=λl=>by
  induction l with
  | nil=>intro _ h;cases h
  | cons x l ih=>
   intro hn h;obtain ⟨h1,h2⟩:=eD.1 hn;rw [List.find?_cons];by_cases q:x.2.1=n.2.1
   .have e:rQ n.2.1 x=true:=by simp [rQ,q]
    rw [e];rcases aX.1 h with h| h;rw [h]
    .have h3:n.2.1∈l.map (·.2.1):=aM.2 ⟨n,h,rfl⟩;rw [<-q] at h3;exact absurd h3 h1
   .have e:rQ n.2.1 x=false:=by simpa [rQ] using q
    rw [e];rcases aX.1 h with h| h;exact absurd (by rw [h]) q;exact ih h2 h
 exact key _ w.nd h
end
def UpY.new (a b:Int):UpY:=⟨a,b,[([],1,1,(493,0,0,()),[],⟨#[]⟩,[],false,())],[],2⟩
theorem ah0 (a b:Int):(UpY.new a b).Wf where
 nd:=by simp [UpY.new]
 lo:=λn hn=>by
  have:n=_:=aR.1 hn;subst this;exact ⟨by decide,by show (1:Int)< 2;decide⟩
 root:=rfl
 nm:=λn hn=>by
  have:n=_:=aR.1 hn;subst this;exact ⟨rfl,.inl rfl,by kernel_rfl⟩
 ne:=by simp [UpY.new]
 dir:=λe he=>by cases he
 ref:=λe he=>by cases he
 has:=λn hn h=>by
  have:n=_:=aR.1 hn;subst this;exact absurd rfl h
 one:=λe he=>by cases he
 dep:=⟨λ_=>0,λe he=>by cases he⟩
theorem ac8 (a b:ByteArray):lD a b=decide (a.data.toList< b.data.toList):=by
 unfold lD;rw [Lib.toList_data,Lib.toList_data,Go.Proofs.bytesLess_eq]
theorem fb {e:Ty} {l:List e.den} {i:Int} (h0:0<=i) (h:i< l.length):aB e l i=l[i.toNat]'(by omega):=by
 unfold aB;rw [aP,ak (by omega)];rfl
section
variable {α:Type}
end
section
variable {Y:UpY}
def afI (n:bx):Prop:=n.1= []/\((n.2.2.1=1\/n.2.2.2.2.2.2.2.1=false)/\wT n=true)
theorem ue {r:Int} {f:bx->bx} (hf:∀ n,(f n).2.1=n.2.1) (hk:∀ n,(f n).2.2.1=n.2.2.1) (x:Int):({Y with L:=oY Y.L r f}:UpY).lA x=Y.lA x:=by
 unfold UpY.lA;rw [TQ hf];cases Y.at x with
 | none=>rfl
 | some n=>
  simp only [lu];cases rQ r n<;>simp [hk]
theorem aaD {r:Int} {f:bx->bx} (hf:∀ n,(f n).2.1=n.2.1) (x:Int):({Y with L:=oY Y.L r f}:UpY).atE x=Y.atE x:=by
 unfold UpY.atE;rw [TQ hf];cases Y.at x<;>rfl
theorem BP {r:Int} {f:bx->bx} {L:List bx} {n:bx} (h:n∈oY L r f):∃ n0∈L,(n0.2.1=r/\n=f n0)\/n=n0:=by
 unfold oY at h;obtain ⟨n0,h0,rfl⟩:=aM.1 h;refine ⟨n0,h0,?_⟩;cases q:rQ r n0 with
 | true=>exact .inl ⟨by simpa [rQ] using q,rfl⟩
 | false=>exact .inr rfl
theorem UpY.Wf.oY (w:Y.Wf) {r:Int} {f:bx->bx} (hf:∀ n,(f n).2.1=n.2.1) (hk:∀ n,(f n).2.2.1=n.2.2.1) (hg:∀ n∈Y.L,n.2.1=r->afI (f n)):({Y with L:=Lm.oY Y.L r f}:UpY).Wf where
 nd:=by
  show ((Lm.oY Y.L r f).map (·.2.1)).Nodup;rw [UL hf];exact w.nd
 lo:=λn hn=>by
  obtain ⟨n0,h0,⟨_,rfl⟩| rfl⟩:=BP hn;rw [hf];exact w.lo n0 h0;exact w.lo n h0
 root:=by rw [ue hf hk];exact w.root
 nm:=λn hn=>by
  obtain ⟨n0,h0,⟨h1,rfl⟩| rfl⟩:=BP hn;exact hg n0 h0 h1;exact w.nm n h0
 ne:=w.ne
 dir:=λe he=>by rw [ue hf hk];exact w.dir e he
 ref:=λe he=>by rw [aaD hf];exact w.ref e he
 has:=λn hn h1=>by
  obtain ⟨n0,h0,⟨_,rfl⟩| rfl⟩:=BP hn;rw [hf] at h1 ⊢;exact w.has n0 h0 h1;exact w.has n h0 h1
 one:=λe he h=>by
  rw [ue hf hk] at h;exact w.one e he h
 dep:=by
  obtain ⟨d,hd⟩:=w.dep;exact ⟨d,λe he h=>by rw [ue hf hk] at h;exact hd e he h⟩
theorem Vi {n:bx} {a:AtD} (hn:wT n=true) (hk:n.2.2.1≠4) (ha:YM a=true):wT (n.wy a)=true:=by
 unfold wT at hn ⊢;rw [if_neg hk] at hn;rw [if_neg (show ¬(n.wy a).2.2.1=4 from hk)];unfold iF bx.dU bx.wy at*;simp only at hn ⊢;have ha:Ax a.1 a.2.1 a.2.2.1=true:=ha;by_cases h1:n.2.2.1=1
 .simp only [h1,if_true,ao] at hn ⊢;exact ⟨⟨hn.1.1,ha⟩,hn.2⟩
 .by_cases h2:n.2.2.1=2
  .simp only [h2,show ¬(2:Int)=1 by decide,if_true,if_false,ao] at hn ⊢;exact ⟨⟨hn.1.1,ha⟩,hn.2⟩
  .by_cases h3:n.2.2.1=3
   .simp only [h3,show ¬(3:Int)=1 by decide,show ¬(3:Int)=2 by decide,if_true,if_false,ao] at hn ⊢;exact ⟨⟨hn.1.1,ha⟩,hn.2⟩
   .simp only [h1,h2,h3,if_false] at hn;cases hn
theorem Vh {n:bx} {x:List uT} (hn:wT n=true) (hk:n.2.2.1≠4) (hx:dI x=true):wT (n.ac4 x)=true:=by
 unfold wT at hn ⊢;rw [if_neg hk] at hn;rw [if_neg (show ¬(n.ac4 x).2.2.1=4 from hk)];unfold iF bx.dU bx.ac4 at*;simp only at hn ⊢;by_cases h1:n.2.2.1=1
 .simp only [h1,if_true,ao] at hn ⊢;exact ⟨hn.1,hx⟩
 .by_cases h2:n.2.2.1=2
  .simp only [h2,show ¬(2:Int)=1 by decide,if_true,if_false,ao] at hn ⊢;exact ⟨hn.1,hx⟩
  .by_cases h3:n.2.2.1=3
   .simp only [h3,show ¬(3:Int)=1 by decide,show ¬(3:Int)=2 by decide,if_true,if_false,ao] at hn ⊢;exact ⟨hn.1,hx⟩
   .simp only [h1,h2,h3,if_false] at hn;cases hn
structure UpY.Od (Y:UpY) (n:Nat):Prop where
 wf:Y.Wf
 en:Y.E.length<=n
 nb:Y.nx<=n+2
theorem UpY.Od.le {n m:Nat} (h:Y.Od n) (hn:n<=m):Y.Od m:=⟨h.wf,by have:=h.en;omega,by have:=h.nb;omega⟩
theorem ady (a b:Int):(UpY.new a b).Od 0:=⟨ah0 a b,az _,by show (2:Int)<=_;omega⟩
theorem UpY.Od.oY {n:Nat} (h:Y.Od n) {r:Int} {f:bx->bx} (hf:∀ n,(f n).2.1=n.2.1) (hk:∀ n,(f n).2.2.1=n.2.2.1) (hg:∀ n∈Y.L,n.2.1=r->afI (f n)):({Y with L:=Lm.oY Y.L r f}:UpY).Od n:=⟨h.wf.oY hf hk hg,h.en,h.nb⟩
theorem MC {n:Nat} (h:Y.Od n) (r:Int) (a:AtD):(Y.gP r a).Od n:=by
 unfold UpY.gP;split
 .rename_i h0;refine h.oY (λ_=>rfl) (λ_=>rfl) λy hy hr=>?_;have uA:Y.at r=some y:=by rw [<-hr];exact zj h.wf hy
  unfold UpY.BQ at h0;rw [uA] at h0;simp only at h0;split at h0;cases h0
  .rename_i h1;obtain ⟨g1,g2,g3⟩:=h.wf.nm y hy;refine ⟨g1,g2,Vi g3 (λq=>h1 (.inl q)) ?_⟩;cases hm:YM a with
   | true=>rfl
   | false=>exact absurd (.inr hm) h1
 .exact h
theorem Ea {n:Nat} (h:Y.Od n) (r:Int) (x:List uT):(Y.ft r x).Od n:=by
 unfold UpY.ft;split
 .rename_i h0;refine h.oY (λ_=>rfl) (λ_=>rfl) λy hy hr=>?_;have uA:Y.at r=some y:=by rw [<-hr];exact zj h.wf hy
  unfold UpY.vc at h0;rw [uA] at h0;simp only at h0;split at h0;cases h0
  .rename_i h1;obtain ⟨g1,g2,g3⟩:=h.wf.nm y hy;refine ⟨g1,g2,Vh g3 (λq=>h1 (.inl q)) ?_⟩;cases hm:dI x with
   | true=>rfl
   | false=>exact absurd (.inr hm) h1
 .exact h
theorem uI {n:Nat} (h:Y.Od n) (r:Int) (q:Bool):(Y.fJ r q).Od n:=by
 unfold UpY.fJ;split
 .rename_i h0;refine h.oY (λ_=>rfl) (λ_=>rfl) λy hy hr=>?_;have uA:Y.at r=some y:=by rw [<-hr];exact zj h.wf hy
  obtain ⟨y',CW,hk⟩:=iU.1 h0;rw [uA] at CW;obtain rfl:=aj CW;obtain ⟨g1,g2,g3⟩:=h.wf.nm y hy;exact ⟨g1,.inl hk,g3⟩
 .exact h
theorem Ac {d:Int} {s:ByteArray} (h:Y.qW d s=0):Y.lA d=0/\dA s=0/\Y.kK d s=none:=by
 unfold UpY.qW at h;split at h
 .rename_i h1;split at h
  .rename_i h2;cases hx:Y.kK d s with
   | none=>exact ⟨h1,h2,rfl⟩
   | some e=>rw [hx] at h;cases h
  .rename_i h2;exact absurd h h2
 .rename_i h1;exact absurd h h1
theorem YL {E:List Ub} (h:(E.map λe=>(e.1,e.2.1)).Nodup) {d:Int} {s:ByteArray} {r:Int} (hn:∀ e∈E,¬(e.1=d/\e.2.1=s)):((E++ [(d,s,r,())]).map λe=>(e.1,e.2.1)).Nodup:=by
 rw [eR];refine fm.2 ⟨h,by simp,λa ha b hb=>?_⟩;have hb:b=(d,s):=by simpa using hb
 subst hb;obtain ⟨e,he,rfl⟩:=aM.1 ha;exact λq=>hn e he ⟨congrArg Prod.fst q,congrArg Prod.snd q⟩
theorem xB {r:Int}:Y.atE r=0↔∃ y,Y.at r=some y:=by
 unfold UpY.atE;cases Y.at r<;>simp
theorem UpY.Wf.make (w:Y.Wf) {d:Int} {s:ByteArray} {x:bx} (hd:Y.lA d=0) (hs:dA s=0) (hn:Y.kK d s=none) (hm:wT x=true):({Y with L:=Y.L++ [Y.qb x],E:=Y.E++ [(d,s,Y.nx,())],nx:=Y.nx+1}:UpY).Wf:=by
 have hnx:=adt w;have hp:=ahW w;have vW:∀ {z y},Y.at z=some y->({Y with L:=Y.L++ [Y.qb x],E:=Y.E++ [(d,s,Y.nx,())],nx:=Y.nx+1}:UpY).at z=some y:=λh=>QD h _ _;have dold:∀ {z},Y.lA z=0->({Y with L:=Y.L++ [Y.qb x],E:=Y.E++ [(d,s,Y.nx,())],nx:=Y.nx+1}:UpY).lA z=0:=λh=>by
  obtain ⟨y,hy,hk⟩:=iU.1 h;exact iU.2 ⟨y,vW hy,hk⟩
 have dback:∀ {e},e∈Y.E->({Y with L:=Y.L++ [Y.qb x],E:=Y.E++ [(d,s,Y.nx,())],nx:=Y.nx+1}:UpY).lA e.2.2.1=0->Y.lA e.2.2.1=0:=λhe h=>by
  obtain ⟨y,hy⟩:=aaC w he;obtain ⟨y',CW,hk⟩:=iU.1 h;rw [vW hy] at CW;obtain rfl:=aj CW;exact iU.2 ⟨y,hy,hk⟩
 have noref:∀ e∈Y.E,e.2.2.1≠Y.nx:=λe he q=>by
  obtain ⟨y1,h1⟩:=aaC w he;rw [q,hnx] at h1;cases h1
 have nodir:∀ e∈Y.E,e.1≠Y.nx:=λe he q=>by
  obtain ⟨y1,h1,_⟩:=ajl w he;rw [q,hnx] at h1;cases h1
 have hdn:d≠Y.nx:=λq=>by
  obtain ⟨y,hy,_⟩:=iU.1 hd;rw [q,hnx] at hy;cases hy
 refine ⟨?_,?_,dold w.root,?_,YL w.ne (xl.1 hn),?_,?_,?_,?_,?_⟩
 .show ((Y.L++ [Y.qb x]).map (·.2.1)).Nodup;rw [eR];refine fm.2 ⟨w.nd,by simp,λa ha b hb=>?_⟩;have hb:b=Y.nx:=aR.1 hb;obtain ⟨n,hn,rfl⟩:=aM.1 ha;have:=(w.lo n hn).2;omega
 .intro n hn;show 1<=n.2.1/\n.2.1< Y.nx+1;rcases aY.1 hn with hn| hn
  .have:=w.lo n hn;omega
  .have:n=Y.qb x:=by simpa using hn
   subst this;show 1<=Y.nx/\Y.nx< Y.nx+1;omega
 .intro n hn;rcases aY.1 hn with hn| hn
  .exact w.nm n hn
  .have:n=Y.qb x:=by simpa using hn
   subst this;exact ⟨rfl,.inr rfl,hm⟩
 .intro e he;rcases aY.1 he with he| he
  .exact ⟨dold (w.dir e he).1,(w.dir e he).2⟩
  .have:e=(d,s,Y.nx,()):=by simpa using he
   subst this;exact ⟨dold hd,hs⟩
 .intro e he;rcases aY.1 he with he| he
  .obtain ⟨h1,h2⟩:=w.ref e he;obtain ⟨y,hy⟩:=xB.1 h2;exact ⟨h1,xB.2 ⟨y,vW hy⟩⟩
  .have:e=(d,s,Y.nx,()):=by simpa using he
   subst this;exact ⟨by show Y.nx≠1;omega,xB.2 ⟨_,QE hnx rfl _ _⟩⟩
 .intro n hn h1;show (Y.E++ [(d,s,Y.nx,())]).any (UA n.2.1)=true;rw [List.any_append];rcases aY.1 hn with hn| hn
  .rw [w.has n hn h1];rfl
  .have:n=Y.qb x:=by simpa using hn
   subst this;have:UA (Y.qb x).2.1 (d,s,Y.nx,())=true:=by unfold UA;exact beq_self_eq_true _
   simp [this]
 .intro e he h;show (Y.E++ [(d,s,Y.nx,())]).countP (UA e.2.2.1)=1;rw [Ti];rcases aY.1 he with he| he
  .rw [if_neg (Ne.symm (noref e he)),w.one e he (dback he h)]
  .have:e=(d,s,Y.nx,()):=by simpa using he
   subst this;rw [if_pos rfl,List.countP_eq_zero.2 λe he=>by simpa [UA] using noref e he]
 .obtain ⟨dp,hdp⟩:=w.dep;refine ⟨λz=>if z=Y.nx then dp d+1 else dp z,λe he h=>?_⟩
  rcases aY.1 he with he| he
  .simp only [if_neg (nodir e he),if_neg (noref e he)];exact hdp e he (dback he h)
  .have:e=(d,s,Y.nx,()):=by simpa using he
   subst this;simp only [if_neg hdn,if_pos];omega
theorem Yy {n:Nat} (h:Y.Od n) (d:Int) (s:ByteArray) (x:bx):(Y.oG d s x).Od (n+1):=by
 unfold UpY.oG;split
 .rename_i h0;unfold UpY.MK at h0;split at h0
  .rename_i hf;obtain ⟨h1,h2,h3⟩:=Ac hf;split at h0
   .rename_i hm;refine ⟨h.wf.make h1 h2 h3 hm,?_,?_⟩
    .show (Y.E++ [_]).length<=_;have:=h.en;simp;omega
    .show Y.nx+1<=_;have:=h.nb;omega
   .cases h0
  .rename_i hf;exact absurd h0 hf
 .exact h.le (Nat.le_succ n)
theorem UpY.Wf.link (w:Y.Wf) {d r:Int} {s:ByteArray} {y:bx} (hd:Y.lA d=0) (hs:dA s=0) (hn:Y.kK d s=none) (hy:Y.at r=some y) (hk:y.2.2.1≠1):({Y with E:=Y.E++ [(d,s,r,())]}:UpY).Wf:=by
 have hnd:Y.lA r≠0:=λq=>by
  obtain ⟨y',CW,vY⟩:=iU.1 q;rw [hy] at CW;obtain rfl:=aj CW;exact hk vY
 have vX:r≠1:=λq=>hnd (by rw [q];exact w.root);refine ⟨w.nd,w.lo,w.root,w.nm,YL w.ne (xl.1 hn),λe he=>?_,λe he=>?_,λn hn h1=>?_,λe he h=>?_,?_⟩
 .rcases aY.1 he with he| he
  .exact w.dir e he
  .have:e=(d,s,r,()):=by simpa using he
   subst this;exact ⟨hd,hs⟩
 .rcases aY.1 he with he| he
  .exact w.ref e he
  .have:e=(d,s,r,()):=by simpa using he
   subst this;exact ⟨vX,xB.2 ⟨y,hy⟩⟩
 .show (Y.E++ [(d,s,r,())]).any (UA n.2.1)=true;rw [List.any_append,w.has n hn h1];rfl
 .have h:Y.lA e.2.2.1=0:=h;show (Y.E++ [(d,s,r,())]).countP (UA e.2.2.1)=1;rcases aY.1 he with he| he
  .rw [Ti,if_neg (λq=>hnd (by rw [q];exact h)),w.one e he h]
  .have:e=(d,s,r,()):=by simpa using he
   subst this;exact absurd h hnd
 .obtain ⟨dp,hdp⟩:=w.dep;refine ⟨dp,λe he h=>?_⟩;have h:Y.lA e.2.2.1=0:=h;rcases aY.1 he with he| he
  .exact hdp e he h
  .have:e=(d,s,r,()):=by simpa using he
   subst this;exact absurd h hnd
theorem PK {d r:Int} {s:ByteArray} (h:Y.MP d s r=0):∃ y,Y.at r=some y/\y.2.2.1≠1/\Y.qW d s=0:=by
 unfold UpY.MP at h;split at h
 .rename_i y _ h1 _;split at h
  .rename_i hf;split at h
   .cases h
   .rename_i hk;exact ⟨y,h1,hk,hf⟩
  .rename_i hf;exact absurd h hf
 .cases h
theorem Yz {n:Nat} (h:Y.Od n) (d:Int) (s:ByteArray) (r:Int):(Y.rD d s r).Od (n+1):=by
 unfold UpY.rD;split
 .rename_i h0;obtain ⟨y,hy,hk,hf⟩:=PK h0;obtain ⟨h1,h2,h3⟩:=Ac hf;refine ⟨h.wf.link h1 h2 h3 hy hk,?_,?_⟩
  .show (Y.E++ [_]).length<=_;have:=h.en;simp;omega
  .show Y.nx<=_;have:=h.nb;omega
 .exact h.le (Nat.le_succ n)
end
end Go.Lm

namespace Go.Lm
open Go
def UpY.iT (Y:UpY):List ByteArray->Int->Int×Int
 | [],r=>(r,0)
 | s::l,r=>if Y.mF r s=0 then Y.iT l (Y.SB r s).2.2.1 else (0,Y.mF r s)
def Ae (Y:UpY) (m:List (Int×Int)) (x:bx):Int×UpY:=
 if x.1.length=0 then (1,(Y.gP 1 x.2.2.2.1).ft 1 x.2.2.2.2.2.2.1)
 else match Kk.get .int m x.2.1 with
  | some r=>(r,Y.rD (Y.iT (x.1.take (x.1.length - 1)) 1).1 (aB .str x.1 ((x.1.length:Int) - 1)) r)
  | none=>(Y.SA (Y.iT (x.1.take (x.1.length - 1)) 1).1 (aB .str x.1 ((x.1.length:Int) - 1)) x,Y.oG (Y.iT (x.1.take (x.1.length - 1)) 1).1 (aB .str x.1 ((x.1.length:Int) - 1)) x)
def xi (Y:UpY) (m:List (Int×Int)) (x:bx):UpY:=if x.2.2.2.2.2.2.2.1 then (Ae Y m x).2.fJ (Ae Y m x).1 true else (Ae Y m x).2
def C6:List bx->List (Int×Int)->UpY->UpY
 | [],_,Y=>Y
 | x::r,m,Y=>C6 r (Kk.put .int m x.2.1 (Ae Y m x).1) (xi Y m x)
def fz (x y:ByteArray):Int:=if Op.bytesLess x.toList y.toList then -1 else if x.toList==y.toList then 0 else 1
def cmpL:List ByteArray->List ByteArray->Int
 | [],[]=>0
 | [],_::_=> -1
 | _::_,[]=>1
 | x::a,y::b=>if fz x y=0 then cmpL a b else fz x y
theorem VJ {xs ys:List ByteArray} {k:Nat} {x y:ByteArray} (hx:xs[k]?=some x) (hy:ys[k]?=some y):cmpL (xs.drop k) (ys.drop k)=if fz x y=0 then cmpL (xs.drop (k+1)) (ys.drop (k+1)) else fz x y:=by
 obtain ⟨h1,rfl⟩:=av.1 hx;obtain ⟨h2,rfl⟩:=av.1 hy;rw [bO h1,bO h2];rfl
theorem jV (x y:ByteArray):(Op.bytesLess x.toList y.toList=true/\fz x y= -1)\/(x.toList=y.toList/\fz x y=0)\/(Op.bytesLess y.toList x.toList=true/\fz x y=1):=by
 unfold fz;rcases QA x.toList y.toList with h| h| h;exact .inl ⟨h,by rw [h];rfl⟩
 .refine .inr (.inl ⟨h,?_⟩);rw [h,rh];simp
 .refine .inr (.inr ⟨h,?_⟩);have h1:=tp h;have h2:(x.toList==y.toList)=false:=by
   cases e:(x.toList==y.toList) with
   | false=>rfl
   | true=>rw [eq_of_beq e,rh] at h;cases h
  rw [h1,h2];rfl
theorem oR {x y z:ByteArray} (h:fz x y< 0) (k:fz y z< 0):fz x z< 0:=by
 rcases jV x y with ⟨h1,e⟩| ⟨_,e⟩| ⟨_,e⟩<;>rw [e] at h<;>try omega
 rcases jV y z with ⟨k1,e2⟩| ⟨_,e2⟩| ⟨_,e2⟩<;>rw [e2] at k<;>try omega
 unfold fz;rw [Dz h1 k1,if_pos rfl];decide
theorem AU {x y:ByteArray} (h:fz x y=0):x.toList=y.toList:=by
 rcases jV x y with ⟨_,e⟩| ⟨h1,_⟩| ⟨_,e⟩;rw [e] at h;omega;exact h1;rw [e] at h;omega
theorem oS {x y z u:ByteArray} (h:x.toList=y.toList) (k:z.toList=u.toList):fz x z=fz y u:=by unfold fz;rw [h,k]
theorem mu (x:ByteArray):fz x x=0:=by unfold fz;rw [rh];simp
theorem GU (x y:ByteArray):fz y x= - fz x y:=by
 rcases jV x y with ⟨h,e⟩| ⟨h,e⟩| ⟨h,e⟩<;>rw [e]
 .unfold fz;rw [tp h];have h2:(y.toList==x.toList)=false:=by
   cases q:(y.toList==x.toList) with
   | false=>rfl
   | true=>rw [eq_of_beq q,rh] at h;cases h
  rw [h2];rfl
 .rw [oS h.symm h,<-e];rw [oS (x:=x) (y:=x) rfl h.symm,mu];rfl
 .unfold fz;rw [h];rfl
theorem j9:∀ a:List ByteArray,cmpL a a=0
 | []=>rfl
 | x::a=>by unfold cmpL;rw [mu,if_pos rfl,j9 a]
theorem n5:∀ a b:List ByteArray,cmpL b a= - cmpL a b
 | [],[]=>rfl
 | [],_::_=>rfl
 | _::_,[]=>rfl
 | x::a,y::b=>by
  unfold cmpL;rw [GU x y,n5 a b];by_cases h:fz x y=0;rw [if_pos h,if_pos (by omega)];rw [if_neg h,if_neg (by omega)]
theorem De:∀ {a b c:List ByteArray},cmpL a b=0->cmpL a c=cmpL b c
 | [],[],_,_=>rfl
 | [],_::_,_,h=>by cases h
 | _::_,[],_,h=>by cases h
 | x::a,y::b,[],_=>rfl
 | x::a,y::b,z::c,h=>by
  unfold cmpL at h ⊢;by_cases e:fz x y=0
  .rw [if_pos e] at h;rw [De h,oS (z:=z) (AU e) rfl]
  .rw [if_neg e] at h;exact absurd h e
theorem vT:∀ {a b c:List ByteArray},cmpL a b< 0->cmpL b c< 0->cmpL a c< 0
 | [],[],_,h,_=>by simp [cmpL] at h
 | [],_::_,[],_,k=>by simp [cmpL] at k
 | [],_::_,_::_,_,_=>by simp [cmpL]
 | _::_,[],_,h,_=>by simp [cmpL] at h
 | _::_,_::_,[],_,k=>by simp [cmpL] at k
 | x::a,y::b,z::c,h,k=>by
  unfold cmpL at h k ⊢;by_cases e1:fz x y=0
  .rw [if_pos e1] at h;rw [oS (z:=z) (AU e1) rfl];by_cases e2:fz y z=0
   .rw [if_pos e2] at k ⊢;exact vT h k
   .rw [if_neg e2] at k ⊢;exact k
  .rw [if_neg e1] at h;by_cases e2:fz y z=0
   .have:fz x z=fz x y:=oS (x:=x) rfl (AU e2).symm;rw [this,if_neg e1];exact h
   .rw [if_neg e2] at k;have:=oR h k;rw [if_neg (by omega)];exact this
theorem Nz {a b c:List ByteArray} (h:¬cmpL a b< 0) (k:¬cmpL b c< 0):¬cmpL a c< 0:=λq=>by
 have s1:=n5 a b;have s2:=n5 b c;by_cases e1:cmpL a b=0;rw [De e1] at q;exact k q
 .have h1:cmpL b a< 0:=by omega
  exact k (vT h1 q)
variable {Y:UpY}
theorem tc (s:ByteArray) (l:List ByteArray) (r:Int):Y.iT (s::l) r=if Y.mF r s=0 then Y.iT l (Y.SB r s).2.2.1 else (0,Y.mF r s):=rfl
theorem uP:∀ (p q:List ByteArray) (r:Int),Y.iT (p++q) r=if (Y.iT p r).2=0 then Y.iT q (Y.iT p r).1 else (0,(Y.iT p r).2)
 | [],q,r=>by simp [UpY.iT]
 | s::p,q,r=>by
  rw [eB,tc,tc];by_cases h:Y.mF r s=0;rw [if_pos h,if_pos h];exact uP p q _;rw [if_neg h,if_neg h,if_neg h]
theorem Gn {d:Int} {s:ByteArray}:Y.mF d s=0↔Y.lA d=0/\∃ e,Y.kK d s=some e:=by
 unfold UpY.mF;constructor
 .intro h;split at h
  .rename_i hd;refine ⟨hd,?_⟩;cases he:Y.kK d s with
   | none=>rw [he] at h;cases h
   | some e=>exact ⟨e,rfl⟩
  .rename_i hd;exact absurd h hd
 .rintro ⟨hd,e,he⟩;rw [if_pos hd,he]
theorem MM {d:Int} {s:ByteArray} {e:Ub} (hd:Y.lA d=0) (he:Y.kK d s=some e):(Y.SB d s).2.2.1=e.2.2.1:=by
 unfold UpY.SB;rw [if_pos hd,he]
theorem aiI (w:Y.Wf) {e:Ub} (he:e∈Y.E):Y.kK e.1 e.2.1=some e:=by
 cases hf:Y.kK e.1 e.2.1 with
 | none=>exact absurd ⟨rfl,rfl⟩ (xl.1 hf e he)
 | some x=>
  obtain ⟨h1,h2,h3⟩:=Tc hf;have:∀ {l:List Ub},(l.map λe=>(e.1,e.2.1)).Nodup->x∈l->e∈l->x=e:=by
   intro l
   induction l with
   | nil=>intro _ h;cases h
   | cons a l ih=>
    intro hn hx hy;rw [cg,eD] at hn;rcases aX.1 hx with e1| hx
    .rcases aX.1 hy with e2| hy
     .rw [e1,e2]
     .exact absurd (aM.2 ⟨e,hy,by rw [<-e1,h2,h3]⟩) hn.1
    .rcases aX.1 hy with e2| hy
     .exact absurd (aM.2 ⟨x,hx,by rw [<-e2,h2,h3]⟩) hn.1
     .exact ih hn.2 hx hy
  rw [this w.ne h1 he]
theorem P8 (w:Y.Wf) {p:List ByteArray} {s:ByteArray} {r z:Int}:Y.iT (p++ [s]) r=(z,0)↔∃ d,Y.iT p r=(d,0)/\Y.lA d=0/\(d,s,z,())∈Y.E:=by
 rw [uP];constructor
 .intro h;split at h
  .rename_i h0;refine ⟨(Y.iT p r).1,by rw [<-h0],?_⟩;generalize (Y.iT p r).1=d at*;unfold UpY.iT at h;split at h
   .rename_i hl;obtain ⟨hd,e,he⟩:=Gn.1 hl;rw [MM hd he] at h;unfold UpY.iT at h;obtain ⟨h1,h2,h3⟩:=Tc he;have:e=(d,s,z,()):=by
     obtain ⟨a,b,c,u⟩:=e;simp only at h2 h3 h;have hc:c=z:=congrArg Prod.fst h;rw [h2,h3,hc]
    exact ⟨hd,this▸h1⟩
   .rename_i hl;exact absurd (congrArg Prod.snd h) hl
  .rename_i h0;exact absurd (congrArg Prod.snd h) h0
 .rintro ⟨d,h1,hd,he⟩;have:=aiI w he;simp only at this;rw [h1,if_pos rfl,tc,if_pos (Gn.2 ⟨hd,_,this⟩),MM hd this];rfl
theorem BG {a b:ByteArray} (h:a.data.toList=b.data.toList):a=b:=by
 obtain ⟨x⟩:=a;obtain ⟨y⟩:=b;have:x=y:=Array.ext' h;rw [this]
theorem aeg {a b:ByteArray} (h:a.data.toList<=b.data.toList) (hn:a≠b):fz a b< 0:=by
 rcases jV a b with ⟨_,e⟩| ⟨h1,_⟩| ⟨h1,_⟩;rw [e];decide
 .rw [Lib.toList_data,Lib.toList_data] at h1;exact absurd (BG h1) hn
 .have:=ac8 b a;unfold lD at this;rw [h1] at this;exact absurd (of_decide_eq_true this.symm) (List.not_lt.2 h)
theorem Df:∀ (p a b:List ByteArray),cmpL (p++a) (p++b)=cmpL a b
 | [],_,_=>rfl
 | s::p,a,b=>by
  have:cmpL (s::(p++a)) (s::(p++b))=if fz s s=0 then cmpL (p++a) (p++b) else fz s s:=rfl
  rw [eB,eB,this,mu,if_pos rfl];exact Df p a b
theorem ZJ (p:List ByteArray) (s:ByteArray) (t:List ByteArray):cmpL p (p++s::t)< 0:=by
 have:=Df p [] (s::t);rw [a7] at this;rw [this];unfold cmpL;decide
end Go.Lm

namespace Go.Lm
open Go
variable {Y:UpY}
def bx.lC (x:bx) (k:Int):bx:=(x.1,k,x.2.2)
def bx.bare (x:bx):bx:=([],x.2)
def pd (l:List ByteArray):ByteArray:=aB .str l ((l.length:Int) - 1)
def YU (c:bx):Int:=if c.1.length=0 then 0 else ((pd c.1).size:Int)
theorem BK {l:List ByteArray} (h:l.length≠0):l=l.take (l.length - 1)++ [pd l]:=by
 have:=pN (e:=.str) (l:=l) (k:=(l.length:Int) - 1) (by omega) (by omega);rw [show ((l.length:Int) - 1+1).toNat=l.length by omega,show ((l.length:Int) - 1).toNat=l.length - 1 by omega,ff] at this;exact this
theorem Gt (p:List ByteArray) (s:ByteArray):pd (p++ [s])=s:=by
 have h:=BK (l:=p++ [s]) (by simp);have h2:=congrArg List.getLast? h;simpa using h2.symm
def aaK (acc:List bx) (c:bx):List bx:=if acc.any (rQ c.2.1) then acc else acc++ [c.bare]
def qR (C:List bx):List bx:=C.foldl aaK []
theorem IX (C:List bx) (c:bx):qR (C++ [c])=aaK (qR C) c:=by unfold qR;rw [List.foldl_append];rfl
structure IsB (Y:UpY) (C:List bx):Prop where
 wf:Y.Wf
 L:Y.L=qR C
 get:∀ c∈C,Y.at c.2.1=some c.bare
 kK:∀ e,e∈Y.E↔∃ c∈C,∃ y∈C,y.2.2.1=1/\∃ s,c.1=y.1++ [s]/\e=(y.2.1,s,c.2.1,())
 sum:(Y.E.map λe=>(e.2.1.size:Int)).sum=(C.map YU).sum
 root:∀ c∈C,c.1= []->c.2.1=1
 has:∃ c∈C,c.1= []
 ZE:∀ c∈C,∀ d∈C,c.2.2.1=1\/c.2.2.1=4->d.2.1=c.2.1->d=c
 par:∀ c∈C,c.1≠ []->∃ y∈C,y.2.2.1=1/\∃ s,c.1=y.1++ [s]
 nm:C.Pairwise λa b=>a.1≠b.1
theorem YG {C:List bx} (h:C.Pairwise λa b=>a.1≠b.1) {a b:bx} (ha:a∈C) (hb:b∈C) (e:a.1=b.1):a=b:=by
 induction C with
 | nil=>cases ha
 | cons x C ih=>
  obtain ⟨h1,h2⟩:=fA.1 h;rcases aX.1 ha with ea| ha
  .rcases aX.1 hb with eb| hb
   .rw [ea,eb]
   .exact absurd (ea▸e) (h1 b hb)
  .rcases aX.1 hb with eb| hb
   .exact absurd (eb▸e).symm (h1 a ha)
   .exact ih h2 ha hb
namespace IsB
variable {C:List bx}
theorem dir (h:IsB Y C) {y:bx} (hy:y∈C) (hk:y.2.2.1=1):Y.lA y.2.1=0:=iU.2 ⟨y.bare,h.get y hy,hk⟩
theorem afK (h:IsB Y C):∀ (n:Nat) (c:bx),c∈C->c.1.length<=n->Y.iT c.1 1=(c.2.1,0)
 | 0,c,hc,hn=>by
  have e:c.1= []:=aK (by omega);rw [e,h.root c hc e];rfl
 | n+1,c,hc,hn=>by
  by_cases e:c.1= [];rw [e,h.root c hc e];rfl
  .obtain ⟨y,hy,hk,s,hs⟩:=h.par c hc e;have ih:=h.afK n y hy (by rw [hs] at hn;simp at hn;omega);rw [hs];exact (P8 h.wf).2 ⟨y.2.1,ih,h.dir hy hk,(h.kK _).2 ⟨c,hc,y,hy,hk,s,hs,rfl⟩⟩
theorem fresh (h:IsB Y C) {y:bx} {s:ByteArray} (hy:y∈C) (hk:y.2.2.1=1) (hv:dA s=0) (kJ:∀ c∈C,c.1≠y.1++ [s]):Y.qW y.2.1 s=0/\Y.kK y.2.1 s=none:=by
 have he:Y.kK y.2.1 s=none:=xl.2 λe he=>by
  rintro ⟨h1,h2⟩;obtain ⟨c,hc,y',CW,vY,s',hs,rfl⟩:=(h.kK e).1 he;simp only at h1 h2;have:=h.ZE y hy y' CW (.inl hk) h1;subst this;subst h2;exact kJ c hc hs
 refine ⟨?_,he⟩;unfold UpY.qW;rw [if_pos (h.dir hy hk),if_pos hv,he]
theorem lt (h:IsB Y C) {c:bx} (hc:c∈C):c.2.1< Y.nx:=by
 obtain ⟨h1,h2⟩:=at_mem (h.get c hc);have:=(h.wf.lo _ h1).2;rw [h2] at this;exact this
theorem akZ (h:IsB Y C):(qR C).any (rQ Y.nx)=false:=by
 rw [<-h.L,List.any_eq_false];intro n hn;have:=(h.wf.lo n hn).2;unfold rQ;simp;omega
theorem akN (h:IsB Y C) {c:bx} (hc:c∈C):(qR C).any (rQ c.2.1)=true:=by
 rw [<-h.L,List.any_eq_true];obtain ⟨h1,h2⟩:=at_mem (h.get c hc);exact ⟨_,h1,by unfold rQ;simp only [beq_iff_eq];exact h2⟩
theorem more (h:IsB Y C) {Y':UpY} {x y:bx} {s:ByteArray} (hy:y∈C) (hk:y.2.2.1=1) (hx:x.1=y.1++ [s]) (kJ:∀ c∈C,c.1≠x.1) (w:Y'.Wf) (hL:Y'.L=aaK (qR C) x) (hE:Y'.E=Y.E++ [(y.2.1,s,x.2.1,())])
  (M7:Y'.at x.2.1=Option.some x.bare) (hold:∀ c∈C,Y'.at c.2.1=Y.at c.2.1) (hd1:x.2.2.1=1\/x.2.2.1=4->∀ c∈C,c.2.1≠x.2.1) (hd2:∀ c∈C,c.2.2.1=1\/c.2.2.1=4->x.2.1≠c.2.1):IsB Y' (C++ [x]) where
 wf:=w
 L:=by rw [IX];exact hL
 get:=λc hc=>by
  rcases aY.1 hc with hc| hc;rw [hold c hc];exact h.get c hc
  .obtain rfl:c=x:=by simpa using hc
   exact M7
 kK:=λe=>by
  rw [hE,aY];constructor
  .rintro (he| he)
   .obtain ⟨c,hc,y',CW,r⟩:=(h.kK e).1 he;exact ⟨c,by simp [hc],y',by simp [CW],r⟩
   .obtain rfl:e=_:=by simpa using he
    exact ⟨x,by simp,y,by simp [hy],hk,s,hx,rfl⟩
  .rintro ⟨c,hc,y',CW,vY,s',hs,rfl⟩;rcases aY.1 CW with hyC| hyC
   .rcases aY.1 hc with Wq| Wq
    .exact .inl ((h.kK _).2 ⟨c,Wq,y',hyC,vY,s',hs,rfl⟩)
    .have ec:c=x:=by simpa using Wq
     rw [ec] at hs ⊢;have e:=List.append_inj' (hx.symm.trans hs) rfl;have:=YG h.nm hy hyC e.1;subst this;have es:s=s':=by simpa using e.2
     subst es;exact .inr (by simp)
   .have ey:y'=x:=by simpa using hyC
    rw [ey] at hs;rcases aY.1 hc with Wq| Wq
    .obtain ⟨y2,hy2,_,s2,hs2⟩:=h.par c Wq (by rw [hs];simp);exact absurd (List.append_inj' (hs2.symm.trans hs) rfl).1 (kJ y2 hy2)
    .have ec:c=x:=by simpa using Wq
     rw [ec] at hs;have:=congrArg List.length hs;simp at this
 sum:=by
  rw [hE,eR,List.sum_append,h.sum,eR,List.sum_append];congr 1;have:YU x=(s.size:Int):=by
   unfold YU;rw [hx,if_neg (by simp),Gt]
  simp [this]
 root:=λc hc e=>by
  rcases aY.1 hc with hc| hc;exact h.root c hc e
  .obtain rfl:c=x:=by simpa using hc
   rw [hx] at e;exact absurd e (by simp)
 has:=by
  obtain ⟨c,hc,e⟩:=h.has;exact ⟨c,by simp [hc],e⟩
 ZE:=λc hc d hd vY e=>by
  rcases aY.1 hc with Wq| Wq
  .rcases aY.1 hd with DX| DX
   .exact h.ZE c Wq d DX vY e
   .have ed:d=x:=by simpa using DX
    rw [ed] at e;exact absurd e (hd2 c Wq vY)
  .have ec:c=x:=by simpa using Wq
   rw [ec] at vY e ⊢;rcases aY.1 hd with DX| DX;exact absurd e (hd1 vY d DX);simpa using DX
 par:=λc hc e=>by
  rcases aY.1 hc with hc| hc
  .obtain ⟨y',CW,r⟩:=h.par c hc e;exact ⟨y',by simp [CW],r⟩
  .obtain rfl:c=x:=by simpa using hc
   exact ⟨y,by simp [hy],hk,s,hx⟩
 nm:=by
  rw [List.pairwise_append];refine ⟨h.nm,by simp,λa ha b hb=>?_⟩;obtain rfl:b=x:=by simpa using hb
  exact kJ a ha
end IsB
theorem yN {x:bx} (h:PD x=true):wT x=true/\(x.2.2.2.2.2.2.2.1=true->x.2.2.1=1):=by
 unfold PD at h;by_cases h4:x.2.2.1=4
 .rw [if_pos h4] at h;have h':x.2.2.2.2.2.2.2.1=false:=by
   unfold ajk at h;rw [h4] at h;simp only [beq_self_eq_true,pr,bG,Bool.or_eq_false_iff] at h;exact h.2
  refine ⟨?_,λe=>by rw [h'] at e;cases e⟩;unfold wT;rw [if_pos h4];unfold bx.dU;have e:(x.1,x.2.1,x.2.2.1,x.2.2.2.1,x.2.2.2.2.1,x.2.2.2.2.2.1,x.2.2.2.2.2.2.1,false,())=x:=by rw [<-h']
  rw [e];exact h
 .rw [if_neg h4] at h;unfold wT;rw [if_neg h4];by_cases h1:x.2.2.1=1
  .rw [if_pos h1] at h;exact ⟨h,λ_=>h1⟩
  .rw [if_neg h1] at h;have h':x.2.2.2.2.2.2.2.1=false:=by
    unfold iF at h;simp only [h1,if_false] at h;split at h;simp only [ao,bG] at h;exact h.1.1.2
    .split at h
     simp only [ao,bG] at h;exact h.1.1.2;cases h
   refine ⟨?_,λe=>by rw [h'] at e;cases e⟩;unfold bx.dU;rw [h'] at h;exact h
namespace IsB
variable {C:List bx}
theorem make (h:IsB Y C) {x y:bx} {s:ByteArray} (hy:y∈C) (hk:y.2.2.1=1) (hx:x.1=y.1++ [s]) (hv:dA s=0) (kJ:∀ c∈C,c.1≠x.1) (hm:PD x=true):
  Y.SA y.2.1 s x=Y.nx/\IsB (if x.2.2.2.2.2.2.2.1 then (Y.oG y.2.1 s x).fJ Y.nx true else Y.oG y.2.1 s x) (C++ [x.lC Y.nx])/\(if x.2.2.2.2.2.2.2.1 then (Y.oG y.2.1 s x).fJ Y.nx true else Y.oG y.2.1 s x).nx=Y.nx+1:=by
 obtain ⟨hm1,hm2⟩:=yN hm;have hE:Y.MK y.2.1 s x=0:=by
  unfold UpY.MK;rw [if_pos (h.fresh hy hk hv (λc hc=>by rw [<-hx];exact kJ c hc)).1,if_pos hm1]
 have e1:Y.oG y.2.1 s x= {Y with L:=Y.L++ [Y.qb x],E:=Y.E++ [(y.2.1,s,Y.nx,())],nx:=Y.nx+1}:=by unfold UpY.oG;rw [if_pos hE]
 have hlo:∀ n∈Y.L,rQ Y.nx n=false:=λn hn=>by
  have:=(h.wf.lo n hn).2;unfold rQ;simp;omega
 have uA:(Y.oG y.2.1 s x).at Y.nx=Option.some (Y.qb x):=by
  rw [e1];unfold UpY.at
  simp only;rw [List.find?_append,jC.2 λn hn=>by rw [hlo n hn];simp];simp [rQ,UpY.qb]
 have ok1:=Yy (n:=Y.E.length+Y.nx.toNat) ⟨h.wf,by omega,by omega⟩ y.2.1 s x;have aih:oY (Y.L++ [Y.qb x]) Y.nx (·.dU true)=Y.L++ [(Y.qb x).dU true]:=by
  unfold oY;rw [eR];congr 1
  .conv=>rhs;rw [<-List.map_id Y.L]
   exact gH λn hn=>by rw [hlo n hn];rfl
  .simp [rQ,UpY.qb]
 have e2:(if x.2.2.2.2.2.2.2.1 then (Y.oG y.2.1 s x).fJ Y.nx true else Y.oG y.2.1 s x)= {Y with L:=Y.L++ [(x.lC Y.nx).bare],E:=Y.E++ [(y.2.1,s,Y.nx,())],nx:=Y.nx+1}:=by
  cases ho:x.2.2.2.2.2.2.2.1 with
  | true=>
   rw [if_pos rfl];unfold UpY.fJ;rw [if_pos (iU.2 ⟨_,uA,hm2 ho⟩),e1];simp only;rw [aih];have:(Y.qb x).dU true=(x.lC Y.nx).bare:=by unfold UpY.qb bx.dU bx.lC bx.bare;rw [<-ho]
   rw [this]
  | false=>
   rw [if_neg (by simp),e1];have:Y.qb x=(x.lC Y.nx).bare:=by unfold UpY.qb bx.lC bx.bare;rw [<-ho]
   rw [this]
 have hw:({Y with L:=Y.L++ [(x.lC Y.nx).bare],E:=Y.E++ [(y.2.1,s,Y.nx,())],nx:=Y.nx+1}:UpY).Wf:=by
  rw [<-e2];split;exact (uI ok1 _ _).wf;exact ok1.wf
 refine ⟨by unfold UpY.SA;rw [if_pos hE],?_,by rw [e2]⟩;rw [e2];refine h.more (y:=y) (s:=s) hy hk hx kJ hw ?_ rfl ?_ (λc hc=>?_) (λ_ c hc=>?_) (λc hc _=>?_)
 .unfold aaK;rw [show (x.lC Y.nx).2.1=Y.nx from rfl,h.akZ,<-h.L];rfl
 .unfold UpY.at
  simp only;rw [List.find?_append,jC.2 λn hn=>by rw [show (x.lC Y.nx).2.1=Y.nx from rfl,hlo n hn];simp];simp [rQ,bx.bare,bx.lC]
 .have hg:=h.get c hc;unfold UpY.at at hg ⊢;simp only;rw [List.find?_append,hg];rfl
 .have:=h.lt hc;show c.2.1≠Y.nx;omega
 .have:=h.lt hc;show Y.nx≠c.2.1;omega
theorem link (h:IsB Y C) {x y c0:bx} {s:ByteArray} (hy:y∈C) (hk:y.2.2.1=1) (hx:x.1=y.1++ [s]) (hv:dA s=0) (kJ:∀ c∈C,c.1≠x.1) (hc0:c0∈C) (ha:x.2.2=c0.2.2) (rU:x.2.2.1≠1) (hk4:x.2.2.1≠4):
  IsB (Y.rD y.2.1 s c0.2.1) (C++ [x.lC c0.2.1])/\(Y.rD y.2.1 s c0.2.1).nx=Y.nx:=by
 have hg:=h.get c0 hc0;have S5:c0.2.2.1≠1:=by rw [<-ha];exact rU
 have hE:Y.MP y.2.1 s c0.2.1=0:=by
  unfold UpY.MP;rw [hg,h.get y hy];simp only;rw [if_pos (h.fresh hy hk hv (λc hc=>by rw [<-hx];exact kJ c hc)).1];exact if_neg S5
 have e1:Y.rD y.2.1 s c0.2.1= {Y with E:=Y.E++ [(y.2.1,s,c0.2.1,())]}:=by unfold UpY.rD;rw [if_pos hE]
 have ok1:=(Yz (n:=Y.E.length+Y.nx.toNat) ⟨h.wf,by omega,by omega⟩ y.2.1 s c0.2.1).wf;rw [e1] at ok1 ⊢;refine ⟨h.more (x:=x.lC c0.2.1) (y:=y) (s:=s) hy hk hx kJ ok1 ?_ rfl ?_ (λ_ _=>rfl) (λe=>absurd e (λq=>q.elim rU hk4)) (λc hc VA e=>?_),rfl⟩
 .unfold aaK;rw [show (x.lC c0.2.1).2.1=c0.2.1 from rfl,if_pos (h.akN hc0)];exact h.L
 .show Y.at c0.2.1=_;rw [hg];unfold bx.bare bx.lC;rw [ha]
 .have:=h.ZE c hc c0 hc0 VA e;subst this;rw [<-ha] at VA;exact VA.elim rU hk4
end IsB
end Go.Lm

namespace Go.Lm
open Go
variable {Y:UpY}
theorem gp {k:Kk} {α:Type} {l:List (k.den×α)} {x:k.den} {v:α}:Kk.get k (Kk.put k l x v) x=some v:=by
 unfold Kk.get Kk.put iS qP;simp
theorem jR {k:Kk} {α:Type} {l:List (k.den×α)} {x y:k.den} {v:α} (h:y≠x):Kk.get k (Kk.put k l x v) y=Kk.get k l y:=by
 unfold Kk.get Kk.put iS qP mJ;have h':¬x=y:=λe=>h e.symm;rw [List.find?_cons];simp only [h',decide_false,List.find?_filter];congr 2;funext p;by_cases h2:p.1=y;simp [h2,h];simp [h2]
theorem pD {k:Kk} {α:Type} {l:List (k.den×α)} {x:k.den} {v:α} (h:Kk.get k l x=none):(Kk.put k l x v).length=l.length+1:=by
 unfold Kk.put qP mJ;rw [aq,kr.2];intro p hp;unfold Kk.get iS at h;rw [Option.map_eq_none_iff,jC] at h;have:=h p hp;simpa using this
def dg:List bx->List (Int×Int)->List bx
 | [],_=>[]
 | x::r,m=>match Kk.get .int m x.2.1 with
  | some k=>x.lC k::dg r m
  | none=>x.lC ((m.length:Int)+1)::dg r (Kk.put .int m x.2.1 ((m.length:Int)+1))
theorem kZ {x:bx} {r:List bx} {m:List (Int×Int)} {k:Int} (h:Kk.get .int m x.2.1=some k):dg (x::r) m=x.lC k::dg r m:=by
 conv=>lhs;unfold dg
 rw [h]
theorem jO {x:bx} {r:List bx} {m:List (Int×Int)} (h:Kk.get .int m x.2.1=none):dg (x::r) m=x.lC ((m.length:Int)+1)::dg r (Kk.put .int m x.2.1 ((m.length:Int)+1)):=by
 conv=>lhs;unfold dg
 rw [h]
theorem Vv (a b:Int) {x:bx} (hx:x.1= []) (hk:x.2.2.1=1) (hm:PD x=true):
  IsB (if x.2.2.2.2.2.2.2.1 then (((UpY.new a b).gP 1 x.2.2.2.1).ft 1 x.2.2.2.2.2.2.1).fJ 1 true else ((UpY.new a b).gP 1 x.2.2.2.1).ft 1 x.2.2.2.2.2.2.1) [x.lC 1]
  /\(if x.2.2.2.2.2.2.2.1 then (((UpY.new a b).gP 1 x.2.2.2.1).ft 1 x.2.2.2.2.2.2.1).fJ 1 true else ((UpY.new a b).gP 1 x.2.2.2.1).ft 1 x.2.2.2.2.2.2.1).nx=2:=by
 obtain ⟨hm1,_⟩:=yN hm;obtain ⟨p,i,k,at',dt,tg,xs,op,u⟩:=x;simp only at hx hk;subst hx hk;unfold wT bx.dU iF at hm1;simp only [show ¬(1:Int)=4 by decide,if_false,if_true,ao,beq_iff_eq,Bool.not_false,and_true] at hm1;obtain ⟨⟨⟨h1,h2⟩,h3⟩,h4⟩:=hm1;have hdt:dt= []:=aK (by omega);unfold noB at h2;have htg:=jA.1 h2;subst hdt htg;have e1:(UpY.new a b).gP 1 at'=⟨a,b,[([],1,1,at',[],⟨#[]⟩,[],false,())],[],2⟩:=by
  have:(UpY.new a b).BQ 1 at'=0:=by
   have hma:YM at'=true:=h3;show (if (1:Int)=4\/YM at'=false then (1:Int) else 0)=0
   rw [hma];rfl
  unfold UpY.gP;rw [if_pos this];rfl
 have e2:((UpY.new a b).gP 1 at').ft 1 xs=⟨a,b,[([],1,1,at',[],⟨#[]⟩,xs,false,())],[],2⟩:=by
  rw [e1];have:(⟨a,b,[([],1,1,at',[],⟨#[]⟩,[],false,())],[],2⟩:UpY).vc 1 xs=0:=by
   show (if (1:Int)=4\/dI xs=false then (1:Int) else 0)=0
   rw [h4];rfl
  unfold UpY.ft;rw [if_pos this];rfl
 have ok:=Ea (MC (ady a b) 1 at') 1 xs;have e3:(if op then (((UpY.new a b).gP 1 at').ft 1 xs).fJ 1 true else ((UpY.new a b).gP 1 at').ft 1 xs)=⟨a,b,[([],1,1,at',[],⟨#[]⟩,xs,op,())],[],2⟩:=by
  cases op with
  | true=>
   rw [if_pos rfl,e2];unfold UpY.fJ;rw [if_pos (show (⟨a,b,[([],1,1,at',[],⟨#[]⟩,xs,false,())],[],2⟩:UpY).lA 1=0 from rfl)];rfl
  | false=>rw [if_neg (by simp),e2]
 have hw:(⟨a,b,[([],1,1,at',[],⟨#[]⟩,xs,op,())],[],2⟩:UpY).Wf:=by
  rw [<-e3];split;exact (uI ok _ _).wf;exact ok.wf
 simp only;rw [e3];refine ⟨⟨hw,rfl,λc hc=>?_,λe=>⟨λhe=>(by cases he),?_⟩,rfl,λc hc _=>?_,⟨_,aR.2 rfl,rfl⟩,λc hc d hd _ _=>?_,λc hc e=>?_,by simp⟩,rfl⟩
 .obtain rfl:=aR.1 hc;rfl
 .rintro ⟨c,hc,y,hy,_,s,hs,_⟩;obtain rfl:=aR.1 hc;have:=congrArg List.length hs;simp [bx.lC] at this
 .obtain rfl:=aR.1 hc;rfl
 .obtain rfl:=aR.1 hc;exact aR.1 hd
 .obtain rfl:=aR.1 hc;exact absurd rfl e
structure T9 (L:List bx):Prop where
 nm:∀ x∈L,∀ s∈x.1,dA s=0
 ord:L.Pairwise λa b=>cmpL a.1 b.1< 0
 root:∃ x∈L,x.1= []
 ae9:∀ x∈L,x.1= []->x.2.2.1=1
 par:∀ x∈L,x.1.length≠0->∃ y∈L,y.2.2.1=1/\y.1=x.1.take (x.1.length - 1)
 may:∀ x∈L,PD x=true
 one:L.Pairwise λa b=>a.2.1=b.2.1->b.2.2.1≠1/\b.2.2.1≠4/\b.2.2=a.2.2
structure Ua (Y:UpY) (C D:List bx) (m mm:List (Int×Int)):Prop where
 b:IsB Y C
 get:∀ i,Kk.get .int m i=Kk.get .int mm i
 ae0:C=D.map λy=>y.lC ((Kk.get .int mm y.2.1).getD 0)
 key:∀ i,(Kk.get .int mm i).isSome=true↔∃ y∈D,y.2.1=i
 len:(mm.length:Int)+1=Y.nx
theorem Dd (a:List ByteArray):¬cmpL a []< 0:=by cases a<;>(unfold cmpL;decide)
theorem Jr:∀ (R D:List bx) {Y:UpY} {C:List bx} {m mm:List (Int×Int)},T9 (D++R)->D≠ []->Ua Y C D m mm->IsB (C6 R m Y) (C++dg R mm)
 | [],D,Y,C,m,mm,_,_,h=>by
  rw [show dg [] mm= [] from rfl,a7];exact h.b
 | x::R,D,Y,C,m,mm,g,hD,h=>by
  have hxm:x∈D++x::R:=by simp
  have ord:=List.pairwise_append.1 g.ord;have hDx:∀ d∈D,cmpL d.1 x.1< 0:=λd hd=>ord.2.2 d hd x aS;have hx0:x.1.length≠0:=λe=>by
   obtain ⟨d,hd⟩:=List.exists_mem_of_ne_nil D hD;have:=hDx d hd;rw [aK e] at this;exact Dd _ this
  obtain ⟨y,hy,hyk,hyn⟩:=g.par x hxm hx0;have DR:=BK hx0;rw [<-hyn] at DR;have hyx:cmpL y.1 x.1< 0:=by rw [DR];exact ZJ _ _ _
  have hyD:y∈D:=by
   rcases aY.1 hy with h1| h1;exact h1
   .rcases aX.1 h1 with h1| h1
    .rw [h1,j9] at hyx;omega
    .have:=(fA.1 ord.2.1).1 y h1;have:=n5 x.1 y.1;omega
  have hC:∀ d∈D,d.lC ((Kk.get .int mm d.2.1).getD 0)∈C:=λd hd=>by rw [h.ae0];exact aM.2 ⟨d,hd,rfl⟩
  have hcy:=hC y hyD;generalize alI:y.lC ((Kk.get .int mm y.2.1).getD 0)=cy at hcy;have alJ:cy.1=y.1:=by rw [<-alI];rfl
  have alH:cy.2.2.1=1:=by rw [<-alI];exact hyk
  have yR:x.1=cy.1++ [pd x.1]:=by rw [alJ];exact DR
  have kJ:∀ c∈C,c.1≠x.1:=λc hc e=>by
   rw [h.ae0] at hc;obtain ⟨d,hd,rfl⟩:=aM.1 hc;have:=hDx d hd;rw [show d.1=x.1 from e,j9] at this;omega
  have hv:dA (pd x.1)=0:=g.nm x hxm _ (by rw [yR,Gt];simp);have alx:=g.may x hxm;have hf:(Y.iT (x.1.take (x.1.length - 1)) 1).1=cy.2.1:=by
   rw [<-hyn,<-alJ,h.b.afK _ cy hcy (az _)]
  have g':T9 ((D++ [x])++R):=by rw [aH];exact g
  have hD':D++ [x]≠ []:=by simp
  have Wo:Ae Y m x=match Kk.get .int m x.2.1 with
   | some r=>(r,Y.rD cy.2.1 (pd x.1) r)
   | none=>(Y.SA cy.2.1 (pd x.1) x,Y.oG cy.2.1 (pd x.1) x):=by
   unfold Ae;rw [if_neg hx0,hf];rfl
  unfold C6;have hmg:=h.get x.2.1;cases hg:Kk.get .int mm x.2.1 with
  | some r=>
   rw [kZ hg];rw [hg] at hmg;rw [hmg] at Wo;simp only at Wo;obtain ⟨d,hd,J5⟩:=(h.key x.2.1).1 (by rw [hg];rfl);have hc0:=hC d hd;rw [J5,hg] at hc0;have sY:=(List.pairwise_append.1 g.one).2.2 d hd x aS J5;obtain ⟨l1,l2⟩:=h.b.link (x:=x) hcy alH yR hv kJ hc0 sY.2.2 sY.1 sY.2.1;have l1:IsB (Y.rD cy.2.1 (pd x.1) r) (C++ [x.lC r]):=l1;have l2:(Y.rD cy.2.1 (pd x.1) r).nx=Y.nx:=l2;have hop:x.2.2.2.2.2.2.2.1=false:=by
    cases ho:x.2.2.2.2.2.2.2.1 with
    | false=>rfl
    | true=>exact absurd ((yN alx).2 ho) sY.1
   have hfy:xi Y m x=Y.rD cy.2.1 (pd x.1) r:=by
    unfold xi;rw [hop,Wo];rfl
   rw [hfy,Wo];simp only;have st:Ua (Y.rD cy.2.1 (pd x.1) r) (C++ [x.lC r]) (D++ [x]) (Kk.put .int m x.2.1 r) mm:=by
    refine ⟨l1,λi=>?_,?_,λi=>?_,by rw [l2];exact h.len⟩
    .by_cases hi:i=x.2.1
     .rw [hi,gp,hg]
     .rw [jR hi,h.get i]
    .rw [eR,<-h.ae0];simp [hg]
    .rw [h.key i];constructor
     .rintro ⟨z,hz,e⟩;exact ⟨z,by simp [hz],e⟩
     .rintro ⟨z,hz,e⟩;rcases aY.1 hz with hz| hz
      .exact ⟨z,hz,e⟩
      .obtain rfl:=aR.1 hz;exact ⟨d,hd,J5.trans e⟩
   have:=Jr R (D++ [x]) g' hD' st
   rwa [aH] at this
  | none=>
   rw [jO hg];rw [hg] at hmg;rw [hmg] at Wo;simp only at Wo;obtain ⟨k1,k2,k3⟩:=h.b.make (x:=x) hcy alH yR hv kJ alx;rw [k1] at Wo;have hfy:xi Y m x=if x.2.2.2.2.2.2.2.1 then (Y.oG cy.2.1 (pd x.1) x).fJ Y.nx true else Y.oG cy.2.1 (pd x.1) x:=by
    unfold xi;rw [Wo]
   rw [<-hfy] at k2 k3;rw [Wo];simp only;rw [h.len];have st:Ua (xi Y m x) (C++ [x.lC Y.nx]) (D++ [x]) (Kk.put .int m x.2.1 Y.nx) (Kk.put .int mm x.2.1 Y.nx):=by
    refine ⟨k2,λi=>?_,?_,λi=>?_,?_⟩
    .by_cases hi:i=x.2.1
     .rw [hi,gp,gp]
     .rw [jR hi,jR hi,h.get i]
    .rw [eR];congr 1
     .rw [h.ae0];refine gH λd hd=>?_;have:d.2.1≠x.2.1:=λe=>by
       have:=(h.key x.2.1).2 ⟨d,hd,e⟩;rw [hg] at this;cases this
      rw [jR this]
     .simp [gp]
    .by_cases hi:i=x.2.1
     .rw [hi,gp];exact ⟨λ_=>⟨x,by simp,rfl⟩,λ_=>rfl⟩
     .rw [jR hi,h.key i];constructor
      .rintro ⟨z,hz,e⟩;exact ⟨z,by simp [hz],e⟩
      .rintro ⟨z,hz,e⟩;rcases aY.1 hz with hz| hz
       .exact ⟨z,hz,e⟩
       .obtain rfl:=aR.1 hz;exact absurd e.symm hi
    .rw [pD hg,k3,<-h.len];simp
   have:=Jr R (D++ [x]) g' hD' st
   rwa [aH] at this
theorem Zv (a b:Int) {L:List bx} (g:T9 L):IsB (C6 L [] (UpY.new a b)) (dg L []):=by
 obtain ⟨ρ,hρ,e0⟩:=g.root;cases L with
 | nil=>cases hρ
 | cons x R=>
  have hx:x.1= []:=by
   rcases aX.1 hρ with e| h;rw [<-e];exact e0
   .have:=(fA.1 g.ord).1 ρ h;rw [e0] at this;exact absurd this (Dd _)
  obtain ⟨f1,f2⟩:=Vv a b hx (g.ae9 x aS hx) (g.may x aS);have hr:Ae (UpY.new a b) [] x=(1,((UpY.new a b).gP 1 x.2.2.2.1).ft 1 x.2.2.2.2.2.2.1):=by
   unfold Ae;rw [hx];rfl
  have hy:xi (UpY.new a b) [] x=if x.2.2.2.2.2.2.2.1 then (((UpY.new a b).gP 1 x.2.2.2.1).ft 1 x.2.2.2.2.2.2.1).fJ 1 true else ((UpY.new a b).gP 1 x.2.2.2.1).ft 1 x.2.2.2.2.2.2.1:=by
   unfold xi;rw [hr]
  rw [<-hy] at f1 f2;unfold C6;have e1:Kk.get .int ([]:List (Int×Int)) x.2.1=none:=rfl;rw [jO e1,hr];simp only [aL];have st:Ua (xi (UpY.new a b) [] x) [x.lC 1] [x] (Kk.put .int [] x.2.1 1) (Kk.put .int [] x.2.1 1):=by
   refine ⟨f1,λ_=>rfl,by simp [gp],λi=>?_,by rw [f2];rfl⟩;by_cases hi:i=x.2.1
   .rw [hi,gp];exact ⟨λ_=>⟨x,by simp,rfl⟩,λ_=>rfl⟩
   .rw [jR hi];constructor
    .intro h;cases h
    .rintro ⟨z,hz,e⟩;obtain rfl:=aR.1 hz;exact absurd e.symm hi
  exact Jr R [x] g (by simp) st
end Go.Lm

namespace Go.Lm
open Go
variable {Y:UpY}
def jN:List bx->List (Int×Int)->List (Int×Int)
 | [],m=>m
 | x::r,m=>match Kk.get .int m x.2.1 with
  | some _=>jN r m
  | none=>jN r (Kk.put .int m x.2.1 ((m.length:Int)+1))
theorem jt {x:bx} {r:List bx} {m:List (Int×Int)} {k:Int} (h:Kk.get .int m x.2.1=some k):jN (x::r) m=jN r m:=by
 conv=>lhs;unfold jN
 rw [h]
theorem ju {x:bx} {r:List bx} {m:List (Int×Int)} (h:Kk.get .int m x.2.1=none):jN (x::r) m=jN r (Kk.put .int m x.2.1 ((m.length:Int)+1)):=by
 conv=>lhs;unfold jN
 rw [h]
theorem qQ:∀ (a b:List bx) (m:List (Int×Int)),dg (a++b) m=dg a m++dg b (jN a m)/\jN (a++b) m=jN b (jN a m)
 | [],_,_=>⟨rfl,rfl⟩
 | x::a,b,m=>by
  rw [eB];cases hg:Kk.get .int m x.2.1 with
  | some k=>
   rw [kZ hg,jt hg,kZ hg,jt hg,(qQ a b m).1,(qQ a b m).2];exact ⟨rfl,rfl⟩
  | none=>
   rw [jO hg,ju hg,jO hg,ju hg,(qQ a b _).1,(qQ a b _).2];exact ⟨rfl,rfl⟩
theorem j6:∀ (a:List bx) (m:List (Int×Int)),(dg a m).length=a.length
 | [],_=>rfl
 | x::a,m=>by
  cases hg:Kk.get .int m x.2.1 with
  | some k=>rw [kZ hg,aq,aq,j6 a]
  | none=>rw [jO hg,aq,aq,j6 a]
theorem wP:∀ (a:List bx) (m:List (Int×Int)),(jN a m).length<=m.length+a.length
 | [],_=>az _
 | x::a,m=>by
  cases hg:Kk.get .int m x.2.1 with
  | some k=>
   rw [jt hg,aq];have:=wP a m;omega
  | none=>
   rw [ju hg,aq];have:=wP a (Kk.put .int m x.2.1 ((m.length:Int)+1));rw [pD hg] at this;omega
namespace IsB
variable {C:List bx}
end IsB
theorem pZ:∀ (L:List bx) (m:List (Int×Int)),(dg L m).map (λc=>(c.1,c.2.2))=L.map λc=>(c.1,c.2.2)
 | [],_=>rfl
 | x::L,m=>by
  cases hg:Kk.get .int m x.2.1 with
  | some k=>rw [kZ hg,cg,cg,pZ L];rfl
  | none=>rw [jO hg,cg,cg,pZ L];rfl
theorem adu {L:List bx} {m:List (Int×Int)} (h:L.Pairwise λa b=>cmpL a.1 b.1< 0):(dg L m).Pairwise λa b=>cmpL a.1 b.1< 0:=by
 have e:=pZ L m;have h1:(L.map λc=>(c.1,c.2.2)).Pairwise λa b=>cmpL a.1 b.1< 0:=iZ.2 h;rw [<-e] at h1;exact iZ.1 h1
theorem IS {L:List bx} {m:List (Int×Int)} {c:bx} (h:c∈dg L m):∃ x∈L,x.1=c.1/\x.2.2=c.2.2:=by
 have e:=pZ L m;have h1:(c.1,c.2.2)∈(dg L m).map λc=>(c.1,c.2.2):=aM.2 ⟨c,h,rfl⟩;rw [e] at h1;obtain ⟨x,hx,e2⟩:=aM.1 h1;exact ⟨x,hx,(Prod.mk.inj e2).1,(Prod.mk.inj e2).2⟩
end Go.Lm

namespace Go.Lm
open Go
theorem mA (x y:ByteArray):lD x y=decide (fz x y< 0):=by
 unfold lD;rcases jV x y with ⟨h,e⟩| ⟨h,e⟩| ⟨h,e⟩<;>rw [e];rw [h];rfl;rw [h,rh];rfl;rw [tp h];rfl
theorem uh {x y:ByteArray} (h:fz x y=0):x=y:=by
 have:=AU h;rw [Lib.toList_data,Lib.toList_data] at this;exact BG this
theorem za (x y:ByteArray) (a b:List ByteArray):cmpL (x::a) (y::b)=if fz x y=0 then cmpL a b else fz x y:=rfl
theorem tU:∀ (L:List bx) {m:List (Int×Int)} {i z:Int},Kk.get .int m i=some z->Kk.get .int (jN L m) i=some z
 | [],_,_,_,h=>h
 | x::L,m,i,z,h=>by
  cases hg:Kk.get .int m x.2.1 with
  | some k=>rw [jt hg];exact tU L h
  | none=>
   rw [ju hg];refine tU L ?_;have:i≠x.2.1:=λe=>by rw [e,hg] at h;cases h
   rw [jR (k:=.int) this];exact h
theorem IQ:∀ (L:List bx) {m:List (Int×Int)},(∀ i z,Kk.get .int m i=some z->1<=z)->∀ i z,Kk.get .int (jN L m) i=some z->1<=z
 | [],_,h,i,z,hz=>h i z hz
 | x::L,m,h,i,z,hz=>by
  cases hg:Kk.get .int m x.2.1 with
  | some k=>rw [jt hg] at hz;exact IQ L h i z hz
  | none=>
   rw [ju hg] at hz;refine IQ L (λj y hy=>?_) i z hz;by_cases hj:j=x.2.1
   .rw [hj,gp] at hy;obtain rfl:=aj hy;omega
   .rw [jR (k:=.int) hj] at hy;exact h j y hy
theorem AO:∀ (L:List bx) (m:List (Int×Int)) (j:Nat) (hj:j< L.length),Kk.get .int (jN L m) (L[j]).2.1=some ((dg L m)[j]'(by rw [j6];exact hj)).2.1
 | [],_,_,h=>by simp at h
 | x::L,m,j,hj=>by
  cases hg:Kk.get .int m x.2.1 with
  | some k=>
   have e:=kZ (r:=L) hg;simp only [jt hg,e];cases j with
   | zero=>exact tU L hg
   | succ j=>exact AO L m j (by simpa using hj)
  | none=>
   have e:=jO (r:=L) hg;simp only [ju hg,e];cases j with
   | zero=>exact tU L gp
   | succ j=>exact AO L _ j (by simpa using hj)
theorem YC {L:List bx} {x:bx} {v:Int} (h:Kk.get .int (jN L []) x.2.1=some v\/(Kk.get .int (jN L []) x.2.1=none/\v=((jN L []).length:Int)+1)):dg (L++ [x]) []=dg L []++ [x.lC v]/\((jN (L++ [x]) []).length:Int)=if Kk.get .int (jN L []) x.2.1=none then ((jN L []).length:Int)+1 else (jN L []).length:=by
 rw [(qQ L [x] []).1,(qQ L [x] []).2];rcases h with h| ⟨h,rfl⟩
 .rw [kZ h,jt h,if_neg (by rw [h];simp)];exact ⟨rfl,rfl⟩
 .rw [jO h,ju h,if_pos h];refine ⟨rfl,?_⟩;show ((Kk.put .int _ _ _).length:Int)=_;rw [pD h];simp
theorem UE {L:List bx} (h:L.Pairwise λx y=>¬cmpL y.1 x.1< 0) (hn:L.Pairwise λa b=>a.1≠b.1):L.Pairwise λa b=>cmpL a.1 b.1< 0:=by
 refine (h.imp₂ (λa b h1 h2=>?_) hn);have s:=n5 a.1 b.1;by_cases e:cmpL a.1 b.1=0;exact absurd (cmpL_zero e) h2;omega
where
 cmpL_zero:∀ {a b:List ByteArray},cmpL a b=0->a=b
  | [],[],_=>rfl
  | [],_::_,h=>by cases h
  | _::_,[],h=>by cases h
  | x::a,y::b,h=>by
   rw [za] at h;split at h
   .rename_i e;rw [uh e,cmpL_zero h]
   .rename_i e;exact absurd h e
theorem PB {n:Int} (h0:0<=n) (h1:n< 4611686018427387904):IntKind.wrap .i64 (kO .u64 (IntKind.wrap .u64 n) 1)=n / 2:=by
 have e1:IntKind.wrap .u64 n=n:=o8 (by simp [Lit.wf,IntKind.min,ku,eI,ij];omega);have e2:kO .u64 n 1=n / 2:=by
  unfold kO;rw [Int.fdiv_eq_ediv_of_nonneg _ (by decide)];rfl
 rw [e1,e2];exact wrap64 (by omega) (by omega)
structure nE (L:List bx) (x:List Int):Prop where
 inr:∀ y∈x,0<=y/\y< (L.length:Int)
 ord:∀ i j:Int,0<=i->i< j->j< (x.length:Int)->¬cmpL (aB noTy L (aB (.int .i64) x j)).1 (aB noTy L (aB (.int .i64) x i)).1< 0
theorem nE.at {L:List bx} {x:List Int} (h:nE L x) {i:Int} (h0:0<=i) (h1:i< (x.length:Int)):0<=(aB (.int .i64) x i:Int)/\(aB (.int .i64) x i:Int)< (L.length:Int):=h.inr _ (rO (e:=.int .i64) h0 h1)
theorem nE.of {L:List bx} {x:List Int} (hs:L.Pairwise λa b=>cmpL a.1 b.1< 0) (hx:x.Pairwise λa b=>a< b) (yS:∀ y∈x,0<=y/\y< (L.length:Int)):nE L x:=⟨yS,λi j h0 h1 h2 hc=>by
 have hi:i< (x.length:Int):=by omega
 have a1:=yS _ (rO (e:=.int .i64) h0 hi);have a2:=yS _ (rO (e:=.int .i64) (i:=j) (by omega) h2);have eJ:(aB (.int .i64) x i:Int)< aB (.int .i64) x j:=by
  rw [fb (e:=.int .i64) h0 hi,fb (e:=.int .i64) (by omega) h2];exact da.1 hx _ _ _ _ (by omega)
 have key:∀ u v:Int,0<=u->u< v->v< (L.length:Int)->¬cmpL (aB noTy L v).1 (aB noTy L u).1< 0:=λu v u0 uv v1 hc=>by
  have:=da.1 hs u.toNat v.toNat (by omega) (by omega) (by omega);rw [fb (e:=noTy) u0 (by omega),fb (e:=noTy) (by omega) v1] at hc;have h3:=n5 (L[u.toNat]'(by omega)).1 (L[v.toNat]'(by omega)).1;omega
 exact key _ _ a1.1 eJ a2.2 hc⟩
def qg (p:List ByteArray) (x:bx):Bool:=((x.1.length:Int)==(p.length:Int)+1)&& (decide ((x.1.length:Int)>(p.length:Int))&& gy (x.1.take p.length) p)
def bX (p:List ByteArray):List bx->Int->List Int
 | [],_=>[]
 | x::r,k=>if qg p x then k::bX p r (k+1) else bX p r (k+1)
theorem jS (p:List ByteArray) (x:bx) (r:List bx) (k:Int):bX p (x::r) k=(if qg p x then [k] else [])++bX p r (k+1):=by
 conv=>lhs;unfold bX
 split<;>rfl
theorem oI (p:List ByteArray):∀ {L:List bx} {k y:Int},y∈bX p L k↔∃ j:Nat,∃ h:j< L.length,y=k+j/\qg p L[j]=true
 | [],k,y=>by simp [bX]
 | x::r,k,y=>by
  rw [jS,aY,oI p (L:=r)];constructor
  .rintro (h| ⟨j,hj,e,hk⟩)
   .by_cases hx:qg p x=true
    .rw [if_pos hx] at h;obtain rfl:=aR.1 h;exact ⟨0,by simp,by omega,hx⟩
    .rw [if_neg hx] at h;cases h
   .exact ⟨j+1,by simpa using hj,by omega,hk⟩
  .rintro ⟨j,hj,e,hk⟩;cases j with
   | zero=>
    left;have hk:qg p x=true:=hk;rw [if_pos hk,e];simp
   | succ j=>exact .inr ⟨j,by simpa using hj,by omega,hk⟩
theorem nV (p:List ByteArray):∀ {L:List bx} {k:Int},(bX p L k).Pairwise λa b=>a< b
 | [],_=>List.Pairwise.nil
 | x::r,k=>by
  rw [jS];split
  .refine fA.2 ⟨λy hy=>?_,nV p⟩;obtain ⟨j,_,e,_⟩:=(oI p).1 hy;omega
  .exact nV p
theorem jh (p:List ByteArray):∀ {L:List bx} {k:Int},(bX p L k).length<=L.length
 | [],_=>az _
 | x::r,k=>by
  rw [jS,af,aq];have:=jh p (L:=r) (k:=k+1);split;simp only [ay];omega;simp only [aL];omega
theorem YV {L:List bx} (hs:L.Pairwise λa b=>cmpL a.1 b.1< 0) (p:List ByteArray):nE L (bX p L 0):=.of hs (nV p) λy hy=>by
 obtain ⟨j,hj,e,_⟩:=(oI p).1 hy;omega
def qd (L:List bx) (i:Int):Nat:=L.countP (rQ i)
structure RAt (fs:List (List UInt8)) (R:List UInt8) (o:Nat) (r:Int):Prop where
 le:o<=R.length
 ref:∀ gs,r=(dV (fs++gs) o:Nat)
structure Has (fs:List (List UInt8)) (R:List UInt8) (r:Int) (b:List UInt8):Prop where
 ex:∃ o q,RAt fs R o r/\R.drop o=b++q
theorem Has.app {fs:List (List UInt8)} {R:List UInt8} {r:Int} {b:List UInt8} (h:Has fs R r b) (gs:List (List UInt8)) (S:List UInt8):Has (fs++gs) (R++S) r b:=by
 obtain ⟨o,q,h1,h2⟩:=h;exact ⟨o,q++S,⟨by rw [af];have:=h1.le;omega,λhs=>by rw [aH];exact h1.ref _⟩,by rw [dz h1.le,h2,aH]⟩
theorem Has.new {fs fs':List (List UInt8)} {R b:List UInt8} {r:Nat} (h:∀ gs,r=dV (fs++gs) R.length):Has (fs++fs') (R++b) (r:Int) b:=
 ⟨R.length,[],⟨by rw [af];omega,λgs=>by rw [aH];exact congrArg _ (h _)⟩,by rw [fB,a7]⟩
structure BS where
 RI:List UInt8
 fI:List (List UInt8)
 RL:List UInt8
 fL:List (List UInt8)
 RX:List UInt8
 fX:List (List UInt8)
 Mr:List (Int×Int)
 Ms:List (ByteArray×Int)
structure BS.Le (s t:BS):Prop where
 RI:∃ c,t.RI=s.RI++c
 fI:∃ c,t.fI=s.fI++c
 RL:∃ c,t.RL=s.RL++c
 fL:∃ c,t.fL=s.fL++c
 RX:∃ c,t.RX=s.RX++c
 fX:∃ c,t.fX=s.fX++c
 Mr:∀ i r,Kk.get .int s.Mr i=some r->Kk.get .int t.Mr i=some r
theorem zo {α:Type} {a b c:List α} (h:∃ x,b=a++x) (k:∃ x,c=b++x):∃ x,c=a++x:=by
 obtain ⟨x,rfl⟩:=h;obtain ⟨y,rfl⟩:=k;exact ⟨x++y,aH ..⟩
theorem BS.Le.refl (s:BS):BS.Le s s:=⟨⟨[],by simp⟩,⟨[],by simp⟩,⟨[],by simp⟩,⟨[],by simp⟩,⟨[],by simp⟩,⟨[],by simp⟩,λ_ _ h=>h⟩
theorem BS.Le.trans {s t u:BS} (h:BS.Le s t) (k:BS.Le t u):BS.Le s u:=⟨zo h.RI k.RI,zo h.fI k.fI,zo h.RL k.RL,zo h.fL k.fL,zo h.RX k.RX,zo h.fX k.fX,λi r q=>k.Mr i r (h.Mr i r q)⟩
theorem Has.le {fs gs:List (List UInt8)} {R S:List UInt8} {r:Int} {b:List UInt8} (h:Has fs R r b) (hf:∃ c,gs=fs++c) (hr:∃ c,S=R++c):Has gs S r b:=by
 obtain ⟨c,rfl⟩:=hf;obtain ⟨d,rfl⟩:=hr;exact h.app c d
structure V9 (fX:List (List UInt8)) (RX:List UInt8) (x:Int) (l:List uT):Prop where
 or:(l= []/\x=0)\/(l≠ []/\1<=x/\Has fX RX (x - 1) (xsB l))
 le:0<=x/\x<=4294967295
structure pj (fX:List (List UInt8)) (RX:List UInt8) (Ms:List (ByteArray×Int)):Prop where
 all:∀ p∈Ms,(0<=p.2/\p.2<=4294967294)/\Has fX RX p.2 p.1.data.toList
theorem pj.le {fX gX:List (List UInt8)} {RX SX:List UInt8} {Ms:List (ByteArray×Int)} (h:pj fX RX Ms) (hf:∃ c,gX=fX++c) (hr:∃ c,SX=RX++c):pj gX SX Ms:=⟨λp hp=>⟨(h.all p hp).1,(h.all p hp).2.le hf hr⟩⟩
theorem pj.put {fX:List (List UInt8)} {RX:List UInt8} {Ms:List (ByteArray×Int)} (h:pj fX RX Ms) {b:List UInt8} {r:Int} (h0:0<=r/\r<=4294967294) (hb:Has fX RX r b):pj fX RX (Kk.put .str Ms (gk b) r):=⟨λp hp=>by
 rcases aX.1 hp with rfl| hp;exact ⟨h0,by rw [tm];exact hb⟩
 .exact h.all p (fQ.1 hp).1⟩
theorem pj.get {fX:List (List UInt8)} {RX:List UInt8} {Ms:List (ByteArray×Int)} (h:pj fX RX Ms) {b:List UInt8} {r:Int} (hg:Kk.get .str Ms (gk b)=some r):(0<=r/\r<=4294967294)/\Has fX RX r b:=by
 have:=h.all _ (oN (κ:=ByteArray) hg);rw [tm] at this;exact this
def fH (L:List bx) (Mr:List (Int×Int)) (d:Nat):List Int->List cR.den->Prop
 | [],[]=>True
 | k::ks,e::es=>e.1=(aB noTy L k).1.getD d ⟨#[]⟩/\e.2.1=(aB noTy L k).2.2.1/\Kk.get .int Mr (aB noTy L k).2.1=some e.2.2.1/\fH L Mr d ks es
 | _,_=>False
theorem fH.le {L:List bx} {M N:List (Int×Int)} {d:Nat} (hk:∀ i r,Kk.get .int M i=some r->Kk.get .int N i=some r):∀ {ks:List Int} {es:List cR.den},fH L M d ks es->fH L N d ks es
 | [],[],h=>h
 | _::_,_::_,⟨h1,h2,h3,h4⟩=>⟨h1,h2,hk _ _ h3,fH.le hk h4⟩
 | [],_::_,h=>h
 | _::_,[],h=>h
theorem fH.snoc {L:List bx} {M:List (Int×Int)} {d:Nat} {k:Int} {e:cR.den}:∀ {ks:List Int} {es:List cR.den},fH L M d ks es->fH L M d [k] [e]->fH L M d (ks++ [k]) (es++ [e])
 | [],[],_,h=>h
 | _::_,_::_,⟨h1,h2,h3,h4⟩,h=>⟨h1,h2,h3,fH.snoc h4 h⟩
 | [],_::_,h,_=>h.elim
 | _::_,[],h,_=>h.elim
theorem fH.len {L:List bx} {M:List (Int×Int)} {d:Nat}:∀ {ks:List Int} {es:List cR.den},fH L M d ks es->es.length=ks.length
 | [],[],_=>rfl
 | _::_,_::_,⟨_,_,_,h4⟩=>by rw [aq,aq,fH.len h4]
 | [],_::_,h=>h.elim
 | _::_,[],h=>h.elim
structure tB (L:List bx) (ids:List Int) (F:List (Int×eH.den)) (s:BS) (x:bx) (i:eH.den):Prop where
 ok:oX i
 kind:i.1=x.2.2.1
 mode:i.2.1=x.2.2.2.1.1
 uid:ids[(i.2.2.1:Int).toNat]?=some (wm x)
 gid:ids[(i.2.2.2.1:Int).toNat]?=some (AB x)
 lnk:(i.2.2.2.2.1:Int)=(qd L x.2.1:Nat)
 xa:V9 s.fX s.RX i.2.2.2.2.2.1 x.2.2.2.2.2.2.1
 or:(x.2.2.1=1/\∃ es,hU ⟨#[]⟩ es/\fH L s.Mr x.1.length (bX x.1 L 0) es/\Has s.fL s.RL i.2.2.2.2.2.2.1 (gR es)/\(i.2.2.2.2.2.2.2.1:Int)=(gR es).length)\/
  (x.2.2.1=2/\Kk.get .int F x.2.1=some (0,0,0,0,0,0,i.2.2.2.2.2.2.1,i.2.2.2.2.2.2.2.1,i.2.2.2.2.2.2.2.2.1,i.2.2.2.2.2.2.2.2.2.1,⟨#[]⟩,()))\/
  (x.2.2.1=3/\i.2.2.2.2.2.2.2.2.2.2.1=x.2.2.2.2.2.1)
theorem tB.le {L:List bx} {ids:List Int} {F:List (Int×eH.den)} {s t:BS} {x:bx} {i:eH.den} (h:tB L ids F s x i) (k:BS.Le s t):tB L ids F t x i:=by
 refine ⟨h.ok,h.kind,h.mode,h.uid,h.gid,h.lnk,⟨?_,h.xa.le⟩,?_⟩
 .rcases h.xa.or with q| ⟨q,r⟩
  .exact .inl q
  .exact .inr ⟨q,r.1,r.2.le k.fX k.RX⟩
 .rcases h.or with ⟨q,es,r1,r2,r3,r4⟩| q| q
  .exact .inl ⟨q,es,r1,r2.le k.Mr,r3.le k.fL k.RL,r4⟩
  .exact .inr (.inl q)
  .exact .inr (.inr q)
structure DN (L:List bx) (ids:List Int) (F:List (Int×eH.den)) (s:BS) (e:Nat):Prop where
 refs:∀ i r,Kk.get .int s.Mr i=some r->(0<=r/\r<=4294967295)/\∃ x∈L,x.2.1=i/\∃ rec,Has s.fI s.RI r (fM rec)/\tB L ids F s x rec
 ac3:pj s.fX s.RX s.Ms
 inj:∀ i j r,Kk.get .int s.Mr i=some r->Kk.get .int s.Mr j=some r->i=j
 keys:∃ V:List Nat,V.Nodup/\(∀ v∈V,v< L.length)/\s.Mr.map (·.1)=V.map λv:Nat=>(aB noTy L (v:Int)).2.1
 lI:s.RI.length<=220*s.Mr.length
 lL:s.RL.length<=10500*(s.Mr.length+e)
 lX:s.RX.length<=4200*s.Mr.length
 kn:(s.Mr.map (·.1)).Nodup
theorem DN.len {L:List bx} {ids:List Int} {F:List (Int×eH.den)} {s:BS} {e:Nat} (h:DN L ids F s e):s.Mr.length<=L.length:=by
 obtain ⟨V,h1,h2,h3⟩:=h.keys;have:=pig h1 h2;have e:=congrArg List.length h3;rw [bL,bL] at e;omega
theorem sd {T:List Int} {x y R:List UInt8} {fs:List (List UInt8)} (h:MW T x y R fs):dV fs R.length<=270*R.length+128:=by
 have h1:=h.g.ab8;have h2:=h.g.row;have h3:(fs.take (R.length / 128)).flatten.length<=fs.flatten.length:=by
  conv=>rhs;rw [<-bY (R.length / 128) fs,eT,af]
  omega
 rw [<-h.g.flat] at h3;unfold dV;omega
theorem aeQ {T:List Int} {x y R:List UInt8} {fs:List (List UInt8)} (h:MW T x y R fs):∀ {j k:Nat},j< k->k<=fs.length->fD fs j+3<=fD fs k:=λ{j} k=>by
 induction k with
 | zero=>intro q;omega
 | succ k ih=>
  intro q hk;have hf:=(h.g.fr k fs[k] (ak (by omega))).len;rw [n9 (by omega)];rcases eQ j k with e| e;have:=ih e (by omega);omega
  .obtain rfl:j=k:=by omega
   omega
theorem B7 {T:List Int} {x y R:List UInt8} {fs:List (List UInt8)} (h:MW T x y R fs) {o:Nat} (ho:o< R.length):dV fs o< dV fs R.length:=by
 have hr:=h.g.row;have hy:=h.lt;have e1:R.length / 128=fs.length:=by omega
 have e2:R.length % 128=y.length:=by omega
 show 256*fD fs (o / 128)+o % 128< 256*fD fs (R.length / 128)+R.length % 128;rw [e1,e2];rcases eQ (o / 128) fs.length with q| q
 .have:=aeQ h q (az _);omega
 .have:o / 128=fs.length:=by omega
  rw [this];omega
def pre (p:List ByteArray) (x:bx):Prop:=x.1.take p.length=p
theorem sO (x:bx):pre x.1 x:=ff
structure rV (L:List bx) (ids:List Int) (F:List (Int×eH.den)):Prop where
 len:L.length<=40
 ord:L.Pairwise λa b=>cmpL a.1 b.1< 0
 nm:∀ x∈L,∀ s∈x.1,dA s=0
 deep:∀ x∈L,x.1.length<=16
 par:∀ x∈L,x.1.length≠0->∃ y∈L,y.2.2.1=1/\y.1=x.1.take (x.1.length - 1)
 may:∀ x∈L,iF x=true
 one:∀ x∈L,∀ y∈L,x.2.1=y.2.1->(x.2.2.1=1->x=y)/\x.2.2=y.2.2
 ino:∀ x∈L,1<=x.2.1/\x.2.1<=40
 uid:∀ x∈L,(∃ i:Nat,ids[i]?=some (wm x))/\∃ i:Nat,ids[i]?=some (AB x)
 idl:ids.length<=80
 J1:ids.Pairwise λa b=>a< b
 file:∀ x∈L,x.2.2.1=2->∃ st fr off,Kk.get .int F x.2.1=some (0,0,0,0,0,0,st,(x.2.2.2.2.1.length:Int),fr,off,⟨#[]⟩,())/\zx st (x.2.2.2.2.1.length:Int) fr off
 nofile:∀ x∈L,x.2.2.1≠2->Kk.get .int F x.2.1=none
theorem vf:∀ {a b:List ByteArray},gy a b=true↔a=b
 | [],[]=>by simp [gy]
 | [],_::_=>by simp [gy]
 | _::_,[]=>by simp [gy]
 | x::a,y::b=>by
  unfold gy;rw [ao,jA,vf,List.cons.injEq]
theorem SH {p:List ByteArray} {x:bx}:qg p x=true↔x.1.length=p.length+1/\pre p x:=by
 unfold qg pre;simp only [ao,beq_iff_eq,decide_eq_true_eq];constructor
 .rintro ⟨h1,h2,h3⟩;exact ⟨by omega,vf.1 h3⟩
 .rintro ⟨h1,h2⟩;exact ⟨by omega,by omega,vf.2 h2⟩
theorem Sz {L:List bx} {x:bx} (h:x∈L):∃ k:Nat,k< L.length/\aB noTy L (k:Int)=x:=by
 obtain ⟨k,hk,rfl⟩:=dH.1 h;exact ⟨k,hk,iI (e:=noTy) hk⟩
theorem eY {L:List bx} {p:List ByteArray} {k:Int} (h:k∈bX p L 0):0<=k/\k< (L.length:Int)/\(aB noTy L k).1.length=p.length+1/\pre p (aB noTy L k):=by
 obtain ⟨j,hj,e,hk⟩:=(oI p).1 h;have e2:aB noTy L k=L[j]:=by rw [e,Int.zero_add];exact iI (e:=noTy) hj
 rw [e2];exact ⟨by omega,by omega,SH.1 hk⟩
theorem AR {L:List bx} {p:List ByteArray} {x:bx} (hx:x∈L) (h1:x.1.length=p.length+1) (h2:pre p x):∃ k∈bX p L 0,aB noTy L k=x:=by
 obtain ⟨j,hj,rfl⟩:=Sz hx;refine ⟨(j:Int),(oI p).2 ⟨j,hj,by omega,?_⟩,rfl⟩;rw [<-iI (e:=noTy) hj];exact SH.2 ⟨h1,h2⟩
theorem um {L:List bx} {ids:List Int} {F:List (Int×eH.den)} (t:rV L ids F) {p:List ByteArray}:∀ (n:Nat) {y:bx},y∈L->pre p y->y.1.length=p.length+1+n->∃ k∈bX p L 0,pre (aB noTy L k).1 y
 | 0,y,hy,hp,hl=>by
  obtain ⟨k,hk,e⟩:=AR hy hl hp;exact ⟨k,hk,by rw [e];exact sO y⟩
 | n+1,y,hy,hp,hl=>by
  obtain ⟨z,hz,_,e⟩:=t.par y hy (by omega);have Om:z.1.length=p.length+1+n:=by rw [e,aD];omega
  have hzp:pre p z:=by
   unfold pre at*;rw [e,fR,eP (by omega),hp]
  obtain ⟨k,hk,hq⟩:=um t n hz hzp Om;refine ⟨k,hk,?_⟩;have P3:=(eY hk).2.2.1;unfold pre at*;have:(aB noTy L k).1=(y.1.take (y.1.length - 1)).take (aB noTy L k).1.length:=by rw [<-e,hq]
  rw [fR,eP (by omega)] at this;exact this.symm
theorem Gf {p q:List ByteArray} {y:bx} (h1:p.length<=q.length) (h2:q.take p.length=p) (h:pre q y):pre p y:=by
 unfold pre at*;rw [<-h2,aD,eP h1]
 conv=>rhs;rw [<-h]
 rw [fR,eP h1]
theorem nQ {p:List ByteArray} {x:bx} (h1:x.1.length=p.length+1) (h2:pre p x):x.1=p++ [x.1.getD p.length ⟨#[]⟩]:=by
 conv=>lhs;rw [<-bY p.length x.1]
 unfold pre at h2;rw [h2];congr 1;have:(x.1.drop p.length).length=1:=by rw [aW];omega
 obtain ⟨s,hs⟩:=List.length_eq_one_iff.1 this;have e:(x.1.drop p.length)[0]?=some s:=by rw [hs];rfl
 rw [List.getElem?_drop,j4] at e;rw [hs,aP,e];rfl
theorem ac6 {s:ByteArray} (h:dA s=0):lD ⟨#[]⟩ s=true:=by
 rw [mA,decide_eq_true_eq];refine aeg (List.nil_le _) (λe=>?_);subst e;exact absurd h (by decide+kernel)
theorem GM {L:List bx} {ids:List Int} {F:List (Int×eH.den)} (t:rV L ids F) {p:List ByteArray} {M:List (Int×Int)} (hM:∀ i r,Kk.get .int M i=some r->0<=r/\r<=4294967295):∀ {ks:List Int} {es:List cR.den} {last:ByteArray},fH L M p.length ks es->(∀ k∈ks,k∈bX p L 0)->(ks.Pairwise λa b=>a< b)->(∀ k∈ks,lD last ((aB noTy L k).1.getD p.length ⟨#[]⟩)=true)->hU last es
 | [],[],_,_,_,_,_=>trivial
 | k::ks,e::es,last,⟨h1,h2,h3,h4⟩,hk,ho,hl=>by
  obtain ⟨k0,k1,kl,kp⟩:=eY (hk k aS);have uy:aB noTy L k∈L:=rO (e:=noTy) k0 k1;have hs:=nQ kl kp;obtain ⟨o1,o2⟩:=fA.1 ho;have hkd:1<=(aB noTy L k).2.2.1/\(aB noTy L k).2.2.1<=3:=by
   have:=t.may _ uy;unfold iF at this;split at this
   .rename_i q;exact ⟨by rw [q];decide,by rw [q];decide⟩
   .split at this
    .rename_i q;exact ⟨by rw [q];decide,by rw [q];decide⟩
    .split at this
     .rename_i q;exact ⟨by rw [q];decide,by rw [q];decide⟩
     .cases this
  refine ⟨⟨?_,?_,by rw [h2];exact hkd,hM _ _ h3⟩,GM t hM h4 (λk' q=>hk k' (aG _ q)) o2 λk' vY=>?_⟩
  .rw [h1];refine t.nm _ uy _ (Eq.mpr (congrArg (λl:List ByteArray=>(aB noTy L k).1.getD p.length ⟨#[]⟩∈l) hs) ?_);exact ja _ aS
  .rw [h1];exact hl k aS
  .obtain ⟨j0,j1,jl,jp⟩:=eY (hk k' (aG _ vY));have hs':=nQ jl jp;have eJ:=o1 k' vY;have hc:=da.1 t.ord k.toNat k'.toNat (by omega) (by omega) (by omega);rw [<-fb (e:=noTy) k0 k1,<-fb (e:=noTy) j0 j1,hs,hs',Df] at hc;rw [h1,mA,decide_eq_true_eq];rw [za] at hc;split at hc
   .exact absurd hc (by decide)
   .exact hc
 | [],_::_,_,h,_,_,_=>h.elim
 | _::_,[],_,h,_,_,_=>h.elim
theorem BS.SC (t:BS) (b:List UInt8) (f:List (List UInt8)):BS.Le t {t with RL:=t.RL++b,fL:=t.fL++f}:=⟨⟨[],by simp⟩,⟨[],by simp⟩,⟨b,rfl⟩,⟨f,rfl⟩,⟨[],by simp⟩,⟨[],by simp⟩,λ_ _ h=>h⟩
theorem DN.list {L:List bx} {ids:List Int} {F:List (Int×eH.den)} {t:BS} (h:DN L ids F t 0) (b:List UInt8) (f:List (List UInt8)) (hb:b.length<=10500):DN L ids F {t with RL:=t.RL++b,fL:=t.fL++f} 1:=by
 refine ⟨λi r q=>?_,h.ac3,h.inj,h.keys,h.lI,?_,h.lX,h.kn⟩
 .obtain ⟨q1,x,q2,q3,rec,q4,q5⟩:=h.refs i r q;exact ⟨q1,x,q2,q3,rec,q4,q5.le (BS.SC t b f)⟩
 .have:=h.lL;show (t.RL++b).length<=10500*(t.Mr.length+1);rw [af];omega
theorem AN {p:List ByteArray} {y:bx} (h:pre p y):p.length<=y.1.length:=by
 unfold pre at h;have:=congrArg List.length h;rw [aD] at this;omega
theorem both {P:Prop} (h:P):P/\P:=⟨h,h⟩
structure ajZ (l:List Int) (y:Int):Prop where
 ex:∃ i:Nat,l[i]?=some y
structure agS (L:List bx) (M:List (Int×Int)) (d:Nat) (ks:List Int) (es:List cR.den):Prop where
 ok:fH L M d ks es
structure aoO (x:bx):Prop where
 mode:0<=x.2.2.2.1.1/\x.2.2.2.1.1<=511
 xa:dI x.2.2.2.2.2.2.1=true
 or:(x.2.2.1=1/\x.2.2.2.2.2.1=⟨#[]⟩)\/(x.2.2.1=2/\x.2.2.2.2.2.1=⟨#[]⟩)\/(x.2.2.1=3/\zw x.2.2.2.2.2.1)
theorem yP {m u g:Int} (h:Ax m u g=true):0<=m/\m<=511:=by
 unfold Ax gS at h;simp only [ao,decide_eq_true_eq] at h;omega
theorem yO {x:bx} (h:iF x=true):aoO x:=by
 unfold iF at h;split at h
 .rename_i q;simp only [ao] at h;exact ⟨yP h.1.2,h.2,.inl ⟨q,jA.1 h.1.1.1.2⟩⟩
 .split at h
  .rename_i q;simp only [ao] at h;exact ⟨yP h.1.2,h.2,.inr (.inl ⟨q,jA.1 h.1.1.1.2⟩)⟩
  .split at h
   .rename_i q;simp only [ao] at h;have hp:=h.1.1.1.2;unfold oE gS at hp;simp only [ao,decide_eq_true_eq] at hp;refine ⟨yP h.1.2,h.2,.inr (.inr ⟨q,⟨by omega,λc hc e=>?_⟩⟩)⟩;subst e;have h2:decide (Lib.indexByte x.2.2.2.2.2.1.data.toList 0< 0)=true:=decide_eq_true hp.2;rw [tZ] at h2;simp only [bG,List.any_eq_false,beq_iff_eq] at h2;exact h2 _ hc rfl
   .cases h
variable {L:List bx} {ids:List Int} {F:List (Int×eH.den)}
theorem rV.uniq (t:rV L ids F) {x y:bx} (hx:x∈L) (hy:y∈L) (h:x.1=y.1):x=y:=by
 obtain ⟨i,hi,rfl⟩:=dH.1 hx;obtain ⟨j,hj,rfl⟩:=dH.1 hy;have P:=da.1 t.ord;rcases ko i j with q| q| q
 .have:=P i j hi hj q;rw [h,j9] at this;exact absurd this (by decide)
 .subst q;rfl
 .have:=P j i hj hi q;rw [h,j9] at this;exact absurd this (by decide)
theorem rV.nd (t:rV L ids F):L.Nodup:=t.ord.imp λ{a b} h e=>by
 subst e;rw [j9] at h;exact absurd h (by decide)
theorem count_one {α:Type} {p:α->Bool} {x:α}:∀ {l:List α},l.Nodup->x∈l->p x=true->(∀ y∈l,p y=true->y=x)->l.countP p=1
 | [],_,h,_,_=>by cases h
 | a::r,hn,hx,hp,ha=>by
  obtain ⟨n1,n2⟩:=eD.1 hn;rw [List.countP_cons];rcases aX.1 hx with rfl| hx;rw [if_pos hp,List.countP_eq_zero.2 λy hy q=>n1 (ha y (aG _ hy) q▸hy)];rw [count_one n2 hx hp λy hy=>ha y (aG _ hy),if_neg λq=>n1 (ha a aS q▸hx)]
theorem rV.lnk (t:rV L ids F) {x:bx} (hx:x∈L):1<=qd L x.2.1/\qd L x.2.1<=40/\(x.2.2.1=1->qd L x.2.1=1):=by
 refine ⟨List.countP_pos_iff.2 ⟨x,hx,by simp [rQ]⟩,Nat.le_trans List.countP_le_length t.len,λh=>count_one t.nd hx (by simp [rQ]) λy hy q=>?_⟩;exact ((t.one x hx y hy (eq_of_beq q).symm).1 h).symm
theorem CP {M:List (Int×Int)} {i:Int}:Kk.get .int M i=none↔i ∉ M.map (·.1):=by
 unfold Kk.get iS;rw [Option.map_eq_none_iff,jC];constructor
 .intro h q;obtain ⟨p,hp,rfl⟩:=aM.1 q;exact absurd (h p hp) (by simp)
 .intro h p hp q;exact h (aM.2 ⟨p,hp,by simpa using q⟩)
theorem SG {M:List (Int×Int)} {i r:Int} (h:Kk.get .int M i=none):(Kk.put .int M i r:List (Int×Int))=(i,r)::M:=by
 unfold Kk.put qP mJ;rw [kr.2];intro p hp;have:=CP.1 h;simp only [bG,decide_eq_false_iff_not];intro e;exact this (aM.2 ⟨p,hp,e⟩)
theorem HZ {i:eH.den} (h:oX i):(fM i).length<=214:=by
 rw [R8 h];rcases h.or with q| q| q;rw [if_pos q.1];decide
 .split
  .decide
  .split
   .decide
   .have:=q.2.2;rw [this];decide
 .have:=q.2.1.len;split
  .decide
  .split
   .decide
   .omega
theorem fH.get {M:List (Int×Int)} {d:Nat}:∀ {ks:List Int} {es:List cR.den},fH L M d ks es->∀ k∈ks,∃ r,Kk.get .int M (aB noTy L k).2.1=some r
 | [],[],_,k,hk=>by cases hk
 | a::ks,e::es,⟨_,_,h3,h4⟩,k,hk=>by
  rcases aX.1 hk with rfl| hk;exact ⟨_,h3⟩;exact fH.get h4 k hk
 | [],_::_,h,_,_=>h.elim
 | _::_,[],h,_,_=>h.elim
theorem DN.cov (t:rV L ids F) {s:BS} {e:Nat} (h:DN L ids F s e):∀ (n:Nat) {x y:bx},x∈L->(∃ r,Kk.get .int s.Mr x.2.1=some r)->y∈L->pre x.1 y->y.1.length=x.1.length+n->∃ r,Kk.get .int s.Mr y.2.1=some r
 | 0,x,y,hx,hr,hy,hp,hl=>by
  unfold pre at hp;rw [aV (by omega)] at hp;rw [t.uniq hy hx hp];exact hr
 | n+1,x,y,hx,hr,hy,hp,hl=>by
  obtain ⟨z,hz,hzk,hze⟩:=t.par y hy (by omega);have Om:z.1.length=x.1.length+n:=by rw [hze,aD];omega
  have hzp:pre x.1 z:=by
   unfold pre at*;rw [hze,fR,eP (by omega),hp]
  obtain ⟨r,hg⟩:=DN.cov t h n hx hr hz hzp Om;obtain ⟨_,x',Gx,ei,rec,_,hN⟩:=h.refs _ _ hg;obtain rfl:=(t.one z hz x' Gx ei.symm).1 hzk;rcases hN.or with ⟨_,es,_,q,_⟩| ⟨q,_⟩| ⟨q,_⟩
  .obtain ⟨k,hk,rfl⟩:=AR (p:=z.1) hy (by omega) (by unfold pre;rw [hze,aD];congr 1;omega);exact q.get k hk
  .rw [hzk] at q;exact absurd q (by decide)
  .rw [hzk] at q;exact absurd q (by decide)
abbrev BS.put (t:BS) (i:Int) (r:Int) (b:List UInt8) (f:List (List UInt8)) (RX:List UInt8) (fX:List (List UInt8)) (Ms:List (ByteArray×Int)):BS:=⟨t.RI++b,t.fI++f,t.RL,t.fL,RX,fX,Kk.put .int t.Mr i r,Ms⟩
theorem DN.put {t:BS} {e:Nat} (h:DN L ids F t e) (he:e<=1) {k:Int} (k0:0<=k) (k1:k< (L.length:Int)) (kJ:Kk.get .int t.Mr (aB noTy L k).2.1=none) {RX:List UInt8} {fX:List (List UInt8)} {Ms:List (ByteArray×Int)} (hR:∃ c,RX=t.RX++c/\c.length<=4100) (hf:∃ c,fX=t.fX++c) (hS:pj fX RX Ms) {rec:eH.den} {r:Nat} {fs:List (List UInt8)} (hr:∀ gs,r=dV (t.fI++gs) t.RI.length) (ali:r<=4294967295) (eJ:∀ o,o< t.RI.length->dV t.fI o< dV t.fI t.RI.length) (hN:tB L ids F {t with RX:=RX,fX:=fX,Ms:=Ms} (aB noTy L k) rec):DN L ids F (t.put (aB noTy L k).2.1 r (fM rec) fs RX fX Ms) 0/\BS.Le t (t.put (aB noTy L k).2.1 r (fM rec) fs RX fX Ms):=by
 have hM:∀ i q,Kk.get .int t.Mr i=some q->Kk.get .int (Kk.put .int t.Mr (aB noTy L k).2.1 (r:Int):List (Int×Int)) i=some q:=λi q hq=>by
  rw [jR (k:=.int) (by intro e;rw [e,kJ] at hq;cases hq)];exact hq
 obtain ⟨c,hc,M9⟩:=hR;have hle:BS.Le t (t.put (aB noTy L k).2.1 r (fM rec) fs RX fX Ms):=⟨⟨_,rfl⟩,⟨_,rfl⟩,⟨[],by simp⟩,⟨[],by simp⟩,⟨c,hc⟩,hf,hM⟩;have alz:BS.Le {t with RX:=RX,fX:=fX,Ms:=Ms} (t.put (aB noTy L k).2.1 r (fM rec) fs RX fX Ms):=⟨⟨_,rfl⟩,⟨_,rfl⟩,⟨[],by simp⟩,⟨[],by simp⟩,⟨[],by simp⟩,⟨[],by simp⟩,hM⟩;have J3:(Kk.put .int t.Mr (aB noTy L k).2.1 (r:Int):List (Int×Int)).length=t.Mr.length+1:=pD kJ;have hrl:=HZ hN.ok;have uw:∀ j q,Kk.get .int t.Mr j=some q->q≠(r:Int):=λj q hq e=>by
  obtain ⟨_,y,_,_,rc,⟨o,qq,ho,hd⟩,hn⟩:=h.refs j q hq;have h1:=ho.ref [];have h2:=hr [];rw [a7] at h1 h2;obtain ⟨tl,htl⟩:=Mf hn.ok;have hl:=congrArg List.length hd;rw [aW,af,htl,aq] at hl;have:=eJ o (by omega);omega
 refine ⟨⟨λi q hq=>?_,hS,λi j q hi hj=>?_,?_,?_,?_,?_,by show ((Kk.put .int t.Mr (aB noTy L k).2.1 (r:Int):List (Int×Int)).map (·.1)).Nodup;rw [SG kJ,cg,eD];exact ⟨CP.1 kJ,h.kn⟩⟩,hle⟩
 .by_cases hi:i=(aB noTy L k).2.1
  .subst hi;have hq:Kk.get .int (Kk.put .int t.Mr (aB noTy L k).2.1 (r:Int):List (Int×Int)) _=some q:=hq;rw [gp (k:=.int)] at hq;obtain rfl:=aj hq;exact ⟨⟨jD _,by omega⟩,_,rO (e:=noTy) k0 k1,rfl,rec,Has.new hr,hN.le alz⟩
  .have hq:Kk.get .int (Kk.put .int t.Mr (aB noTy L k).2.1 (r:Int):List (Int×Int)) i=some q:=hq;rw [jR (k:=.int) hi] at hq;obtain ⟨q1,x,q2,q3,rc,q4,q5⟩:=h.refs i q hq;exact ⟨q1,x,q2,q3,rc,q4.le hle.fI hle.RI,q5.le hle⟩
 .have hi:Kk.get .int (Kk.put .int t.Mr (aB noTy L k).2.1 (r:Int):List (Int×Int)) i=some q:=hi;have hj:Kk.get .int (Kk.put .int t.Mr (aB noTy L k).2.1 (r:Int):List (Int×Int)) j=some q:=hj;by_cases ei:i=(aB noTy L k).2.1
  .by_cases ej:j=(aB noTy L k).2.1
   .rw [ei,ej]
   .rw [jR (k:=.int) ej] at hj;rw [ei,gp (k:=.int)] at hi;exact absurd (aj hi).symm (uw j q hj)
  .rw [jR (k:=.int) ei] at hi;by_cases ej:j=(aB noTy L k).2.1
   .rw [ej,gp (k:=.int)] at hj;exact absurd (aj hj).symm (uw i q hi)
   .rw [jR (k:=.int) ej] at hj;exact h.inj i j q hi hj
 .obtain ⟨V,v1,v2,v3⟩:=h.keys;refine ⟨k.toNat::V,eD.2 ⟨λq=>?_,v1⟩,λv hv=>?_,?_⟩
  .refine CP.1 kJ ?_;rw [v3];refine aM.2 ⟨_,q,?_⟩;rw [nG k0]
  .rcases aX.1 hv with rfl| hv
   .omega
   .exact v2 v hv
  .show (Kk.put .int t.Mr (aB noTy L k).2.1 (r:Int):List (Int×Int)).map (·.1)=_;rw [SG kJ,cg,cg,v3,nG k0]
 .show (t.RI++fM rec).length<=220*(Kk.put .int t.Mr (aB noTy L k).2.1 (r:Int):List (Int×Int)).length;have:=h.lI;rw [af,J3];omega
 .show t.RL.length<=10500*((Kk.put .int t.Mr (aB noTy L k).2.1 (r:Int):List (Int×Int)).length+0);have:=h.lL;rw [J3];omega
 .show RX.length<=4200*(Kk.put .int t.Mr (aB noTy L k).2.1 (r:Int):List (Int×Int)).length;have:=h.lX;rw [J3,hc,af];omega
theorem Ji {ids:List Int} {i y:Int} (h:ids[i.toNat]?=some y):i.toNat< ids.length:=(av.1 h).1
theorem IW (t:rV L ids F) {x:bx} (hx:x∈L) {iu ig xa:Int} (u0:0<=iu) (hu:ids[iu.toNat]?=some (wm x)) (g0:0<=ig) (hg:ids[ig.toNat]?=some (AB x)) (ha:0<=xa/\xa<=4294967295):DM x.2.2.2.1.1 iu ig (qd L x.2.1:Nat) xa:=by
 have h1:=t.idl;have h2:=Ji hu;have h3:=Ji hg;have h4:=t.lnk hx;exact ⟨(yO (t.may x hx)).mode,by omega,by omega,by omega,ha⟩
theorem YE (t:rV L ids F) {x:bx} (hx:x∈L) (hk:x.2.2.1=1) {s:BS} {iu ig xa st:Int} (u0:0<=iu) (hu:ids[iu.toNat]?=some (wm x)) (g0:0<=ig) (hg:ids[ig.toNat]?=some (AB x)) (ha:V9 s.fX s.RX xa x.2.2.2.2.2.2.1) {es:List cR.den} (h1:hU ⟨#[]⟩ es) (h2:fH L s.Mr x.1.length (bX x.1 L 0) es) (h3:Has s.fL s.RL st (gR es)) (h4:0<=st/\st<=4294967295) (h5:(gR es).length<=10440):tB L ids F s x (x.2.2.1,x.2.2.2.1.1,iu,ig,((qd L x.2.1:Nat):Int),xa,st,((gR es).length:Int),0,0,x.2.2.2.2.2.1,()):=by
 have hl:=t.lnk hx;have hz:x.2.2.2.2.2.1=⟨#[]⟩:=by
  rcases (yO (t.may x hx)).or with q| q| q;exact q.2;exact q.2;rw [hk] at q;exact absurd q.1 (by decide)
 refine ⟨⟨IW t hx u0 hu g0 hg ha.le,.inl ⟨hk,⟨h4,by show (0:Int)<=((gR es).length:Int)/\((gR es).length:Int)<=1048576;omega⟩,?_,rfl,rfl,hz⟩⟩,rfl,rfl,hu,hg,rfl,ha,.inl ⟨hk,es,h1,h2,h3,rfl⟩⟩;show ((qd L x.2.1:Nat):Int)=1;rw [hl.2.2 hk];rfl
theorem Ve (t:rV L ids F) {x:bx} (hx:x∈L) (hk:x.2.2.1=2) {s:BS} {iu ig xa st fr off:Int} (u0:0<=iu) (hu:ids[iu.toNat]?=some (wm x)) (g0:0<=ig) (hg:ids[ig.toNat]?=some (AB x)) (ha:V9 s.fX s.RX xa x.2.2.2.2.2.2.1) (h1:Kk.get .int F x.2.1=some (0,0,0,0,0,0,st,(x.2.2.2.2.1.length:Int),fr,off,⟨#[]⟩,())) (h2:zx st (x.2.2.2.2.1.length:Int) fr off):tB L ids F s x (x.2.2.1,x.2.2.2.1.1,iu,ig,((qd L x.2.1:Nat):Int),xa,st,(x.2.2.2.2.1.length:Int),fr,off,x.2.2.2.2.2.1,()):=by
 have hz:x.2.2.2.2.2.1=⟨#[]⟩:=by
  rcases (yO (t.may x hx)).or with q| q| q;exact q.2;exact q.2;rw [hk] at q;exact absurd q.1 (by decide)
 exact ⟨⟨IW t hx u0 hu g0 hg ha.le,.inr (.inl ⟨hk,h2,hz⟩)⟩,rfl,rfl,hu,hg,rfl,ha,.inr (.inl ⟨hk,h1⟩)⟩
theorem Vd (t:rV L ids F) {x:bx} (hx:x∈L) (hk:x.2.2.1=3) {s:BS} {iu ig xa:Int} (u0:0<=iu) (hu:ids[iu.toNat]?=some (wm x)) (g0:0<=ig) (hg:ids[ig.toNat]?=some (AB x)) (ha:V9 s.fX s.RX xa x.2.2.2.2.2.2.1):tB L ids F s x (x.2.2.1,x.2.2.2.1.1,iu,ig,((qd L x.2.1:Nat):Int),xa,0,0,0,0,x.2.2.2.2.2.1,()):=by
 have hz:zw x.2.2.2.2.2.1:=by
  rcases (yO (t.may x hx)).or with q| q| q;rw [hk] at q;exact absurd q.1 (by decide);rw [hk] at q;exact absurd q.1 (by decide);exact q.2
 exact ⟨⟨IW t hx u0 hu g0 hg ha.le,.inr (.inr ⟨hk,hz,rfl,rfl,rfl,rfl⟩)⟩,rfl,rfl,hu,hg,rfl,ha,.inr (.inr ⟨hk,rfl⟩)⟩
theorem rV.below (t:rV L ids F) {x y:bx} (hx:x∈L) (hk:x.2.2.1≠1) (hy:y∈L) (hp:pre x.1 y):y=x:=by
 have hl:=AN hp;rcases Nat.eq_or_lt_of_le hl with q| q
 .unfold pre at hp;rw [aV (by omega)] at hp;exact t.uniq hy hx hp
 .obtain ⟨k,qS,hq⟩:=um t (p:=x.1) (y.1.length - (x.1.length+1)) hy hp (by omega);obtain ⟨k0,k1,kl,kp⟩:=eY qS;obtain ⟨z,hz,hzk,hze⟩:=t.par _ (rO (e:=noTy) k0 k1) (by omega);have:z.1=x.1:=by
   rw [hze,kl];unfold pre at kp;exact kp
  have:=t.uniq hz hx this;subst this;exact absurd hzk hk
end Go.Lm

namespace Go.Proofs
open Go.Shelf
set_option maxRecDepth 1000000
def Tryz.zW:Go.Shelf.Ren:=⟨fun| 156=>154| 165=>200| 166=>201| 169=>202| 240=>229| 241=>230| 276=>242| 277=>243| n=>n,fun| 31=>32| 9=>9| 3=>3| 4=>4| 0=>0| 20=>20| 72=>294| 76=>298| 70=>292| 37=>35| 75=>297| 127=>324| 164=>334| 5=>5| 80=>291| n=>n,fun| n=>n⟩
theorem Tryz.SF:Go.Proofs.Lays.n156 ck Tryz.zW:= {
 mixed:=by kernel_rfl
 f156:=Tryz.func154.trans (congrArg some (by kernel_rfl))
 f165:=Tryz.func200.trans (congrArg some (by kernel_rfl))
 f166:=Tryz.func201.trans (congrArg some (by kernel_rfl))
 f169:=Tryz.func202.trans (congrArg some (by kernel_rfl))
 f240:=Tryz.func229.trans (congrArg some (by kernel_rfl))
 f241:=Tryz.func230.trans (congrArg some (by kernel_rfl))
 f276:=Tryz.func242.trans (congrArg some (by kernel_rfl))
 f277:=Tryz.func243.trans (congrArg some (by kernel_rfl))
 t0:=Tryz.underlying0
 a0:=Tryz.isAgg0
 z0:=Tryz.sizeOf0
 v0:=Tryz.zeroValue0
 t3:=o5
 a3:=Tryz.isAgg3
 z3:=Tryz.sizeOf3
 v3:=Tryz.zeroValue3
 t4:=Tryz.underlying4
 a4:=Tryz.isAgg4
 z4:=Tryz.sizeOf4
 v4:=Tryz.zeroValue4
 t9:=Tryz.underlying9
 a9:=Tryz.isAgg9
 z9:=Tryz.sizeOf9
 v9:=Tryz.zeroValue9
 t20:=Tryz.underlying20
 a20:=Tryz.isAgg20
 z20:=Tryz.sizeOf20
 v20:=Tryz.zeroValue20
 t31:=Tryz.underlying32
 a31:=Tryz.isAgg32
 z31:=Tryz.sizeOf32
 v31:=Tryz.zeroValue32
 t37:=Tryz.underlying35
 a37:=Tryz.isAgg35
 z37:=Tryz.sizeOf35
 v37:=Tryz.zeroValue35
 t70:=Tryz.underlying292
 a70:=Tryz.isAgg292
 z70:=Tryz.sizeOf292
 v70:=Tryz.zeroValue292
 t72:=Tryz.underlying294
 a72:=Tryz.isAgg294
 z72:=Tryz.sizeOf294
 v72:=Tryz.zeroValue294
 t75:=Tryz.underlying297
 a75:=Tryz.isAgg297
 z75:=Tryz.sizeOf297
 v75:=Tryz.zeroValue297
 t76:=Tryz.underlying298
 a76:=Tryz.isAgg298
 z76:=Tryz.sizeOf298
 v76:=Tryz.zeroValue298
 t127:=Tryz.underlying324
 a127:=Tryz.isAgg324
 z127:=Tryz.sizeOf324
 v127:=Tryz.zeroValue324
 t164:=Tryz.underlying334
 a164:=Tryz.isAgg334
 z164:=Tryz.sizeOf334
 v164:=Tryz.zeroValue334}
theorem Tryz.po:Builder.Extra ck Tryz.zW:= {
 sizeBuilder:=by kernel_rfl
 liesBuilder:=by kernel_rfl
 t5:=Tryz.underlying5
 a5:=Tryz.isAgg5
 z5:=Tryz.sizeOf5
 v5:=Tryz.zeroValue5
 infoByte:=by kernel_rfl
 cellsByte:=by kernel_rfl
 sizeByte:=by kernel_rfl
 neB5:=by decide}
open Go.RowKit in
theorem Tryz.strings_Join_none (a:Option Addr) (c:Nat) (sep:ByteArray) (w:World):
  Calls ck 154 #[.slice a 0 c,.string sep] w λe w'=>e= .returned (.string ⟨#[]⟩)/\w'=w:=Any.strings_Join_none Tryz.SF Tryz.po a c sep w
open Go.RowKit in
theorem Tryz.strings_Join (bk o c:Nat) (xs:List ByteArray) (sep:ByteArray) (w:World) (P4:∀ (j:Nat) x,xs[j]?=some x->w.cell? ⟨bk,o+j,none⟩=some (.string x)) (hbk:bk< w.heap.size) (hN:xs.length<=140737488355328) (Jo:xs.length<=c) (hlen:(Lib.join (xs.map (·.data.toList)) sep.data.toList).length<=140737488355328):
  Calls ck 154 #[.slice (some ⟨bk,o,none⟩) xs.length c,.string sep] w λe w'=>e= .returned (.string ⟨(Lib.join (xs.map (·.data.toList)) sep.data.toList).toArray⟩)/\Below w.heap.size w w':=Any.strings_Join Tryz.SF Tryz.po bk o c xs sep w P4 hbk hN Jo hlen
end Go.Proofs

namespace Go.Proofs
open Go Go.Lm Go.RowKit
set_option maxRecDepth 1000000
def VS:Ct:=cI λx=>cI λa=>cI λb=>c0 λQ=>Q (.bool (gS x a b)) []
def af4:=(jr.add QO).add Kb
def Bo (x a b:Int):dE:=λQ=>cU x a b (br (decide (a<=x)) (Q (.v (.c (.k (.bool (decide (x<=b)))))) []) (bq Q))
theorem Um:cM 157 VS:=fe<| nK λx=>nK λa=>nK λb=>iB λQ h=>by
 refine Wp.dL af4 cQ ⟨[],[]⟩ Tryz.f157 (Bo x a b) ?_;unfold Bo bq cU jF;intro _ _ _;unfold gS at h;refine aw (λhc=>?_) (λhc=>?_)<;>rw [hc] at h<;>exact h
def Z3:Ct:=cS λs=>cI λm=>c0 λQ=>Q (.bool (oE s m)) []
def af3:=af4.add Um
def EZ (s:ByteArray) (m:Int):dE:=λQ=>iQ s (aI .i64 m->br (gS (iN s) a8 m) (Iz s.data.toList Q) (bq Q))
theorem WV:cM 156 Z3:=fe<| Yx λs=>nK λm=>iB λQ h=>by
 refine Wp.dL af3 cQ ⟨[],[]⟩ Tryz.f156 (EZ s m) ?_;unfold EZ Iz iQ bq iN jF a8 bC;intro _ _;unfold oE at h;refine aw (λhc=>?_) (λhc=>?_)<;>rw [hc] at h
 .intro _;exact h
 .exact h
def VR:Ct:=cD dJ λl=>c0 λQ=>Q (.bool (dI l)) []
def af2:=af3.add WV
def Bn (l:(List (dJ).den)):dE:=λQ=>l6 l (aN (List.length l)->ba (λi ag=>br (decide (i.1.1< (aF l))) (0<=i.1.1/\i.1.1< (aF l)/\(Ty.ok dJ (dW l i.1.1)->br (!oE (dW l i.1.1).1 (40:Int)) (bq Q) (br (lD (dW l i.1.1).1 
 i.1.2.1|| kR (dW l i.1.1).1 i.1.2.1) (bq Q) (ID l i.1.1 Q ag)))) (yu l Q)) ((ah,ByteArray.mk #[],()),()))
theorem Ul:cM 158 VR:=fe<| kC λl=>iB λQ h=>by
 refine Wp.dL af2 cQ ⟨[(4,⟨[(8,.int .i64),(3,.str)],[]⟩)],[]⟩ Tryz.f158 (Bn l) ?_;unfold Bn l6 dW yu ID bq cG jF ah iA aF aN;intro hl0 _;refine ba.intro (λi=>0<=i.1.1/\i.1.1<=l.length/\fG l ⟨#[]⟩=fG (l.drop i.1.1.toNat) i.1.2.1) (λi=>l.length - i.1.1.toNat) ⟨by simp,by simp,by simp⟩ ?_;rintro ⟨⟨i,last,_⟩,_⟩ ⟨h0,h1,h2⟩;simp only at h0 h1 h2 ⊢;refine aw (λhc=>?_) (λhc=>?_)
 .have hc:i< l.length:=by simpa using hc
  refine ⟨h0,hc,λ_=>?_⟩;rw [eK (e:=dJ) h0 hc] at h2;have bad:vV (aB dJ l i) last=true->Q (.bool false) []:=λhb=>by
   simp only [fG,hb,if_true] at h2;unfold dI at h;rw [h2,gO] at h;exact h
  unfold vV Go.Lm.leB at bad;refine aw (λh3=>bad (by rw [h3];rfl)) (λh3=>aw (λh4=>bad (by rw [h4];simp)) (λh4=>?_));intro _;refine aw (λh5=>bad (by rw [h5];simp)) (λh5=>?_);have hn:vV (aB dJ l i) last=false:=by unfold vV Go.Lm.leB;rw [h3,h4,h5];rfl
  simp only [fG,hn,dP,if_false] at h2;exact ⟨by unfold aI;omega,⟨by omega,by omega,h2⟩,by omega⟩
 .have hc:¬i< l.length:=by simpa using hc
  rw [eN hc] at h2;intro _;unfold dI at h;rw [h2] at h;exact h
def ai6:Ct:=cN noTy λx=>c0 λQ=>Q (.bool (iF x)) []
def af1:=af2.add Ul
abbrev Sc (y0) (y1) (y2) (y3:SV->List HO->Prop) (y4):=br (gS y0 ah (511:Int)) (br (gS y1 ah (65535:Int)) (br (gS y2 ah (65535:Int)) (y3 (.v (.c (.k (.bool (dI y4))))) []) (y3 jF [])) (y3 jF [])) (y3 jF [])
def Rs:((noTy).den)->dE:=
 λx Q=>fU x.1 (cU x.2.1 x.2.2.1 x.2.2.2.1.1 (cn x.2.2.2.1.2.1 x.2.2.2.1.2.2.1 (aN (bQ x.2.2.2.2.1)->dC x.2.2.2.2.2.1 (aN (bQ x.2.2.2.2.2.2.1)->aN (bQ x.2.2.2.2.1)->br (x.2.2.1==1) (br ((a6 
 x.2.2.2.2.1)==0) (br (kR x.2.2.2.2.2.1 gY) (br (!x.2.2.2.2.2.2.2.1) (Sc x.2.2.2.1.1 x.2.2.2.1.2.1 x.2.2.2.1.2.2.1 Q x.2.2.2.2.2.2.1) (bq Q)) (bq Q)) (bq Q)) (br (x.2.2.1==2) (aN (bQ x.2.2.2.2.1)->br (decide ((a6 
 x.2.2.2.2.1)<=(4096:Int))) (br (kR x.2.2.2.2.2.1 gY) (br (!x.2.2.2.2.2.2.2.1) (Sc x.2.2.2.1.1 x.2.2.2.1.2.1 x.2.2.2.1.2.2.1 Q x.2.2.2.2.2.2.1) (bq Q)) (bq Q)) (bq Q)) (br (x.2.2.1==3) (br ((a6 x.2.2.2.2.1)==0) (br 
 (oE x.2.2.2.2.2.1 (200:Int)) (br (!x.2.2.2.2.2.2.2.1) (Sc x.2.2.2.1.1 x.2.2.2.1.2.1 x.2.2.2.1.2.2.1 Q x.2.2.2.2.2.2.1) (bq Q)) (bq Q)) (bq Q)) (bq Q)))))))
theorem ahe:cM 119 ai6:=fe<| Va λx=>iB λQ h=>by
 refine Wp.dL af1 cQ ⟨[],[]⟩ Tryz.f119 (Rs x) ?_;unfold Rs gY dC cn bq Sc fU bQ cU jF ah a6 aN;intro _ _ _ _ _ _ _ _ _ _
 repeat' (first| (intro _;done)| refine aw (λ_=>?_) (λ_=>?_)| intro _)
 all_goals refine Eq.mp (congrArg (λz=>Q (SV.bool z) []) ?_) h
 all_goals unfold iF noB Ax
 all_goals clear h
 all_goals simp_all
 all_goals (intros;omega)
def aeK:Ct:=cN noTy λx=>c0 λQ=>Q (.bool (!iF x)) []
def af0:=af1.add ahe
def Lb:((noTy).den)->dE:=
 λx Q=>fU x.1 (cU x.2.1 x.2.2.1 x.2.2.2.1.1 (cn x.2.2.2.1.2.1 x.2.2.2.1.2.2.1 (aN (bQ x.2.2.2.2.1)->dC x.2.2.2.2.2.1 (aN (bQ x.2.2.2.2.2.2.1)->Q (.v (.c (.k (.bool !iF (x.1,x.2.1,x.2.2.1,(x.2.2.2.1.1, 
 x.2.2.2.1.2.1,x.2.2.2.1.2.2.1,()),x.2.2.2.2.1,x.2.2.2.2.2.1,x.2.2.2.2.2.2.1,x.2.2.2.2.2.2.2.1,()))))) []))))
theorem acI:cM 118 aeK:=fe<| Va λx=>iB λQ h=>by
 refine Wp.dL af0 cQ ⟨[],[]⟩ Tryz.f118 (Lb x) ?_;unfold Lb dC cn fU bQ cU aN
 intros
 exact h
def Tz:Ct
 | [.v (.c cl),.v (.c (.fn 118 []))],[],Q=>(match (Ty.sl noTy).of [cl] with
  | some (l,[])=>Q (.int (CV (λx:bx=> !iF x) l 0)) []
  | _=>False)
 | _,_,_=>False
def afZ:=af0.add acI
abbrev Cs (y0:List (noTy).den) (y1):=((aB noTy y0 y1).1,(aB noTy y0 y1).2.1,(aB noTy y0 y1).2.2.1,((aB noTy y0 y1).2.2.2.1.1,(aB noTy y0 y1).2.2.2.1.2.1,(aB noTy y0 y1).2.2.2.1.2.2.1,()),(aB noTy y0 y1).2.2.2.2.1,(aB noTy y0 y1).2.2.2.2.2.1,(aB noTy y0 y1).2.2.2.2.2.2.1,(aB noTy y0 y1).2.2.2.2.2.2.2.1,())
def K7 (l:(List (noTy).den)):dE:=λQ=>gn l (aN (List.length l)->ba (λi ag=>br (iO i.1.1 l) (iP i.1.1 l (Ty.ok noTy (dh l i.1.1)->br (!iF (Cs l i.1.1)) (Q (gZ i.1.1) []) (fW i.1.1 ag))) (yd Q)) fx)
theorem acF:cM 155 Tz:=by
 intro args H Q h;unfold Tz at h;split at h;rotate_left;cases h;rename_i cl;split at h;rotate_left;cases h;rename_i l hl;refine Wp.said (args':=[.c (.d noTy l),.c (.fn 118 [])]) (λE g=>bE.dd (dR hl) (bE.dd (λ_ h=>h) (λ_ h=>h))) ?_;clear hl;refine Wp.dL afZ cQ ⟨[(3,⟨[(8,.int .i64)],[]⟩)],[]⟩ Tryz.f155 (K7 l) ?_;unfold K7 yd iO iP fx gZ dh gn fW Cs aE ah aF aN;intro hl _;refine ba.intro (λi=>0<=i.1.1/\i.1.1<=l.length/\CV (λx:bx=> !iF x) (l.drop i.1.1.toNat) i.1.1=CV (λx:bx=> !iF x) l 0) (λi=>l.length - i.1.1.toNat) ⟨by simp,by simp,by simp⟩ ?_;rintro ⟨⟨i,_⟩,_⟩ ⟨h0,h1,h2⟩;simp only at h0 h1 h2 ⊢;refine aw (λhc=>?_) (λhc=>?_)
 .have hc:i< l.length:=by simpa using hc
  refine ⟨h0,hc,λ_=>?_⟩;rw [eK (e:=noTy) h0 hc] at h2;refine aw (λh3=>?_) (λh3=>?_)
  .simp only [CV,h3,if_true] at h2;rw [h2];exact h
  .simp only [CV,h3,dP,if_false] at h2;refine ⟨by unfold aI;omega,⟨by omega,by omega,?_⟩,by omega⟩;rw [show (i+1).toNat=(i+1).toNat from rfl];exact h2
 .have hc:¬i< l.length:=by simpa using hc
  rw [eN hc] at h2;simp only [CV] at h2;rw [h2];exact h
def TC:Ct
 | [.v (.c cl),.v (.c (.fn 118 []))],[],Q=>(match (Ty.sl noTy).of [cl] with
  | some (l,[])=>Q (.bool (l.any λx:bx=> !iF x)) []
  | _=>False)
 | _,_,_=>False
def aaS:=afZ.add acF
def Lc (l:(List (noTy).den)):dE:=λQ=>gn l (aI .i64 (CV (λx=> !iF x) l ah)->Q (.v (.c (.k (.bool (decide (CV (λx=> !iF x) l ah≥ah)))))) [])
theorem QX:cM 117 TC:=by
 intro args H Q h;unfold TC at h;split at h;rotate_left;cases h;rename_i cl;split at h;rotate_left;cases h;rename_i l hl;refine Wp.said (args':=[.c (.d noTy l),.c (.fn 118 [])]) (λE g=>bE.dd (dR hl) (bE.dd (λ_ h=>h) (λ_ h=>h))) ?_;clear hl;refine Wp.dL aaS cQ ⟨[],[]⟩ Tryz.f117 (Lc l) ?_;unfold Lc gn ah;intro _ _;rw [<-MY (bp 0)] at h;exact h
def Tb (a b:List UInt8):Bool:=kR (gk a) (gk b)
def VW:Ct:=cD .u8 λa=>cD .u8 λb=>c0 λQ=>Q (.bool (Tb a b)) []
def afY:=aaS.add QX
def Bt (a b:(List (Ty.u8).den)):dE:=λQ=>cW a (aN (dv b)->Q (.v (.c (.k (.bool (kR (gk a) (gk b)))))) [])
theorem EC:cM 204 VW:=fe<| kC λa=>kC λb=>iB λQ h=>by
 refine Wp.dL afY cQ ⟨[],[]⟩ Tryz.f204 (Bt a b) ?_;unfold Bt dv cW aN
 intros
 exact h
def tu (x y:uT):Bool:=kR x.1 y.1&& Tb x.2.1 y.2.1
def VX:Ct:=cN dJ λx=>cN dJ λy=>c0 λQ=>Q (.bool (tu x y)) []
def afX:=afY.add EC
def Bu:((dJ).den)->((dJ).den)->dE:=
 λx y Q=>iQ x.1 (aN (bQ x.2.1)->dC y.1 (aN (bQ y.2.1)->br (kR x.1 y.1) (Q (.v (.c (.k (.bool (Tb x.2.1 y.2.1))))) []) (bq Q)))
theorem ED:cM 203 VX:=fe<| Va λx=>Va λy=>iB λQ h=>by
 refine Wp.dL afX cQ ⟨[],[]⟩ Tryz.f203 (Bu x y) ?_;unfold Bu dC iQ bq bQ jF aN;unfold tu at h
 intros
 refine aw (λhc=>?_) (λhc=>?_)<;>rw [hc] at h<;>first| exact h| (intros;exact h)
def jj:List uT->List uT->Bool
 | [],[]=>true
 | x::a,y::b=>tu x y&& jj a b
 | _,_=>false
theorem Ak:∀ {a b:List uT},a.length≠b.length->jj a b=false
 | [],[],h=>absurd rfl h
 | _::a,_::b,h=>by
  unfold jj;rw [Ak (a:=a) (b:=b) (by simpa using h),Bool.and_false]
 | [],_::_,_=>rfl
 | _::_,[],_=>rfl
def TB:Ct
 | [.v (.c ca),.v (.c cb),.v (.c (.fn 203 []))],[],Q=>(match (Ty.sl dJ).of [ca] with
  | some (a,[])=>(match (Ty.sl dJ).of [cb] with
  | some (b,[])=>Q (.bool (jj a b)) []
  | _=>False)
  | _=>False)
 | _,_,_=>False
def aaR:=afX.add ED
def La (a b:(List (dJ).den)):dE:=λQ=>l6 a (aN (List.length b)->aN (List.length a)->aN (List.length b)->br ((aF a) !=(aF b)) (bq Q) (aN (List.length a)->ba (λi ag=>br (decide (i.1.1< (aF a))) (0<=i.1.1/\i.1.1< (aF a)/\(Ty.ok 
 dJ (dW a i.1.1)->0<=i.1.1/\i.1.1< (aF b)/\(Ty.ok dJ (dW b i.1.1)->br (!tu ((dW a i.1.1).1,(dW a i.1.1).2.1,()) ((dW b i.1.1).1,(dW b i.1.1).2.1,())) (bq Q) (fW i.1.1 ag)))) (Q oZ [])) 
 fx))
theorem QW:cM 205 TB:=by
 intro args H Q h;unfold TB at h;split at h;rotate_left;cases h;rename_i ca cb;split at h;rotate_left;cases h;rename_i a ha;split at h;rotate_left;cases h;rename_i b hb;refine Wp.said (args':=[.c (.d dJ a),.c (.d dJ b),.c (.fn 203 [])]) (λE g=>bE.dd (dR ha) (bE.dd (dR hb) (bE.dd (λ_ h=>h) (λ_ h=>h)))) ?_;clear ha hb;refine Wp.dL aaR cQ ⟨[(5,⟨[(17,.int .i64)],[]⟩)],[]⟩ Tryz.f205 (La a b) ?_;unfold La l6 fx dW bq fW jF oZ ah aF aN;intro _ _ _ _;refine aw (λh1=>?_) (λh1=>?_)
 .rw [Ak (by intro e;rw [e] at h1;simp at h1)] at h;exact h
 .have hl:a.length=b.length:=by
   have:(a.length:Int)=(b.length:Int):=by simpa only [bne_eq_false_iff_eq] using h1
   omega
  intro _;refine ba.intro (λi=>0<=i.1.1/\i.1.1<=a.length/\jj (a.drop i.1.1.toNat) (b.drop i.1.1.toNat)=jj a b) (λi=>a.length - i.1.1.toNat) ⟨by simp,by simp,by simp⟩ ?_;rintro ⟨⟨i,_⟩,_⟩ ⟨h0,h2,h3⟩;simp only at h0 h2 h3 ⊢;refine aw (λhc=>?_) (λhc=>?_)
  .have hc:i< a.length:=by simpa using hc
   have Aa:i< b.length:=by omega
   rw [eK (e:=dJ) h0 hc,eK (e:=dJ) h0 Aa] at h3;simp only [jj] at h3;refine ⟨h0,hc,λ_=>⟨h0,Aa,λ_=>aw (λh4=>?_) (λh4=>?_)⟩⟩
   .have h4:tu (aB dJ a i) (aB dJ b i)=false:=by simpa using h4
    rw [h4,gO] at h3;rw [<-h3] at h;exact h
   .have h4:tu (aB dJ a i) (aB dJ b i)=true:=by simpa using h4
    rw [h4,pr] at h3;exact ⟨by unfold aI;omega,⟨by omega,by omega,h3⟩,by omega⟩
  .have hc:¬i< a.length:=by simpa using hc
   rw [eN hc,eN (by omega)] at h3;simp only [jj] at h3;rw [<-h3] at h;exact h
def ri (x y:bx):Bool:=x.2.2.1==y.2.2.1&& ((x.2.2.2.1.1==y.2.2.2.1.1&& (x.2.2.2.1.2.1==y.2.2.2.1.2.1&& (x.2.2.2.1.2.2.1==y.2.2.2.1.2.2.1&& true)))&& (kR x.2.2.2.2.2.1 y.2.2.2.2.2.1&& (x.2.2.2.2.2.2.2.1==y.2.2.2.2.2.2.2.1&& (Tb x.2.2.2.2.1 y.2.2.2.2.1&& jj x.2.2.2.2.2.2.1 y.2.2.2.2.2.2.1))))
def Z7:Ct:=cN noTy λx=>cN noTy λy=>c0 λQ=>Q (.bool (ri x y)) []
def aaQ:=aaR.add QW
def Fe:((noTy).den)->((noTy).den)->dE:=
 λx y Q=>fU x.1 (cU x.2.1 x.2.2.1 x.2.2.2.1.1 (cn x.2.2.2.1.2.1 x.2.2.2.1.2.2.1 (aN (bQ x.2.2.2.2.1)->dC x.2.2.2.2.2.1 (aN (bQ x.2.2.2.2.2.2.1)->aN (bQ y.1)->cU y.2.1 y.2.2.1 y.2.2.2.1.1 (cn 
 y.2.2.2.1.2.1 y.2.2.2.1.2.2.1 (aN (bQ y.2.2.2.2.1)->dC y.2.2.2.2.2.1 (aN (bQ y.2.2.2.2.2.2.1)->br (x.2.2.1==y.2.2.1) (br (x.2.2.2.1.1==y.2.2.2.1.1&& (x.2.2.2.1.2.1==y.2.2.2.1.2.1&& (x.2.2.2.1.2.2.1==y.2.2.2.1.2.2.1 
 && true))) (br (kR x.2.2.2.2.2.1 y.2.2.2.2.2.1) (br (x.2.2.2.2.2.2.2.1==y.2.2.2.2.2.2.2.1) (br (Tb x.2.2.2.2.1 y.2.2.2.2.1) (Q (.v (.c (.k (.bool (jj x.2.2.2.2.2.2.1 y.2.2.2.2.2.2.1))))) []) (bq Q)) (bq Q)) (bq Q)) (bq 
 Q)) (bq Q))))))))
theorem Kn:cM 159 Z7:=fe<| Va λx=>Va λy=>iB λQ h=>by
 refine Wp.dL aaQ cQ ⟨[],[]⟩ Tryz.f159 (Fe x y) ?_;unfold Fe dC cn bq fU bQ cU jF aN;unfold ri at h;intro _ _ _ _ _ _ _ _ _ _ _ _ _ _ _ _ _ _
 repeat' (first| refine aw (λhc=>?_) (λhc=>?_)| intro _)
 all_goals refine Eq.mp (congrArg (λz=>Q (SV.bool z) []) ?_) h
 all_goals clear h
 all_goals simp only [*,pr,gO,Bool.and_false]
def k7:List bx->List (Int×bx)->Int
 | [],_=>0
 | x::r,m=>match Kk.get .int m x.2.1 with
  | some o=>if x.2.2.1==1|| !ri x o then 8 else k7 r m
  | none=>k7 r (Kk.put .int m x.2.1 x)
def VU:Ct:=cD noTy λl=>c0 λQ=>Q (.int (k7 l [])) []
def aaP:=aaQ.add Kn
abbrev ru (y0) (y1:List (noTy).den) (y2):=gl (Kk.get Kk.int y0 (aB noTy y1 y2).2.1) IH
abbrev Pc (y0) (y1:List (noTy).den) (y2) (y3:_->Prop):=br (!Option.isSome (Kk.get Kk.int y0 (dh y1 y2).2.1)) (l9 y0 (cG y2 (y3 ((y2+1,()),Kk.put Kk.int y0 (dh y1 y2).2.1 (Cs y1 y2),())))) (cG y2 (y3 ((y2+1,()),y0,())))
def Bq (l:(List (noTy).den)):dE:=λQ=>gn l (aN (List.length l)->ba (λi ag=>br (iO i.1.1 l) (iP i.1.1 l (Ty.ok noTy (dh l i.1.1)->Ty.ok noTy (ru i.2.1 l i.1.1)->br (Option.isSome (Kk.get Kk.int i.2.1 (dh l i.1.1).2.1)) (br ((dh l 
 i.1.1).2.2.1==1) (Q (.v (.c (.k (.int .i64 8)))) []) (br (!ri (Cs l i.1.1) ((ru i.2.1 l i.1.1).1,(ru i.2.1 l i.1.1).2.1,(ru i.2.1 l i.1.1).2.2.1,((ru i.2.1 l i.1.1).2.2.2.1.1,(ru i.2.1 l i.1.1).2.2.2.1.2.1, 
 (ru i.2.1 l i.1.1).2.2.2.1.2.2.1,()),(ru i.2.1 l i.1.1).2.2.2.2.1,(ru i.2.1 l i.1.1).2.2.2.2.2.1,(ru i.2.1 l i.1.1).2.2.2.2.2.2.1,(ru i.2.1 l i.1.1).2.2.2.2.2.2.2.1,())) (Q (.v (.c (.k (.int .i64 8)))) []) (Pc i.2.1 
 l i.1.1 ag))) (Pc i.2.1 l i.1.1 ag))) (oB Q)) ((ah,()),[],()))
theorem EB:cM 120 VU:=fe<| kC λl=>iB λQ h=>by
 refine Wp.dL aaP cQ ⟨[(4,⟨[(11,.int .i64)],[(0,.map 3 .int noTy)]⟩)],[]⟩ Tryz.f120 (Bq l) ?_;unfold Bq oB iO iP Pc l9 dh cG gn ru bn Cs ah aF aN IH;intro hl _;refine ba.intro (λi=>0<=i.1.1/\i.1.1<=l.length/\k7 (l.drop i.1.1.toNat) i.2.1=k7 l []/\(i.2.1.length:Int)<=i.1.1) (λi=>l.length - i.1.1.toNat) ⟨by simp,by simp,by simp,by simp⟩ ?_;rintro ⟨⟨i,_⟩,m,_⟩ ⟨h0,h1,h2,h3⟩;simp only at h0 h1 h2 h3 ⊢;refine aw (λhc=>?_) (λhc=>?_)
 .have hc:i< l.length:=by simpa using hc
  rw [eK (e:=noTy) h0 hc] at h2;refine ⟨h0,hc,λ_=>?_⟩;have hp:=Sg (k:=.int) (l:=m) (x:=(aB noTy l i).2.1) (v:=aB noTy l i);cases hg:Kk.get .int m (aB noTy l i).2.1 with
  | none=>
   simp only [k7,hg] at h2;intro _;refine aw (λh4=>by cases h4) (λ_=>aw (λ_=>?_) (λh5=>by cases h5));exact ⟨by omega,by unfold aI;omega,⟨by omega,by omega,h2,Int.le_trans (Int.ofNat_le.2 hp) (by omega)⟩,by omega⟩
  | some o=>
   simp only [k7,hg] at h2;intro _;refine aw (λ_=>aw (λh5=>?_) (λh5=>aw (λh6=>?_) (λh6=>aw (λh7=>by cases h7) (λ_=>?_)))) (λh4=>by cases h4)
   .rw [h5,Bool.true_or,if_pos rfl] at h2;rw [<-h2] at h;exact h
   .have h6:(!ri (aB noTy l i) o)=true:=h6;rw [h6,Bool.or_true,if_pos rfl] at h2;rw [<-h2] at h;exact h
   .have h6:(!ri (aB noTy l i) o)=false:=h6;rw [h5,h6] at h2;exact ⟨by unfold aI;omega,⟨by omega,by omega,h2,by omega⟩,by omega⟩
 .have hc:¬i< l.length:=by simpa using hc
  rw [eN hc] at h2;simp only [k7] at h2;rw [<-h2] at h;exact h
def kz:List ByteArray->Int
 | []=>0
 | s::r=>if dA s !=0 then dA s else kz r
def kH:List bx->Int
 | []=>0
 | x::r=>if kz x.1 !=0 then kz x.1 else kH r
def uQ (l:List bx):Bool:=l.any λx=>decide ((x.1.length:Int)>16)
theorem uX (s:ByteArray):Go.LmN.dA s=dA s:=by
 unfold Go.LmN.dA dA;rw [show Go.LmN.aiL s=Tf s from rfl,show Go.LmN.AE s 0=kM s 0 from rfl,Bool.or_comm]
def Tq:Ct
 | [.v (.c ca),.v (.c (.k (.string z)))],[],Q=>(match (Ty.sl Ty.str).of [ca] with
  | some (a,[])=>z=⟨#[47]⟩/\(Go.LmN.jB a).size<=140737488355328/\Q (.str ⟨(Lib.join (a.map (·.data.toList)) [47]).toArray⟩) []
  | _=>False)
 | _,_,_=>False
theorem RU (l:List ByteArray) (hb:(Go.LmN.jB l).size<=140737488355328):1+(ByteArray.mk ((Lib.join (l.map (·.data.toList)) [47]).toArray)).size<=9223372036854775807:=by
 have hj:=Go.LmN.Vr l;have e:(ByteArray.mk ((Lib.join (l.map (·.data.toList)) [47]).toArray)).size=(Lib.join (l.map (·.data.toList)) [47]).length:=by rw [Go.LmN.gK]
 rw [e];omega
theorem Y0 (l:List ByteArray) (v:Value) (g w:World) (uo:bA g w) (h:Is g v l) (hb:(Go.LmN.jB l).size<=140737488355328):Ho ck 154 #[v,.string ⟨#[47]⟩] w λu w'=>u= .string ⟨(Lib.join (l.map (·.data.toList)) [47]).toArray⟩/\Le w w':=by
 have hj:=Go.LmN.Y1 l;by_cases hl:l= []
 .subst hl;rcases dx.1 h with ⟨rfl,_⟩| ⟨a,cap,rfl,_⟩
  .exact (Ho.of (Tryz.strings_Join_none none 0 ⟨#[47]⟩ w)).mono λ_ _ ⟨h1,h2⟩=>⟨h1,by rw [h2];exact Le.refl w⟩
  .exact (Ho.of (Tryz.strings_Join_none (some a) cap ⟨#[47]⟩ w)).mono λ_ _ ⟨h1,h2⟩=>⟨h1,by rw [h2];exact Le.refl w⟩
 .obtain ⟨bk,o,c,rfl,h1,h2,h3⟩:=Go.LmN.PM h uo hl;have hn:l.length<=(Go.LmN.jB l).size:=by
   have e:=Go.LmN.oJ l;rw [if_neg (by simpa using hl)] at e;rw [Go.LmN.gK,e];exact Go.LmN.LH l
  exact (Ho.of (Tryz.strings_Join bk o c l ⟨#[47]⟩ w h1 h2 (by omega) h3 (by show (Lib.join (l.map (·.data.toList)) [47]).length<=_;omega))).mono λ_ _ ⟨h1,h2⟩=>⟨h1,h2⟩
theorem QQ:cM 154 Tq:=by
 intro args H Q h;unfold Tq at h;split at h
 .split at h
  .rename_i a ha;obtain ⟨rfl,hb,h⟩:=h;refine Wp.Sl (λE g w vs m hv=>?_) h;obtain ⟨u,v,rfl,hu,⟨rfl,_⟩⟩:=nR hv;have hu:oa .str g u a:=dR ha u hu;refine (Y0 a u g w m hu hb).mono λx w' ⟨h1,h2⟩=>⟨?_,h2⟩;rw [h1];refine ⟨rfl,?_⟩;exact Nat.le_trans (Nat.le_add_left _ 1) (RU a hb)
  .cases h
 .cases h
def aeI:Ct:=cD .str λa=>c0 λQ=>((Go.LmN.jB a).size<=140737488355328/\Q (.str (Go.LmN.jB a)) [])
def aaO:=(aaP.add EB).add QQ
abbrev IA (y0:List (Ty.str).den):=List.toArray (Lib.join (List.map (λx=>x.data.toList) y0) [(47:UInt8)])
abbrev mQ (y0:List (Ty.str).den) (R:Prop):=List.length y0<=9223372036854775807->R
def K6 (a:(List (Ty.str).den)):dE:=λQ=>mQ a (ByteArray.mk #[(47:UInt8)]=ByteArray.mk #[(47:UInt8)]/\ByteArray.size (LmN.jB a)<=140737488355328/\(ByteArray.size (ByteArray.mk (IA a))<=9223372036854775807->bJ+ByteArray.size (ByteArray.mk 
 (IA a))<=9223372036854775807/\Q (.v (.c (.k (.string (ByteArray.mk #[(47:UInt8)]++ByteArray.mk (IA a)))))) []))
theorem QV:cM 116 aeI:=fe<| kC λa=>iB λQ h=>by
 refine Wp.dL aaO cQ ⟨[],[]⟩ Tryz.f116 (K6 a) ?_;unfold K6 mQ IA bJ;obtain ⟨hb,h⟩:=h;intro _;refine ⟨rfl,hb,λ_=>⟨?_,?_⟩⟩;exact RU a hb
 .rw [<-Go.LmN.yQ] at h;exact h
abbrev qi (l:List ByteArray):ByteArray:=Go.LmN.jB l
def nC:List bx->List (ByteArray×bx)->Option (List (ByteArray×bx))
 | [],m=>some m
 | x::r,m=>if (Kk.get .str m (qi x.1)).isSome then none else nC r (Kk.put .str m (qi x.1) x)
theorem FB:∀ {l:List ByteArray},kz l=0->∀ s∈l,dA s=0
 | [],_,s,hs=>by cases hs
 | x::r,h,s,hs=>by
  unfold kz at h;by_cases hx:(dA x !=0)=true
  .rw [if_pos hx] at h;rw [h] at hx;simp at hx
  .rw [if_neg hx] at h;rcases aX.1 hs with rfl| hs
   .simpa using hx
   .exact FB h s hs
theorem mE:∀ {l:List bx},kH l=0->∀ x∈l,∀ s∈x.1,dA s=0
 | [],_,x,hx=>by cases hx
 | y::r,h,x,hx=>by
  unfold kH at h;by_cases hy:(kz y.1 !=0)=true
  .rw [if_pos hy] at h;rw [h] at hy;simp at hy
  .rw [if_neg hy] at h;rcases aX.1 hx with rfl| hx
   .exact FB (by simpa using hy)
   .exact mE h x hx
theorem AS {l:List bx} (h:uQ l=false) {x:bx} (hx:x∈l):x.1.length<=16:=by
 unfold uQ at h;rw [List.any_eq_false] at h;have:=h x hx;simp at this;omega
theorem CS {p:List ByteArray} (h:∀ s∈p,dA s=0) (hl:p.length<=30):(qi p).size<=140737488355328:=by
 have:=Go.LmN.V8 (l:=p) (λs hs=>by rw [uX];exact h s hs) hl;show (Go.LmN.jB p).size<=_;omega
theorem SO {e:Ty} {l:List e.den} {k:Int} (h0:0<=k) (h1:k< l.length):aB e l k∈l:=by
 have eJ:k.toNat< l.length:=by omega
 unfold aB;rw [aP,ak eJ];exact df eJ
def kj (l:List bx):Int:=if kH l !=0 then kH l else if uQ l then 9 else if (nC l []).isNone then 6 else 0
def gj (l:List bx):List (ByteArray×bx):=(nC l []).getD []
def Z4:Ct:=cD noTy λl=>c0 λQ=>br (kj l !=0) (Q (.cZ [.c (.k (.map none)),.c (.k (.int .i64 (kj l)))]) []) (Q (.cZ [.c (.m 0),.c (.k (.int .i64 0))]) [.map 9 .str noTy (gj l)])
def ajt:=aaO.add QV
abbrev jo (y0:List (noTy).den) (y1):=(↑(List.length (aB noTy y0 y1).1):Int)
abbrev wD (y0:List (noTy).den) (y1) (R:Prop):=Ty.ok noTy (aB noTy y0 y1)->List.length (aB noTy y0 y1).1<=9223372036854775807->R
abbrev ya (y0:List (noTy).den) (y1):=LmN.jB (dh y0 y1).1
def E7 (l:(List (noTy).den)):dE:=λQ=>gn l (aN (List.length l)->ba (λi ag=>br (iO i.1.1 l) (iP i.1.1 l (wD l i.1.1 (ba (λcu ag_1=>br (decide (cu.1.1< (jo l i.1.1))) (0<=cu.1.1/\cu.1.1< (jo l i.1.1)/\(Ty.ok Ty.str (aB 
 Ty.str (dh l i.1.1).1 cu.1.1)->aI .i64 (dA (aB Ty.str (dh l i.1.1).1 cu.1.1))->br (dA (aB Ty.str (dh l i.1.1).1 cu.1.1) !=0) (Q (.cZ [.c (.k (.map none)),.c (.k (.int .i64 (dA (aB Ty.str (dh l 
 i.1.1).1 cu.1.1))))]) []) (fW cu.1.1 ag_1))) (fW i.1.1 ag)) fx))) (aN (List.length l)->ba (λi ag=>br (iO i.1.1 l) (iP i.1.1 l (wD l i.1.1 (br (decide ((jo l i.1.1)>Yi)) (Q (.cZ [.c (.k (.map 
 none)),.c (.k (.int .i64 9))]) []) (fW i.1.1 ag)))) (aN (List.length l)->ba (λi ag=>br (iO i.1.1 l) (iP i.1.1 l (Ty.ok noTy (dh l i.1.1)->ByteArray.size (ya l i.1.1)<=140737488355328/\(aN (ByteArray.size 
 (ya l i.1.1))->Ty.ok noTy (gl (Kk.get Kk.str i.2.1 (ya l i.1.1)) IH)->br (Option.isSome (Kk.get Kk.str i.2.1 (ya l i.1.1))) (Q (.cZ [.c (.k (.map none)),.c (.k (.int .i64 6))]) []) (l9 i.2.1 (cG i.1.1 (ag 
 ((i.1.1+1,()),Kk.put Kk.str i.2.1 (ya l i.1.1) (Cs l i.1.1),()))))))) (Q (SV.cZ [S1.c (Cl.m bC),.c (.k bn)]) [HO.map (9:TypeId) Kk.str noTy i.2.1])) ((ah,()),[],()))) fx)) fx)
theorem WX:cM 115 Z4:=fe<| kC λl=>iB λQ h=>by
 refine Wp.dL ajt cQ ⟨[(3,⟨[(19,.int .i64)],[]⟩),(6,⟨[(26,.int .i64)],[]⟩),(14,⟨[(39,.int .i64)],[]⟩),(21,⟨[(51,.int .i64)],[(0,.map 9 .str noTy)]⟩)],[]⟩ Tryz.f115 (E7 l) ?_;unfold E7 ya iO iP fx l9 dh wD cG gn fW jo bn Cs ah Yi aF aN IH bC;intro _ _;refine ba.intro (λi=>0<=i.1.1/\i.1.1<=l.length/\kH (l.drop i.1.1.toNat)=kH l) (λi=>l.length - i.1.1.toNat) ⟨by simp,by simp,by simp⟩ ?_;rintro ⟨⟨i,_⟩,_⟩ ⟨h0,h1,h2⟩;simp only at h0 h1 h2 ⊢;refine aw (λhc=>?_) (λhc=>?_)
 .have hc:i< l.length:=by simpa using hc
  rw [eK (e:=noTy) h0 hc] at h2;simp only [kH] at h2;generalize aB noTy l i=x at*;refine ⟨h0,hc,λ_ _=>?_⟩;refine ba.intro (λk=>0<=k.1.1/\k.1.1<=x.1.length/\kz (x.1.drop k.1.1.toNat)=kz x.1) (λk=>x.1.length - k.1.1.toNat) ⟨by simp,by simp,by simp⟩ ?_;rintro ⟨⟨k,_⟩,_⟩ ⟨k0,k1,k2⟩;simp only at k0 k1 k2 ⊢;refine aw (λhk=>?_) (λhk=>?_)
  .have hk:k< x.1.length:=by simpa using hk
   rw [eK (e:=Ty.str) k0 hk] at k2;simp only [kz] at k2;refine ⟨k0,hk,λ_ _=>aw (λhb=>?_) (λhb=>?_)⟩
   .rw [if_pos hb] at k2;rw [k2] at hb;rw [if_pos hb] at h2;rw [h2] at hb;have e:kj l=kH l:=if_pos hb;rw [e,hb,<-h2,<-k2] at h;exact h
   .rw [if_neg (by rw [hb];simp)] at k2;exact ⟨by unfold aI;omega,⟨by omega,by omega,k2⟩,by omega⟩
  .have hk:¬k< x.1.length:=by simpa using hk
   rw [eN hk] at k2;simp only [kz] at k2;rw [<-k2,if_neg (by simp)] at h2;exact ⟨by unfold aI;omega,⟨by omega,by omega,h2⟩,by omega⟩
 have hc:¬i< l.length:=by simpa using hc
 rw [eN hc] at h2;simp only [kH] at h2;have hN:kH l=0:=h2.symm;have e1:kj l=if uQ l then 9 else if (nC l []).isNone then 6 else 0:=if_neg (by rw [hN];simp)
 rw [e1] at h;clear h0 h1 h2 hc;intro _;refine ba.intro (λi=>0<=i.1.1/\i.1.1<=l.length/\uQ (l.drop i.1.1.toNat)=uQ l) (λi=>l.length - i.1.1.toNat) ⟨by simp,by simp,by simp⟩ ?_;rintro ⟨⟨i,_⟩,_⟩ ⟨h0,h1,h2⟩;simp only at h0 h1 h2 ⊢;refine aw (λhc=>?_) (λhc=>?_)
 .have hc:i< l.length:=by simpa using hc
  rw [eK (e:=noTy) h0 hc] at h2;unfold uQ at h2;rw [List.any_cons] at h2;refine ⟨h0,hc,λ_ _=>aw (λhb=>?_) (λhb=>?_)⟩
  .rw [hb,Bool.true_or] at h2;have hD:uQ l=true:=h2.symm;rw [if_pos hD] at h;exact h
  .rw [hb,jE] at h2;exact ⟨by unfold aI;omega,⟨by omega,by omega,h2⟩,by omega⟩
 have hc:¬i< l.length:=by simpa using hc
 rw [eN hc] at h2;have hD:uQ l=false:=h2.symm;rw [if_neg (by rw [hD];decide)] at h;clear h0 h1 h2 hc;intro _;refine ba.intro (λi=>0<=i.1.1/\i.1.1<=l.length/\nC (l.drop i.1.1.toNat) i.2.1=nC l []/\(i.2.1.length:Int)<=i.1.1) (λi=>l.length - i.1.1.toNat) ⟨by simp,by simp,by simp,by simp⟩ ?_;rintro ⟨⟨i,_⟩,m,_⟩ ⟨h0,h1,h2,h3⟩;simp only at h0 h1 h2 h3 ⊢;refine aw (λhc=>?_) (λhc=>?_)
 .have hc:i< l.length:=by simpa using hc
  rw [eK (e:=noTy) h0 hc] at h2;have hx:aB noTy l i∈l:=SO (e:=noTy) h0 hc;have hb:=CS (mE hN _ hx) (by have:=AS hD hx;omega);have hp:=Sg (k:=.str) (l:=m) (x:=qi (aB noTy l i).1) (v:=aB noTy l i);generalize aB noTy l i=x at*;simp only [nC] at h2;refine ⟨h0,hc,λ_=>⟨hb,λ_ _=>aw (λh4=>?_) (λh4=>?_)⟩⟩
  .rw [if_pos h4] at h2;rw [<-h2] at h;exact h
  .rw [if_neg (by rw [h4];simp)] at h2;exact ⟨by omega,by unfold aI;omega,⟨by omega,by omega,h2,Int.le_trans (Int.ofNat_le.2 hp) (by omega)⟩,by omega⟩
 have hc:¬i< l.length:=by simpa using hc
 rw [eN hc] at h2;simp only [nC] at h2;have e2:gj l=m:=by unfold gj;rw [<-h2];rfl
 rw [<-h2,e2] at h;exact h
def ml (m:List (ByteArray×bx)) (p:List ByteArray):Int:=((Kk.get .str m (qi p)).getD ([],0,0,(0,0,0,()),[],⟨#[]⟩,[],false,())).2.2.1
def Mz (m:List (ByteArray×bx)) (l:List bx):Bool:=l.any λx=>decide ((x.1.length:Int) - 1≥0)&& (ml m (x.1.take (x.1.length - 1)) !=1)
def dK (l:List bx):Int:=if (l.length:Int)>1024 then 3 else if kj l !=0 then kj l else if ml (gj l) [] !=1 then 4 else if Mz (gj l) l then 5 else if l.any (λx=> !iF x) then 7 else k7 l []
theorem wS {l:List bx} (h:(kj l !=0)=false):kH l=0/\uQ l=false/\(nC l []).isSome=true:=by
 have h:kj l=0:=by simpa using h
 unfold kj at h;split at h
 .rename_i h1;rw [h] at h1;simp at h1
 .rename_i h1;split at h
  .simp at h
  .rename_i h2;split at h
   .simp at h
   .rename_i h3;refine ⟨by simpa using h1,by simpa using h2,?_⟩;cases hm:nC l [] with
    | none=>rw [hm] at h3;simp at h3
    | some m=>rfl
def Z6:Ct:=cD noTy λl=>c0 λQ=>Q (.int (dK l)) []
def ajs:=((((((((aaS.add EC).add ED).add QW).add Kn).add EB).add QQ).add QV).add WX).add QX
abbrev Cu (y0:List (noTy).den) (y1):=LmN.jB (List.take (aA ((jo y0 y1) - 1)) (aB noTy y0 y1).1)
def Fc (l:(List (noTy).den)):dE:=λQ=>gn l (aN (List.length l)->br (decide ((aF l)>(1024:Int))) (Q (.v (.c (.k (.int .i64 3)))) []) (br (kj l !=0) (aI .i64 (kj l)->br (kj l !=0) (Q (.v (.c (.k (.int .i64 (kj l))))) []) (bJ<=cC/\ 
 (bJ<=eU->False))) (aI .i64 0->bJ<=cC/\(bJ<=eU->Ty.ok noTy (gl (Kk.get Kk.str (gj l) (LmN.jB [])) IH)->br ((gl (Kk.get Kk.str (gj l) (LmN.jB [])) IH).2.2.1 !=1) (Q (.v (.c (.k 
 (.int .i64 4)))) []) (aN (List.length l)->ba (λi ag=>br (iO i.1.1 l) (iP i.1.1 l (wD l i.1.1 (aI .i64 ((jo l i.1.1) - 1)/\br (decide ((jo l i.1.1) - 1≥ah)) (ah<=(jo l i.1.1) - 1/\(jo l i.1.1) - 
 1<=(jo l i.1.1)/\ByteArray.size (Cu l i.1.1)<=140737488355328/\(ByteArray.size (Cu l i.1.1)<=9223372036854775807->Ty.ok noTy (gl (Kk.get Kk.str (gj l) (Cu l i.1.1)) IH)->br ((gl (Kk.get Kk.str 
 (gj l) (Cu l i.1.1)) IH).2.2.1 !=1) (Q (.v (.c (.k (.int .i64 5)))) []) (fW i.1.1 ag))) (fW i.1.1 ag)))) (br (!List.any l λx=> !iF x) (aI .i64 (k7 l [])->Q (.v (.c (.k (.int .i64 (k7 l []))))) []) (Q (.v (.c 
 (.k (.int .i64 7)))) []))) fx)))))
theorem WZ:cM 67 Z6:=fe<| kC λl=>iB λQ h=>by
 refine Wp.dL ajs cQ ⟨[(10,⟨[(28,.int .i64)],[]⟩)],[]⟩ Tryz.f67 (Fc l) ?_;unfold Fc iO iP fx Cu wD gn eU fW jo cC ah aF aN IH bJ;intro _ _;unfold dK at h;refine aw (λhc=>?_) (λhc=>?_);rw [if_pos (by simpa using hc)] at h;exact h;rw [if_neg (by simpa using hc)] at h;refine aw (λhc=>?_) (λhc=>?_)
 .rw [if_pos hc] at h;intro _;rw [hc];exact h
 rw [if_neg (by rw [hc];simp)] at h;obtain ⟨hN,hD,_⟩:=wS hc;intro _;refine ⟨by decide,λ_ _=>aw (λhc=>?_) (λhc=>?_)⟩;rw [if_pos (show (ml (gj l) [] !=1)=true from hc)] at h;exact h;rw [if_neg (by show ¬(ml (gj l) [] !=1)=true;rw [show (ml (gj l) [] !=1)=false from hc];simp)] at h;intro _;refine ba.intro (λi=>0<=i.1.1/\i.1.1<=l.length/\Mz (gj l) (l.drop i.1.1.toNat)=Mz (gj l) l) (λi=>l.length - i.1.1.toNat) ⟨by simp,by simp,by simp⟩ ?_;rintro ⟨⟨i,_⟩,_⟩ ⟨h0,h1,h2⟩;simp only at h0 h1 h2 ⊢;refine aw (λhc=>?_) (λhc=>?_)
 .have hc:i< l.length:=by simpa using hc
  rw [eK (e:=noTy) h0 hc] at h2;have hx:aB noTy l i∈l:=SO (e:=noTy) h0 hc;have hv:=mE hN _ hx;have hl:=AS hD hx;generalize aB noTy l i=x at*;have h2:((decide ((x.1.length:Int) - 1≥0)&& (ml (gj l) (x.1.take (x.1.length - 1)) !=1))|| Mz (gj l) (l.drop (i+1).toNat))=Mz (gj l) l:=h2;refine ⟨h0,hc,λ_ _=>⟨by unfold aI;omega,aw (λhb=>?_) (λhb=>?_)⟩⟩
  .rw [hb,pr] at h2;have hb:(x.1.length:Int) - 1≥0:=by simpa using hb
   have e1:cq (some ((x.1.length:Int) - 1)) (x.1.length:Int)=(x.1.length:Int) - 1:=rfl;have e2:cq none 0=0:=rfl;refine ⟨by omega,by omega,?_⟩;rw [show ((x.1.length:Int) - 1).toNat=x.1.length - 1 by omega];refine ⟨CS (λs hs=>hv s (List.take_subset _ _ hs)) (by rw [aD];omega),λ_ _=>aw (λhd=>?_) (λhd=>?_)⟩
   .rw [show (ml (gj l) (x.1.take (x.1.length - 1)) !=1)=true from hd,Bool.true_or] at h2;rw [<-h2,if_pos rfl] at h;exact h
   .rw [show (ml (gj l) (x.1.take (x.1.length - 1)) !=1)=false from hd,jE] at h2;exact ⟨by unfold aI;omega,⟨by omega,by omega,h2⟩,by omega⟩
  .rw [hb,gO,jE] at h2;exact ⟨by unfold aI;omega,⟨by omega,by omega,h2⟩,by omega⟩
 have hc:¬i< l.length:=by simpa using hc
 rw [eN hc] at h2;rw [<-h2,if_neg (by simp [Mz])] at h;refine aw (λhb=>λ_=>?_) (λhb=>?_)
 .have hb:(l.any λx=> !iF x)=false:=by simpa only [bG] using hb
  rw [if_neg (by rw [hb];simp)] at h;exact h
 .have hb:(l.any λx=> !iF x)=true:=by simpa only [Bool.not_eq_false'] using hb
  rw [if_pos hb] at h;exact h
def ai5:Ct:=cS λs=>c0 λQ=>Q (.bool (vD s 0)) []
def Rr (s:ByteArray):dE:=λQ=>iQ s (ba (λi ag=>br (decide (i.1.1< (iN s))) (0<=i.1.1/\i.1.1< (iN s)/\br ((↑(cF (iV s i.1.1)):Int)==0) (Q oZ []) (fW i.1.1 ag)) (bq Q)) fx)
theorem ahd:cM 113 ai5:=fe<| Yx λs=>iB λQ h=>by
 refine Wp.dL jr cQ ⟨[(3,⟨[(3,.int .i64)],[]⟩)],[]⟩ Tryz.f113 (Rr s) ?_;unfold Rr fx iQ bq iN fW jF oZ ah;intro hs;refine ba.intro (λi=>0<=i.1.1/\i.1.1<=s.size/\vD s i.1.1.toNat=vD s 0) (λi=>s.size - i.1.1.toNat) ⟨by simp,by simp,rfl⟩ ?_;rintro ⟨⟨i,_⟩,_⟩ ⟨h0,h1,h2⟩;simp only at h0 h1 h2 ⊢;refine aw (λhc=>?_) (λhc=>?_)
 .have hc:i< s.size:=by simpa using hc
  have rR:=Vc h0 hc;refine ⟨h0,hc,aw (λhb=>?_) (λhb=>?_)⟩
  .rw [hb,Bool.true_or] at rR;rw [<-h2,rR] at h;exact h
  .rw [hb,jE] at rR;refine ⟨by unfold aI;omega,⟨by omega,by omega,by rw [<-rR,h2]⟩,by omega⟩
 .have hc:¬i< s.size:=by simpa using hc
  rw [<-h2,YD hc h0] at h;exact h
def Qw:Ct:=cD dJ λl=>c0 λQ=>Q (.bool (dI l)) []
def aaN:=jr.add ahd
def zD (l:(List (dJ).den)):dE:=λQ=>l6 l (ba (λi ag=>l6 l (br (decide (i.1.1< (aF l))) (0<=i.1.1/\i.1.1< (aF l)/\(Ty.ok dJ (dW l i.1.1)->br (decide ((↑(sq l i.1.1):Int)< a8)) (bq Q) (br (decide ((↑(sq l i.1.1):Int) 
 >(40:Int))) (bq Q) (br (vD (dW l i.1.1).1 bC) (bq Q) (List.length (dW l i.1.1).2.1<=9223372036854775807->br (decide ((↑(List.length (dW l i.1.1).2.1):Int)>(200:Int))) (bq Q) (br (decide (i.1.1>0)) (aI 
 .i64 (i.1.1 - 1)/\0<=i.1.1 - 1/\i.1.1 - 1< (aF l)/\(Ty.ok dJ (aB dJ l (i.1.1 - 1))->br (!lD (aB dJ l (i.1.1 - 1)).1 (dW l i.1.1).1) (bq Q) (fW i.1.1 ag))) (fW i.1.1 ag))))))) (yu l Q))) fx)
theorem Oz:cM 114 Qw:=fe<| kC λl=>iB λQ h=>by
 refine Wp.dL aaN cQ ⟨[(3,⟨[(3,.int .i64)],[]⟩)],[]⟩ Tryz.f114 (zD l) ?_;unfold zD sq l6 fx dW yu bq fW jF ah a8 iA aF aN bC;intro hl0;refine ba.intro (λi=>0<=i.1.1/\i.1.1<=l.length/\fG l ⟨#[]⟩=fG (l.drop i.1.1.toNat) (sM l i.1.1)) (λi=>l.length - i.1.1.toNat) ⟨by simp,by simp,by simp [sM]⟩ ?_;rintro ⟨⟨i,_⟩,_⟩ ⟨h0,h1,h2⟩;simp only at h0 h1 h2 ⊢;intro _;refine aw (λhc=>?_) (λhc=>?_)
 .have hc:i< l.length:=by simpa using hc
  refine ⟨h0,hc,λ_=>?_⟩;rw [eK (e:=dJ) h0 hc] at h2;have bad:vV (aB dJ l i) (sM l i)=true->Q (.bool false) []:=λhb=>by
   simp only [fG,hb,if_true] at h2;unfold dI at h;rw [h2,gO] at h;exact h
  have good:vV (aB dJ l i) (sM l i)=false->aI .i64 (i+1)/\(0<=i+1/\i+1<=l.length/\fG l ⟨#[]⟩=fG (l.drop (i+1).toNat) (sM l (i+1)))/\l.length - (i+1).toNat< l.length - i.toNat:=λhb=>by
   simp only [fG,hb,dP,if_false] at h2;have hp:sM l (i+1)=(aB dJ l i).1:=by
    unfold sM;rw [if_pos (by omega),show i+1 - 1=i by omega];rfl
   rw [hp];exact ⟨by unfold aI;omega,⟨by omega,by omega,h2⟩,by omega⟩
  rw [aaw] at bad good;refine aw (λh3=>bad (by rw [h3];rfl)) (λh3=>aw (λh4=>bad (by rw [h4];simp)) (λh4=>aw (λh5=>bad (by rw [h5];simp)) (λh5=>λ_=>aw (λh6=>bad (by rw [h6];simp)) (λh6=>?_))));refine aw (λh7=>?_) (λh7=>?_)
  .have h7:i>0:=by simpa using h7
   have hp:sM l i=(aB dJ l (i - 1)).1:=by
    unfold sM;rw [if_pos h7];rfl
   refine ⟨by unfold aI;omega,by omega,by omega,λ_=>?_⟩;rw [hp] at bad good;exact aw (λh8=>bad (by rw [h8];simp)) (λh8=>good (by rw [h3,h4,h5,h6,h8];rfl))
  .have hp:sM l i=⟨#[]⟩:=by
    unfold sM;rw [if_neg (by simpa using h7)]
   have h9:lD ⟨#[]⟩ (aB dJ l i).1=true:=ahZ (by
    have:¬((aB dJ l i).1.size:Int)< 1:=by simpa using h3
    omega)
   exact good (by rw [h3,h4,h5,h6,hp,h9];rfl)
 .have hc:¬i< l.length:=by simpa using hc
  rw [eN hc] at h2;intro _;unfold dI at h;rw [h2] at h;exact h
def aeH:Ct:=cN noTy λx=>c0 λQ=>Q (.bool (iF x)) []
def aaM:=aaN.add Oz
abbrev Yc (y0:Int) (y1) (y2:SV->List HO->Prop) (y3):=br (y0==3) (br (kR y1 (ByteArray.mk #[])) (y2 jF []) (br (decide ((iN y1)>(200:Int))) (y2 jF []) (br (vD y1 bC) (y2 jF []) (y2 (.v (.c (.k (.bool (dI y3))))) [])))) (y2 (.v (.c (.k (.bool (dI y3))))) [])
abbrev Pe (y0:Int) (y1) (y2:SV->List HO->Prop) (y3):=br (y0 !=3) (br (!kR y1 (ByteArray.mk #[])) (bq y2) (Yc y0 y1 y2 y3)) (Yc y0 y1 y2 y3)
def K5:((noTy).den)->dE:=
 λx Q=>fU x.1 (cU x.2.1 x.2.2.1 x.2.2.2.1.1 (cn x.2.2.2.1.2.1 x.2.2.2.1.2.2.1 (aN (bQ x.2.2.2.2.1)->dC x.2.2.2.2.2.1 (aN (bQ x.2.2.2.2.2.2.1)->br (decide (x.2.2.1< 1)) (bq Q) (br (decide (x.2.2.1>3)) 
 (bq Q) (br x.2.2.2.2.2.2.2.1 (bq Q) (br (dj x.2.2.2.1.1) (bq Q) (br (decide (x.2.2.2.1.1>511)) (bq Q) (br (dj x.2.2.2.1.2.1) (bq Q) (br (decide (x.2.2.2.1.2.1>65535)) (bq Q) (br (dj x.2.2.2.1.2.2.1) (bq 
 Q) (br (decide (x.2.2.2.1.2.2.1>65535)) (bq Q) (br (x.2.2.1 !=2) (aN (bQ x.2.2.2.2.1)->br (decide ((a6 x.2.2.2.2.1)>ah)) (bq Q) (aN (bQ x.2.2.2.2.1)->br (decide ((a6 x.2.2.2.2.1)>(4096:Int))) (bq Q) 
 (Pe x.2.2.1 x.2.2.2.2.2.1 Q x.2.2.2.2.2.2.1))) (aN (bQ x.2.2.2.2.1)->br (decide ((a6 x.2.2.2.2.1)>(4096:Int))) (bq Q) (Pe x.2.2.1 x.2.2.2.2.2.1 Q x.2.2.2.2.2.2.1)))))))))))))))
theorem acE:cM 65 aeH:=fe<| Va λx=>iB λQ h=>by
 refine Wp.dL aaM cQ ⟨[],[]⟩ Tryz.f65 (K5 x) ?_;unfold K5 Pe dC dj cn bq Yc iN fU bQ cU jF ah a6 aN bC;intro _ _ _ _ _ _ _ _ _
 repeat' (first| refine aw (λ_=>?_) (λ_=>?_)| intro _)
 all_goals refine Eq.mp (congrArg (λz=>Q (SV.bool z) []) ?_) h
 all_goals rw [<-U3]
 all_goals unfold OZ
 all_goals clear h
 all_goals simp only [*,Bool.true_or,Bool.or_true,Bool.or_false,Bool.and_true,pr,Bool.and_false,gO,if_true,if_false,dP]
 all_goals (exfalso;simp_all;done)
def VT:Ct:=cS λs=>c0 λQ=>Q (.int (dA s)) []
def aaL:=aaM.add acE
def Bp (s:ByteArray):dE:=λQ=>iQ s (br (decide ((iN s)>(255:Int))) (Q (.v (.c (.k (.int .i64 23)))) []) (ba (λi ag=>br (decide (i.1.1< (iN s))) (0<=i.1.1/\i.1.1< (iN s)/\br ((↑(cF (iV s i.1.1)):Int)==0) (nw 
 Q) (0<=i.1.1/\i.1.1< (iN s)/\br ((↑(cF (iV s i.1.1)):Int)==47) (nw Q) (fW i.1.1 ag))) (br (kR s gY) (nw Q) (br (kR s (ByteArray.mk #[(46:UInt8)])) (nw Q) (br (kR s (ByteArray.mk #[(46: 
 UInt8),(46:UInt8)])) (nw Q) (oB Q))))) fx))
theorem Un:cM 152 VT:=fe<| Yx λs=>iB λQ h=>by
 refine Wp.dL aaL cQ ⟨[(5,⟨[(3,.int .i64)],[]⟩)],[]⟩ Tryz.f152 (Bp s) ?_;unfold Bp oB gY fx iQ nw iN fW bn ah;intro hs;unfold dA at h;refine aw (λh1=>?_) (λh1=>?_);rw [if_pos (by simpa using h1)] at h;exact h
 .rw [if_neg (by simpa using h1)] at h;refine ba.intro (λi=>0<=i.1.1/\i.1.1<=s.size/\kM s i.1.1.toNat=kM s 0) (λi=>s.size - i.1.1.toNat) ⟨by simp,by simp,rfl⟩ ?_;rintro ⟨⟨i,_⟩,_⟩ ⟨h0,h2,h3⟩;simp only at h0 h2 h3 ⊢;refine aw (λhc=>?_) (λhc=>?_)
  .have hc:i< s.size:=by simpa using hc
   have rR:=LN h0 hc;refine ⟨h0,hc,aw (λhb=>?_) (λhb=>⟨h0,hc,aw (λhd=>?_) (λhd=>?_)⟩)⟩
   .rw [hb,Bool.true_or] at rR;rw [<-h3,rR] at h;exact h
   .rw [hb,hd] at rR;rw [<-h3,rR] at h;exact h
   .rw [hb,hd,jE,jE] at rR;exact ⟨by unfold aI;omega,⟨by omega,by omega,by rw [<-rR,h3]⟩,by omega⟩
  .have hc:¬i< s.size:=by simpa using hc
   rw [<-h3,OL hc h0,jE] at h;unfold Tf at h;refine aw (λh5=>?_) (λh5=>aw (λh6=>?_) (λh6=>aw (λh7=>?_) (λh7=>?_)));rw [h5] at h;exact h;rw [h5,h6] at h;exact h;rw [h5,h6,h7] at h;exact h;rw [h5,h6,h7] at h;exact h
def Z2:Ct:=cD .str λa=>cD .str λb=>c0 λQ=>Q (.bool (gy a b)) []
def ajr:=aaL.add Un
abbrev IE (y0) (y1:List (Ty.str).den) (y2:List (Ty.str).den) (y3:SV->List HO->Prop) (y4):=0<=y0/\y0< (aF y1)/\(Ty.ok Ty.str (aB Ty.str y1 y0)->0<=y0/\y0< (aF y2)/\(Ty.ok Ty.str (aB Ty.str y2 y0)->br (!kR (aB Ty.str y1 y0) (aB Ty.str y2 y0)) (bq y3) (fW y0 y4)))
abbrev sE (y0:List (Ty.str).den) (y1:List (Ty.str).den) (R:Prop):=List.length y0<=9223372036854775807->aN (List.length y1)->aN (List.length y0)->R
abbrev fY (y0:List (Ty.str).den):=List.length y0
def EY (a b:(List (Ty.str).den)):dE:=λQ=>sE a b (aN (fY b)->br ((aF a) !=(aF b)) (bq Q) (ba (λi ag=>mQ a (br (decide (i.1.1< (aF a))) (IE i.1.1 a b Q ag) (Q oZ []))) fx))
theorem WU:cM 28 Z2:=fe<| kC λa=>kC λb=>iB λQ h=>by
 refine Wp.dL ajr cQ ⟨[(5,⟨[(5,.int .i64)],[]⟩)],[]⟩ Tryz.f28 (EY a b) ?_;unfold EY fY mQ fx sE IE bq fW jF oZ ah aF aN;intro _ _ _ _;refine aw (λh1=>?_) (λh1=>?_)
 .rw [xU (by intro e;rw [e] at h1;simp at h1)] at h;exact h
 .have hl:a.length=b.length:=by
   have:((a.length:Int)=b.length):=by simpa using h1
   omega
  refine ba.intro (λi=>0<=i.1.1/\i.1.1<=a.length/\gy (a.drop i.1.1.toNat) (b.drop i.1.1.toNat)=gy a b) (λi=>a.length - i.1.1.toNat) ⟨by simp,by simp,by simp⟩ ?_;rintro ⟨⟨i,_⟩,_⟩ ⟨h0,h2,h3⟩;simp only at h0 h2 h3 ⊢;intro _;refine aw (λhc=>?_) (λhc=>?_)
  .have hc:i< a.length:=by simpa using hc
   have Aa:i< b.length:=by omega
   rw [eK (e:=.str) h0 hc,eK (e:=.str) h0 Aa] at h3;simp only [gy] at h3;refine ⟨h0,hc,λ_=>⟨h0,Aa,λ_=>aw (λh4=>?_) (λh4=>?_)⟩⟩
   .have h4:kR (aB .str a i) (aB .str b i)=false:=by simpa using h4
    rw [h4,gO] at h3;rw [<-h3] at h;exact h
   .have h4:kR (aB .str a i) (aB .str b i)=true:=by simpa using h4
    rw [h4,pr] at h3;exact ⟨by unfold aI;omega,⟨by omega,by omega,h3⟩,by omega⟩
  .have hc:¬i< a.length:=by simpa using hc
   rw [eN hc,eN (by omega)] at h3;simp only [gy] at h3;rw [<-h3] at h;exact h
end Go.Proofs

namespace Go.Proofs
open Go Go.Shelf Go.Lib Go.Sort Go.Lm
set_option maxRecDepth 1000000
set_option maxHeartbeats 1000000 in
theorem Tryz.adH (x:ByteArray) (w:World):Calls ck 170 #[.string x] w λe w'=>e= .returned (.bool false)/\w'=w:=by
 go_enter Tryz.func170,Tryz.ntmps170
 go_wp2
 go_ret
 exact ⟨by simp,rfl⟩
set_option maxHeartbeats 1000000 in
theorem Tryz.VI (x y:ByteArray) (w:World):Calls ck 123 #[.string x,.string y] w λe w'=>e= .returned (.int .i64 (fz x y))/\w'=w:=by
 go_enter Tryz.func123,Tryz.ntmps123
 go_wp2_with (first| (go_at_call 170;refine (Tryz.adH _ _).mono ?_;rintro e w' ⟨rfl,hw⟩;rw [hw])| rw [Tryz.str_gtr])
 all_goals go_ret
 all_goals (refine ⟨?_,rfl⟩;simp_all [fz])
set_option maxHeartbeats 2000000 in
theorem Tryz.ZI (a a2:Option Addr) (c c2:Nat) (xs ys:List ByteArray) (w:World) (lx:xs.length<=9223372036854775807) (ly:ys.length<=9223372036854775807)
  (h1:∀ (j:Nat) x,xs[j]?=some x->∃ bk o,a=some ⟨bk,o,none⟩/\w.cell? ⟨bk,o+j,none⟩=some (.string x))
  (h2:∀ (j:Nat) x,ys[j]?=some x->∃ bk o,a2=some ⟨bk,o,none⟩/\w.cell? ⟨bk,o+j,none⟩=some (.string x)):
  Calls ck 71 #[.slice a xs.length c,.slice a2 ys.length c2] w λe w'=>e= .returned (.int .i64 (cmpL xs ys))/\w'=w:=by
 generalize hn:xs.length=n at*;generalize hm:ys.length=m at*
 go_enter Tryz.func71,Tryz.ntmps71
 go_wp2
 go_loop [11] (λv11=>∃ k:Nat,k<=n/\k<=m/\v11= .int .i64 k/\Aside (cmpL (xs.drop k) (ys.drop k)=cmpL xs ys)) (λv11=>match v11 with| .int _ m=>n - m.toNat| _=>0)
 case atStart=>exact ⟨0,cr _,cr _,rfl,rfl⟩
 case round=>
  obtain ⟨k,hk,qS,rfl,A⟩:=hrel;by_cases eJ:k< n
  .by_cases aiq:k< m
   .obtain ⟨bk,o,rfl,g1⟩:=h1 k xs[k] (ak (by omega));obtain ⟨bk2,o2,rfl,g2⟩:=h2 k ys[k] (ak (by omega));have B:Aside (cmpL (xs.drop k) (ys.drop k)=if fz xs[k] ys[k]=0 then cmpL (xs.drop (k+1)) (ys.drop (k+1)) else fz xs[k] ys[k]):=VJ (ak (by omega:k< xs.length)) (ak (by omega:k< ys.length))
    clear h1 h2;have hc:=λw=>Tryz.VI xs[k] ys[k] w;generalize xs[k]=x at*;generalize ys[k]=y at*;generalize fz x y=r at*;by_cases hr:r=0
    .subst hr
     go_wp2_with (go_at_call 123;refine (hc _).mono ?_;rintro e w' ⟨rfl,rfl⟩)
     refine ⟨⟨k+1,by omega,by omega,rfl,?_⟩,by simp only [bm];omega⟩;simp only [if_true] at B;exact (Eq.symm B).trans A
    .go_wp2_with (go_at_call 123;refine (hc _).mono ?_;rintro e w' ⟨rfl,rfl⟩)
     go_ret
     have B:cmpL (xs.drop k) (ys.drop k)=r:=by
      have B':cmpL (xs.drop k) (ys.drop k)=if r=0 then cmpL (xs.drop (k+1)) (ys.drop (k+1)) else r:=B
      rw [if_neg hr] at B';exact B'
     exact ⟨congrArg (λz=>Ending.returned (.int .i64 z)) ((Eq.symm B).trans A),rfl⟩
   .obtain ⟨bk,o,rfl,g1⟩:=h1 k xs[k] (ak (by omega));have B:Aside (cmpL (xs.drop k) (ys.drop k)=1):=by
     rw [bO (show k< xs.length by omega),@eZ _ ys k (by omega)];rfl
    clear h1 h2;generalize xs[k]=x at*
    go_wp2
    go_ret
    exact ⟨congrArg (λz=>Ending.returned (.int .i64 z)) ((Eq.symm B).trans A),rfl⟩
  .clear h1 h2;have e1:xs.drop k= []:=eZ (by omega);by_cases aiq:n< m
   .have B:Aside (cmpL (xs.drop k) (ys.drop k)= -1):=by
     rw [e1,bO (show k< ys.length by omega)];rfl
    go_wp2
    go_ret
    exact ⟨congrArg (λz=>Ending.returned (.int .i64 z)) ((Eq.symm B).trans A),rfl⟩
   .have B:Aside (cmpL (xs.drop k) (ys.drop k)=0):=by
     rw [e1,@eZ _ ys k (by omega)];rfl
    go_wp2
    go_ret
    exact ⟨congrArg (λz=>Ending.returned (.int .i64 z)) ((Eq.symm B).trans A),rfl⟩
theorem uj {w:World} {os:Array Obj} {a:Addr} {v:Value} (h:w.cell? a=some v):(grow w os).cell? a=some v:=by
 unfold World.cell? at h ⊢;split at h
 .rename_i c e z hb;have:(grow w os).heap[a.block]?=some (.cells c e z):=by
   show (w.heap++os)[a.block]?=_;rw [ka (aQ.1 hb).1];exact hb
  rw [this];exact h
 .cases h
set_option maxHeartbeats 2000000 in
theorem Tryz.alW (a a2:Option Addr) (c c2:Nat) (xs ys:List ByteArray) (p1 p2 p3 p4 p5 p6 p7 p8 p9 q1 q2 q3 q4 q5 q6 q7 q8 q9:Value) (w:World) (lx:xs.length<=9223372036854775807) (ly:ys.length<=9223372036854775807)
  (h1:∀ (j:Nat) x,xs[j]?=some x->∃ bk o,a=some ⟨bk,o,none⟩/\w.cell? ⟨bk,o+j,none⟩=some (.string x))
  (h2:∀ (j:Nat) x,ys[j]?=some x->∃ bk o,a2=some ⟨bk,o,none⟩/\w.cell? ⟨bk,o+j,none⟩=some (.string x)):
  Calls ck 70 #[.agg #[.slice a xs.length c,p1,p2,p3,p4,p5,p6,p7,p8,p9],.agg #[.slice a2 ys.length c2,q1,q2,q3,q4,q5,q6,q7,q8,q9]] w λe w'=>e= .returned (.int .i64 (cmpL xs ys))/\∃ q os',w'=grow (w.drewN q) os':=by
 have aou:∀ W' os,W'=grow w os->Calls ck 71 #[.slice a xs.length c,.slice a2 ys.length c2] W' λe w'=>e= .returned (.int .i64 (cmpL xs ys))/\w'=W':=by
  rintro W' os rfl;refine Tryz.ZI a a2 c c2 xs ys _ lx ly (λj x hj=>?_) (λj x hj=>?_)
  .obtain ⟨bk,o,e,h⟩:=h1 j x hj;exact ⟨bk,o,e,uj h⟩
  .obtain ⟨bk,o,e,h⟩:=h2 j x hj;exact ⟨bk,o,e,uj h⟩
 clear h1 h2;generalize cmpL xs ys=r at*;generalize xs.length=n at*;generalize ys.length=m at*
 go_enter Tryz.func70,Tryz.ntmps70
 go_wp2_with (go_at_call 71;refine (aou _ _ (by rw [alloc_eq_grow,alloc_eq_grow,grow_grow])).mono ?_;rintro e w' ⟨rfl,rfl⟩)
 go_ret
 exact ⟨rfl,0,_,by rw [alloc_eq_grow,alloc_eq_grow,grow_grow];rfl⟩
end Go.Proofs

namespace Go.Lm
open Go Go.RowKit Go.Proofs
def agO (P:Program) (f fk k:Nat):Prop:=∀ {α:Type} [Inhabited α] (enc:α->List Value),(∀ x,(enc x).length=k)->(∀ x,∀ v∈enc x,v.oneCell'=true)->∀ (cf:α->α->Int),Sort.SWO (ltOf cf)->∀ (pg off cap:Nat) (d:Array α) (w:World),
 CmpLays P fk #[] enc k cf pg off d.size w->Sort.HoldsK enc k w pg off d->pg< w.heap.size->d.size< 4611686018427387904->
 Calls P f #[.slice (some ⟨pg,off,none⟩) d.size cap,.func (.func fk) #[] #[]] w λe w'=>e= .returned (.tuple #[])/\∃ d' n os,Sort.PermIn 0 d.size d d'/\Sort.SortedIn (ltOf cf) 0 d.size d'/\w'=Go.Proofs.sortWorldK enc k w pg off n d' os
def amv (P:Program) (fk:Nat):Prop:=∀ (a a2:Option Addr) (c c2:Nat) (xs ys:List ByteArray) (p1 p2 p3 p4 p5 p6 p7 p8 p9 q1 q2 q3 q4 q5 q6 q7 q8 q9:Value) (w:World),xs.length<=9223372036854775807->ys.length<=9223372036854775807->
  (∀ (j:Nat) x,xs[j]?=some x->∃ bk o,a=some ⟨bk,o,none⟩/\w.cell? ⟨bk,o+j,none⟩=some (.string x))->
  (∀ (j:Nat) x,ys[j]?=some x->∃ bk o,a2=some ⟨bk,o,none⟩/\w.cell? ⟨bk,o+j,none⟩=some (.string x))->
  Calls P fk #[.agg #[.slice a xs.length c,p1,p2,p3,p4,p5,p6,p7,p8,p9],.agg #[.slice a2 ys.length c2,q1,q2,q3,q4,q5,q6,q7,q8,q9]] w λe w'=>e= .returned (.int .i64 (cmpL xs ys))/\∃ q os',w'=Sort.grow (w.drewN q) os'
theorem flat_get {k:Nat}:∀ {l:List (List Value)},(∀ x∈l,x.length=k)->∀ {t:Nat},t< l.length*k->∃ c v,l[t / k]?=some c/\c[t % k]?=some v/\l.flatten[t]?=some v
 | [],_,t,h=>by simp at h
 | c::l,hl,t,h=>by
  have hc:=hl c (by simp);by_cases ht:t< k
  .refine ⟨c,c[t]'(by omega),?_,?_,?_⟩
   .rw [Nat.div_eq_of_lt ht];rfl
   .rw [lU ht];exact ak (by omega)
   .rw [bF,aU (by omega)];exact ak (by omega)
  .have hk:0< k:=by
    cases k with
    | zero=>simp at h
    | succ _=>omega
   have h':t - k< l.length*k:=by
    rw [aq,fj] at h;omega
   obtain ⟨c',v,h1,h2,h3⟩:=flat_get (λx hx=>hl x (aG _ hx)) h';refine ⟨c',v,?_,?_,?_⟩;rw [Nat.div_eq_sub_div hk (by omega),List.getElem?_cons_succ];exact h1;rw [Nat.mod_eq_sub_mod (by omega)];exact h2;rw [bF,aZ (by omega),hc];exact h3
theorem vO {α:Type} [Inhabited α] {enc:α->List Value} {k:Nat} (hk:∀ x,(enc x).length=k) (d:Array α):(Sort.flatK enc k d).toList=(d.toList.map enc).flatten:=by
 have hl:∀ x∈d.toList.map enc,x.length=k:=λx hx=>by
  obtain ⟨y,_,rfl⟩:=aM.1 hx;exact hk y
 have hlen:(d.toList.map enc).flatten.length=d.size*k:=by
  rw [List.length_flatten,List.map_map];have:(d.toList.map (List.length ∘ enc))=au d.size k:=by
   rw [List.eq_replicate_iff];refine ⟨by simp,λx hx=>?_⟩;obtain ⟨y,_,rfl⟩:=aM.1 hx;exact hk y
  rw [this,List.sum_replicate_nat]
 refine List.ext_getElem? λt=>?_;by_cases ht:t< d.size*k
 .obtain ⟨c,v,h1,h2,h3⟩:=flat_get hl (t:=t) (by simpa using ht);rw [h3];have hg:=Sort.get_flatK enc k d t ht;have hs:t< (Sort.flatK enc k d).size:=by rw [Sort.size_flatK];exact ht
  rw [getElem!_pos _ t hs] at hg;have hdk:t / k< d.size:=by
   rcases av.1 h1 with ⟨q,_⟩;simpa using q
  have hc:c=enc d[t / k]:=by
   rw [cz] at h1;simp only [eS,cL hdk,lu,km] at h1;exact h1.symm
  rw [eS,cL hs,hg,getElem!_pos d _ hdk,<-hc];obtain ⟨q,e⟩:=av.1 h2;rw [getElem!_pos c _ q,e]
 .rw [dy (by simpa using Nat.le_of_not_lt ht),dy (by omega)]
structure oW (g:World) where
 cs:List Value
 x:bx
 rel:noTy.rep.rel g cs x
theorem oW.len {g:World} (r:oW g):r.cs.length=10:=by
 have:=noTy.rep.len r.rel;rw [Ty.gz] at this;exact this
theorem oW.names {g:World} (r:oW g):∃ a c p1 p2 p3 p4 p5 p6 p7 p8 p9,r.cs= [.slice a r.x.1.length c,p1,p2,p3,p4,p5,p6,p7,p8,p9]/\r.x.1.length<=9223372036854775807/\∀ (j:Nat) s,r.x.1[j]?=some s->∃ bk o,a=some ⟨bk,o,none⟩/\g.cell? ⟨bk,o+j,none⟩=some (.string s):=by
 have hl:=r.len;obtain ⟨cs,x,c1,c2,e,⟨v,uz,hs⟩,_⟩:=r;simp only at e hl ⊢;subst e;subst uz;have uK:c2.length=9:=by simpa using hl
 match c2,uK with
 | [p1,p2,p3,p4,p5,p6,p7,p8,p9],_=>
  rcases hs with ⟨rfl,hx⟩| ⟨a,cap,rfl,h1,h2,h3⟩
  .refine ⟨none,0,p1,p2,p3,p4,p5,p6,p7,p8,p9,?_,?_,?_⟩
   .rw [hx];rfl
   .rw [hx];simp
   .intro j s hj;rw [hx] at hj;simp at hj
  .refine ⟨some a,cap,p1,p2,p3,p4,p5,p6,p7,p8,p9,rfl,Nat.le_trans h1 h2,λj s hj=>?_⟩;obtain ⟨cs,hc,hr⟩:=h3 j s hj;obtain ⟨rfl,_⟩:cs= [.string s]/\_:=hr;have h4:=hc 0 (.string s) rfl;have h0:∃ s0,x.1[0]?=some s0:=⟨x.1[0]'(by have:=(av.1 hj).1;omega),ak _⟩;obtain ⟨s0,hs0⟩:=h0;obtain ⟨cs0,hc0,M3⟩:=h3 0 s0 hs0;obtain ⟨rfl,_⟩:cs0= [.string s0]/\_:=M3;have h5:=hc0 0 (.string s0) rfl;obtain ⟨bk,o,sp⟩:=a;have DR:sp=none:=by
    cases sp with
    | none=>rfl
    | some z=>
     have:g.cell? ⟨bk,o,some z⟩=some (.string s0):=by simpa [Addr.add] using h5
     unfold World.cell? at this;split at this<;>simp at this
   subst DR;refine ⟨bk,o,rfl,?_⟩;have e:(⟨bk,o,none⟩:Addr).add (j*aO.size ByteArray+0)=⟨bk,o+j,none⟩:=by
    have:j*aO.size ByteArray+0=j:=by show j*1+0=j;omega
    rw [this];unfold Addr.add;split
    .rename_i h;rw [h];rfl
    .rfl
   exact e▸h4
theorem R6 {g:World}:∀ {cs:List (List Value)} {xs:List bx},@eF bx noTy.rep g cs xs->∃ rows:List (oW g),rows.map (·.cs)=cs/\rows.map (·.x)=xs
 | [],[],_=>⟨[],rfl,rfl⟩
 | c::cs,x::xs,h=>by
  obtain ⟨rows,h1,h2⟩:=R6 (cs:=cs) (xs:=xs) h.2;exact ⟨⟨c,x,h.1⟩::rows,by rw [cg,h1],by rw [cg,h2]⟩
 | [],_::_,h=>h.elim
 | _::_,[],h=>h.elim
theorem R4 {g:World}:∀ (rows:List (oW g)),@eF bx noTy.rep g (rows.map (·.cs)) (rows.map (·.x))
 | []=>trivial
 | r::rows=>⟨r.rel,R4 rows⟩
theorem uj {w:World} {os:Array Obj} {a:Addr} {v:Value} (h:w.cell? a=some v):(Sort.grow w os).cell? a=some v:=by
 unfold World.cell? at h ⊢;split at h
 .rename_i c e z hb;have:(Sort.grow w os).heap[a.block]?=some (.cells c e z):=by
   show (w.heap++os)[a.block]?=_;rw [ka (aQ.1 hb).1];exact hb
  rw [this];exact h
 .cases h
theorem UB {g:World}:Sort.SWO (ltOf λx y:oW g=>cmpL x.x.1 y.x.1) where
 irrefl x:=by
  unfold ltOf;have:=j9 x.x.1;simp only [this];decide
 trans x y z h k:=by
  unfold ltOf at*;simp only [decide_eq_true_eq] at*;exact vT h k
 ntrans x y z h k:=by
  unfold ltOf at*;simp only [decide_eq_false_iff_not] at*;exact Nz h k
theorem Wp.UH {I:cV->Prop} {P:Program} {f fk:Nat} {tN:TypeId} {L:List bx} {Q:SV->List HO->Prop} (hS:agO P f fk 10) (hN:∀ (p:Option Addr) (cap:Nat) (fv:Value) (w:World),Calls P f #[.slice p 0 cap,fv] w λe w'=>e= .returned (.tuple #[])/\w'=w) (hC:amv P fk)
  (hL:L.length< 4611686018427387904) (hq:∀ L':List bx,L'.Perm L->L'.Pairwise (λx y=>¬cmpL y.1 x.1< 0)->Q (.cZ []) [.sl tN noTy L']):
  Wp I P f [.v (.c (.o 0)),.v (.c (.fn fk []))] [.sl tN noTy L] Q:=by
 intro W hW g w E F vs S DQ;obtain ⟨u1,r1,rfl,⟨hE,_⟩,Wm⟩:=DQ;obtain ⟨u2,r2,rfl,⟨us,Wn,rfl⟩,hr2⟩:=Wm;obtain rfl:us= []:=Wn;obtain rfl:r2= []:=hr2;letI:=noTy.rep;have H1:SL W g w (py noTy tN u1 L::F):=S.sl.cE λh ⟨k1,k2,ap,q,⟨v,hv,s1⟩,s2⟩=>by
  rw [hE] at hv;obtain rfl:=aj hv;exact ⟨k1,k2,ap,q,s1,s2⟩
 obtain ⟨cs,rel,H2⟩:=H1.py;obtain ⟨rows,xf,yR⟩:=R6 rel;have hln:rows.length=L.length:=by rw [<-yR,bL]
 have same:L= []->Q (.cZ []) [.sl tN noTy L]:=λe=>by
  subst e;exact hq [] (List.Perm.refl _) List.Pairwise.nil
 have nil:∀ (p:Option Addr) (cap:Nat),u1= .slice p 0 cap->L= []->Ho P f #[u1,.func (.func fk) #[] [].toArray] w λv w'=>∃ E' g' sv H',bz E E'/\bA g g'/\Sat W E' g' w' H' F/\dq E' g' sv v/\Q sv H':=λp cap hu he=>by
  subst hu;refine (Ho.of (hN p cap _ w)).mono λv w' ⟨h1,h2⟩=>?_;subst h1;subst h2;exact ⟨E,g,.cZ [],_,bz.refl E,bA.refl g,S,⟨[],rfl,rfl⟩,same he⟩
 rcases H2.row.2 with ⟨rfl,h0⟩| ⟨k,cap,cur,rfl,hbk,pf,hn,Jo,Zm,Gy⟩;exact nil none 0 rfl (aK h0);by_cases hz:L= [];subst hz;exact nil _ _ rfl rfl;obtain ⟨r0,M3⟩:∃ r,r∈rows:=List.exists_mem_of_ne_nil rows λe=>hz (by rw [<-yR,e];rfl);letI:Inhabited (oW g):=⟨r0⟩;have hk:∀ x:oW g,x.cs.length=10:=λx=>x.len;have kJ:tA g k:=by
  obtain ⟨h,be,s,ow,h1,h2,ap,rfl,⟨hl,hv⟩,s2⟩:=H2;rcases hv with ⟨hv,_⟩| ⟨k',ZN,aee,hv,vY,_⟩;cases hv
  .have:k=k':=by
    injection hv with e1 _ _;injection e1 with e1;injection e1
   subst this;exact (ow k _ (Hp.fK vY)).2.2
 have hF:(Sort.flatK (λx:oW g=>x.cs) 10 rows.toArray).toList=cur.toList.take (L.length*10):=by
  rw [vO hk];show (rows.map (·.cs)).flatten=_;rw [xf,<-Gy];rfl
 have hHolds:Sort.HoldsK (λx:oW g=>x.cs) 10 w k 0 rows.toArray:=λj hj=>by
  have CZ:j< (cur.toList.take (L.length*10)).length:=by rw [<-hF];simpa using hj
  have e1:(Sort.flatK (λx:oW g=>x.cs) 10 rows.toArray)[j]?=cur[j]?:=by
   rw [<-eS,hF,dO,if_pos (by simp at CZ;omega),eS]
  have e2:(Sort.flatK (λx:oW g=>x.cs) 10 rows.toArray)[j]?=some (Sort.flatK (λx:oW g=>x.cs) 10 rows.toArray)[j]!:=by
   rw [getElem!_pos _ j hj];exact cL hj
  refine ⟨?_,?_⟩
  .simp only [World.cell?,pf,cd];rw [<-e1,e2];rfl
  .simp [World.frozen?,pf]
 have aiy:CmpLays P fk #[] (λx:oW g=>x.cs) 10 (λx y=>cmpL x.x.1 y.x.1) k 0 rows.toArray.size w:=λm os dk _ x y=>by
  obtain ⟨a,c,p1,p2,p3,p4,p5,p6,p7,p8,p9,ex,lx,hx⟩:=x.names;obtain ⟨a2,c2,q1,q2,q3,q4,q5,q6,q7,q8,q9,ey,ly,hy⟩:=y.names;have seen:∀ bk o s,g.cell? ⟨bk,o,none⟩=some (.string s)->(Go.Proofs.sortWorldK (λx:oW g=>x.cs) 10 w k 0 m dk os).cell? ⟨bk,o,none⟩=some (.string s):=λbk o s hg=>by
   refine uj ?_;have gD:bk≠k:=λe=>by
    have:=kJ ⟨bk,o,none⟩ e;rw [this] at hg;cases hg
   rw [Sort.cell?_putRowK_other (h:=gD),Sort.cell?_ahead];exact S.sl.m _ _ hg
  have:=hC a a2 c c2 x.x.1 y.x.1 p1 p2 p3 p4 p5 p6 p7 p8 p9 q1 q2 q3 q4 q5 q6 q7 q8 q9 (Go.Proofs.sortWorldK (λx:oW g=>x.cs) 10 w k 0 m dk os) lx ly
   (λj s hj=>by obtain ⟨bk,o,e,h⟩:=hx j s hj;exact ⟨bk,o,e,seen _ _ _ h⟩) (λj s hj=>by obtain ⟨bk,o,e,h⟩:=hy j s hj;exact ⟨bk,o,e,seen _ _ _ h⟩)
  have e:(#[Value.agg x.cs.toArray,Value.agg y.cs.toArray]++ #[]:Array Value)= #[.agg #[.slice a x.x.1.length c,p1,p2,p3,p4,p5,p6,p7,p8,p9],.agg #[.slice a2 y.x.1.length c2,q1,q2,q3,q4,q5,q6,q7,q8,q9]]:=by rw [ex,ey];rfl
  show Calls P fk (#[Value.agg x.cs.toArray,Value.agg y.cs.toArray]++ #[]) _ _;rw [e];exact this
 have gM:=hS (λx:oW g=>x.cs) hk (λx v hv=>(oneCellsTy noTy).one x.rel v hv) (λx y=>cmpL x.x.1 y.x.1) UB k 0 cap rows.toArray w aiy hHolds (uS pf) (by simpa [hln] using hL);have kE:rows.toArray.size=L.length:=by simpa using hln
 rw [kE] at gM;refine (Ho.of gM).mono λv w' ⟨hv,d',n,os,hp,hso,hw'⟩=>?_;subst hv;have hd:d'.size=L.length:=hp.1.trans kE;have alm:d'.toList.Perm rows:=by
  have:=hp.2.2;rw [<-hd] at this;rw [show d'.extract 0 d'.size=d' by simp,show rows.toArray.extract 0 d'.size=rows.toArray by rw [hd,<-kE];simp] at this;simpa using this
 have hb:w'.heap[k]?=some (.cells (Sort.putCells id 0 (Sort.flatK (λx:oW g=>x.cs) 10 d') cur) tN (0,0)):=by
  rw [hw'];show ((w.heap.modify k (Sort.onCells (Sort.putCells id 0 (Sort.flatK (λx:oW g=>x.cs) 10 d'))))++os)[k]?=_;rw [ka (by rw [Array.size_modify];exact uS pf),jb,if_pos rfl,pf];rfl
 have hFs:(Sort.flatK (λx:oW g=>x.cs) 10 d').size=L.length*10:=by rw [Sort.size_flatK,hd]
 have alL:(Sort.putCells id 0 (Sort.flatK (λx:oW g=>x.cs) 10 d') cur).size=cur.size:=by unfold Sort.putCells;simp
 have hle:L.length*10<=cur.size:=by rw [Zm];exact hZ _ hn
 have htk:(Sort.putCells id 0 (Sort.flatK (λx:oW g=>x.cs) 10 d') cur).toList.take (L.length*10)=(d'.toList.map (·.cs)).flatten:=by
  rw [<-vO hk];refine List.ext_getElem? λj=>?_;by_cases hj:j< L.length*10
  .rw [dO,if_pos hj,eS,eS];unfold Sort.putCells;rw [Array.getElem?_mapIdx,cL (by omega:j< cur.size),lu,if_pos ⟨cr _,by rw [hFs];omega⟩,Nat.sub_zero,getElem!_pos _ j (by rw [hFs];exact hj),cL (by rw [hFs];exact hj)];rfl
  .rw [dy (by rw [aD];omega),dy (by rw [dw,hFs];omega)]
 have M6:w.grownBy w' (some k):=by
  rw [hw'];refine ⟨rfl,rfl,rfl,?_,λj hj gD=>?_⟩
  .show w.heap.size<=((w.heap.modify k _)++os).size;rw [Array.size_append,Array.size_modify];omega
  .show ((w.heap.modify k _)++os)[j]?=_;rw [ka (by rw [Array.size_modify];exact hj),jb,if_neg (λe=>gD (by rw [e]))]
 have hlen:((d'.toList.map (·.cs)).flatten).length=L.length*10:=by rw [<-vO hk,dw,hFs]
 have H3:=H2.grown (v':=.slice (some ⟨k,0,none⟩) L.length cap) (n':=L.length) (xs':=(d'.toList.map (·.cs)).flatten) (w':=w') ⟨hlen,.inr ⟨k,cap,_,rfl,hbk,hb,hn,Jo,by rw [alL];exact Zm,htk⟩⟩ M6 (λq hq=>.inl hq);have hxl:(d'.toList.map (·.x)).length=L.length:=by rw [bL,dw,hd]
 have H4:SL W g w' (py noTy tN (.slice (some ⟨k,0,none⟩) L.length cap) (d'.toList.map (·.x))::F):=by
  refine SL.XQ (cs:=d'.toList.map (·.cs)) (R4 _) ?_;rw [hxl];exact H3
 have hpL:(d'.toList.map (·.x)).Perm L:=by rw [<-yR];exact alm.map _
 refine ⟨E,g,.cZ [],[.sl tN noTy (d'.toList.map (·.x))],bz.refl E,bA.refl g,⟨H4.cE λh ⟨k1,k2,ap,q,s1,s2⟩=>⟨k1,k2,ap,q,⟨_,hE,s1⟩,s2⟩,S.len⟩,⟨[],rfl,rfl⟩,hq _ hpL ?_⟩;rw [iZ,da];intro i j hi hj hij;have pH:i< d'.size:=by simpa using hi
 have CZ:j< d'.size:=by simpa using hj
 have:=hso i j (cr _) hij (by omega);rw [getElem!_pos d' i pH,getElem!_pos d' j CZ] at this;unfold ltOf at this;simpa using this
end Go.Lm

namespace Go.Proofs
open Go Go.Shelf Go.Lm
set_option maxRecDepth 1000000
def Tryz.UI:Go.Shelf.Ren:=⟨fun| 6=>69| 15=>122| 14=>121| 28=>168| 29=>169| 20=>160| 21=>161| 22=>162| 23=>163| 24=>164| 25=>165| 26=>166| 27=>167| 46=>206| 47=>207| 48=>208| 49=>209| 50=>210| 57=>231| n=>n,fun| 22=>22| 24=>38| 25=>146| 3=>3| 39=>148| 0=>0| 53=>107| 55=>267| 4=>4| 46=>260| 45=>259| 50=>104| 5=>5| 9=>9| 66=>303| 70=>130| 76=>325| 77=>163| n=>n,fun| n=>n⟩
theorem Tryz.ae5:Go.Proofs.SlLaysF0.n6 ck Tryz.UI:= {
 mixed:=by kernel_rfl
 f6:=⟨"slices.SortFunc[[]lamella/api.Node,lamella/api.Node]",by kernel_rfl,Tryz.func69.trans (congrArg some (by kernel_rfl))⟩
 f14:=⟨"slices.pdqsortCmpFunc[lamella/api.Node]",by kernel_rfl,Tryz.func121.trans (congrArg some (by kernel_rfl))⟩
 f15:=Tryz.func122.trans (congrArg some (by kernel_rfl))
 f20:=⟨"slices.insertionSortCmpFunc[lamella/api.Node]",by kernel_rfl,Tryz.func160.trans (congrArg some (by kernel_rfl))⟩
 f21:=⟨"slices.heapSortCmpFunc[lamella/api.Node]",by kernel_rfl,Tryz.func161.trans (congrArg some (by kernel_rfl))⟩
 f22:=⟨"slices.breakPatternsCmpFunc[lamella/api.Node]",by kernel_rfl,Tryz.func162.trans (congrArg some (by kernel_rfl))⟩
 f23:=⟨"slices.choosePivotCmpFunc[lamella/api.Node]",by kernel_rfl,Tryz.func163.trans (congrArg some (by kernel_rfl))⟩
 f24:=⟨"slices.reverseRangeCmpFunc[lamella/api.Node]",by kernel_rfl,Tryz.func164.trans (congrArg some (by kernel_rfl))⟩
 f25:=⟨"slices.partialInsertionSortCmpFunc[lamella/api.Node]",by kernel_rfl,Tryz.func165.trans (congrArg some (by kernel_rfl))⟩
 f26:=⟨"slices.partitionEqualCmpFunc[lamella/api.Node]",by kernel_rfl,Tryz.func166.trans (congrArg some (by kernel_rfl))⟩
 f27:=⟨"slices.partitionCmpFunc[lamella/api.Node]",by kernel_rfl,Tryz.func167.trans (congrArg some (by kernel_rfl))⟩
 f28:=Tryz.func168.trans (congrArg some (by kernel_rfl))
 f29:=Tryz.func169.trans (congrArg some (by kernel_rfl))
 f46:=⟨"slices.siftDownCmpFunc[lamella/api.Node]",by kernel_rfl,Tryz.func206.trans (congrArg some (by kernel_rfl))⟩
 f47:=Tryz.func207.trans (congrArg some (by kernel_rfl))
 f48:=Tryz.func208.trans (congrArg some (by kernel_rfl))
 f49:=⟨"slices.medianAdjacentCmpFunc[lamella/api.Node]",by kernel_rfl,Tryz.func209.trans (congrArg some (by kernel_rfl))⟩
 f50:=⟨"slices.medianCmpFunc[lamella/api.Node]",by kernel_rfl,Tryz.func210.trans (congrArg some (by kernel_rfl))⟩
 f57:=⟨"slices.order2CmpFunc[lamella/api.Node]",by kernel_rfl,Tryz.func231.trans (congrArg some (by kernel_rfl))⟩
 t0:=Tryz.underlying0
 a0:=Tryz.isAgg0
 z0:=Tryz.sizeOf0
 v0:=Tryz.zeroValue0
 t3:=o5
 a3:=Tryz.isAgg3
 z3:=Tryz.sizeOf3
 v3:=Tryz.zeroValue3
 t4:=Tryz.underlying4
 a4:=Tryz.isAgg4
 z4:=Tryz.sizeOf4
 v4:=Tryz.zeroValue4
 t5:=Tryz.underlying5
 a5:=Tryz.isAgg5
 z5:=Tryz.sizeOf5
 v5:=Tryz.zeroValue5
 t9:=Tryz.underlying9
 a9:=Tryz.isAgg9
 z9:=Tryz.sizeOf9
 v9:=Tryz.zeroValue9
 t22:=Tryz.underlying22
 a22:=Tryz.isAgg22
 z22:=Tryz.sizeOf22
 v22:=Tryz.zeroValue22
 t25:=Tryz.underlying146
 a25:=Tryz.isAgg146
 z25:=Tryz.sizeOf146
 v25:=Tryz.zeroValue146
 t39:=Tryz.underlying148
 a39:=Tryz.isAgg148
 z39:=Tryz.sizeOf148
 v39:=Tryz.zeroValue148
 t45:=Tryz.underlying259
 a45:=Tryz.isAgg259
 z45:=Tryz.sizeOf259
 v45:=Tryz.zeroValue259
 t46:=Tryz.underlying260
 a46:=Tryz.isAgg260
 z46:=Tryz.sizeOf260
 v46:=Tryz.zeroValue260
 t50:=Tryz.underlying104
 a50:=Tryz.isAgg104
 z50:=Tryz.sizeOf104
 v50:=Tryz.zeroValue104
 t53:=Tryz.underlying107
 a53:=Tryz.isAgg107
 z53:=Tryz.sizeOf107
 v53:=Tryz.zeroValue107
 t55:=Tryz.underlying267
 a55:=Tryz.isAgg267
 z55:=Tryz.sizeOf267
 v55:=Tryz.zeroValue267
 t66:=Tryz.underlying303
 a66:=Tryz.isAgg303
 z66:=Tryz.sizeOf303
 v66:=Tryz.zeroValue303
 t70:=Tryz.underlying130
 a70:=Tryz.isAgg130
 z70:=Tryz.sizeOf130
 v70:=Tryz.zeroValue130
 t76:=Tryz.underlying325
 a76:=Tryz.isAgg325
 z76:=Tryz.sizeOf325
 v76:=Tryz.zeroValue325
 t77:=Tryz.underlying163
 a77:=Tryz.isAgg163
 z77:=Tryz.sizeOf163
 v77:=Tryz.zeroValue163
}
theorem Tryz.akL:agO ck 69 70 10:=λenc hk h1 cf hO pg off cap d w aiy hH hblk kE=>
 AnyQ.slices_SortFunc Tryz.ae5 10 Tryz.isAgg38 Tryz.sizeOf38 enc hk h1 cf hO 70 #[] pg off cap d w (enters_of Tryz.func70 (by kernel_rfl) rfl) aiy hH hblk kE
theorem Tryz.akM (p:Option Addr) (cap:Nat) (fv:Value) (w:World):Calls ck 69 #[.slice p 0 cap,fv] w λe w'=>e= .returned (.tuple #[])/\w'=w:=AnyF.slices_SortFunc_none {Tryz.ae5 with} p cap fv w
theorem Tryz.aoI:amv ck 70:=Tryz.alW
end Go.Proofs

namespace Go.Proofs
open Go Go.Lm Go.RowKit
set_option maxRecDepth 1000000
def ajg:Ct:=cD .u8 λx=>c0 λQ=>x.length<=5000000000000/\Q (.c (.d .u8 x)) []
def RM (x:(List (Ty.u8).den)):dE:=λQ=>cW x (zP x Q)
theorem Xj:cM 72 ajg:=fe<| kC λx=>iB λQ h=>by
 refine Wp.IL (e:=.u8) ?_;refine Wp.dL jr cQ ⟨[],[]⟩ Tryz.f72 (RM x) ?_;unfold RM zP cC cW cA;obtain ⟨hl,h⟩:=h;refine λ_ c hc=>aw (λhb=>.inr (.inl ⟨rfl,?_⟩)) (λhb=>⟨by omega,by omega,.inr (.inr ⟨0,5,x,rfl,az 0,rfl,h⟩)⟩);rw [hc hb] at h;exact h
def al2:Ct:=cD .str λx=>c0 λQ=>x.length<=1000/\Q (.c (.d .str x)) []
def abL:=jr.add Xj
def Xm (x:(List (Ty.str).den)):dE:=λQ=>mQ x (∀ (c:Bool),(c=true->x= [])->br (lJ c) (Q gf []) ((0+List.length x)*16<=cC/\0+List.length x<=9223372036854775807/\Q gd [.sl 9 Ty.str ([]++x)]))
theorem ae1:cM 43 al2:=fe<| kC λx=>iB λQ h=>by
 refine Wp.IL (e:=.str) ?_;refine Wp.dL abL cQ ⟨[],[]⟩ Tryz.f43 (Xm x) ?_;unfold Xm mQ lJ gd gf cC cA;obtain ⟨hl,h⟩:=h;refine λ_ c hc=>aw (λhb=>.inr (.inl ⟨rfl,?_⟩)) (λhb=>⟨by omega,by omega,.inr (.inr ⟨0,9,x,rfl,az 0,rfl,h⟩)⟩);rw [hc hb] at h;exact h
def al1:Ct:=cD dJ λx=>c0 λQ=>x.length<=1000/\Q (.c (.o 0)) [.sl 96 dJ x]
def ajW:=abL.add ae1
def Xl (x:(List (dJ).den)):dE:=λQ=>l6 x (∀ (c:Bool),(c=true->x= [])->br (lJ c) (Q gf []) ((0+List.length x)*40<=cC/\0+List.length x<=9223372036854775807/\Q gd [.sl 96 dJ ([]++x)]))
theorem akr:cM 37 al1:=fe<| kC λx=>iB λQ h=>by
 refine Wp.IK (t:=96) (e:=dJ) ?_;refine Wp.dL ajW cQ ⟨[],[]⟩ Tryz.f37 (Xl x) ?_;unfold Xl l6 lJ gd gf cC cA;intro _ c hc;refine aw (λhb=>.inr ⟨rfl,?_⟩) (λhb=>⟨by omega,by omega,.inl ?_⟩)
 .have:=hc (by simpa using hb);subst this;exact h.2
 .exact h.2
def al4:Ct:=cD noTy λx=>c0 λQ=>x.length<=1100/\Q (.c (.o 0)) [.sl 38 noTy x]
def Xo (x:(List (noTy).den)):dE:=λQ=>gn x (∀ (c:Bool),(c=true->x= [])->br (lJ c) (Q gf []) ((0+List.length x)*136<=cC/\0+List.length x<=9223372036854775807/\Q gd [.sl 38 noTy ([]++x)]))
theorem akt:cM 68 al4:=fe<| kC λx=>iB λQ h=>by
 refine Wp.IK (t:=38) (e:=noTy) ?_;refine Wp.dL jr cQ ⟨[],[]⟩ Tryz.f68 (Xo x) ?_;unfold Xo lJ gd gf gn cC cA;intro _ c hc;refine aw (λhb=>.inr ⟨rfl,?_⟩) (λhb=>⟨by omega,by omega,.inl ?_⟩)
 .have:=hc (by simpa using hb);subst this;exact h.2
 .exact h.2
def Tt:Ct
 | [.v (.c (.o 0)),.v (.c (.fn 70 []))],[.sl tN e xs],Q=>(match zk noTy xs with
  | some L=>(L.length:Int)<=1100/\∀ L':List bx,L'.Perm L->L'.Pairwise (λx y=>¬cmpL y.1 x.1< 0)->Q (.cZ []) [.sl tN noTy L']
  | none=>False)
 | _,_,_=>False
theorem ahH {e e':Ty} {xs:List e.den} {L:List e'.den} (h:zk e' xs=some L) (t:TypeId):HO.sl t e xs=HO.sl t e' L:=by
 obtain ⟨q,hy⟩:=eA h;subst q;subst hy;rfl
theorem acv:cM 69 Tt:=by
 intro args H Q h;unfold Tt at h;split at h
 .split at h
  .rename_i tN e xs x_ L hL;rw [ahH hL];exact Wp.UH Tryz.akL Tryz.akM Tryz.aoI (by have:=h.1;omega) h.2
  .cases h
 .cases h
theorem NC {l:List bx} (h:dK l=0):l.length<=1024/\kj l=0/\ml (gj l) []=1/\Mz (gj l) l=false/\(∀ x∈l,iF x=true)/\k7 l []=0:=by
 unfold dK at h;split at h;cases h;rename_i h1;split at h
 .rename_i h2;rw [h] at h2;cases h2
 rename_i h2;split at h;cases h;rename_i h3;split at h;cases h;rename_i h4;split at h;cases h;rename_i h5;refine ⟨by omega,by simpa using h2,by simpa using h3,by simpa using h4,λx hx=>?_,h⟩;have:(l.any λx=> !iF x)=false:=by simpa using h5
 have:=List.any_eq_false.1 this x hx;simpa using this
theorem PE {x:bx} (h:iF x=true):x.2.2.2.2.1.length<=4096/\dI x.2.2.2.2.2.2.1=true/\x.2.2.2.2.2.2.2.1=false:=by
 unfold iF at h;split at h
 .simp only [ao,beq_iff_eq,bG] at h;exact ⟨by omega,h.2,h.1.1.2⟩
 .split at h
  .simp only [ao,decide_eq_true_eq,bG] at h;exact ⟨by omega,h.2,h.1.1.2⟩
  .split at h
   .simp only [ao,beq_iff_eq,bG] at h;exact ⟨by omega,h.2,h.1.1.2⟩
   .cases h
theorem NB {l:List bx} (h:dK l=0):∀ x∈l,x.1.length<=16/\x.2.2.2.2.1.length<=4096/\x.2.2.2.2.2.2.1.length<=8/\∀ z∈x.2.2.2.2.2.2.1,z.2.1.length<=200:=λx hx=>by
 obtain ⟨_,h2,_,_,h5,_⟩:=NC h;obtain ⟨_,hD,_⟩:=wS (show (kj l !=0)=false by rw [h2];rfl);obtain ⟨a,b,_⟩:=PE (h5 x hx);obtain ⟨c,d⟩:=o7 b;exact ⟨AS hD hx,a,d,λz hz=>(c z hz).2.2⟩
theorem ac5 {e:Ty} {L:List e.den} {i:Int} (h0:0<=i) (h1:i< (L.length:Int)):L.set i.toNat (aB e L i)=L:=by
 rw [fb h0 h1,List.set_getElem_self]
theorem SN {e:Ty} (A B:List e.den) (x:e.den) {j:Nat} (h:A.length=j):aB e (A++x::B) (j:Int)=x:=by
 subst h;unfold aB;rw [bm,aP,aZ (az _),pq];rfl
theorem RV {α:Type} (A B:List α) (x y:α) {j:Nat} (h:A.length=j):(A++x::B).set (j:Int).toNat y=A++y::B:=by
 subst h;rw [bm,List.set_append_right _ _ (az _),pq];rfl
def xt:Ct
 | [.v (.c cl)],[],Q=>(match (Ty.sl noTy).of [cl] with
  | some (l,[])=>(l.length:Int)<=1000/\br (dK l !=0) (Q (.cZ [.c (.d noTy []),.c (.k (.int .i64 (dK l)))]) []) (∀ L':List bx,L'.Perm l->L'.Pairwise (λx y=>¬cmpL y.1 x.1< 0)->Q (.cZ [.c (.d noTy (dg L' [])),.c (.k (.int .i64 0))]) [])
  | _=>False)
 | _,_,_=>False
def ajV:=(((((jr.add WZ).add Xj).add ae1).add akr).add akt).add acv
abbrev adk (y0) (y1):=List.set (List.set y0 (aA y1) (aB noTy y0 y1)) (aA y1) ((aB noTy (List.set y0 (aA y1) (aB noTy y0 y1)) y1).1,(aB noTy (List.set y0 (aA y1) (aB noTy y0 y1)) y1).2.1,(aB noTy (List.set y0 (aA y1) (aB noTy y0 y1)) y1).2.2.1,(aB noTy (List.set y0 (aA y1) (aB noTy y0 y1)) y1).2.2.2.1,(aB noTy y0 y1).2.2.2.2.1,(aB noTy (List.set y0 (aA y1) (aB noTy y0 y1)) y1).2.2.2.2.2)
abbrev uG {A1:Type} (y0) (y1:List A1) (R:Prop):=0<=y0/\y0< (a6 y1)/\0<=y0/\y0< (a6 y1)/\R
abbrev sy (y0) (y1):=aB noTy (adk y0 y1) y1
abbrev fE (y0) (y1):=aB noTy y0 y1
abbrev yo (y0:List bx) (y1:List (noTy).den) (R:Prop):=List.Perm y0 y1->List.Pairwise (λx y=>¬cmpL y.1 x.1< 0) y0->R
def EM (l:(List (noTy).den)):dE:=λQ=>gn l (aI .i64 (dK l)->br (dK l !=0) (Q (.cZ [.c (.k cA),.c (.k (.int .i64 (dK l)))]) []) (List.length l<=1100/\(aF l)<=(1100:Int)/\∀ (L':List bx),yo L' l (aN (List.length L')->ba (fun 
 i ag=>br (decide (i.1.1< (a6 L'))) (uG i.1.1 i.2.1 (Ty.ok noTy (fE i.2.1 i.1.1)->Ty.ok bw (gl (Kk.get Kk.int i.2.2.1 (fE i.2.1 i.1.1).2.1) ah)->cY (λk=>br (!Option.isSome (Kk.get Kk.int i.2.2.1 
 (fE i.2.1 i.1.1).2.1)) (aN (bQ i.2.2.1)->aI .i64 ((a6 i.2.2.1)+1)/\0<=i.1.1/\i.1.1< (a6 i.2.1)/\(Ty.ok noTy (fE i.2.1 i.1.1)->l9 i.2.2.1 (k (((a6 i.2.2.1)+1,()),Kk.put Kk.int i.2.2.1 (fE i.2.1 
 i.1.1).2.1 ((a6 i.2.2.1)+1),())))) (k ((gl (Kk.get Kk.int i.2.2.1 (fE i.2.1 i.1.1).2.1) ah,()),i.2.2))) λcu=>cY (λk=>0<=i.1.1/\i.1.1< (a6 i.2.1)/\k ((),List.set i.2.1 (bc i.1.1) ((fE i.2.1 
 i.1.1).1,cu.1.1,(fE i.2.1 i.1.1).2.2),())) λgC=>0<=i.1.1/\i.1.1< (a6 gC.2.1)/\(Ty.ok noTy (fE gC.2.1 i.1.1)->0<=i.1.1/\i.1.1< (a6 gC.2.1)/\(Ty.ok noTy (fE gC.2.1 i.1.1)->0<=i.1.1/\i.1.1< (a6 
 gC.2.1)/\(Ty.ok noTy (fE gC.2.1 i.1.1)->List.length (fE gC.2.1 i.1.1).1<=1000/\(List.length (fE gC.2.1 i.1.1).1<=9223372036854775807->List.length (fE gC.2.1 i.1.1).2.2.2.2.1<=5000000000000/\(List.length (fE 
 gC.2.1 i.1.1).2.2.2.2.1<=9223372036854775807->List.length (fE gC.2.1 i.1.1).2.2.2.2.2.2.1<=1000/\0<=i.1.1/\i.1.1< (a6 gC.2.1)/\0<=i.1.1/\i.1.1< (a6 (List.set gC.2.1 (bc i.1.1) (fE gC.2.1 i.1.1)))/\0<=i.1.1/\ 
 i.1.1< (↑(List.length (adk gC.2.1 i.1.1)):Int)/\i.1.1=i.1.1/\(List.length (fE gC.2.1 i.1.1).2.2.2.2.2.2.1<=9223372036854775807->ba (λjT ag_1=>br (decide (jT.1.1< (↑(List.length (fE gC.2.1 
 i.1.1).2.2.2.2.2.2.1):Int))) (uG jT.1.1 jT.2.1 (Ty.ok dJ (dW jT.2.1 jT.1.1)->i.1.1=i.1.1/\List.length (dW jT.2.1 jT.1.1).2.1<=5000000000000/\(List.length (dW jT.2.1 jT.1.1).2.1<=9223372036854775807->uG 
 jT.1.1 jT.2.1 (cG jT.1.1 (ag_1 ((jT.1.1+1,()),List.set jT.2.1 (bc jT.1.1) (dW jT.2.1 jT.1.1),())))))) (cG i.1.1 (ag ((i.1.1+1,()),List.set (adk gC.2.1 i.1.1) (bc i.1.1) ((sy gC.2.1 i.1.1).1,(sy 
 gC.2.1 i.1.1).2.1,(sy gC.2.1 i.1.1).2.2.1,(sy gC.2.1 i.1.1).2.2.2.1,(sy gC.2.1 i.1.1).2.2.2.2.1,(sy gC.2.1 i.1.1).2.2.2.2.2.1,jT.2.1,(sy gC.2.1 i.1.1).2.2.2.2.2.2.2),cu.2)))) ((ah,()),(fE gC.2.1 
 i.1.1).2.2.2.2.2.2.1,()))))))))) (Q nv [.sl 38 noTy i.2.1])) ((ah,()),L',[],()))))
theorem Ka:cM 45 xt:=by
 intro args H Q h;unfold xt at h;split at h;rotate_left;cases h;rename_i cl;split at h;rotate_left;cases h;rename_i l hl;refine Wp.said (args':=[.c (.d noTy l)]) (λE g=>bE.dd (dR hl) (λ_ h=>h)) ?_;clear hl;refine Wp.lY [some (.sl noTy),none] [0] ?_;refine Wp.dL ajV cQ ⟨[(9,⟨[(25,.int .i64)],[(0,.sl 38 noTy),(1,.map 3 .int (.int .i64))]⟩),(19,⟨[(84,.int .i64)],[(2,.sl 96 dJ)]⟩)],[(16,⟨[(9,.int .i64)],[(1,.map 3 .int (.int .i64))]⟩),(17,⟨[],[(0,.sl 38 noTy)]⟩)]⟩ Tryz.f45 (EM l) (sfh:=true) ?_;unfold EM yo fE sy dW nv l9 cG uG gn bQ cA bn bc adk ah a6 aF aN bw;obtain ⟨hl,h⟩:=h;refine λ_ _=>aw (λhc=>?_) (λhc=>?_);rw [hc] at h;exact ⟨az _,h⟩;rw [hc] at h;have hck:dK l=0:=by simpa using hc
 have aiB:=NB hck;refine ⟨by omega,by omega,λL' hp ho _=>?_⟩;have hq:=h L' hp ho;have hlen:L'.length=l.length:=hp.length_eq;clear h ho hc;refine ba.intro (λi=>∃ j:Nat,j<=L'.length/\i.1.1=(j:Int)/\i.2.1=dg (L'.take j) []++L'.drop j/\i.2.2.1=jN (L'.take j) []) (λi=>L'.length - i.1.1.toNat) ⟨0,cr _,rfl,by simp [dg],by simp [jN]⟩ ?_;rintro ⟨⟨i,_⟩,out,m,_⟩ ⟨j,hj,h1,h2,h3⟩;simp only at h1 h2 h3 ⊢;subst h1 h2 h3;have hA:(dg (L'.take j) []).length=j:=by rw [j6,aD];omega
 have qk:(dg (L'.take j) []++L'.drop j).length=L'.length:=by rw [af,hA,aW];omega
 have J3:=wP (L'.take j) [];rw [aD,aL] at J3;refine aw (λhc=>?_) (λhc=>?_)
 .have uz:(j:Int)< L'.length:=of_decide_eq_true hc;clear hc;have uL:j< L'.length:=by omega
  have DR:=bO uL;obtain ⟨b1,b2,b3,b4⟩:=aiB _ (hp.mem_iff.1 (df uL));have ht:L'.take (j+1)=L'.take j++ [L'[j]]:=bZ uL;have hna:=(qQ (L'.take j) [L'[j]] []).2;have hns:∀ v:Int,(Kk.get .int (jN (L'.take j) []) (L'[j]'uL).2.1=some v\/(Kk.get .int (jN (L'.take j) []) (L'[j]'uL).2.1=none/\v=((jN (L'.take j) []).length:Int)+1))->dg (L'.take j++ [L'[j]'uL]) []=dg (L'.take j) []++ [bx.lC (L'[j]'uL) v]:=λv q=>(YC q).1;rw [<-ht] at hna hns;generalize L'[j]=x at*;rw [DR] at qk ⊢;generalize dg (L'.take j) []=A at*;generalize jN (L'.take j) []=m0 at*;rw [qk,SN (e:=noTy) A _ x hA];refine ⟨by omega,uz,by omega,uz,λ_ _=>?_⟩;refine cY.intro (λk=>(Kk.get .int m0 x.2.1=some k.1.1\/(Kk.get .int m0 x.2.1=none/\k.1.1=(m0.length:Int)+1))/\k.2.1=jN (L'.take (j+1)) []) ?_ ?_
  .refine aw (λhg=>?_) (λhg=>?_)
   .have hg:Kk.get .int m0 x.2.1=none:=by simpa using hg
    exact λ_=>⟨by unfold aI;omega,by omega,uz,λ_=>⟨by omega,.inr ⟨hg,rfl⟩,by rw [hna,ju hg];rfl⟩⟩
   .obtain ⟨v,hv⟩:=lT.1 (show (Kk.get .int m0 x.2.1).isSome=true by simpa using hg);exact ⟨.inl (by rw [hv];rfl),by rw [hna,jt hv];rfl⟩
  rintro ⟨⟨v,_⟩,m1,_⟩ ⟨hv,hm1⟩;simp only at hv hm1 ⊢;subst hm1;refine cY.intro (λk=>k.2.1=A++(x.1,v,x.2.2)::L'.drop (j+1)) ⟨by omega,uz,RV _ _ _ _ hA⟩ ?_;rintro ⟨_,L2,_⟩ hL2;have hL2:L2=_:=hL2;subst hL2;have PX:=hns v hv;have Zl:A++(x.1,v,x.2.2)::L'.drop (j+1)=dg (L'.take (j+1)) []++L'.drop (j+1):=by
   rw [PX,aH];rfl
  have b1:(x.1,v,x.2.2).1.length<=16:=b1;have b2:(x.1,v,x.2.2).2.2.2.2.1.length<=4096:=b2;have b3:(x.1,v,x.2.2).2.2.2.2.2.2.1.length<=8:=b3;have b4:∀ z∈(x.1,v,x.2.2).2.2.2.2.2.2.1,z.2.1.length<=200:=b4;have ain:(A++(x.1,v,x.2.2)::L'.drop (j+1)).length=L'.length:=by rw [<-qk];simp
  generalize ((x.1,v,x.2.2):bx)=y at*;have hix:=SN (e:=noTy) A (L'.drop (j+1)) y hA;have hse:=RV A (L'.drop (j+1)) y y hA;have apM:(A++y::L'.drop (j+1)).set (j:Int).toNat (y.1,y.2.1,y.2.2.1,y.2.2.2.1,y.2.2.2.2.1,y.2.2.2.2.2)=A++y::L'.drop (j+1):=hse;have anC:(A++y::L'.drop (j+1)).set (j:Int).toNat (y.1,y.2.1,y.2.2.1,y.2.2.2.1,y.2.2.2.2.1,y.2.2.2.2.2.1,y.2.2.2.2.2.2.1,y.2.2.2.2.2.2.2)=A++y::L'.drop (j+1):=hse;simp only [hix,hse,ain];have alE:∀ Z,y.2.2.2.2.2.2.1=Z->(A++y::L'.drop (j+1)).set (j:Int).toNat (y.1,y.2.1,y.2.2.1,y.2.2.2.1,y.2.2.2.2.1,y.2.2.2.2.2.1,Z,y.2.2.2.2.2.2.2)=dg (L'.take (j+1)) []++L'.drop (j+1):=by
   rintro Z rfl;exact anC.trans Zl
  refine ⟨by omega,uz,λ_=>⟨by omega,uz,λ_=>⟨by omega,uz,λ_=>⟨by omega,λ_=>⟨by omega,λ_=>⟨by omega,by omega,uz,by omega,uz,by omega,uz,by trivial,λ_=>?_⟩⟩⟩⟩⟩⟩;generalize hX:y.2.2.2.2.2.2.1=X at*;refine ba.intro (λi=>0<=i.1.1/\i.2.1=X) (λi=>X.length - i.1.1.toNat) ⟨bp _,rfl⟩ ?_;rintro ⟨⟨k,_⟩,X',_⟩ ⟨k0,kX⟩;simp only at k0 kX ⊢;subst kX;refine aw (λhk=>?_) (λhk=>?_)
  .have hk:k< (X'.length:Int):=of_decide_eq_true hk;have Wm:=b4 _ (rO (e:=dJ) k0 hk);rw [ac5 (e:=dJ) k0 hk];exact ⟨k0,hk,k0,hk,λ_=>⟨by trivial,by omega,λ_=>⟨k0,hk,k0,hk,by unfold aI;omega,⟨by omega,by trivial⟩,by omega⟩⟩⟩
  .exact ⟨by unfold aI;omega,⟨j+1,uL,by omega,alE _ rfl,by trivial⟩,by omega⟩
 .have hc:¬(j:Int)< L'.length:=of_decide_eq_false hc;obtain rfl:j=L'.length:=by omega
  rw [ff,List.drop_length,a7];exact ⟨cr _,hq⟩
def ZS:Ct:=cD .str λa=>cD .str λb=>c0 λQ=>Q (.bool (gy a b)) []
def Rb (a b:(List (Ty.str).den)):dE:=λQ=>sE a b (aN (fY b)->br ((aF a) !=(aF b)) (bq Q) (aN (fY a)->ba (λi ag=>br (decide (i.1.1< (aF a))) (IE i.1.1 a b Q ag) (Q oZ [])) fx))
theorem WE:cM 238 ZS:=fe<| kC λa=>kC λb=>iB λQ h=>by
 refine Wp.dL jr cQ ⟨[(5,⟨[(13,.int .i64)],[]⟩)],[]⟩ Tryz.f238 (Rb a b) ?_;unfold Rb fY fx sE IE bq fW jF oZ ah aF aN;intro _ _ _ _;refine aw (λh1=>?_) (λh1=>?_)
 .rw [xU (by intro e;rw [e] at h1;simp at h1)] at h;exact h
 .have hl:a.length=b.length:=by
   have:((a.length:Int)=b.length):=by simpa using h1
   omega
  refine λ_=>ba.intro (λi=>0<=i.1.1/\i.1.1<=a.length/\gy (a.drop i.1.1.toNat) (b.drop i.1.1.toNat)=gy a b) (λi=>a.length - i.1.1.toNat) ⟨by simp,by simp,by simp⟩ ?_;rintro ⟨⟨i,_⟩,_⟩ ⟨h0,h2,h3⟩;simp only at h0 h2 h3 ⊢;refine aw (λhc=>?_) (λhc=>?_)
  .have hc:i< a.length:=by simpa using hc
   have Aa:i< b.length:=by omega
   rw [eK (e:=.str) h0 hc,eK (e:=.str) h0 Aa] at h3;simp only [gy] at h3;refine ⟨h0,hc,λ_=>⟨h0,Aa,λ_=>aw (λh4=>?_) (λh4=>?_)⟩⟩
   .have h4:kR (aB .str a i) (aB .str b i)=false:=by simpa using h4
    rw [h4,gO] at h3;rw [<-h3] at h;exact h
   .have h4:kR (aB .str a i) (aB .str b i)=true:=by simpa using h4
    rw [h4,pr] at h3;exact ⟨by unfold aI;omega,⟨by omega,by omega,h3⟩,by omega⟩
  .have hc:¬i< a.length:=by simpa using hc
   rw [eN hc,eN (by omega)] at h3;simp only [gy] at h3;rw [<-h3] at h;exact h
def NL:Ct:=cD .str λa=>cD .str λb=>c0 λQ=>Q (.bool (gy a b)) []
def abK:=jr.add WE
def EP (a b:(List (Ty.str).den)):dE:=λQ=>mQ a (aN (fY b)->Q (.v (.c (.k (.bool (gy a b))))) [])
theorem Ke:cM 223 NL:=fe<| kC λa=>kC λb=>iB λQ h=>by
 refine Wp.dL abK cQ ⟨[],[]⟩ Tryz.f223 (EP a b) ?_;unfold EP fY mQ aN;exact λ_ _=>h
def G4:Ct:=cD .str λa=>cD .str λb=>c0 λQ=>Q (.bool (decide ((a.length:Int)>b.length)&& gy (a.take b.length) b)) []
def abJ:=abK.add Ke
def Bl (a b:(List (Ty.str).den)):dE:=λQ=>sE a b (aN (fY b)->br (decide ((aF a)>(aF b))) (aN (fY b)->ah<=(aF b)/\(aF b)<=(aF a)/\Q (.v (.c (.k (.bool (gy (List.take (aA (aF b)) a) b))))) []) (bq Q))
theorem xL:cM 175 G4:=fe<| kC λa=>kC λb=>iB λQ h=>by
 refine Wp.dL abJ cQ ⟨[],[]⟩ Tryz.f175 (Bl a b) ?_;unfold Bl fY sE bq jF ah aF aN;refine λ_ _ _ _=>aw (λhc=>λ_=>?_) (λhc=>?_)
 .rw [hc,pr] at h;have hc:=of_decide_eq_true hc;exact ⟨by omega,by omega,h⟩
 .rw [hc,gO] at h;exact h
def ZY:Ct:=cS λx=>c0 λQ=>Q (.bool false) []
def abI:=abJ.add xL
def Rn (x:ByteArray):dE:=λQ=>iQ x (Q (.v (.c (.k (.bool !kR x x)))) [])
theorem WO:cM 170 ZY:=fe<| Yx λx=>iB λQ h=>by
 refine Wp.dL abI cQ ⟨[],[]⟩ Tryz.f170 (Rn x) ?_;unfold Rn iQ;rw [jA.2 rfl];exact λ_=>h
def TJ:Ct:=cS λx=>cS λy=>c0 λQ=>Q (.int (fz x y)) []
def abH:=abI.add WO
abbrev IB (y0:ByteArray) (y1:ByteArray) (y2:SV->List HO->Prop):=dC y0 (br (lD y1 y0) (y2 (.v (.c (.k (.int .i64 (-1:Int))))) []) (br (!(lD y1 y0|| kR y1 y0)) (y2 (.v (.c (.k (.int .i64 1)))) []) (y2 (.v (.c (.k bn))) [])))
def Lo (x y:ByteArray):dE:=λQ=>iQ x (IB y x Q)
theorem Q5:cM 123 TJ:=fe<| Yx λx=>Yx λy=>iB λQ h=>by
 refine Wp.dL abH cQ ⟨[],[]⟩ Tryz.f123 (Lo x y) ?_;unfold Lo IB dC iQ bn aN;refine λ_ _=>aw (λh1=>?_) (λh1=>aw (λh2=>?_) (λh2=>?_))
 .have e:fz x y= -1:=if_pos h1;rw [e] at h;exact h
 .rw [h1,jE] at h2;have e:fz x y=1:=by
   unfold fz;rw [if_neg (by show ¬lD x y=true;rw [h1];simp),if_neg (by show ¬kR x y=true;simpa using h2)]
  rw [e] at h;exact h
 .rw [h1,jE] at h2;have e:fz x y=0:=by
   unfold fz;rw [if_neg (by show ¬lD x y=true;rw [h1];simp),if_pos (by show kR x y=true;simpa using h2)]
  rw [e] at h;exact h
def TK:Ct:=cD .str λa=>cD .str λb=>c0 λQ=>Q (.int (cmpL a b)) []
def abG:=abH.add Q5
def Lp (a b:(List (Ty.str).den)):dE:=λQ=>sE a b (ba (λi ag=>br (decide (i.1.1< (aF a))) (0<=i.1.1/\i.1.1< (aF a)/\(Ty.ok Ty.str (aB Ty.str a i.1.1)->aN (fY b)->br (decide (i.1.1≥(aF b))) (Q (.v (.c (.k (.int .i64 1)))) []) (0<=i.1.1 
 /\i.1.1< (aF b)/\(Ty.ok Ty.str (aB Ty.str b i.1.1)->aI .i64 (fz (aB Ty.str a i.1.1) (aB Ty.str b i.1.1))->br (fz (aB Ty.str a i.1.1) (aB Ty.str b i.1.1) !=0) (Q (.v (.c (.k (.int .i64 (fz (aB Ty.str a i.1.1) (aB Ty.str 
 b i.1.1)))))) []) (fW i.1.1 ag))))) (aN (fY a)->aN (fY b)->br (decide ((aF a)< (aF b))) (yd Q) (oB Q))) fx)
theorem Q6:cM 71 TK:=fe<| kC λa=>kC λb=>iB λQ h=>by
 refine Wp.dL abG cQ ⟨[(3,⟨[(11,.int .i64)],[]⟩)],[]⟩ Tryz.f71 (Lp a b) ?_;unfold Lp yd fY oB fx sE fW bn ah aF aN;refine λ_ _ _=>ba.intro (λi=>0<=i.1.1/\i.1.1<=a.length/\i.1.1<=b.length/\cmpL (a.drop i.1.1.toNat) (b.drop i.1.1.toNat)=cmpL a b) (λi=>a.length - i.1.1.toNat) ⟨by simp,by simp,by simp,by simp⟩ ?_;rintro ⟨⟨i,_⟩,_⟩ ⟨h0,h1,h2,h3⟩;simp only at h0 h1 h2 h3 ⊢;rw [<-h3] at h;refine aw (λha=>?_) (λha=>λ_ _=>?_)
 .have ha:i< (a.length:Int):=of_decide_eq_true ha;refine ⟨h0,ha,λ_ _=>aw (λhb=>?_) (λhb=>?_)⟩
  .have hb:i≥(b.length:Int):=of_decide_eq_true hb;rw [eK (e:=.str) h0 ha,eN (l:=b) (by omega)] at h;exact h
  .have hb:i< (b.length:Int):=by have:=of_decide_eq_false hb;omega
   rw [eK (e:=.str) h0 ha,eK (e:=.str) h0 hb,za] at h h3;refine ⟨h0,hb,λ_ _=>aw (λhd=>?_) (λhd=>?_)⟩;rw [if_neg (by simpa using hd)] at h;exact h
   .rw [if_pos (by simpa using hd)] at h3;exact ⟨by unfold aI;omega,⟨by omega,by omega,by omega,h3⟩,by omega⟩
 .have ha:¬i< (a.length:Int):=of_decide_eq_false ha;rw [eN ha] at h;refine aw (λhb=>?_) (λhb=>?_)
  .have hb:=of_decide_eq_true hb;rw [eK (e:=.str) h0 (by omega)] at h;exact h
  .have hb:=of_decide_eq_false hb;rw [eN (l:=b) (by omega)] at h;exact h
def NQ:Ct:=cI λa=>cI λb=>cP<| cO λH Q=>match H with
 | [.cells 22 [.d (.pair (.sl .str) (.pair (.int .i64) (.pair (.int .i64) (.pair (.pair (.int .i64) (.pair (.int .i64) (.pair (.int .i64) .unit))) (.pair (.sl .u8) (.pair .str (.pair (.sl (.pair .str (.pair (.sl .u8) .unit))) (.pair .bool .unit)))))))) L]]=>(0<=a/\a< (L.length:Int))/\(0<=b/\b< (L.length:Int))/\Q (.int (cmpL (aB noTy L a).1 (aB noTy L b).1)) [.cells 22 [.d noTy L]]
 | _=>False
def abF:=abG.add Q6
abbrev gQ (y0:List bx) (y1:Int):=aB noTy y0 y1
def Fb (a b:Int) (L:List bx):dE:=λQ=>cn a b (0<=a/\a< (aF L)/\(Ty.ok noTy (gQ L a)->0<=b/\b< (aF L)/\(Ty.ok noTy (gQ L b)->aI .i64 (cmpL (gQ L a).1 (gQ L b).1)->Q (.v (.c (.k (.int .i64 (cmpL (gQ L a).1 (gQ L b).1))))) 
 [.cells 22 [Cl.d noTy L]])))
theorem Km:cM 177 NQ:=fe<| nK λa=>nK λb=>rK<| rM λH Q h=>by
 split at h;rotate_left;cases h;rename_i L;refine Wp.dL abF cQ ⟨[],[]⟩ Tryz.f177 (Fb a b L) ?_;unfold Fb gQ cn aF;obtain ⟨⟨a0,a1⟩,⟨b0,b1⟩,h⟩:=h;exact λ_ _=>⟨a0,a1,λ_=>⟨b0,b1,λ_ _=>h⟩⟩
def Dt:Ct
 | [.v (.c cx),.v (.c (.k (.int .i64 a))),.v (.c (.k (.int .i64 b))),.v (.c (.fn 177 [.p 0 0]))],[.cells 22 [.d (.pair (.sl .str) (.pair (.int .i64) (.pair (.int .i64) (.pair (.pair (.int .i64) (.pair (.int .i64) (.pair (.int .i64) .unit))) (.pair (.sl .u8) (.pair .str (.pair (.sl (.pair .str (.pair (.sl .u8) .unit))) (.pair .bool .unit)))))))) L]],Q=>(match (Ty.sl (Ty.int .i64)).of [cx] with
  | some (x,[])=>nE L x/\(0<=a/\a<=x.length/\b<=x.length)/\x.length<=100000/\Q .tH [.cells 22 [.d noTy L]]
  | _=>False)
 | _,_,_=>False
def abE:=abF.add Km
abbrev R9 (y0) (y1:List ((Ty.int .i64)).den):=aI .i64 (y0 - 1)/\aI .i64 (y0 - 1)/\0<=y0 - 1/\y0 - 1< (aF y1)/\(Ty.ok bw (aB bw y1 (y0 - 1))->0<=y0/\y0< (aF y1)/\(Ty.ok bw (aB bw y1 y0)->0<=y0/\y0< (aF y1)/\False))
abbrev vo (y0:SV->List HO->Prop) (y1:List bx):=y0 (SV.cZ []) [.cells 22 [Cl.d noTy y1]]
abbrev sk (y0:List bx) (y1:List ((Ty.int .i64)).den) (y2:Int):=aB noTy y0 (aB bw y1 y2)
abbrev Cc (y0:List ((Ty.int .i64)).den) (y1:Int) (y2:List bx):=0<=aB bw y0 y1/\aB bw y0 y1< (aF y2)
def Fa (x:(List ((Ty.int .i64)).den)) (a b:Int) (L:List bx):dE:=λQ=>ik x (cn a b (cG a (ba (λi ag=>br (decide (i.1.1< b)) (ba (λcu ag_1=>br (decide (cu.1.1>a)) (0<=cu.1.1/\cu.1.1< (aF x)/\(yy x cu.1.1 (Ty.ok bw (lH x cu.1.1)->(Cc x 
 cu.1.1 L)/\(0<=aB bw x (cu.1.1 - 1)/\aB bw x (cu.1.1 - 1)< (aF L))/\L=L/\(aI .i64 (cmpL (sk L x cu.1.1).1 (aB noTy L (lH x cu.1.1)).1)->br (decide (cmpL (sk L x cu.1.1).1 (aB noTy L (lH x 
 cu.1.1)).1< 0)) (R9 cu.1.1 x) (fW i.1.1 ag))))) (fW i.1.1 ag)) i) (vo Q L)) ((a+1,()),()))))
theorem Kl:cM 239 Dt:=by
 intro args H Q h;unfold Dt at h;split at h;rotate_left;cases h;rename_i cx a b L;split at h;rotate_left;cases h;rename_i x hx;refine Wp.said (args':=[.c (.d (Ty.int .i64) x),.int a,.int b,.c (.fn 177 [.p 0 0])]) (λE g=>bE.dd (dR hx) (bE.dd (λ_ h=>h) (bE.dd (λ_ h=>h) (bE.dd (λ_ h=>h) (λ_ h=>h))))) ?_;clear hx;refine Wp.dL abE cQ ⟨[(2,⟨[(8,.int .i64)],[]⟩),(5,⟨[(9,.int .i64)],[]⟩)],[]⟩ Tryz.f239 (Fa x a b L) (ro:=[177]) ?_;unfold Fa Cc sk lH vo yy ik cn cG R9 fW aF bw;obtain ⟨hs,⟨a0,a1,b1⟩,hl,h⟩:=h;refine λ_ _ _=>⟨by unfold aI;omega,ba.intro (λi=>a+1<=i.1.1) (λi=>(b - i.1.1).toNat) (bp _) ?_⟩;rintro ⟨⟨i,_⟩,_⟩ hi;simp only at hi ⊢;refine aw (λhc=>?_) (λ_=>h);have hc:i< b:=of_decide_eq_true hc;refine ba.intro (λj=>j.1.1=i) (λj=>0) rfl ?_;rintro ⟨⟨j,_⟩,_⟩ hj;simp only at hj ⊢;subst hj;have p1:=hs.at (i:=j) (by omega) (by omega);have p2:=hs.at (i:=j - 1) (by omega) (by omega);have p3:=hs.ord (j - 1) j (by omega) (by omega) (by omega);refine aw (λ_=>⟨by omega,by omega,λ_=>⟨by unfold aI;omega,by omega,by omega,λ_=>⟨p1,p2,by trivial,λ_=>aw (λq=>absurd (of_decide_eq_true q) p3) (λ_=>⟨by unfold aI;omega,by omega,by omega⟩)⟩⟩⟩) (λ_=>⟨by unfold aI;omega,by omega,by omega⟩)
def mK (n:Nat):Ct
 | [.v (.c cx),.v (.c (.k (.int .i64 a))),.v (.c (.k (.int .i64 m))),.v (.c (.k (.int .i64 b))),.v (.c (.fn 177 [.p 0 0]))],[.cells 22 [.d (.pair (.sl .str) (.pair (.int .i64) (.pair (.int .i64) (.pair (.pair (.int .i64) (.pair (.int .i64) (.pair (.int .i64) .unit))) (.pair (.sl .u8) (.pair .str (.pair (.sl (.pair .str (.pair (.sl .u8) .unit))) (.pair .bool .unit)))))))) L]],Q=>(match (Ty.sl (Ty.int .i64)).of [cx] with
  | some (x,[])=>nE L x/\(0<=a/\a< m/\m< b/\b<=x.length)/\b - a<=n/\x.length<=100000/\Q .tH [.cells 22 [.d noTy L]]
  | _=>False)
 | _,_,_=>False
def abD (n:Nat):Vx:= {P:=ck,ct:=[(240,(mK n)),(239,Dt),(177,NQ),(71,TK),(123,TJ),(170,ZY),(175,G4),(223,NL),(238,ZS)],ty:=cQ,hold:=[],ro:=[177,239,240]}
theorem Wg (n:Nat) (hn:cM 240 (mK n)):iG Inv ck (abD n).ct:=iG.cons hn (iG.cons Kl (iG.cons Km (iG.cons Q6 (iG.cons Q5 (iG.cons WO (iG.cons xL (iG.cons Ke (iG.cons WE (iG.nil _ _)))))))))
abbrev adj (y0:Int) (y1:Int) (y2:Int) (y3) (y4:List bx) (y5:List ((Ty.int .i64)).den) (y6:Nat) (y7:SV->List HO->Prop):=br (decide (iM (pX (y0+y1))+y2 - y3< y1)) (nE y4 y5/\(0<=iM (pX (y0+y1))/\iM (pX (y0+y1))< iM (pX (y0+y1))+y2 - y3/\iM (pX (y0+y1))+y2 - y3< y1/\y1<=(aF y5))/\y1 - iM (pX (y0+y1))<=(↑y6:Int)/\List.length y5<=100000/\y4=y4/\y7 (SV.cZ []) [.cells 22 [Cl.d noTy y4]]) (y7 (SV.cZ []) [.cells 22 [Cl.d noTy y4]])
abbrev Yf (y0:Int) (y1) (y2:Int) (y3:List bx) (y4:List ((Ty.int .i64)).den) (y5:Nat) (y6:Int) (y7:SV->List HO->Prop):=br (decide (y0< y1)) (br (decide (y1< iM (pX (y0+y2)))) (nE y3 y4/\(0<=y0/\y0< y1/\y1< iM (pX (y0+y2))/\iM (pX (y0+y2))<=(aF y4))/\iM (pX (y0+y2)) - y0<=(↑y5:Int)/\List.length y4<=100000/\y3=y3/\br (decide (iM (pX (y0+y2))< iM (pX (y0+y2))+y6 - y1)) (adj y0 y2 y6 y1 y3 y4 y5 y7) (y7 (SV.cZ []) [.cells 22 [Cl.d noTy y3]])) (br (decide (iM (pX (y0+y2))< iM (pX (y0+y2))+y6 - y1)) (adj y0 y2 y6 y1 y3 y4 y5 y7) (y7 (SV.cZ []) [.cells 22 [Cl.d noTy y3]]))) (br (decide (iM (pX (y0+y2))< iM (pX (y0+y2))+y6 - y1)) (adj y0 y2 y6 y1 y3 y4 y5 y7) (y7 (SV.cZ []) [.cells 22 [Cl.d noTy y3]]))
abbrev iY (y0:Int) (y1:Int):=pX (y0+y1)
abbrev sH {A3:Type} (y0) (y1) (y2:_->Prop) (y3:A3):=aI .i64 (iM (iY y0 y1)+1)/\y2 ((iM (iY y0 y1)+1,y3),())
abbrev kW (y0:Int) (y1:Int):=iM (iY y0 y1)
abbrev qO (y0:Int) (y1:Int) (R:Prop):=aI .u64 (iY y0 y1)->aI .i64 (kW y0 y1)->R
abbrev qN (y0:Int) (y1:Int) (R:Prop):=aI .u64 (IntKind.wrap .u64 (y0+y1))->ah<=a8/\R
abbrev vu (y0:Int) (y1:Int) (y2:Int) (y3) (y4):=iM (iY y0 y1)+y2 - 1 - iM (iY y3 y4)
abbrev yx (y0) (y1) (y2:List ((Ty.int .i64)).den) (R:Prop):=0<=iM (iY y0 y1)/\iM (iY y0 y1)< (aF y2)/\R
abbrev Iv (y0:List ((Ty.int .i64)).den) (y1) (y2) (y3:List bx):=0<=aB bw y0 (kW y1 y2)/\aB bw y0 (kW y1 y2)< (aF y3)
abbrev vp (y0:List bx) (y1:List ((Ty.int .i64)).den) (y2) (y3):=aB noTy y0 (aB bw y1 (kW y2 y3))
abbrev sw (y0:_->Prop) (y1) (y2):=y0 ((y1,iM (iY y1 y2),()),())
def E8 (n:Nat) (x:(List ((Ty.int .i64)).den)) (a m b:Int) (L:List bx):dE:=λQ=>ik x (cU a m b (aI .i64 (m - a)/\br (m - a==1) (ba (λi ag=>br (decide (i.1.1< i.1.2.1)) (aI .i64 (i.1.1+i.1.2.1)/\(qN i.1.1 i.1.2.1 (qO i.1.1 i.1.2.1 (yx i.1.1 i.1.2.1 x (Ty.ok bw 
 (aB bw x (kW i.1.1 i.1.2.1))->0<=a/\a< (aF x)/\(Ty.ok bw (aB bw x a)->(Iv x i.1.1 i.1.2.1 L)/\(Cc x a L)/\L=L/\(aI .i64 (cmpL (vp L x i.1.1 i.1.2.1).1 (sk L x a).1)->br (decide (cmpL (vp L x 
 i.1.1 i.1.2.1).1 (sk L x a).1< 0)) (sH i.1.1 i.1.2.1 ag i.1.2) (sw ag i.1.1 i.1.2.1)))))))) (ba (λcu ag=>aI .i64 (i.1.1 - 1)/\br (decide (cu.1.1< i.1.1 - 1)) (cG cu.1.1 (cG cu.1.1 (0<=cu.1.1+1/\cu.1.1 
 +1< (aF x)/\(Ty.ok bw (aB bw x (cu.1.1+1))->0<=cu.1.1/\cu.1.1< (aF x)/\(Ty.ok bw (aB bw x cu.1.1)->0<=cu.1.1/\cu.1.1< (aF x)/\False))))) (vo Q L)) ((a,()),()))) ((m,b,()),())) (aI .i64 (b - m) 
 /\br (b - m==1) (ba (λi ag=>br (decide (i.1.1< i.1.2.1)) (aI .i64 (i.1.1+i.1.2.1)/\(qN i.1.1 i.1.2.1 (qO i.1.1 i.1.2.1 (0<=m/\m< (aF x)/\(Ty.ok bw (aB bw x m)->yx i.1.1 i.1.2.1 x (Ty.ok bw (aB bw 
 x (kW i.1.1 i.1.2.1))->(Cc x m L)/\(Iv x i.1.1 i.1.2.1 L)/\L=L/\(aI .i64 (cmpL (sk L x m).1 (vp L x i.1.1 i.1.2.1).1)->br (!decide (cmpL (sk L x m).1 (vp L x i.1.1 i.1.2.1).1< 0)) (sH i.1.1 i.1.2.1 
 ag i.1.2) (sw ag i.1.1 i.1.2.1)))))))) (ba (λcu ag=>br (decide (cu.1.1>i.1.1)) (R9 cu.1.1 x) (vo Q L)) ((m,()),()))) ((a,m,()),())) (aI .i64 (a+b)/\(qN a b (qO a b (aI .i64 (iM (iY a b)+m)/\ 
 cY (λk=>br (decide (m>iM (iY a b))) (aI .i64 (iM (iY a b)+m - b)/\k ((iM (iY a b)+m - b,iM (iY a b),()),())) (k ((a,m,()),()))) λi=>aI .i64 (iM (iY a b)+m - 1)/\ba (λi ag=>br 
 (decide (i.1.1< i.1.2.1)) (aI .i64 (i.1.1+i.1.2.1)/\(qN i.1.1 i.1.2.1 (qO i.1.1 i.1.2.1 (aI .i64 (vu a b m i.1.1 i.1.2.1)/\0<=iM (iY a b)+m - 1 - iM (iY i.1.1 i.1.2.1)/\iM (iY a b)+m - 1 - iM (iY 
 i.1.1 i.1.2.1)< (aF x)/\(Ty.ok bw (aB bw x (vu a b m i.1.1 i.1.2.1))->yx i.1.1 i.1.2.1 x (Ty.ok bw (aB bw x (kW i.1.1 i.1.2.1))->(0<=aB bw x (vu a b m i.1.1 i.1.2.1)/\aB bw x (vu a b m i.1.1 
 i.1.2.1)< (aF L))/\(Iv x i.1.1 i.1.2.1 L)/\L=L/\(aI .i64 (cmpL (aB noTy L (aB bw x (vu a b m i.1.1 i.1.2.1))).1 (vp L x i.1.1 i.1.2.1).1)->br (!decide (cmpL (aB noTy L (aB bw x (vu a b m i.1.1 i.1.2.1))).1 
 (vp L x i.1.1 i.1.2.1).1< 0)) (sH i.1.1 i.1.2.1 ag i.1.2) (sw ag i.1.1 i.1.2.1)))))))) (aI .i64 (iM (iY a b)+m - i.1.1)/\br (decide (i.1.1< m)) (br (decide (m< iM (iY a b)+m - i.1.1)) False (Yf a i.1.1 b L 
 x n m Q)) (Yf a i.1.1 b L x n m Q))) i)))))))
theorem OA (n:Nat) (hn:cM 240 (mK n)):∀ args H Q,mK (n+1) args H Q->Wp Inv ck 240 args H Q:=by
 intro args H Q h;unfold mK at h;split at h;rotate_left;cases h;rename_i cx a m b L;split at h;rotate_left;cases h;rename_i x hx;refine Wp.said (args':=[.c (.d (Ty.int .i64) x),.int a,.int m,.int b,.c (.fn 177 [.p 0 0])]) (λE g=>bE.dd (dR hx) (bE.dd (λ_ h=>h) (bE.dd (λ_ h=>h) (bE.dd (λ_ h=>h) (bE.dd (λ_ h=>h) (λ_ h=>h)))))) ?_;clear hx;refine Wp.Qe (X:=(abD n)) (Wg n hn) ⟨[(4,⟨[(10,.int .i64),(11,.int .i64)],[]⟩),(10,⟨[(13,.int .i64)],[]⟩),(16,⟨[(14,.int .i64),(15,.int .i64)],[]⟩),(22,⟨[(17,.int .i64)],[]⟩),(34,⟨[(20,.int .i64),(21,.int .i64)],[]⟩)],[(33,⟨[(20,.int .i64),(21,.int .i64)],[]⟩)]⟩ (fn:=Tryz.f240) (V:=E8 n x a m b L) (by kernel_rfl) (λ_=>by kernel_rfl) ?_;unfold E8 Cc sk vo sw vp Iv yx vu qN qO kW ik sH cG R9 iY Yf cU adj ah a8 aF pX bw iM;obtain ⟨hs,⟨a0,a1,a2,a3⟩,hn,hl,h⟩:=h;have M:=λz:Int=>PB (n:=z);refine λ_ _ _ _=>⟨by unfold aI;omega,aw (λhc=>?_) (λhc=>⟨by unfold aI;omega,aw (λhd=>?_) (λhd=>?_)⟩)⟩
 .have hc:m - a=1:=eq_of_beq hc;refine ba.intro (λi=>i.1.1=m/\m<=i.1.2.1/\i.1.2.1<=b) (λi=>(i.1.2.1 - m).toNat) ⟨rfl,by show m<=b;omega,bp _⟩ ?_;rintro ⟨⟨i,j,_⟩,_⟩ ⟨h1,h2,h3⟩;simp only at h1 h2 h3 ⊢;subst h1;refine aw (λhq=>?_) (λhq=>?_)
  .have hq:i< j:=of_decide_eq_true hq;refine ⟨by unfold aI;omega,λ_=>⟨by decide,λ_ _=>?_⟩⟩;rw [M (i+j) (by omega) (by omega)];have p1:=hs.at (i:=(i+j) / 2) (by omega) (by omega);have p2:=hs.at (i:=a) (by omega) (by omega);have p3:=hs.ord a ((i+j) / 2) (by omega) (by omega) (by omega);exact ⟨by omega,by omega,λ_=>⟨by omega,by omega,λ_=>⟨p1,p2,by trivial,λ_=>aw (λq=>absurd (of_decide_eq_true q) p3) (λ_=>⟨⟨by trivial,by omega,by omega⟩,by omega⟩)⟩⟩⟩
  .refine ba.intro (λk=>k.1.1=a) (λ_=>0) rfl ?_;rintro ⟨⟨k,_⟩,_⟩ hk;simp only at hk ⊢;subst hk;exact ⟨by unfold aI;omega,aw (λq=>by have:=of_decide_eq_true q;omega) (λ_=>h)⟩
 .have hd:b - m=1:=eq_of_beq hd;refine ba.intro (λi=>i.1.2.1=m/\a<=i.1.1/\i.1.1<=m) (λi=>(m - i.1.1).toNat) ⟨rfl,bp _,by show a<=m;omega⟩ ?_;rintro ⟨⟨i,j,_⟩,_⟩ ⟨h1,h2,h3⟩;simp only at h1 h2 h3 ⊢;subst h1;refine aw (λhq=>?_) (λhq=>?_)
  .have hq:i< j:=of_decide_eq_true hq;refine ⟨by unfold aI;omega,λ_=>⟨by decide,λ_ _=>?_⟩⟩;rw [M (i+j) (by omega) (by omega)];have p1:=hs.at (i:=(i+j) / 2) (by omega) (by omega);have p2:=hs.at (i:=j) (by omega) (by omega);have p3:=hs.ord ((i+j) / 2) j (by omega) (by omega) (by omega);refine ⟨by omega,by omega,λ_=>⟨by omega,by omega,λ_=>⟨p2,p1,by trivial,λ_=>aw (λ_=>⟨by unfold aI;omega,⟨by trivial,by omega,by omega⟩,by omega⟩) (λq=>?_)⟩⟩⟩;rw [decide_eq_false p3] at q;cases q
  .have hq:¬i< j:=of_decide_eq_false hq;obtain rfl:i=j:=by omega
   refine ba.intro (λk=>k.1.1=i) (λ_=>0) rfl ?_;rintro ⟨⟨k,_⟩,_⟩ hk;simp only at hk ⊢;subst hk;exact aw (λq=>by have:=of_decide_eq_true q;omega) (λ_=>h)
 have hc:¬m - a=1:=by simpa using hc
 have hd:¬b - m=1:=by simpa using hd
 refine ⟨by unfold aI;omega,λ_=>⟨by decide,λ_ _=>?_⟩⟩;rw [M (a+b) (by omega) (by omega)];obtain ⟨d,hdd⟩:∃ d,(a+b) / 2=d:=⟨_,rfl⟩;have hdr:a< d/\d< b:=by omega
 rw [hdd];refine ⟨by unfold aI;omega,cY.intro (λk=>(d< m/\k.1.1=d+m - b/\k.1.2.1=d)\/(m<=d/\k.1.1=a/\k.1.2.1=m)) (aw (λhq=>⟨by unfold aI;omega,.inl ⟨of_decide_eq_true hq,rfl,rfl⟩⟩) (λhq=>.inr ⟨by have:=of_decide_eq_false hq;omega,rfl,rfl⟩)) ?_⟩;rintro ⟨⟨s0,r0,_⟩,_⟩ hk;simp only at hk ⊢;have hr:r0=min d m/\a<=s0/\s0<=r0:=by omega
 refine ⟨by unfold aI;omega,ba.intro (λi=>i.1.2.1=r0/\s0<=i.1.1/\i.1.1<=r0) (λi=>(r0 - i.1.1).toNat) ⟨rfl,bp _,hr.2.2⟩ ?_⟩;rintro ⟨⟨s,r,_⟩,_⟩ ⟨h1,h2,h3⟩;simp only at h1 h2 h3 ⊢;subst h1;refine aw (λhq=>?_) (λhq=>?_)
 .have hq:s< r:=of_decide_eq_true hq;refine ⟨by unfold aI;omega,λ_=>⟨by decide,λ_ _=>?_⟩⟩;rw [M (s+r) (by omega) (by omega)];have p1:=hs.at (i:=(s+r) / 2) (by omega) (by omega);have p2:=hs.at (i:=d+m - 1 - (s+r) / 2) (by omega) (by omega);have p3:=hs.ord ((s+r) / 2) (d+m - 1 - (s+r) / 2) (by omega) (by omega) (by omega);refine ⟨by unfold aI;omega,by omega,by omega,λ_=>⟨by omega,by omega,λ_=>⟨p2,p1,by trivial,λ_=>aw (λ_=>⟨by unfold aI;omega,⟨by trivial,by omega,by omega⟩,by omega⟩) (λq=>?_)⟩⟩⟩;rw [decide_eq_false p3] at q;cases q
 .have hq:¬s< r:=of_decide_eq_false hq;obtain rfl:s=r:=by omega
  have go1:∀ hh:s< d,br (decide (a< s)) (br (decide (s< d)) True True) True:=λ_=>aw (λ_=>aw (λ_=>trivial) (λ_=>trivial)) (λ_=>trivial);refine ⟨by unfold aI;omega,?_⟩
  repeat' (first| exact h| exact hs| exact rfl| refine aw (λq=>?_) (λq=>?_)| apply And.intro| intro _)
  all_goals (simp only [decide_eq_true_eq,decide_eq_false_iff_not] at*)
  all_goals omega
theorem Kj:∀ (n:Nat) args H Q,mK n args H Q->Wp Inv ck 240 args H Q
 | 0=>by
  intro args H Q h;unfold mK at h;split at h
  .split at h
   .obtain ⟨_,⟨_,h1,h2,_⟩,h3,_⟩:=h;omega
   .cases h
  .cases h
 | n+1=>OA n (Kj n)
def VV:Ct:=mK 100000
theorem Uo:cM 240 VV:=Kj 100000
def NP:Ct
 | [.v (.c cx),.v (.c (.k (.int .i64 m))),.v (.c (.fn 177 [.p 0 0]))],[.cells 22 [.d (.pair (.sl .str) (.pair (.int .i64) (.pair (.int .i64) (.pair (.pair (.int .i64) (.pair (.int .i64) (.pair (.int .i64) .unit))) (.pair (.sl .u8) (.pair .str (.pair (.sl (.pair .str (.pair (.sl .u8) .unit))) (.pair .bool .unit)))))))) L]],Q=>(match (Ty.sl (Ty.int .i64)).of [cx] with
  | some (x,[])=>nE L x/\m=x.length/\x.length<=100000/\Q .tH [.cells 22 [.d noTy L]]
  | _=>False)
 | _,_,_=>False
def abC:=(abE.add Kl).add Uo
abbrev Pd (y0:List bx) (y1:List ((Ty.int .i64)).den) (y2) (y3) (y4:Int) (R:Prop):=nE y0 y1/\(0<=y2/\y2< y2+y3/\y2+y3< y4/\y4<=(aF y1))/\y4 - y2<=(↑(100000:Nat):Int)/\List.length y1<=100000/\y0=y0/\R
def E9 (x:(List ((Ty.int .i64)).den)) (m:Int) (L:List bx):dE:=λQ=>ik x (aI .i64 m->ba (λi ag=>br (decide (i.1.2.1<=m)) (nE L x/\(0<=i.1.1/\i.1.1<=(aF x)/\i.1.2.1<=(aF x))/\List.length x<=100000/\L=L/\aI .i64 (i.1.2.1+20)/\ag ((i.1.2.1,i.1.2.1+20, 
 ()),())) (nE L x/\(0<=i.1.1/\i.1.1<=(aF x)/\m<=(aF x))/\List.length x<=100000/\L=L/\ba (λi ag=>br (decide (i.1.1< m)) (aI .i64 (du*i.1.1)/\ba (λcu ag_1=>br (decide (cu.1.2.1<=m)) (aI .i64 
 (cu.1.1+i.1.1)/\Pd L x cu.1.1 i.1.1 cu.1.2.1 (aI .i64 (du*i.1.1)/\aI .i64 (cu.1.2.1+2*i.1.1)/\ag_1 ((cu.1.2.1,cu.1.2.1+2*i.1.1,()),()))) (aI .i64 (cu.1.1+i.1.1)/\br (decide (cu.1.1+i.1.1< m)) 
 (Pd L x cu.1.1 i.1.1 m (aI .i64 (i.1.1*2)/\ag ((i.1.1*2,()),()))) (aI .i64 (i.1.1*2)/\ag ((i.1.1*2,()),())))) ((ah,du*i.1.1,()),())) (vo Q L)) (((20:Int),()),()))) ((ah,(20:Int),()),()))
theorem WY:cM 224 NP:=by
 intro args H Q h;unfold NP at h;split at h;rotate_left;cases h;rename_i cx m L;split at h;rotate_left;cases h;rename_i x hx;refine Wp.said (args':=[.c (.d (Ty.int .i64) x),.int m,.c (.fn 177 [.p 0 0])]) (λE g=>bE.dd (dR hx) (bE.dd (λ_ h=>h) (bE.dd (λ_ h=>h) (λ_ h=>h)))) ?_;clear hx;refine Wp.dL abC cQ ⟨[(3,⟨[(7,.int .i64),(8,.int .i64)],[]⟩),(8,⟨[(6,.int .i64)],[]⟩),(10,⟨[(7,.int .i64),(8,.int .i64)],[]⟩)],[]⟩ Tryz.f224 (E9 x m L) (ro:=[177,239,240]) ?_;unfold E9 vo Pd ik ah du aF;obtain ⟨hs,rfl,hl,h⟩:=h;refine λ_ _=>ba.intro (λi=>0<=i.1.1/\i.1.1<=x.length/\i.1.2.1=i.1.1+20) (λi=>(x.length - i.1.1).toNat) ⟨bp _,by show (0:Int)<=_;omega,rfl⟩ ?_;rintro ⟨⟨a,b,_⟩,_⟩ ⟨h1,h2,h3⟩;simp only at h1 h2 h3 ⊢;subst h3;refine aw (λhc=>?_) (λhc=>?_)
 .have hc:=of_decide_eq_true hc;exact ⟨hs,⟨by omega,by omega,by omega⟩,hl,by trivial,by unfold aI;omega,⟨by omega,by omega,by trivial⟩,by omega⟩
 refine ⟨hs,⟨by omega,by omega,by omega⟩,hl,by trivial,?_⟩;clear h1 h2 hc;refine ba.intro (λi=>20<=i.1.1/\i.1.1<=2*(x.length:Int)+20) (λi=>(x.length - i.1.1).toNat) ⟨bp _,by show (20:Int)<=_;omega⟩ ?_;rintro ⟨⟨z,_⟩,_⟩ ⟨h1,h2⟩;simp only at h1 h2 ⊢;refine aw (λhc=>?_) (λ_=>h);have hc:=of_decide_eq_true hc;refine ⟨by unfold aI;omega,ba.intro (λi=>0<=i.1.1/\i.1.1<=x.length/\i.1.2.1=i.1.1+2*z) (λi=>(x.length - i.1.1).toNat) ⟨bp _,by show (0:Int)<=_;omega,by show 2*z=0+2*z;omega⟩ ?_⟩;rintro ⟨⟨a,b,_⟩,_⟩ ⟨k1,k2,k3⟩;simp only at k1 k2 k3 ⊢;subst k3;refine aw (λhd=>?_) (λhd=>⟨by unfold aI;omega,aw (λhe=>?_) (λhe=>?_)⟩)
 .have hd:=of_decide_eq_true hd;exact ⟨by unfold aI;omega,hs,⟨by omega,by omega,by omega,by omega⟩,by omega,hl,by trivial,by unfold aI;omega,by unfold aI;omega,⟨by omega,by omega,by trivial⟩,by omega⟩
 .have he:=of_decide_eq_true he;exact ⟨hs,⟨by omega,by omega,by omega,by omega⟩,by omega,hl,by trivial,by unfold aI;omega,⟨by omega,by omega⟩,by omega⟩
 .exact ⟨by unfold aI;omega,⟨by omega,by omega⟩,by omega⟩
def Ha:Ct
 | [.v (.c cx),.v (.c (.fn 177 [.p 0 0]))],[.cells 22 [.d (.pair (.sl .str) (.pair (.int .i64) (.pair (.int .i64) (.pair (.pair (.int .i64) (.pair (.int .i64) (.pair (.int .i64) .unit))) (.pair (.sl .u8) (.pair .str (.pair (.sl (.pair .str (.pair (.sl .u8) .unit))) (.pair .bool .unit)))))))) L]],Q=>(match (Ty.sl (Ty.int .i64)).of [cx] with
  | some (x,[])=>nE L x/\x.length<=100000/\Q .tH [.cells 22 [.d noTy L]]
  | _=>False)
 | _,_,_=>False
def ajU:=abC.add WY
def Br (x:(List ((Ty.int .i64)).den)) (L:List bx):dE:=λQ=>ik x (aN (List.length x)->nE L x/\(aF x)=(aF x)/\List.length x<=100000/\Q (SV.cZ []) [.cells 22 [Cl.d noTy L]])
theorem Up:cM 176 Ha:=by
 intro args H Q h;unfold Ha at h;split at h;rotate_left;cases h;rename_i cx L;split at h;rotate_left;cases h;rename_i x hx;refine Wp.said (args':=[.c (.d (Ty.int .i64) x),.c (.fn 177 [.p 0 0])]) (λE g=>bE.dd (dR hx) (bE.dd (λ_ h=>h) (λ_ h=>h))) ?_;clear hx;refine Wp.dL ajU cQ ⟨[],[]⟩ Tryz.f176 (Br x L) (ro:=[177,239,240]) ?_;unfold Br ik aF aN;exact λ_ _=>⟨h.1,by trivial,h.2.1,h.2.2⟩
def Z5:Ct:=cD noTy λl=>cD .str λp=>c0 λQ=>(l.length<=1100/\p.length<=1000/\l.Pairwise λa b=>cmpL a.1 b.1< 0)/\Q (.c (.d (.int .i64) (bX p l 0))) []
def ajT:=(jr.add xL).add Up
abbrev su {A2:Type} (y0) (y1:_->Prop) (y2:A2):=cG y0 (y1 ((y0+1,y2),()))
def Rt (l:(List (noTy).den)) (p:(List (Ty.str).den)):dE:=λQ=>gn l (aN (fY p)->aN (List.length l)->ba (λi ag=>br (iO i.1.1 l) (iP i.1.1 l (wD l i.1.1 (aN (fY p)->aI .i64 ((aF p)+1)/\br ((jo l i.1.1)==(aF p)+1) (br (decide ((jo l 
 i.1.1)>(aF p))&& gy (List.take (fY p) (dh l i.1.1).1) p) (zL i.1.2.1 i.1.1 (cG i.1.1 (ag ((i.1.1+1,i.1.2.1++ [i.1.1],()),())))) (su i.1.1 ag i.1.2)) (su i.1.1 ag i.1.2)))) (nE l i.1.2.1/\List.length 
 i.1.2.1<=100000/\Q gd [HO.held (3:TypeId) bw i.1.2.1])) ((ah,[],()),()))
theorem ahf:cM 129 Z5:=fe<| kC λl=>kC λp=>iB λQ h=>by
 refine Wp.lY [some (.sl (.int .i64))] [0] ?_;refine Wp.dL ajT cQ ⟨[(4,⟨[(10,.int .i64),(5,.own 3 (.int .i64))],[]⟩)],[]⟩ Tryz.f129 (Rt l p) (hold:=[176]) ?_;unfold Rt fY su iO iP gd dh wD cG zL gn jo cC ah aF aN bw;obtain ⟨⟨hl,hp,hs⟩,h⟩:=h;refine λ_ _ _=>ba.intro (λi=>0<=i.1.1/\i.1.1<=l.length/\i.1.2.1++bX p (l.drop i.1.1.toNat) i.1.1=bX p l 0) (λi=>l.length - i.1.1.toNat) ⟨by simp,by simp,by simp⟩ ?_;rintro ⟨⟨i,o,_⟩,_⟩ ⟨h0,h1,h2⟩;simp only at h0 h1 h2 ⊢;have qk:o.length<=1100:=by
  have e1:=congrArg List.length h2;have e2:=jh p (L:=l) (k:=0);rw [af] at e1;omega
 refine aw (λhc=>?_) (λhc=>?_)
 .have hc:=of_decide_eq_true hc;rw [ixR (e:=noTy) h0 hc,jS] at h2;generalize aB noTy l i=x at*;have no:qg p x=false->(0<=i+1/\i+1<=(l.length:Int)/\o++bX p (l.drop (i+1).toNat) (i+1)=bX p l 0)/\l.length - (i+1).toNat< l.length - i.toNat:=λe=>by
   rw [e] at h2;exact ⟨⟨by omega,by omega,h2⟩,by omega⟩
  refine ⟨h0,hc,λ_ _ _=>⟨by unfold aI;omega,aw (λe1=>aw (λe2=>?_) (λe2=>?_)) (λe1=>?_)⟩⟩
  .have e:qg p x=true:=by unfold qg;rw [e1,e2];rfl
   rw [e,if_pos rfl] at h2;exact ⟨by simp only [ay];omega,by simp only [ay];omega,by unfold aI;omega,⟨by omega,by omega,by rw [aH];exact h2⟩,by omega⟩
  .exact ⟨by unfold aI;omega,no (by unfold qg;rw [e1,e2];rfl)⟩
  .exact ⟨by unfold aI;omega,no (by unfold qg;rw [e1];rfl)⟩
 .have hc:=of_decide_eq_false hc;rw [eN hc] at h2;have h2:o=bX p l 0:=by rw [<-h2];simp [bX]
  subst h2;exact ⟨YV hs p,by omega,⟨cr _,h⟩⟩
def Tx:Ct:=cD noTy λl=>cI λi=>c0 λQ=>(0<=i/\i< (l.length:Int))/\l.length<=1100/\Q (.int (qd l (aB noTy l i).2.1:Nat)) []
def K0 (l:(List (noTy).den)) (i:Int):dE:=λQ=>gn l (aI .i64 i->br (dj i) (oB Q) (aN (List.length l)->br (decide (i≥(aF l))) (oB Q) (aN (List.length l)->ba (λcu ag=>br (iO cu.1.1 l) (iP cu.1.1 l (Ty.ok noTy (dh l cu.1.1)-> 
 0<=i/\i< (aF l)/\(Ty.ok noTy (aB noTy l i)->br ((dh l cu.1.1).2.1==(aB noTy l i).2.1) (cG cu.1.2.1 (cG cu.1.1 (ag ((cu.1.1+1,cu.1.2.1+1,()),())))) (su cu.1.1 ag cu.1.2)))) (Q (gZ cu.1.2.1) [])) 
 ((ah,ah,()),()))))
theorem acC:cM 81 Tx:=fe<| kC λl=>nK λi=>iB λQ h=>by
 refine Wp.dL jr cQ ⟨[(6,⟨[(18,.int .i64),(5,.int .i64)],[]⟩)],[]⟩ Tryz.f81 (K0 l i) ?_;unfold K0 oB su iO iP gZ dh dj cG gn bn aE ah aF aN;obtain ⟨⟨i0,i1⟩,hl,h⟩:=h;refine λ_ _=>aw (λq=>by have:=of_decide_eq_true q;omega) (λ_=>λ_=>aw (λq=>by have:=of_decide_eq_true q;omega) (λ_=>λ_=>?_));refine ba.intro (λk=>0<=k.1.1/\k.1.1<=l.length/\0<=k.1.2.1/\k.1.2.1+((l.drop k.1.1.toNat).countP (rQ (aB noTy l i).2.1):Nat)=(qd l (aB noTy l i).2.1:Nat)) (λk=>l.length - k.1.1.toNat) ⟨by simp,by simp,bp _,by simp [qd]⟩ ?_;rintro ⟨⟨k,c,_⟩,_⟩ ⟨k0,k1,c0,hk⟩;simp only at k0 k1 c0 hk ⊢;have hle:qd l (aB noTy l i).2.1<=l.length:=List.countP_le_length;refine aw (λhc=>?_) (λhc=>?_)
 .have hc:=of_decide_eq_true hc;rw [ixR (e:=noTy) k0 hc,List.countP_cons] at hk;refine ⟨k0,hc,λ_=>⟨i0,i1,λ_=>aw (λe=>?_) (λe=>?_)⟩⟩
  .have e':rQ (aB noTy l i).2.1 (aB noTy l k)=true:=e;rw [if_pos e'] at hk;exact ⟨by unfold aI;omega,by unfold aI;omega,⟨by omega,by omega,by omega,by omega⟩,by omega⟩
  .have e':rQ (aB noTy l i).2.1 (aB noTy l k)=false:=e;rw [if_neg (by rw [e'];simp)] at hk;exact ⟨by unfold aI;omega,⟨by omega,by omega,by omega,by omega⟩,by omega⟩
 .have hc:=of_decide_eq_false hc;rw [eN hc,List.countP_nil] at hk;obtain rfl:c=(qd l (aB noTy l i).2.1:Nat):=by omega
  exact h
def pw:List (Nat×Ty):=(80,eH)::cQ
def aez:Ct:=cI λx=>c0 λQ=>Q (.bool false) []
def abB:=(jr.add WQ).add QT
def KR (x:Int):dE:=λQ=>aI .i64 x->Q (.v (.c (.k (.bool (x !=x))))) []
theorem acw:cM 132 aez:=fe<| nK λx=>iB λQ h=>by
 refine Wp.dL abB pw ⟨[],[]⟩ Tryz.f132 (KR x) ?_;unfold KR;rw [show (x !=x)=false by simp];exact λ_=>h
def afQ:Ct:=cD (Ty.int .i64) λl=>cI λy=>c0 λQ=>(l.Pairwise λa b=>a< b)/\l.length<=100000/\ajZ l y/\∀ i:Int,0<=i->i< (l.length:Int)->l[i.toNat]?=some y->Q (.cZ [.c (.k (.int .i64 i)),.c (.k (.bool true))]) []
def ajS:=abB.add acw
def XA (l:(List ((Ty.int .i64)).den)) (y:Int):dE:=λQ=>ik l (aI .i64 y->aN (List.length l)->ba (λi ag=>br (decide (i.1.1< i.1.2.1)) (aI .i64 (i.1.1+i.1.2.1)/\(qN i.1.1 i.1.2.1 (qO i.1.1 i.1.2.1 (yx i.1.1 i.1.2.1 l (Ty.ok bw (aB bw l (kW 
 i.1.1 i.1.2.1))->br (decide (aB bw l (kW i.1.1 i.1.2.1)< y)) (sH i.1.1 i.1.2.1 ag i.1.2) (sw ag i.1.1 i.1.2.1)))))) (br (decide (i.1.1< (aF l))) (0<=i.1.1/\i.1.1< (aF l)/\(Ty.ok bw (aB bw l i.1.1)->br (aB 
 bw l i.1.1==y) (Q (.cZ [.c (.k (aE i.1.1)),.c (.k (.bool true))]) []) (0<=i.1.1/\i.1.1< (aF l)/\(Ty.ok bw (aB bw l i.1.1)->Q (.cZ [.c (.k (aE i.1.1)),.c (.k (.bool false))]) [])))) (Q (.cZ [.c (.k (aE i.1.1)),.c 
 (.k (.bool false))]) []))) ((ah,(aF l),()),()))
theorem akF:cM 82 afQ:=fe<| kC λl=>nK λy=>iB λQ h=>by
 refine Wp.dL ajS pw ⟨[(4,⟨[(7,.int .i64),(8,.int .i64)],[]⟩)],[]⟩ Tryz.f82 (XA l y) ?_;unfold XA sw yx qN qO kW ik sH iY aE ah a8 aF aN pX bw iM;obtain ⟨hs,hl,⟨⟨k,hk⟩⟩,h⟩:=h;obtain ⟨rU,qS⟩:=av.1 hk;have eJ:∀ a:Int,0<=a->a< (l.length:Int)->((aB (.int .i64) l a:Int)< y↔a< (k:Int)):=λa a0 a1=>by
  rw [fb (e:=.int .i64) a0 a1,<-qS];have P:=da.1 hs;constructor
  .intro q;rcases ko a.toNat k with z| z| z
   .omega
   .simp only [z,Int.lt_irrefl] at q
   .exact absurd q (Int.lt_asymm (P k a.toNat rU (by omega) z))
  .intro q;exact P a.toNat k (by omega) rU (by omega)
 refine λ_ _ _=>ba.intro (λi=>0<=i.1.1/\i.1.1<=(k:Int)/\(k:Int)<=i.1.2.1/\i.1.2.1<=l.length) (λi=>(i.1.2.1 - i.1.1).toNat) ⟨bp _,by show (0:Int)<=k;omega,by show (k:Int)<=l.length;omega,bp _⟩ ?_;rintro ⟨⟨i,j,_⟩,_⟩ ⟨h0,h1,h2,h3⟩;simp only at h0 h1 h2 h3 ⊢;refine aw (λhq=>?_) (λhq=>?_)
 .have hq:=of_decide_eq_true hq;refine ⟨by unfold aI;omega,λ_=>⟨by decide,λ_ _=>?_⟩⟩;rw [PB (n:=i+j) (by omega) (by omega)];refine ⟨by omega,by omega,λ_=>aw (λhd=>?_) (λhd=>?_)⟩
  .have:=(eJ ((i+j) / 2) (by omega) (by omega)).1 (of_decide_eq_true hd);exact ⟨by unfold aI;omega,⟨by omega,by omega,by omega,by omega⟩,by omega⟩
  .have:¬(i+j) / 2< (k:Int):=λq=>absurd ((eJ _ (by omega) (by omega)).2 q) (of_decide_eq_false hd);exact ⟨⟨by omega,by omega,by omega,by omega⟩,by omega⟩
 .have hq:=of_decide_eq_false hq;obtain rfl:i=(k:Int):=by omega
  have e:aB (.int .i64) l (k:Int)=y:=by rw [iI (e:=.int .i64) rU];exact qS
  refine aw (λ_=>⟨by omega,by omega,λ_=>?_⟩) (λq=>absurd (of_decide_eq_false q) (by omega));rw [e];exact aw (λ_=>h k (by omega) (by omega) (by rw [bm];exact hk)) (λq=>by simp at q)
def TM:Ct:=cP<| cN noTy λx=>cO λH Q=>match H with
 | [.cells 120 [.p 1 0,.p 2 0,.p 3 0,.d (.pair (.sl .str) (.pair (.int .i64) (.pair (.int .i64) (.pair (.pair (.int .i64) (.pair (.int .i64) (.pair (.int .i64) .unit))) (.pair (.sl .u8) (.pair .str (.pair (.sl (.pair .str (.pair (.sl .u8) .unit))) (.pair .bool .unit)))))))) L,.d (.int .i64) ids,.m 4,.m 5,.m 6],.abs A1,.abs A2,.abs A3,.map 3 .int (.int .i64) Mr,.map 3 .int (.pair (.int .i64) (.pair (.int .i64) (.pair (.int .i64) (.pair (.int .i64) (.pair (.int .i64) (.pair (.int .i64) (.pair (.int .i64) (.pair (.int .i64) (.pair (.int .i64) (.pair (.int .i64) (.pair .str .unit))))))))))) F,.map 9 .str (.int .i64) Ms]=>dI x.2.2.2.2.2.2.1=true/\∃ T RX fX,WB A3 T RX fX/\pj fX RX Ms/\RX.length<=1000000/\Ms.length<=100000/\∀ A3' AF AD zu xa,WB A3' T AF AD->(∃ c,AF=RX++c/\c.length<=4100)->(∃ c,AD=fX++c)->pj AD AF zu->zu.length<=Ms.length+1->V9 AD AF xa x.2.2.2.2.2.2.1->Q (.int xa) [.cells 120 [.p 1 0,.p 2 0,.p 3 0,.d noTy L,.d (.int .i64) ids,.m 4,.m 5,.m 6],.abs A1,.abs A2,.abs A3',.map 3 .int (.int .i64) Mr,.map 3 .int eH F,.map 9 .str (.int .i64) zu]
 | _=>False
def ajR:=(jr.add wa).add WH
def Ls:((noTy).den)->(List bx)->(List Int)->(Value->Atom)->(Value->Atom)->(Value->Atom)->(List (Int×Int))->(List (Int×eH.den))->(List (ByteArray×Int))->dE:=
 λx L ids A1 A2 A3 Mr F Ms Q=>fU x.1 (cU x.2.1 x.2.2.1 x.2.2.2.1.1 (cn x.2.2.2.1.2.1 x.2.2.2.1.2.2.1 (aN (bQ x.2.2.2.2.1)->dC x.2.2.2.2.2.1 (aN (bQ x.2.2.2.2.2.2.1)->dI x.2.2.2.2.2.2.1=true/\∀ (z:List 
 UInt8) (e:Int),ams x.2.2.2.2.2.2.1 z e->db z (aI .i64 e->br (e !=0) (Q (.v (.c (.k bn))) [wL L ids,HO.abs A1,HO.abs A2,HO.abs A3,wJ Mr,wK F,kY Ms]) (Ty.ok bw (gl (qG Ms z) ah)->br 
 (!Option.isSome (qG Ms z)) (∃ T R fs,WB A3 T R fs/\List.length R+List.length z<=10000000/\∀ (A':Value->Atom) (r:Nat) (fs':List (List UInt8)),WB A' T (R++z) (fs++fs')->(∀ (gs:List (List UInt8)),r=dV (fs++gs) 
 (bQ R))->aI .i64 (↑r:Int)->List.length Ms< 9223372036854775807/\aI .i64 ((↑r:Int)+1)/\Q (.v (.c (.k (.int .i64 ((↑r:Int)+1))))) [wL L ids,HO.abs A1,HO.abs A2,HO.abs A',wJ Mr,wK F,kY (Kk.put Kk.str Ms (gk 
 z) (↑r:Int))]) (aI .i64 (gl (qG Ms z) ah+1)/\Q (.v (.c (.k (.int .i64 (gl (qG Ms z) ah+1))))) [wL L ids,HO.abs A1,HO.abs A2,HO.abs A3,wJ Mr,wK F,kY Ms])))))))
theorem acO:cM 83 TM:=fe<| rK<| Va λx=>rM λH Q h=>by
 split at h;rotate_left;cases h;rename_i L ids A1 A2 A3 Mr F Ms;refine Wp.dL ajR pw ⟨[],[]⟩ Tryz.f83 (Ls x L ids A1 A2 A3 Mr F Ms) ?_;unfold Ls qG db dC cn fU bQ bn cU ah aN wL wK wJ kY bw;obtain ⟨hx,T,RX,fX,hW,hS,hl,hM,h⟩:=h;obtain ⟨hm8,hl8⟩:=o7 hx;have Om:(xsB x.2.2.2.2.2.2.1).length<=4100:=by
  have h1:=uY (Hu hm8);have h2:=od x.2.2.2.2.2.2.1;unfold xsB;rw [af,aC];omega
 refine λ_ _ _ _ _ _ _ _ _=>⟨hx,λz e hz _ _=>?_⟩;rcases hz.or with ⟨h1,rfl,rfl⟩| ⟨h1,rfl,rfl⟩;exact aw (λ_=>h A3 RX fX Ms 0 hW ⟨[],by simp,by simp⟩ ⟨[],by simp⟩ hS (by omega) ⟨.inl ⟨h1,rfl⟩,by decide⟩) (λq=>by cases q);obtain ⟨z,hzz⟩:∃ z,xsB x.2.2.2.2.2.2.1=z:=⟨_,rfl⟩;rw [hzz] at Om ⊢;refine aw (λq=>by cases q) (λ_=>λ_=>aw (λhg=>?_) (λhg=>?_))
 .obtain ⟨x',y',rfl,hT,hm⟩:=hW;refine ⟨T,RX,fX,⟨x',y',rfl,hT,hm⟩,by omega,λA' r fs' hW' hr _=>?_⟩;have hrl:=sd hm;have M3:=hr [];rw [a7] at M3;have hH:=Has.new (b:=z) (fs':=fs') hr;have h0:0<=(r:Int)/\(r:Int)<=4294967294:=by omega
  exact ⟨by omega,by unfold aI;omega,h A' _ _ _ _ hW' ⟨_,rfl,Om⟩ ⟨_,rfl⟩ ((hS.le ⟨_,rfl⟩ ⟨_,rfl⟩).put h0 hH) (Mu _ _ _) ⟨.inr ⟨h1,by omega,by rw [show (r:Int)+1 - 1=r by omega,hzz];exact hH⟩,by omega⟩⟩
 .obtain ⟨v,hv⟩:∃ v:Int,Kk.get .str Ms (gk z)=some v:=lT.1 (show (Kk.get .str Ms (gk z)).isSome=true by simpa using hg);rw [hv,show (some v).getD 0=v from rfl];obtain ⟨h0,hH⟩:=hS.get hv;have h1v:1<=v+1/\0<=v+1/\v+1<=4294967295:=by omega
  have h2v:v+1 - 1=v:=by omega
  exact ⟨by unfold aI;omega,h A3 RX fX Ms (v+1) hW ⟨[],by simp,by simp⟩ ⟨[],by simp⟩ hS (by omega) ⟨.inr ⟨h1,h1v.1,by rw [h2v,hzz];exact hH⟩,h1v.2⟩⟩
end Go.Proofs

