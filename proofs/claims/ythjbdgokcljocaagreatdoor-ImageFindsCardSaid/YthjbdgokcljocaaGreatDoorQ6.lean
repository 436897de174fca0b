/- Texts of mine, laid together: I17 LmZn I18 I19 LmYb LmYc LmYd LmYe LmYf LmYg LmYh LmYi LmYo LmYn LmYq LmYr LmYs LmYt LmYu LmZo LmZp LmZq ShelfJ T1 T2 T3 T4 Cmp LmVze Srt C1 C2. -/
import Derived.Test.YthjbdgokcljocaaGreatDoorQ5
import Derived.Test.YthjbdgokcljocaaGreatDoorQ4
import Derived.Test.YthjbdgokcljocaaGreatDoorProg
import Derived.Test.YthjbdgokcljocaaGreatDoorChecked
import Derived.Test.YthjbdgokcljocaaGreatDoorQ3
import Derived.Sort.Walk0
import Derived.Shelf.Strings.Builder1
import Derived.Shelf.Strings.Builder2
import Derived.Shelf.Strings.OnBuilder
import Derived.Shelf.Small.Bits
import Derived.Shelf.Small.Strs
import Derived.Shelf.Strings.BuilderF
import Derived.Shelf.Strings.BuilderK
import Derived.Shelf.Strings.Builder2Cap
import Derived.Shelf.Strconv.Itoa0
import Derived.Shelf.Strings.Search1
import Derived.Shelf.Sort.Plain
import Derived.Shelf.Strings.BuilderCap
import Derived.Ground.Names2Prog
import Derived.Shelf.Slices.Clone
import Derived.Shelf.Slices.In.SortNone
import Derived.Shelf.Bytes.SlSearch0
import Derived.Ground.SlbCloneProg
import Derived.Shelf.Bytes.SlClone
import Derived.Ground.SlsfProg
import Derived.Shelf.SlSortCmp.Insertion
import Derived.Shelf.Bytes.SlEqualAll
import Derived.Shelf.Bytes.Small
import Derived.Sort.Grow
import Derived.Deep.Draws
import Derived.Shelf.Lay
import Derived.Lib.Walk
import Derived.Handy
import Derived.Deep.LoopGhost
import Derived.Shelf.SlSortCmp.InsertionK
import Derived.Shelf.SlSortCmp.WholeK
import Derived.Shelf.SlSortCmp.NoneTotal
set_option linter.unusedVariables false
open Array renaming getElem?_eq_some_iff → aO, getElem?_eq_getElem → eE, getElem?_toList → l6, getElem?_append_left → qB
open Bool renaming and_eq_true → ao, not_eq_true' → cY, false_eq_true → dQ, false_and → eO, false_or → eW, true_and → jm, true_or → l5
open Int renaming toNat → ax, le_refl → bh, toNat_natCast → bL, tdiv → gu
open Go.IntKind renaming bits → kH, max → mU
open List renaming length_append → af, getElem?_eq_getElem → aq, replicate → au, length_cons → av, getElem?_eq_some_iff → aw, length_singleton → aE, length_take → aF, mem_cons_of_mem → aI, take_of_length_le → aL, append_assoc → aM, mem_cons_self → aN, length_drop → aR, mem_singleton → aU, mem_append → aV, length_nil → aY, append_nil → bf, mem_cons → bm, mem_map → bp, eq_nil_of_length_eq_zero → bB, getElem?_append_right → bD, getElem?_append_left → bF, take_append_drop → bK, drop_eq_getElem_cons → bM, range → bQ, length_map → bT, take_succ_eq_append_getElem → bY, map_cons → cw, getD_eq_getElem?_getD → dh, getElem?_map → dj, pairwise_iff_getElem → dx, flatten_cons → dz, getElem_mem → dA, mem_range → dF, mem_iff_getElem → dZ, cons_append → eH, drop_eq_nil_of_le → eJ, drop_drop → eN, drop_append_of_le_length → eQ, pairwise_cons → eV, take_length → fz, nodup_cons → gj, mem_filter → gk, nodup_append → gv, getElem?_eq_none → gU, pairwise_append → iK, map_append → jb, map_congr_left → jy, filter_eq_self → lr, drop_take → lQ, drop_left → lR, getElem?_take → mT, take_take → o8
open Nat renaming le_refl → aG, zero_le → cM, lt_or_ge → eT, le_of_ble_eq_true → eU, zero_lt_succ → fy, zero_add → gA, blt → gH, add_mul → gR, mul_le_mul_right → kx, min_eq_left → py
open Option renaming getD → gB, isSome_iff_exists → mS
open Option.some renaming inj → aj
open Go.Proofs.Tryz renaming prog → cg
open UInt8 renaming ofNat → az, toNat → cz
noncomputable section
namespace Go.Proofs
open Go Go.Lm Go.RowKit
set_option maxRecDepth 1000000
def abk:Ct:=cD (Ty.sl .u8) λl=>cI λn=>c0 λQ=>1<=n/\Q (.c (.fn 228 [.p 0 0,.p 1 0])) [.cells 129 [.d (.sl .u8) l],.cells 3 [.k (.int .i64 n)]]
def ab6:=ab7.add adp
def FV (l:(List ((Ty.sl .u8)).den)) (n:Int):dq:=λQ=>List.length l<=9223372036854775807->aB .i64 n->br (decide (n< 1)) False (Q (SV.v (S1.c (Cl.fn (228:Nat) [.p 0 0,.p 1 0]))) [.cells 129 [Cl.d bC l],.cells 3 [.k (aC n)]])
theorem X3:cq 198 abk:=eI<| iH λl=>nF λn=>gx λQ h=>by
 refine Wp.dy ab6 cu ⟨[],[]⟩ Tryz.f198 (FV l n) ?_;unfold FV aC bC
 grind [ak]
def afy:Ct:=cP<| cI λr=>cO λH Q=>match H with
 | [.abs A]=>∃ fs R,RB A fs R/\∃ o:Nat,o<=R.length/\r=(dS fs o:Int)/\∃ (l:List u9) (q:List UInt8),dC l=true/\l≠ []/\R.drop o=xsB l++q/\∀ A',RB A' fs R->Q (.cC [.c (.d cU l),.c (.k (.int .i64 0))]) [.abs A']
 | _=>False
def Q8:=ab6.add X3
abbrev vJ {A1:Type} (y0) (y1:List A1):=List.take a7 (List.drop (y0*2) y1)
abbrev IT (y0) (y1):=(fY (aA bC (vJ y0 y1) ah),aA bC (vJ y0 y1) aW,())
def K6 (r:Int) (A:Value->Atom):dq:=λQ=>aB .i64 r->∃ fs R,RB A fs R/\∃ o,o<=List.length R/\r=(↑(dS fs o):Int)/\(ah<=aW/\aW<=(10000000:Int))/\∀ (A':Value->Atom) (z:List UInt8) (nx e:Int),RB A' fs R->pw fs R o bH z nx e-> 
 cW z (bZ nx e (br (e !=0) (Q ta [HO.abs A']) (ah<=ah/\ah< (ay z)/\(kQ z (br ((fQ z)==0) (Q ta [HO.abs A']) (ah<=ah/\ah< (ay z)/\(kQ z (br (decide ((fQ z)>iF)) (Q ta 
 [HO.abs A']) (ah<=ah/\ah< (ay z)/\(kQ z (aB .i64 (dm*(fQ z))/\∃ fs R,RB A' fs R/\∃ o,o<=List.length R/\nx=(↑(dS fs o):Int)/\∃ ts q,List.drop o R=gl ts++q/\(∀ (t:List UInt8),t∈ts-> 
 List.length t<=255)/\dm*(fQ z)=(ay ts)/\List.length ts<=100/\∀ (A':Value->Atom),RB A' fs R->aJ (bw ts)->aB .i64 0->aW<=dm/\(aW<=dm/\dm<=(1000000000:Int))/\List.length ts<=1000000000000/\ 
 aK (λi ag=>br (gH (i.1*2) (bw ts)) (ah<=ah/\ah< (aP (vJ i.1 ts))/\(Ty.ok bC (aA bC (vJ i.1 ts) ah)->ah<=aW/\aW< (aP (vJ i.1 ts))/\(Ty.ok bC (aA bC (vJ i.1 ts) 
 aW)->(List.length i.2.2.1.1+List.length [(IT i.1 ts)])*40<=cd/\List.length i.2.2.1.1+List.length [(IT i.1 ts)]<=9223372036854775807/\ag (i.1+1,(),(i.2.2.1.1++ [(IT i.1 ts)],()),())))) (br (!dC 
 i.2.2.1.1) (Q ta [HO.abs A']) (Q (SV.cC [S1.c (.o 1),.c (.k aT)]) [HO.abs A',HO.held (96:TypeId) cU i.2.2.1.1]))) (bx,(),([],()),()))))))))))))
theorem Re:cq 149 afy:=eI<| rZ<| nF λr=>r5 λH Q h=>by
 split at h;rotate_left;cases h;rename_i A;refine Wp.kE [some (.sl cU),none] [1] ?_;refine Wp.QC (X:=Q8.v cu [180] (chk:=afq)) Q8.ok ⟨[(10,⟨[],[(1,.cells 36 [.own 96 cU])]⟩)],[]⟩ (fn:=Tryz.f149) (V:=K6 r A) (by kernel_rfl) (λ_=>by kernel_rfl) ?_ (hch:=TO);unfold K6 kQ IT ta cW bZ vJ bw cd dD aT fQ ah aW dm iF aP ay aJ bx bH a7 bC;obtain ⟨fs,R,hR,o,ho,rfl,l,q,hx,ja,hd,h⟩:=h;obtain ⟨hm,hl8⟩:=mF hx;have hle:=HT hm;have hn0:=List.length_pos_iff.2 ja;have hd:R.drop o=az l.length::(gl (pA l)++q):=by rw [hd];unfold xsB;rw [show aH 1 l.length= [az (l.length % 256)] from rfl,Nat.mod_eq_of_lt (by omega)];rfl
 have hRl:=congrArg List.length hd;rw [aR,av] at hRl;refine λ_=>⟨fs,R,hR,o,ho,rfl,⟨by decide,by decide⟩,λA' z nx e hR hz _ _ _=>?_⟩;obtain ⟨rfl,rfl,rfl⟩:=hz.ok (by omega);rw [hd];have hu:(aA .u8 (List.take 1 (az l.length::(gl (pA l)++q))) 0).toNat=l.length:=YB (by omega);have h1:(List.take 1 (az l.length::(gl (pA l)++q))).length=1:=rfl;rw [hu,h1];refine ak (λhc=>by cases hc) (λ_=>⟨by decide,by decide,λ_=>ak (λhc=>?_) (λ_=>⟨by decide,by decide,λ_=>ak (λhc=>?_) (λ_=>⟨by decide,by decide,λ_=>⟨by unfold aB;omega,fs,R,hR,o+1,by omega,rfl,pA l,q,?_,hle,?_,?_,λA' hR _ _=>⟨by decide,?_⟩⟩⟩)⟩)⟩)
 .have hc:(l.length:Int)=0:=eq_of_beq hc;omega
 .have hc:(l.length:Int)>8:=of_decide_eq_true hc;omega
 .rw [<-eN,hd];rfl
 .rw [om];omega
 .rw [om];omega
 refine ⟨⟨by decide,by decide⟩,by rw [om];omega,aK.intro (λi=>i.1<=l.length/\i.2.2.1.1=l.take i.1) (λi=>l.length - i.1) ⟨cM _,rfl⟩ ?_⟩;rintro ⟨k,_,⟨out,_⟩,_⟩ ⟨hk,ho⟩;simp only at hk ho ⊢;subst ho;rw [om];refine ak (λhc=>?_) (λhc=>?_)
 .have fB:k< l.length:=by have:=eU hc;omega
  have hp:=EI fB;rw [hp];have e2:l.take k++ [(fY (l[k]).1.data.toList,(l[k]).2.1,())]=l.take (k+1):=by
   rw [zq,bY fB]
  refine ⟨by decide,by show (0:Int)< 2;decide,λ_=>⟨by decide,by show (1:Int)< 2;decide,λ_=>⟨?_,?_,⟨fB,e2⟩,by omega⟩⟩⟩;rw [aF,aE];omega;rw [aF,aE];omega
 .have hge:l.length<=k:=by
   rcases eT k l.length with z| z
   .have:gH (k*2) (2*l.length)=true:=Nat.ble_eq_true_of_le (by omega);rw [this] at hc;cases hc
   .exact z
  rw [aL hge,hx];exact ak (λq=>by cases q) (λ_=>⟨by show 1<=2;decide,h A' hR⟩)
end Go.Proofs

namespace Go.Lm
open Go
def zr (b:List UInt8):List UInt8:=if (b.dropWhile (· ==0)).length=0 then [] else b
theorem abu (b:List UInt8):(zr b).length<=b.length:=by grind [zr]
theorem abr {b:List UInt8} (h:(((b.dropWhile (· ==0)).length:Int)==0)=true):zr b= []:=by
 grind [zr]
theorem abt {b:List UInt8} (h:(((b.dropWhile (· ==0)).length:Int)==0)=false):zr b=b:=by
 grind [zr]
theorem anG {b:List UInt8} (h:(b.dropWhile (· ==0)).length=0):b=au b.length 0:=by
 induction b with
 | nil=>rfl
 | cons z r ih=>
  grind [List.dropWhile_cons_of_pos, List.dropWhile_cons_of_neg]
theorem WQ {b:List UInt8}:(zr b= []/\b=au b.length 0)\/(zr b=b):=by
 unfold zr;split
 .rename_i h;exact .inl ⟨rfl,anG h⟩
 grind
structure zC (T:List Int) (x:List UInt8) (fs:List (List UInt8)):Prop where
 fr:∀ (k:Nat) z,fs[k]?=some z->D8 T (zr (lp x k)) z
theorem zC.nil (T:List Int) (x:List UInt8):zC T x []:=⟨by grind⟩
theorem zC.step {T:List Int} {x z:List UInt8} {fs:List (List UInt8)} (h:zC T x fs) (hz:D8 T (zr (lp x fs.length)) z):zC T x (fs++ [z]):=⟨λk q hk=>by
 rcases eT k fs.length with hl| hl
 .rw [bF hl] at hk;exact h.fr k q hk
 grind⟩
theorem zC.len {T:List Int} {x:List UInt8} {fs:List (List UInt8)} (h:zC T x fs):3*fs.length<=fs.flatten.length/\fs.flatten.length<=135*fs.length:=by
 have key:∀ n:Nat,n<=fs.length->3*n<=fx fs n/\fx fs n<=135*n:=by
  intro n
  induction n with
  | zero=>intro _;exact ⟨cM _,aG _⟩
  | succ n ih=>
   intro hn;have hf:=(h.fr n fs[n] (by grind)).len
   grind [abu, rA, oc]
 grind [qx]
theorem WR {x:List UInt8} {n k:Nat} (h:k< n):lp (x.take (128*n)) k=lp x k:=by
 grind [lp, lQ]
structure UB (T:List Int) (b:List UInt8) (o:Nat) (x:List UInt8):Prop where
 ex:∃ fs r,fs.length=x.length / 128/\zC T x fs/\b.drop o=fs.flatten++r/\o<=b.length
theorem UB.app {T:List Int} {b:List UInt8} {o:Nat} {x:List UInt8} (h:UB T b o x) (c:List UInt8):UB T (b++c) o x:=by
 obtain ⟨fs,r,h1,h2,h3,h4⟩:=h;exact ⟨fs,r++c,h1,h2,by grind,by grind⟩
structure DW (first:Int) (b:List UInt8) (M:List (ByteArray×Int)):Prop where
 all:∀ p∈M,∃ o:Nat,p.2=first+o/\∃ r,b.drop o=p.1.data.toList++r/\o<=b.length
theorem DW.app {first:Int} {b:List UInt8} {M:List (ByteArray×Int)} (h:DW first b M) (c:List UInt8):DW first (b++c) M:=⟨λp hp=>by
 obtain ⟨o,h1,r,h2,h3⟩:=h.all p hp;exact ⟨o,h1,r++c,by grind,by grind⟩⟩
theorem DW.put {first:Int} {b c:List UInt8} {M:List (ByteArray×Int)} (h:DW first b M):DW first (b++c) (Kk.put .str M (fY c) (first+b.length)):=⟨λp hp=>by
 rcases bm.1 hp with rfl| hp;exact ⟨b.length,rfl,[],by grind [OB],by grind⟩
 .exact (h.app c).all p (gk.1 hp).1⟩
theorem DW.get {first:Int} {b c:List UInt8} {M:List (ByteArray×Int)} (h:DW first b M) {v:Int} (hg:Kk.get .str M (fY c)=some v):∃ o:Nat,v=first+o/\∃ r,b.drop o=c++r/\o<=b.length:=by
 have:=h.all _ (oR (κ:=ByteArray) hg)
 assumption
structure zB (T:List Int) (first:Int) (b:List UInt8) (st:Int) (x:List UInt8):Prop where
 or:(x.length< 128/\st=0)\/(128<=x.length/\∃ o:Nat,st=first+o/\UB T b o x)
theorem zB.app {T:List Int} {first:Int} {b:List UInt8} {st:Int} {x:List UInt8} (h:zB T first b st x) (c:List UInt8):zB T first (b++c) st x:=⟨by
 rcases h.or with h| ⟨h1,o,h2,h3⟩;omega
 .exact .inr ⟨h1,o,h2,h3.app c⟩⟩
structure D7 (T:List Int) (im:List UInt8) (st:Int) (x:List UInt8) (fs:List (List UInt8)):Prop where
 len:fs.length=x.length / 128
 fr:zC T x fs
 st0:0<=st
 st1:st<=im.length
 at':∃ r,im.drop st.toNat=fs.flatten++r
theorem D7.le {T:List Int} {im:List UInt8} {st:Int} {x:List UInt8} {fs:List (List UInt8)} (h:D7 T im st x fs):st+fs.flatten.length<=im.length:=by
 obtain ⟨r,hr⟩:=h.at';have:=congrArg List.length hr;rw [aR,af] at this;have:=h.st1;omega
theorem D7.at {T:List Int} {im:List UInt8} {st:Int} {x:List UInt8} {fs:List (List UInt8)} (h:D7 T im st x fs) {k:Nat} (hk:k< x.length / 128):EF T im (st+fx fs k) (zr (lp x k)) (st+fx fs (k+1))/\fx fs (k+1)<=fs.flatten.length:=by
 have r7:k< fs.length:=by rw [h.len];exact hk
 have h0:=h.st0;have hl:=h.le;obtain ⟨r,hr⟩:=h.at';have Df:fs.flatten=(fs.take k).flatten++(fs[k]++(fs.drop (k+1)).flatten):=by
  grind [bK, bM]
 have hs:=oc r7;have hle:fx fs (k+1)<=fs.flatten.length:=by
  simp_all [fx]
 refine ⟨⟨by omega,by omega,fs[k],(fs.drop (k+1)).flatten++r,h.fr.fr k _ (aq r7),?_,by omega⟩,hle⟩;rw [show (st+(fx fs k:Int)).toNat=st.toNat+fx fs k by omega,<-eN,hr,Df,aM,aM];exact lR
theorem VD {x:List UInt8} {off m k:Nat} (ho:off< 128*(k+1)) (hm:128*k - off< m) (hx:128*(k+1)<=x.length):(x.drop off).take (min m (128*k - off))++((lp x k).drop (off - 128*k)).take (min ((lp x k).length - (off - 128*k)) (m - (min m (128*k - off))))=(x.drop off).take (min m (128*(k+1) - off)):=by
 have hb:(lp x k).length=128:=by grind [rA]
 rw [hb,Nat.min_eq_right (Nat.le_of_lt hm)];have e:((lp x k).drop (off - 128*k)).take (min (128 - (off - 128*k)) (m - (128*k - off)))=(x.drop (off+(128*k - off))).take (min (128 - (off - 128*k)) (m - (128*k - off))):=by
  unfold lp;rw [lQ,eN,o8,py (Nat.le_trans (Nat.min_le_left _ _) (aG _)),show 128*k+(off - 128*k)=off+(128*k - off) by omega]
 rw [e,M0]
 grind
theorem AU (n:Nat):gu (n:Int) 128=((n / 128:Nat):Int):=by rfl
theorem gP {e:Ty} {l:List e.den} {k:Nat} (h:k< l.length):aA e l (k:Int)=l[k]:=by
 grind [aA]
theorem nH:∀ {ls:List Nat} {n:Nat},ls.all (λl=>gH l n)=true->∀ l∈ls,l< n:=by simp
theorem MX (M:List (ByteArray×Int)) (k:ByteArray) (v:Int):(Kk.put .str M k v:List (ByteArray×Int)).length<=M.length+1:=by
 show (_::List.filter _ M).length<=_
 grind
def oT (row:List UInt8) (bg:List Int) (i:Nat):Int:=(bg[i+1]?).getD row.length
structure AR (row:List UInt8) (bg:List Int):Prop where
 all:∀ (i:Nat) a,bg[i]?=some a->0<=a/\a< oT row bg i/\oT row bg i<=a+128/\oT row bg i<=row.length
theorem AR.nil:AR [] []:=⟨λ_ _ h=>by simp at h⟩
structure oZ (row:List UInt8) (bg:List Int) (nu off:Int) (t:List UInt8):Prop where
 or:(t= []/\nu=0/\off=0)\/(0< t.length/\t.length< 128/\0<=off/\∃ (i:Nat) (a:Int),nu=(i:Int)+1/\bg[i]?=some a/\a+off+t.length<=oT row bg i/\(row.drop (a+off).toNat).take t.length=t)
theorem TH {row:List UInt8} {bg:List Int} {i:Nat} (h:i+1< bg.length) (lz:List UInt8) (c:List Int):oT lz (bg++c) i=oT row bg i:=by
 grind [oT]
theorem qt {row:List UInt8} {bg:List Int} {i:Nat} (h:bg.length=i+1):oT row bg i=row.length:=by
 grind [oT]
theorem AR.more {row t:List UInt8} {bg:List Int} {n:Nat} {a:Int} (h:AR row bg) (hn:bg.length=n+1) (ha:bg[n]?=some a) (ht:0< t.length) (ht2:t.length< 128) (hl:(row.length:Int) - a+t.length<=128):AR (row++t) bg/\oZ (row++t) bg ((n:Int)+1) ((row.length:Int) - a) t/\∀ nu off u,oZ row bg nu off u->oZ (row++t) bg nu off u:=by
 have key:∀ (i:Nat) b,bg[i]?=some b->oT (row++t) bg i=(if i=n then ((row++t).length:Int) else oT row bg i):=λi b hi=>by
  have fB:=(aw.1 hi).1;split
  .rename_i e;subst e;exact qt hn
  .have:=TH (row:=row) (bg:=bg) (i:=i) (by omega) (row++t) [];rw [bf] at this;exact this
 have hn0:=h.all n a ha;refine ⟨⟨λi b hi=>?_⟩,⟨.inr ⟨ht,ht2,by omega,n,a,rfl,ha,?_,?_⟩⟩,λnu off u hu=>⟨?_⟩⟩
 .have:=h.all i b hi;rw [key i b hi,af];split
  .rename_i e;subst e;rw [ha] at hi;obtain rfl:=aj hi;omega
  .omega
 .rw [key n a ha,if_pos rfl,af];omega
 .rw [show (a+((row.length:Int) - a)).toNat=row.length by omega,lR,fz]
 .rcases hu.or with hu| ⟨u1,u2,u3,i,b,u4,u5,u6,u7⟩
  .exact .inl hu
  .have hb:=h.all i b u5;refine .inr ⟨u1,u2,u3,i,b,u4,u5,?_,?_⟩
   .rw [key i b u5,af];split
    .omega
    .exact u6
   .rw [eQ (by omega),List.take_append_of_le_length (by rw [aR];omega)];exact u7
theorem AR.next {row t:List UInt8} {bg:List Int} (h:AR row bg) (ht:0< t.length) (ht2:t.length< 128):AR (row++t) (bg++ [(row.length:Int)])/\oZ (row++t) (bg++ [(row.length:Int)]) ((bg.length:Int)+1) 0 t/\∀ nu off u,oZ row bg nu off u->oZ (row++t) (bg++ [(row.length:Int)]) nu off u:=by
 have key:∀ (i:Nat),i< bg.length->oT (row++t) (bg++ [(row.length:Int)]) i=oT row bg i:=λi hi=>by
  rcases eT (i+1) bg.length with hl| hl;exact TH hl _ _
  .have e:bg.length=i+1:=by omega
   rw [qt e];unfold oT;rw [bD (by omega),show i+1 - bg.length=0 by omega];rfl
 have NH:oT (row++t) (bg++ [(row.length:Int)]) bg.length=(row++t).length:=qt (by simp);have NG:(bg++ [(row.length:Int)])[bg.length]?=some (row.length:Int):=by simp
 refine ⟨⟨λi b hi=>?_⟩,⟨.inr ⟨ht,ht2,bh _,bg.length,row.length,rfl,NG,?_,?_⟩⟩,λnu off u hu=>⟨?_⟩⟩
 .rcases eT i bg.length with hl| hl
  .rw [bF hl] at hi;have:=h.all i b hi;rw [key i hl,af];omega
  .have fB:=(aw.1 hi).1;rw [af,aE] at fB;obtain rfl:i=bg.length:=by omega
   rw [NG] at hi;obtain rfl:=aj hi;rw [NH,af];omega
 .rw [NH,af];omega
 .rw [Int.add_zero,bL,lR,fz]
 .rcases hu.or with hu| ⟨u1,u2,u3,i,b,u4,u5,u6,u7⟩
  .exact .inl hu
  .have hb:=h.all i b u5;have fB:=(aw.1 u5).1;refine .inr ⟨u1,u2,u3,i,b,u4,by rw [bF fB];exact u5,by rw [key i fB];exact u6,?_⟩;rw [eQ (by omega),List.take_append_of_le_length (by rw [aR];omega)];exact u7
def lZ (row:List UInt8) (bg:List Int) (n:Nat):List (List UInt8):=(bQ n).map λi=>(row.drop ((bg[i]?).getD 0).toNat).take (oT row bg i - (bg[i]?).getD 0).toNat
theorem QW (row:List UInt8) (bg:List Int) (n:Nat):lZ row bg (n+1)=lZ row bg n++ [(row.drop ((bg[n]?).getD 0).toNat).take (oT row bg n - (bg[n]?).getD 0).toNat]:=by
 grind [lZ, List.range_succ]
theorem qw (row:List UInt8) (bg:List Int) (n:Nat):(lZ row bg n).length=n:=by grind [lZ]
theorem oZ.pc {row t:List UInt8} {bg:List Int} {nu off:Int} (h:oZ row bg nu off t) (hf:AR row bg) (ht:0< t.length):0<=off/\∃ (i:Nat) (z:List UInt8),nu=(i:Int)+1/\i< bg.length/\(lZ row bg bg.length)[i]?=some z/\0< z.length/\z.length<=128/\off+t.length<=z.length/\(z.drop off.toNat).take t.length=t:=by
 rcases h.or with ⟨rfl,_⟩| ⟨u1,u2,u3,i,b,u4,u5,u6,u7⟩;cases ht;have hb:=hf.all i b u5;have fB:=(aw.1 u5).1;refine ⟨u3,i,_,u4,fB,by unfold lZ;rw [dj,List.getElem?_range fB,Option.map_some,u5],?_,?_,?_,?_⟩
 .grind
 .grind
 .grind
 .rw [show (some b).getD 0=b from rfl,lQ,eN,o8,py (by omega),show b.toNat+off.toNat=(b+off).toNat by omega];exact u7
theorem WO {row:List UInt8} {bg:List Int} (hf:AR row bg):∀ z∈lZ row bg bg.length,0< z.length/\z.length<=128:=λz hz=>by
 obtain ⟨i,hi,rfl⟩:=bp.1 hz;have hi:=dF.1 hi;have hb:=hf.all i bg[i] (aq hi)
 grind
end Go.Lm

namespace Go.Proofs
open Go Go.Lm Go.RowKit
set_option maxRecDepth 1000000
def aaJ:Ct:=cD .u8 λx=>cB λc=>c0 λQ=>c=0/\Q (.c (.d .u8 (x.dropWhile (· ==0)))) []
def ab5:=Q8.add Re
abbrev Pz (y0) (y1:SV->List HO->Prop):=aJ (bw y0)->br ((aP y0)==0) (y1 (.v (.c dD)) []) (y1 (SV.v (S1.c (Cl.d Ty.u8 y0))) [])
def Fc (x:(List (Ty.u8).den)) (c:Int):dq:=λQ=>cJ x (aB .u8 c->aK (λi ag=>fA i.1.1 (br (decide ((aP i.1.1)>ah)) (ah<=ah/\ah< (aP i.1.1)/\(kQ i.1.1 (br ((fQ i.1.1)==c) (ah<=aW/\aW<=(aP i.1.1)/\ag ((List.drop 1 
 i.1.1,()),())) (Pz i.1.1 Q)))) (Pz i.1.1 Q))) ((x,()),()))
theorem Xt:cq 219 aaJ:=eI<| iH λx=>okB λc=>gx λQ h=>by
 refine Wp.kE [some (.sl .u8)] [] ?_;refine Wp.dy ab5 cu ⟨[(2,⟨[(0,.d .u8)],[]⟩)],[]⟩ Tryz.f219 (Fc x c) ?_;unfold Fc kQ Pz fA bw cJ dD fQ ah aW aP aJ;obtain ⟨rfl,h⟩:=h;have fin:∀ y:List UInt8,y.dropWhile (· ==0)=x.dropWhile (· ==0)->(y= []\/∃ z r,y=z::r/\z≠0)->y=x.dropWhile (· ==0):=λy h1 h2=>by
  rcases h2 with rfl| ⟨z,r,rfl,hz⟩;exact h1;rw [<-h1,List.dropWhile_cons_of_neg (by simpa using hz)]
 refine λ_ _=>aK.intro (λi=>i.1.1.dropWhile (· ==0)=x.dropWhile (· ==0)) (λi=>i.1.1.length) rfl ?_;rintro ⟨⟨y,_⟩,_⟩ hy;refine λ_=>ak (λhc=>?_) (λhc=>λ_=>?_)
 .have hc:(y.length:Int)>0:=of_decide_eq_true hc;cases y with
  | nil=>simp at hc
  | cons z r=>
   refine ⟨by decide,hc,λ_=>ak (λhz=>?_) (λhz=>λ_=>?_)⟩
   .have hz:(z.toNat:Int)=0:=eq_of_beq hz;have hz:z=0:=by
     have:z.toNat=0:=by omega
     exact UInt8.toNat_inj.1 this
    subst hz;exact ⟨by decide,by simp only [av];omega,hy,by simp⟩
   .have hz:z≠0:=λe=>by subst e;cases hz
    have e:=fin _ hy (.inr ⟨z,r,rfl,hz⟩);refine ak (λq=>?_) (λ_=>⟨aG _,by rw [e];exact h⟩);have:(((z::r).length:Nat):Int)=0:=eq_of_beq q;omega
 .have hc:¬(y.length:Int)>0:=of_decide_eq_false hc;obtain rfl:y= []:=bB (by omega);have e:=fin _ hy (.inl rfl);refine ak (λ_=>⟨aG _,?_⟩) (λq=>by cases q);rw [<-e] at h;exact h
def afw:Ct:=cD .u8 λx=>cS λs=>c0 λQ=>s=⟨#[0]⟩/\Q (.c (.d .u8 (x.dropWhile (· ==0)))) []
def ab4:=ab5.add Xt
abbrev Cx:=λx=>x==eC
abbrev vu (y0:List (Ty.u8).den):=List.dropWhile Cx y0
def K4 (x:(List (Ty.u8).den)) (s:ByteArray):dq:=λQ=>cJ x (dv s (aJ (dr x)->br ((ay x)==0) (Q gW []) (br (j9 s gZ) (Q (SV.v (S1.c (Cl.d Ty.u8 x))) []) (br ((gQ s)==1) (ah<=ah/\ah< (gQ s)/\br (decide ((↑(cz (jj s ah)) 
 :Int)< bE)) (ah<=ah/\ah< (gQ s)/\(↑(cz (jj s ah)):Int)=ah/\(aJ (List.length (vu x))->Q (SV.v (S1.c (Cl.d Ty.u8 (vu x)))) [])) False) False))))
theorem ado:cq 174 afw:=eI<| iH λx=>Zp λs=>gx λQ h=>by
 refine Wp.kE [some (.sl .u8)] [] ?_;refine Wp.dy ab4 cu ⟨[],[]⟩ Tryz.f174 (K4 x s) ?_;unfold K4 gW vu Cx gZ dr dv gQ eC cJ dD ah bE ay aJ;obtain ⟨rfl,h⟩:=h;refine λ_ _ _=>ak (λhc=>⟨aG _,?_⟩) (λ_=>ak (λq=>absurd q (by decide+kernel)) (λ_=>ak (λ_=>⟨by decide,by decide,ak (λ_=>⟨by decide,by decide,by decide+kernel,λ_=>⟨aG _,h⟩⟩) (by decide)⟩) (by decide)));obtain rfl:x= []:=by simp_all
 exact h
def akG:Ct:=cD .u8 λx=>c0 λQ=>Q (.bool (((x.dropWhile (· ==0)).length:Int)==0)) []
def ab3:=ab4.add ado
def R7 (x:(List (Ty.u8).den)):dq:=λQ=>cJ x (ByteArray.mk #[(0:UInt8)]=ByteArray.mk #[(0:UInt8)]/\(aJ (List.length (vu x))->aJ (List.length (vu x))->Q (.v (.c (.k (.bool ((aP (vu x))==0))))) []))
theorem aiB:cq 128 akG:=eI<| iH λx=>gx λQ h=>by
 refine Wp.dy ab3 cu ⟨[],[]⟩ Tryz.f128 (R7 x) ?_;unfold R7 vu Cx eC cJ aP aJ
 grind
def abo:Ct
 | [.v (.c (.o 0))],[.sl 5 .u8 x],Q=>x.length<=140737488355328/\Q (.c (.d .u8 x)) [.sl 5 .u8 x]
 | _,_,_=>False
def Q7:=ab3.add aiB
def Yt (x:List UInt8):dq:=λQ=>∀ (c:Bool),(c=true->x= [])->br (mY c) (Q gW [.sl 5 Ty.u8 x]) (IQ x Q)
theorem agh:cq 72 abo:=by
 intro args H Q h;unfold abo at h;split at h;rotate_left;cases h;rename_i x;refine Wp.Jh (e:=.u8) ?_;refine Wp.dy Q7 cu ⟨[],[]⟩ Tryz.f72 (Yt x) ?_;unfold Yt gW mY IQ cd dD;obtain ⟨hl,h⟩:=h;refine λc hc=>ak (λhb=>.inr (.inl ⟨rfl,?_⟩)) (λhb=>⟨by omega,by omega,.inr (.inr ⟨1,5,x,rfl,aG 1,rfl,h⟩)⟩)
 grind
def ahc:Ct:=cD .u8 λx=>c0 λQ=>x.length<=140737488355328/\Q (.c (.d .u8 x)) []
def ala:=Q7.add agh
def Yu (x:(List (Ty.u8).den)):dq:=λQ=>cJ x (zY x Q)
theorem amt:cq 72 ahc:=eI<| iH λx=>gx λQ h=>by
 refine Wp.Jh (e:=.u8) ?_;refine Wp.dy ala cu ⟨[],[]⟩ Tryz.f72 (Yu x) ?_;unfold Yu zY cd cJ dD;refine λ_ c hc=>ak (λhb=>.inr (.inl ⟨rfl,?_⟩)) (by grind)
 grind
def an0:Ct:=λargs H Q=>match H with
 | []=>ahc args H Q
 | [_]=>abo args H Q
 | _=>False
theorem ao4:cq 72 an0:=λargs H Q h=>by
 unfold an0 at h
 grind [amt, agh]
def Ug:Ct:=cT λT=>cI λfi=>c0 λQ=>Q (.c (.p 0 0)) [.cells 157 [.de (.int .u32) T 0 0,.k (.int .i64 fi),.o 2,.m 1],.map 9 .str (.int .i64) [],.sl 5 .u8 []]
def ab2:=Q7.add ao4
def LL (T:List Int) (fi:Int):dq:=λQ=>aB .i64 fi->Q (SV.v (S1.c (.p 0 0))) [.cells 157 [Cl.de (.int .u32) T ah bx,.k (aC fi),.k eP,Cl.m bH],HO.map iE Kk.str bq []]
theorem Rs:cq 49 Ug:=eI<| okT λT=>nF λfi=>gx λQ h=>by
 refine (λhh=>Wp.xy (p:=0) (t:=157) (tt:=5) (e:=.u8) hh) ?_;refine Wp.dy ab2 cu ⟨[],[]⟩ Tryz.f49 (LL T fi) ?_;unfold LL eP aC ah bx bH iE bq;exact λ_=>⟨[_,_],[_],rfl,h⟩
def Hx:Ct:=cP<| cD .u8 λx=>cO λH Q=>match H with
 | [.cells 157 [.de (.int .u32) T 0 0,.k (.int .i64 fi),.o 1,.m 2],.sl 5 .u8 b,.map 9 .str (.int .i64) M]=>T.length=256/\x.length<=128/\(0<=fi/\fi<=1000000)/\b.length<=100000000/\∀ z,D8 T x z->Q (.c (.k (.int .i64 (fi+b.length)))) [.cells 157 [.de (.int .u32) T 0 0,.k (.int .i64 fi),.o 3,.m 2],.gone,.map 9 .str (.int .i64) M,.sl 5 .u8 (b++z)]
 | _=>False
def ab1:=ab2.add Rs
abbrev IC (y0:List UInt8) (y1:List UInt8) (R:Prop):=(List.length y0+List.length y1)*1<=cd/\List.length y0+List.length y1<=9223372036854775807/\R
def BL (x:(List (Ty.u8).den)) (T:List Int) (fi:Int) (b:List UInt8) (M:(List (ByteArray×Int))):dq:=λQ=>cJ x (dO T (List.length x<=128/\∀ (zI:List UInt8),D8 T x zI->cW zI (aB .i64 0->cW b (aB .i64 (fi+(ay b))/\IC b zI (Q (.v (.c (.k (.int .i64 (fi+(ay b)))))) [.cells 157 [Cl.de 
 (.int .u32) T ah bx,.k (aC fi),.o 3,Cl.m a7],.gone,kT M,.sl 5 Ty.u8 (b++zI)])))))
theorem E7:cq 79 Hx:=eI<| rZ<| iH λx=>r5 λH Q h=>by
 split at h;rotate_left;cases h;rename_i T fi b M;refine Wp.dy ab1 cu ⟨[],[]⟩ Tryz.f79 (BL x T fi b M) ?_;unfold BL IC cW dO cd cJ aC ah ay aJ bx a7 bI kT;obtain ⟨hT,hx,⟨f0,f1⟩,hb,h⟩:=h;exact λ_=>⟨hT,hx,λz hz _ _ _=>⟨by grind [aB],by have:=hz.len.2;omega,by have:=hz.len.2;omega,h z hz⟩⟩
def Oy:Ct:=cP<| cO λH Q=>match H with
 | [.cells 157 [.de (.int .u32) T 0 0,.k (.int .i64 fi),.o 1,.m 2],.sl 5 .u8 b,.map 9 .str (.int .i64) M]=>b.length<=100000000/\Q (.c (.d .u8 b)) [.gone,.gone,.gone]
 | _=>False
def ab0:=ab1.add E7
def FO (T:List Int) (fi:Int) (b:List UInt8) (M:(List (ByteArray×Int))):dq:=λQ=>List.length b<=140737488355328/\(cW b (Q (SV.v (S1.c (Cl.d Ty.u8 b))) [.cells 157 [Cl.de (.int .u32) T ah bx,.k (aC fi),.o 1,Cl.m a7],.sl 5 Ty.u8 b,kT M]))
theorem KU:cq 56 Oy:=eI<| rZ<| r5 λH Q h=>by
 split at h;rotate_left;cases h;rename_i T fi b M;refine Wp.agB ?_;refine Wp.dy ab0 cu ⟨[],[]⟩ Tryz.f56 (FO T fi b M) ?_;unfold FO cW aC ah aJ bx a7 kT
 grind
def afW:Ct:=cD .u8 λim=>cI λst=>cI λsz=>cI λen=>c0 λQ=>im.length<=100000000/\∃ (T:List Int) (x:List UInt8) (fs:List (List UInt8)),D7 T im st x fs/\sz=x.length/\x.length<=4096/\st+fs.flatten.length<=en/\Q (.cC [.c (.k (.int .i64 (st+fs.flatten.length))),.c (.k (.int .i64 0))]) []
def abZ:=ab0.add KU
def LN (im:(List (Ty.u8).den)) (st sz en:Int):dq:=λQ=>cJ im (cr st sz en (br (cL sz) (Q (.cC [.c (.k aT),.c (.k (.int .i64 1))]) []) (br (decide (sz>4096)) (Q (.cC [.c (.k aT),.c (.k (.int .i64 1))]) []) (bE≠ah/\aB .i64 (gu sz 
 bE)/\aK (λi ag=>br (decide (i.1.1< gu sz bE)) (∃ p s st nx,iw im (Cut im i.1.2.1 p s st nx/\(aB .i64 nx->aB .i64 0->br (decide (nx>en)) (Q (.cC [.c (.k aT),.c (.k (.int .i64 2))]) []) (cj i.1.1 
 (ag ((i.1.1+1,nx,()),())))))) (Q (.cC [.c (.k (aC i.1.2.1)),.c (.k aT)]) [])) ((ah,st,()),())))))
theorem Ru:cq 150 afW:=eI<| iH λim=>nF λst=>nF λsz=>nF λen=>gx λQ h=>by
 refine Wp.dy abZ cu ⟨[(5,⟨[(20,.int .i64),(1,.int .i64)],[]⟩)],[]⟩ Tryz.f150 (LN im st sz en) ?_;unfold LN iw cL cj cJ aT cr aC ah bE;obtain ⟨hl,T,x,fs,hI,rfl,hx,hen,h⟩:=h;rw [AU];refine λ_ _ _ _=>ak (λhc=>absurd (of_decide_eq_true hc) (by omega)) (λ_=>ak (λhc=>absurd (of_decide_eq_true hc) (by omega)) (λ_=>⟨by decide,by unfold aB;omega,?_⟩));refine aK.intro (λi=>∃ k:Nat,k<=x.length / 128/\i.1.1=(k:Int)/\i.1.2.1=st+fx fs k) (λi=>x.length / 128 - i.1.1.toNat) ⟨0,cM _,rfl,by unfold fx;simp⟩ ?_;rintro ⟨⟨i,a,_⟩,_⟩ ⟨k,hk,h1,h2⟩;simp only at h1 h2 ⊢;subst h1 h2;refine ak (λhc=>?_) (λhc=>?_)
 .have hc:(k:Int)< ((x.length / 128:Nat):Int):=of_decide_eq_true hc;obtain ⟨hF,hle⟩:=hI.at (k:=k) (by omega);obtain ⟨p,s,t,hC,_⟩:=hF.cut (zh T 0);exact ⟨p,s,t,_,hl,hC,λ_ _=>ak (λhq=>absurd (of_decide_eq_true hq) (by omega)) (λ_=>⟨by unfold aB;omega,⟨k+1,by omega,by omega,rfl⟩,by omega⟩)⟩
 .have hc:¬(k:Int)< ((x.length / 128:Nat):Int):=of_decide_eq_false hc;obtain rfl:k=x.length / 128:=by omega
  rw [<-hI.len,qx];exact h
def abl:Ct:=cD .u8 λl=>cI λn=>c0 λQ=>1<=n/\Q (.c (.fn 173 [.p 0 0,.p 1 0])) [.cells 35 [.d .u8 l],.cells 3 [.k (.int .i64 n)]]
def Ux:=abZ.add Ru
def FW (l:(List (Ty.u8).den)) (n:Int):dq:=λQ=>cJ l (aB .i64 n->br (decide (n< 1)) False (Q (SV.v (S1.c (Cl.fn (173:Nat) [.p 0 0,.p 1 0]))) [.cells 35 [Cl.d Ty.u8 l],.cells 3 [.k (aC n)]]))
theorem X4:cq 127 abl:=eI<| iH λl=>nF λn=>gx λQ h=>by
 refine Wp.dy Ux cu ⟨[],[]⟩ Tryz.f127 (FW l n) ?_;unfold FW cJ aC
 grind [ak]
def Be:Ct
 | [.v (.c (.p 0 0)),.v (.c cx)],[.cells 157 [.de (.int .u32) T 0 0,.k (.int .i64 fi),.o 1,.m 2],.sl 5 .u8 b,.map 9 .str (.int .i64) M],Q=>(match (Ty.sl Ty.u8).of [cx] with
  | some (x,[])=>((T.length=256/\x.length<=4096/\DW fi b M)/\((0<=fi/\fi<=1000000)/\b.length<=10000000/\M.length<=100000))/\∀ st b' M',DW fi b' M'->(∃ c,b'=b++c)->zB T fi b' st x->b'.length<=b.length+4320->M'.length<=M.length+1->Q (.cC [.c (.k (.int .i64 st)),.c (.d .u8 (x.drop (128*(x.length / 128))))]) [.cells 157 [.de (.int .u32) T 0 0,.k (.int .i64 fi),.o 1,.m 2],.sl 5 .u8 b',.map 9 .str (.int .i64) M']/\Q (.cC [.c (.k (.int .i64 st)),.c (.d .u8 (x.drop (128*(x.length / 128))))]) [.cells 157 [.de (.int .u32) T 0 0,.k (.int .i64 fi),.o 3,.m 2],.gone,.map 9 .str (.int .i64) M',.sl 5 .u8 b']
  | _=>False)
 | _,_,_=>False
def Kh:=Ux.add X4
abbrev MP {A0:Type} (y0:List A0):=ax (gu (ay y0) bE*128)
abbrev IJ {A1:Type} (y0) (y1:List A1):=List.take gf (List.drop (y0*128) (List.take (MP y1) y1))
abbrev qM (y0:List (ByteArray×Int)) (y1:List UInt8):=Kk.get Kk.str y0 (fY y1)
abbrev yf {A0:Type} (y0:List A0):=List.drop (MP y0) y0
def LM (x:(List (Ty.u8).den)) (T:List Int) (fi:Int) (b:List UInt8) (M:(List (ByteArray×Int))):dq:=λQ=>fA x (aJ (bw x)->bE≠ah/\aB .i64 (gu (ay x) bE)/\aB .i64 (gu (ay x) bE*128)/\0<=gu (ay x) bE*128/\gu (ay x) bE*128<=(ay x)/\aW<= 
 bE/\(aW<=bE/\bE<=(1000000000:Int))/\List.length (List.take (MP x) x)<=1000000000000/\aK (λi ag=>br (gH (i.1*128) (List.length (List.take (MP x) x))) (br ((↑(List.length (List.dropWhile Cx 
 (IJ i.1 x))):Int)==0) (dO T (bx<=gf/\∀ (x:List UInt8),D8 T [] x->aJ (bw x)->CN i.2.2.1.1 x (ag (i.1+1,(),(i.2.2.1.1++x,()),())))) (dO T (List.length (IJ i.1 x)<=128/\∀ (zI:List UInt8), 
 D8 T (IJ i.1 x) zI->cW zI (CN i.2.2.1.1 zI (ag (i.1+1,(),(i.2.2.1.1++zI,()),())))))) (0<=gu (ay x) bE*128/\gu (ay x) bE*128<=(ay x)/\fa (List.length (yf x))/\(aJ 
 (List.length (yf x))->aJ (bw i.2.2.1.1)->br ((aP i.2.2.1.1)==0) (Q (.cC [.c (.k aT),S1.c (Cl.d Ty.u8 (yf x))]) [.cells 157 [Cl.de (.int .u32) T ah bx,.k (aC fi),.o 1,Cl.m a7],.sl 5 Ty.u8 b,kT M]) 
 (Ty.ok bq (gB (qM M i.2.2.1.1) ah)->br (!Option.isSome (qM M i.2.2.1.1)) (cW b (aB .i64 (fi+(ay b))/\List.length M< 9223372036854775807/\IC b i.2.2.1.1 (Q (.cC [.c (.k (.int .i64 (fi+(ay b)))), 
 S1.c (Cl.d Ty.u8 (yf x))]) [.cells 157 [Cl.de (.int .u32) T ah bx,.k (aC fi),.o 3,Cl.m a7],.gone,kT (Kk.put Kk.str M (fY i.2.2.1.1) (fi+(ay b))),.sl 5 Ty.u8 (b++i.2.2.1.1)]))) (Q (.cC [.c (.k (.int .i64 
 (gB (qM M i.2.2.1.1) ah))),S1.c (Cl.d Ty.u8 (yf x))]) [.cells 157 [Cl.de (.int .u32) T ah bx,.k (aC fi),.o 1,Cl.m a7],.sl 5 Ty.u8 b,kT M]))))) (bx,(),([],()),()))
theorem Rt:cq 76 Be:=by
 intro args H Q h;unfold Be at h;split at h;rotate_left;cases h;rename_i cx T fi b M;split at h;rotate_left;cases h;rename_i x hx;refine Wp.said (args':=[.v (.c (.p 0 0)),.c (.d Ty.u8 x)]) (λE g=>bA.cE (λ_ h=>h) (bA.cE (dI hx) (λ_ h=>h))) ?_;clear hx;refine Wp.QC (X:=Kh.v cu (chk:=afq)) Kh.ok ⟨[(5,⟨[],[(4,.cells 35 [.own 5 .u8])]⟩)],[]⟩ (fn:=Tryz.f76) (V:=LM x T fi b M) (by kernel_rfl) (λ_=>by kernel_rfl) ?_ (hch:=TO);unfold LM yf Cx IC qM IJ cW CN dO MP fA eC bw cd aT aC ah aW bE aP ay fa aJ bx gf a7 bI kT bq;obtain ⟨⟨⟨hT,hx,hD⟩,⟨f0,f1⟩,hb,hM⟩,h⟩:=h;obtain ⟨c,hc⟩:∃ c,x.length / 128=c:=⟨_,rfl⟩;rw [AU,hc];rw [hc] at h;have hn:(((c:Nat):Int)*128).toNat=128*c:=by omega
 have ht:(x.take (128*c)).length=128*c:=by rw [aF];omega
 rw [hn,ht];refine λ_ _=>⟨by decide,by unfold aB;omega,by unfold aB;omega,by omega,by omega,by decide,⟨by decide,by decide⟩,by omega,?_⟩;refine aK.intro (λi=>i.1<=c/\∃ fs,fs.length=i.1/\zC T x fs/\i.2.2.1.1=fs.flatten) (λi=>c - i.1) ⟨cM _,[],rfl,zC.nil T x,rfl⟩ ?_;rintro ⟨k,_,⟨run,_⟩,_⟩ ⟨hk,fs,h1,h2,h3⟩;simp only at hk h1 h3 ⊢;subst h3;have hlen:=h2.len;refine ak (λhq=>?_) (λhq=>?_)
 .have hkc:k< c:=by have:=eU hq;omega
  have hblk:((x.take (128*c)).drop (k*128)).take 128=lp x k:=by
   rw [Nat.mul_comm k 128];exact WR hkc
  rw [hblk];have step:∀ z,D8 T (zr (lp x k)) z->k+1<=c/\∃ gs,gs.length=k+1/\zC T x gs/\fs.flatten++z=gs.flatten:=λz hz=>⟨hkc,fs++ [z],by simp [h1],h2.step (by rw [h1];exact hz),by simp⟩;refine ak (λhh=>⟨hT,by decide,λz hz _ _=>?_⟩) (λhh=>⟨hT,by rw [rA];omega,λz hz _ _=>?_⟩)
  .have e:=abr hh;have OT:=hz.len.2;rw [aY] at OT;exact ⟨by omega,by omega,step z (by rw [e];exact hz),by omega⟩
  .have e:=abt hh;have OT:=hz.len.2;rw [rA] at OT;exact ⟨by omega,by omega,step z (by rw [e];exact hz),by omega⟩
 .have hkc:c<=k:=by
   rcases eT k c with z| z
   .have:gH (k*128) (128*c)=true:=Nat.ble_eq_true_of_le (by omega);rw [this] at hq;cases hq
   .exact z
  obtain rfl:k=c:=by omega
  refine ⟨by omega,by omega,by rw [aR];omega,λ_ _=>ak (λhz=>?_) (λhz=>λ_=>ak (λhg=>?_) (λhg=>?_))⟩
  .have hz:(fs.flatten.length:Int)=0:=eq_of_beq hz;exact (h 0 b M hD ⟨[],by simp⟩ ⟨.inl ⟨by omega,rfl⟩⟩ (by omega) (by omega)).1
  .have hz:¬(fs.flatten.length:Int)=0:=by simpa using hz
   have JF:=MX M (fY fs.flatten) (fi+(b.length:Int));exact λ_=>⟨by unfold aB;omega,by omega,by omega,by omega,(h _ _ _ hD.put ⟨_,rfl⟩ ⟨.inr ⟨by omega,b.length,rfl,fs,[],by omega,h2,by rw [lR,bf],by rw [af];omega⟩⟩ (by rw [af];omega) JF).2⟩
  .have hz:¬(fs.flatten.length:Int)=0:=by simpa using hz
   obtain ⟨v,hv⟩:=mS.1 (show (Kk.get .str M (fY fs.flatten)).isSome=true by simpa using hg);rw [hv];obtain ⟨o,ho,r,hr,hle⟩:=hD.get hv;exact (h v b M hD ⟨[],by simp⟩ ⟨.inr ⟨by omega,o,ho,fs,r,by omega,h2,hr,hle⟩⟩ (by omega) (by omega)).1
def Oz:Ct
 | [.v (.c (.p 0 0)),.v (.c cx)],[.abs a],Q=>(match (Ty.sl Ty.u8).of [cx] with
  | some (x,[])=>∃ T fi b M,a=j4 [.cells 157 [.de (.int .u32) T 0 0,.k (.int .i64 fi),.o 1,.m 2],.sl 5 .u8 b,.map 9 .str (.int .i64) M]/\((T.length=256/\x.length<=4096/\DW fi b M)/\((0<=fi/\fi<=1000000)/\b.length<=10000000/\M.length<=100000))/\∀ st b' M',DW fi b' M'->(∃ c,b'=b++c)->zB T fi b' st x->b'.length<=b.length+4320->M'.length<=M.length+1->Q (.cC [.c (.k (.int .i64 st)),.c (.d .u8 (x.drop (128*(x.length / 128))))]) [.abs (j4 [.cells 157 [.de (.int .u32) T 0 0,.k (.int .i64 fi),.o 1,.m 2],.sl 5 .u8 b',.map 9 .str (.int .i64) M'])]
  | _=>False)
 | _,_,_=>False
theorem KV:cq 76 Oz:=by
 intro args H Q h;unfold Oz at h;split at h;rotate_left;cases h;split at h;rotate_left;cases h;rename_i x hx;obtain ⟨T,fi,b,M,rfl,h0,h⟩:=h;refine Wp.sel (Wp.aan (Wp.Zo (p:=0) (L:=[.cells 157 [.de (.int .u32) T 0 0,.k (.int .i64 fi),.o 1,.m 2],.sl 5 .u8 b,.map 9 .str (.int .i64) M]) rfl (fy _) (Rt _ _ _ ?_)));show Be _ [.cells 157 [.de (.int .u32) T 0 0,.k (.int .i64 fi),.o 1,.m 2],.sl 5 .u8 b,.map 9 .str (.int .i64) M] _;unfold Be;simp only [hx];refine ⟨h0,λst b' M' h1 h2 h3 h4 h5=>?_⟩;have h6:=h st b' M' h1 h2 h3 h4 h5;exact ⟨⟨0,[1,2],by decide,nH rfl,[0],rfl,by decide,nH rfl,h6⟩,⟨0,[3,2],by decide,nH rfl,[0],rfl,by decide,nH rfl,h6⟩⟩
def afX:Ct:=cT λT=>cD .u8 λim=>cI λst=>cI λsz=>cI λoff=>cI λn=>c0 λQ=>T.length=256/\im.length<=100000000/\∃ x fs,D7 T im st x fs/\sz=x.length/\x.length<=4096/\0<=off/\(0<=n/\n<=4096)/\Q (.cC [.c (.o 0),.c (.k (.int .i64 0))]) [.sl 5 .u8 (((x.take (128*(x.length / 128))).drop off.toNat).take n.toNat)]
def Uw:=(Kh.add Rt).add KV
abbrev Cp (y0:Int) (y1):=List.drop (ax (max ah (y0 - y1))) (au gf (0:Ty.den Ty.u8))
abbrev agq {A3 A7:Type} (y0:Int) (y1) (y2) (y3:List A3) (y4:Int) (y5:Int) (y6:_->Prop) (y7:A7):=aJ (List.length (List.drop (ax (max ah (y0 - y1))) y2))->aJ (List.length y3)->aB .i64 (min y4 (gu y5 bE*128 - y0) - (aP y3))/\0<=min (aP (List.drop (ax (max ah (y0 - y1))) y2)) (min y4 (gu y5 bE*128 - y0) - (aP y3))/\min (aP (List.drop (ax (max ah (y0 - y1))) y2)) (min y4 (gu y5 bE*128 - y0) - (aP y3))<=(aP (List.drop (ax (max ah (y0 - y1))) y2))/\(List.length y3+List.length (List.take (ax (min (aP (List.drop (ax (max ah (y0 - y1))) y2)) (min y4 (gu y5 bE*128 - y0) - (aP y3)))) (List.drop (ax (max ah (y0 - y1))) y2)))*1<=(140737488355328:Nat)/\List.length y3+List.length (List.take (ax (min (aP (List.drop (ax (max ah (y0 - y1))) y2)) (min y4 (gu y5 bE*128 - y0) - (aP y3)))) (List.drop (ax (max ah (y0 - y1))) y2))<=9223372036854775807/\aB .i64 (y1+128)/\y6 ((y3++List.take (ax (min (aP (List.drop (ax (max ah (y0 - y1))) y2)) (min y4 (gu y5 bE*128 - y0) - (aP y3)))) (List.drop (ax (max ah (y0 - y1))) y2),y1+128,y7,()),())
abbrev Zb {A7:Type} (y0) (y1:Int) (y2) (y3) (y4:Int) (y5:Int) (y6:_->Prop) (y7:A7):=aJ (List.length y0)->br ((ay y0)==0) (bE=bE/\ah<=bE/\bE<=(140737488355328:Int)/\aB .i64 (y1 - y2)/\0<=max ah (y1 - y2)/\max ah (y1 - y2)<=(↑gf:Int)/\(aJ (List.length (Cp y1 y2))->aJ (List.length y3)->aB .i64 (min y4 (gu y5 bE*128 - y1) - (aP y3))/\0<=min (aP (Cp y1 y2)) (min y4 (gu y5 bE*128 - y1) - (aP y3))/\min (aP (Cp y1 y2)) (min y4 (gu y5 bE*128 - y1) - (aP y3))<=(aP (Cp y1 y2))/\(List.length y3+List.length (List.take (ax (min (aP (Cp y1 y2)) (min y4 (gu y5 bE*128 - y1) - (aP y3)))) (Cp y1 y2)))*1<=(140737488355328:Nat)/\List.length y3+List.length (List.take (ax (min (aP (Cp y1 y2)) (min y4 (gu y5 bE*128 - y1) - (aP y3)))) (Cp y1 y2))<=9223372036854775807/\aB .i64 (y2+128)/\y6 ((y3++List.take (ax (min (aP (Cp y1 y2)) (min y4 (gu y5 bE*128 - y1) - (aP y3)))) (Cp y1 y2),y2+128,y7,()),()))) (aB .i64 (y1 - y2)/\0<=max ah (y1 - y2)/\max ah (y1 - y2)<=(ay y0)/\(agq y1 y2 y0 y3 y4 y5 y6 y7))
abbrev tb (y0:SV->List HO->Prop):=y0 (.cC [.c dD,.c (.k (.int .i64 35))]) []
abbrev ID (y0:Int) (R:Prop):=bE≠ah/\aB .i64 (gu y0 bE)/\aB .i64 (gu y0 bE*128)/\R
def LO (T:List Int) (im:(List (Ty.u8).den)) (st sz off n:Int):dq:=λQ=>cJ im (cr st sz off (aB .i64 n->br (cL sz) (Q kD []) (br (cL off) (Q kD []) (br (cL n) (Q kD []) (br (decide (sz>4096)) (Q kD []) (ID sz (br (decide (off≥gu sz bE 
 *128)) (Q (.cC [.c dD,.c (.k aT)]) []) (aB .i64 (gu sz bE*128 - off)/\aK (λi ag=>fA i.1.1 (br (decide ((aP i.1.1)< min n (gu sz bE*128 - off))) (aB .i64 (i.1.2.1+128)/\br (decide 
 (i.1.2.1+128<=off)) (∃ p s st nx,iw im (Cut im i.1.2.2.1 p s st nx/\(aB .i64 nx->aB .i64 0->aB .i64 (i.1.2.1+128)/\ag ((i.1.1,i.1.2.1+128,nx,()),())))) (dO T (iw im (∃ z nx e,FrE T im i.1.2.2.1 z nx e/\(aJ 
 (bw z)->bZ nx e (br (e !=0) (tb Q) (aJ (bw z)->br ((ay z) !=0) (aJ (bw z)->br ((ay z) !=128) (tb Q) (Zb z off i.1.2.1 i.1.1 n sz ag nx)) (Zb z off i.1.2.1 i.1.1 n sz ag nx)))))))) (Q lD [.sl 5 
 Ty.u8 i.1.1]))) (([],ah,st,()),())))))))))
theorem Rv:cq 32 afX:=eI<| okT λT=>iH λim=>nF λst=>nF λsz=>nF λoff=>nF λn=>gx λQ h=>by
 refine (λhh=>Wp.sel (Wp.aey (t:=5) (e:=.u8) hh)) ?_;refine Wp.dy Uw cu ⟨[(10,⟨[(15,.own 5 .u8),(16,.int .i64),(2,.int .i64)],[]⟩)],[]⟩ Tryz.f32 (LO T im st sz off n) (mkd:=true) ?_;unfold LO ID iw lD tb bZ cL dO fA kD bw cJ dD aT cr Zb agq Cp ah bE aP ay aJ gf bI;obtain ⟨hT,hl,x,fs,hI,rfl,hx,o0,⟨n0,n1⟩,h⟩:=h;obtain ⟨o,rfl⟩:∃ o:Nat,off=(o:Int):=⟨off.toNat,by omega⟩;obtain ⟨q,rfl⟩:∃ q:Nat,n=(q:Int):=⟨n.toNat,by omega⟩;obtain ⟨c,hc⟩:∃ c,x.length / 128=c:=⟨_,rfl⟩;have hs0:=hI.st0;rw [AU,hc];rw [hc] at h;simp only [bL] at h;refine λ_ _ _ _ _=>ak (λhq=>absurd (of_decide_eq_true hq) (by omega)) (λ_=>ak (λhq=>absurd (of_decide_eq_true hq) (by omega)) (λ_=>ak (λhq=>absurd (of_decide_eq_true hq) (by omega)) (λ_=>ak (λhq=>absurd (of_decide_eq_true hq) (by omega)) (λ_=>⟨by decide,by unfold aB;omega,by unfold aB;omega,ak (λhq=>?_) (λhq=>⟨by have:=of_decide_eq_false hq;unfold aB;omega,?_⟩)⟩))))
 .have hq:(o:Int)≥(c:Int)*128:=of_decide_eq_true hq;rw [List.drop_of_length_le (by rw [aF];omega),List.take_nil] at h;exact .inr ⟨0,rfl,[0],rfl,by decide,nH rfl,h⟩
 have hq:¬(o:Int)≥(c:Int)*128:=of_decide_eq_false hq;obtain ⟨m,hm⟩:∃ m:Nat,min (q:Int) ((c:Int)*128 - o)=(m:Int):=⟨min q (128*c - o),by omega⟩;rw [hm];have e:((x.take (128*c)).drop o).take q=(x.drop o).take m:=by rw [lQ,o8];congr 1;omega
 rw [e] at h;refine aK.intro (λi=>∃ k:Nat,k<=c/\i.1.2.1=((128*k:Nat):Int)/\i.1.2.2.1=st+fx fs k/\i.1.1=(x.drop o).take (min m (128*k - o))) (λi=>c - (i.1.2.1 / 128).toNat) ⟨0,cM _,rfl,by unfold fx;simp,by simp⟩ ?_;rintro ⟨⟨out,fi,a,_⟩,_⟩ ⟨k,hk,h1,h2,h3⟩;simp only at h1 h2 h3 ⊢;subst h1 h2 h3;have pL:((x.drop o).take (min m (128*k - o))).length=min m (128*k - o):=by rw [aF,aR];omega
 rw [pL];refine λ_=>ak (λhd=>?_) (λhd=>?_)
 .have hd:((min m (128*k - o):Nat):Int)< m:=of_decide_eq_true hd;have hkc:k< c:=by omega
  obtain ⟨hF,hle⟩:=hI.at (k:=k) (by omega);refine ⟨by unfold aB;omega,ak (λhe=>?_) (λhe=>?_)⟩
  .have he:((128*k:Nat):Int)+128<=o:=of_decide_eq_true he;obtain ⟨p,s,t,hC,_⟩:=hF.cut (zh T 0);exact ⟨p,s,t,_,hl,hC,λ_ _=>⟨by unfold aB;omega,⟨k+1,hkc,by omega,rfl,by rw [show min m (128*k - o)=0 by omega,show min m (128*(k+1) - o)=0 by omega]⟩,by omega⟩⟩
  .have he:¬((128*k:Nat):Int)+128<=o:=of_decide_eq_false he;have hb:(lp x k).length=128:=by rw [rA];omega
   have mx:max (0:Int) ((o:Int) - ((128*k:Nat):Int))=((o - 128*k:Nat):Int):=by omega
   have hdl:((lp x k).drop (o - 128*k)).length=128 - (o - 128*k):=by rw [aR,hb]
   have mn:min (((128 - (o - 128*k):Nat)):Int) ((m:Int) - ((min m (128*k - o):Nat):Int))=((min (128 - (o - 128*k)) (m - min m (128*k - o)):Nat):Int):=by omega
   have fin:=VD (x:=x) (off:=o) (m:=m) (k:=k) (by omega) (by omega) (by omega);rw [hb] at fin;refine ⟨hT,hl,_,_,0,⟨.inr ⟨rfl,hF⟩⟩,λ_ _ _=>ak (λhq=>by cases hq) (λ_=>?_)⟩;rcases WQ (b:=lp x k) with ⟨e1,e2⟩| e1
   .rw [hb] at e2;rw [e1];refine λ_=>ak (λhq=>by cases hq) (λ_=>λ_=>ak (λ_=>⟨by trivial,by decide,by decide,?_⟩) (λhq=>by cases hq));have e3:au 128 (0:Ty.den Ty.u8)=lp x k:=e2.symm;rw [e3];rw [mx,bL];rw [hdl];rw [mn,bL];refine ⟨by unfold aB;omega,by omega,by omega,λ_ _=>⟨by unfold aB;omega,by omega,by omega,?_,?_,by unfold aB;omega,⟨k+1,by omega,by omega,rfl,fin⟩,by omega⟩⟩
    .rw [aF,hdl];omega
    .rw [aF,hdl];omega
   .rw [e1];have hbi:((lp x k).length:Int)=128:=by omega
    rw [hbi];refine λ_=>ak (λ_=>λ_=>ak (λhq=>by cases hq) (λ_=>λ_=>ak (λhq=>by cases hq) (λ_=>?_))) (λhq=>by cases hq);rw [mx,bL];rw [hdl];rw [mn,bL];refine ⟨by unfold aB;omega,by omega,by omega,λ_ _=>⟨by unfold aB;omega,by omega,by omega,?_,?_,by unfold aB;omega,⟨k+1,by omega,by omega,rfl,fin⟩,by omega⟩⟩;rw [aF,hdl];omega;rw [aF,hdl];omega
 .have hd:¬((min m (128*k - o):Nat):Int)< m:=of_decide_eq_false hd;rw [show min m (128*k - o)=m by omega];exact .inl ⟨[0],rfl,by decide,nH rfl,h⟩
def abf:Ct:=λargs H Q=>Ug args H (uK 0 [2,1] [0] H.length Q)
theorem KS:cq 49 abf:=λargs H Q h=>Wp.ZB (Rs _ _ _ h)
def DK:Ct
 | .v (.c (.p 0 0))::vs,[.abs a],Q=>∃ (T:List Int) (fi:Int) (b:List UInt8) (M:List (ByteArray×Int)),a=j4 [.cells 157 [.de (.int .u32) T 0 0,.k (.int .i64 fi),.o 1,.m 2],.sl 5 .u8 b,.map 9 .str (.int .i64) M]/\Hx (.v (.c (.p 0 0))::vs) [.cells 157 [.de (.int .u32) T 0 0,.k (.int .i64 fi),.o 1,.m 2],.sl 5 .u8 b,.map 9 .str (.int .i64) M] (uK 0 [3,2] [0] 1 Q)
 | _,_,_=>False
theorem Bm:cq 79 DK:=λargs H Q h=>by
 unfold DK at h;split at h
 .obtain ⟨T,fi,b,M,rfl,h⟩:=h;exact Wp.DO (q:=0) (L:=[.cells 157 [.de (.int .u32) T 0 0,.k (.int .i64 fi),.o 1,.m 2],.sl 5 .u8 b,.map 9 .str (.int .i64) M]) rfl (fy _) (E7 _ _ _ h)
 grind
def Hy:Ct
 | .v (.c (.p 0 0))::vs,[.abs a],Q=>∃ (T:List Int) (fi:Int) (b:List UInt8) (M:List (ByteArray×Int)),a=j4 [.cells 157 [.de (.int .u32) T 0 0,.k (.int .i64 fi),.o 1,.m 2],.sl 5 .u8 b,.map 9 .str (.int .i64) M]/\Oy (.v (.c (.p 0 0))::vs) [.cells 157 [.de (.int .u32) T 0 0,.k (.int .i64 fi),.o 1,.m 2],.sl 5 .u8 b,.map 9 .str (.int .i64) M] (uK 0 [1,2] [0] 1 Q)
 | _,_,_=>False
theorem E8:cq 56 Hy:=λargs H Q h=>by
 unfold Hy at h;split at h
 .obtain ⟨T,fi,b,M,rfl,h⟩:=h;exact Wp.DO (q:=0) (L:=[.cells 157 [.de (.int .u32) T 0 0,.k (.int .i64 fi),.o 1,.m 2],.sl 5 .u8 b,.map 9 .str (.int .i64) M]) rfl (fy _) (KU _ _ _ h)
 grind
def Ud:Ct:=c0 λQ=>Q (.c (.p 0 0)) [.cells 213 [.o 1,.o 2],.sl 5 .u8 [],.sl 3 (.int .i64) []]
def Uv:=(((Uw.add Rv).add KS).add Bm).add E8
def LH:dq:=
 λQ=>Q (SV.v (S1.c (.p 0 0))) [.cells 213 [.k eP,.k eP]]
theorem Rp:cq 75 Ud:=eI<| gx λQ h=>by
 refine (λhh=>Wp.xy (p:=0) (t:=213) (tt:=3) (e:=.int .i64) (Wp.xy (p:=0) (t:=213) (tt:=5) (e:=.u8) hh)) ?_;refine Wp.dy Uv cu ⟨[],[]⟩ Tryz.f75 LH ?_;unfold LH eP;exact ⟨[],[_],rfl,[_],[],rfl,h⟩
def Bd:Ct
 | [.v (.c (.p 0 0)),.v (.c cx)],[.cells 213 [.o 1,.o 2],.sl 5 .u8 row,.sl 3 (.int .i64) bg],Q=>(match (Ty.sl Ty.u8).of [cx] with
  | some (x,[])=>(AR row bg/\row.length<=10000000/\bg.length<=100000/\x.length< 128)/\∀ nu off lz zt,AR lz zt->oZ lz zt nu off x->(∀ nu off u,oZ row bg nu off u->oZ lz zt nu off u)->lz.length<=row.length+128->zt.length<=bg.length+1->Q (.cC [.c (.k (.int .i64 nu)),.c (.k (.int .i64 off))]) [.cells 213 [.o 1,.o 2],.sl 5 .u8 lz,.sl 3 (.int .i64) zt]/\Q (.cC [.c (.k (.int .i64 nu)),.c (.k (.int .i64 off))]) [.cells 213 [.o 3,.o 4],.gone,.gone,.sl 5 .u8 lz,.sl 3 (.int .i64) zt]/\Q (.cC [.c (.k (.int .i64 nu)),.c (.k (.int .i64 off))]) [.cells 213 [.o 3,.o 2],.gone,.sl 3 (.int .i64) zt,.sl 5 .u8 lz]
  | _=>False)
 | _,_,_=>False
def Uu:=Uv.add Rp
abbrev Za (y0:List UInt8) (y1:List Int) (y2:List (Ty.u8).den) (y3:SV->List HO->Prop):=aJ (List.length y0)->(List.length y1+List.length [(ay y0)])*8<=(140737488355328:Nat)/\List.length y1+List.length [(ay y0)]<=9223372036854775807/\aB .i64 ((ay y1)+1)/\(aJ (List.length y0)->aB .i64 ((ay y1)+1 - 1)/\ah<=(ay y1)+1 - 1/\(ay y1)+1 - 1< (aP (y1++ [(ay y0)]))/\ah<=(ay y1)+1 - 1/\(ay y1)+1 - 1< (aP (y1++ [(ay y0)]))/\(Ty.ok bq (aA bq (y1++ [(ay y0)]) ((ay y1)+1 - 1))->aB .i64 ((ay y0) - aA bq (y1++ [(ay y0)]) ((ay y1)+1 - 1))/\(List.length y0+List.length y2)*1<=(140737488355328:Nat)/\List.length y0+List.length y2<=9223372036854775807/\y3 (.cC [.c (.k (.int .i64 ((ay y1)+1))),.c (.k (.int .i64 ((ay y0) - aA bq (y1++ [(ay y0)]) ((ay y1)+1 - 1))))]) [.cells 213 [.o 3,.o 4],.gone,.gone,.sl 5 Ty.u8 (y0++y2),.sl 3 bq (y1++ [(ay y0)])]))
def LI (x:(List (Ty.u8).den)) (row:List UInt8) (bg:List Int):dq:=λQ=>cJ x (aJ (dr x)->br (decide ((ay x)< aW)) (Q yu [.cells 213 [.o 1,.o 2],.sl 5 Ty.u8 row,.sl 3 bq bg]) (aJ (dr x)->br (decide ((ay x)≥bE)) (Q yu [.cells 213 [.o 1,.o 2],.sl 5 
 Ty.u8 row,.sl 3 bq bg]) (aJ (List.length bg)->br ((ay bg)==0) (Za row bg x Q) (cW row (aB .i64 ((ay bg) - 1)/\ah<=(ay bg) - 1/\(ay bg) - 1< (ay bg)/\ah<=(ay bg) - 1/\(ay bg) - 1< (ay bg)/\ 
 (Ty.ok bq (aA bq bg ((ay bg) - 1))->aB .i64 ((ay row) - aA bq bg ((ay bg) - 1))/\(aJ (dr x)->aB .i64 ((ay row) - aA bq bg ((ay bg) - 1)+(ay x))/\br (decide ((ay row) - aA bq bg ((ay bg) - 1)+ 
 (ay x)>bE)) (Za row bg x Q) (cW row (aB .i64 ((ay bg) - 1)/\ah<=(ay bg) - 1/\(ay bg) - 1< (ay bg)/\ah<=(ay bg) - 1/\(ay bg) - 1< (ay bg)/\(Ty.ok bq (aA bq bg ((ay bg) - 1))->aB .i64 
 ((ay row) - aA bq bg ((ay bg) - 1))/\yD row x (Q (.cC [.c (.k (.int .i64 (ay bg))),.c (.k (.int .i64 ((ay row) - aA bq bg ((ay bg) - 1))))]) [.cells 213 [.o 3,.o 2],.gone,.sl 3 bq bg,.sl 5 Ty.u8 (row++ 
 x)])))))))))))
theorem Rq:cq 77 Bd:=by
 intro args H Q h;unfold Bd at h;split at h;rotate_left;cases h;rename_i cx row bg;split at h;rotate_left;cases h;rename_i x hx;refine Wp.said (args':=[.v (.c (.p 0 0)),.c (.d Ty.u8 x)]) (λE g=>bA.cE (λ_ h=>h) (bA.cE (dI hx) (λ_ h=>h))) ?_;clear hx;refine Wp.dy Uu cu ⟨[],[]⟩ Tryz.f77 (LI x row bg) ?_;unfold LI yu dr yD cW cd cJ Za aT ah aW bE aP ay aJ bq;obtain ⟨⟨hF,hr,hb,hx⟩,h⟩:=h;refine λ_ _=>ak (λhc=>?_) (λhc=>λ_=>ak (λhd=>absurd (of_decide_eq_true hd) (by omega)) (λ_=>λ_=>?_))
 .have hc:(x.length:Int)< 1:=of_decide_eq_true hc;obtain rfl:x= []:=bB (by omega);exact (h 0 0 row bg hF ⟨.inl ⟨rfl,rfl,rfl⟩⟩ (λ_ _ _ q=>q) (by omega) (by omega)).1
 have hc:¬(x.length:Int)< 1:=of_decide_eq_false hc;obtain ⟨m1,m2,m3⟩:=hF.next (t:=x) (by omega) hx
 have uJ:=(h _ _ _ _ m1 m2 m3 (by rw [af];omega) (by simp)).2.1;have e1:(bg++ [(row.length:Int)]).length=bg.length+1:=by simp
 have e2:aA (.int .i64) (bg++ [(row.length:Int)]) ((bg.length:Int)+1 - 1)=row.length:=by
  rw [show (bg.length:Int)+1 - 1=bg.length by omega,gP (by rw [e1];omega)];simp
 have go:(List.length bg+List.length [(row.length:Int)])*8<=140737488355328/\List.length bg+List.length [(row.length:Int)]<=9223372036854775807/\aB .i64 ((bg.length:Int)+1):=⟨by simp only [aE];omega,by simp only [aE];omega,by unfold aB;omega⟩;refine ak (λhz=>λ_=>⟨go.1,go.2.1,go.2.2,λ_=>?_⟩) (λhz=>λ_=>?_)
 .rw [e2,e1];exact ⟨by unfold aB;omega,by omega,by omega,by omega,by omega,λ_=>⟨by unfold aB;omega,by omega,by omega,by rw [Int.sub_self];exact uJ⟩⟩
 have hz:¬(bg.length:Int)=0:=by simpa using hz
 obtain ⟨n,hn⟩:∃ n,bg.length=n+1:=⟨bg.length - 1,by omega⟩;have hg:=aq (show n< bg.length by omega);have hl:=hF.all n bg[n] hg;rw [qt hn] at hl;have e3:aA (.int .i64) bg ((bg.length:Int) - 1)=bg[n]:=by
  rw [show (bg.length:Int) - 1=(n:Nat) by omega,gP (by omega)]
 rw [e3];refine ⟨by unfold aB;omega,by omega,by omega,by omega,by omega,λ_=>⟨by unfold aB;omega,λ_=>⟨by unfold aB;omega,ak (λhd=>λ_=>⟨go.1,go.2.1,go.2.2,λ_=>?_⟩) (λhd=>λ_=>?_)⟩⟩⟩
 .rw [e2,e1];exact ⟨by unfold aB;omega,by omega,by omega,by omega,by omega,λ_=>⟨by unfold aB;omega,by omega,by omega,by rw [Int.sub_self];exact uJ⟩⟩
 .have hd:¬(row.length:Int) - bg[n]+x.length>128:=of_decide_eq_false hd;obtain ⟨k1,k2,k3⟩:=hF.more (t:=x) hn hg (by omega) hx (by omega);have hold:=(h _ _ _ _ k1 k2 k3 (by rw [af];omega) (by omega)).2.2;rw [show (n:Int)+1=bg.length by omega] at hold;exact ⟨by unfold aB;omega,by omega,by omega,by omega,by omega,λ_=>⟨by unfold aB;omega,by omega,by omega,hold⟩⟩
def DJ:Ct:=cP<| cO λH Q=>match H with
 | [.cells 213 [.o 1,.o 2],.sl 5 .u8 row,.sl 3 (.int .i64) bg]=>(AR row bg/\row.length<=10000000/\bg.length<=100000)/\Q (.c (.d (.sl .u8) (lZ row bg bg.length))) [.cells 213 [.o 1,.o 2],.sl 5 .u8 row,.sl 3 (.int .i64) bg]
 | _=>False
def Ut:=Uu.add Rq
abbrev Gv (y0:List Int) (y1):=bX (some (aA bq y0 y1)) ah
abbrev vE (y0:List Int) (y1) (y2:List UInt8):=List.drop (ax (Gv y0 y1)) y2
abbrev IH (y0:List Int) (y1):=ax (aA bq y0 (y1+1)) - ax (Gv y0 y1)
def zP (row:List UInt8) (bg:List Int):dq:=λQ=>List.length row<=140737488355328/\(cW row (aJ (List.length bg)->aK (λi ag=>br (decide (i.1.1< (ay bg))) (0<=i.1.1/\i.1.1< (ay bg)/\0<=i.1.1/\i.1.1< (ay bg)/\(Ty.ok bq (aA bq bg i.1.1)-> 
 cW row (cj i.1.1 (aJ (List.length bg)->br (decide (i.1.1+1< (ay bg))) (cj i.1.1 (0<=i.1.1+1/\i.1.1+1< (ay bg)/\0<=i.1.1+1/\i.1.1+1< (ay bg)/\(Ty.ok bq (aA bq bg (i.1.1+1))->0<=bX (some (aA 
 bq bg i.1.1)) ah/\bX (some (aA bq bg i.1.1)) 0<=aA bq bg (i.1.1+1)/\aA bq bg (i.1.1+1)<=aA bq bg (i.1.1+1)/\aA bq bg (i.1.1+1)<=(ay row)/\(List.length i.1.2.1+List.length [List.take (IH bg 
 i.1.1) (vE bg i.1.1 row)])*24<=cd/\List.length i.1.2.1+List.length [List.take (IH bg i.1.1) (vE bg i.1.1 row)]<=9223372036854775807/\cj i.1.1 (ag ((i.1.1+1,i.1.2.1++ [List.take (IH bg i.1.1) (vE bg 
 i.1.1 row)],()),()))))) (0<=bX (some (aA bq bg i.1.1)) ah/\bX (some (aA bq bg i.1.1)) ah<=(ay row)/\(ay row)<=(ay row)/\(ay row)<=(ay row)/\(List.length i.1.2.1+List.length [List.take (ax 
 (ay row) - ax (Gv bg i.1.1)) (vE bg i.1.1 row)])*24<=cd/\List.length i.1.2.1+List.length [List.take (ax (ay row) - ax (Gv bg i.1.1)) (vE bg i.1.1 row)]<=9223372036854775807/\cj i.1.1 (ag 
 ((i.1.1+1,i.1.2.1++ [List.take (ax (ay row) - ax (Gv bg i.1.1)) (vE bg i.1.1 row)],()),()))))))) (Q (SV.v (S1.c (.o 3))) [.cells 213 [.o 1,.o 2],.sl 5 Ty.u8 row,.sl 3 bq bg,.sl 35 bC i.1.2.1])) ((ah, 
 [],()),())))
theorem Bl:cq 78 DJ:=eI<| rZ<| r5 λH Q h=>by
 split at h;rotate_left;cases h;rename_i row bg;refine Wp.kE [some (.sl (.sl .u8))] [3] ?_;refine Wp.dy Ut cu ⟨[(5,⟨[(18,.int .i64),(3,.own 35 (.sl .u8))],[]⟩)],[]⟩ Tryz.f78 (zP row bg) ?_;unfold zP IH vE cW Gv cj cd ah ay aJ bC bq;obtain ⟨⟨hF,hr,hb⟩,h⟩:=h;refine ⟨by omega,λ_ _=>aK.intro (λi=>∃ k:Nat,k<=bg.length/\i.1.1=(k:Int)/\i.1.2.1=lZ row bg k) (λi=>bg.length - i.1.1.toNat) ⟨0,cM _,rfl,rfl⟩ ?_⟩;rintro ⟨⟨j,l,_⟩,_⟩ ⟨k,hk,h1,h2⟩;simp only at h1 h2 ⊢;subst h1 h2;have hl:=qw row bg k;refine ak (λhc=>?_) (λhc=>?_)
 .have hc:(k:Int)< bg.length:=of_decide_eq_true hc;have r7:k< bg.length:=by omega
  have hg:=aq r7;have ha:=hF.all k bg[k] hg;have hs:=QW row bg k;rw [hg,Option.getD_some] at hs;rw [gP (e:=.int .i64) r7];have b0:bX (some bg[k]) 0=bg[k]:=rfl;have fin:∀ z:Int,z=oT row bg k->lZ row bg k++ [List.take (z.toNat - bg[k].toNat) (List.drop bg[k].toNat row)]=lZ row bg (k+1):=λz e=>by
   rw [hs,e,show (oT row bg k).toNat - bg[k].toNat=(oT row bg k - bg[k]).toNat by omega]
  refine ⟨by omega,hc,by omega,hc,λ_ _=>⟨by unfold aB;omega,λ_=>ak (λhd=>?_) (λhd=>?_)⟩⟩
  .have hd:(k:Int)+1< bg.length:=of_decide_eq_true hd;have he:aA (.int .i64) bg ((k:Int)+1)=oT row bg k:=by
    have:=gP (e:=.int .i64) (l:=bg) (k:=k+1) (by omega);unfold oT;rw [aq (show k+1< bg.length by omega)];exact this
   rw [he];exact ⟨by unfold aB;omega,by omega,hd,by omega,hd,λ_=>⟨by omega,by omega,bh _,ha.2.2.2,by simp only [aE];omega,by simp only [aE];omega,by unfold aB;omega,⟨k+1,by omega,by omega,fin _ rfl⟩,by omega⟩⟩
  .have hd:¬(k:Int)+1< bg.length:=of_decide_eq_false hd;have he:(row.length:Int)=oT row bg k:=by rw [qt (by omega)]
   exact ⟨by omega,by omega,by omega,bh _,by simp only [aE];omega,by simp only [aE];omega,by unfold aB;omega,⟨k+1,by omega,by omega,fin _ he⟩,by omega⟩
 .have hc:¬(k:Int)< bg.length:=of_decide_eq_false hc;obtain rfl:k=bg.length:=by omega
  exact ⟨by show 3<=4;decide,h⟩
def wc:Ct
 | [.v (.c (.de (.int .u32) T 0 0)),.v (.c cim),.v (.c cpl),.v (.c (.k (.int .i64 nu))),.v (.c (.k (.int .i64 off))),.v (.c (.k (.int .i64 n)))],[],Q=>(match (Ty.sl Ty.u8).of [cim] with
  | some (im,[])=>(match (Ty.sl (Ty.int .i64)).of [cpl] with
  | some (pl,[])=>(T.length=256/\im.length<=100000000/\pl.length<=100000)/\∃ (i:Nat) (a:Int) (z:List UInt8) (nx:Int),nu=(i:Int)+1/\pl[i]?=some a/\EF T im a z nx/\0< z.length/\z.length<=128/\0<=off/\0<=n/\off+n<=z.length/\Q (.cC [.c (.d .u8 ((z.drop off.toNat).take n.toNat)),.c (.k (.int .i64 0))]) []
  | _=>False)
  | _=>False)
 | _,_,_=>False
def af6:=Ut.add Bl
abbrev IN {A2:Type} (y0:Int) (y1:Int) (y2:List A2):=List.take (ax (y0+y1) - ax y0) (List.drop (aS y0) y2)
def zO (T:List Int) (im:(List (Ty.u8).den)) (pl:(List ((Ty.int .i64)).den)) (nu off n:Int):dq:=λQ=>cJ im (aJ (List.length pl)->cr nu off n (br (decide (nu< 1)) (Q kD []) (aJ (List.length pl)->br (decide (nu>(ay pl))) (Q kD []) (br (cL off) (Q kD []) (br (cL n) (Q kD []) (aB 
 .i64 (nu - 1)/\0<=nu - 1/\nu - 1< (ay pl)/\(Ty.ok bq (jR pl nu)->dO T (iw im (∃ z nx e,FrE T im (jR pl nu) z nx e/\(aJ (bw z)->bZ nx e (br (e !=0) (tb Q) (aJ (bw z)->br ((ay z)==0) (tb 
 Q) (aJ (bw z)->br (decide (off>(ay z))) (tb Q) (aJ (bw z)->aB .i64 ((ay z) - off)/\br (decide (n>(ay z) - off)) (tb Q) (aB .i64 (off+n)/\0<=off/\off<=off+n/\off+n<=(ay z)/\fa (List.length 
 (IN off n z))/\(aJ (List.length (IN off n z))->Q (SV.cC [S1.c (Cl.d Ty.u8 (IN off n z)),.c (.k aT)]) []))))))))))))))))
theorem O1:cq 33 wc:=by
 intro args H Q h;unfold wc at h;split at h;rotate_left;cases h;rename_i T cim cpl nu off n;split at h;rotate_left;cases h;rename_i im Xh;split at h;rotate_left;cases h;rename_i pl JF;refine Wp.said (args':=[.v (.c (.de (.int .u32) T 0 0)),.c (.d Ty.u8 im),.c (.d (Ty.int .i64) pl),.int nu,.int off,.int n]) (λE g=>bA.cE (λ_ h=>h) (bA.cE (dI Xh) (bA.cE (dI JF) (bA.cE (λ_ h=>h) (bA.cE (λ_ h=>h) (bA.cE (λ_ h=>h) (λ_ h=>h))))))) ?_;clear Xh JF;refine Wp.kE [some (.sl .u8),none] [] ?_;refine Wp.dy af6 cu ⟨[],[]⟩ Tryz.f33 (zO T im pl nu off n) ?_;unfold zO jR iw IN tb bZ cL dO kD bw cJ dD aT aS cr ay fa aJ bI bq;obtain ⟨⟨hT,hl,hp⟩,i,a,z,nx,rfl,hg,hF,z0,z1,o0,n0,hz,h⟩:=h;have hi:=(aw.1 hg).1;have e1:aA (.int .i64) pl ((i:Int)+1 - 1)=a:=by
  rw [show (i:Int)+1 - 1=i by omega,gP (e:=.int .i64) hi];exact (aw.1 hg).2
 rw [e1,show (off+n).toNat - off.toNat=n.toNat by omega];refine λ_ _ _ _ _=>ak (λhc=>absurd (of_decide_eq_true hc) (by omega)) (λ_=>λ_=>ak (λhc=>absurd (of_decide_eq_true hc) (by omega)) (λ_=>ak (λhc=>absurd (of_decide_eq_true hc) (by omega)) (λ_=>ak (λhc=>absurd (of_decide_eq_true hc) (by omega)) (λ_=>⟨by unfold aB;omega,by omega,by omega,λ_=>⟨hT,hl,z,nx,0,⟨.inr ⟨rfl,hF⟩⟩,λ_ _ _=>ak (λhc=>by cases hc) (λ_=>λ_=>ak (λhc=>?_) (λ_=>λ_=>ak (λhc=>absurd (of_decide_eq_true hc) (by omega)) (λ_=>λ_=>⟨by unfold aB;omega,ak (λhc=>absurd (of_decide_eq_true hc) (by omega)) (λ_=>⟨by unfold aB;omega,o0,by omega,by omega,by rw [aF];omega,λ_=>⟨aG _,h⟩⟩)⟩)))⟩⟩))));have hc:(z.length:Int)=0:=eq_of_beq hc;omega
def aa7:Ct:=λargs H Q=>Ud args H (uK 0 [1,2] [0] H.length Q)
theorem XU:cq 75 aa7:=λargs H Q h=>Wp.ZB (Rp _ _ _ h)
def Av:Ct
 | .v (.c (.p 0 0))::vs,[.abs a],Q=>∃ (row:List UInt8) (bg:List Int),a=j4 [.cells 213 [.o 1,.o 2],.sl 5 .u8 row,.sl 3 (.int .i64) bg]/\DJ (.v (.c (.p 0 0))::vs) [.cells 213 [.o 1,.o 2],.sl 5 .u8 row,.sl 3 (.int .i64) bg] (uK 0 [1,2] [0] 1 Q)
 | _,_,_=>False
theorem KR:cq 78 Av:=λargs H Q h=>by
 unfold Av at h;split at h
 .obtain ⟨row,bg,rfl,h⟩:=h;exact Wp.DO (q:=0) (L:=[.cells 213 [.o 1,.o 2],.sl 5 .u8 row,.sl 3 (.int .i64) bg]) rfl (fy _) (Bl _ _ _ h)
 grind
def Ox:Ct
 | [.v (.c (.p 0 0)),.v (.c cx)],[.abs a],Q=>(match (Ty.sl Ty.u8).of [cx] with
  | some (x,[])=>∃ row bg,a=j4 [.cells 213 [.o 1,.o 2],.sl 5 .u8 row,.sl 3 (.int .i64) bg]/\(AR row bg/\row.length<=10000000/\bg.length<=100000/\x.length< 128)/\∀ nu off lz zt,AR lz zt->oZ lz zt nu off x->(∀ nu off u,oZ row bg nu off u->oZ lz zt nu off u)->lz.length<=row.length+128->zt.length<=bg.length+1->Q (.cC [.c (.k (.int .i64 nu)),.c (.k (.int .i64 off))]) [.abs (j4 [.cells 213 [.o 1,.o 2],.sl 5 .u8 lz,.sl 3 (.int .i64) zt])]
  | _=>False)
 | _,_,_=>False
theorem XV:cq 77 Ox:=by
 intro args H Q h;unfold Ox at h;split at h;rotate_left;cases h;split at h;rotate_left;cases h;rename_i x hx;obtain ⟨row,bg,rfl,h0,h⟩:=h;refine Wp.sel (Wp.aan (Wp.Zo (p:=0) (L:=[.cells 213 [.o 1,.o 2],.sl 5 .u8 row,.sl 3 (.int .i64) bg]) rfl (fy _) (Rq _ _ _ ?_)));show Bd _ [.cells 213 [.o 1,.o 2],.sl 5 .u8 row,.sl 3 (.int .i64) bg] _;unfold Bd;simp only [hx];refine ⟨h0,λnu off lz zt h1 h2 h3 h4 h5=>?_⟩;have h6:=h nu off lz zt h1 h2 h3 h4 h5;exact ⟨⟨0,[1,2],by decide,nH rfl,[0],rfl,by decide,nH rfl,h6⟩,⟨0,[3,4],by decide,nH rfl,[0],rfl,by decide,nH rfl,h6⟩,⟨0,[3,2],by decide,nH rfl,[0],rfl,by decide,nH rfl,h6⟩⟩
end Go.Proofs

namespace Go.Lm
open Go Go.RowKit
section
variable {L:List (Int×rY)} {Y:UpY}
theorem uW {α:Type} {p:α->Bool} {g:α->α} (h:∀ x,p (g x)=p x):∀ l:List α,(l.map g).find? p=(l.find? p).map g
 | []=>rfl
 | x::l=>by
  simp only [cw,List.find?_cons,h];cases p x with
  | true=>rfl
  | false=>exact uW h l
theorem Uo {r:Int} {f:bc->bc} (hf:∀ n,(f n).2.1=n.2.1) (x:Int):({Y with L:=pR Y.L r f}:UpY).at x=(Y.at x).map λn=>bif uH r n then f n else n:=by
 grind [UpY.at, pR, uW, uH]
theorem Vj {r:Int} {f:bc->bc} (hf:∀ n,(f n).2.1=n.2.1) (l:List bc):(pR l r f).map (·.2.1)=l.map (·.2.1):=by
 grind [pR, jy]
end
section
variable {L:List (Int×rY)} {Y:UpY}
theorem TM (E:List UF) (d:Int) (s:ByteArray) (x r:Int):(E++ [(d,s,x,())]).countP (toR r)=E.countP (toR r)+if x=r then 1 else 0:=by
 grind [toR]
theorem Q1 {n:bc} {r:Int} {y:bc} (h:Y.at r=some y) (E:List UF) (nx:Int):({Y with L:=Y.L++ [n],E:=E,nx:=nx}:UpY).at r=some y:=by
 show (Y.L++ [n]).find? (uH r)=some y;have:Y.L.find? (uH r)=some y:=h
 grind
theorem Q2 {n:bc} {r:Int} (h:Y.at r=none) (hn:n.2.1=r) (E:List UF) (nx:Int):({Y with L:=Y.L++ [n],E:=E,nx:=nx}:UpY).at r=some n:=by
 show (Y.L++ [n]).find? (uH r)=some n;have:Y.L.find? (uH r)=none:=h
 grind [uH]
theorem aeC (w:Y.Wf):Y.at Y.nx=none:=af3.2 λn hn e=>by
 have:=(w.lo n hn).2;omega
theorem akT (w:Y.Wf) {e:UF} (he:e∈Y.E):∃ y,Y.at e.1=some y/\y.2.2.1=1:=iT.1 (w.dir e he).1
theorem abB (w:Y.Wf) {e:UF} (he:e∈Y.E):∃ y,Y.at e.2.2.1=some y:=by
 have:=(w.ref e he).2
 grind [UpY.atE]
theorem ajo (w:Y.Wf):1< Y.nx:=by
 obtain ⟨y1,hy1,_⟩:=iT.1 w.root;have:=w.lo y1 (at_mem hy1).1;omega
end
section
variable {L:List (Int×rY)} {Y:UpY}
end
section
variable {α β:Type}
end
section
variable {L:List (Int×rY)} {Y:UpY}
theorem zu (w:Y.Wf) {n:bc} (h:n∈Y.L):Y.at n.2.1=some n:=by
 have key:∀ l:List bc,(l.map (·.2.1)).Nodup->n∈l->l.find? (uH n.2.1)=some n:=λl=>by
  induction l with
  | nil=>grind
  | cons x l ih=>
   grind [uH]
 exact key _ w.nd h
end
def UpY.new (a b:Int):UpY:=⟨a,b,[([],1,1,(493,0,0,()),[],⟨#[]⟩,[],false,())],[],2⟩
theorem ajt (a b:Int):(UpY.new a b).Wf where
 nd:=by simp [UpY.new]
 lo:=λn hn=>by
  have:n=_:=aU.1 hn;subst this;exact ⟨by decide,by show (1:Int)< 2;decide⟩
 root:=rfl
 nm:=λn hn=>by
  have:n=_:=aU.1 hn;subst this;exact ⟨rfl,.inl rfl,by kernel_rfl⟩
 ne:=by simp [UpY.new]
 dir:=λe he=>by cases he
 ref:=λe he=>by cases he
 has:=λn hn h=>by
  have:n=_:=aU.1 hn
  grind
 one:=λe he=>by cases he
 dep:=⟨λ_=>0,λe he=>by cases he⟩
theorem aei (a b:ByteArray):lS a b=decide (a.data.toList< b.data.toList):=by
 grind [lS, Lib.toList_data, Go.Proofs.bytesLess_eq]
theorem fF {e:Ty} {l:List e.den} {i:Int} (h0:0<=i) (h:i< l.length):aA e l i=l[i.toNat]'(by omega):=by
 grind [aA]
section
variable {α:Type}
end
section
variable {Y:UpY}
def agZ (n:bc):Prop:=n.1= []/\((n.2.2.1=1\/n.2.2.2.2.2.2.2.1=false)/\wZ n=true)
theorem uy {r:Int} {f:bc->bc} (hf:∀ n,(f n).2.1=n.2.1) (hk:∀ n,(f n).2.2.1=n.2.2.1) (x:Int):({Y with L:=pR Y.L r f}:UpY).lM x=Y.lM x:=by
 grind [UpY.lM, Uo]
theorem abC {r:Int} {f:bc->bc} (hf:∀ n,(f n).2.1=n.2.1) (x:Int):({Y with L:=pR Y.L r f}:UpY).atE x=Y.atE x:=by
 grind [UpY.atE, Uo]
theorem B8 {r:Int} {f:bc->bc} {L:List bc} {n:bc} (h:n∈pR L r f):∃ n0∈L,(n0.2.1=r/\n=f n0)\/n=n0:=by
 obtain ⟨n0,h0,rfl⟩:=bp.1 h
 grind [uH]
theorem UpY.Wf.pR (w:Y.Wf) {r:Int} {f:bc->bc} (hf:∀ n,(f n).2.1=n.2.1) (hk:∀ n,(f n).2.2.1=n.2.2.1) (hg:∀ n∈Y.L,n.2.1=r->agZ (f n)):({Y with L:=Lm.pR Y.L r f}:UpY).Wf where
 nd:=by
  rw [Vj hf];exact w.nd
 lo:=λn hn=>by
  obtain ⟨n0,h0,⟨_,rfl⟩| rfl⟩:=B8 hn;rw [hf];exact w.lo n0 h0;exact w.lo n h0
 root:=by rw [uy hf hk];exact w.root
 nm:=λn hn=>by
  obtain ⟨n0,h0,⟨h1,rfl⟩| rfl⟩:=B8 hn;exact hg n0 h0 h1;exact w.nm n h0
 ne:=w.ne
 dir:=λe he=>by rw [uy hf hk];exact w.dir e he
 ref:=λe he=>by rw [abC hf];exact w.ref e he
 has:=λn hn h1=>by
  obtain ⟨n0,h0,⟨_,rfl⟩| rfl⟩:=B8 hn;rw [hf] at h1 ⊢;exact w.has n0 h0 h1;exact w.has n h0 h1
 one:=λe he h=>by
  rw [uy hf hk] at h;exact w.one e he h
 dep:=by
  obtain ⟨d,hd⟩:=w.dep;exact ⟨d,by grind [uy]⟩
theorem VQ {n:bc} {a:AtD} (hn:wZ n=true) (hk:n.2.2.1≠4) (ha:aeI a=true):wZ (n.xV a)=true:=by
 unfold wZ at hn ⊢;unfold gE bc.dR bc.xV at*;have ha:AH a.1 a.2.1 a.2.2.1=true:=ha
 grind
theorem VP {n:bc} {x:List u9} (hn:wZ n=true) (hk:n.2.2.1≠4) (hx:dC x=true):wZ (n.ai7 x)=true:=by
 unfold wZ at hn ⊢
 grind [gE, bc.dR, bc.ai7]
structure UpY.OM (Y:UpY) (n:Nat):Prop where
 wf:Y.Wf
 en:Y.E.length<=n
 nb:Y.nx<=n+2
theorem UpY.OM.le {n m:Nat} (h:Y.OM n) (hn:n<=m):Y.OM m:=⟨h.wf,by have:=h.en;omega,by have:=h.nb;omega⟩
theorem aeG (a b:Int):(UpY.new a b).OM 0:=⟨ajt a b,aG _,by show (2:Int)<=_;omega⟩
theorem UpY.OM.pR {n:Nat} (h:Y.OM n) {r:Int} {f:bc->bc} (hf:∀ n,(f n).2.1=n.2.1) (hk:∀ n,(f n).2.2.1=n.2.2.1) (hg:∀ n∈Y.L,n.2.1=r->agZ (f n)):({Y with L:=Lm.pR Y.L r f}:UpY).OM n:=⟨h.wf.pR hf hk hg,h.en,h.nb⟩
theorem M5 {n:Nat} (h:Y.OM n) (r:Int) (a:AtD):(Y.gJ r a).OM n:=by
 unfold UpY.gJ;split
 .rename_i h0;refine h.pR (λ_=>rfl) (λ_=>rfl) λy hy hr=>?_;have uV:Y.at r=some y:=by rw [<-hr];exact zu h.wf hy
  unfold UpY.B9 at h0;rw [uV] at h0;simp only at h0;split at h0;cases h0
  .rename_i h1;obtain ⟨g1,g2,g3⟩:=h.wf.nm y hy;refine ⟨g1,g2,VQ g3 (λq=>h1 (.inl q)) ?_⟩
   grind
 omega
theorem Ep {n:Nat} (h:Y.OM n) (r:Int) (x:List u9):(Y.fh r x).OM n:=by
 unfold UpY.fh;split
 .rename_i h0;refine h.pR (λ_=>rfl) (λ_=>rfl) λy hy hr=>?_;have uV:Y.at r=some y:=by rw [<-hr];exact zu h.wf hy
  unfold UpY.vo at h0;rw [uV] at h0;simp only at h0;split at h0;cases h0
  .rename_i h1;obtain ⟨g1,g2,g3⟩:=h.wf.nm y hy;refine ⟨g1,g2,VP g3 (λq=>h1 (.inl q)) ?_⟩
   grind
 omega
theorem uQ {n:Nat} (h:Y.OM n) (r:Int) (q:Bool):(Y.gm r q).OM n:=by
 unfold UpY.gm;split
 .rename_i h0;refine h.pR (λ_=>rfl) (λ_=>rfl) λy hy hr=>?_;have uV:Y.at r=some y:=by rw [<-hr];exact zu h.wf hy
  obtain ⟨y',OU,hk⟩:=iT.1 h0;rw [uV] at OU;obtain rfl:=aj OU;obtain ⟨g1,g2,g3⟩:=h.wf.nm y hy;exact ⟨g1,.inl hk,g3⟩
 omega
theorem Ap {d:Int} {s:ByteArray} (h:Y.rm d s=0):Y.lM d=0/\db s=0/\Y.lq d s=none:=by
 grind [UpY.rm]
theorem ZC {E:List UF} (h:(E.map λe=>(e.1,e.2.1)).Nodup) {d:Int} {s:ByteArray} {r:Int} (hn:∀ e∈E,¬(e.1=d/\e.2.1=s)):((E++ [(d,s,r,())]).map λe=>(e.1,e.2.1)).Nodup:=by
 grind
theorem xE {r:Int}:Y.atE r=0↔∃ y,Y.at r=some y:=by
 grind [UpY.atE]
theorem UpY.Wf.make (w:Y.Wf) {d:Int} {s:ByteArray} {x:bc} (hd:Y.lM d=0) (hs:db s=0) (hn:Y.lq d s=none) (hm:wZ x=true):({Y with L:=Y.L++ [Y.rb x],E:=Y.E++ [(d,s,Y.nx,())],nx:=Y.nx+1}:UpY).Wf:=by
 have hnx:=aeC w;have hp:=ajo w;have xL:∀ {z y},Y.at z=some y->({Y with L:=Y.L++ [Y.rb x],E:=Y.E++ [(d,s,Y.nx,())],nx:=Y.nx+1}:UpY).at z=some y:=λh=>Q1 h _ _;have dold:∀ {z},Y.lM z=0->({Y with L:=Y.L++ [Y.rb x],E:=Y.E++ [(d,s,Y.nx,())],nx:=Y.nx+1}:UpY).lM z=0:=λh=>by
  obtain ⟨y,hy,hk⟩:=iT.1 h;exact iT.2 ⟨y,xL hy,hk⟩
 have dback:∀ {e},e∈Y.E->({Y with L:=Y.L++ [Y.rb x],E:=Y.E++ [(d,s,Y.nx,())],nx:=Y.nx+1}:UpY).lM e.2.2.1=0->Y.lM e.2.2.1=0:=λhe h=>by
  obtain ⟨y,hy⟩:=abB w he;obtain ⟨y',OU,hk⟩:=iT.1 h;rw [xL hy] at OU;obtain rfl:=aj OU;exact iT.2 ⟨y,hy,hk⟩
 have noref:∀ e∈Y.E,e.2.2.1≠Y.nx:=λe he q=>by
  obtain ⟨y1,h1⟩:=abB w he;rw [q,hnx] at h1;cases h1
 have nodir:∀ e∈Y.E,e.1≠Y.nx:=λe he q=>by
  obtain ⟨y1,h1,_⟩:=akT w he;rw [q,hnx] at h1;cases h1
 have hdn:d≠Y.nx:=λq=>by
  obtain ⟨y,hy,_⟩:=iT.1 hd;rw [q,hnx] at hy;cases hy
 refine ⟨?_,?_,dold w.root,?_,ZC w.ne (xo.1 hn),?_,?_,?_,?_,?_⟩
 .rw [jb];refine gv.2 ⟨w.nd,by simp,λa ha b hb=>?_⟩;have hb:b=Y.nx:=aU.1 hb;obtain ⟨n,hn,rfl⟩:=bp.1 ha;have:=(w.lo n hn).2;omega
 .intro n hn;show 1<=n.2.1/\n.2.1< Y.nx+1;rcases aV.1 hn with hn| hn
  .have:=w.lo n hn;omega
  .have:n=Y.rb x:=by simpa using hn
   subst this;show 1<=Y.nx/\Y.nx< Y.nx+1;omega
 .intro n hn;rcases aV.1 hn with hn| hn
  .exact w.nm n hn
  .have:n=Y.rb x:=by simpa using hn
   subst this;exact ⟨rfl,.inr rfl,hm⟩
 .intro e he;rcases aV.1 he with he| he
  .exact ⟨dold (w.dir e he).1,(w.dir e he).2⟩
  .have:e=(d,s,Y.nx,()):=by simpa using he
   subst this;exact ⟨dold hd,hs⟩
 .intro e he;rcases aV.1 he with he| he
  .obtain ⟨h1,h2⟩:=w.ref e he;obtain ⟨y,hy⟩:=xE.1 h2;exact ⟨h1,xE.2 ⟨y,xL hy⟩⟩
  .have:e=(d,s,Y.nx,()):=by simpa using he
   subst this;exact ⟨by show Y.nx≠1;omega,xE.2 ⟨_,Q2 hnx rfl _ _⟩⟩
 .intro n hn h1;rw [List.any_append];rcases aV.1 hn with hn| hn
  .rw [w.has n hn h1];rfl
  .have:n=Y.rb x:=by simpa using hn
   subst this;have:toR (Y.rb x).2.1 (d,s,Y.nx,())=true:=by unfold toR;exact beq_self_eq_true _
   simp [this]
 .intro e he h;show (Y.E++ [(d,s,Y.nx,())]).countP (toR e.2.2.1)=1;rw [TM];rcases aV.1 he with he| he
  .rw [if_neg (Ne.symm (noref e he)),w.one e he (dback he h)]
  .have:e=(d,s,Y.nx,()):=by simpa using he
   subst this;rw [if_pos rfl,List.countP_eq_zero.2 λe he=>by simpa [toR] using noref e he]
 .obtain ⟨dp,hdp⟩:=w.dep;refine ⟨λz=>if z=Y.nx then dp d+1 else dp z,λe he h=>?_⟩
  rcases aV.1 he with he| he
  .simp only [if_neg (nodir e he),if_neg (noref e he)];exact hdp e he (dback he h)
  .have:e=(d,s,Y.nx,()):=by simpa using he
   subst this;simp only [if_neg hdn,if_pos];omega
theorem Zq {n:Nat} (h:Y.OM n) (d:Int) (s:ByteArray) (x:bc):(Y.oK d s x).OM (n+1):=by
 unfold UpY.oK;split
 .rename_i h0;unfold UpY.Ng at h0;split at h0
  .rename_i hf;obtain ⟨h1,h2,h3⟩:=Ap hf;split at h0
   .rename_i hm;refine ⟨h.wf.make h1 h2 h3 hm,?_,?_⟩
    .have:=h.en
     grind
    .show Y.nx+1<=_;have:=h.nb;omega
   omega
  omega
 .exact h.le (Nat.le_succ n)
theorem UpY.Wf.link (w:Y.Wf) {d r:Int} {s:ByteArray} {y:bc} (hd:Y.lM d=0) (hs:db s=0) (hn:Y.lq d s=none) (hy:Y.at r=some y) (hk:y.2.2.1≠1):({Y with E:=Y.E++ [(d,s,r,())]}:UpY).Wf:=by
 have hnd:Y.lM r≠0:=by grind [iT]
 have wj:r≠1:=λq=>hnd (by rw [q];exact w.root);refine ⟨w.nd,w.lo,w.root,w.nm,ZC w.ne (xo.1 hn),λe he=>?_,λe he=>?_,λn hn h1=>?_,λe he h=>?_,?_⟩
 .rcases aV.1 he with he| he
  .exact w.dir e he
  .have:e=(d,s,r,()):=by grind
   subst this;trivial
 .rcases aV.1 he with he| he
  .exact w.ref e he
  .have:e=(d,s,r,()):=by grind
   subst this;exact ⟨wj,xE.2 ⟨y,hy⟩⟩
 .rw [List.any_append,w.has n hn h1];rfl
 .have h:Y.lM e.2.2.1=0:=h;rcases aV.1 he with he| he
  .rw [TM,if_neg (λq=>hnd (by rw [q];exact h)),w.one e he h]
  grind
 .obtain ⟨dp,hdp⟩:=w.dep;refine ⟨dp,λe he h=>?_⟩;have h:Y.lM e.2.2.1=0:=h
  grind
theorem P9 {d r:Int} {s:ByteArray} (h:Y.Nn d s r=0):∃ y,Y.at r=some y/\y.2.2.1≠1/\Y.rm d s=0:=by
 grind [UpY.Nn]
theorem Zr {n:Nat} (h:Y.OM n) (d:Int) (s:ByteArray) (r:Int):(Y.rS d s r).OM (n+1):=by
 unfold UpY.rS;split
 .rename_i h0;obtain ⟨y,hy,hk,hf⟩:=P9 h0;obtain ⟨h1,h2,h3⟩:=Ap hf;refine ⟨h.wf.link h1 h2 h3 hy hk,?_,?_⟩
  .have:=h.en
   grind
  .show Y.nx<=_;have:=h.nb;omega
 .exact h.le (Nat.le_succ n)
end
end Go.Lm

namespace Go.Lm
open Go
def UpY.ji (Y:UpY):List ByteArray->Int->Int×Int
 | [],r=>(r,0)
 | s::l,r=>if Y.mJ r s=0 then Y.ji l (Y.Tf r s).2.2.1 else (0,Y.mJ r s)
def Ar (Y:UpY) (m:List (Int×Int)) (x:bc):Int×UpY:=
 if x.1.length=0 then (1,(Y.gJ 1 x.2.2.2.1).fh 1 x.2.2.2.2.2.2.1)
 else match Kk.get .int m x.2.1 with
  | some r=>(r,Y.rS (Y.ji (x.1.take (x.1.length - 1)) 1).1 (aA .str x.1 ((x.1.length:Int) - 1)) r)
  | none=>(Y.Te (Y.ji (x.1.take (x.1.length - 1)) 1).1 (aA .str x.1 ((x.1.length:Int) - 1)) x,Y.oK (Y.ji (x.1.take (x.1.length - 1)) 1).1 (aA .str x.1 ((x.1.length:Int) - 1)) x)
def xm (Y:UpY) (m:List (Int×Int)) (x:bc):UpY:=if x.2.2.2.2.2.2.2.1 then (Ar Y m x).2.gm (Ar Y m x).1 true else (Ar Y m x).2
def Dp:List bc->List (Int×Int)->UpY->UpY
 | [],_,Y=>Y
 | x::r,m,Y=>Dp r (Kk.put .int m x.2.1 (Ar Y m x).1) (xm Y m x)
def fM (x y:ByteArray):Int:=if Op.bytesLess x.toList y.toList then -1 else if x.toList==y.toList then 0 else 1
def cmpL:List ByteArray->List ByteArray->Int
 | [],[]=>0
 | [],_::_=> -1
 | _::_,[]=>1
 | x::a,y::b=>if fM x y=0 then cmpL a b else fM x y
theorem Wk {xs ys:List ByteArray} {k:Nat} {x y:ByteArray} (hx:xs[k]?=some x) (hy:ys[k]?=some y):cmpL (xs.drop k) (ys.drop k)=if fM x y=0 then cmpL (xs.drop (k+1)) (ys.drop (k+1)) else fM x y:=by
 obtain ⟨h1,rfl⟩:=aw.1 hx;obtain ⟨h2,rfl⟩:=aw.1 hy;rw [bM h1,bM h2];rfl
theorem jY (x y:ByteArray):(Op.bytesLess x.toList y.toList=true/\fM x y= -1)\/(x.toList=y.toList/\fM x y=0)\/(Op.bytesLess y.toList x.toList=true/\fM x y=1):=by
 grind [fM, QX]
theorem oW {x y z:ByteArray} (h:fM x y< 0) (k:fM y z< 0):fM x z< 0:=by
 rcases jY x y with ⟨h1,e⟩| ⟨_,e⟩| ⟨_,e⟩<;>rw [e] at h<;>try omega
 rcases jY y z with ⟨k1,e2⟩| ⟨_,e2⟩| ⟨_,e2⟩<;>rw [e2] at k<;>try omega
 unfold fM;rw [DP h1 k1,if_pos rfl];decide
theorem A9 {x y:ByteArray} (h:fM x y=0):x.toList=y.toList:=by
 rcases jY x y with ⟨_,e⟩| ⟨h1,_⟩| ⟨_,e⟩;omega;exact h1;omega
theorem wa {x y z u:ByteArray} (h:x.toList=y.toList) (k:z.toList=u.toList):fM x z=fM y u:=by grind [fM]
theorem mB (x:ByteArray):fM x x=0:=by grind [fM, QY]
theorem Hh (x y:ByteArray):fM y x= - fM x y:=by
 grind [jY, fM, DQ]
theorem kg:∀ a:List ByteArray,cmpL a a=0
 | []=>rfl
 | x::a=>by unfold cmpL;rw [mB,if_pos rfl,kg a]
theorem mC:∀ a b:List ByteArray,cmpL b a= - cmpL a b
 | [],[]=>rfl
 | [],_::_=>rfl
 | _::_,[]=>rfl
 | x::a,y::b=>by
  unfold cmpL;rw [Hh x y,mC a b];omega
theorem Dt:∀ {a b c:List ByteArray},cmpL a b=0->cmpL a c=cmpL b c
 | [],[],_,_=>rfl
 | [],_::_,_,h=>by cases h
 | _::_,[],_,h=>by cases h
 | x::a,y::b,[],_=>rfl
 | x::a,y::b,z::c,h=>by
  unfold cmpL at h ⊢;by_cases e:fM x y=0
  .rw [if_pos e] at h;rw [Dt h,wa (z:=z) (A9 e) rfl]
  omega
theorem wb:∀ {a b c:List ByteArray},cmpL a b< 0->cmpL b c< 0->cmpL a c< 0
 | [],[],_,h,_=>by omega
 | [],_::_,[],_,k=>by trivial
 | [],_::_,_::_,_,_=>by assumption
 | _::_,[],_,h,_=>by trivial
 | _::_,_::_,[],_,k=>by assumption
 | x::a,y::b,z::c,h,k=>by
  unfold cmpL at h k ⊢;by_cases e1:fM x y=0
  .rw [if_pos e1] at h;rw [wa (z:=z) (A9 e1) rfl];by_cases e2:fM y z=0
   .rw [if_pos e2] at k ⊢;exact wb h k
   omega
  .rw [if_neg e1] at h;by_cases e2:fM y z=0
   .have:fM x z=fM x y:=wa (x:=x) rfl (A9 e2).symm;omega
   .rw [if_neg e2] at k;have:=oW h k;omega
theorem Au {a b c:List ByteArray} (h:¬cmpL a b< 0) (k:¬cmpL b c< 0):¬cmpL a c< 0:=λq=>by
 have s1:=mC a b;by_cases e1:cmpL a b=0
 .grind [Dt]
 .have h1:cmpL b a< 0:=by omega
  exact k (wb h1 q)
variable {Y:UpY}
theorem tC (s:ByteArray) (l:List ByteArray) (r:Int):Y.ji (s::l) r=if Y.mJ r s=0 then Y.ji l (Y.Tf r s).2.2.1 else (0,Y.mJ r s):=rfl
theorem uX:∀ (p q:List ByteArray) (r:Int),Y.ji (p++q) r=if (Y.ji p r).2=0 then Y.ji q (Y.ji p r).1 else (0,(Y.ji p r).2)
 | [],q,r=>by simp [UpY.ji]
 | s::p,q,r=>by
  rw [eH,tC,tC];by_cases h:Y.mJ r s=0;rw [if_pos h,if_pos h];exact uX p q _;rw [if_neg h,if_neg h,if_neg h]
theorem GL {d:Int} {s:ByteArray}:Y.mJ d s=0↔Y.lM d=0/\∃ e,Y.lq d s=some e:=by
 grind [UpY.mJ]
theorem Ni {d:Int} {s:ByteArray} {e:UF} (hd:Y.lM d=0) (he:Y.lq d s=some e):(Y.Tf d s).2.2.1=e.2.2.1:=by
 grind [UpY.Tf]
theorem akb (w:Y.Wf) {e:UF} (he:e∈Y.E):Y.lq e.1 e.2.1=some e:=by
 cases hf:Y.lq e.1 e.2.1 with
 | none=>grind [xo]
 | some x=>
  obtain ⟨h1,h2,h3⟩:=TG hf;have:∀ {l:List UF},(l.map λe=>(e.1,e.2.1)).Nodup->x∈l->e∈l->x=e:=by
   intro l
   induction l with
   | nil=>grind
   | cons a l ih=>
    grind
  rw [this w.ne h1 he]
theorem Qu (w:Y.Wf) {p:List ByteArray} {s:ByteArray} {r z:Int}:Y.ji (p++ [s]) r=(z,0)↔∃ d,Y.ji p r=(d,0)/\Y.lM d=0/\(d,s,z,())∈Y.E:=by
 rw [uX];constructor
 .intro h;split at h
  .refine ⟨(Y.ji p r).1,by grind,?_⟩;unfold UpY.ji at h;split at h
   .rename_i hl;obtain ⟨hd,e,he⟩:=GL.1 hl;rw [Ni hd he] at h;unfold UpY.ji at h;obtain ⟨h1,h2,h3⟩:=TG he
    grind
   grind
  grind
 .rintro ⟨d,h1,hd,he⟩;have:=akb w he;rw [h1,if_pos rfl,tC,if_pos (GL.2 ⟨hd,_,this⟩),Ni hd this];rfl
theorem BW {a b:ByteArray} (h:a.data.toList=b.data.toList):a=b:=by
 obtain ⟨x⟩:=a;simp_all
theorem afn {a b:ByteArray} (h:a.data.toList<=b.data.toList) (hn:a≠b):fM a b< 0:=by
 rcases jY a b with ⟨_,e⟩| ⟨h1,_⟩| ⟨h1,_⟩;omega
 .grind [Lib.toList_data, BW]
 .have:=aei b a
  grind [lS]
theorem Du:∀ (p a b:List ByteArray),cmpL (p++a) (p++b)=cmpL a b
 | [],_,_=>rfl
 | s::p,a,b=>by
  have:cmpL (s::(p++a)) (s::(p++b))=if fM s s=0 then cmpL (p++a) (p++b) else fM s s:=rfl
  rw [eH,eH,this,mB,if_pos rfl];exact Du p a b
theorem aaE (p:List ByteArray) (s:ByteArray) (t:List ByteArray):cmpL p (p++s::t)< 0:=by
 have:=Du p [] (s::t)
 grind [cmpL]
theorem Gb {α:Type} {R:α->α->Prop} (ha:∀ a b,R a b->¬R b a):∀ {l k:List α},l.Pairwise R->k.Pairwise R->(∀ x,x∈l↔x∈k)->l=k
 | [],[],_,_,_=>rfl
 | [],y::k,_,_,h=>by grind [aN]
 | x::l,[],_,_,h=>by grind [aN]
 | x::l,y::k,h1,h2,h=>by
  obtain ⟨a1,a2⟩:=eV.1 h1;obtain ⟨b1,b2⟩:=eV.1 h2;have e:x=y:=by
   grind [aN]
  subst e;refine congrArg (x:: ·) (Gb ha a2 b2 λz=>?_)
  grind
end Go.Lm

namespace Go.Lm
open Go
variable {Y:UpY}
def bc.jG (x:bc) (k:Int):bc:=(x.1,k,x.2.2)
def bc.bare (x:bc):bc:=([],x.2)
def pq (l:List ByteArray):ByteArray:=aA .str l ((l.length:Int) - 1)
def ZJ (c:bc):Int:=if c.1.length=0 then 0 else ((pq c.1).size:Int)
theorem B0 {l:List ByteArray} (h:l.length≠0):l=l.take (l.length - 1)++ [pq l]:=by
 have:=jo (e:=.str) (l:=l) (k:=(l.length:Int) - 1) (by omega) (by omega);rw [show ((l.length:Int) - 1+1).toNat=l.length by omega,show ((l.length:Int) - 1).toNat=l.length - 1 by omega,fz] at this
 assumption
theorem GQ (p:List ByteArray) (s:ByteArray):pq (p++ [s])=s:=by
 have h:=B0 (l:=p++ [s]) (by simp);have h2:=congrArg List.getLast? h
 grind
def abJ (acc:List bc) (c:bc):List bc:=if acc.any (uH c.2.1) then acc else acc++ [c.bare]
def ra (C:List bc):List bc:=C.foldl abJ []
theorem Jr (C:List bc) (c:bc):ra (C++ [c])=abJ (ra C) c:=by grind [ra]
structure IsB (Y:UpY) (C:List bc):Prop where
 wf:Y.Wf
 L:Y.L=ra C
 get:∀ c∈C,Y.at c.2.1=some c.bare
 lq:∀ e,e∈Y.E↔∃ c∈C,∃ y∈C,y.2.2.1=1/\∃ s,c.1=y.1++ [s]/\e=(y.2.1,s,c.2.1,())
 sum:(Y.E.map λe=>(e.2.1.size:Int)).sum=(C.map ZJ).sum
 root:∀ c∈C,c.1= []->c.2.1=1
 has:∃ c∈C,c.1= []
 aay:∀ c∈C,∀ d∈C,c.2.2.1=1\/c.2.2.1=4->d.2.1=c.2.1->d=c
 par:∀ c∈C,c.1≠ []->∃ y∈C,y.2.2.1=1/\∃ s,c.1=y.1++ [s]
 nm:C.Pairwise λa b=>a.1≠b.1
theorem Zx {C:List bc} (h:C.Pairwise λa b=>a.1≠b.1) {a b:bc} (ha:a∈C) (hb:b∈C) (e:a.1=b.1):a=b:=by
 induction C with
 | nil=>cases ha
 | cons x C ih=>
  grind [eV]
namespace IsB
variable {C:List bc}
theorem dir (h:IsB Y C) {y:bc} (hy:y∈C) (hk:y.2.2.1=1):Y.lM y.2.1=0:=iT.2 ⟨y.bare,h.get y hy,hk⟩
theorem ag1 (h:IsB Y C):∀ (n:Nat) (c:bc),c∈C->c.1.length<=n->Y.ji c.1 1=(c.2.1,0)
 | 0,c,hc,hn=>by
  have e:c.1= []:=by grind
  rw [e,h.root c hc e];rfl
 | n+1,c,hc,hn=>by
  by_cases e:c.1= [];rw [e,h.root c hc e];rfl
  .obtain ⟨y,hy,hk,s,hs⟩:=h.par c hc e;have ih:=h.ag1 n y hy (by grind);rw [hs];exact (Qu h.wf).2 ⟨y.2.1,ih,h.dir hy hk,(h.lq _).2 (by grind)⟩
theorem fresh (h:IsB Y C) {y:bc} {s:ByteArray} (hy:y∈C) (hk:y.2.2.1=1) (hv:db s=0) (kA:∀ c∈C,c.1≠y.1++ [s]):Y.rm y.2.1 s=0/\Y.lq y.2.1 s=none:=by
 have he:Y.lq y.2.1 s=none:=xo.2 λe he=>by
  rintro ⟨h1,h2⟩;obtain ⟨c,hc,y',OU,AK,s',hs,rfl⟩:=(h.lq e).1 he;have:=h.aay y hy y' OU (.inl hk) h1
  grind
 refine ⟨?_,he⟩;unfold UpY.rm;rw [if_pos (h.dir hy hk),if_pos hv,he]
theorem lt (h:IsB Y C) {c:bc} (hc:c∈C):c.2.1< Y.nx:=by
 obtain ⟨h1,h2⟩:=at_mem (h.get c hc);have:=(h.wf.lo _ h1).2;omega
theorem amL (h:IsB Y C):(ra C).any (uH Y.nx)=false:=by
 rw [<-h.L,List.any_eq_false];intro n hn;have:=(h.wf.lo n hn).2
 grind [uH]
theorem amy (h:IsB Y C) {c:bc} (hc:c∈C):(ra C).any (uH c.2.1)=true:=by
 rw [<-h.L,List.any_eq_true];obtain ⟨h1,h2⟩:=at_mem (h.get c hc)
 grind [uH]
theorem more (h:IsB Y C) {Y':UpY} {x y:bc} {s:ByteArray} (hy:y∈C) (hk:y.2.2.1=1) (hx:x.1=y.1++ [s]) (kA:∀ c∈C,c.1≠x.1) (w:Y'.Wf) (hL:Y'.L=abJ (ra C) x) (hE:Y'.E=Y.E++ [(y.2.1,s,x.2.1,())])
  (NG:Y'.at x.2.1=Option.some x.bare) (hold:∀ c∈C,Y'.at c.2.1=Y.at c.2.1) (hd1:x.2.2.1=1\/x.2.2.1=4->∀ c∈C,c.2.1≠x.2.1) (hd2:∀ c∈C,c.2.2.1=1\/c.2.2.1=4->x.2.1≠c.2.1):IsB Y' (C++ [x]) where
 wf:=w
 L:=by rw [Jr];exact hL
 get:=λc hc=>by
  rcases aV.1 hc with hc| hc;rw [hold c hc];exact h.get c hc
  .obtain rfl:c=x:=by simpa using hc
   exact NG
 lq:=λe=>by
  rw [hE,aV];constructor
  .rintro (he| he)
   .obtain ⟨c,hc,y',OU,r⟩:=(h.lq e).1 he;exact ⟨c,by simp [hc],y',by simp [OU],r⟩
   .obtain rfl:e=_:=by simpa using he
    exact ⟨x,by simp,y,by simp [hy],hk,s,hx,rfl⟩
  .rintro ⟨c,hc,y',OU,AK,s',hs,rfl⟩;rcases aV.1 OU with hyC| hyC
   .rcases aV.1 hc with Xj| Xj
    .exact .inl ((h.lq _).2 ⟨c,Xj,y',hyC,AK,s',hs,rfl⟩)
    .have ec:c=x:=by simpa using Xj
     rw [ec] at hs ⊢;have e:=List.append_inj' (hx.symm.trans hs) rfl;have:=Zx h.nm hy hyC e.1;subst this;have es:s=s':=by simpa using e.2
     subst es;exact .inr (by simp)
   .have ey:y'=x:=by simpa using hyC
    rw [ey] at hs;rcases aV.1 hc with Xj| Xj
    .obtain ⟨y2,hy2,_,s2,hs2⟩:=h.par c Xj (by rw [hs];simp);exact absurd (List.append_inj' (hs2.symm.trans hs) rfl).1 (kA y2 hy2)
    .have ec:c=x:=by simpa using Xj
     rw [ec] at hs;have:=congrArg List.length hs;simp at this
 sum:=by
  rw [hE,jb,List.sum_append,h.sum,jb,List.sum_append];have:ZJ x=(s.size:Int):=by
   unfold ZJ;rw [hx,if_neg (by simp),GQ]
  simp [this]
 root:=λc hc e=>by
  rcases aV.1 hc with hc| hc;exact h.root c hc e
  .obtain rfl:c=x:=by simpa using hc
   rw [hx] at e;exact absurd e (by simp)
 has:=by
  obtain ⟨c,hc,e⟩:=h.has;exact ⟨c,by simp [hc],e⟩
 aay:=λc hc d hd AK e=>by
  rcases aV.1 hc with Xj| Xj
  .rcases aV.1 hd with Eh| Eh
   .exact h.aay c Xj d Eh AK e
   .have ed:d=x:=by simpa using Eh
    rw [ed] at e;exact absurd e (hd2 c Xj AK)
  .have ec:c=x:=by simpa using Xj
   rw [ec] at AK e ⊢;rcases aV.1 hd with Eh| Eh;exact absurd e (hd1 AK d Eh);simpa using Eh
 par:=λc hc e=>by
  rcases aV.1 hc with hc| hc
  .obtain ⟨y',OU,r⟩:=h.par c hc e;exact ⟨y',by simp [OU],r⟩
  .obtain rfl:c=x:=by simpa using hc
   exact ⟨y,by simp [hy],hk,s,hx⟩
 nm:=by
  rw [iK];refine ⟨h.nm,by simp,λa ha b hb=>?_⟩;obtain rfl:b=x:=by simpa using hb
  exact kA a ha
end IsB
theorem yT {x:bc} (h:P2 x=true):wZ x=true/\(x.2.2.2.2.2.2.2.1=true->x.2.2.1=1):=by
 unfold P2 at h;by_cases h4:x.2.2.1=4
 .grind [akS, wZ, bc.dR]
 .rw [if_neg h4] at h;unfold wZ;rw [if_neg h4];by_cases h1:x.2.2.1=1
  .rw [if_pos h1] at h;exact ⟨h,λ_=>h1⟩
  .grind [gE, bc.dR]
namespace IsB
variable {C:List bc}
theorem make (h:IsB Y C) {x y:bc} {s:ByteArray} (hy:y∈C) (hk:y.2.2.1=1) (hx:x.1=y.1++ [s]) (hv:db s=0) (kA:∀ c∈C,c.1≠x.1) (hm:P2 x=true):
  Y.Te y.2.1 s x=Y.nx/\IsB (if x.2.2.2.2.2.2.2.1 then (Y.oK y.2.1 s x).gm Y.nx true else Y.oK y.2.1 s x) (C++ [x.jG Y.nx])/\(if x.2.2.2.2.2.2.2.1 then (Y.oK y.2.1 s x).gm Y.nx true else Y.oK y.2.1 s x).nx=Y.nx+1:=by
 obtain ⟨hm1,hm2⟩:=yT hm;have hE:Y.Ng y.2.1 s x=0:=by
  unfold UpY.Ng;rw [if_pos (h.fresh hy hk hv (λc hc=>by rw [<-hx];exact kA c hc)).1,if_pos hm1]
 have e1:Y.oK y.2.1 s x= {Y with L:=Y.L++ [Y.rb x],E:=Y.E++ [(y.2.1,s,Y.nx,())],nx:=Y.nx+1}:=by unfold UpY.oK;rw [if_pos hE]
 have hlo:∀ n∈Y.L,uH Y.nx n=false:=λn hn=>by
  have:=(h.wf.lo n hn).2;unfold uH;simp;omega
 have uV:(Y.oK y.2.1 s x).at Y.nx=Option.some (Y.rb x):=by
  rw [e1];unfold UpY.at
  rw [List.find?_append,List.find?_eq_none.2 λn hn=>by rw [hlo n hn];simp];simp [uH,UpY.rb]
 have ok1:=Zq (n:=Y.E.length+Y.nx.toNat) ⟨h.wf,by omega,by omega⟩ y.2.1 s x;have ajM:pR (Y.L++ [Y.rb x]) Y.nx (·.dR true)=Y.L++ [(Y.rb x).dR true]:=by
  unfold pR;rw [jb];congr 1
  .conv=>rhs;rw [<-List.map_id Y.L]
   exact jy λn hn=>by rw [hlo n hn];rfl
  .simp [uH,UpY.rb]
 have e2:(if x.2.2.2.2.2.2.2.1 then (Y.oK y.2.1 s x).gm Y.nx true else Y.oK y.2.1 s x)= {Y with L:=Y.L++ [(x.jG Y.nx).bare],E:=Y.E++ [(y.2.1,s,Y.nx,())],nx:=Y.nx+1}:=by
  cases ho:x.2.2.2.2.2.2.2.1 with
  | true=>
   rw [if_pos rfl];unfold UpY.gm;rw [if_pos (iT.2 ⟨_,uV,hm2 ho⟩),e1];rw [ajM];have:(Y.rb x).dR true=(x.jG Y.nx).bare:=by unfold UpY.rb bc.dR bc.jG bc.bare;rw [<-ho]
   rw [this]
  | false=>
   rw [if_neg (by simp),e1];have:Y.rb x=(x.jG Y.nx).bare:=by unfold UpY.rb bc.jG bc.bare;rw [<-ho]
   rw [this]
 have hw:({Y with L:=Y.L++ [(x.jG Y.nx).bare],E:=Y.E++ [(y.2.1,s,Y.nx,())],nx:=Y.nx+1}:UpY).Wf:=by
  rw [<-e2];split;exact (uQ ok1 _ _).wf;exact ok1.wf
 refine ⟨by unfold UpY.Te;rw [if_pos hE],?_,by rw [e2]⟩;rw [e2];refine h.more (y:=y) (s:=s) hy hk hx kA hw ?_ rfl ?_ (λc hc=>?_) (λ_ c hc=>?_) (λc hc _=>?_)
 .unfold abJ;rw [show (x.jG Y.nx).2.1=Y.nx from rfl,h.amL,<-h.L];rfl
 .unfold UpY.at
  rw [List.find?_append,List.find?_eq_none.2 λn hn=>by rw [show (x.jG Y.nx).2.1=Y.nx from rfl,hlo n hn];simp];simp [uH,bc.bare,bc.jG]
 .have hg:=h.get c hc;unfold UpY.at at hg ⊢;rw [List.find?_append,hg];rfl
 .have:=h.lt hc;show c.2.1≠Y.nx;omega
 .have:=h.lt hc;show Y.nx≠c.2.1;omega
theorem link (h:IsB Y C) {x y c0:bc} {s:ByteArray} (hy:y∈C) (hk:y.2.2.1=1) (hx:x.1=y.1++ [s]) (hv:db s=0) (kA:∀ c∈C,c.1≠x.1) (hc0:c0∈C) (ha:x.2.2=c0.2.2) (tz:x.2.2.1≠1) (hk4:x.2.2.1≠4):
  IsB (Y.rS y.2.1 s c0.2.1) (C++ [x.jG c0.2.1])/\(Y.rS y.2.1 s c0.2.1).nx=Y.nx:=by
 have hg:=h.get c0 hc0;have hk0:c0.2.2.1≠1:=by rw [<-ha];exact tz
 have hE:Y.Nn y.2.1 s c0.2.1=0:=by
  unfold UpY.Nn;rw [hg,h.get y hy];simp only;rw [if_pos (h.fresh hy hk hv (λc hc=>by rw [<-hx];exact kA c hc)).1];exact if_neg hk0
 have e1:Y.rS y.2.1 s c0.2.1= {Y with E:=Y.E++ [(y.2.1,s,c0.2.1,())]}:=by unfold UpY.rS;rw [if_pos hE]
 have ok1:=(Zr (n:=Y.E.length+Y.nx.toNat) ⟨h.wf,by omega,by omega⟩ y.2.1 s c0.2.1).wf;rw [e1] at ok1 ⊢;refine ⟨h.more (x:=x.jG c0.2.1) (y:=y) (s:=s) hy hk hx kA ok1 ?_ rfl ?_ (λ_ _=>rfl) (λe=>absurd e (λq=>q.elim tz hk4)) (λc hc hkc e=>?_),rfl⟩
 .unfold abJ;rw [show (x.jG c0.2.1).2.1=c0.2.1 from rfl,if_pos (h.amy hc0)];exact h.L
 .show Y.at c0.2.1=_
  grind [bc.bare, bc.jG]
 .have:=h.aay c hc c0 hc0 hkc e
  grind
end IsB
end Go.Lm

namespace Go.Lm
open Go
variable {Y:UpY}
theorem fq {k:Kk} {α:Type} {l:List (k.den×α)} {x:k.den} {v:α}:Kk.get k (Kk.put k l x v) x=some v:=by
 unfold Kk.get Kk.put iS qY;simp
theorem iR {k:Kk} {α:Type} {l:List (k.den×α)} {x y:k.den} {v:α} (h:y≠x):Kk.get k (Kk.put k l x v) y=Kk.get k l y:=by
 grind [Kk.get, Kk.put, iS, qY, pf]
theorem mu {k:Kk} {α:Type} {l:List (k.den×α)} {x:k.den} {v:α} (h:Kk.get k l x=none):(Kk.put k l x v).length=l.length+1:=by
 grind [Kk.put, qY, pf, lr, Kk.get, iS, Option.map_eq_none_iff]
def cZ:List bc->List (Int×Int)->List bc
 | [],_=>[]
 | x::r,m=>match Kk.get .int m x.2.1 with
  | some k=>x.jG k::cZ r m
  | none=>x.jG ((m.length:Int)+1)::cZ r (Kk.put .int m x.2.1 ((m.length:Int)+1))
theorem jf {x:bc} {r:List bc} {m:List (Int×Int)} {k:Int} (h:Kk.get .int m x.2.1=some k):cZ (x::r) m=x.jG k::cZ r m:=by
 grind [cZ]
theorem iy {x:bc} {r:List bc} {m:List (Int×Int)} (h:Kk.get .int m x.2.1=none):cZ (x::r) m=x.jG ((m.length:Int)+1)::cZ r (Kk.put .int m x.2.1 ((m.length:Int)+1)):=by
 grind [cZ]
theorem Ge (x:bc):x.jG x.2.1=x:=rfl
theorem vM (f:bc->bc) (hf:∀ x,(f x).2.1=x.2.1):∀ (R:List bc) (m m2:List (Int×Int)),(∀ i k,Kk.get .int m i=some k->Kk.get .int m2 k=some k)->m2.length=m.length->(∀ k:Int,Kk.get .int m2 k≠none->k<=m.length)->cZ ((cZ R m).map f) m2=(cZ R m).map f
 | [],_,_,_,_,_=>rfl
 | x::R,m,m2,h1,h2,h3=>by
  cases hg:Kk.get .int m x.2.1 with
  | some k=>
   have e:(f (x.jG k)).2.1=k:=hf _;rw [jf hg,cw,jf (show Kk.get .int m2 (f (x.jG k)).2.1=some k by rw [e];exact h1 _ _ hg),vM f hf R m m2 h1 h2 h3];have:=Ge (f (x.jG k));rw [e] at this;rw [this]
  | none=>
   have e:(f (x.jG ((m.length:Int)+1))).2.1=(m.length:Int)+1:=hf _;have hn:Kk.get .int m2 ((m.length:Int)+1)=none:=by
    grind
   rw [iy hg,cw,iy (show Kk.get .int m2 (f (x.jG ((m.length:Int)+1))).2.1=none by rw [e];exact hn),e,h2,vM f hf R (Kk.put .int m x.2.1 ((m.length:Int)+1)) (Kk.put .int m2 ((m.length:Int)+1) ((m.length:Int)+1)) ?_ ?_ ?_]
   .have:=Ge (f (x.jG ((m.length:Int)+1)));rw [e] at this;rw [this]
   .intro i k hk;by_cases hi:i=x.2.1
    .subst hi;rw [fq] at hk;obtain rfl:=aj hk;exact fq
    grind [iR]
   .rw [mu hn,mu hg,h2]
   grind [mu, iR]
theorem V3 (a b:Int) {x:bc} (hx:x.1= []) (hk:x.2.2.1=1) (hm:P2 x=true):
  IsB (if x.2.2.2.2.2.2.2.1 then (((UpY.new a b).gJ 1 x.2.2.2.1).fh 1 x.2.2.2.2.2.2.1).gm 1 true else ((UpY.new a b).gJ 1 x.2.2.2.1).fh 1 x.2.2.2.2.2.2.1) [x.jG 1]
  /\(if x.2.2.2.2.2.2.2.1 then (((UpY.new a b).gJ 1 x.2.2.2.1).fh 1 x.2.2.2.2.2.2.1).gm 1 true else ((UpY.new a b).gJ 1 x.2.2.2.1).fh 1 x.2.2.2.2.2.2.1).nx=2:=by
 obtain ⟨hm1,_⟩:=yT hm;obtain ⟨p,i,k,at',dt,tg,xs,op,u⟩:=x;subst hx hk;unfold wZ bc.dR gE at hm1;simp only [show ¬(1:Int)=4 by decide,if_false,if_true,ao,beq_iff_eq,Bool.not_false,and_true] at hm1;obtain ⟨⟨⟨h1,h2⟩,h3⟩,h4⟩:=hm1;have hdt:dt= []:=by simp_all
 have htg:=gO.1 h2;subst hdt htg;have e1:(UpY.new a b).gJ 1 at'=⟨a,b,[([],1,1,at',[],⟨#[]⟩,[],false,())],[],2⟩:=by
  have:(UpY.new a b).B9 1 at'=0:=by
   have hma:aeI at'=true:=h3;show (if (1:Int)=4\/aeI at'=false then (1:Int) else 0)=0
   grind
  unfold UpY.gJ;rw [if_pos this];rfl
 have e2:((UpY.new a b).gJ 1 at').fh 1 xs=⟨a,b,[([],1,1,at',[],⟨#[]⟩,xs,false,())],[],2⟩:=by
  rw [e1];have:(⟨a,b,[([],1,1,at',[],⟨#[]⟩,[],false,())],[],2⟩:UpY).vo 1 xs=0:=by
   show (if (1:Int)=4\/dC xs=false then (1:Int) else 0)=0
   grind
  unfold UpY.fh;rw [if_pos this];rfl
 have ok:=Ep (M5 (aeG a b) 1 at') 1 xs;have e3:(if op then (((UpY.new a b).gJ 1 at').fh 1 xs).gm 1 true else ((UpY.new a b).gJ 1 at').fh 1 xs)=⟨a,b,[([],1,1,at',[],⟨#[]⟩,xs,op,())],[],2⟩:=by
  cases op with
  | true=>
   rw [if_pos rfl,e2];rfl
  | false=>grind
 have hw:(⟨a,b,[([],1,1,at',[],⟨#[]⟩,xs,op,())],[],2⟩:UpY).Wf:=by
  rw [<-e3];split;exact (uQ ok _ _).wf;exact ok.wf
 rw [e3];refine ⟨⟨hw,rfl,λc hc=>?_,λe=>⟨λhe=>(by cases he),?_⟩,rfl,λc hc _=>?_,⟨_,aU.2 rfl,rfl⟩,λc hc d hd _ _=>?_,λc hc e=>?_,by simp⟩,rfl⟩
 .obtain rfl:=aU.1 hc;rfl
 .simp
 .obtain rfl:=aU.1 hc;rfl
 .grind
 .obtain rfl:=aU.1 hc;trivial
structure UD (L:List bc):Prop where
 nm:∀ x∈L,∀ s∈x.1,db s=0
 ord:L.Pairwise λa b=>cmpL a.1 b.1< 0
 root:∃ x∈L,x.1= []
 agn:∀ x∈L,x.1= []->x.2.2.1=1
 par:∀ x∈L,x.1.length≠0->∃ y∈L,y.2.2.1=1/\y.1=x.1.take (x.1.length - 1)
 may:∀ x∈L,P2 x=true
 one:L.Pairwise λa b=>a.2.1=b.2.1->b.2.2.1≠1/\b.2.2.1≠4/\b.2.2=a.2.2
structure UE (Y:UpY) (C D:List bc) (m mm:List (Int×Int)):Prop where
 b:IsB Y C
 get:∀ i,Kk.get .int m i=Kk.get .int mm i
 agd:C=D.map λy=>y.jG ((Kk.get .int mm y.2.1).getD 0)
 key:∀ i,(Kk.get .int mm i).isSome=true↔∃ y∈D,y.2.1=i
 len:(mm.length:Int)+1=Y.nx
theorem xu (a:List ByteArray):¬cmpL a []< 0:=by cases a<;>(unfold cmpL;decide)
theorem JN:∀ (R D:List bc) {Y:UpY} {C:List bc} {m mm:List (Int×Int)},UD (D++R)->D≠ []->UE Y C D m mm->IsB (Dp R m Y) (C++cZ R mm)
 | [],D,Y,C,m,mm,_,_,h=>by
  rw [show cZ [] mm= [] from rfl,bf];exact h.b
 | x::R,D,Y,C,m,mm,g,hD,h=>by
  have hxm:x∈D++x::R:=by simp
  have ord:=iK.1 g.ord;have hDx:∀ d∈D,cmpL d.1 x.1< 0:=λd hd=>ord.2.2 d hd x aN;have hx0:x.1.length≠0:=λe=>by
   obtain ⟨d,hd⟩:=List.exists_mem_of_ne_nil D hD;have:=hDx d hd;rw [bB e] at this;exact xu _ this
  obtain ⟨y,hy,hyk,hyn⟩:=g.par x hxm hx0;have Df:=B0 hx0;rw [<-hyn] at Df;have hyx:cmpL y.1 x.1< 0:=by rw [Df];exact aaE _ _ _
  have hyD:y∈D:=by
   rcases aV.1 hy with h1| h1;exact h1
   .rcases bm.1 h1 with h1| h1
    .rw [h1,kg] at hyx;omega
    .have:=(eV.1 ord.2.1).1 y h1;have:=mC x.1 y.1;omega
  have hC:∀ d∈D,d.jG ((Kk.get .int mm d.2.1).getD 0)∈C:=λd hd=>by rw [h.agd];exact bp.2 ⟨d,hd,rfl⟩
  have hcy:=hC y hyD;generalize anr:y.jG ((Kk.get .int mm y.2.1).getD 0)=cy at hcy;have ans:cy.1=y.1:=by rw [<-anr];rfl
  have anq:cy.2.2.1=1:=by rw [<-anr];exact hyk
  have Aj:x.1=cy.1++ [pq x.1]:=by rw [ans];exact Df
  have kA:∀ c∈C,c.1≠x.1:=λc hc e=>by
   rw [h.agd] at hc;obtain ⟨d,hd,rfl⟩:=bp.1 hc;have:=hDx d hd;rw [show d.1=x.1 from e,kg] at this;omega
  have hv:db (pq x.1)=0:=g.nm x hxm _ (by rw [Aj,GQ];simp);have anc:=g.may x hxm;have hf:(Y.ji (x.1.take (x.1.length - 1)) 1).1=cy.2.1:=by
   rw [<-hyn,<-ans,h.b.ag1 _ cy hcy (aG _)]
  have g':UD ((D++ [x])++R):=by rw [aM];exact g
  have hD':D++ [x]≠ []:=by simp
  have Xi:Ar Y m x=match Kk.get .int m x.2.1 with
   | some r=>(r,Y.rS cy.2.1 (pq x.1) r)
   | none=>(Y.Te cy.2.1 (pq x.1) x,Y.oK cy.2.1 (pq x.1) x):=by
   unfold Ar;rw [if_neg hx0,hf];rfl
  unfold Dp;have hmg:=h.get x.2.1;cases hg:Kk.get .int mm x.2.1 with
  | some r=>
   rw [jf hg];rw [hg] at hmg;rw [hmg] at Xi;simp only at Xi;obtain ⟨d,hd,Qp⟩:=(h.key x.2.1).1 (by rw [hg];rfl);have hc0:=hC d hd;rw [Qp,hg] at hc0;have ql:=(iK.1 g.one).2.2 d hd x aN Qp;obtain ⟨l1,l2⟩:=h.b.link (x:=x) hcy anq Aj hv kA hc0 ql.2.2 ql.1 ql.2.1;have l1:IsB (Y.rS cy.2.1 (pq x.1) r) (C++ [x.jG r]):=l1;have l2:(Y.rS cy.2.1 (pq x.1) r).nx=Y.nx:=l2;have hop:x.2.2.2.2.2.2.2.1=false:=by
    cases ho:x.2.2.2.2.2.2.2.1 with
    | false=>rfl
    | true=>exact absurd ((yT anc).2 ho) ql.1
   have hfy:xm Y m x=Y.rS cy.2.1 (pq x.1) r:=by
    unfold xm;rw [hop,Xi];rfl
   rw [hfy,Xi];simp only;have st:UE (Y.rS cy.2.1 (pq x.1) r) (C++ [x.jG r]) (D++ [x]) (Kk.put .int m x.2.1 r) mm:=by
    refine ⟨l1,λi=>?_,?_,λi=>?_,by rw [l2];exact h.len⟩
    .by_cases hi:i=x.2.1
     .rw [hi,fq,hg]
     .rw [iR hi,h.get i]
    .rw [jb,<-h.agd];simp [hg]
    .rw [h.key i];constructor
     .rintro ⟨z,hz,e⟩;exact ⟨z,by simp [hz],e⟩
     .rintro ⟨z,hz,e⟩;rcases aV.1 hz with hz| hz
      .exact ⟨z,hz,e⟩
      .obtain rfl:=aU.1 hz;exact ⟨d,hd,Qp.trans e⟩
   have:=JN R (D++ [x]) g' hD' st
   rwa [aM] at this
  | none=>
   rw [iy hg];rw [hg] at hmg;rw [hmg] at Xi;simp only at Xi;obtain ⟨k1,k2,k3⟩:=h.b.make (x:=x) hcy anq Aj hv kA anc;rw [k1] at Xi;have hfy:xm Y m x=if x.2.2.2.2.2.2.2.1 then (Y.oK cy.2.1 (pq x.1) x).gm Y.nx true else Y.oK cy.2.1 (pq x.1) x:=by
    unfold xm;rw [Xi]
   rw [<-hfy] at k2 k3;rw [Xi];simp only;rw [h.len];have st:UE (xm Y m x) (C++ [x.jG Y.nx]) (D++ [x]) (Kk.put .int m x.2.1 Y.nx) (Kk.put .int mm x.2.1 Y.nx):=by
    refine ⟨k2,λi=>?_,?_,λi=>?_,?_⟩
    .by_cases hi:i=x.2.1
     .rw [hi,fq,fq]
     .rw [iR hi,iR hi,h.get i]
    .rw [jb];congr 1
     .rw [h.agd];refine jy λd hd=>?_;have:d.2.1≠x.2.1:=λe=>by
       have:=(h.key x.2.1).2 ⟨d,hd,e⟩;rw [hg] at this;cases this
      rw [iR this]
     .simp [fq]
    .by_cases hi:i=x.2.1
     .rw [hi,fq];exact ⟨λ_=>⟨x,by simp,rfl⟩,λ_=>rfl⟩
     .rw [iR hi,h.key i];constructor
      .rintro ⟨z,hz,e⟩;exact ⟨z,by simp [hz],e⟩
      .rintro ⟨z,hz,e⟩;rcases aV.1 hz with hz| hz
       .exact ⟨z,hz,e⟩
       .obtain rfl:=aU.1 hz;exact absurd e.symm hi
    .rw [mu hg,k3,<-h.len];simp
   have:=JN R (D++ [x]) g' hD' st
   rwa [aM] at this
theorem aaq (a b:Int) {L:List bc} (g:UD L):IsB (Dp L [] (UpY.new a b)) (cZ L []):=by
 obtain ⟨ρ,hρ,e0⟩:=g.root;cases L with
 | nil=>cases hρ
 | cons x R=>
  have hx:x.1= []:=by
   rcases bm.1 hρ with e| h
   .grind
   .have:=(eV.1 g.ord).1 ρ h;simp_all [xu]
  obtain ⟨f1,f2⟩:=V3 a b hx (g.agn x aN hx) (g.may x aN);have hr:Ar (UpY.new a b) [] x=(1,((UpY.new a b).gJ 1 x.2.2.2.1).fh 1 x.2.2.2.2.2.2.1):=by
   grind [Ar]
  have hy:xm (UpY.new a b) [] x=if x.2.2.2.2.2.2.2.1 then (((UpY.new a b).gJ 1 x.2.2.2.1).fh 1 x.2.2.2.2.2.2.1).gm 1 true else ((UpY.new a b).gJ 1 x.2.2.2.1).fh 1 x.2.2.2.2.2.2.1:=by
   grind [xm]
  rw [<-hy] at f1 f2;unfold Dp;have e1:Kk.get .int ([]:List (Int×Int)) x.2.1=none:=rfl;rw [iy e1,hr];have st:UE (xm (UpY.new a b) [] x) [x.jG 1] [x] (Kk.put .int [] x.2.1 1) (Kk.put .int [] x.2.1 1):=by
   refine ⟨f1,λ_=>rfl,by simp [fq],λi=>?_,by rw [f2];rfl⟩;by_cases hi:i=x.2.1
   .grind [fq]
   .rw [iR hi];constructor
    .intro h;cases h
    grind
  exact JN R [x] g (by simp) st
end Go.Lm

namespace Go.Lm
open Go
variable {Y:UpY}
def ia:List bc->List (Int×Int)->List (Int×Int)
 | [],m=>m
 | x::r,m=>match Kk.get .int m x.2.1 with
  | some _=>ia r m
  | none=>ia r (Kk.put .int m x.2.1 ((m.length:Int)+1))
theorem iO {x:bc} {r:List bc} {m:List (Int×Int)} {k:Int} (h:Kk.get .int m x.2.1=some k):ia (x::r) m=ia r m:=by
 grind [ia]
theorem iP {x:bc} {r:List bc} {m:List (Int×Int)} (h:Kk.get .int m x.2.1=none):ia (x::r) m=ia r (Kk.put .int m x.2.1 ((m.length:Int)+1)):=by
 grind [ia]
theorem qZ:∀ (a b:List bc) (m:List (Int×Int)),cZ (a++b) m=cZ a m++cZ b (ia a m)/\ia (a++b) m=ia b (ia a m)
 | [],_,_=>⟨rfl,rfl⟩
 | x::a,b,m=>by
  rw [eH];cases hg:Kk.get .int m x.2.1 with
  | some k=>
   rw [jf hg,iO hg,jf hg,iO hg,(qZ a b m).1,(qZ a b m).2];exact ⟨rfl,rfl⟩
  | none=>
   rw [iy hg,iP hg,iy hg,iP hg,(qZ a b _).1,(qZ a b _).2];exact ⟨rfl,rfl⟩
theorem jw:∀ (a:List bc) (m:List (Int×Int)),(cZ a m).length=a.length
 | [],_=>rfl
 | x::a,m=>by
  cases hg:Kk.get .int m x.2.1 with
  | some k=>rw [jf hg,av,av,jw a]
  | none=>rw [iy hg,av,av,jw a]
theorem tm:∀ (a:List bc) (m:List (Int×Int)),(ia a m).length<=m.length+a.length
 | [],_=>aG _
 | x::a,m=>by
  cases hg:Kk.get .int m x.2.1 with
  | some k=>
   rw [iO hg,av];have:=tm a m;omega
  | none=>
   rw [iP hg,av];have:=tm a (Kk.put .int m x.2.1 ((m.length:Int)+1));rw [mu hg] at this;omega
namespace IsB
variable {C:List bc}
end IsB
theorem qc:∀ (L:List bc) (m:List (Int×Int)),(cZ L m).map (λc=>(c.1,c.2.2))=L.map λc=>(c.1,c.2.2)
 | [],_=>rfl
 | x::L,m=>by
  cases hg:Kk.get .int m x.2.1 with
  | some k=>rw [jf hg,cw,cw,qc L];rfl
  | none=>rw [iy hg,cw,cw,qc L];rfl
theorem aeD {L:List bc} {m:List (Int×Int)} (h:L.Pairwise λa b=>cmpL a.1 b.1< 0):(cZ L m).Pairwise λa b=>cmpL a.1 b.1< 0:=by
 have e:=qc L m;have h1:(L.map λc=>(c.1,c.2.2)).Pairwise λa b=>cmpL a.1 b.1< 0:=List.pairwise_map.2 h
 grind
theorem Jl {L:List bc} {m:List (Int×Int)} {c:bc} (h:c∈cZ L m):∃ x∈L,x.1=c.1/\x.2.2=c.2.2:=by
 have e:=qc L m;have h1:(c.1,c.2.2)∈(cZ L m).map λc=>(c.1,c.2.2):=by grind
 grind
end Go.Lm

namespace Go.Lm
open Go
theorem lu (x y:ByteArray):lS x y=decide (fM x y< 0):=by
 grind [lS, jY, DQ]
theorem qv {x y:ByteArray} (h:fM x y=0):x=y:=by
 have:=A9 h
 grind [Lib.toList_data, BW]
theorem uB (x y:ByteArray) (a b:List ByteArray):cmpL (x::a) (y::b)=if fM x y=0 then cmpL a b else fM x y:=rfl
theorem Wm (b:List ByteArray):decide (cmpL [] b< 0)=decide (0< (b.length:Int)):=by
 cases b with
 | nil=>rfl
 | cons _ _=>simp [cmpL]
theorem Wl (a:List ByteArray):decide (cmpL a []< 0)=false:=decide_eq_false (xu a)
theorem ajC {out:List bc} {x:bc} {k:Nat} (h:out.Pairwise λx y=>¬cmpL y.1 x.1< 0) (h1:∀ y∈out.drop k,cmpL x.1 y.1< 0) (h2:∀ y∈out.take k,¬cmpL x.1 y.1< 0):
  (out.take k++ [x]++out.drop k).Pairwise λx y=>¬cmpL y.1 x.1< 0:=by
 have hs:(out.take k++out.drop k).Pairwise λx y=>¬cmpL y.1 x.1< 0:=by simp_all
 obtain ⟨s1,s2,s3⟩:=iK.1 hs;refine iK.2 ⟨iK.2 ⟨s1,by simp,λy hy z hz=>?_⟩,s2,λy hy z hz=>?_⟩
 .grind
 .rcases aV.1 hy with hy| hy
  .grind
  .grind [mC]
theorem ZV {out L:List bc} {x:bc} {k:Nat} (h:out.Perm L):(out.take k++ [x]++out.drop k).Perm (L++ [x]):=by
 rw [aM,List.singleton_append];refine List.perm_middle.trans ?_;rw [bK];exact (h.cons x).trans (List.perm_append_singleton x L).symm
theorem uf:∀ (L:List bc) {m:List (Int×Int)} {i z:Int},Kk.get .int m i=some z->Kk.get .int (ia L m) i=some z
 | [],_,_,_,h=>h
 | x::L,m,i,z,h=>by
  cases hg:Kk.get .int m x.2.1 with
  | some k=>rw [iO hg];exact uf L h
  | none=>
   rw [iP hg];refine uf L ?_;have:i≠x.2.1:=λe=>by rw [e,hg] at h;cases h
   rw [iR (k:=.int) this];exact h
theorem Jm:∀ (L:List bc) {m:List (Int×Int)} {i:Int},Kk.get .int (ia L m) i=none↔Kk.get .int m i=none/\∀ y∈L,y.2.1≠i
 | [],_,_=>by simp [ia]
 | x::L,m,i=>by
  cases hg:Kk.get .int m x.2.1 with
  | some k=>
   rw [iO hg,Jm L];constructor
   .rintro ⟨h1,h2⟩;refine ⟨h1,λy hy=>?_⟩;rcases bm.1 hy with e| hy
    .rw [e];intro q;rw [q,h1] at hg;cases hg
    .exact h2 y hy
   .rintro ⟨h1,h2⟩;exact ⟨h1,λy hy=>h2 y (aI _ hy)⟩
  | none=>
   rw [iP hg,Jm L];constructor
   .rintro ⟨h1,h2⟩;have hi:i≠x.2.1:=λe=>by rw [e,fq] at h1;cases h1
    rw [iR (k:=.int) hi] at h1;refine ⟨h1,λy hy=>?_⟩;rcases bm.1 hy with e| hy;rw [e];exact λq=>hi q.symm;exact h2 y hy
   .rintro ⟨h1,h2⟩;have hi:i≠x.2.1:=λe=>h2 x aN e.symm;exact ⟨by rw [iR (k:=.int) hi];exact h1,λy hy=>h2 y (aI _ hy)⟩
theorem AZ:∀ (L:List bc) {m:List (Int×Int)},(∀ i z,Kk.get .int m i=some z->1<=z)->∀ i z,Kk.get .int (ia L m) i=some z->1<=z
 | [],_,h,i,z,hz=>h i z hz
 | x::L,m,h,i,z,hz=>by
  cases hg:Kk.get .int m x.2.1 with
  | some k=>rw [iO hg] at hz;exact AZ L h i z hz
  | none=>
   rw [iP hg] at hz;refine AZ L (λj y hy=>?_) i z hz;by_cases hj:j=x.2.1
   .rw [hj,fq] at hy
    grind
   grind [iR]
theorem wW:∀ (L:List bc) (m:List (Int×Int)) (j:Nat) (hj:j< L.length),Kk.get .int (ia L m) (L[j]).2.1=some ((cZ L m)[j]'(by rw [jw];exact hj)).2.1
 | [],_,_,h=>by simp at h
 | x::L,m,j,hj=>by
  cases hg:Kk.get .int m x.2.1 with
  | some k=>
   have e:=jf (r:=L) hg;simp only [iO hg,e];cases j with
   | zero=>exact uf L hg
   | succ j=>exact wW L m j (by simpa using hj)
  | none=>
   have e:=iy (r:=L) hg;simp only [iP hg,e];cases j with
   | zero=>exact uf L fq
   | succ j=>exact wW L _ j (by simpa using hj)
theorem ajp {L:List bc} {j:Int} (h0:0<=j) (h1:j< L.length):Kk.get .int (ia L []) (aA noTy L j).2.1=some (aA noTy (cZ L []) j).2.1:=by
 grind [fF, wW]
theorem M9 {L:List bc} {x:bc} {v:Int} (h:Kk.get .int (ia L []) x.2.1=some v\/(Kk.get .int (ia L []) x.2.1=none/\v=((ia L []).length:Int)+1)):cZ (L++ [x]) []=cZ L []++ [x.jG v]/\((ia (L++ [x]) []).length:Int)=if Kk.get .int (ia L []) x.2.1=none then ((ia L []).length:Int)+1 else (ia L []).length:=by
 rw [(qZ L [x] []).1,(qZ L [x] []).2];rcases h with h| ⟨h,rfl⟩
 .rw [jf h,iO h,if_neg (by rw [h];simp)];trivial
 .rw [iy h,iP h,if_pos h];refine ⟨rfl,?_⟩;show ((Kk.put .int _ _ _).length:Int)=_
  grind [mu]
theorem xR {L:List bc} (h:L.Pairwise λx y=>¬cmpL y.1 x.1< 0) (hn:L.Pairwise λa b=>a.1≠b.1):L.Pairwise λa b=>cmpL a.1 b.1< 0:=by
 refine (h.imp₂ (λa b h1 h2=>?_) hn);have s:=mC a.1 b.1;by_cases e:cmpL a.1 b.1=0;exact absurd (cmpL_zero e) h2;omega
where
 cmpL_zero:∀ {a b:List ByteArray},cmpL a b=0->a=b
  | [],[],_=>rfl
  | [],_::_,h=>by cases h
  | _::_,[],h=>by cases h
  | x::a,y::b,h=>by
   rw [uB] at h;split at h
   .rename_i e;rw [qv e,cmpL_zero h]
   omega
theorem Mc {L K:List bc} (hp:L.Perm K) (h:L.Pairwise λa b=>cmpL a.1 b.1< 0) (k:K.Pairwise λa b=>cmpL a.1 b.1< 0):L=K:=
 Gb (R:=λa b:bc=>cmpL a.1 b.1< 0) (by grind [mC]) h k λ_=>hp.mem_iff
theorem P0 {n:Int} (h0:0<=n) (h1:n< 4611686018427387904):IntKind.wrap .i64 (ll .u64 (IntKind.wrap .u64 n) 1)=n / 2:=by
 grind [pg, Lit.wf, IntKind.min, mU, kH, ll]
structure nO (L:List bc) (x:List Int):Prop where
 inr:∀ y∈x,0<=y/\y< (L.length:Int)
 ord:∀ i j:Int,0<=i->i< j->j< (x.length:Int)->¬cmpL (aA noTy L (aA (.int .i64) x j)).1 (aA noTy L (aA (.int .i64) x i)).1< 0
theorem nO.at {L:List bc} {x:List Int} (h:nO L x) {i:Int} (h0:0<=i) (h1:i< (x.length:Int)):0<=(aA (.int .i64) x i:Int)/\(aA (.int .i64) x i:Int)< (L.length:Int):=h.inr _ (by grind [tv])
theorem nO.of {L:List bc} {x:List Int} (hs:L.Pairwise λa b=>cmpL a.1 b.1< 0) (hx:x.Pairwise λa b=>a< b) (yY:∀ y∈x,0<=y/\y< (L.length:Int)):nO L x:=⟨yY,λi j h0 h1 h2 hc=>by
 have hi:i< (x.length:Int):=by omega
 have a1:=yY _ (tv (e:=.int .i64) h0 hi);have a2:=yY _ (tv (e:=.int .i64) (i:=j) (by omega) h2);have fB:(aA (.int .i64) x i:Int)< aA (.int .i64) x j:=by
  rw [fF (e:=.int .i64) h0 hi,fF (e:=.int .i64) (by omega) h2];exact dx.1 hx _ _ _ _ (by omega)
 have key:∀ u v:Int,0<=u->u< v->v< (L.length:Int)->¬cmpL (aA noTy L v).1 (aA noTy L u).1< 0:=λu v u0 uv v1 hc=>by
  have:=dx.1 hs u.toNat v.toNat (by omega) (by omega) (by omega);rw [fF (e:=noTy) u0 (by omega),fF (e:=noTy) (by omega) v1] at hc
  grind [mC]
 grind⟩
def qh (p:List ByteArray) (x:bc):Bool:=((x.1.length:Int)==(p.length:Int)+1)&& (decide ((x.1.length:Int)>(p.length:Int))&& gd (x.1.take p.length) p)
def bU (p:List ByteArray):List bc->Int->List Int
 | [],_=>[]
 | x::r,k=>if qh p x then k::bU p r (k+1) else bU p r (k+1)
theorem jW (p:List ByteArray) (x:bc) (r:List bc) (k:Int):bU p (x::r) k=(if qh p x then [k] else [])++bU p r (k+1):=by
 grind [bU]
theorem oM (p:List ByteArray):∀ {L:List bc} {k y:Int},y∈bU p L k↔∃ j:Nat,∃ h:j< L.length,y=k+j/\qh p L[j]=true
 | [],k,y=>by simp [bU]
 | x::r,k,y=>by
  rw [jW,aV,oM p (L:=r)];constructor
  .rintro (h| ⟨j,hj,e,hk⟩)
   .by_cases hx:qh p x=true
    .rw [if_pos hx] at h;obtain rfl:=aU.1 h;exact ⟨0,by simp,by omega,hx⟩
    .rw [if_neg hx] at h;cases h
   .exact ⟨j+1,by simpa using hj,by omega,hk⟩
  .rintro ⟨j,hj,e,hk⟩;cases j with
   | zero=>
    have hk:qh p x=true:=hk;rw [if_pos hk,e];simp
   | succ j=>exact .inr ⟨j,by simpa using hj,by omega,hk⟩
theorem qg (p:List ByteArray):∀ {L:List bc} {k:Int},(bU p L k).Pairwise λa b=>a< b
 | [],_=>List.Pairwise.nil
 | x::r,k=>by
  rw [jW];split
  .refine eV.2 ⟨λy hy=>?_,qg p⟩;obtain ⟨j,_,e,_⟩:=(oM p).1 hy;omega
  .exact qg p
theorem jV (p:List ByteArray):∀ {L:List bc} {k:Int},(bU p L k).length<=L.length
 | [],_=>aG _
 | x::r,k=>by
  rw [jW,af,av];have:=jV p (L:=r) (k:=k+1);split;simp only [aE];omega;simp only [aY];omega
theorem ZK {L:List bc} (hs:L.Pairwise λa b=>cmpL a.1 b.1< 0) (p:List ByteArray):nO L (bU p L 0):=.of hs (qg p) (by grind [oM])
def jD (L:List bc) (i:Int):Nat:=L.countP (uH i)
structure RAt (fs:List (List UInt8)) (R:List UInt8) (o:Nat) (r:Int):Prop where
 le:o<=R.length
 ref:∀ gs,r=(dS (fs++gs) o:Nat)
structure Has (fs:List (List UInt8)) (R:List UInt8) (r:Int) (b:List UInt8):Prop where
 ex:∃ o q,RAt fs R o r/\R.drop o=b++q
theorem Has.app {fs:List (List UInt8)} {R:List UInt8} {r:Int} {b:List UInt8} (h:Has fs R r b) (gs:List (List UInt8)) (S:List UInt8):Has (fs++gs) (R++S) r b:=by
 obtain ⟨o,q,h1,h2⟩:=h;exact ⟨o,q++S,⟨by rw [af];have:=h1.le;omega,λhs=>by rw [aM];exact h1.ref _⟩,by rw [eQ h1.le,h2,aM]⟩
theorem Has.new {fs fs':List (List UInt8)} {R b:List UInt8} {r:Nat} (h:∀ gs,r=dS (fs++gs) R.length):Has (fs++fs') (R++b) (r:Int) b:=
 ⟨R.length,[],⟨by grind,by grind⟩,by grind⟩
structure BS where
 RI:List UInt8
 fI:List (List UInt8)
 RL:List UInt8
 fL:List (List UInt8)
 RX:List UInt8
 fX:List (List UInt8)
 Mr:List (Int×Int)
 Ms:List (ByteArray×Int)
structure BS.Le (s t:BS):Prop where
 RI:∃ c,t.RI=s.RI++c
 fI:∃ c,t.fI=s.fI++c
 RL:∃ c,t.RL=s.RL++c
 fL:∃ c,t.fL=s.fL++c
 RX:∃ c,t.RX=s.RX++c
 fX:∃ c,t.fX=s.fX++c
 Mr:∀ i r,Kk.get .int s.Mr i=some r->Kk.get .int t.Mr i=some r
theorem zz {α:Type} {a b c:List α} (h:∃ x,b=a++x) (k:∃ x,c=b++x):∃ x,c=a++x:=by
 grind
theorem BS.Le.refl (s:BS):BS.Le s s:=⟨by simp,by simp,by simp,by simp,by simp,by simp,by grind⟩
theorem BS.Le.trans {s t u:BS} (h:BS.Le s t) (k:BS.Le t u):BS.Le s u:=⟨zz h.RI k.RI,zz h.fI k.fI,zz h.RL k.RL,zz h.fL k.fL,zz h.RX k.RX,zz h.fX k.fX,λi r q=>k.Mr i r (h.Mr i r q)⟩
theorem Has.le {fs gs:List (List UInt8)} {R S:List UInt8} {r:Int} {b:List UInt8} (h:Has fs R r b) (hf:∃ c,gs=fs++c) (hr:∃ c,S=R++c):Has gs S r b:=by
 obtain ⟨c,rfl⟩:=hf;obtain ⟨d,rfl⟩:=hr;exact h.app c d
structure WZ (fX:List (List UInt8)) (RX:List UInt8) (x:Int) (l:List u9):Prop where
 or:(l= []/\x=0)\/(l≠ []/\1<=x/\Has fX RX (x - 1) (xsB l))
 le:0<=x/\x<=4294967295
structure pt (fX:List (List UInt8)) (RX:List UInt8) (Ms:List (ByteArray×Int)):Prop where
 all:∀ p∈Ms,(0<=p.2/\p.2<=4294967294)/\Has fX RX p.2 p.1.data.toList
theorem pt.le {fX gX:List (List UInt8)} {RX SX:List UInt8} {Ms:List (ByteArray×Int)} (h:pt fX RX Ms) (hf:∃ c,gX=fX++c) (hr:∃ c,SX=RX++c):pt gX SX Ms:=⟨λp hp=>⟨(h.all p hp).1,(h.all p hp).2.le hf hr⟩⟩
theorem pt.put {fX:List (List UInt8)} {RX:List UInt8} {Ms:List (ByteArray×Int)} (h:pt fX RX Ms) {b:List UInt8} {r:Int} (h0:0<=r/\r<=4294967294) (hb:Has fX RX r b):pt fX RX (Kk.put .str Ms (fY b) r):=⟨λp hp=>by
 rcases bm.1 hp with rfl| hp;trivial
 .exact h.all p (gk.1 hp).1⟩
theorem pt.get {fX:List (List UInt8)} {RX:List UInt8} {Ms:List (ByteArray×Int)} (h:pt fX RX Ms) {b:List UInt8} {r:Int} (hg:Kk.get .str Ms (fY b)=some r):(0<=r/\r<=4294967294)/\Has fX RX r b:=by
 have:=h.all _ (oR (κ:=ByteArray) hg)
 assumption
def fZ (L:List bc) (Mr:List (Int×Int)) (d:Nat):List Int->List dg.den->Prop
 | [],[]=>True
 | k::ks,e::es=>e.1=(aA noTy L k).1.getD d ⟨#[]⟩/\e.2.1=(aA noTy L k).2.2.1/\Kk.get .int Mr (aA noTy L k).2.1=some e.2.2.1/\fZ L Mr d ks es
 | _,_=>False
theorem fZ.le {L:List bc} {M N:List (Int×Int)} {d:Nat} (hk:∀ i r,Kk.get .int M i=some r->Kk.get .int N i=some r):∀ {ks:List Int} {es:List dg.den},fZ L M d ks es->fZ L N d ks es
 | [],[],h=>h
 | _::_,_::_,⟨h1,h2,h3,h4⟩=>⟨h1,h2,hk _ _ h3,fZ.le hk h4⟩
 | [],_::_,h=>h
 | _::_,[],h=>h
theorem fZ.snoc {L:List bc} {M:List (Int×Int)} {d:Nat} {k:Int} {e:dg.den}:∀ {ks:List Int} {es:List dg.den},fZ L M d ks es->fZ L M d [k] [e]->fZ L M d (ks++ [k]) (es++ [e])
 | [],[],_,h=>h
 | _::_,_::_,⟨h1,h2,h3,h4⟩,h=>⟨h1,h2,h3,fZ.snoc h4 h⟩
 | [],_::_,h,_=>h.elim
 | _::_,[],h,_=>h.elim
theorem fZ.len {L:List bc} {M:List (Int×Int)} {d:Nat}:∀ {ks:List Int} {es:List dg.den},fZ L M d ks es->es.length=ks.length
 | [],[],_=>rfl
 | _::_,_::_,⟨_,_,_,h4⟩=>by rw [av,av,fZ.len h4]
 | [],_::_,h=>h.elim
 | _::_,[],h=>h.elim
structure rD (L:List bc) (ids:List Int) (F:List (Int×eA.den)) (s:BS) (x:bc) (i:eA.den):Prop where
 ok:o7 i
 kind:i.1=x.2.2.1
 mode:i.2.1=x.2.2.2.1.1
 uid:ids[(i.2.2.1:Int).toNat]?=some (vf x)
 gid:ids[(i.2.2.2.1:Int).toNat]?=some (zb x)
 lnk:(i.2.2.2.2.1:Int)=(jD L x.2.1:Nat)
 xa:WZ s.fX s.RX i.2.2.2.2.2.1 x.2.2.2.2.2.2.1
 or:(x.2.2.1=1/\∃ es,iV ⟨#[]⟩ es/\fZ L s.Mr x.1.length (bU x.1 L 0) es/\Has s.fL s.RL i.2.2.2.2.2.2.1 (gM es)/\(i.2.2.2.2.2.2.2.1:Int)=(gM es).length)\/
  (x.2.2.1=2/\Kk.get .int F x.2.1=some (0,0,0,0,0,0,i.2.2.2.2.2.2.1,i.2.2.2.2.2.2.2.1,i.2.2.2.2.2.2.2.2.1,i.2.2.2.2.2.2.2.2.2.1,⟨#[]⟩,()))\/
  (x.2.2.1=3/\i.2.2.2.2.2.2.2.2.2.2.1=x.2.2.2.2.2.1)
theorem rD.le {L:List bc} {ids:List Int} {F:List (Int×eA.den)} {s t:BS} {x:bc} {i:eA.den} (h:rD L ids F s x i) (k:BS.Le s t):rD L ids F t x i:=by
 refine ⟨h.ok,h.kind,h.mode,h.uid,h.gid,h.lnk,⟨?_,h.xa.le⟩,?_⟩
 .rcases h.xa.or with q| ⟨q,r⟩
  .grind
  .exact .inr ⟨q,r.1,r.2.le k.fX k.RX⟩
 .rcases h.or with ⟨q,es,r1,r2,r3,r4⟩| q| q
  .exact .inl ⟨q,es,r1,r2.le k.Mr,r3.le k.fL k.RL,r4⟩
  .grind
  grind
structure Eb (L:List bc) (ids:List Int) (F:List (Int×eA.den)) (s:BS) (e:Nat):Prop where
 refs:∀ i r,Kk.get .int s.Mr i=some r->(0<=r/\r<=4294967295)/\∃ x∈L,x.2.1=i/\∃ rec,Has s.fI s.RI r (fO rec)/\rD L ids F s x rec
 aee:pt s.fX s.RX s.Ms
 inj:∀ i j r,Kk.get .int s.Mr i=some r->Kk.get .int s.Mr j=some r->i=j
 keys:∃ V:List Nat,V.Nodup/\(∀ v∈V,v< L.length)/\s.Mr.map (·.1)=V.map λv:Nat=>(aA noTy L (v:Int)).2.1
 lI:s.RI.length<=220*s.Mr.length
 lL:s.RL.length<=10500*(s.Mr.length+e)
 lX:s.RX.length<=4200*s.Mr.length
 kn:(s.Mr.map (·.1)).Nodup
theorem Eb.len {L:List bc} {ids:List Int} {F:List (Int×eA.den)} {s:BS} {e:Nat} (h:Eb L ids F s e):s.Mr.length<=L.length:=by
 obtain ⟨V,h1,h2,h3⟩:=h.keys;have:=pig h1 h2;have e:=congrArg List.length h3
 grind
theorem sA {T:List Int} {x y R:List UInt8} {fs:List (List UInt8)} (h:MW T x y R fs):dS fs R.length<=270*R.length+128:=by
 have h1:=h.g.adj;have h2:=h.g.row;have h3:(fs.take (R.length / 128)).flatten.length<=fs.flatten.length:=by
  grind [bK]
 rw [<-h.g.flat] at h3
 grind [dS]
theorem af1 {T:List Int} {x y R:List UInt8} {fs:List (List UInt8)} (h:MW T x y R fs):∀ {j k:Nat},j< k->k<=fs.length->fx fs j+3<=fx fs k:=λ{j} k=>by
 induction k with
 | zero=>omega
 | succ k ih=>
  intro q hk;have hf:=(h.g.fr k fs[k] (by grind)).len
  grind [oc]
theorem Co {T:List Int} {x y R:List UInt8} {fs:List (List UInt8)} (h:MW T x y R fs) {o:Nat} (ho:o< R.length):dS fs o< dS fs R.length:=by
 have hr:=h.g.row;have hy:=h.lt;have e1:R.length / 128=fs.length:=by omega
 have e2:R.length % 128=y.length:=by omega
 show 256*fx fs (o / 128)+o % 128< 256*fx fs (R.length / 128)+R.length % 128;rw [e1,e2];rcases eT (o / 128) fs.length with q| q
 .have:=af1 h q (aG _);omega
 grind
def pre (p:List ByteArray) (x:bc):Prop:=x.1.take p.length=p
theorem tj (x:bc):pre x.1 x:=fz
structure sb (L:List bc) (ids:List Int) (F:List (Int×eA.den)):Prop where
 len:L.length<=40
 ord:L.Pairwise λa b=>cmpL a.1 b.1< 0
 nm:∀ x∈L,∀ s∈x.1,db s=0
 deep:∀ x∈L,x.1.length<=16
 par:∀ x∈L,x.1.length≠0->∃ y∈L,y.2.2.1=1/\y.1=x.1.take (x.1.length - 1)
 may:∀ x∈L,gE x=true
 one:∀ x∈L,∀ y∈L,x.2.1=y.2.1->(x.2.2.1=1->x=y)/\x.2.2=y.2.2
 ino:∀ x∈L,1<=x.2.1/\x.2.1<=40
 uid:∀ x∈L,(∃ i:Nat,ids[i]?=some (vf x))/\∃ i:Nat,ids[i]?=some (zb x)
 idl:ids.length<=80
 Md:ids.Pairwise λa b=>a< b
 file:∀ x∈L,x.2.2.1=2->∃ st fr off,Kk.get .int F x.2.1=some (0,0,0,0,0,0,st,(x.2.2.2.2.1.length:Int),fr,off,⟨#[]⟩,())/\zG st (x.2.2.2.2.1.length:Int) fr off
 nofile:∀ x∈L,x.2.2.1≠2->Kk.get .int F x.2.1=none
theorem Cd:∀ {a b:List ByteArray},gd a b=true↔a=b
 | [],[]=>by simp [gd]
 | [],_::_=>by simp [gd]
 | _::_,[]=>by simp [gd]
 | x::a,y::b=>by
  unfold gd;rw [ao,gO,Cd,List.cons.injEq]
theorem Tm {p:List ByteArray} {x:bc}:qh p x=true↔x.1.length=p.length+1/\pre p x:=by
 unfold qh pre
 grind [Cd]
theorem Td {L:List bc} {x:bc} (h:x∈L):∃ k:Nat,k< L.length/\aA noTy L (k:Int)=x:=by
 obtain ⟨k,hk,rfl⟩:=dZ.1 h;exact ⟨k,hk,gP (e:=noTy) hk⟩
theorem fH {L:List bc} {p:List ByteArray} {k:Int} (h:k∈bU p L 0):0<=k/\k< (L.length:Int)/\(aA noTy L k).1.length=p.length+1/\pre p (aA noTy L k):=by
 grind [oM, gP, Tm]
theorem Jx {L:List bc} {p:List ByteArray} {x:bc} (hx:x∈L) (h1:x.1.length=p.length+1) (h2:pre p x):∃ k∈bU p L 0,aA noTy L k=x:=by
 obtain ⟨j,hj,rfl⟩:=Td hx;refine ⟨(j:Int),(oM p).2 ⟨j,hj,by omega,?_⟩,rfl⟩
 grind [gP, Tm]
theorem uD {L:List bc} {ids:List Int} {F:List (Int×eA.den)} (t:sb L ids F) {p:List ByteArray}:∀ (n:Nat) {y:bc},y∈L->pre p y->y.1.length=p.length+1+n->∃ k∈bU p L 0,pre (aA noTy L k).1 y
 | 0,y,hy,hp,hl=>by
  grind [Jx, tj]
 | n+1,y,hy,hp,hl=>by
  obtain ⟨z,hz,_,e⟩:=t.par y hy (by omega);have OT:z.1.length=p.length+1+n:=by grind
  have hzp:pre p z:=by
   grind [pre]
  obtain ⟨k,hk,hq⟩:=uD t n hz hzp OT;refine ⟨k,hk,?_⟩;have ND:=(fH hk).2.2.1;simp_all [pre, o8]
theorem GD {p q:List ByteArray} {y:bc} (h1:p.length<=q.length) (h2:q.take p.length=p) (h:pre q y):pre p y:=by
 grind [pre]
theorem tW {p:List ByteArray} {x:bc} (h1:x.1.length=p.length+1) (h2:pre p x):x.1=p++ [x.1.getD p.length ⟨#[]⟩]:=by
 conv=>lhs;rw [<-bK p.length x.1]
 congr 1;have:(x.1.drop p.length).length=1:=by grind
 obtain ⟨s,hs⟩:=List.length_eq_one_iff.1 this;have e:(x.1.drop p.length)[0]?=some s:=by grind
 grind
theorem aeg {s:ByteArray} (h:db s=0):lS ⟨#[]⟩ s=true:=by
 rw [lu,decide_eq_true_eq];refine afn (List.nil_le _) (λe=>?_);subst e;exact absurd h (by decide+kernel)
theorem Ha {L:List bc} {ids:List Int} {F:List (Int×eA.den)} (t:sb L ids F) {p:List ByteArray} {M:List (Int×Int)} (hM:∀ i r,Kk.get .int M i=some r->0<=r/\r<=4294967295):∀ {ks:List Int} {es:List dg.den} {last:ByteArray},fZ L M p.length ks es->(∀ k∈ks,k∈bU p L 0)->(ks.Pairwise λa b=>a< b)->(∀ k∈ks,lS last ((aA noTy L k).1.getD p.length ⟨#[]⟩)=true)->iV last es
 | [],[],_,_,_,_,_=>trivial
 | k::ks,e::es,last,⟨h1,h2,h3,h4⟩,hk,ho,hl=>by
  obtain ⟨k0,k1,kl,kp⟩:=fH (hk k aN);have r6:aA noTy L k∈L:=tv (e:=noTy) k0 k1;have hs:=tW kl kp;obtain ⟨o1,o2⟩:=eV.1 ho;have Di:1<=(aA noTy L k).2.2.1/\(aA noTy L k).2.2.1<=3:=by
   have:=t.may _ r6;unfold gE at this;split at this
   .rename_i q;exact ⟨by rw [q];decide,by rw [q];decide⟩
   .split at this
    .rename_i q;exact ⟨by rw [q];decide,by rw [q];decide⟩
    .split at this
     .rename_i q;exact ⟨by rw [q];decide,by rw [q];decide⟩
     .cases this
  refine ⟨⟨?_,?_,by rw [h2];exact Di,hM _ _ h3⟩,Ha t hM h4 (λk' q=>hk k' (aI _ q)) o2 λk' AK=>?_⟩
  .rw [h1];refine t.nm _ r6 _ (Eq.mpr (congrArg (λl:List ByteArray=>(aA noTy L k).1.getD p.length ⟨#[]⟩∈l) hs) ?_);exact List.mem_append_right _ aN
  .rw [h1];exact hl k aN
  .obtain ⟨j0,j1,jl,jp⟩:=fH (hk k' (aI _ AK));have hs':=tW jl jp;have fB:=o1 k' AK;have hc:=dx.1 t.ord k.toNat k'.toNat (by omega) (by omega) (by omega);rw [<-fF (e:=noTy) k0 k1,<-fF (e:=noTy) j0 j1,hs,hs',Du] at hc;rw [h1,lu,decide_eq_true_eq];rw [uB] at hc;split at hc
   .exact absurd hc (by decide)
   .exact hc
 | [],_::_,_,h,_,_,_=>h.elim
 | _::_,[],_,h,_,_,_=>h.elim
theorem BS.Tg (t:BS) (b:List UInt8) (f:List (List UInt8)):BS.Le t {t with RL:=t.RL++b,fL:=t.fL++f}:=⟨⟨[],by simp⟩,⟨[],by simp⟩,⟨b,rfl⟩,⟨f,rfl⟩,⟨[],by simp⟩,⟨[],by simp⟩,λ_ _ h=>h⟩
theorem Eb.list {L:List bc} {ids:List Int} {F:List (Int×eA.den)} {t:BS} (h:Eb L ids F t 0) (b:List UInt8) (f:List (List UInt8)) (hb:b.length<=10500):Eb L ids F {t with RL:=t.RL++b,fL:=t.fL++f} 1:=by
 refine ⟨λi r q=>?_,h.aee,h.inj,h.keys,h.lI,?_,h.lX,h.kn⟩
 .obtain ⟨q1,x,q2,q3,rec,q4,q5⟩:=h.refs i r q;exact ⟨q1,x,q2,q3,rec,q4,q5.le (BS.Tg t b f)⟩
 .have:=h.lL;show (t.RL++b).length<=10500*(t.Mr.length+1);rw [af];omega
theorem AY {p:List ByteArray} {y:bc} (h:pre p y):p.length<=y.1.length:=by
 unfold pre at h;have:=congrArg List.length h;rw [aF] at this;omega
theorem both {P:Prop} (h:P):P/\P:=⟨h,h⟩
structure alH (l:List Int) (y:Int):Prop where
 ex:∃ i:Nat,l[i]?=some y
structure ah9 (L:List bc) (M:List (Int×Int)) (d:Nat) (ks:List Int) (es:List dg.den):Prop where
 ok:fZ L M d ks es
structure aqB (x:bc):Prop where
 mode:0<=x.2.2.2.1.1/\x.2.2.2.1.1<=511
 xa:dC x.2.2.2.2.2.2.1=true
 or:(x.2.2.1=1/\x.2.2.2.2.2.1=⟨#[]⟩)\/(x.2.2.1=2/\x.2.2.2.2.2.1=⟨#[]⟩)\/(x.2.2.1=3/\zF x.2.2.2.2.2.1)
theorem yU {m u g:Int} (h:AH m u g=true):0<=m/\m<=511:=by
 unfold AH gN at h;simp only [ao,decide_eq_true_eq] at h;omega
theorem vO {x:bc} (h:gE x=true):aqB x:=by
 unfold gE at h;split at h
 .rename_i q;simp only [ao] at h;exact ⟨yU h.1.2,h.2,.inl ⟨q,gO.1 h.1.1.1.2⟩⟩
 .split at h
  .rename_i q;simp only [ao] at h;exact ⟨yU h.1.2,h.2,.inr (.inl ⟨q,gO.1 h.1.1.1.2⟩)⟩
  .split at h
   .rename_i q;simp only [ao] at h;have hp:=h.1.1.1.2;unfold oG gN at hp;simp only [ao,decide_eq_true_eq] at hp;refine ⟨yU h.1.2,h.2,.inr (.inr ⟨q,⟨by omega,λc hc e=>?_⟩⟩)⟩;subst e;have h2:decide (Lib.indexByte x.2.2.2.2.2.1.data.toList 0< 0)=true:=decide_eq_true hp.2;rw [um] at h2;simp only [cY,List.any_eq_false,beq_iff_eq] at h2;exact h2 _ hc rfl
   .cases h
variable {L:List bc} {ids:List Int} {F:List (Int×eA.den)}
theorem sb.uniq (t:sb L ids F) {x y:bc} (hx:x∈L) (hy:y∈L) (h:x.1=y.1):x=y:=by
 obtain ⟨i,hi,rfl⟩:=dZ.1 hx;obtain ⟨j,hj,rfl⟩:=dZ.1 hy;have P:=dx.1 t.ord;rcases Nat.lt_trichotomy i j with q| q| q
 .have:=P i j hi hj q;rw [h,kg] at this;exact absurd this (by decide)
 .subst q;rfl
 .have:=P j i hj hi q;rw [h,kg] at this;exact absurd this (by decide)
theorem sb.nd (t:sb L ids F):L.Nodup:=t.ord.imp λ{a b} h e=>by
 subst e;rw [kg] at h;exact absurd h (by decide)
theorem count_one {α:Type} {p:α->Bool} {x:α}:∀ {l:List α},l.Nodup->x∈l->p x=true->(∀ y∈l,p y=true->y=x)->l.countP p=1
 | [],_,h,_,_=>by cases h
 | a::r,hn,hx,hp,ha=>by
  obtain ⟨n1,n2⟩:=gj.1 hn;rw [List.countP_cons];rcases bm.1 hx with rfl| hx;rw [if_pos hp,List.countP_eq_zero.2 λy hy q=>n1 (ha y (aI _ hy) q▸hy)];rw [count_one n2 hx hp λy hy=>ha y (aI _ hy),if_neg λq=>n1 (ha a aN q▸hx)]
theorem sb.lnk (t:sb L ids F) {x:bc} (hx:x∈L):1<=jD L x.2.1/\jD L x.2.1<=40/\(x.2.2.1=1->jD L x.2.1=1):=by
 refine ⟨List.countP_pos_iff.2 ⟨x,hx,by simp [uH]⟩,Nat.le_trans List.countP_le_length t.len,λh=>count_one t.nd hx (by simp [uH]) λy hy q=>?_⟩;exact ((t.one x hx y hy (eq_of_beq q).symm).1 h).symm
theorem Da {M:List (Int×Int)} {i:Int}:Kk.get .int M i=none↔i ∉ M.map (·.1):=by
 unfold Kk.get iS;rw [Option.map_eq_none_iff,List.find?_eq_none];constructor
 .intro h q;obtain ⟨p,hp,rfl⟩:=bp.1 q;exact absurd (h p hp) (by simp)
 .intro h p hp q;exact h (bp.2 ⟨p,hp,by simpa using q⟩)
theorem Tk {M:List (Int×Int)} {i r:Int} (h:Kk.get .int M i=none):(Kk.put .int M i r:List (Int×Int))=(i,r)::M:=by
 unfold Kk.put qY pf;rw [lr.2];intro p hp;have:=Da.1 h;simp only [cY,decide_eq_false_iff_not];intro e;exact this (bp.2 ⟨p,hp,e⟩)
theorem Ir {i:eA.den} (h:o7 i):(fO i).length<=214:=by
 rw [SH h];rcases h.or with q| q| q;rw [if_pos q.1];decide
 .split
  .decide
  .split
   .decide
   .have:=q.2.2;rw [this];decide
 .have:=q.2.1.len;split
  .decide
  .split
   .decide
   .omega
theorem fZ.get {M:List (Int×Int)} {d:Nat}:∀ {ks:List Int} {es:List dg.den},fZ L M d ks es->∀ k∈ks,∃ r,Kk.get .int M (aA noTy L k).2.1=some r
 | [],[],_,k,hk=>by cases hk
 | a::ks,e::es,⟨_,_,h3,h4⟩,k,hk=>by
  rcases bm.1 hk with rfl| hk;exact ⟨_,h3⟩;exact fZ.get h4 k hk
 | [],_::_,h,_,_=>h.elim
 | _::_,[],h,_,_=>h.elim
theorem Eb.cov (t:sb L ids F) {s:BS} {e:Nat} (h:Eb L ids F s e):∀ (n:Nat) {x y:bc},x∈L->(∃ r,Kk.get .int s.Mr x.2.1=some r)->y∈L->pre x.1 y->y.1.length=x.1.length+n->∃ r,Kk.get .int s.Mr y.2.1=some r
 | 0,x,y,hx,hr,hy,hp,hl=>by
  unfold pre at hp;rw [aL (by omega)] at hp;rw [t.uniq hy hx hp];exact hr
 | n+1,x,y,hx,hr,hy,hp,hl=>by
  obtain ⟨z,hz,hzk,hze⟩:=t.par y hy (by omega);have OT:z.1.length=x.1.length+n:=by rw [hze,aF];omega
  have hzp:pre x.1 z:=by
   unfold pre at*;rw [hze,o8,py (by omega),hp]
  obtain ⟨r,hg⟩:=Eb.cov t h n hx hr hz hzp OT;obtain ⟨_,x',OV,ei,rec,_,hN⟩:=h.refs _ _ hg;obtain rfl:=(t.one z hz x' OV ei.symm).1 hzk;rcases hN.or with ⟨_,es,_,q,_⟩| ⟨q,_⟩| ⟨q,_⟩
  .obtain ⟨k,hk,rfl⟩:=Jx (p:=z.1) hy (by omega) (by unfold pre;rw [hze,aF];congr 1;omega);exact q.get k hk
  .rw [hzk] at q;exact absurd q (by decide)
  .rw [hzk] at q;exact absurd q (by decide)
abbrev BS.put (t:BS) (i:Int) (r:Int) (b:List UInt8) (f:List (List UInt8)) (RX:List UInt8) (fX:List (List UInt8)) (Ms:List (ByteArray×Int)):BS:=⟨t.RI++b,t.fI++f,t.RL,t.fL,RX,fX,Kk.put .int t.Mr i r,Ms⟩
theorem Eb.put {t:BS} {e:Nat} (h:Eb L ids F t e) (he:e<=1) {k:Int} (k0:0<=k) (k1:k< (L.length:Int)) (kA:Kk.get .int t.Mr (aA noTy L k).2.1=none) {RX:List UInt8} {fX:List (List UInt8)} {Ms:List (ByteArray×Int)} (hR:∃ c,RX=t.RX++c/\c.length<=4100) (hf:∃ c,fX=t.fX++c) (hS:pt fX RX Ms) {rec:eA.den} {r:Nat} {fs:List (List UInt8)} (hr:∀ gs,r=dS (t.fI++gs) t.RI.length) (am1:r<=4294967295) (fB:∀ o,o< t.RI.length->dS t.fI o< dS t.fI t.RI.length) (hN:rD L ids F {t with RX:=RX,fX:=fX,Ms:=Ms} (aA noTy L k) rec):Eb L ids F (t.put (aA noTy L k).2.1 r (fO rec) fs RX fX Ms) 0/\BS.Le t (t.put (aA noTy L k).2.1 r (fO rec) fs RX fX Ms):=by
 have hM:∀ i q,Kk.get .int t.Mr i=some q->Kk.get .int (Kk.put .int t.Mr (aA noTy L k).2.1 (r:Int):List (Int×Int)) i=some q:=λi q hq=>by
  rw [iR (k:=.int) (by intro e;rw [e,kA] at hq;cases hq)];exact hq
 obtain ⟨c,hc,Qq⟩:=hR;have hle:BS.Le t (t.put (aA noTy L k).2.1 r (fO rec) fs RX fX Ms):=⟨⟨_,rfl⟩,⟨_,rfl⟩,⟨[],by simp⟩,⟨[],by simp⟩,⟨c,hc⟩,hf,hM⟩;have ani:BS.Le {t with RX:=RX,fX:=fX,Ms:=Ms} (t.put (aA noTy L k).2.1 r (fO rec) fs RX fX Ms):=⟨⟨_,rfl⟩,⟨_,rfl⟩,⟨[],by simp⟩,⟨[],by simp⟩,⟨[],by simp⟩,⟨[],by simp⟩,hM⟩;have JI:(Kk.put .int t.Mr (aA noTy L k).2.1 (r:Int):List (Int×Int)).length=t.Mr.length+1:=mu kA;have hrl:=Ir hN.ok;have uJ:∀ j q,Kk.get .int t.Mr j=some q->q≠(r:Int):=λj q hq e=>by
  obtain ⟨_,y,_,_,rc,⟨o,qq,ho,hd⟩,hn⟩:=h.refs j q hq;have h1:=ho.ref [];have h2:=hr [];rw [bf] at h1 h2;obtain ⟨tl,htl⟩:=MK hn.ok;have hl:=congrArg List.length hd;rw [aR,af,htl,av] at hl;have:=fB o (by omega);omega
 refine ⟨⟨λi q hq=>?_,hS,λi j q hi hj=>?_,?_,?_,?_,?_,by show ((Kk.put .int t.Mr (aA noTy L k).2.1 (r:Int):List (Int×Int)).map (·.1)).Nodup;rw [Tk kA,cw,gj];exact ⟨Da.1 kA,h.kn⟩⟩,hle⟩
 .by_cases hi:i=(aA noTy L k).2.1
  .subst hi;have hq:Kk.get .int (Kk.put .int t.Mr (aA noTy L k).2.1 (r:Int):List (Int×Int)) _=some q:=hq;rw [fq (k:=.int)] at hq;obtain rfl:=aj hq;exact ⟨⟨Int.natCast_nonneg _,by omega⟩,_,tv (e:=noTy) k0 k1,rfl,rec,Has.new hr,hN.le ani⟩
  .have hq:Kk.get .int (Kk.put .int t.Mr (aA noTy L k).2.1 (r:Int):List (Int×Int)) i=some q:=hq;rw [iR (k:=.int) hi] at hq;obtain ⟨q1,x,q2,q3,rc,q4,q5⟩:=h.refs i q hq;exact ⟨q1,x,q2,q3,rc,q4.le hle.fI hle.RI,q5.le hle⟩
 .have hi:Kk.get .int (Kk.put .int t.Mr (aA noTy L k).2.1 (r:Int):List (Int×Int)) i=some q:=hi;have hj:Kk.get .int (Kk.put .int t.Mr (aA noTy L k).2.1 (r:Int):List (Int×Int)) j=some q:=hj;by_cases ei:i=(aA noTy L k).2.1
  .by_cases ej:j=(aA noTy L k).2.1
   .rw [ei,ej]
   .rw [iR (k:=.int) ej] at hj;rw [ei,fq (k:=.int)] at hi;exact absurd (aj hi).symm (uJ j q hj)
  .rw [iR (k:=.int) ei] at hi;by_cases ej:j=(aA noTy L k).2.1
   .rw [ej,fq (k:=.int)] at hj;exact absurd (aj hj).symm (uJ i q hi)
   .rw [iR (k:=.int) ej] at hj;exact h.inj i j q hi hj
 .obtain ⟨V,v1,v2,v3⟩:=h.keys;refine ⟨k.toNat::V,gj.2 ⟨λq=>?_,v1⟩,λv hv=>?_,?_⟩
  .refine Da.1 kA ?_;rw [v3];refine bp.2 ⟨_,q,?_⟩;rw [Int.toNat_of_nonneg k0]
  .rcases bm.1 hv with rfl| hv
   .omega
   .exact v2 v hv
  .show (Kk.put .int t.Mr (aA noTy L k).2.1 (r:Int):List (Int×Int)).map (·.1)=_;rw [Tk kA,cw,cw,v3,Int.toNat_of_nonneg k0]
 .show (t.RI++fO rec).length<=220*(Kk.put .int t.Mr (aA noTy L k).2.1 (r:Int):List (Int×Int)).length;have:=h.lI;rw [af,JI];omega
 .show t.RL.length<=10500*((Kk.put .int t.Mr (aA noTy L k).2.1 (r:Int):List (Int×Int)).length+0);have:=h.lL;rw [JI];omega
 .show RX.length<=4200*(Kk.put .int t.Mr (aA noTy L k).2.1 (r:Int):List (Int×Int)).length;have:=h.lX;rw [JI,hc,af];omega
theorem JE {ids:List Int} {i y:Int} (h:ids[i.toNat]?=some y):i.toNat< ids.length:=(aw.1 h).1
theorem Jq (t:sb L ids F) {x:bc} (hx:x∈L) {iu ig xa:Int} (u0:0<=iu) (hu:ids[iu.toNat]?=some (vf x)) (g0:0<=ig) (hg:ids[ig.toNat]?=some (zb x)) (ha:0<=xa/\xa<=4294967295):Ea x.2.2.2.1.1 iu ig (jD L x.2.1:Nat) xa:=by
 have h1:=t.idl;have h2:=JE hu;have h3:=JE hg;have h4:=t.lnk hx;exact ⟨(vO (t.may x hx)).mode,by omega,by omega,by omega,ha⟩
theorem Zv (t:sb L ids F) {x:bc} (hx:x∈L) (hk:x.2.2.1=1) {s:BS} {iu ig xa st:Int} (u0:0<=iu) (hu:ids[iu.toNat]?=some (vf x)) (g0:0<=ig) (hg:ids[ig.toNat]?=some (zb x)) (ha:WZ s.fX s.RX xa x.2.2.2.2.2.2.1) {es:List dg.den} (h1:iV ⟨#[]⟩ es) (h2:fZ L s.Mr x.1.length (bU x.1 L 0) es) (h3:Has s.fL s.RL st (gM es)) (h4:0<=st/\st<=4294967295) (h5:(gM es).length<=10440):rD L ids F s x (x.2.2.1,x.2.2.2.1.1,iu,ig,((jD L x.2.1:Nat):Int),xa,st,((gM es).length:Int),0,0,x.2.2.2.2.2.1,()):=by
 have hl:=t.lnk hx;have hz:x.2.2.2.2.2.1=⟨#[]⟩:=by
  rcases (vO (t.may x hx)).or with q| q| q;exact q.2;exact q.2;rw [hk] at q;exact absurd q.1 (by decide)
 refine ⟨⟨Jq t hx u0 hu g0 hg ha.le,.inl ⟨hk,⟨h4,by show (0:Int)<=((gM es).length:Int)/\((gM es).length:Int)<=1048576;omega⟩,?_,rfl,rfl,hz⟩⟩,rfl,rfl,hu,hg,rfl,ha,.inl ⟨hk,es,h1,h2,h3,rfl⟩⟩;show ((jD L x.2.1:Nat):Int)=1;rw [hl.2.2 hk];rfl
theorem VM (t:sb L ids F) {x:bc} (hx:x∈L) (hk:x.2.2.1=2) {s:BS} {iu ig xa st fr off:Int} (u0:0<=iu) (hu:ids[iu.toNat]?=some (vf x)) (g0:0<=ig) (hg:ids[ig.toNat]?=some (zb x)) (ha:WZ s.fX s.RX xa x.2.2.2.2.2.2.1) (h1:Kk.get .int F x.2.1=some (0,0,0,0,0,0,st,(x.2.2.2.2.1.length:Int),fr,off,⟨#[]⟩,())) (h2:zG st (x.2.2.2.2.1.length:Int) fr off):rD L ids F s x (x.2.2.1,x.2.2.2.1.1,iu,ig,((jD L x.2.1:Nat):Int),xa,st,(x.2.2.2.2.1.length:Int),fr,off,x.2.2.2.2.2.1,()):=by
 have hz:x.2.2.2.2.2.1=⟨#[]⟩:=by
  rcases (vO (t.may x hx)).or with q| q| q;exact q.2;exact q.2;rw [hk] at q;exact absurd q.1 (by decide)
 exact ⟨⟨Jq t hx u0 hu g0 hg ha.le,.inr (.inl ⟨hk,h2,hz⟩)⟩,rfl,rfl,hu,hg,rfl,ha,.inr (.inl ⟨hk,h1⟩)⟩
theorem VL (t:sb L ids F) {x:bc} (hx:x∈L) (hk:x.2.2.1=3) {s:BS} {iu ig xa:Int} (u0:0<=iu) (hu:ids[iu.toNat]?=some (vf x)) (g0:0<=ig) (hg:ids[ig.toNat]?=some (zb x)) (ha:WZ s.fX s.RX xa x.2.2.2.2.2.2.1):rD L ids F s x (x.2.2.1,x.2.2.2.1.1,iu,ig,((jD L x.2.1:Nat):Int),xa,0,0,0,0,x.2.2.2.2.2.1,()):=by
 have hz:zF x.2.2.2.2.2.1:=by
  rcases (vO (t.may x hx)).or with q| q| q;rw [hk] at q;exact absurd q.1 (by decide);rw [hk] at q;exact absurd q.1 (by decide);exact q.2
 exact ⟨⟨Jq t hx u0 hu g0 hg ha.le,.inr (.inr ⟨hk,hz,rfl,rfl,rfl,rfl⟩)⟩,rfl,rfl,hu,hg,rfl,ha,.inr (.inr ⟨hk,rfl⟩)⟩
theorem sb.below (t:sb L ids F) {x y:bc} (hx:x∈L) (hk:x.2.2.1≠1) (hy:y∈L) (hp:pre x.1 y):y=x:=by
 have hl:=AY hp;rcases Nat.eq_or_lt_of_le hl with q| q
 .unfold pre at hp;rw [aL (by omega)] at hp;exact t.uniq hy hx hp
 .obtain ⟨k,r7,hq⟩:=uD t (p:=x.1) (y.1.length - (x.1.length+1)) hy hp (by omega);obtain ⟨k0,k1,kl,kp⟩:=fH r7;obtain ⟨z,hz,hzk,hze⟩:=t.par _ (tv (e:=noTy) k0 k1) (by omega);have:z.1=x.1:=by
   rw [hze,kl];unfold pre at kp;exact kp
  have:=t.uniq hz hx this;subst this;exact absurd hzk hk
end Go.Lm

namespace Go.Proofs
open Go.Shelf
set_option maxRecDepth 1000000
def Tryz.Ag:Go.Shelf.Ren:=⟨fun| 156=>154| 165=>200| 166=>201| 169=>202| 240=>229| 241=>230| 276=>242| 277=>243| n=>n,fun| 31=>32| 9=>9| 3=>3| 4=>4| 0=>0| 20=>20| 72=>294| 76=>298| 70=>292| 37=>35| 75=>297| 127=>324| 164=>334| 5=>5| 80=>291| n=>n,fun| n=>n⟩
theorem Tryz.Tj:Go.Proofs.Lays.n156 cg Tryz.Ag:= {
 mixed:=by kernel_rfl
 f156:=Tryz.func154.trans (congrArg some (by kernel_rfl))
 f165:=Tryz.func200.trans (congrArg some (by kernel_rfl))
 f166:=Tryz.func201.trans (congrArg some (by kernel_rfl))
 f169:=Tryz.func202.trans (congrArg some (by kernel_rfl))
 f240:=Tryz.func229.trans (congrArg some (by kernel_rfl))
 f241:=Tryz.func230.trans (congrArg some (by kernel_rfl))
 f276:=Tryz.func242.trans (congrArg some (by kernel_rfl))
 f277:=Tryz.func243.trans (congrArg some (by kernel_rfl))
 t0:=Tryz.underlying0
 a0:=Tryz.isAgg0
 z0:=Tryz.sizeOf0
 v0:=Tryz.zeroValue0
 t3:=Tryz.underlying3
 a3:=Tryz.isAgg3
 z3:=Tryz.sizeOf3
 v3:=Tryz.zeroValue3
 t4:=Tryz.underlying4
 a4:=Tryz.isAgg4
 z4:=Tryz.sizeOf4
 v4:=Tryz.zeroValue4
 t9:=Tryz.underlying9
 a9:=Tryz.isAgg9
 z9:=Tryz.sizeOf9
 v9:=Tryz.zeroValue9
 t20:=Tryz.underlying20
 a20:=Tryz.isAgg20
 z20:=Tryz.sizeOf20
 v20:=Tryz.zeroValue20
 t31:=Tryz.underlying32
 a31:=Tryz.isAgg32
 z31:=Tryz.sizeOf32
 v31:=Tryz.zeroValue32
 t37:=Tryz.underlying35
 a37:=Tryz.isAgg35
 z37:=Tryz.sizeOf35
 v37:=Tryz.zeroValue35
 t70:=Tryz.underlying292
 a70:=Tryz.isAgg292
 z70:=Tryz.sizeOf292
 v70:=Tryz.zeroValue292
 t72:=Tryz.underlying294
 a72:=Tryz.isAgg294
 z72:=Tryz.sizeOf294
 v72:=Tryz.zeroValue294
 t75:=Tryz.underlying297
 a75:=Tryz.isAgg297
 z75:=Tryz.sizeOf297
 v75:=Tryz.zeroValue297
 t76:=Tryz.underlying298
 a76:=Tryz.isAgg298
 z76:=Tryz.sizeOf298
 v76:=Tryz.zeroValue298
 t127:=Tryz.underlying324
 a127:=Tryz.isAgg324
 z127:=Tryz.sizeOf324
 v127:=Tryz.zeroValue324
 t164:=Tryz.underlying334
 a164:=Tryz.isAgg334
 z164:=Tryz.sizeOf334
 v164:=Tryz.zeroValue334}
theorem Tryz.px:Builder.Extra cg Tryz.Ag:= {
 sizeBuilder:=by kernel_rfl
 liesBuilder:=by kernel_rfl
 t5:=Tryz.underlying5
 a5:=Tryz.isAgg5
 z5:=Tryz.sizeOf5
 v5:=Tryz.zeroValue5
 infoByte:=by kernel_rfl
 cellsByte:=by kernel_rfl
 sizeByte:=by kernel_rfl
 neB5:=by decide}
open Go.RowKit in
theorem Tryz.strings_Join_none (a:Option Addr) (c:Nat) (sep:ByteArray) (w:World):
  Calls cg 154 #[.slice a 0 c,.string sep] w λe w'=>e= .returned (.string ⟨#[]⟩)/\w'=w:=Any.strings_Join_none Tryz.Tj Tryz.px a c sep w
open Go.RowKit in
theorem Tryz.strings_Join (bk o c:Nat) (xs:List ByteArray) (sep:ByteArray) (w:World) (Qr:∀ (j:Nat) x,xs[j]?=some x->w.cell? ⟨bk,o+j,none⟩=some (.string x)) (hbk:bk< w.heap.size) (hN:xs.length<=140737488355328) (JL:xs.length<=c) (hlen:(Lib.join (xs.map (·.data.toList)) sep.data.toList).length<=140737488355328):
  Calls cg 154 #[.slice (some ⟨bk,o,none⟩) xs.length c,.string sep] w λe w'=>e= .returned (.string ⟨(Lib.join (xs.map (·.data.toList)) sep.data.toList).toArray⟩)/\Below w.heap.size w w':=Any.strings_Join Tryz.Tj Tryz.px bk o c xs sep w Qr hbk hN JL hlen
end Go.Proofs

namespace Go.Proofs
open Go Go.Lm Go.RowKit
set_option maxRecDepth 1000000
def WA:Ct:=cI λx=>cI λa=>cI λb=>c0 λQ=>Q (.bool (gN x a b)) []
def ahn:=(gp.add Rc).add Kv
def Bz (x a b:Int):dq:=λQ=>cr x a b (br (decide (a<=x)) (Q (.v (.c (.k (.bool (decide (x<=b)))))) []) (ba Q))
theorem UR:cq 157 WA:=eI<| nF λx=>nF λa=>nF λb=>gx λQ h=>by
 refine Wp.dy ahn cu ⟨[],[]⟩ Tryz.f157 (Bz x a b) ?_;unfold Bz ba cr iW;intro _ _ _;unfold gN at h;refine ak (λhc=>?_) (λhc=>?_)<;>rw [hc] at h<;>exact h
def aaZ:Ct:=cS λs=>cI λm=>c0 λQ=>Q (.bool (oG s m)) []
def ahm:=ahn.add UR
def Fu (s:ByteArray) (m:Int):dq:=λQ=>iN s (aB .i64 m->br (gN (gQ s) aW m) (IX s.data.toList Q) (ba Q))
theorem XM:cq 156 aaZ:=eI<| Zp λs=>nF λm=>gx λQ h=>by
 refine Wp.dy ahm cu ⟨[],[]⟩ Tryz.f156 (Fu s m) ?_;unfold Fu IX iN ba gQ iW aW bx;intro _ _;unfold oG at h;refine ak (λhc=>?_) (λhc=>?_)<;>rw [hc] at h
 .intro _;exact h
 .exact h
def Wz:Ct:=cD cU λl=>c0 λQ=>Q (.bool (dC l)) []
def ahl:=ahm.add XM
def By (l:(List (cU).den)):dq:=λQ=>jC l (aJ (jO l)->aK (λi ag=>br (decide (i.1.1< (ay l))) (0<=i.1.1/\i.1.1< (ay l)/\(Ty.ok cU (cG l i.1.1)->br (!oG (cG l i.1.1).1 (40:Int)) (ba Q) (br (lS (cG l i.1.1).1 i.1.2.1 
 || j9 (cG l i.1.1).1 i.1.2.1) (ba Q) (pF l i.1.1 (br (yw l i.1.1) (ba Q) (cj i.1.1 (ag ((i.1.1+1,(cG l i.1.1).1,()),())))))))) (yy l Q)) ((ah,ByteArray.mk #[],()),()))
theorem UQ:cq 158 Wz:=eI<| iH λl=>gx λQ h=>by
 refine Wp.dy ahl cu ⟨[(4,⟨[(8,.int .i64),(3,.str)],[]⟩)],[]⟩ Tryz.f158 (By l) ?_;unfold By jO yw pF yy jC cG ba cj iW ah iF ay aJ;intro hl0 _;refine aK.intro (λi=>0<=i.1.1/\i.1.1<=l.length/\fG l ⟨#[]⟩=fG (l.drop i.1.1.toNat) i.1.2.1) (λi=>l.length - i.1.1.toNat) ⟨by simp,by simp,by simp⟩ ?_;rintro ⟨⟨i,last,_⟩,_⟩ ⟨h0,h1,h2⟩;simp only at h0 h1 h2 ⊢;refine ak (λhc=>?_) (λhc=>?_)
 .have hc:i< l.length:=by simpa using hc
  refine ⟨h0,hc,λ_=>?_⟩;rw [cR (e:=cU) h0 hc] at h2;have bad:wh (aA cU l i) last=true->Q (.bool false) []:=λhb=>by
   simp only [fG,hb,if_true] at h2;unfold dC at h;rw [h2,eO] at h;exact h
  unfold wh Go.Lm.leB at bad;refine ak (λh3=>bad (by rw [h3];rfl)) (λh3=>ak (λh4=>bad (by rw [h4];simp)) (λh4=>?_));intro _;refine ak (λh5=>bad (by rw [h5];simp)) (λh5=>?_);have hn:wh (aA cU l i) last=false:=by unfold wh Go.Lm.leB;rw [h3,h4,h5];rfl
  simp only [fG,hn,dQ,if_false] at h2;exact ⟨by unfold aB;omega,⟨by omega,by omega,h2⟩,by omega⟩
 .have hc:¬i< l.length:=by simpa using hc
  rw [cX hc] at h2;intro _;unfold dC at h;rw [h2] at h;exact h
def akD:Ct:=cN noTy λx=>c0 λQ=>Q (.bool (gE x)) []
def ahk:=ahl.add UQ
abbrev Zc (y0) (y1) (y2:SV->List HO->Prop) (y3):=br (gN y0 ah (65535:Int)) (br (gN y1 ah (65535:Int)) (y2 (.v (.c (.k (.bool (dC y3))))) []) (ba y2)) (ba y2)
abbrev II (y0) (y1) (y2) (y3) (y4:SV->List HO->Prop) (y5):=br (!y0) (br (gN y1 ah (511:Int)) (Zc y2 y3 y4 y5) (ba y4)) (ba y4)
def RZ:((noTy).den)->dq:=
 λx Q=>fA x.1 (cr x.2.1 x.2.2.1 x.2.2.2.1.1 (bZ x.2.2.2.1.2.1 x.2.2.2.1.2.2.1 (aJ (bw x.2.2.2.2.1)->dv x.2.2.2.2.2.1 (aJ (bw x.2.2.2.2.2.2.1)->aJ (bw x.2.2.2.2.1)->br (x.2.2.1==1) (br ((aP 
 x.2.2.2.2.1)==0) (br (j9 x.2.2.2.2.2.1 gZ) (II x.2.2.2.2.2.2.2.1 x.2.2.2.1.1 x.2.2.2.1.2.1 x.2.2.2.1.2.2.1 Q x.2.2.2.2.2.2.1) (ba Q)) (ba Q)) (br (x.2.2.1==2) (aJ (bw x.2.2.2.2.1)->br (decide ((aP x.2.2.2.2.1)<= 
 (4096:Int))) (br (j9 x.2.2.2.2.2.1 gZ) (II x.2.2.2.2.2.2.2.1 x.2.2.2.1.1 x.2.2.2.1.2.1 x.2.2.2.1.2.2.1 Q x.2.2.2.2.2.2.1) (ba Q)) (ba Q)) (br (x.2.2.1==3) (br ((aP x.2.2.2.2.1)==0) (br (oG x.2.2.2.2.2.1 (200: 
 Int)) (II x.2.2.2.2.2.2.2.1 x.2.2.2.1.1 x.2.2.2.1.2.1 x.2.2.2.1.2.2.1 Q x.2.2.2.2.2.2.1) (ba Q)) (ba Q)) (ba Q)))))))
theorem aiy:cq 119 akD:=eI<| PV λx=>gx λQ h=>by
 refine Wp.dy ahk cu ⟨[],[]⟩ Tryz.f119 (RZ x) ?_;unfold RZ gZ II dv Zc bZ ba fA bw cr iW ah aP aJ;intro _ _ _ _ _ _ _ _ _ _
 repeat' (first| (intro _;done)| refine ak (λ_=>?_) (λ_=>?_)| intro _)
 all_goals refine Eq.mp (congrArg (λz=>Q (SV.bool z) []) ?_) h
 all_goals unfold gE noB AH
 all_goals clear h
 all_goals simp_all
 all_goals (intros;omega)
def afV:Ct:=cN noTy λx=>c0 λQ=>Q (.bool (!gE x)) []
def ahj:=ahk.add aiy
def LD:((noTy).den)->dq:=
 λx Q=>fA x.1 (cr x.2.1 x.2.2.1 x.2.2.2.1.1 (bZ x.2.2.2.1.2.1 x.2.2.2.1.2.2.1 (aJ (bw x.2.2.2.2.1)->dv x.2.2.2.2.2.1 (aJ (bw x.2.2.2.2.2.2.1)->Q (.v (.c (.k (.bool !gE (x.1,x.2.1,x.2.2.1,(x.2.2.2.1.1, 
 x.2.2.2.1.2.1,x.2.2.2.1.2.2.1,()),x.2.2.2.2.1,x.2.2.2.2.2.1,x.2.2.2.2.2.2.1,x.2.2.2.2.2.2.2.1,()))))) []))))
theorem adT:cq 118 afV:=eI<| PV λx=>gx λQ h=>by
 refine Wp.dy ahj cu ⟨[],[]⟩ Tryz.f118 (LD x) ?_;unfold LD dv bZ fA bw cr aJ
 intros
 exact h
def T7:Ct
 | [.v (.c cl),.v (.c (.fn 118 []))],[],Q=>(match (Ty.sl noTy).of [cl] with
  | some (l,[])=>Q (.int (ic (λx:bc=> !gE x) l 0)) []
  | _=>False)
 | _,_,_=>False
def ahi:=ahj.add adT
abbrev CK (y0:List (noTy).den) (y1):=((aA noTy y0 y1).1,(aA noTy y0 y1).2.1,(aA noTy y0 y1).2.2.1,((aA noTy y0 y1).2.2.2.1.1,(aA noTy y0 y1).2.2.2.1.2.1,(aA noTy y0 y1).2.2.2.1.2.2.1,()),(aA noTy y0 y1).2.2.2.2.1,(aA noTy y0 y1).2.2.2.2.2.1,(aA noTy y0 y1).2.2.2.2.2.2.1,(aA noTy y0 y1).2.2.2.2.2.2.2.1,())
def Ly (l:(List (noTy).den)):dq:=λQ=>di l (aJ (List.length l)->aK (λi ag=>br (eh i.1.1 l) (dL i.1.1 l (fm l i.1.1 (br (!gE (CK l i.1.1)) (Q (fC i.1.1) []) (dN i.1.1 ag)))) (oE Q)) du)
theorem adQ:cq 155 T7:=by
 intro args H Q h;unfold T7 at h;split at h;rotate_left;cases h;rename_i cl;split at h;rotate_left;cases h;rename_i l hl;refine Wp.said (args':=[.c (.d noTy l),.c (.fn 118 [])]) (λE g=>bA.cE (dI hl) (bA.cE (λ_ h=>h) (λ_ h=>h))) ?_;clear hl;refine Wp.dy ahi cu ⟨[(3,⟨[(8,.int .i64)],[]⟩)],[]⟩ Tryz.f155 (Ly l) ?_;unfold Ly fm oE fC eh dL du cH di dN CK aC ah ay aJ;intro hl _;refine aK.intro (λi=>0<=i.1.1/\i.1.1<=l.length/\ic (λx:bc=> !gE x) (l.drop i.1.1.toNat) i.1.1=ic (λx:bc=> !gE x) l 0) (λi=>l.length - i.1.1.toNat) ⟨by simp,by simp,by simp⟩ ?_;rintro ⟨⟨i,_⟩,_⟩ ⟨h0,h1,h2⟩;simp only at h0 h1 h2 ⊢;refine ak (λhc=>?_) (λhc=>?_)
 .have hc:i< l.length:=by simpa using hc
  refine ⟨h0,hc,λ_=>?_⟩;rw [cR (e:=noTy) h0 hc] at h2;refine ak (λh3=>?_) (λh3=>?_)
  .simp only [ic,h3,if_true] at h2;rw [h2];exact h
  .simp only [ic,h3,dQ,if_false] at h2;refine ⟨by unfold aB;omega,⟨by omega,by omega,?_⟩,by omega⟩;rw [show (i+1).toNat=(i+1).toNat from rfl];exact h2
 .have hc:¬i< l.length:=by simpa using hc
  rw [cX hc] at h2;simp only [ic] at h2;rw [h2];exact h
def Ua:Ct
 | [.v (.c cl),.v (.c (.fn 118 []))],[],Q=>(match (Ty.sl noTy).of [cl] with
  | some (l,[])=>Q (.bool (l.any λx:bc=> !gE x)) []
  | _=>False)
 | _,_,_=>False
def abW:=ahi.add adQ
def LF (l:(List (noTy).den)):dq:=λQ=>di l (aB .i64 (ic (λx=> !gE x) l ah)->Q (.v (.c (.k (.bool (decide (ic (λx=> !gE x) l ah≥ah)))))) [])
theorem Rn:cq 117 Ua:=by
 intro args H Q h;unfold Ua at h;split at h;rotate_left;cases h;rename_i cl;split at h;rotate_left;cases h;rename_i l hl;refine Wp.said (args':=[.c (.d noTy l),.c (.fn 118 [])]) (λE g=>bA.cE (dI hl) (bA.cE (λ_ h=>h) (λ_ h=>h))) ?_;clear hl;refine Wp.dy abW cu ⟨[],[]⟩ Tryz.f117 (LF l) ?_;unfold LF di ah;intro _ _;rw [<-Nx (bh 0)] at h;exact h
def NU (a b:List UInt8):Bool:=j9 (fY a) (fY b)
def WI:Ct:=cD .u8 λa=>cD .u8 λb=>c0 λQ=>Q (.bool (NU a b)) []
def ahh:=abW.add Rn
def BF (a b:(List (Ty.u8).den)):dq:=λQ=>cJ a (aJ (dr b)->Q (.v (.c (.k (.bool (j9 (fY a) (fY b)))))) [])
theorem EW:cq 204 WI:=eI<| iH λa=>iH λb=>gx λQ h=>by
 refine Wp.dy ahh cu ⟨[],[]⟩ Tryz.f204 (BF a b) ?_;unfold BF dr cJ aJ
 intros
 exact h
def rB (x y:u9):Bool:=j9 x.1 y.1&& NU x.2.1 y.2.1
def WJ:Ct:=cN cU λx=>cN cU λy=>c0 λQ=>Q (.bool (rB x y)) []
def ahg:=ahh.add EW
def BG:((cU).den)->((cU).den)->dq:=
 λx y Q=>iN x.1 (aJ (bw x.2.1)->dv y.1 (aJ (bw y.2.1)->br (j9 x.1 y.1) (Q (.v (.c (.k (.bool (NU x.2.1 y.2.1))))) []) (ba Q)))
theorem EX:cq 203 WJ:=eI<| PV λx=>PV λy=>gx λQ h=>by
 refine Wp.dy ahg cu ⟨[],[]⟩ Tryz.f203 (BG x y) ?_;unfold BG dv iN ba bw iW aJ;unfold rB at h
 intros
 refine ak (λhc=>?_) (λhc=>?_)<;>rw [hc] at h<;>first| exact h| (intros;exact h)
def gh:List u9->List u9->Bool
 | [],[]=>true
 | x::a,y::b=>rB x y&& gh a b
 | _,_=>false
theorem tJ:∀ {a b:List u9},a.length≠b.length->gh a b=false
 | [],[],h=>absurd rfl h
 | _::a,_::b,h=>by
  unfold gh;rw [tJ (a:=a) (b:=b) (by simpa using h),Bool.and_false]
 | [],_::_,_=>rfl
 | _::_,[],_=>rfl
def T9:Ct
 | [.v (.c ca),.v (.c cb),.v (.c (.fn 203 []))],[],Q=>(match (Ty.sl cU).of [ca] with
  | some (a,[])=>(match (Ty.sl cU).of [cb] with
  | some (b,[])=>Q (.bool (gh a b)) []
  | _=>False)
  | _=>False)
 | _,_,_=>False
def abV:=ahg.add EX
def LC (a b:(List (cU).den)):dq:=λQ=>jC a (aJ (jO b)->aJ (jO a)->aJ (jO b)->br ((ay a) !=(ay b)) (ba Q) (aJ (jO a)->aK (λi ag=>br (decide (i.1.1< (ay a))) (0<=i.1.1/\i.1.1< (ay a)/\(Ty.ok cU (cG a 
 i.1.1)->0<=i.1.1/\i.1.1< (ay b)/\(Ty.ok cU (cG b i.1.1)->br (!rB ((cG a i.1.1).1,(cG a i.1.1).2.1,()) ((cG b i.1.1).1,(cG b i.1.1).2.1,())) (ba Q) (dN i.1.1 ag)))) (Q ml [])) du))
theorem Rm:cq 205 T9:=by
 intro args H Q h;unfold T9 at h;split at h;rotate_left;cases h;rename_i ca cb;split at h;rotate_left;cases h;rename_i a ha;split at h;rotate_left;cases h;rename_i b hb;refine Wp.said (args':=[.c (.d cU a),.c (.d cU b),.c (.fn 203 [])]) (λE g=>bA.cE (dI ha) (bA.cE (dI hb) (bA.cE (λ_ h=>h) (λ_ h=>h)))) ?_;clear ha hb;refine Wp.dy abV cu ⟨[(5,⟨[(17,.int .i64)],[]⟩)],[]⟩ Tryz.f205 (LC a b) ?_;unfold LC jO jC du cG ba dN iW ml ah ay aJ;intro _ _ _ _;refine ak (λh1=>?_) (λh1=>?_)
 .rw [tJ (by intro e;rw [e] at h1;simp at h1)] at h;exact h
 .have hl:a.length=b.length:=by
   have:(a.length:Int)=(b.length:Int):=by simpa only [bne_eq_false_iff_eq] using h1
   omega
  intro _;refine aK.intro (λi=>0<=i.1.1/\i.1.1<=a.length/\gh (a.drop i.1.1.toNat) (b.drop i.1.1.toNat)=gh a b) (λi=>a.length - i.1.1.toNat) ⟨by simp,by simp,by simp⟩ ?_;rintro ⟨⟨i,_⟩,_⟩ ⟨h0,h2,h3⟩;simp only at h0 h2 h3 ⊢;refine ak (λhc=>?_) (λhc=>?_)
  .have hc:i< a.length:=by simpa using hc
   have za:i< b.length:=by omega
   rw [cR (e:=cU) h0 hc,cR (e:=cU) h0 za] at h3;simp only [gh] at h3;refine ⟨h0,hc,λ_=>⟨h0,za,λ_=>ak (λh4=>?_) (λh4=>?_)⟩⟩
   .have h4:rB (aA cU a i) (aA cU b i)=false:=by simpa using h4
    rw [h4,eO] at h3;rw [<-h3] at h;exact h
   .have h4:rB (aA cU a i) (aA cU b i)=true:=by simpa using h4
    rw [h4,jm] at h3;exact ⟨by unfold aB;omega,⟨by omega,by omega,h3⟩,by omega⟩
  .have hc:¬i< a.length:=by simpa using hc
   rw [cX hc,cX (by omega)] at h3;simp only [gh] at h3;rw [<-h3] at h;exact h
def jE (x y:bc):Bool:=x.2.2.1==y.2.2.1&& ((x.2.2.2.1.1==y.2.2.2.1.1&& (x.2.2.2.1.2.1==y.2.2.2.1.2.1&& (x.2.2.2.1.2.2.1==y.2.2.2.1.2.2.1&& true)))&& (j9 x.2.2.2.2.2.1 y.2.2.2.2.2.1&& (x.2.2.2.2.2.2.2.1==y.2.2.2.2.2.2.2.1&& (NU x.2.2.2.2.1 y.2.2.2.2.1&& gh x.2.2.2.2.2.2.1 y.2.2.2.2.2.2.1))))
def aa4:Ct:=cN noTy λx=>cN noTy λy=>c0 λQ=>Q (.bool (jE x y)) []
def abU:=abV.add Rm
def FC:((noTy).den)->((noTy).den)->dq:=
 λx y Q=>fA x.1 (cr x.2.1 x.2.2.1 x.2.2.2.1.1 (bZ x.2.2.2.1.2.1 x.2.2.2.1.2.2.1 (aJ (bw x.2.2.2.2.1)->dv x.2.2.2.2.2.1 (aJ (bw x.2.2.2.2.2.2.1)->aJ (bw y.1)->cr y.2.1 y.2.2.1 y.2.2.2.1.1 (bZ 
 y.2.2.2.1.2.1 y.2.2.2.1.2.2.1 (aJ (bw y.2.2.2.2.1)->dv y.2.2.2.2.2.1 (aJ (bw y.2.2.2.2.2.2.1)->br (x.2.2.1==y.2.2.1) (br (x.2.2.2.1.1==y.2.2.2.1.1&& (x.2.2.2.1.2.1==y.2.2.2.1.2.1&& (x.2.2.2.1.2.2.1==y.2.2.2.1.2.2.1 
 && true))) (br (j9 x.2.2.2.2.2.1 y.2.2.2.2.2.1) (br (x.2.2.2.2.2.2.2.1==y.2.2.2.2.2.2.2.1) (br (NU x.2.2.2.2.1 y.2.2.2.2.1) (Q (.v (.c (.k (.bool (gh x.2.2.2.2.2.2.1 y.2.2.2.2.2.2.1))))) []) (ba Q)) (ba Q)) (ba Q)) (ba 
 Q)) (ba Q))))))))
theorem KI:cq 159 aa4:=eI<| PV λx=>PV λy=>gx λQ h=>by
 refine Wp.dy abU cu ⟨[],[]⟩ Tryz.f159 (FC x y) ?_;unfold FC dv bZ ba fA bw cr iW aJ;unfold jE at h;intro _ _ _ _ _ _ _ _ _ _ _ _ _ _ _ _ _ _
 repeat' (first| refine ak (λhc=>?_) (λhc=>?_)| intro _)
 all_goals refine Eq.mp (congrArg (λz=>Q (SV.bool z) []) ?_) h
 all_goals clear h
 all_goals simp only [*,jm,eO,Bool.and_false]
def iB:List bc->List (Int×bc)->Int
 | [],_=>0
 | x::r,m=>match Kk.get .int m x.2.1 with
  | some o=>if x.2.2.1==1|| !jE x o then 8 else iB r m
  | none=>iB r (Kk.put .int m x.2.1 x)
def WG:Ct:=cD noTy λl=>c0 λQ=>Q (.int (iB l [])) []
def abT:=abU.add KI
abbrev rM (y0) (y1:List (noTy).den) (y2):=gB (Kk.get Kk.int y0 (aA noTy y1 y2).2.1) Jd
abbrev PB (y0) (y1:List (noTy).den) (y2) (y3:_->Prop):=br (!Option.isSome (Kk.get Kk.int y0 (cH y1 y2).2.1)) (mc y0 (cj y2 (y3 ((y2+1,()),Kk.put Kk.int y0 (cH y1 y2).2.1 (CK y1 y2),())))) (cj y2 (y3 ((y2+1,()),y0,())))
abbrev yn (y0:SV->List HO->Prop):=y0 (.v (.c (.k (.int .i64 8)))) []
def BD (l:(List (noTy).den)):dq:=λQ=>di l (aJ (List.length l)->aK (λi ag=>br (eh i.1.1 l) (dL i.1.1 l (fm l i.1.1 (Ty.ok noTy (rM i.2.1 l i.1.1)->br (Option.isSome (Kk.get Kk.int i.2.1 (cH l i.1.1).2.1)) (br ((cH l i.1.1).2.2.1== 
 1) (yn Q) (br (!jE (CK l i.1.1) ((rM i.2.1 l i.1.1).1,(rM i.2.1 l i.1.1).2.1,(rM i.2.1 l i.1.1).2.2.1,((rM i.2.1 l i.1.1).2.2.2.1.1,(rM i.2.1 l i.1.1).2.2.2.1.2.1,(rM i.2.1 l i.1.1).2.2.2.1.2.2.1,()), 
 (rM i.2.1 l i.1.1).2.2.2.2.1,(rM i.2.1 l i.1.1).2.2.2.2.2.1,(rM i.2.1 l i.1.1).2.2.2.2.2.2.1,(rM i.2.1 l i.1.1).2.2.2.2.2.2.2.1,())) (yn Q) (PB i.2.1 l i.1.1 ag))) (PB i.2.1 l i.1.1 ag)))) (hU Q)) ((ah, 
 ()),[],()))
theorem EV:cq 120 WG:=eI<| iH λl=>gx λQ h=>by
 refine Wp.dy abT cu ⟨[(4,⟨[(11,.int .i64)],[(0,.map 3 .int noTy)]⟩)],[]⟩ Tryz.f120 (BD l) ?_;unfold BD yn fm PB mc hU eh dL cH cj rM di aT CK ah ay aJ Jd;intro hl _;refine aK.intro (λi=>0<=i.1.1/\i.1.1<=l.length/\iB (l.drop i.1.1.toNat) i.2.1=iB l []/\(i.2.1.length:Int)<=i.1.1) (λi=>l.length - i.1.1.toNat) ⟨by simp,by simp,by simp,by simp⟩ ?_;rintro ⟨⟨i,_⟩,m,_⟩ ⟨h0,h1,h2,h3⟩;simp only at h0 h1 h2 h3 ⊢;refine ak (λhc=>?_) (λhc=>?_)
 .have hc:i< l.length:=by simpa using hc
  rw [cR (e:=noTy) h0 hc] at h2;refine ⟨h0,hc,λ_=>?_⟩;have hp:=SR (k:=.int) (l:=m) (x:=(aA noTy l i).2.1) (v:=aA noTy l i);cases hg:Kk.get .int m (aA noTy l i).2.1 with
  | none=>
   simp only [iB,hg] at h2;intro _;refine ak (λh4=>by cases h4) (λ_=>ak (λ_=>?_) (λh5=>by cases h5));exact ⟨by omega,by unfold aB;omega,⟨by omega,by omega,h2,Int.le_trans (Int.ofNat_le.2 hp) (by omega)⟩,by omega⟩
  | some o=>
   simp only [iB,hg] at h2;intro _;refine ak (λ_=>ak (λh5=>?_) (λh5=>ak (λh6=>?_) (λh6=>ak (λh7=>by cases h7) (λ_=>?_)))) (λh4=>by cases h4)
   .rw [h5,l5,if_pos rfl] at h2;rw [<-h2] at h;exact h
   .have h6:(!jE (aA noTy l i) o)=true:=h6;rw [h6,Bool.or_true,if_pos rfl] at h2;rw [<-h2] at h;exact h
   .have h6:(!jE (aA noTy l i) o)=false:=h6;rw [h5,h6] at h2;exact ⟨by unfold aB;omega,⟨by omega,by omega,h2,by omega⟩,by omega⟩
 .have hc:¬i< l.length:=by simpa using hc
  rw [cX hc] at h2;simp only [iB] at h2;rw [<-h2] at h;exact h
def ik:List ByteArray->Int
 | []=>0
 | s::r=>if db s !=0 then db s else ik r
def gD:List bc->Int
 | []=>0
 | x::r=>if ik x.1 !=0 then ik x.1 else gD r
def oU (l:List bc):Bool:=l.any λx=>decide ((x.1.length:Int)>16)
def kJ (l:List bc):List bc->Int->Bool
 | [],_=>false
 | x::r,i=>decide (ic (js x.1) l 0< i)|| kJ l r (i+1)
def oI (l:List bc):Int:=if gD l !=0 then gD l else if oU l then 9 else if kJ l l 0 then 6 else 0
theorem vc (s:ByteArray):Go.LmN.db s=db s:=by
 unfold Go.LmN.db db;rw [show Go.LmN.ake s=TK s from rfl,show Go.LmN.AN s 0=kK s 0 from rfl,Bool.or_comm]
def TU:Ct
 | [.v (.c ca),.v (.c (.k (.string z)))],[],Q=>(match (Ty.sl Ty.str).of [ca] with
  | some (a,[])=>z=⟨#[47]⟩/\(Go.LmN.iq a).size<=140737488355328/\Q (.str ⟨(Lib.join (a.map (·.data.toList)) [47]).toArray⟩) []
  | _=>False)
 | _,_,_=>False
theorem Sw (l:List ByteArray) (hb:(Go.LmN.iq l).size<=140737488355328):1+(ByteArray.mk ((Lib.join (l.map (·.data.toList)) [47]).toArray)).size<=9223372036854775807:=by
 have hj:=Go.LmN.VZ l;have e:(ByteArray.mk ((Lib.join (l.map (·.data.toList)) [47]).toArray)).size=(Lib.join (l.map (·.data.toList)) [47]).length:=by rw [Go.LmN.j8]
 rw [e];omega
theorem ZP (l:List ByteArray) (v:Value) (g w:World) (uE:bt g w) (h:Is g v l) (hb:(Go.LmN.iq l).size<=140737488355328):HM cg 154 #[v,.string ⟨#[47]⟩] w λu w'=>u= .string ⟨(Lib.join (l.map (·.data.toList)) [47]).toArray⟩/\Le w w':=by
 have hj:=Go.LmN.ZQ l;by_cases hl:l= []
 .subst hl;rcases dE.1 h with ⟨rfl,_⟩| ⟨a,cap,rfl,_⟩
  .exact (HM.of (Tryz.strings_Join_none none 0 ⟨#[47]⟩ w)).mono λ_ _ ⟨h1,h2⟩=>⟨h1,by rw [h2];exact Le.refl w⟩
  .exact (HM.of (Tryz.strings_Join_none (some a) cap ⟨#[47]⟩ w)).mono λ_ _ ⟨h1,h2⟩=>⟨h1,by rw [h2];exact Le.refl w⟩
 .obtain ⟨bk,o,c,rfl,h1,h2,h3⟩:=Go.LmN.Qb h uE hl;have hn:l.length<=(Go.LmN.iq l).size:=by
   have e:=Go.LmN.oN l;rw [if_neg (by simpa using hl)] at e;rw [Go.LmN.j8,e];exact Go.LmN.L9 l
  exact (HM.of (Tryz.strings_Join bk o c l ⟨#[47]⟩ w h1 h2 (by omega) h3 (by show (Lib.join (l.map (·.data.toList)) [47]).length<=_;omega))).mono λ_ _ ⟨h1,h2⟩=>⟨h1,h2⟩
theorem Rf:cq 154 TU:=by
 intro args H Q h;unfold TU at h;split at h
 .split at h
  .rename_i a ha;obtain ⟨rfl,hb,h⟩:=h;refine Wp.SZ (λE g w vs m hv=>?_) h;obtain ⟨u,v,rfl,hu,⟨rfl,_⟩⟩:=nW hv;have hu:od .str g u a:=dI ha u hu;refine (ZP a u g w m hu hb).mono λx w' ⟨h1,h2⟩=>⟨?_,h2⟩;rw [h1];refine ⟨rfl,?_⟩;exact Nat.le_trans (Nat.le_add_left _ 1) (Sw a hb)
  .cases h
 .cases h
def afS:Ct:=cD .str λa=>c0 λQ=>((Go.LmN.iq a).size<=140737488355328/\Q (.str (Go.LmN.iq a)) [])
def abS:=(abT.add EV).add Rf
abbrev gC (y0:List (Ty.str).den) (R:Prop):=List.length y0<=9223372036854775807->R
abbrev IY (y0:List (Ty.str).den):=List.toArray (Lib.join (List.map (λx=>x.data.toList) y0) [(47:UInt8)])
def Lx (a:(List (Ty.str).den)):dq:=λQ=>gC a (ByteArray.mk #[(47:UInt8)]=ByteArray.mk #[(47:UInt8)]/\ByteArray.size (LmN.iq a)<=140737488355328/\(ByteArray.size (ByteArray.mk (IY a))<=9223372036854775807->bH+ByteArray.size (ByteArray.mk 
 (IY a))<=9223372036854775807/\Q (.v (.c (.k (.string (ByteArray.mk #[(47:UInt8)]++ByteArray.mk (IY a)))))) []))
theorem Rk:cq 116 afS:=eI<| iH λa=>gx λQ h=>by
 refine Wp.dy abS cu ⟨[],[]⟩ Tryz.f116 (Lx a) ?_;unfold Lx IY gC bH;obtain ⟨hb,h⟩:=h;intro _;refine ⟨rfl,hb,λ_=>⟨?_,?_⟩⟩;exact Sw a hb
 .rw [<-Go.LmN.yW] at h;exact h
abbrev qj (l:List ByteArray):ByteArray:=Go.LmN.iq l
def lW:List bc->List (ByteArray×bc)->Option (List (ByteArray×bc))
 | [],m=>some m
 | x::r,m=>if (Kk.get .str m (qj x.1)).isSome then none else lW r (Kk.put .str m (qj x.1) x)
theorem F6:∀ {l:List ByteArray},ik l=0->∀ s∈l,db s=0
 | [],_,s,hs=>by cases hs
 | x::r,h,s,hs=>by
  unfold ik at h;by_cases hx:(db x !=0)=true
  .rw [if_pos hx] at h;rw [h] at hx;simp at hx
  .rw [if_neg hx] at h;rcases bm.1 hs with rfl| hs
   .simpa using hx
   .exact F6 h s hs
theorem iZ:∀ {l:List bc},gD l=0->∀ x∈l,∀ s∈x.1,db s=0
 | [],_,x,hx=>by cases hx
 | y::r,h,x,hx=>by
  unfold gD at h;by_cases hy:(ik y.1 !=0)=true
  .rw [if_pos hy] at h;rw [h] at hy;simp at hy
  .rw [if_neg hy] at h;rcases bm.1 hx with rfl| hx
   .exact F6 (by simpa using hy)
   .exact iZ h x hx
theorem A8 {l:List bc} (h:oU l=false) {x:bc} (hx:x∈l):x.1.length<=16:=by
 unfold oU at h;rw [List.any_eq_false] at h;have:=h x hx;simp at this;omega
theorem Dc {p:List ByteArray} (h:∀ s∈p,db s=0) (hl:p.length<=30):(qj p).size<=140737488355328:=by
 have:=Go.LmN.WY (l:=p) (λs hs=>by rw [vc];exact h s hs) hl;show (Go.LmN.iq p).size<=_;omega
theorem Tr {e:Ty} {l:List e.den} {k:Int} (h0:0<=k) (h1:k< l.length):aA e l k∈l:=by
 have fB:k.toNat< l.length:=by omega
 unfold aA;rw [dh,aq fB];exact dA fB
def iz (l:List bc):Int:=if gD l !=0 then gD l else if oU l then 9 else if (lW l []).isNone then 6 else 0
def fc (l:List bc):List (ByteArray×bc):=(lW l []).getD []
def aa0:Ct:=cD noTy λl=>c0 λQ=>br (iz l !=0) (Q (.cC [.c (.k (.map none)),.c (.k (.int .i64 (iz l)))]) []) (Q (.cC [.c (.m 0),.c (.k (.int .i64 0))]) [.map 9 .str noTy (fc l)])
def ak1:=abS.add Rk
abbrev fU (y0:List (noTy).den) (y1):=(↑(List.length (aA noTy y0 y1).1):Int)
abbrev pj (y0:List (noTy).den) (y1) (R:Prop):=Ty.ok noTy (aA noTy y0 y1)->List.length (aA noTy y0 y1).1<=9223372036854775807->R
abbrev pE (y0:List (noTy).den) (y1) (y2):=aA Ty.str (cH y0 y1).1 y2
def Fv (l:(List (noTy).den)):dq:=λQ=>di l (aJ (List.length l)->aK (λi ag=>br (eh i.1.1 l) (dL i.1.1 l (pj l i.1.1 (aK (λbG ag_1=>br (decide (bG.1.1< (fU l i.1.1))) (0<=bG.1.1/\bG.1.1< (fU l i.1.1)/\(Ty.ok Ty.str 
 (pE l i.1.1 bG.1.1)->aB .i64 (db (pE l i.1.1 bG.1.1))->br (db (pE l i.1.1 bG.1.1) !=0) (Q (.cC [.c (.k (.map none)),.c (.k (.int .i64 (db (pE l i.1.1 bG.1.1))))]) []) (dN bG.1.1 ag_1))) (dN i.1.1 
 ag)) du))) (aJ (List.length l)->aK (λi ag=>br (eh i.1.1 l) (dL i.1.1 l (pj l i.1.1 (br (decide ((fU l i.1.1)>Je)) (Q (.cC [.c (.k (.map none)),.c (.k (.int .i64 9))]) []) (dN i.1.1 ag)))) (aJ 
 (List.length l)->aK (λi ag=>br (eh i.1.1 l) (dL i.1.1 l (fm l i.1.1 (ByteArray.size (LmN.iq (cH l i.1.1).1)<=140737488355328/\(aJ (ByteArray.size (LmN.iq (cH l i.1.1).1))->Ty.ok noTy (gB 
 (Kk.get Kk.str i.2.1 (LmN.iq (cH l i.1.1).1)) Jd)->br (Option.isSome (Kk.get Kk.str i.2.1 (LmN.iq (cH l i.1.1).1))) (Q (.cC [.c (.k (.map none)),.c (.k (.int .i64 6))]) []) (mc i.2.1 (cj i.1.1 (ag ((i.1.1+1,()), 
 Kk.put Kk.str i.2.1 (LmN.iq (cH l i.1.1).1) (CK l i.1.1),())))))))) (Q (SV.cC [S1.c (Cl.m bx),.c (.k aT)]) [HO.map (9:TypeId) Kk.str noTy i.2.1])) ((ah,()),[],()))) du)) du)
theorem XN:cq 115 aa0:=eI<| iH λl=>gx λQ h=>by
 refine Wp.dy ak1 cu ⟨[(3,⟨[(19,.int .i64)],[]⟩),(6,⟨[(26,.int .i64)],[]⟩),(14,⟨[(39,.int .i64)],[]⟩),(21,⟨[(51,.int .i64)],[(0,.map 9 .str noTy)]⟩)],[]⟩ Tryz.f115 (Fv l) ?_;unfold Fv fm pE mc eh dL du cH cj pj di fU dN aT CK ah Je ay aJ Jd bx;intro _ _;refine aK.intro (λi=>0<=i.1.1/\i.1.1<=l.length/\gD (l.drop i.1.1.toNat)=gD l) (λi=>l.length - i.1.1.toNat) ⟨by simp,by simp,by simp⟩ ?_;rintro ⟨⟨i,_⟩,_⟩ ⟨h0,h1,h2⟩;simp only at h0 h1 h2 ⊢;refine ak (λhc=>?_) (λhc=>?_)
 .have hc:i< l.length:=by simpa using hc
  rw [cR (e:=noTy) h0 hc] at h2;simp only [gD] at h2;generalize aA noTy l i=x at*;refine ⟨h0,hc,λ_ _=>?_⟩;refine aK.intro (λk=>0<=k.1.1/\k.1.1<=x.1.length/\ik (x.1.drop k.1.1.toNat)=ik x.1) (λk=>x.1.length - k.1.1.toNat) ⟨by simp,by simp,by simp⟩ ?_;rintro ⟨⟨k,_⟩,_⟩ ⟨k0,k1,k2⟩;simp only at k0 k1 k2 ⊢;refine ak (λhk=>?_) (λhk=>?_)
  .have hk:k< x.1.length:=by simpa using hk
   rw [cR (e:=Ty.str) k0 hk] at k2;simp only [ik] at k2;refine ⟨k0,hk,λ_ _=>ak (λhb=>?_) (λhb=>?_)⟩
   .rw [if_pos hb] at k2;rw [k2] at hb;rw [if_pos hb] at h2;rw [h2] at hb;have e:iz l=gD l:=if_pos hb;rw [e,hb,<-h2,<-k2] at h;exact h
   .rw [if_neg (by rw [hb];simp)] at k2;exact ⟨by unfold aB;omega,⟨by omega,by omega,k2⟩,by omega⟩
  .have hk:¬k< x.1.length:=by simpa using hk
   rw [cX hk] at k2;simp only [ik] at k2;rw [<-k2,if_neg (by simp)] at h2;exact ⟨by unfold aB;omega,⟨by omega,by omega,h2⟩,by omega⟩
 have hc:¬i< l.length:=by simpa using hc
 rw [cX hc] at h2;simp only [gD] at h2;have hN:gD l=0:=h2.symm;have e1:iz l=if oU l then 9 else if (lW l []).isNone then 6 else 0:=if_neg (by rw [hN];simp)
 rw [e1] at h;clear h0 h1 h2 hc;intro _;refine aK.intro (λi=>0<=i.1.1/\i.1.1<=l.length/\oU (l.drop i.1.1.toNat)=oU l) (λi=>l.length - i.1.1.toNat) ⟨by simp,by simp,by simp⟩ ?_;rintro ⟨⟨i,_⟩,_⟩ ⟨h0,h1,h2⟩;simp only at h0 h1 h2 ⊢;refine ak (λhc=>?_) (λhc=>?_)
 .have hc:i< l.length:=by simpa using hc
  rw [cR (e:=noTy) h0 hc] at h2;unfold oU at h2;rw [List.any_cons] at h2;refine ⟨h0,hc,λ_ _=>ak (λhb=>?_) (λhb=>?_)⟩
  .rw [hb,l5] at h2;have hD:oU l=true:=h2.symm;rw [if_pos hD] at h;exact h
  .rw [hb,eW] at h2;exact ⟨by unfold aB;omega,⟨by omega,by omega,h2⟩,by omega⟩
 have hc:¬i< l.length:=by simpa using hc
 rw [cX hc] at h2;have hD:oU l=false:=h2.symm;rw [if_neg (by rw [hD];decide)] at h;clear h0 h1 h2 hc;intro _;refine aK.intro (λi=>0<=i.1.1/\i.1.1<=l.length/\lW (l.drop i.1.1.toNat) i.2.1=lW l []/\(i.2.1.length:Int)<=i.1.1) (λi=>l.length - i.1.1.toNat) ⟨by simp,by simp,by simp,by simp⟩ ?_;rintro ⟨⟨i,_⟩,m,_⟩ ⟨h0,h1,h2,h3⟩;simp only at h0 h1 h2 h3 ⊢;refine ak (λhc=>?_) (λhc=>?_)
 .have hc:i< l.length:=by simpa using hc
  rw [cR (e:=noTy) h0 hc] at h2;have hx:aA noTy l i∈l:=Tr (e:=noTy) h0 hc;have hb:=Dc (iZ hN _ hx) (by have:=A8 hD hx;omega);have hp:=SR (k:=.str) (l:=m) (x:=qj (aA noTy l i).1) (v:=aA noTy l i);generalize aA noTy l i=x at*;simp only [lW] at h2;refine ⟨h0,hc,λ_=>⟨hb,λ_ _=>ak (λh4=>?_) (λh4=>?_)⟩⟩
  .rw [if_pos h4] at h2;rw [<-h2] at h;exact h
  .rw [if_neg (by rw [h4];simp)] at h2;exact ⟨by omega,by unfold aB;omega,⟨by omega,by omega,h2,Int.le_trans (Int.ofNat_le.2 hp) (by omega)⟩,by omega⟩
 have hc:¬i< l.length:=by simpa using hc
 rw [cX hc] at h2;simp only [lW] at h2;have e2:fc l=m:=by unfold fc;rw [<-h2];rfl
 rw [<-h2,e2] at h;exact h
def kU (m:List (ByteArray×bc)) (p:List ByteArray):Int:=((Kk.get .str m (qj p)).getD ([],0,0,(0,0,0,()),[],⟨#[]⟩,[],false,())).2.2.1
def En (m:List (ByteArray×bc)) (l:List bc):Bool:=l.any λx=>decide ((x.1.length:Int) - 1≥0)&& (kU m (x.1.take (x.1.length - 1)) !=1)
def dw (l:List bc):Int:=if (l.length:Int)>1024 then 3 else if iz l !=0 then iz l else if kU (fc l) [] !=1 then 4 else if En (fc l) l then 5 else if l.any (λx=> !gE x) then 7 else iB l []
theorem qd {l:List bc} (h:(iz l !=0)=false):gD l=0/\oU l=false/\(lW l []).isSome=true:=by
 have h:iz l=0:=by simpa using h
 unfold iz at h;split at h
 .rename_i h1;rw [h] at h1;simp at h1
 .rename_i h1;split at h
  .simp at h
  .rename_i h2;split at h
   .simp at h
   .rename_i h3;refine ⟨by simpa using h1,by simpa using h2,?_⟩;cases hm:lW l [] with
    | none=>rw [hm] at h3;simp at h3
    | some m=>rfl
def aa3:Ct:=cD noTy λl=>c0 λQ=>Q (.int (dw l)) []
def ak0:=((((((((abW.add EW).add EX).add Rm).add KI).add EV).add Rf).add Rk).add XN).add Rn
abbrev vH (y0:List (noTy).den) (y1):=List.take (ax ((fU y0 y1) - 1)) (cH y0 y1).1
def FB (l:(List (noTy).den)):dq:=λQ=>di l (aJ (List.length l)->br (decide ((ay l)>(1024:Int))) (Q (.v (.c (.k (.int .i64 3)))) []) (br (iz l !=0) (aB .i64 (iz l)->br (iz l !=0) (Q (.v (.c (.k (.int .i64 (iz l))))) []) (bH<=cd/\ 
 (bH<=eR->False))) (aB .i64 0->bH<=cd/\(bH<=eR->Ty.ok noTy (gB (Kk.get Kk.str (fc l) (LmN.iq [])) Jd)->br ((gB (Kk.get Kk.str (fc l) (LmN.iq [])) Jd).2.2.1 !=1) (Q (.v (.c (.k 
 (.int .i64 4)))) []) (aJ (List.length l)->aK (λi ag=>br (eh i.1.1 l) (dL i.1.1 l (pj l i.1.1 (aB .i64 ((fU l i.1.1) - 1)/\br (decide ((fU l i.1.1) - 1≥ah)) (ah<=(fU l i.1.1) - 1/\(fU l i.1.1) - 
 1<=(fU l i.1.1)/\ByteArray.size (LmN.iq (vH l i.1.1))<=140737488355328/\(ByteArray.size (LmN.iq (vH l i.1.1))<=9223372036854775807->Ty.ok noTy (gB (Kk.get Kk.str (fc l) (LmN.iq (vH l i.1.1))) Jd) 
 ->br ((gB (Kk.get Kk.str (fc l) (LmN.iq (vH l i.1.1))) Jd).2.2.1 !=1) (Q (.v (.c (.k (.int .i64 5)))) []) (dN i.1.1 ag))) (dN i.1.1 ag)))) (br (!List.any l λx=> !gE x) (aB .i64 (iB l [])->Q (.v (.c 
 (.k (.int .i64 (iB l []))))) []) (Q (.v (.c (.k (.int .i64 7)))) []))) du)))))
theorem XR:cq 67 aa3:=eI<| iH λl=>gx λQ h=>by
 refine Wp.dy ak0 cu ⟨[(10,⟨[(28,.int .i64)],[]⟩)],[]⟩ Tryz.f67 (FB l) ?_;unfold FB eh vH dL du cH pj eR di cd fU dN ah ay aJ Jd bH;intro _ _;unfold dw at h;refine ak (λhc=>?_) (λhc=>?_);rw [if_pos (by simpa using hc)] at h;exact h;rw [if_neg (by simpa using hc)] at h;refine ak (λhc=>?_) (λhc=>?_)
 .rw [if_pos hc] at h;intro _;rw [hc];exact h
 rw [if_neg (by rw [hc];simp)] at h;obtain ⟨hN,hD,_⟩:=qd hc;intro _;refine ⟨by decide,λ_ _=>ak (λhc=>?_) (λhc=>?_)⟩;rw [if_pos (show (kU (fc l) [] !=1)=true from hc)] at h;exact h;rw [if_neg (by show ¬(kU (fc l) [] !=1)=true;rw [show (kU (fc l) [] !=1)=false from hc];simp)] at h;intro _;refine aK.intro (λi=>0<=i.1.1/\i.1.1<=l.length/\En (fc l) (l.drop i.1.1.toNat)=En (fc l) l) (λi=>l.length - i.1.1.toNat) ⟨by simp,by simp,by simp⟩ ?_;rintro ⟨⟨i,_⟩,_⟩ ⟨h0,h1,h2⟩;simp only at h0 h1 h2 ⊢;refine ak (λhc=>?_) (λhc=>?_)
 .have hc:i< l.length:=by simpa using hc
  rw [cR (e:=noTy) h0 hc] at h2;have hx:aA noTy l i∈l:=Tr (e:=noTy) h0 hc;have hv:=iZ hN _ hx;have hl:=A8 hD hx;generalize aA noTy l i=x at*;have h2:((decide ((x.1.length:Int) - 1≥0)&& (kU (fc l) (x.1.take (x.1.length - 1)) !=1))|| En (fc l) (l.drop (i+1).toNat))=En (fc l) l:=h2;refine ⟨h0,hc,λ_ _=>⟨by unfold aB;omega,ak (λhb=>?_) (λhb=>?_)⟩⟩
  .rw [hb,jm] at h2;have hb:(x.1.length:Int) - 1≥0:=by simpa using hb
   have e1:bX (some ((x.1.length:Int) - 1)) (x.1.length:Int)=(x.1.length:Int) - 1:=rfl;have e2:bX none 0=0:=rfl;refine ⟨by omega,by omega,?_⟩;rw [show ((x.1.length:Int) - 1).toNat=x.1.length - 1 by omega];refine ⟨Dc (λs hs=>hv s (List.take_subset _ _ hs)) (by rw [aF];omega),λ_ _=>ak (λhd=>?_) (λhd=>?_)⟩
   .rw [show (kU (fc l) (x.1.take (x.1.length - 1)) !=1)=true from hd,l5] at h2;rw [<-h2,if_pos rfl] at h;exact h
   .rw [show (kU (fc l) (x.1.take (x.1.length - 1)) !=1)=false from hd,eW] at h2;exact ⟨by unfold aB;omega,⟨by omega,by omega,h2⟩,by omega⟩
  .rw [hb,eO,eW] at h2;exact ⟨by unfold aB;omega,⟨by omega,by omega,h2⟩,by omega⟩
 have hc:¬i< l.length:=by simpa using hc
 rw [cX hc] at h2;rw [<-h2,if_neg (by simp [En])] at h;refine ak (λhb=>λ_=>?_) (λhb=>?_)
 .have hb:(l.any λx=> !gE x)=false:=by simpa only [cY] using hb
  rw [if_neg (by rw [hb];simp)] at h;exact h
 .have hb:(l.any λx=> !gE x)=true:=by simpa only [Bool.not_eq_false'] using hb
  rw [if_pos hb] at h;exact h
def akC:Ct:=cS λs=>c0 λQ=>Q (.bool (vN s 0)) []
def RY (s:ByteArray):dq:=λQ=>iN s (aK (λi ag=>br (decide (i.1.1< (gQ s))) (0<=i.1.1/\i.1.1< (gQ s)/\br ((↑(cz (jj s i.1.1)):Int)==0) (Q ml []) (dN i.1.1 ag)) (ba Q)) du)
theorem aix:cq 113 akC:=eI<| Zp λs=>gx λQ h=>by
 refine Wp.dy gp cu ⟨[(3,⟨[(3,.int .i64)],[]⟩)],[]⟩ Tryz.f113 (RY s) ?_;unfold RY du iN ba gQ dN iW ml ah;intro hs;refine aK.intro (λi=>0<=i.1.1/\i.1.1<=s.size/\vN s i.1.1.toNat=vN s 0) (λi=>s.size - i.1.1.toNat) ⟨by simp,by simp,rfl⟩ ?_;rintro ⟨⟨i,_⟩,_⟩ ⟨h0,h1,h2⟩;simp only at h0 h1 h2 ⊢;refine ak (λhc=>?_) (λhc=>?_)
 .have hc:i< s.size:=by simpa using hc
  have uI:=VK h0 hc;refine ⟨h0,hc,ak (λhb=>?_) (λhb=>?_)⟩
  .rw [hb,l5] at uI;rw [<-h2,uI] at h;exact h
  .rw [hb,eW] at uI;refine ⟨by unfold aB;omega,⟨by omega,by omega,by rw [<-uI,h2]⟩,by omega⟩
 .have hc:¬i< s.size:=by simpa using hc
  rw [<-h2,Zu hc h0] at h;exact h
def QU:Ct:=cD cU λl=>c0 λQ=>Q (.bool (dC l)) []
def abR:=gp.add aix
def zN (l:(List (cU).den)):dq:=λQ=>jC l (aK (λi ag=>jC l (br (decide (i.1.1< (ay l))) (0<=i.1.1/\i.1.1< (ay l)/\(Ty.ok cU (cG l i.1.1)->br (decide ((↑(sK l i.1.1):Int)< aW)) (ba Q) (br (decide ((↑(sK l i.1.1):Int) 
 >(40:Int))) (ba Q) (br (vN (cG l i.1.1).1 bx) (ba Q) (pF l i.1.1 (br (yw l i.1.1) (ba Q) (br (decide (i.1.1>0)) (aB .i64 (i.1.1 - 1)/\0<=i.1.1 - 1/\i.1.1 - 1< (ay l)/\(Ty.ok cU (aA cU l (i.1.1 - 
 1))->br (!lS (aA cU l (i.1.1 - 1)).1 (cG l i.1.1).1) (ba Q) (dN i.1.1 ag))) (dN i.1.1 ag)))))))) (yy l Q))) du)
theorem OZ:cq 114 QU:=eI<| iH λl=>gx λQ h=>by
 refine Wp.dy abR cu ⟨[(3,⟨[(3,.int .i64)],[]⟩)],[]⟩ Tryz.f114 (zN l) ?_;unfold zN sK yw pF yy jC du cG ba dN iW ah aW iF ay aJ bx;intro hl0;refine aK.intro (λi=>0<=i.1.1/\i.1.1<=l.length/\fG l ⟨#[]⟩=fG (l.drop i.1.1.toNat) (th l i.1.1)) (λi=>l.length - i.1.1.toNat) ⟨by simp,by simp,by simp [th]⟩ ?_;rintro ⟨⟨i,_⟩,_⟩ ⟨h0,h1,h2⟩;simp only at h0 h1 h2 ⊢;intro _;refine ak (λhc=>?_) (λhc=>?_)
 .have hc:i< l.length:=by simpa using hc
  refine ⟨h0,hc,λ_=>?_⟩;rw [cR (e:=cU) h0 hc] at h2;have bad:wh (aA cU l i) (th l i)=true->Q (.bool false) []:=λhb=>by
   simp only [fG,hb,if_true] at h2;unfold dC at h;rw [h2,eO] at h;exact h
  have good:wh (aA cU l i) (th l i)=false->aB .i64 (i+1)/\(0<=i+1/\i+1<=l.length/\fG l ⟨#[]⟩=fG (l.drop (i+1).toNat) (th l (i+1)))/\l.length - (i+1).toNat< l.length - i.toNat:=λhb=>by
   simp only [fG,hb,dQ,if_false] at h2;have hp:th l (i+1)=(aA cU l i).1:=by
    unfold th;rw [if_pos (by omega),show i+1 - 1=i by omega];rfl
   rw [hp];exact ⟨by unfold aB;omega,⟨by omega,by omega,h2⟩,by omega⟩
  rw [abw] at bad good;refine ak (λh3=>bad (by rw [h3];rfl)) (λh3=>ak (λh4=>bad (by rw [h4];simp)) (λh4=>ak (λh5=>bad (by rw [h5];simp)) (λh5=>λ_=>ak (λh6=>bad (by rw [h6];simp)) (λh6=>?_))));refine ak (λh7=>?_) (λh7=>?_)
  .have h7:i>0:=by simpa using h7
   have hp:th l i=(aA cU l (i - 1)).1:=by
    unfold th;rw [if_pos h7];rfl
   refine ⟨by unfold aB;omega,by omega,by omega,λ_=>?_⟩;rw [hp] at bad good;exact ak (λh8=>bad (by rw [h8];simp)) (λh8=>good (by rw [h3,h4,h5,h6,h8];rfl))
  .have hp:th l i=⟨#[]⟩:=by
    unfold th;rw [if_neg (by simpa using h7)]
   have h9:lS ⟨#[]⟩ (aA cU l i).1=true:=ajs (by
    have:¬((aA cU l i).1.size:Int)< 1:=by simpa using h3
    omega)
   exact good (by rw [h3,h4,h5,h6,hp,h9];rfl)
 .have hc:¬i< l.length:=by simpa using hc
  rw [cX hc] at h2;intro _;unfold dC at h;rw [h2] at h;exact h
def afR:Ct:=cN noTy λx=>c0 λQ=>Q (.bool (gE x)) []
def abQ:=abR.add OZ
abbrev Y6 (y0:Int) (y1) (y2:SV->List HO->Prop) (y3):=br (y0 !=3) (br (!j9 y1 (ByteArray.mk #[])) (y2 iW []) (br (y0==3) (br (j9 y1 (ByteArray.mk #[])) (y2 iW []) (br (decide ((gQ y1)>(200:Int))) (y2 iW []) (br (vN y1 bx) (y2 iW []) (y2 (.v (.c (.k (.bool (dC y3))))) [])))) (y2 (.v (.c (.k (.bool (dC y3))))) []))) (br (y0==3) (br (j9 y1 (ByteArray.mk #[])) (y2 iW []) (br (decide ((gQ y1)>(200:Int))) (y2 iW []) (br (vN y1 bx) (y2 iW []) (y2 (.v (.c (.k (.bool (dC y3))))) [])))) (y2 (.v (.c (.k (.bool (dC y3))))) []))
def Lw:((noTy).den)->dq:=
 λx Q=>fA x.1 (cr x.2.1 x.2.2.1 x.2.2.2.1.1 (bZ x.2.2.2.1.2.1 x.2.2.2.1.2.2.1 (aJ (bw x.2.2.2.2.1)->dv x.2.2.2.2.2.1 (aJ (bw x.2.2.2.2.2.2.1)->br (decide (x.2.2.1< 1)) (ba Q) (br (decide (x.2.2.1>3)) 
 (ba Q) (br x.2.2.2.2.2.2.2.1 (ba Q) (br (cL x.2.2.2.1.1) (ba Q) (br (decide (x.2.2.2.1.1>511)) (ba Q) (br (cL x.2.2.2.1.2.1) (ba Q) (br (decide (x.2.2.2.1.2.1>65535)) (ba Q) (br (cL x.2.2.2.1.2.2.1) (ba 
 Q) (br (decide (x.2.2.2.1.2.2.1>65535)) (ba Q) (br (x.2.2.1 !=2) (aJ (bw x.2.2.2.2.1)->br (decide ((aP x.2.2.2.2.1)>ah)) (ba Q) (aJ (bw x.2.2.2.2.1)->br (decide ((aP x.2.2.2.2.1)>(4096:Int))) (ba Q) 
 (Y6 x.2.2.1 x.2.2.2.2.2.1 Q x.2.2.2.2.2.2.1))) (aJ (bw x.2.2.2.2.1)->br (decide ((aP x.2.2.2.2.1)>(4096:Int))) (ba Q) (Y6 x.2.2.1 x.2.2.2.2.2.1 Q x.2.2.2.2.2.2.1)))))))))))))))
theorem Rj:cq 65 afR:=eI<| PV λx=>gx λQ h=>by
 refine Wp.dy abQ cu ⟨[],[]⟩ Tryz.f65 (Lw x) ?_;unfold Lw dv bZ cL ba Y6 gQ fA bw cr iW ah aP aJ bx;intro _ _ _ _ _ _ _ _ _
 repeat' (first| refine ak (λ_=>?_) (λ_=>?_)| intro _)
 all_goals refine Eq.mp (congrArg (λz=>Q (SV.bool z) []) ?_) h
 all_goals rw [<-VB]
 all_goals unfold Pr
 all_goals clear h
 all_goals simp only [*,l5,Bool.or_true,Bool.or_false,Bool.and_true,jm,Bool.and_false,eO,if_true,if_false,dQ]
 all_goals (exfalso;simp_all;done)
def WC:Ct:=cS λs=>c0 λQ=>Q (.int (db s)) []
def abP:=abQ.add Rj
def BA (s:ByteArray):dq:=λQ=>iN s (br (decide ((gQ s)>(255:Int))) (Q (.v (.c (.k (.int .i64 23)))) []) (aK (λi ag=>br (decide (i.1.1< (gQ s))) (0<=i.1.1/\i.1.1< (gQ s)/\br ((↑(cz (jj s i.1.1)):Int)==0) (nE 
 Q) (0<=i.1.1/\i.1.1< (gQ s)/\br ((↑(cz (jj s i.1.1)):Int)==47) (nE Q) (dN i.1.1 ag))) (br (j9 s gZ) (nE Q) (br (j9 s (ByteArray.mk #[(46:UInt8)])) (nE Q) (br (j9 s (ByteArray.mk #[(46: 
 UInt8),(46:UInt8)])) (nE Q) (hU Q))))) du))
theorem US:cq 152 WC:=eI<| Zp λs=>gx λQ h=>by
 refine Wp.dy abP cu ⟨[(5,⟨[(3,.int .i64)],[]⟩)],[]⟩ Tryz.f152 (BA s) ?_;unfold BA gZ hU du iN nE gQ dN aT ah;intro hs;unfold db at h;refine ak (λh1=>?_) (λh1=>?_);rw [if_pos (by simpa using h1)] at h;exact h
 .rw [if_neg (by simpa using h1)] at h;refine aK.intro (λi=>0<=i.1.1/\i.1.1<=s.size/\kK s i.1.1.toNat=kK s 0) (λi=>s.size - i.1.1.toNat) ⟨by simp,by simp,rfl⟩ ?_;rintro ⟨⟨i,_⟩,_⟩ ⟨h0,h2,h3⟩;simp only at h0 h2 h3 ⊢;refine ak (λhc=>?_) (λhc=>?_)
  .have hc:i< s.size:=by simpa using hc
   have uI:=Mh h0 hc;refine ⟨h0,hc,ak (λhb=>?_) (λhb=>⟨h0,hc,ak (λhd=>?_) (λhd=>?_)⟩)⟩
   .rw [hb,l5] at uI;rw [<-h3,uI] at h;exact h
   .rw [hb,hd] at uI;rw [<-h3,uI] at h;exact h
   .rw [hb,hd,eW,eW] at uI;exact ⟨by unfold aB;omega,⟨by omega,by omega,by rw [<-uI,h3]⟩,by omega⟩
  .have hc:¬i< s.size:=by simpa using hc
   rw [<-h3,Pb hc h0,eW] at h;unfold TK at h;refine ak (λh5=>?_) (λh5=>ak (λh6=>?_) (λh6=>ak (λh7=>?_) (λh7=>?_)));rw [h5] at h;exact h;rw [h5,h6] at h;exact h;rw [h5,h6,h7] at h;exact h;rw [h5,h6,h7] at h;exact h
def aaY:Ct:=cD .str λa=>cD .str λb=>c0 λQ=>Q (.bool (gd a b)) []
def abO:=abP.add US
abbrev Ja (y0) (y1:List (Ty.str).den) (y2:List (Ty.str).den) (y3:SV->List HO->Prop) (y4):=0<=y0/\y0< (ay y1)/\(Ty.ok Ty.str (aA Ty.str y1 y0)->0<=y0/\y0< (ay y2)/\(Ty.ok Ty.str (aA Ty.str y2 y0)->br (!j9 (aA Ty.str y1 y0) (aA Ty.str y2 y0)) (ba y3) (dN y0 y4)))
abbrev eG (y0:List (Ty.str).den):=List.length y0
abbrev mX (y0:List (Ty.str).den) (y1:List (Ty.str).den) (R:Prop):=aJ (eG y0)->aJ (eG y1)->R
def Ft (a b:(List (Ty.str).den)):dq:=λQ=>gC a (mX b a (aJ (eG b)->br ((ay a) !=(ay b)) (ba Q) (aK (λi ag=>gC a (br (decide (i.1.1< (ay a))) (Ja i.1.1 a b Q ag) (Q ml []))) du)))
theorem KE:cq 28 aaY:=eI<| iH λa=>iH λb=>gx λQ h=>by
 refine Wp.dy abO cu ⟨[(5,⟨[(5,.int .i64)],[]⟩)],[]⟩ Tryz.f28 (Ft a b) ?_;unfold Ft mX eG du Ja gC ba dN iW ml ah ay aJ;intro _ _ _ _;refine ak (λh1=>?_) (λh1=>?_)
 .rw [xX (by intro e;rw [e] at h1;simp at h1)] at h;exact h
 .have hl:a.length=b.length:=by
   have:((a.length:Int)=b.length):=by simpa using h1
   omega
  refine aK.intro (λi=>0<=i.1.1/\i.1.1<=a.length/\gd (a.drop i.1.1.toNat) (b.drop i.1.1.toNat)=gd a b) (λi=>a.length - i.1.1.toNat) ⟨by simp,by simp,by simp⟩ ?_;rintro ⟨⟨i,_⟩,_⟩ ⟨h0,h2,h3⟩;simp only at h0 h2 h3 ⊢;intro _;refine ak (λhc=>?_) (λhc=>?_)
  .have hc:i< a.length:=by simpa using hc
   have za:i< b.length:=by omega
   rw [cR (e:=.str) h0 hc,cR (e:=.str) h0 za] at h3;simp only [gd] at h3;refine ⟨h0,hc,λ_=>⟨h0,za,λ_=>ak (λh4=>?_) (λh4=>?_)⟩⟩
   .have h4:j9 (aA .str a i) (aA .str b i)=false:=by simpa using h4
    rw [h4,eO] at h3;rw [<-h3] at h;exact h
   .have h4:j9 (aA .str a i) (aA .str b i)=true:=by simpa using h4
    rw [h4,jm] at h3;exact ⟨by unfold aB;omega,⟨by omega,by omega,h3⟩,by omega⟩
  .have hc:¬i< a.length:=by simpa using hc
   rw [cX hc,cX (by omega)] at h3;simp only [gd] at h3;rw [<-h3] at h;exact h
def afU:Ct:=cD noTy λl=>cD .str λa=>c0 λQ=>Q (.int (ic (js a) l 0)) []
def abN:=abO.add KE
def LA (l:(List (noTy).den)) (a:(List (Ty.str).den)):dq:=λQ=>di l (aJ (eG a)->aK (λi ag=>di l (br (eh i.1.1 l) (dL i.1.1 l (fm l i.1.1 (br (gd (cH l i.1.1).1 a) (Q (fC i.1.1) []) (dN i.1.1 ag)))) (oE Q))) du)
theorem Rl:cq 40 afU:=eI<| iH λl=>iH λa=>gx λQ h=>by
 refine Wp.dy abN cu ⟨[(3,⟨[(5,.int .i64)],[]⟩)],[]⟩ Tryz.f40 (LA l a) ?_;unfold LA fm oE fC eG eh dL du cH di dN aC ah ay aJ;intro hl _;refine aK.intro (λi=>0<=i.1.1/\i.1.1<=l.length/\ic (js a) (l.drop i.1.1.toNat) i.1.1=ic (js a) l 0) (λi=>l.length - i.1.1.toNat) ⟨by simp,by simp,by simp⟩ ?_;rintro ⟨⟨i,_⟩,_⟩ ⟨h0,h1,h2⟩;simp only at h0 h1 h2 ⊢;intro _;refine ak (λhc=>?_) (λhc=>?_)
 .have hc:i< l.length:=by simpa using hc
  rw [cR (e:=noTy) h0 hc] at h2;refine ⟨h0,hc,λ_=>ak (λh3=>?_) (λh3=>?_)⟩
  .have h3:js a (aA noTy l i)=true:=h3;simp only [ic,h3,if_true] at h2;rw [h2];exact h
  .have h3:js a (aA noTy l i)=false:=h3;simp only [ic,h3,dQ,if_false] at h2;exact ⟨by unfold aB;omega,⟨by omega,by omega,h2⟩,by omega⟩
 .have hc:¬i< l.length:=by simpa using hc
  rw [cX hc] at h2;simp only [ic] at h2;rw [h2];exact h
def aa1:Ct:=cD noTy λl=>cD .str λa=>c0 λQ=>Q (.bool (lH l a)) []
def abM:=abN.add Rl
def Fw (l:(List (noTy).den)) (a:(List (Ty.str).den)):dq:=λQ=>di l (aJ (eG a)->aB .i64 (ic (js a) l ah)->br (decide (ic (js a) l ah≥ah)) (0<=ic (js a) l ah/\ic (js a) l ah< (ay l)/\(Ty.ok noTy (aA noTy l (ic (js a) l ah))->Q (.v 
 (.c (.k (.bool ((aA noTy l (ic (js a) l ah)).2.2.1==1))))) [])) (ba Q))
theorem XO:cq 112 aa1:=eI<| iH λl=>iH λa=>gx λQ h=>by
 refine Wp.dy abM cu ⟨[],[]⟩ Tryz.f112 (Fw l a) ?_;unfold Fw eG ba di iW ah ay aJ;intro _ _ _;unfold lH at h;rcases GV (p:=js a) (l:=l) (k:=0) with ⟨h1,h2⟩| ⟨j,h1,h2,h3⟩
 .rw [h1];rw [h2] at h;exact ak (λhc=>by simp at hc) (λ_=>h)
 .rw [h1];rw [h3,aq h2] at h;refine ak (λhc=>⟨by omega,by omega,λ_=>?_⟩) (λhc=>by simp at hc);have e:aA noTy l (0+(j:Int))=l[j]:=by
   unfold aA;rw [dh,show (0+(j:Int)).toNat=j by omega,aq h2];rfl
  rw [e];exact h
def WK:Ct:=cN noTy λx=>cN noTy λy=>c0 λQ=>Q (.bool (jE x y)) []
def abL:=abM.add XO
abbrev IK (y0:List (cU).den) (y1) (y2:List (cU).den) (y3:SV->List HO->Prop) (y4):=Ty.ok cU (cG y0 y1)->br (!j9 (fY (cG y2 y1).2.1) (fY (cG y0 y1).2.1)) (ba y3) (dN y1 y4)
def BH:((noTy).den)->((noTy).den)->dq:=
 λx y Q=>fA x.1 (cr x.2.1 x.2.2.1 x.2.2.2.1.1 (bZ x.2.2.2.1.2.1 x.2.2.2.1.2.2.1 (aJ (bw x.2.2.2.2.1)->dv x.2.2.2.2.2.1 (aJ (bw x.2.2.2.2.2.2.1)->aJ (bw y.1)->cr y.2.1 y.2.2.1 y.2.2.2.1.1 (bZ 
 y.2.2.2.1.2.1 y.2.2.2.1.2.2.1 (aJ (bw y.2.2.2.2.1)->dv y.2.2.2.2.2.1 (aJ (bw y.2.2.2.2.2.2.1)->br (x.2.2.1 !=y.2.2.1) (ba Q) (br (!(x.2.2.2.1.1==y.2.2.2.1.1&& (x.2.2.2.1.2.1==y.2.2.2.1.2.1&& (x.2.2.2.1.2.2.1== 
 y.2.2.2.1.2.2.1&& true)))) (ba Q) (br (!j9 (fY x.2.2.2.2.1) (fY y.2.2.2.2.1)) (ba Q) (br (!j9 x.2.2.2.2.2.1 y.2.2.2.2.2.1) (ba Q) (br (!x.2.2.2.2.2.2.2.1==y.2.2.2.2.2.2.2.1) (ba Q) (aJ (bw x.2.2.2.2.2.2.1)->aJ 
 (bw y.2.2.2.2.2.2.1)->br ((aP x.2.2.2.2.2.2.1) !=(aP y.2.2.2.2.2.2.1)) (ba Q) (aK (λi ag=>fA x.2.2.2.2.2.2.1 (br (decide (i.1.1< (aP x.2.2.2.2.2.2.1))) (0<=i.1.1/\i.1.1< (aP x.2.2.2.2.2.2.1)/\(Ty.ok cU 
 (cG x.2.2.2.2.2.2.1 i.1.1)->0<=i.1.1/\i.1.1< (aP y.2.2.2.2.2.2.1)/\(Ty.ok cU (cG y.2.2.2.2.2.2.1 i.1.1)->br (!j9 (cG x.2.2.2.2.2.2.1 i.1.1).1 (cG y.2.2.2.2.2.2.1 i.1.1).1) (ba Q) (0<=i.1.1/\i.1.1< (aP 
 x.2.2.2.2.2.2.1)/\(Ty.ok cU (cG x.2.2.2.2.2.2.1 i.1.1)->0<=i.1.1/\i.1.1< (aP y.2.2.2.2.2.2.1)/\(IK y.2.2.2.2.2.2.1 i.1.1 x.2.2.2.2.2.2.1 Q ag)))))) (Q ml []))) du)))))))))))))
theorem EY:cq 44 WK:=eI<| PV λx=>PV λy=>gx λQ h=>by
 refine Wp.dy abL cu ⟨[(5,⟨[(5,.int .i64)],[]⟩)],[]⟩ Tryz.f44 (BH x y) ?_;unfold BH IK du cG dv bZ ba fA bw dN cr iW ml ah aP aJ;intro _ _ _ _ _ _ _ _ _ _ _ _ _ _ _ _ _ _;refine ak (λh1=>?_) (λh1=>ak (λh2=>?_) (λh2=>ak (λh3=>?_) (λh3=>ak (λh4=>?_) (λh4=>ak (λh5=>?_) (λh5=>?_)))))
 iterate 5
  .refine Eq.mp (congrArg (λz=>Q (SV.bool z) []) ?_) h;clear h;unfold jE NU;simp only [bne,cY,Bool.not_eq_false'] at*;simp only [*,jm,eO,Bool.and_false]
 have hk:jE x y=gh x.2.2.2.2.2.2.1 y.2.2.2.2.2.2.1:=by
  clear h;unfold jE NU;simp only [bne,Bool.not_eq_false'] at*;simp only [*,jm]
 rw [hk] at h;clear h1 h2 h3 h4 h5 hk;generalize x.2.2.2.2.2.2.1=a at*;generalize y.2.2.2.2.2.2.1=b at*;intro _ _;refine ak (λh1=>?_) (λh1=>?_)
 .rw [tJ (by intro e;rw [e] at h1;simp at h1)] at h;exact h
 have hl:a.length=b.length:=by
  have:(a.length:Int)=(b.length:Int):=by simpa only [bne_eq_false_iff_eq] using h1
  omega
 refine aK.intro (λi=>0<=i.1.1/\i.1.1<=a.length/\gh (a.drop i.1.1.toNat) (b.drop i.1.1.toNat)=gh a b) (λi=>a.length - i.1.1.toNat) ⟨by simp,by simp,by simp⟩ ?_;rintro ⟨⟨i,_⟩,_⟩ ⟨h0,h2,h3⟩;simp only at h0 h2 h3 ⊢;intro _;refine ak (λhc=>?_) (λhc=>?_)
 .have hc:i< a.length:=by simpa using hc
  have za:i< b.length:=by omega
  rw [cR (e:=cU) h0 hc,cR (e:=cU) h0 za] at h3;simp only [gh,rB,NU] at h3;refine ⟨h0,hc,λ_=>⟨h0,za,λ_=>ak (λh4=>?_) (λh4=>⟨h0,hc,λ_=>⟨h0,za,λ_=>ak (λh5=>?_) (λh5=>?_)⟩⟩)⟩⟩
  .simp only [cY] at h4;rw [h4,eO,eO] at h3;rw [<-h3] at h;exact h
  .simp only [cY,Bool.not_eq_false'] at h4 h5;rw [h4,h5,jm,eO] at h3;rw [<-h3] at h;exact h
  .simp only [Bool.not_eq_false'] at h4 h5;rw [h4,h5,jm,jm] at h3;exact ⟨by unfold aB;omega,⟨by omega,by omega,h3⟩,by omega⟩
 .have hc:¬i< a.length:=by simpa using hc
  rw [cX hc,cX (by omega)] at h3;simp only [gh] at h3;rw [<-h3] at h;exact h
def WE:Ct:=cD noTy λl=>c0 λQ=>Q (.int (oI l)) []
def abK:=abL.add EY
def BC (l:(List (noTy).den)):dq:=λQ=>di l (aK (λi ag=>di l (br (eh i.1.1 l) (aK (λbG ag_1=>dL i.1.1 l (pj l i.1.1 (br (decide (bG.1.1< (fU l i.1.1))) (dL i.1.1 l (fm l i.1.1 (0<=bG.1.1/\bG.1.1< (fU l i.1.1)/\ 
 (Ty.ok Ty.str (pE l i.1.1 bG.1.1)->aB .i64 (db (pE l i.1.1 bG.1.1))->br (db (pE l i.1.1 bG.1.1) !=0) (Q (.v (.c (.k (.int .i64 (db (pE l i.1.1 bG.1.1)))))) []) (dN bG.1.1 ag_1))))) (dN i.1.1 ag)))) 
 du) (aK (λi ag=>di l (br (eh i.1.1 l) (dL i.1.1 l (pj l i.1.1 (br (decide ((fU l i.1.1)>Je)) (Q (.v (.c (.k (.int .i64 9)))) []) (dN i.1.1 ag)))) (aK (λi ag=>di l (br (eh i.1.1 l) (dL 
 i.1.1 l (fm l i.1.1 (aB .i64 (ic (js (cH l i.1.1).1) l ah)->br (decide (ic (js (cH l i.1.1).1) l 0< i.1.1)) (Q (.v (.c (.k (.int .i64 6)))) []) (dN i.1.1 ag)))) (hU Q))) du))) du))) du)
theorem UU:cq 111 WE:=eI<| iH λl=>gx λQ h=>by
 refine Wp.dy abK cu ⟨[(3,⟨[(3,.int .i64)],[]⟩),(6,⟨[(4,.int .i64)],[]⟩),(12,⟨[(6,.int .i64)],[]⟩),(17,⟨[(7,.int .i64)],[]⟩)],[]⟩ Tryz.f111 (BC l) ?_;unfold BC fm pE hU eh dL du cH pj di fU dN aT ah Je ay;intro _;refine aK.intro (λi=>0<=i.1.1/\i.1.1<=l.length/\gD (l.drop i.1.1.toNat)=gD l) (λi=>l.length - i.1.1.toNat) ⟨by simp,by simp,by simp⟩ ?_;rintro ⟨⟨i,_⟩,_⟩ ⟨h0,h1,h2⟩;simp only at h0 h1 h2 ⊢;intro _;refine ak (λhc=>?_) (λhc=>?_)
 .have hc:i< l.length:=by simpa using hc
  rw [cR (e:=noTy) h0 hc] at h2;simp only [gD] at h2;generalize aA noTy l i=x at*;refine aK.intro (λk=>0<=k.1.1/\k.1.1<=x.1.length/\ik (x.1.drop k.1.1.toNat)=ik x.1) (λk=>x.1.length - k.1.1.toNat) ⟨by simp,by simp,by simp⟩ ?_;rintro ⟨⟨k,_⟩,_⟩ ⟨k0,k1,k2⟩;simp only at k0 k1 k2 ⊢;refine ⟨h0,hc,λ_ _=>ak (λhk=>?_) (λhk=>?_)⟩
  .have hk:k< x.1.length:=by simpa using hk
   rw [cR (e:=Ty.str) k0 hk] at k2;simp only [ik] at k2;refine ⟨h0,hc,λ_=>⟨k0,hk,λ_ _=>ak (λhb=>?_) (λhb=>?_)⟩⟩
   .rw [if_pos hb] at k2;rw [k2] at hb;rw [if_pos hb] at h2;rw [h2] at hb;unfold oI at h;rw [if_pos hb,<-h2,<-k2] at h;exact h
   .rw [if_neg (by rw [hb];simp)] at k2;exact ⟨by unfold aB;omega,⟨by omega,by omega,k2⟩,by omega⟩
  .have hk:¬k< x.1.length:=by simpa using hk
   rw [cX hk] at k2;simp only [ik] at k2;rw [<-k2,if_neg (by simp)] at h2;exact ⟨by unfold aB;omega,⟨by omega,by omega,h2⟩,by omega⟩
 .have hc:¬i< l.length:=by simpa using hc
  rw [cX hc] at h2;simp only [gD] at h2;unfold oI at h;rw [<-h2,if_neg (by simp)] at h;clear h0 h1 h2 hc;refine aK.intro (λi=>0<=i.1.1/\i.1.1<=l.length/\oU (l.drop i.1.1.toNat)=oU l) (λi=>l.length - i.1.1.toNat) ⟨by simp,by simp,by simp⟩ ?_;rintro ⟨⟨i,_⟩,_⟩ ⟨h0,h1,h2⟩;simp only at h0 h1 h2 ⊢;intro _;refine ak (λhc=>?_) (λhc=>?_)
  .have hc:i< l.length:=by simpa using hc
   rw [cR (e:=noTy) h0 hc] at h2;unfold oU at h2;rw [List.any_cons] at h2;refine ⟨h0,hc,λ_ _=>ak (λhb=>?_) (λhb=>?_)⟩
   .rw [hb,l5] at h2;unfold oU at h;rw [<-h2,if_pos rfl] at h;exact h
   .rw [hb,eW] at h2;exact ⟨by unfold aB;omega,⟨by omega,by omega,h2⟩,by omega⟩
  .have hc:¬i< l.length:=by simpa using hc
   rw [cX hc] at h2;rw [<-h2,if_neg (by decide)] at h;clear h0 h1 h2 hc;refine aK.intro (λi=>0<=i.1.1/\i.1.1<=l.length/\kJ l (l.drop i.1.1.toNat) i.1.1=kJ l l 0) (λi=>l.length - i.1.1.toNat) ⟨by simp,by simp,by simp⟩ ?_;rintro ⟨⟨i,_⟩,_⟩ ⟨h0,h1,h2⟩;simp only at h0 h1 h2 ⊢;intro _;refine ak (λhc=>?_) (λhc=>?_)
   .have hc:i< l.length:=by simpa using hc
    rw [cR (e:=noTy) h0 hc] at h2;simp only [kJ] at h2;refine ⟨h0,hc,λ_ _=>ak (λhb=>?_) (λhb=>?_)⟩
    .rw [hb,l5] at h2;rw [<-h2,if_pos rfl] at h;exact h
    .rw [hb,eW] at h2;exact ⟨by unfold aB;omega,⟨by omega,by omega,h2⟩,by omega⟩
   .have hc:¬i< l.length:=by simpa using hc
    rw [cX hc] at h2;simp only [kJ] at h2;rw [<-h2,if_neg (by decide)] at h;exact h
def upB (l:List bc):Bool:=l.any λx=>decide ((x.1.length:Int)>0)&& !lH l (x.1.take (x.1.length - 1))
def mE (l:List bc):Int:=if (l.length:Int)>1024 then 3 else if oI l !=0 then oI l else if !lH l [] then 4 else if upB l then 5 else 0
theorem Yy {l r:List bc} {x:bc}:((x::r).any λx=>decide ((x.1.length:Int)>0)&& !lH l (x.1.take (x.1.length - 1)))=((decide ((x.1.length:Int)>0)&& !lH l (x.1.take (x.1.length - 1)))|| r.any λx=>decide ((x.1.length:Int)>0)&& !lH l (x.1.take (x.1.length - 1))):=rfl
def WD:Ct:=cD noTy λl=>c0 λQ=>Q (.int (mE l)) []
def akZ:=abK.add UU
def BB (l:(List (noTy).den)):dq:=λQ=>di l (aJ (List.length l)->br (decide ((ay l)>(1024:Int))) (Q (.v (.c (.k (.int .i64 3)))) []) (aB .i64 (oI l)->br (oI l !=0) (Q (.v (.c (.k (.int .i64 (oI l))))) []) (br (!lH l []) (Q (.v (.c (.k 
 (.int .i64 4)))) []) (aK (λi ag=>di l (br (eh i.1.1 l) (dL i.1.1 l (pj l i.1.1 (br (decide ((fU l i.1.1)>ah)) (List.length (cH l i.1.1).1<=9223372036854775807->aB .i64 ((fU l i.1.1) - 1)/\ah<= 
 (fU l i.1.1) - 1/\(fU l i.1.1) - 1<=(fU l i.1.1)/\br (!lH l (vH l i.1.1)) (Q (.v (.c (.k (.int .i64 5)))) []) (dN i.1.1 ag)) (dN i.1.1 ag)))) (hU Q))) du))))
theorem UT:cq 64 WD:=eI<| iH λl=>gx λQ h=>by
 refine Wp.dy akZ cu ⟨[(11,⟨[(5,.int .i64)],[]⟩)],[]⟩ Tryz.f64 (BB l) ?_;unfold BB hU eh vH dL du cH pj di fU dN aT ah ay aJ;intro _ _;unfold mE at h;refine ak (λhc=>?_) (λhc=>?_);rw [if_pos (by simpa using hc)] at h;exact h;rw [if_neg (by simpa using hc)] at h;intro _;refine ak (λhc=>?_) (λhc=>?_);rw [if_pos hc] at h;exact h;rw [if_neg (by rw [hc];simp)] at h;refine ak (λhc=>?_) (λhc=>?_);rw [if_pos hc] at h;exact h;rw [if_neg (by rw [hc];simp)] at h;refine aK.intro (λi=>0<=i.1.1/\i.1.1<=l.length/\((l.drop i.1.1.toNat).any λx=>decide ((x.1.length:Int)>0)&& !lH l (x.1.take (x.1.length - 1)))=upB l) (λi=>l.length - i.1.1.toNat) ⟨by simp,by simp,by simp [upB]⟩ ?_;rintro ⟨⟨i,_⟩,_⟩ ⟨h0,h1,h2⟩;simp only at h0 h1 h2 ⊢;intro _;refine ak (λhc=>?_) (λhc=>?_)
 .have hc:i< l.length:=by simpa using hc
  rw [cR (e:=noTy) h0 hc,Yy] at h2;generalize aA noTy l i=x at*;refine ⟨h0,hc,λ_ _=>ak (λhb=>λ_=>?_) (λhb=>?_)⟩
  .rw [hb,jm] at h2;have hb:(x.1.length:Int)>0:=by simpa using hb
   have e1:bX (some ((x.1.length:Int) - 1)) (x.1.length:Int)=(x.1.length:Int) - 1:=rfl;have e2:bX none 0=0:=rfl;refine ⟨by unfold aB;omega,by omega,by omega,?_⟩;rw [show ((x.1.length:Int) - 1).toNat=x.1.length - 1 by omega];refine ak (λhd=>?_) (λhd=>?_)
   .rw [hd,l5] at h2;rw [<-h2,if_pos rfl] at h;exact h
   .rw [hd,eW] at h2;exact ⟨by unfold aB;omega,⟨by omega,by omega,h2⟩,by omega⟩
  .rw [hb,eO,eW] at h2;exact ⟨by unfold aB;omega,⟨by omega,by omega,h2⟩,by omega⟩
 .have hc:¬i< l.length:=by simpa using hc
  rw [cX hc,List.any_nil] at h2;rw [<-h2,if_neg (by decide)] at h;exact h
end Go.Proofs

namespace Go.Proofs
open Go Go.Shelf Go.Lib Go.Sort Go.Lm
set_option maxRecDepth 1000000
set_option maxHeartbeats 1000000 in
theorem Tryz.aeQ (x:ByteArray) (w:World):Calls cg 170 #[.string x] w λe w'=>e= .returned (.bool false)/\w'=w:=by
 go_enter Tryz.func170,Tryz.ntmps170
 go_wp2
 go_ret
 exact ⟨by simp,rfl⟩
set_option maxHeartbeats 1000000 in
theorem Tryz.Wj (x y:ByteArray) (w:World):Calls cg 123 #[.string x,.string y] w λe w'=>e= .returned (.int .i64 (fM x y))/\w'=w:=by
 go_enter Tryz.func123,Tryz.ntmps123
 go_wp2_with (first| (go_at_call 170;refine (Tryz.aeQ _ _).mono ?_;rintro e w' ⟨rfl,hw⟩;rw [hw])| rw [Tryz.str_gtr])
 all_goals go_ret
 all_goals (refine ⟨?_,rfl⟩;simp_all [fM])
set_option maxHeartbeats 2000000 in
theorem Tryz.aaD (a a2:Option Addr) (c c2:Nat) (xs ys:List ByteArray) (w:World) (lx:xs.length<=9223372036854775807) (ly:ys.length<=9223372036854775807)
  (h1:∀ (j:Nat) x,xs[j]?=some x->∃ bk o,a=some ⟨bk,o,none⟩/\w.cell? ⟨bk,o+j,none⟩=some (.string x))
  (h2:∀ (j:Nat) x,ys[j]?=some x->∃ bk o,a2=some ⟨bk,o,none⟩/\w.cell? ⟨bk,o+j,none⟩=some (.string x)):
  Calls cg 71 #[.slice a xs.length c,.slice a2 ys.length c2] w λe w'=>e= .returned (.int .i64 (cmpL xs ys))/\w'=w:=by
 generalize hn:xs.length=n at*;generalize hm:ys.length=m at*
 go_enter Tryz.func71,Tryz.ntmps71
 go_wp2
 go_loop [11] (λv11=>∃ k:Nat,k<=n/\k<=m/\v11= .int .i64 k/\Aside (cmpL (xs.drop k) (ys.drop k)=cmpL xs ys)) (λv11=>match v11 with| .int _ m=>n - m.toNat| _=>0)
 case atStart=>exact ⟨0,cM _,cM _,rfl,rfl⟩
 case round=>
  obtain ⟨k,hk,r7,rfl,A⟩:=hrel;by_cases fB:k< n
  .by_cases ajV:k< m
   .obtain ⟨bk,o,rfl,g1⟩:=h1 k xs[k] (aq (by omega));obtain ⟨bk2,o2,rfl,g2⟩:=h2 k ys[k] (aq (by omega));have B:Aside (cmpL (xs.drop k) (ys.drop k)=if fM xs[k] ys[k]=0 then cmpL (xs.drop (k+1)) (ys.drop (k+1)) else fM xs[k] ys[k]):=Wk (aq (by omega:k< xs.length)) (aq (by omega:k< ys.length))
    clear h1 h2;have hc:=λw=>Tryz.Wj xs[k] ys[k] w;generalize xs[k]=x at*;generalize ys[k]=y at*;generalize fM x y=r at*;by_cases hr:r=0
    .subst hr
     go_wp2_with (go_at_call 123;refine (hc _).mono ?_;rintro e w' ⟨rfl,rfl⟩)
     refine ⟨⟨k+1,by omega,by omega,rfl,?_⟩,by simp only [bL];omega⟩;simp only [if_true] at B;exact (Eq.symm B).trans A
    .go_wp2_with (go_at_call 123;refine (hc _).mono ?_;rintro e w' ⟨rfl,rfl⟩)
     go_ret
     have B:cmpL (xs.drop k) (ys.drop k)=r:=by
      have B':cmpL (xs.drop k) (ys.drop k)=if r=0 then cmpL (xs.drop (k+1)) (ys.drop (k+1)) else r:=B
      rw [if_neg hr] at B';exact B'
     exact ⟨congrArg (λz=>Ending.returned (.int .i64 z)) ((Eq.symm B).trans A),rfl⟩
   .obtain ⟨bk,o,rfl,g1⟩:=h1 k xs[k] (aq (by omega));have B:Aside (cmpL (xs.drop k) (ys.drop k)=1):=by
     rw [bM (show k< xs.length by omega),@eJ _ ys k (by omega)];rfl
    clear h1 h2;generalize xs[k]=x at*
    go_wp2
    go_ret
    exact ⟨congrArg (λz=>Ending.returned (.int .i64 z)) ((Eq.symm B).trans A),rfl⟩
  .clear h1 h2;have e1:xs.drop k= []:=eJ (by omega);by_cases ajV:n< m
   .have B:Aside (cmpL (xs.drop k) (ys.drop k)= -1):=by
     rw [e1,bM (show k< ys.length by omega)];rfl
    go_wp2
    go_ret
    exact ⟨congrArg (λz=>Ending.returned (.int .i64 z)) ((Eq.symm B).trans A),rfl⟩
   .have B:Aside (cmpL (xs.drop k) (ys.drop k)=0):=by
     rw [e1,@eJ _ ys k (by omega)];rfl
    go_wp2
    go_ret
    exact ⟨congrArg (λz=>Ending.returned (.int .i64 z)) ((Eq.symm B).trans A),rfl⟩
theorem uC {w:World} {os:Array Obj} {a:Addr} {v:Value} (h:w.cell? a=some v):(grow w os).cell? a=some v:=by
 unfold World.cell? at h ⊢;split at h
 .rename_i c e z hb;have:(grow w os).heap[a.block]?=some (.cells c e z):=by
   show (w.heap++os)[a.block]?=_;rw [qB (aO.1 hb).1];exact hb
  rw [this];exact h
 .cases h
set_option maxHeartbeats 2000000 in
theorem Tryz.anE (a a2:Option Addr) (c c2:Nat) (xs ys:List ByteArray) (p1 p2 p3 p4 p5 p6 p7 p8 p9 q1 q2 q3 q4 q5 q6 q7 q8 q9:Value) (w:World) (lx:xs.length<=9223372036854775807) (ly:ys.length<=9223372036854775807)
  (h1:∀ (j:Nat) x,xs[j]?=some x->∃ bk o,a=some ⟨bk,o,none⟩/\w.cell? ⟨bk,o+j,none⟩=some (.string x))
  (h2:∀ (j:Nat) x,ys[j]?=some x->∃ bk o,a2=some ⟨bk,o,none⟩/\w.cell? ⟨bk,o+j,none⟩=some (.string x)):
  Calls cg 70 #[.agg #[.slice a xs.length c,p1,p2,p3,p4,p5,p6,p7,p8,p9],.agg #[.slice a2 ys.length c2,q1,q2,q3,q4,q5,q6,q7,q8,q9]] w λe w'=>e= .returned (.int .i64 (cmpL xs ys))/\∃ q os',w'=grow (w.drewN q) os':=by
 have aqh:∀ W' os,W'=grow w os->Calls cg 71 #[.slice a xs.length c,.slice a2 ys.length c2] W' λe w'=>e= .returned (.int .i64 (cmpL xs ys))/\w'=W':=by
  rintro W' os rfl;refine Tryz.aaD a a2 c c2 xs ys _ lx ly (λj x hj=>?_) (λj x hj=>?_)
  .obtain ⟨bk,o,e,h⟩:=h1 j x hj;exact ⟨bk,o,e,uC h⟩
  .obtain ⟨bk,o,e,h⟩:=h2 j x hj;exact ⟨bk,o,e,uC h⟩
 clear h1 h2;generalize cmpL xs ys=r at*;generalize xs.length=n at*;generalize ys.length=m at*
 go_enter Tryz.func70,Tryz.ntmps70
 go_wp2_with (go_at_call 71;refine (aqh _ _ (by rw [alloc_eq_grow,alloc_eq_grow,grow_grow])).mono ?_;rintro e w' ⟨rfl,rfl⟩)
 go_ret
 exact ⟨rfl,0,_,by rw [alloc_eq_grow,alloc_eq_grow,grow_grow];rfl⟩
end Go.Proofs

namespace Go.Lm
open Go Go.RowKit Go.Proofs
def ah5 (P:Program) (f fk k:Nat):Prop:=∀ {α:Type} [Inhabited α] (enc:α->List Value),(∀ x,(enc x).length=k)->(∀ x,∀ v∈enc x,v.oneCell'=true)->∀ (cf:α->α->Int),Sort.SWO (ltOf cf)->∀ (pc off cap:Nat) (d:Array α) (w:World),
 CmpLays P fk #[] enc k cf pc off d.size w->Sort.HoldsK enc k w pc off d->pc< w.heap.size->d.size< 4611686018427387904->
 Calls P f #[.slice (some ⟨pc,off,none⟩) d.size cap,.func (.func fk) #[] #[]] w λe w'=>e= .returned (.tuple #[])/\∃ d' n os,Sort.PermIn 0 d.size d d'/\Sort.SortedIn (ltOf cf) 0 d.size d'/\w'=Go.Proofs.sortWorldK enc k w pc off n d' os
def aoh (P:Program) (fk:Nat):Prop:=∀ (a a2:Option Addr) (c c2:Nat) (xs ys:List ByteArray) (p1 p2 p3 p4 p5 p6 p7 p8 p9 q1 q2 q3 q4 q5 q6 q7 q8 q9:Value) (w:World),xs.length<=9223372036854775807->ys.length<=9223372036854775807->
  (∀ (j:Nat) x,xs[j]?=some x->∃ bk o,a=some ⟨bk,o,none⟩/\w.cell? ⟨bk,o+j,none⟩=some (.string x))->
  (∀ (j:Nat) x,ys[j]?=some x->∃ bk o,a2=some ⟨bk,o,none⟩/\w.cell? ⟨bk,o+j,none⟩=some (.string x))->
  Calls P fk #[.agg #[.slice a xs.length c,p1,p2,p3,p4,p5,p6,p7,p8,p9],.agg #[.slice a2 ys.length c2,q1,q2,q3,q4,q5,q6,q7,q8,q9]] w λe w'=>e= .returned (.int .i64 (cmpL xs ys))/\∃ q os',w'=Sort.grow (w.drewN q) os'
theorem flat_get {k:Nat}:∀ {l:List (List Value)},(∀ x∈l,x.length=k)->∀ {t:Nat},t< l.length*k->∃ c v,l[t / k]?=some c/\c[t % k]?=some v/\l.flatten[t]?=some v
 | [],_,t,h=>by simp at h
 | c::l,hl,t,h=>by
  have hc:=hl c (by simp);by_cases ht:t< k
  .refine ⟨c,c[t]'(by omega),?_,?_,?_⟩
   .rw [Nat.div_eq_of_lt ht];rfl
   .rw [Nat.mod_eq_of_lt ht];exact aq (by omega)
   .rw [dz,bF (by omega)];exact aq (by omega)
  .have hk:0< k:=by
    cases k with
    | zero=>simp at h
    | succ _=>omega
   have h':t - k< l.length*k:=by
    rw [av,gR] at h;omega
   obtain ⟨c',v,h1,h2,h3⟩:=flat_get (λx hx=>hl x (aI _ hx)) h';refine ⟨c',v,?_,?_,?_⟩;rw [Nat.div_eq_sub_div hk (by omega),List.getElem?_cons_succ];exact h1;rw [Nat.mod_eq_sub_mod (by omega)];exact h2;rw [dz,bD (by omega),hc];exact h3
theorem vY {α:Type} [Inhabited α] {enc:α->List Value} {k:Nat} (hk:∀ x,(enc x).length=k) (d:Array α):(Sort.flatK enc k d).toList=(d.toList.map enc).flatten:=by
 have hl:∀ x∈d.toList.map enc,x.length=k:=λx hx=>by
  obtain ⟨y,_,rfl⟩:=bp.1 hx;exact hk y
 have hlen:(d.toList.map enc).flatten.length=d.size*k:=by
  rw [List.length_flatten,List.map_map];have:(d.toList.map (List.length ∘ enc))=au d.size k:=by
   rw [List.eq_replicate_iff];refine ⟨by simp,λx hx=>?_⟩;obtain ⟨y,_,rfl⟩:=bp.1 hx;exact hk y
  rw [this,List.sum_replicate_nat]
 refine List.ext_getElem? λt=>?_;by_cases ht:t< d.size*k
 .obtain ⟨c,v,h1,h2,h3⟩:=flat_get hl (t:=t) (by simpa using ht);rw [h3];have hg:=Sort.get_flatK enc k d t ht;have hs:t< (Sort.flatK enc k d).size:=by rw [Sort.size_flatK];exact ht
  rw [getElem!_pos _ t hs] at hg;have hdk:t / k< d.size:=by
   rcases aw.1 h1 with ⟨q,_⟩;simpa using q
  have hc:c=enc d[t / k]:=by
   rw [dj] at h1;simp only [l6,eE hdk,Option.map_some,Option.some.injEq] at h1;exact h1.symm
  rw [l6,eE hs,hg,getElem!_pos d _ hdk,<-hc];obtain ⟨q,e⟩:=aw.1 h2;rw [getElem!_pos c _ q,e]
 .rw [gU (by simpa using Nat.le_of_not_lt ht),gU (by omega)]
structure o6 (g:World) where
 cs:List Value
 x:bc
 rel:noTy.rep.rel g cs x
theorem o6.len {g:World} (r:o6 g):r.cs.length=10:=by
 have:=noTy.rep.len r.rel;rw [Ty.gw] at this;exact this
theorem o6.names {g:World} (r:o6 g):∃ a c p1 p2 p3 p4 p5 p6 p7 p8 p9,r.cs= [.slice a r.x.1.length c,p1,p2,p3,p4,p5,p6,p7,p8,p9]/\r.x.1.length<=9223372036854775807/\∀ (j:Nat) s,r.x.1[j]?=some s->∃ bk o,a=some ⟨bk,o,none⟩/\g.cell? ⟨bk,o+j,none⟩=some (.string s):=by
 have hl:=r.len;obtain ⟨cs,x,c1,c2,e,⟨v,vX,hs⟩,_⟩:=r;simp only at e hl ⊢;subst e;subst vX;have wk:c2.length=9:=by simpa using hl
 match c2,wk with
 | [p1,p2,p3,p4,p5,p6,p7,p8,p9],_=>
  rcases hs with ⟨rfl,hx⟩| ⟨a,cap,rfl,h1,h2,h3⟩
  .refine ⟨none,0,p1,p2,p3,p4,p5,p6,p7,p8,p9,?_,?_,?_⟩
   .rw [hx];rfl
   .rw [hx];simp
   .intro j s hj;rw [hx] at hj;simp at hj
  .refine ⟨some a,cap,p1,p2,p3,p4,p5,p6,p7,p8,p9,rfl,Nat.le_trans h1 h2,λj s hj=>?_⟩;obtain ⟨cs,hc,hr⟩:=h3 j s hj;obtain ⟨rfl,_⟩:cs= [.string s]/\_:=hr;have h4:=hc 0 (.string s) rfl;have h0:∃ s0,x.1[0]?=some s0:=⟨x.1[0]'(by have:=(aw.1 hj).1;omega),aq _⟩;obtain ⟨s0,hs0⟩:=h0;obtain ⟨cs0,hc0,NB⟩:=h3 0 s0 hs0;obtain ⟨rfl,_⟩:cs0= [.string s0]/\_:=NB;have h5:=hc0 0 (.string s0) rfl;obtain ⟨bk,o,sp⟩:=a;have Df:sp=none:=by
    cases sp with
    | none=>rfl
    | some z=>
     have:g.cell? ⟨bk,o,some z⟩=some (.string s0):=by simpa [Addr.add] using h5
     unfold World.cell? at this;split at this<;>simp at this
   subst Df;refine ⟨bk,o,rfl,?_⟩;have e:(⟨bk,o,none⟩:Addr).add (j*aQ.size ByteArray+0)=⟨bk,o+j,none⟩:=by
    have:j*aQ.size ByteArray+0=j:=by show j*1+0=j;omega
    rw [this];unfold Addr.add;split
    .rename_i h;rw [h];rfl
    .rfl
   exact e▸h4
theorem SF {g:World}:∀ {cs:List (List Value)} {xs:List bc},@eF bc noTy.rep g cs xs->∃ rows:List (o6 g),rows.map (·.cs)=cs/\rows.map (·.x)=xs
 | [],[],_=>⟨[],rfl,rfl⟩
 | c::cs,x::xs,h=>by
  obtain ⟨rows,h1,h2⟩:=SF (cs:=cs) (xs:=xs) h.2;exact ⟨⟨c,x,h.1⟩::rows,by rw [cw,h1],by rw [cw,h2]⟩
 | [],_::_,h=>h.elim
 | _::_,[],h=>h.elim
theorem SD {g:World}:∀ (rows:List (o6 g)),@eF bc noTy.rep g (rows.map (·.cs)) (rows.map (·.x))
 | []=>trivial
 | r::rows=>⟨r.rel,SD rows⟩
theorem uC {w:World} {os:Array Obj} {a:Addr} {v:Value} (h:w.cell? a=some v):(Sort.grow w os).cell? a=some v:=by
 unfold World.cell? at h ⊢;split at h
 .rename_i c e z hb;have:(Sort.grow w os).heap[a.block]?=some (.cells c e z):=by
   show (w.heap++os)[a.block]?=_;rw [qB (aO.1 hb).1];exact hb
  rw [this];exact h
 .cases h
theorem Vb {g:World}:Sort.SWO (ltOf λx y:o6 g=>cmpL x.x.1 y.x.1) where
 irrefl x:=by
  unfold ltOf;have:=kg x.x.1;simp only [this];decide
 trans x y z h k:=by
  unfold ltOf at*;simp only [decide_eq_true_eq] at*;exact wb h k
 ntrans x y z h k:=by
  unfold ltOf at*;simp only [decide_eq_false_iff_not] at*;exact Au h k
theorem Wp.Vg {I:cV->Prop} {P:Program} {f fk:Nat} {tN:TypeId} {L:List bc} {Q:SV->List HO->Prop} (hS:ah5 P f fk 10) (hN:∀ (p:Option Addr) (cap:Nat) (fv:Value) (w:World),Calls P f #[.slice p 0 cap,fv] w λe w'=>e= .returned (.tuple #[])/\w'=w) (hC:aoh P fk)
  (hL:L.length< 4611686018427387904) (hq:∀ L':List bc,L'.Perm L->L'.Pairwise (λx y=>¬cmpL y.1 x.1< 0)->Q (.cC []) [.sl tN noTy L']):
  Wp I P f [.v (.c (.o 0)),.v (.c (.fn fk []))] [.sl tN noTy L] Q:=by
 intro W hW g w E F vs S Ef;obtain ⟨u1,r1,rfl,⟨hE,_⟩,hv2⟩:=Ef;obtain ⟨u2,r2,rfl,⟨us,Xf,rfl⟩,hr2⟩:=hv2;obtain rfl:us= []:=Xf;obtain rfl:r2= []:=hr2;letI:=noTy.rep;have H1:SL W g w (pD noTy tN u1 L::F):=S.sl.cv λh ⟨k1,k2,ap,q,⟨v,hv,s1⟩,s2⟩=>by
  rw [hE] at hv;obtain rfl:=aj hv;exact ⟨k1,k2,ap,q,s1,s2⟩
 obtain ⟨cs,rel,H2⟩:=H1.pD;obtain ⟨rows,yZ,Aj⟩:=SF rel;have hln:rows.length=L.length:=by rw [<-Aj,bT]
 have same:L= []->Q (.cC []) [.sl tN noTy L]:=λe=>by
  subst e;exact hq [] (List.Perm.refl _) List.Pairwise.nil
 have nil:∀ (p:Option Addr) (cap:Nat),u1= .slice p 0 cap->L= []->HM P f #[u1,.func (.func fk) #[] [].toArray] w λv w'=>∃ E' g' sv H',bu E E'/\bt g g'/\Sat W E' g' w' H' F/\dd E' g' sv v/\Q sv H':=λp cap hu he=>by
  subst hu;refine (HM.of (hN p cap _ w)).mono λv w' ⟨h1,h2⟩=>?_;subst h1;subst h2;exact ⟨E,g,.cC [],_,bu.refl E,bt.refl g,S,⟨[],rfl,rfl⟩,same he⟩
 rcases H2.row.2 with ⟨rfl,h0⟩| ⟨k,cap,cur,rfl,hbk,qm,hn,JL,aag,Nz⟩;exact nil none 0 rfl (bB h0);by_cases hz:L= [];subst hz;exact nil _ _ rfl rfl;obtain ⟨r0,NB⟩:∃ r,r∈rows:=List.exists_mem_of_ne_nil rows λe=>hz (by rw [<-Aj,e];rfl);letI:Inhabited (o6 g):=⟨r0⟩;have hk:∀ x:o6 g,x.cs.length=10:=λx=>x.len;have kA:tQ g k:=by
  obtain ⟨h,be,s,ow,h1,h2,ap,rfl,⟨hl,hv⟩,s2⟩:=H2;rcases hv with ⟨hv,_⟩| ⟨k',afr,akg,hv,AK,_⟩;cases hv
  .have:k=k':=by
    injection hv with e1 _ _;injection e1 with e1;injection e1
   subst this;exact (ow k _ (Hp.fK AK)).2.2
 have hF:(Sort.flatK (λx:o6 g=>x.cs) 10 rows.toArray).toList=cur.toList.take (L.length*10):=by
  rw [vY hk];show (rows.map (·.cs)).flatten=_;rw [yZ,<-Nz];rfl
 have hHolds:Sort.HoldsK (λx:o6 g=>x.cs) 10 w k 0 rows.toArray:=λj hj=>by
  have Ev:j< (cur.toList.take (L.length*10)).length:=by rw [<-hF];simpa using hj
  have e1:(Sort.flatK (λx:o6 g=>x.cs) 10 rows.toArray)[j]?=cur[j]?:=by
   rw [<-l6,hF,mT,if_pos (by simp at Ev;omega),l6]
  have e2:(Sort.flatK (λx:o6 g=>x.cs) 10 rows.toArray)[j]?=some (Sort.flatK (λx:o6 g=>x.cs) 10 rows.toArray)[j]!:=by
   rw [getElem!_pos _ j hj];exact eE hj
  refine ⟨?_,?_⟩
  .simp only [World.cell?,qm,gA];rw [<-e1,e2];rfl
  .simp [World.frozen?,qm]
 have aj3:CmpLays P fk #[] (λx:o6 g=>x.cs) 10 (λx y=>cmpL x.x.1 y.x.1) k 0 rows.toArray.size w:=λm os dk _ x y=>by
  obtain ⟨a,c,p1,p2,p3,p4,p5,p6,p7,p8,p9,ex,lx,hx⟩:=x.names;obtain ⟨a2,c2,q1,q2,q3,q4,q5,q6,q7,q8,q9,ey,ly,hy⟩:=y.names;have seen:∀ bk o s,g.cell? ⟨bk,o,none⟩=some (.string s)->(Go.Proofs.sortWorldK (λx:o6 g=>x.cs) 10 w k 0 m dk os).cell? ⟨bk,o,none⟩=some (.string s):=λbk o s hg=>by
   refine uC ?_;have ja:bk≠k:=λe=>by
    have:=kA ⟨bk,o,none⟩ e;rw [this] at hg;cases hg
   rw [Sort.cell?_putRowK_other (h:=ja),Sort.cell?_ahead];exact S.sl.m _ _ hg
  have:=hC a a2 c c2 x.x.1 y.x.1 p1 p2 p3 p4 p5 p6 p7 p8 p9 q1 q2 q3 q4 q5 q6 q7 q8 q9 (Go.Proofs.sortWorldK (λx:o6 g=>x.cs) 10 w k 0 m dk os) lx ly
   (λj s hj=>by obtain ⟨bk,o,e,h⟩:=hx j s hj;exact ⟨bk,o,e,seen _ _ _ h⟩) (λj s hj=>by obtain ⟨bk,o,e,h⟩:=hy j s hj;exact ⟨bk,o,e,seen _ _ _ h⟩)
  have e:(#[Value.agg x.cs.toArray,Value.agg y.cs.toArray]++ #[]:Array Value)= #[.agg #[.slice a x.x.1.length c,p1,p2,p3,p4,p5,p6,p7,p8,p9],.agg #[.slice a2 y.x.1.length c2,q1,q2,q3,q4,q5,q6,q7,q8,q9]]:=by rw [ex,ey];rfl
  show Calls P fk (#[Value.agg x.cs.toArray,Value.agg y.cs.toArray]++ #[]) _ _;rw [e];exact this
 have jt:=hS (λx:o6 g=>x.cs) hk (λx v hv=>(oneCellsTy noTy).one x.rel v hv) (λx y=>cmpL x.x.1 y.x.1) Vb k 0 cap rows.toArray w aj3 hHolds (xD qm) (by simpa [hln] using hL);have mM:rows.toArray.size=L.length:=by simpa using hln
 rw [mM] at jt;refine (HM.of jt).mono λv w' ⟨hv,d',n,os,hp,hso,hw'⟩=>?_;subst hv;have hd:d'.size=L.length:=hp.1.trans mM;have am3:d'.toList.Perm rows:=by
  have:=hp.2.2;rw [<-hd] at this;rw [show d'.extract 0 d'.size=d' by simp,show rows.toArray.extract 0 d'.size=rows.toArray by rw [hd,<-mM];simp] at this;simpa using this
 have hb:w'.heap[k]?=some (.cells (Sort.putCells id 0 (Sort.flatK (λx:o6 g=>x.cs) 10 d') cur) tN (0,0)):=by
  rw [hw'];show ((w.heap.modify k (Sort.onCells (Sort.putCells id 0 (Sort.flatK (λx:o6 g=>x.cs) 10 d'))))++os)[k]?=_;rw [qB (by rw [Array.size_modify];exact xD qm),Array.getElem?_modify,if_pos rfl,qm];rfl
 have hFs:(Sort.flatK (λx:o6 g=>x.cs) 10 d').size=L.length*10:=by rw [Sort.size_flatK,hd]
 have anu:(Sort.putCells id 0 (Sort.flatK (λx:o6 g=>x.cs) 10 d') cur).size=cur.size:=by unfold Sort.putCells;simp
 have hle:L.length*10<=cur.size:=by rw [aag];exact kx _ hn
 have htk:(Sort.putCells id 0 (Sort.flatK (λx:o6 g=>x.cs) 10 d') cur).toList.take (L.length*10)=(d'.toList.map (·.cs)).flatten:=by
  rw [<-vY hk];refine List.ext_getElem? λj=>?_;by_cases hj:j< L.length*10
  .rw [mT,if_pos hj,l6,l6];unfold Sort.putCells;rw [Array.getElem?_mapIdx,eE (by omega:j< cur.size),Option.map_some,if_pos ⟨cM _,by rw [hFs];omega⟩,Nat.sub_zero,getElem!_pos _ j (by rw [hFs];exact hj),eE (by rw [hFs];exact hj)];rfl
  .rw [gU (by rw [aF];omega),gU (by rw [Array.length_toList,hFs];omega)]
 have NF:w.grownBy w' (some k):=by
  rw [hw'];refine ⟨rfl,rfl,rfl,?_,λj hj ja=>?_⟩
  .show w.heap.size<=((w.heap.modify k _)++os).size;rw [Array.size_append,Array.size_modify];omega
  .show ((w.heap.modify k _)++os)[j]?=_;rw [qB (by rw [Array.size_modify];exact hj),Array.getElem?_modify,if_neg (λe=>ja (by rw [e]))]
 have hlen:((d'.toList.map (·.cs)).flatten).length=L.length*10:=by rw [<-vY hk,Array.length_toList,hFs]
 have H3:=H2.grown (v':=.slice (some ⟨k,0,none⟩) L.length cap) (n':=L.length) (xs':=(d'.toList.map (·.cs)).flatten) (w':=w') ⟨hlen,.inr ⟨k,cap,_,rfl,hbk,hb,hn,JL,by rw [anu];exact aag,htk⟩⟩ NF (λq hq=>.inl hq);have hxl:(d'.toList.map (·.x)).length=L.length:=by rw [bT,Array.length_toList,hd]
 have H4:SL W g w' (pD noTy tN (.slice (some ⟨k,0,none⟩) L.length cap) (d'.toList.map (·.x))::F):=by
  refine SL.YG (cs:=d'.toList.map (·.cs)) (SD _) ?_;rw [hxl];exact H3
 have hpL:(d'.toList.map (·.x)).Perm L:=by rw [<-Aj];exact am3.map _
 refine ⟨E,g,.cC [],[.sl tN noTy (d'.toList.map (·.x))],bu.refl E,bt.refl g,⟨H4.cv λh ⟨k1,k2,ap,q,s1,s2⟩=>⟨k1,k2,ap,q,⟨_,hE,s1⟩,s2⟩,S.len⟩,⟨[],rfl,rfl⟩,hq _ hpL ?_⟩;rw [List.pairwise_map,dx];intro i j hi hj hij;have r8:i< d'.size:=by simpa using hi
 have Ev:j< d'.size:=by simpa using hj
 have:=hso i j (cM _) hij (by omega);rw [getElem!_pos d' i r8,getElem!_pos d' j Ev] at this;unfold ltOf at this;simpa using this
end Go.Lm

namespace Go.Proofs
open Go Go.Shelf Go.Lm
set_option maxRecDepth 1000000
def Tryz.Vh:Go.Shelf.Ren:=⟨fun| 6=>69| 15=>122| 14=>121| 28=>168| 29=>169| 20=>160| 21=>161| 22=>162| 23=>163| 24=>164| 25=>165| 26=>166| 27=>167| 46=>206| 47=>207| 48=>208| 49=>209| 50=>210| 57=>231| n=>n,fun| 22=>22| 24=>38| 25=>146| 3=>3| 39=>148| 0=>0| 53=>107| 55=>267| 4=>4| 46=>260| 45=>259| 50=>104| 5=>5| 9=>9| 66=>303| 70=>130| 76=>325| 77=>163| n=>n,fun| n=>n⟩
theorem Tryz.agj:Go.Proofs.SlLaysF0.n6 cg Tryz.Vh:= {
 mixed:=by kernel_rfl
 f6:=⟨"slices.SortFunc[[]lamella/api.Node,lamella/api.Node]",by kernel_rfl,Tryz.func69.trans (congrArg some (by kernel_rfl))⟩
 f14:=⟨"slices.pdqsortCmpFunc[lamella/api.Node]",by kernel_rfl,Tryz.func121.trans (congrArg some (by kernel_rfl))⟩
 f15:=Tryz.func122.trans (congrArg some (by kernel_rfl))
 f20:=⟨"slices.insertionSortCmpFunc[lamella/api.Node]",by kernel_rfl,Tryz.func160.trans (congrArg some (by kernel_rfl))⟩
 f21:=⟨"slices.heapSortCmpFunc[lamella/api.Node]",by kernel_rfl,Tryz.func161.trans (congrArg some (by kernel_rfl))⟩
 f22:=⟨"slices.breakPatternsCmpFunc[lamella/api.Node]",by kernel_rfl,Tryz.func162.trans (congrArg some (by kernel_rfl))⟩
 f23:=⟨"slices.choosePivotCmpFunc[lamella/api.Node]",by kernel_rfl,Tryz.func163.trans (congrArg some (by kernel_rfl))⟩
 f24:=⟨"slices.reverseRangeCmpFunc[lamella/api.Node]",by kernel_rfl,Tryz.func164.trans (congrArg some (by kernel_rfl))⟩
 f25:=⟨"slices.partialInsertionSortCmpFunc[lamella/api.Node]",by kernel_rfl,Tryz.func165.trans (congrArg some (by kernel_rfl))⟩
 f26:=⟨"slices.partitionEqualCmpFunc[lamella/api.Node]",by kernel_rfl,Tryz.func166.trans (congrArg some (by kernel_rfl))⟩
 f27:=⟨"slices.partitionCmpFunc[lamella/api.Node]",by kernel_rfl,Tryz.func167.trans (congrArg some (by kernel_rfl))⟩
 f28:=Tryz.func168.trans (congrArg some (by kernel_rfl))
 f29:=Tryz.func169.trans (congrArg some (by kernel_rfl))
 f46:=⟨"slices.siftDownCmpFunc[lamella/api.Node]",by kernel_rfl,Tryz.func206.trans (congrArg some (by kernel_rfl))⟩
 f47:=Tryz.func207.trans (congrArg some (by kernel_rfl))
 f48:=Tryz.func208.trans (congrArg some (by kernel_rfl))
 f49:=⟨"slices.medianAdjacentCmpFunc[lamella/api.Node]",by kernel_rfl,Tryz.func209.trans (congrArg some (by kernel_rfl))⟩
 f50:=⟨"slices.medianCmpFunc[lamella/api.Node]",by kernel_rfl,Tryz.func210.trans (congrArg some (by kernel_rfl))⟩
 f57:=⟨"slices.order2CmpFunc[lamella/api.Node]",by kernel_rfl,Tryz.func231.trans (congrArg some (by kernel_rfl))⟩
 t0:=Tryz.underlying0
 a0:=Tryz.isAgg0
 z0:=Tryz.sizeOf0
 v0:=Tryz.zeroValue0
 t3:=Tryz.underlying3
 a3:=Tryz.isAgg3
 z3:=Tryz.sizeOf3
 v3:=Tryz.zeroValue3
 t4:=Tryz.underlying4
 a4:=Tryz.isAgg4
 z4:=Tryz.sizeOf4
 v4:=Tryz.zeroValue4
 t5:=Tryz.underlying5
 a5:=Tryz.isAgg5
 z5:=Tryz.sizeOf5
 v5:=Tryz.zeroValue5
 t9:=Tryz.underlying9
 a9:=Tryz.isAgg9
 z9:=Tryz.sizeOf9
 v9:=Tryz.zeroValue9
 t22:=Tryz.underlying22
 a22:=Tryz.isAgg22
 z22:=Tryz.sizeOf22
 v22:=Tryz.zeroValue22
 t25:=Tryz.underlying146
 a25:=Tryz.isAgg146
 z25:=Tryz.sizeOf146
 v25:=Tryz.zeroValue146
 t39:=Tryz.underlying148
 a39:=Tryz.isAgg148
 z39:=Tryz.sizeOf148
 v39:=Tryz.zeroValue148
 t45:=Tryz.underlying259
 a45:=Tryz.isAgg259
 z45:=Tryz.sizeOf259
 v45:=Tryz.zeroValue259
 t46:=Tryz.underlying260
 a46:=Tryz.isAgg260
 z46:=Tryz.sizeOf260
 v46:=Tryz.zeroValue260
 t50:=Tryz.underlying104
 a50:=Tryz.isAgg104
 z50:=Tryz.sizeOf104
 v50:=Tryz.zeroValue104
 t53:=Tryz.underlying107
 a53:=Tryz.isAgg107
 z53:=Tryz.sizeOf107
 v53:=Tryz.zeroValue107
 t55:=Tryz.underlying267
 a55:=Tryz.isAgg267
 z55:=Tryz.sizeOf267
 v55:=Tryz.zeroValue267
 t66:=Tryz.underlying303
 a66:=Tryz.isAgg303
 z66:=Tryz.sizeOf303
 v66:=Tryz.zeroValue303
 t70:=Tryz.underlying130
 a70:=Tryz.isAgg130
 z70:=Tryz.sizeOf130
 v70:=Tryz.zeroValue130
 t76:=Tryz.underlying325
 a76:=Tryz.isAgg325
 z76:=Tryz.sizeOf325
 v76:=Tryz.zeroValue325
 t77:=Tryz.underlying163
 a77:=Tryz.isAgg163
 z77:=Tryz.sizeOf163
 v77:=Tryz.zeroValue163
}
theorem Tryz.amw:ah5 cg 69 70 10:=λenc hk h1 cf hO pc off cap d w aj3 hH hblk mM=>
 AnyQ.slices_SortFunc Tryz.agj 10 Tryz.isAgg38 Tryz.sizeOf38 enc hk h1 cf hO 70 #[] pc off cap d w (enters_of Tryz.func70 (by kernel_rfl) rfl) aj3 hH hblk mM
theorem Tryz.amx (p:Option Addr) (cap:Nat) (fv:Value) (w:World):Calls cg 69 #[.slice p 0 cap,fv] w λe w'=>e= .returned (.tuple #[])/\w'=w:=AnyF.slices_SortFunc_none {Tryz.agj with} p cap fv w
theorem Tryz.aqt:aoh cg 70:=Tryz.anE
end Go.Proofs

namespace Go.Proofs
open Go Go.Lm Go.RowKit
set_option maxRecDepth 1000000
def akN:Ct:=cD .u8 λx=>c0 λQ=>x.length<=5000000000000/\Q (.c (.d .u8 x)) []
def Sk (x:(List (Ty.u8).den)):dq:=λQ=>cJ x (zY x Q)
theorem X9:cq 72 akN:=eI<| iH λx=>gx λQ h=>by
 refine Wp.Jh (e:=.u8) ?_;refine Wp.dy gp cu ⟨[],[]⟩ Tryz.f72 (Sk x) ?_;unfold Sk zY cd cJ dD;obtain ⟨hl,h⟩:=h;refine λ_ c hc=>ak (λhb=>.inr (.inl ⟨rfl,?_⟩)) (λhb=>⟨by omega,by omega,.inr (.inr ⟨0,5,x,rfl,aG 0,rfl,h⟩)⟩);rw [hc hb] at h;exact h
def anK:Ct:=cD .str λx=>c0 λQ=>x.length<=1000/\Q (.c (.d .str x)) []
def acR:=gp.add X9
def Yc (x:(List (Ty.str).den)):dq:=λQ=>gC x (∀ (c:Bool),(c=true->x= [])->br (mY c) (Q gW []) ((0+List.length x)*16<=cd/\0+List.length x<=9223372036854775807/\Q eY [.sl 9 Ty.str ([]++x)]))
theorem age:cq 43 anK:=eI<| iH λx=>gx λQ h=>by
 refine Wp.Jh (e:=.str) ?_;refine Wp.dy acR cu ⟨[],[]⟩ Tryz.f43 (Yc x) ?_;unfold Yc gW mY eY gC cd dD;obtain ⟨hl,h⟩:=h;refine λ_ c hc=>ak (λhb=>.inr (.inl ⟨rfl,?_⟩)) (λhb=>⟨by omega,by omega,.inr (.inr ⟨0,9,x,rfl,aG 0,rfl,h⟩)⟩);rw [hc hb] at h;exact h
def anJ:Ct:=cD cU λx=>c0 λQ=>x.length<=1000/\Q (.c (.o 0)) [.sl 96 cU x]
def alE:=acR.add age
abbrev I0 (y0:List (cU).den) (y1:SV->List HO->Prop):=(∀ (c:Bool),(c=true->y0= [])->br (if true=true then c else !c) (y1 (.v (.c dD)) []) ((0+List.length y0)*40<=cd/\0+List.length y0<=9223372036854775807/\y1 eY [.sl 96 cU ([]++y0)]))
def Yb (x:(List (cU).den)):dq:=λQ=>jC x (I0 x Q)
theorem al9:cq 37 anJ:=eI<| iH λx=>gx λQ h=>by
 refine Wp.CU (t:=96) (e:=cU) ?_;refine Wp.dy alE cu ⟨[],[]⟩ Tryz.f37 (Yb x) ?_;unfold Yb I0 jC eY cd dD;intro _ c hc;refine ak (λhb=>.inr ⟨rfl,?_⟩) (λhb=>⟨by omega,by omega,.inl ?_⟩)
 .have:=hc (by simpa using hb);subst this;exact h.2
 .exact h.2
def anO:Ct:=cD noTy λx=>c0 λQ=>x.length<=1100/\Q (.c (.o 0)) [.sl 38 noTy x]
def Yf (x:(List (noTy).den)):dq:=λQ=>di x (∀ (c:Bool),(c=true->x= [])->br (mY c) (Q gW []) ((0+List.length x)*136<=cd/\0+List.length x<=9223372036854775807/\Q eY [.sl 38 noTy ([]++x)]))
theorem amd:cq 68 anO:=eI<| iH λx=>gx λQ h=>by
 refine Wp.CU (t:=38) (e:=noTy) ?_;refine Wp.dy gp cu ⟨[],[]⟩ Tryz.f68 (Yf x) ?_;unfold Yf gW mY eY di cd dD;intro _ c hc;refine ak (λhb=>.inr ⟨rfl,?_⟩) (λhb=>⟨by omega,by omega,.inl ?_⟩)
 .have:=hc (by simpa using hb);subst this;exact h.2
 .exact h.2
def TX:Ct
 | [.v (.c (.o 0)),.v (.c (.fn 70 []))],[.sl tN e xs],Q=>(match zw noTy xs with
  | some L=>(L.length:Int)<=1100/\∀ L':List bc,L'.Perm L->L'.Pairwise (λx y=>¬cmpL y.1 x.1< 0)->Q (.cC []) [.sl tN noTy L']
  | none=>False)
 | _,_,_=>False
theorem ai2 {e e':Ty} {xs:List e.den} {L:List e'.den} (h:zw e' xs=some L) (t:TypeId):HO.sl t e xs=HO.sl t e' L:=by
 obtain ⟨q,hy⟩:=eB h;subst q;subst hy;rfl
theorem adF:cq 69 TX:=by
 intro args H Q h;unfold TX at h;split at h
 .split at h
  .rename_i tN e xs x_ L hL;rw [ai2 hL];exact Wp.Vg Tryz.amw Tryz.amx Tryz.aqt (by have:=h.1;omega) h.2
  .cases h
 .cases h
theorem N6 {l:List bc} (h:dw l=0):l.length<=1024/\iz l=0/\kU (fc l) []=1/\En (fc l) l=false/\(∀ x∈l,gE x=true)/\iB l []=0:=by
 unfold dw at h;split at h;cases h;rename_i h1;split at h
 .rename_i h2;rw [h] at h2;cases h2
 rename_i h2;split at h;cases h;rename_i h3;split at h;cases h;rename_i h4;split at h;cases h;rename_i h5;refine ⟨by omega,by simpa using h2,by simpa using h3,by simpa using h4,λx hx=>?_,h⟩;have:(l.any λx=> !gE x)=false:=by simpa using h5
 have:=List.any_eq_false.1 this x hx;simpa using this
theorem P3 {x:bc} (h:gE x=true):x.2.2.2.2.1.length<=4096/\dC x.2.2.2.2.2.2.1=true/\x.2.2.2.2.2.2.2.1=false:=by
 unfold gE at h;split at h
 .simp only [ao,beq_iff_eq,cY] at h;exact ⟨by omega,h.2,h.1.1.2⟩
 .split at h
  .simp only [ao,decide_eq_true_eq,cY] at h;exact ⟨by omega,h.2,h.1.1.2⟩
  .split at h
   .simp only [ao,beq_iff_eq,cY] at h;exact ⟨by omega,h.2,h.1.1.2⟩
   .cases h
theorem N5 {l:List bc} (h:dw l=0):∀ x∈l,x.1.length<=16/\x.2.2.2.2.1.length<=4096/\x.2.2.2.2.2.2.1.length<=8/\∀ z∈x.2.2.2.2.2.2.1,z.2.1.length<=200:=λx hx=>by
 obtain ⟨_,h2,_,_,h5,_⟩:=N6 h;obtain ⟨_,hD,_⟩:=qd (show (iz l !=0)=false by rw [h2];rfl);obtain ⟨a,b,_⟩:=P3 (h5 x hx);obtain ⟨c,d⟩:=mF b;exact ⟨A8 hD hx,a,d,λz hz=>(c z hz).2.2⟩
theorem aef {e:Ty} {L:List e.den} {i:Int} (h0:0<=i) (h1:i< (L.length:Int)):L.set i.toNat (aA e L i)=L:=by
 rw [fF h0 h1,List.set_getElem_self]
theorem Tq {e:Ty} (A B:List e.den) (x:e.den) {j:Nat} (h:A.length=j):aA e (A++x::B) (j:Int)=x:=by
 subst h;unfold aA;rw [bL,dh,bD (aG _),Nat.sub_self];rfl
theorem Sy {α:Type} (A B:List α) (x y:α) {j:Nat} (h:A.length=j):(A++x::B).set (j:Int).toNat y=A++y::B:=by
 subst h;rw [bL,List.set_append_right _ _ (aG _),Nat.sub_self];rfl
def xz:Ct
 | [.v (.c cl)],[],Q=>(match (Ty.sl noTy).of [cl] with
  | some (l,[])=>(l.length:Int)<=1000/\br (dw l !=0) (Q (.cC [.c (.d noTy []),.c (.k (.int .i64 (dw l)))]) []) (∀ L':List bc,L'.Perm l->L'.Pairwise (λx y=>¬cmpL y.1 x.1< 0)->Q (.cC [.c (.d noTy (cZ L' [])),.c (.k (.int .i64 0))]) [])
  | _=>False)
 | _,_,_=>False
def alD:=(((((gp.add XR).add X9).add age).add al9).add amd).add adF
abbrev aet (y0) (y1):=List.set (List.set y0 (ax y1) (aA noTy y0 y1)) (ax y1) ((aA noTy (List.set y0 (ax y1) (aA noTy y0 y1)) y1).1,(aA noTy (List.set y0 (ax y1) (aA noTy y0 y1)) y1).2.1,(aA noTy (List.set y0 (ax y1) (aA noTy y0 y1)) y1).2.2.1,(aA noTy (List.set y0 (ax y1) (aA noTy y0 y1)) y1).2.2.2.1,(aA noTy y0 y1).2.2.2.2.1,(aA noTy (List.set y0 (ax y1) (aA noTy y0 y1)) y1).2.2.2.2.2)
abbrev rG {A1:Type} (y0) (y1:List A1) (R:Prop):=0<=y0/\y0< (aP y1)/\0<=y0/\y0< (aP y1)/\R
abbrev sW (y0:List bc) (y1:List (noTy).den) (R:Prop):=List.Perm y0 y1->List.Pairwise (λx y=>¬cmpL y.1 x.1< 0) y0->R
abbrev sR (y0) (y1):=aA noTy (aet y0 y1) y1
abbrev eX (y0) (y1):=aA noTy y0 y1
def Fe (l:(List (noTy).den)):dq:=λQ=>di l (aB .i64 (dw l)->br (dw l !=0) (Q (.cC [.c dD,.c (.k (.int .i64 (dw l)))]) []) (List.length l<=1100/\(ay l)<=(1100:Int)/\∀ (L':List bc),sW L' l (aJ (List.length L')->aK (λi ag 
 =>br (decide (i.1.1< (aP L'))) (rG i.1.1 i.2.1 (Ty.ok noTy (eX i.2.1 i.1.1)->Ty.ok bq (gB (Kk.get Kk.int i.2.2.1 (eX i.2.1 i.1.1).2.1) ah)->cK (λk=>br (!Option.isSome (Kk.get Kk.int i.2.2.1 (eX 
 i.2.1 i.1.1).2.1)) (aJ (bw i.2.2.1)->aB .i64 ((aP i.2.2.1)+1)/\0<=i.1.1/\i.1.1< (aP i.2.1)/\(Ty.ok noTy (eX i.2.1 i.1.1)->mc i.2.2.1 (k (((aP i.2.2.1)+1,()),Kk.put Kk.int i.2.2.1 (eX i.2.1 i.1.1).2.1 
 ((aP i.2.2.1)+1),())))) (k ((gB (Kk.get Kk.int i.2.2.1 (eX i.2.1 i.1.1).2.1) ah,()),i.2.2))) λbG=>cK (λk=>0<=i.1.1/\i.1.1< (aP i.2.1)/\k ((),List.set i.2.1 (aS i.1.1) ((eX i.2.1 i.1.1).1, 
 bG.1.1,(eX i.2.1 i.1.1).2.2),())) λkV=>0<=i.1.1/\i.1.1< (aP kV.2.1)/\(Ty.ok noTy (eX kV.2.1 i.1.1)->0<=i.1.1/\i.1.1< (aP kV.2.1)/\(Ty.ok noTy (eX kV.2.1 i.1.1)->0<=i.1.1/\i.1.1< (aP kV.2.1)/\ 
 (Ty.ok noTy (eX kV.2.1 i.1.1)->List.length (eX kV.2.1 i.1.1).1<=1000/\(List.length (eX kV.2.1 i.1.1).1<=9223372036854775807->List.length (eX kV.2.1 i.1.1).2.2.2.2.1<=5000000000000/\(List.length (eX kV.2.1 
 i.1.1).2.2.2.2.1<=9223372036854775807->List.length (eX kV.2.1 i.1.1).2.2.2.2.2.2.1<=1000/\0<=i.1.1/\i.1.1< (aP kV.2.1)/\0<=i.1.1/\i.1.1< (aP (List.set kV.2.1 (aS i.1.1) (eX kV.2.1 i.1.1)))/\0<=i.1.1/\i.1.1< 
 (↑(List.length (aet kV.2.1 i.1.1)):Int)/\i.1.1=i.1.1/\(List.length (eX kV.2.1 i.1.1).2.2.2.2.2.2.1<=9223372036854775807->aK (λjX ag_1=>br (decide (jX.1.1< (↑(List.length (eX kV.2.1 i.1.1).2.2.2.2.2.2.1): 
 Int))) (rG jX.1.1 jX.2.1 (Ty.ok cU (cG jX.2.1 jX.1.1)->i.1.1=i.1.1/\List.length (cG jX.2.1 jX.1.1).2.1<=5000000000000/\(pF jX.2.1 jX.1.1 (rG jX.1.1 jX.2.1 (cj jX.1.1 (ag_1 ((jX.1.1+1,()),List.set 
 jX.2.1 (aS jX.1.1) (cG jX.2.1 jX.1.1),()))))))) (cj i.1.1 (ag ((i.1.1+1,()),List.set (aet kV.2.1 i.1.1) (aS i.1.1) ((sR kV.2.1 i.1.1).1,(sR kV.2.1 i.1.1).2.1,(sR kV.2.1 i.1.1).2.2.1,(sR kV.2.1 
 i.1.1).2.2.2.1,(sR kV.2.1 i.1.1).2.2.2.2.1,(sR kV.2.1 i.1.1).2.2.2.2.2.1,jX.2.1,(sR kV.2.1 i.1.1).2.2.2.2.2.2.2),bG.2)))) ((ah,()),(eX kV.2.1 i.1.1).2.2.2.2.2.2.1,()))))))))) (Q lD [.sl 38 noTy i.2.1])) 
 ((ah,()),L',[],()))))
theorem Ku:cq 45 xz:=by
 intro args H Q h;unfold xz at h;split at h;rotate_left;cases h;rename_i cl;split at h;rotate_left;cases h;rename_i l hl;refine Wp.said (args':=[.c (.d noTy l)]) (λE g=>bA.cE (dI hl) (λ_ h=>h)) ?_;clear hl;refine Wp.kE [some (.sl noTy),none] [0] ?_;refine Wp.dy alD cu ⟨[(9,⟨[(25,.int .i64)],[(0,.sl 38 noTy),(1,.map 3 .int (.int .i64))]⟩),(19,⟨[(84,.int .i64)],[(2,.sl 96 cU)]⟩)],[(16,⟨[(9,.int .i64)],[(1,.map 3 .int (.int .i64))]⟩),(17,⟨[],[(0,.sl 38 noTy)]⟩)]⟩ Tryz.f45 (Fe l) (sfh:=true) ?_;unfold Fe eX sR pF sW mc lD cG rG cj bw di dD aT aS aet ah aP ay aJ bq;obtain ⟨hl,h⟩:=h;refine λ_ _=>ak (λhc=>?_) (λhc=>?_);rw [hc] at h;exact ⟨aG _,h⟩;rw [hc] at h;have hck:dw l=0:=by simpa using hc
 have aj5:=N5 hck;refine ⟨by omega,by omega,λL' hp ho _=>?_⟩;have hq:=h L' hp ho;have hlen:L'.length=l.length:=hp.length_eq;clear h ho hc;refine aK.intro (λi=>∃ j:Nat,j<=L'.length/\i.1.1=(j:Int)/\i.2.1=cZ (L'.take j) []++L'.drop j/\i.2.2.1=ia (L'.take j) []) (λi=>L'.length - i.1.1.toNat) ⟨0,cM _,rfl,by simp [cZ],by simp [ia]⟩ ?_;rintro ⟨⟨i,_⟩,out,m,_⟩ ⟨j,hj,h1,h2,h3⟩;simp only at h1 h2 h3 ⊢;subst h1 h2 h3;have hA:(cZ (L'.take j) []).length=j:=by rw [jw,aF];omega
 have pL:(cZ (L'.take j) []++L'.drop j).length=L'.length:=by rw [af,hA,aR];omega
 have JI:=tm (L'.take j) [];rw [aF,aY] at JI;refine ak (λhc=>?_) (λhc=>?_)
 .have vX:(j:Int)< L'.length:=of_decide_eq_true hc;clear hc;have uS:j< L'.length:=by omega
  have Df:=bM uS;obtain ⟨b1,b2,b3,b4⟩:=aj5 _ (hp.mem_iff.1 (dA uS));have ht:L'.take (j+1)=L'.take j++ [L'[j]]:=bY uS;have hna:=(qZ (L'.take j) [L'[j]] []).2;have hns:∀ v:Int,(Kk.get .int (ia (L'.take j) []) (L'[j]'uS).2.1=some v\/(Kk.get .int (ia (L'.take j) []) (L'[j]'uS).2.1=none/\v=((ia (L'.take j) []).length:Int)+1))->cZ (L'.take j++ [L'[j]'uS]) []=cZ (L'.take j) []++ [bc.jG (L'[j]'uS) v]:=λv q=>(M9 q).1;rw [<-ht] at hna hns;generalize L'[j]=x at*;rw [Df] at pL ⊢;generalize cZ (L'.take j) []=A at*;generalize ia (L'.take j) []=m0 at*;rw [pL,Tq (e:=noTy) A _ x hA];refine ⟨by omega,vX,by omega,vX,λ_ _=>?_⟩;refine cK.intro (λk=>(Kk.get .int m0 x.2.1=some k.1.1\/(Kk.get .int m0 x.2.1=none/\k.1.1=(m0.length:Int)+1))/\k.2.1=ia (L'.take (j+1)) []) ?_ ?_
  .refine ak (λhg=>?_) (λhg=>?_)
   .have hg:Kk.get .int m0 x.2.1=none:=by simpa using hg
    exact λ_=>⟨by unfold aB;omega,by omega,vX,λ_=>⟨by omega,.inr ⟨hg,rfl⟩,by rw [hna,iP hg];rfl⟩⟩
   .obtain ⟨v,hv⟩:=mS.1 (show (Kk.get .int m0 x.2.1).isSome=true by simpa using hg);exact ⟨.inl (by rw [hv];rfl),by rw [hna,iO hv];rfl⟩
  rintro ⟨⟨v,_⟩,m1,_⟩ ⟨hv,hm1⟩;simp only at hv hm1 ⊢;subst hm1;refine cK.intro (λk=>k.2.1=A++(x.1,v,x.2.2)::L'.drop (j+1)) ⟨by omega,vX,Sy _ _ _ _ hA⟩ ?_;rintro ⟨_,L2,_⟩ hL2;have hL2:L2=_:=hL2;subst hL2;have Qk:=hns v hv;have aaf:A++(x.1,v,x.2.2)::L'.drop (j+1)=cZ (L'.take (j+1)) []++L'.drop (j+1):=by
   rw [Qk,aM];rfl
  have b1:(x.1,v,x.2.2).1.length<=16:=b1;have b2:(x.1,v,x.2.2).2.2.2.2.1.length<=4096:=b2;have b3:(x.1,v,x.2.2).2.2.2.2.2.2.1.length<=8:=b3;have b4:∀ z∈(x.1,v,x.2.2).2.2.2.2.2.2.1,z.2.1.length<=200:=b4;have ajT:(A++(x.1,v,x.2.2)::L'.drop (j+1)).length=L'.length:=by rw [<-pL];simp
  generalize ((x.1,v,x.2.2):bc)=y at*;have hix:=Tq (e:=noTy) A (L'.drop (j+1)) y hA;have hse:=Sy A (L'.drop (j+1)) y y hA;have apu:(A++y::L'.drop (j+1)).set (j:Int).toNat (y.1,y.2.1,y.2.2.1,y.2.2.2.1,y.2.2.2.2.1,y.2.2.2.2.2)=A++y::L'.drop (j+1):=hse;have apt:(A++y::L'.drop (j+1)).set (j:Int).toNat (y.1,y.2.1,y.2.2.1,y.2.2.2.1,y.2.2.2.2.1,y.2.2.2.2.2.1,y.2.2.2.2.2.2.1,y.2.2.2.2.2.2.2)=A++y::L'.drop (j+1):=hse;simp only [hix,hse,ajT];have anm:∀ Z,y.2.2.2.2.2.2.1=Z->(A++y::L'.drop (j+1)).set (j:Int).toNat (y.1,y.2.1,y.2.2.1,y.2.2.2.1,y.2.2.2.2.1,y.2.2.2.2.2.1,Z,y.2.2.2.2.2.2.2)=cZ (L'.take (j+1)) []++L'.drop (j+1):=by
   rintro Z rfl;exact apt.trans aaf
  refine ⟨by omega,vX,λ_=>⟨by omega,vX,λ_=>⟨by omega,vX,λ_=>⟨by omega,λ_=>⟨by omega,λ_=>⟨by omega,by omega,vX,by omega,vX,by omega,vX,by trivial,λ_=>?_⟩⟩⟩⟩⟩⟩;generalize hX:y.2.2.2.2.2.2.1=X at*;refine aK.intro (λi=>0<=i.1.1/\i.2.1=X) (λi=>X.length - i.1.1.toNat) ⟨bh _,rfl⟩ ?_;rintro ⟨⟨k,_⟩,X',_⟩ ⟨k0,kX⟩;simp only at k0 kX ⊢;subst kX;refine ak (λhk=>?_) (λhk=>?_)
  .have hk:k< (X'.length:Int):=of_decide_eq_true hk;have hv2:=b4 _ (tv (e:=cU) k0 hk);rw [aef (e:=cU) k0 hk];exact ⟨k0,hk,k0,hk,λ_=>⟨by trivial,by omega,λ_=>⟨k0,hk,k0,hk,by unfold aB;omega,⟨by omega,by trivial⟩,by omega⟩⟩⟩
  .exact ⟨by unfold aB;omega,⟨j+1,uS,by omega,anm _ rfl,by trivial⟩,by omega⟩
 .have hc:¬(j:Int)< L'.length:=of_decide_eq_false hc;obtain rfl:j=L'.length:=by omega
  rw [fz,List.drop_length,bf];exact ⟨cM _,hq⟩
def aaN:Ct:=cD .str λa=>cD .str λb=>c0 λQ=>Q (.bool (gd a b)) []
def RF (a b:(List (Ty.str).den)):dq:=λQ=>gC a (mX b a (aJ (eG b)->br ((ay a) !=(ay b)) (ba Q) (aJ (eG a)->aK (λi ag=>br (decide (i.1.1< (ay a))) (Ja i.1.1 a b Q ag) (Q ml [])) du)))
theorem Xw:cq 238 aaN:=eI<| iH λa=>iH λb=>gx λQ h=>by
 refine Wp.dy gp cu ⟨[(5,⟨[(13,.int .i64)],[]⟩)],[]⟩ Tryz.f238 (RF a b) ?_;unfold RF mX eG du Ja gC ba dN iW ml ah ay aJ;intro _ _ _ _;refine ak (λh1=>?_) (λh1=>?_)
 .grind [xX]
 .have hl:a.length=b.length:=by
   grind
  refine λ_=>aK.intro (λi=>0<=i.1.1/\i.1.1<=a.length/\gd (a.drop i.1.1.toNat) (b.drop i.1.1.toNat)=gd a b) (λi=>a.length - i.1.1.toNat) (by grind) ?_;rintro ⟨⟨i,_⟩,_⟩ ⟨h0,h2,h3⟩;refine ak (λhc=>?_) (λhc=>?_)
  .have hc:i< a.length:=by grind
   have za:i< b.length:=by omega
   rw [cR (e:=.str) h0 hc,cR (e:=.str) h0 za] at h3;simp only [gd] at h3;refine ⟨h0,hc,λ_=>⟨h0,za,λ_=>ak (λh4=>?_) (λh4=>?_)⟩⟩
   .grind
   .have h4:j9 (aA .str a i) (aA .str b i)=true:=by grind
    grind [aB]
  grind [cX, gd]
def Of:Ct:=cD .str λa=>cD .str λb=>c0 λQ=>Q (.bool (gd a b)) []
def acQ:=gp.add Xw
def Fj (a b:(List (Ty.str).den)):dq:=λQ=>gC a (aJ (eG b)->Q (.v (.c (.k (.bool (gd a b))))) [])
theorem Kz:cq 223 Of:=eI<| iH λa=>iH λb=>gx λQ h=>by
 refine Wp.dy acQ cu ⟨[],[]⟩ Tryz.f223 (Fj a b) ?_;unfold Fj eG gC aJ
 grind
def Ho:Ct:=cD .str λa=>cD .str λb=>c0 λQ=>Q (.bool (decide ((a.length:Int)>b.length)&& gd (a.take b.length) b)) []
def acP:=acQ.add Kz
def Bw (a b:(List (Ty.str).den)):dq:=λQ=>gC a (mX b a (aJ (eG b)->br (decide ((ay a)>(ay b))) (aJ (eG b)->ah<=(ay b)/\(ay b)<=(ay a)/\Q (.v (.c (.k (.bool (gd (List.take (ax (ay b)) a) b))))) []) (ba Q)))
theorem xM:cq 175 Ho:=eI<| iH λa=>iH λb=>gx λQ h=>by
 refine Wp.dy acP cu ⟨[],[]⟩ Tryz.f175 (Bw a b) ?_;unfold Bw mX eG gC ba iW ah ay aJ;refine λ_ _ _ _=>ak (λhc=>λ_=>?_) (λhc=>?_)
 .grind
 grind
def aaU:Ct:=cS λx=>c0 λQ=>Q (.bool false) []
def acO:=acP.add xM
def RT (x:ByteArray):dq:=λQ=>iN x (Q (.v (.c (.k (.bool !j9 x x)))) [])
theorem XG:cq 170 aaU:=eI<| Zp λx=>gx λQ h=>by
 refine Wp.dy acO cu ⟨[],[]⟩ Tryz.f170 (RT x) ?_;unfold RT iN;rw [gO.2 rfl]
 grind
def Uh:Ct:=cS λx=>cS λy=>c0 λQ=>Q (.int (fM x y)) []
def acN:=acO.add XG
abbrev IF (y0:ByteArray) (y1:ByteArray) (y2:SV->List HO->Prop):=dv y0 (br (lS y1 y0) (oE y2) (br (!(lS y1 y0|| j9 y1 y0)) (y2 (.v (.c (.k (.int .i64 1)))) []) (hU y2)))
def LP (x y:ByteArray):dq:=λQ=>iN x (IF y x Q)
theorem Rw:cq 123 Uh:=eI<| Zp λx=>Zp λy=>gx λQ h=>by
 refine Wp.dy acN cu ⟨[],[]⟩ Tryz.f123 (LP x y) ?_;unfold LP IF oE hU dv iN aT aJ;refine λ_ _=>ak (λh1=>?_) (λh1=>ak (λh2=>?_) (λh2=>?_))
 .have e:fM x y= -1:=if_pos h1
  grind
 .grind [fM, lS, j9]
 grind [fM, lS, j9]
def Ui:Ct:=cD .str λa=>cD .str λb=>c0 λQ=>Q (.int (cmpL a b)) []
def acM:=acN.add Rw
abbrev iv (y0:List (Ty.str).den) (y1):=aA Ty.str y0 y1
def LQ (a b:(List (Ty.str).den)):dq:=λQ=>gC a (mX b a (aK (λi ag=>br (decide (i.1.1< (ay a))) (0<=i.1.1/\i.1.1< (ay a)/\(Ty.ok Ty.str (iv a i.1.1)->aJ (eG b)->br (decide (i.1.1≥(ay b))) (Q (.v (.c (.k (.int .i64 1)))) []) (0<= 
 i.1.1/\i.1.1< (ay b)/\(Ty.ok Ty.str (iv b i.1.1)->aB .i64 (fM (iv a i.1.1) (iv b i.1.1))->br (fM (iv a i.1.1) (iv b i.1.1) !=0) (Q (.v (.c (.k (.int .i64 (fM (iv a i.1.1) (iv b i.1.1)))))) []) 
 (dN i.1.1 ag))))) (mX a b (br (decide ((ay a)< (ay b))) (oE Q) (hU Q)))) du))
theorem Rx:cq 71 Ui:=eI<| iH λa=>iH λb=>gx λQ h=>by
 refine Wp.dy acM cu ⟨[(3,⟨[(11,.int .i64)],[]⟩)],[]⟩ Tryz.f71 (LQ a b) ?_;unfold LQ mX iv oE hU eG du gC dN aT ah ay aJ;refine λ_ _ _=>aK.intro (λi=>0<=i.1.1/\i.1.1<=a.length/\i.1.1<=b.length/\cmpL (a.drop i.1.1.toNat) (b.drop i.1.1.toNat)=cmpL a b) (λi=>a.length - i.1.1.toNat) ⟨by simp,by simp,by simp,by simp⟩ ?_;rintro ⟨⟨i,_⟩,_⟩ ⟨h0,h1,h2,h3⟩;simp only at h0 h1 h2 h3 ⊢;rw [<-h3] at h;refine ak (λha=>?_) (λha=>λ_ _=>?_)
 .have ha:i< (a.length:Int):=of_decide_eq_true ha;refine ⟨h0,ha,λ_ _=>ak (λhb=>?_) (λhb=>?_)⟩
  .have hb:i≥(b.length:Int):=of_decide_eq_true hb;rw [cR (e:=.str) h0 ha,cX (l:=b) (by omega)] at h;exact h
  .have hb:i< (b.length:Int):=by have:=of_decide_eq_false hb;omega
   rw [cR (e:=.str) h0 ha,cR (e:=.str) h0 hb,uB] at h h3;refine ⟨h0,hb,λ_ _=>ak (λhd=>?_) (λhd=>?_)⟩;rw [if_neg (by simpa using hd)] at h;exact h
   .rw [if_pos (by simpa using hd)] at h3;exact ⟨by unfold aB;omega,⟨by omega,by omega,by omega,h3⟩,by omega⟩
 .have ha:¬i< (a.length:Int):=of_decide_eq_false ha;rw [cX ha] at h;refine ak (λhb=>?_) (λhb=>?_)
  .have hb:=of_decide_eq_true hb;rw [cR (e:=.str) h0 (by omega)] at h;exact h
  .have hb:=of_decide_eq_false hb;rw [cX (l:=b) (by omega)] at h;exact h
def Ol:Ct:=cI λa=>cI λb=>cP<| cO λH Q=>match H with
 | [.cells 22 [.d (.pair (.sl .str) (.pair (.int .i64) (.pair (.int .i64) (.pair (.pair (.int .i64) (.pair (.int .i64) (.pair (.int .i64) .unit))) (.pair (.sl .u8) (.pair .str (.pair (.sl (.pair .str (.pair (.sl .u8) .unit))) (.pair .bool .unit)))))))) L]]=>(0<=a/\a< (L.length:Int))/\(0<=b/\b< (L.length:Int))/\Q (.int (cmpL (aA noTy L a).1 (aA noTy L b).1)) [.cells 22 [.d noTy L]]
 | _=>False
def acL:=acM.add Rx
abbrev gK (y0:List bc) (y1:Int):=aA noTy y0 y1
def FA (a b:Int) (L:List bc):dq:=λQ=>bZ a b (0<=a/\a< (ay L)/\(Ty.ok noTy (gK L a)->0<=b/\b< (ay L)/\(Ty.ok noTy (gK L b)->aB .i64 (cmpL (gK L a).1 (gK L b).1)->Q (.v (.c (.k (.int .i64 (cmpL (gK L a).1 (gK L b).1))))) 
 [.cells 22 [Cl.d noTy L]])))
theorem KH:cq 177 Ol:=eI<| nF λa=>nF λb=>rZ<| r5 λH Q h=>by
 split at h;rotate_left;cases h;rename_i L;refine Wp.dy acL cu ⟨[],[]⟩ Tryz.f177 (FA a b L) ?_;unfold FA gK bZ ay
 grind
def DI:Ct
 | [.v (.c cx),.v (.c (.k (.int .i64 a))),.v (.c (.k (.int .i64 b))),.v (.c (.fn 177 [.p 0 0]))],[.cells 22 [.d (.pair (.sl .str) (.pair (.int .i64) (.pair (.int .i64) (.pair (.pair (.int .i64) (.pair (.int .i64) (.pair (.int .i64) .unit))) (.pair (.sl .u8) (.pair .str (.pair (.sl (.pair .str (.pair (.sl .u8) .unit))) (.pair .bool .unit)))))))) L]],Q=>(match (Ty.sl (Ty.int .i64)).of [cx] with
  | some (x,[])=>nO L x/\(0<=a/\a<=x.length/\b<=x.length)/\x.length<=100000/\Q .tV [.cells 22 [.d noTy L]]
  | _=>False)
 | _,_,_=>False
def acK:=acL.add KH
abbrev SI (y0) (y1:List ((Ty.int .i64)).den):=aB .i64 (y0 - 1)/\aB .i64 (y0 - 1)/\0<=y0 - 1/\y0 - 1< (ay y1)/\(Ty.ok bq (aA bq y1 (y0 - 1))->0<=y0/\y0< (ay y1)/\(Ty.ok bq (aA bq y1 y0)->0<=y0/\y0< (ay y1)/\False))
abbrev vA (y0:SV->List HO->Prop) (y1:List bc):=y0 (SV.cC []) [.cells 22 [Cl.d noTy y1]]
abbrev sH (y0:List bc) (y1:List ((Ty.int .i64)).den) (y2:Int):=aA noTy y0 (aA bq y1 y2)
abbrev Cs (y0:List ((Ty.int .i64)).den) (y1:Int) (y2:List bc):=0<=aA bq y0 y1/\aA bq y0 y1< (ay y2)
def Fz (x:(List ((Ty.int .i64)).den)) (a b:Int) (L:List bc):dq:=λQ=>ix x (bZ a b (cj a (aK (λi ag=>br (decide (i.1.1< b)) (aK (λbG ag_1=>br (decide (bG.1.1>a)) (0<=bG.1.1/\bG.1.1< (ay x)/\(yC x bG.1.1 (Ty.ok bq (jR x bG.1.1)->(Cs x 
 bG.1.1 L)/\(0<=aA bq x (bG.1.1 - 1)/\aA bq x (bG.1.1 - 1)< (ay L))/\L=L/\(aB .i64 (cmpL (sH L x bG.1.1).1 (aA noTy L (jR x bG.1.1)).1)->br (decide (cmpL (sH L x bG.1.1).1 (aA noTy L (jR x 
 bG.1.1)).1< 0)) (SI bG.1.1 x) (dN i.1.1 ag))))) (dN i.1.1 ag)) i) (vA Q L)) ((a+1,()),()))))
theorem KG:cq 239 DI:=by
 intro args H Q h;unfold DI at h;split at h;rotate_left;cases h;rename_i cx a b L;split at h;rotate_left;cases h;rename_i x hx;refine Wp.said (args':=[.c (.d (Ty.int .i64) x),.int a,.int b,.c (.fn 177 [.p 0 0])]) (λE g=>bA.cE (dI hx) (bA.cE (λ_ h=>h) (bA.cE (λ_ h=>h) (bA.cE (λ_ h=>h) (λ_ h=>h))))) ?_;clear hx;refine Wp.dy acK cu ⟨[(2,⟨[(8,.int .i64)],[]⟩),(5,⟨[(9,.int .i64)],[]⟩)],[]⟩ Tryz.f239 (Fz x a b L) (ro:=[177]) ?_;unfold Fz Cs sH vA jR yC ix bZ SI cj dN ay bq;obtain ⟨hs,⟨a0,a1,b1⟩,hl,h⟩:=h;refine λ_ _ _=>⟨by unfold aB;omega,aK.intro (λi=>a+1<=i.1.1) (λi=>(b - i.1.1).toNat) (bh _) ?_⟩;rintro ⟨⟨i,_⟩,_⟩ hi;simp only at hi ⊢;refine ak (λhc=>?_) (λ_=>h);have hc:i< b:=of_decide_eq_true hc;refine aK.intro (λj=>j.1.1=i) (λj=>0) rfl ?_;rintro ⟨⟨j,_⟩,_⟩ hj;simp only at hj ⊢;have p1:=hs.at (i:=j) (by omega) (by omega);have p2:=hs.at (i:=j - 1) (by omega) (by omega);have p3:=hs.ord (j - 1) j (by omega) (by omega) (by omega);refine ak (λ_=>⟨by omega,by omega,λ_=>⟨by unfold aB;omega,by omega,by omega,λ_=>⟨p1,p2,by trivial,λ_=>ak (λq=>absurd (of_decide_eq_true q) p3) (λ_=>⟨by unfold aB;omega,by omega,by omega⟩)⟩⟩⟩) (λ_=>⟨by unfold aB;omega,by omega,by omega⟩)
def mQ (n:Nat):Ct
 | [.v (.c cx),.v (.c (.k (.int .i64 a))),.v (.c (.k (.int .i64 m))),.v (.c (.k (.int .i64 b))),.v (.c (.fn 177 [.p 0 0]))],[.cells 22 [.d (.pair (.sl .str) (.pair (.int .i64) (.pair (.int .i64) (.pair (.pair (.int .i64) (.pair (.int .i64) (.pair (.int .i64) .unit))) (.pair (.sl .u8) (.pair .str (.pair (.sl (.pair .str (.pair (.sl .u8) .unit))) (.pair .bool .unit)))))))) L]],Q=>(match (Ty.sl (Ty.int .i64)).of [cx] with
  | some (x,[])=>nO L x/\(0<=a/\a< m/\m< b/\b<=x.length)/\b - a<=n/\x.length<=100000/\Q .tV [.cells 22 [.d noTy L]]
  | _=>False)
 | _,_,_=>False
def acJ (n:Nat):Vx:= {P:=cg,ct:=[(240,(mQ n)),(239,DI),(177,Ol),(71,Ui),(123,Uh),(170,aaU),(175,Ho),(223,Of),(238,aaN)],ty:=cu,hold:=[],ro:=[177,239,240]}
theorem W8 (n:Nat) (hn:cq 240 (mQ n)):jJ Inv cg (acJ n).ct:=jJ.cons hn (jJ.cons KG (by grind [jJ.cons, KH, Rx, Rw, XG, xM, Kz, Xw, jJ.nil]))
abbrev aer (y0:Int) (y1:Int) (y2:Int) (y3) (y4:List bc) (y5:List ((Ty.int .i64)).den) (y6:Nat) (y7:SV->List HO->Prop):=br (decide (iM (pZ (y0+y1))+y2 - y3< y1)) (nO y4 y5/\(0<=iM (pZ (y0+y1))/\iM (pZ (y0+y1))< iM (pZ (y0+y1))+y2 - y3/\iM (pZ (y0+y1))+y2 - y3< y1/\y1<=(ay y5))/\y1 - iM (pZ (y0+y1))<=(↑y6:Int)/\List.length y5<=100000/\y4=y4/\y7 (SV.cC []) [.cells 22 [Cl.d noTy y4]]) (y7 (SV.cC []) [.cells 22 [Cl.d noTy y4]])
abbrev Y9 (y0:Int) (y1) (y2:Int) (y3:List bc) (y4:List ((Ty.int .i64)).den) (y5:Nat) (y6:Int) (y7:SV->List HO->Prop):=br (decide (y0< y1)) (br (decide (y1< iM (pZ (y0+y2)))) (nO y3 y4/\(0<=y0/\y0< y1/\y1< iM (pZ (y0+y2))/\iM (pZ (y0+y2))<=(ay y4))/\iM (pZ (y0+y2)) - y0<=(↑y5:Int)/\List.length y4<=100000/\y3=y3/\br (decide (iM (pZ (y0+y2))< iM (pZ (y0+y2))+y6 - y1)) (aer y0 y2 y6 y1 y3 y4 y5 y7) (y7 (SV.cC []) [.cells 22 [Cl.d noTy y3]])) (br (decide (iM (pZ (y0+y2))< iM (pZ (y0+y2))+y6 - y1)) (aer y0 y2 y6 y1 y3 y4 y5 y7) (y7 (SV.cC []) [.cells 22 [Cl.d noTy y3]]))) (br (decide (iM (pZ (y0+y2))< iM (pZ (y0+y2))+y6 - y1)) (aer y0 y2 y6 y1 y3 y4 y5 y7) (y7 (SV.cC []) [.cells 22 [Cl.d noTy y3]]))
abbrev iY (y0:Int) (y1:Int):=pZ (y0+y1)
abbrev tc {A3:Type} (y0) (y1) (y2:_->Prop) (y3:A3):=aB .i64 (iM (iY y0 y1)+1)/\y2 ((iM (iY y0 y1)+1,y3),())
abbrev kR (y0:Int) (y1:Int):=iM (iY y0 y1)
abbrev qV (y0:Int) (y1:Int) (R:Prop):=aB .u64 (iY y0 y1)->aB .i64 (kR y0 y1)->R
abbrev qU (y0:Int) (y1:Int) (R:Prop):=aB .u64 (IntKind.wrap .u64 (y0+y1))->ah<=aW/\R
abbrev vF (y0:Int) (y1:Int) (y2:Int) (y3) (y4):=iM (iY y0 y1)+y2 - 1 - iM (iY y3 y4)
abbrev yz (y0) (y1) (y2:List ((Ty.int .i64)).den) (R:Prop):=0<=iM (iY y0 y1)/\iM (iY y0 y1)< (ay y2)/\R
abbrev IS (y0:List ((Ty.int .i64)).den) (y1) (y2) (y3:List bc):=0<=aA bq y0 (kR y1 y2)/\aA bq y0 (kR y1 y2)< (ay y3)
abbrev vC (y0:List bc) (y1:List ((Ty.int .i64)).den) (y2) (y3):=aA noTy y0 (aA bq y1 (kR y2 y3))
abbrev sO (y0:_->Prop) (y1) (y2):=y0 ((y1,iM (iY y1 y2),()),())
def Fx (n:Nat) (x:(List ((Ty.int .i64)).den)) (a m b:Int) (L:List bc):dq:=λQ=>ix x (cr a m b (aB .i64 (m - a)/\br (m - a==1) (aK (λi ag=>br (decide (i.1.1< i.1.2.1)) (aB .i64 (i.1.1+i.1.2.1)/\(qU i.1.1 i.1.2.1 (qV i.1.1 i.1.2.1 (yz i.1.1 i.1.2.1 x (Ty.ok bq 
 (aA bq x (kR i.1.1 i.1.2.1))->0<=a/\a< (ay x)/\(Ty.ok bq (aA bq x a)->(IS x i.1.1 i.1.2.1 L)/\(Cs x a L)/\L=L/\(aB .i64 (cmpL (vC L x i.1.1 i.1.2.1).1 (sH L x a).1)->br (decide (cmpL (vC L x 
 i.1.1 i.1.2.1).1 (sH L x a).1< 0)) (tc i.1.1 i.1.2.1 ag i.1.2) (sO ag i.1.1 i.1.2.1)))))))) (aK (λbG ag=>aB .i64 (i.1.1 - 1)/\br (decide (bG.1.1< i.1.1 - 1)) (cj bG.1.1 (cj bG.1.1 (0<=bG.1.1+1/\bG.1.1 
 +1< (ay x)/\(Ty.ok bq (aA bq x (bG.1.1+1))->0<=bG.1.1/\bG.1.1< (ay x)/\(Ty.ok bq (aA bq x bG.1.1)->0<=bG.1.1/\bG.1.1< (ay x)/\False))))) (vA Q L)) ((a,()),()))) ((m,b,()),())) (aB .i64 (b - m) 
 /\br (b - m==1) (aK (λi ag=>br (decide (i.1.1< i.1.2.1)) (aB .i64 (i.1.1+i.1.2.1)/\(qU i.1.1 i.1.2.1 (qV i.1.1 i.1.2.1 (0<=m/\m< (ay x)/\(Ty.ok bq (aA bq x m)->yz i.1.1 i.1.2.1 x (Ty.ok bq (aA bq 
 x (kR i.1.1 i.1.2.1))->(Cs x m L)/\(IS x i.1.1 i.1.2.1 L)/\L=L/\(aB .i64 (cmpL (sH L x m).1 (vC L x i.1.1 i.1.2.1).1)->br (!decide (cmpL (sH L x m).1 (vC L x i.1.1 i.1.2.1).1< 0)) (tc i.1.1 i.1.2.1 
 ag i.1.2) (sO ag i.1.1 i.1.2.1)))))))) (aK (λbG ag=>br (decide (bG.1.1>i.1.1)) (SI bG.1.1 x) (vA Q L)) ((m,()),()))) ((a,m,()),())) (aB .i64 (a+b)/\(qU a b (qV a b (aB .i64 (iM (iY a b)+m)/\ 
 cK (λk=>br (decide (m>iM (iY a b))) (aB .i64 (iM (iY a b)+m - b)/\k ((iM (iY a b)+m - b,iM (iY a b),()),())) (k ((a,m,()),()))) λi=>aB .i64 (iM (iY a b)+m - 1)/\aK (λi ag=>br 
 (decide (i.1.1< i.1.2.1)) (aB .i64 (i.1.1+i.1.2.1)/\(qU i.1.1 i.1.2.1 (qV i.1.1 i.1.2.1 (aB .i64 (vF a b m i.1.1 i.1.2.1)/\0<=iM (iY a b)+m - 1 - iM (iY i.1.1 i.1.2.1)/\iM (iY a b)+m - 1 - iM (iY 
 i.1.1 i.1.2.1)< (ay x)/\(Ty.ok bq (aA bq x (vF a b m i.1.1 i.1.2.1))->yz i.1.1 i.1.2.1 x (Ty.ok bq (aA bq x (kR i.1.1 i.1.2.1))->(0<=aA bq x (vF a b m i.1.1 i.1.2.1)/\aA bq x (vF a b m i.1.1 
 i.1.2.1)< (ay L))/\(IS x i.1.1 i.1.2.1 L)/\L=L/\(aB .i64 (cmpL (aA noTy L (aA bq x (vF a b m i.1.1 i.1.2.1))).1 (vC L x i.1.1 i.1.2.1).1)->br (!decide (cmpL (aA noTy L (aA bq x (vF a b m i.1.1 i.1.2.1))).1 
 (vC L x i.1.1 i.1.2.1).1< 0)) (tc i.1.1 i.1.2.1 ag i.1.2) (sO ag i.1.1 i.1.2.1)))))))) (aB .i64 (iM (iY a b)+m - i.1.1)/\br (decide (i.1.1< m)) (br (decide (m< iM (iY a b)+m - i.1.1)) False (Y9 a i.1.1 b L 
 x n m Q)) (Y9 a i.1.1 b L x n m Q))) i)))))))
theorem O0 (n:Nat) (hn:cq 240 (mQ n)):∀ args H Q,mQ (n+1) args H Q->Wp Inv cg 240 args H Q:=by
 intro args H Q h;unfold mQ at h;split at h;rotate_left;cases h;rename_i cx a m b L;split at h;rotate_left;cases h;rename_i x hx;refine Wp.said (args':=[.c (.d (Ty.int .i64) x),.int a,.int m,.int b,.c (.fn 177 [.p 0 0])]) (λE g=>bA.cE (dI hx) (bA.cE (λ_ h=>h) (bA.cE (λ_ h=>h) (bA.cE (λ_ h=>h) (bA.cE (λ_ h=>h) (λ_ h=>h)))))) ?_;clear hx;refine Wp.QC (X:=(acJ n)) (W8 n hn) ⟨[(4,⟨[(10,.int .i64),(11,.int .i64)],[]⟩),(10,⟨[(13,.int .i64)],[]⟩),(16,⟨[(14,.int .i64),(15,.int .i64)],[]⟩),(22,⟨[(17,.int .i64)],[]⟩),(34,⟨[(20,.int .i64),(21,.int .i64)],[]⟩)],[(33,⟨[(20,.int .i64),(21,.int .i64)],[]⟩)]⟩ (fn:=Tryz.f240) (V:=Fx n x a m b L) (by kernel_rfl) (λ_=>by kernel_rfl) ?_;unfold Fx Cs sH vA sO vC IS yz vF qU qV kR ix tc SI iY cj Y9 cr aer ah aW ay pZ bq iM;obtain ⟨hs,⟨a0,a1,a2,a3⟩,hn,hl,h⟩:=h;have M:=λz:Int=>P0 (n:=z);refine λ_ _ _ _=>⟨by unfold aB;omega,ak (λhc=>?_) (λhc=>⟨by unfold aB;omega,ak (λhd=>?_) (λhd=>?_)⟩)⟩
 .have hc:m - a=1:=eq_of_beq hc;refine aK.intro (λi=>i.1.1=m/\m<=i.1.2.1/\i.1.2.1<=b) (λi=>(i.1.2.1 - m).toNat) ⟨rfl,by show m<=b;omega,bh _⟩ ?_;rintro ⟨⟨i,j,_⟩,_⟩ ⟨h1,h2,h3⟩;simp only at h1 h2 h3 ⊢;subst h1;refine ak (λhq=>?_) (λhq=>?_)
  .have hq:i< j:=of_decide_eq_true hq;refine ⟨by unfold aB;omega,λ_=>⟨by decide,λ_ _=>?_⟩⟩;rw [M (i+j) (by omega) (by omega)];have p1:=hs.at (i:=(i+j) / 2) (by omega) (by omega);have p2:=hs.at (i:=a) (by omega) (by omega);have p3:=hs.ord a ((i+j) / 2) (by omega) (by omega) (by omega);exact ⟨by omega,by omega,λ_=>⟨by omega,by omega,λ_=>⟨p1,p2,by trivial,λ_=>ak (λq=>absurd (of_decide_eq_true q) p3) (λ_=>⟨⟨by trivial,by omega,by omega⟩,by omega⟩)⟩⟩⟩
  .refine aK.intro (λk=>k.1.1=a) (λ_=>0) rfl ?_;rintro ⟨⟨k,_⟩,_⟩ hk;simp only at hk ⊢;subst hk;exact ⟨by unfold aB;omega,ak (λq=>by have:=of_decide_eq_true q;omega) (λ_=>h)⟩
 .have hd:b - m=1:=eq_of_beq hd;refine aK.intro (λi=>i.1.2.1=m/\a<=i.1.1/\i.1.1<=m) (λi=>(m - i.1.1).toNat) ⟨rfl,bh _,by show a<=m;omega⟩ ?_;rintro ⟨⟨i,j,_⟩,_⟩ ⟨h1,h2,h3⟩;simp only at h1 h2 h3 ⊢;subst h1;refine ak (λhq=>?_) (λhq=>?_)
  .have hq:i< j:=of_decide_eq_true hq;refine ⟨by unfold aB;omega,λ_=>⟨by decide,λ_ _=>?_⟩⟩;rw [M (i+j) (by omega) (by omega)];have p1:=hs.at (i:=(i+j) / 2) (by omega) (by omega);have p2:=hs.at (i:=j) (by omega) (by omega);have p3:=hs.ord ((i+j) / 2) j (by omega) (by omega) (by omega);refine ⟨by omega,by omega,λ_=>⟨by omega,by omega,λ_=>⟨p2,p1,by trivial,λ_=>ak (λ_=>⟨by unfold aB;omega,⟨by trivial,by omega,by omega⟩,by omega⟩) (λq=>?_)⟩⟩⟩;rw [decide_eq_false p3] at q;cases q
  .have hq:¬i< j:=of_decide_eq_false hq;obtain rfl:i=j:=by omega
   refine aK.intro (λk=>k.1.1=i) (λ_=>0) rfl ?_;rintro ⟨⟨k,_⟩,_⟩ hk;simp only at hk ⊢;subst hk;exact ak (λq=>by have:=of_decide_eq_true q;omega) (λ_=>h)
 have hc:¬m - a=1:=by simpa using hc
 have hd:¬b - m=1:=by simpa using hd
 refine ⟨by unfold aB;omega,λ_=>⟨by decide,λ_ _=>?_⟩⟩;rw [M (a+b) (by omega) (by omega)];obtain ⟨d,hdd⟩:∃ d,(a+b) / 2=d:=⟨_,rfl⟩;have hdr:a< d/\d< b:=by omega
 rw [hdd];refine ⟨by unfold aB;omega,cK.intro (λk=>(d< m/\k.1.1=d+m - b/\k.1.2.1=d)\/(m<=d/\k.1.1=a/\k.1.2.1=m)) (ak (λhq=>⟨by unfold aB;omega,.inl ⟨of_decide_eq_true hq,rfl,rfl⟩⟩) (λhq=>.inr ⟨by have:=of_decide_eq_false hq;omega,rfl,rfl⟩)) ?_⟩;rintro ⟨⟨s0,r0,_⟩,_⟩ hk;simp only at hk ⊢;have hr:r0=min d m/\a<=s0/\s0<=r0:=by omega
 refine ⟨by unfold aB;omega,aK.intro (λi=>i.1.2.1=r0/\s0<=i.1.1/\i.1.1<=r0) (λi=>(r0 - i.1.1).toNat) ⟨rfl,bh _,hr.2.2⟩ ?_⟩;rintro ⟨⟨s,r,_⟩,_⟩ ⟨h1,h2,h3⟩;simp only at h1 h2 h3 ⊢;subst h1;refine ak (λhq=>?_) (λhq=>?_)
 .have hq:s< r:=of_decide_eq_true hq;refine ⟨by unfold aB;omega,λ_=>⟨by decide,λ_ _=>?_⟩⟩;rw [M (s+r) (by omega) (by omega)];have p1:=hs.at (i:=(s+r) / 2) (by omega) (by omega);have p2:=hs.at (i:=d+m - 1 - (s+r) / 2) (by omega) (by omega);have p3:=hs.ord ((s+r) / 2) (d+m - 1 - (s+r) / 2) (by omega) (by omega) (by omega);refine ⟨by unfold aB;omega,by omega,by omega,λ_=>⟨by omega,by omega,λ_=>⟨p2,p1,by trivial,λ_=>ak (λ_=>⟨by unfold aB;omega,⟨by trivial,by omega,by omega⟩,by omega⟩) (λq=>?_)⟩⟩⟩;rw [decide_eq_false p3] at q;cases q
 .have hq:¬s< r:=of_decide_eq_false hq;obtain rfl:s=r:=by omega
  have go1:∀ hh:s< d,br (decide (a< s)) (br (decide (s< d)) True True) True:=λ_=>ak (λ_=>ak (λ_=>trivial) (λ_=>trivial)) (λ_=>trivial);refine ⟨by unfold aB;omega,?_⟩
  repeat' (first| exact h| exact hs| exact rfl| refine ak (λq=>?_) (λq=>?_)| apply And.intro| intro _)
  all_goals (simp only [decide_eq_true_eq,decide_eq_false_iff_not] at*)
  all_goals omega
theorem KF:∀ (n:Nat) args H Q,mQ n args H Q->Wp Inv cg 240 args H Q
 | 0=>by
  intro args H Q h;unfold mQ at h;split at h
  .split at h
   omega;cases h
  .cases h
 | n+1=>O0 n (KF n)
def WH:Ct:=mQ 100000
theorem UW:cq 240 WH:=KF 100000
def Oj:Ct
 | [.v (.c cx),.v (.c (.k (.int .i64 m))),.v (.c (.fn 177 [.p 0 0]))],[.cells 22 [.d (.pair (.sl .str) (.pair (.int .i64) (.pair (.int .i64) (.pair (.pair (.int .i64) (.pair (.int .i64) (.pair (.int .i64) .unit))) (.pair (.sl .u8) (.pair .str (.pair (.sl (.pair .str (.pair (.sl .u8) .unit))) (.pair .bool .unit)))))))) L]],Q=>(match (Ty.sl (Ty.int .i64)).of [cx] with
  | some (x,[])=>nO L x/\m=x.length/\x.length<=100000/\Q .tV [.cells 22 [.d noTy L]]
  | _=>False)
 | _,_,_=>False
def acI:=(acK.add KG).add UW
abbrev PC (y0:List bc) (y1:List ((Ty.int .i64)).den) (y2) (y3) (y4:Int) (R:Prop):=nO y0 y1/\(0<=y2/\y2< y2+y3/\y2+y3< y4/\y4<=(ay y1))/\y4 - y2<=(↑(100000:Nat):Int)/\List.length y1<=100000/\y0=y0/\R
def Fy (x:(List ((Ty.int .i64)).den)) (m:Int) (L:List bc):dq:=λQ=>ix x (aB .i64 m->aK (λi ag=>br (decide (i.1.2.1<=m)) (nO L x/\(0<=i.1.1/\i.1.1<=(ay x)/\i.1.2.1<=(ay x))/\List.length x<=100000/\L=L/\aB .i64 (i.1.2.1+20)/\ag ((i.1.2.1,i.1.2.1+20, 
 ()),())) (nO L x/\(0<=i.1.1/\i.1.1<=(ay x)/\m<=(ay x))/\List.length x<=100000/\L=L/\aK (λi ag=>br (decide (i.1.1< m)) (aB .i64 (dm*i.1.1)/\aK (λbG ag_1=>br (decide (bG.1.2.1<=m)) (aB .i64 
 (bG.1.1+i.1.1)/\PC L x bG.1.1 i.1.1 bG.1.2.1 (aB .i64 (dm*i.1.1)/\aB .i64 (bG.1.2.1+2*i.1.1)/\ag_1 ((bG.1.2.1,bG.1.2.1+2*i.1.1,()),()))) (aB .i64 (bG.1.1+i.1.1)/\br (decide (bG.1.1+i.1.1< m)) 
 (PC L x bG.1.1 i.1.1 m (aB .i64 (i.1.1*2)/\ag ((i.1.1*2,()),()))) (aB .i64 (i.1.1*2)/\ag ((i.1.1*2,()),())))) ((ah,dm*i.1.1,()),())) (vA Q L)) (((20:Int),()),()))) ((ah,(20:Int),()),()))
theorem XQ:cq 224 Oj:=by
 intro args H Q h;unfold Oj at h;split at h;rotate_left;cases h;rename_i cx m L;split at h;rotate_left;cases h;rename_i x hx;refine Wp.said (args':=[.c (.d (Ty.int .i64) x),.int m,.c (.fn 177 [.p 0 0])]) (λE g=>bA.cE (dI hx) (bA.cE (λ_ h=>h) (bA.cE (λ_ h=>h) (λ_ h=>h)))) ?_;clear hx;refine Wp.dy acI cu ⟨[(3,⟨[(7,.int .i64),(8,.int .i64)],[]⟩),(8,⟨[(6,.int .i64)],[]⟩),(10,⟨[(7,.int .i64),(8,.int .i64)],[]⟩)],[]⟩ Tryz.f224 (Fy x m L) (ro:=[177,239,240]) ?_;unfold Fy vA PC ix ah dm ay;obtain ⟨hs,rfl,hl,h⟩:=h;refine λ_ _=>aK.intro (λi=>0<=i.1.1/\i.1.1<=x.length/\i.1.2.1=i.1.1+20) (λi=>(x.length - i.1.1).toNat) ⟨bh _,by show (0:Int)<=_;omega,rfl⟩ ?_;rintro ⟨⟨a,b,_⟩,_⟩ ⟨h1,h2,h3⟩;simp only at h1 h2 h3 ⊢;refine ak (λhc=>?_) (λhc=>?_)
 .have hc:=of_decide_eq_true hc;exact ⟨hs,⟨by omega,by omega,by omega⟩,hl,by trivial,by unfold aB;omega,⟨by omega,by omega,by trivial⟩,by omega⟩
 refine ⟨hs,⟨by omega,by omega,by omega⟩,hl,by trivial,?_⟩;refine aK.intro (λi=>20<=i.1.1/\i.1.1<=2*(x.length:Int)+20) (λi=>(x.length - i.1.1).toNat) ⟨bh _,by show (20:Int)<=_;omega⟩ ?_;rintro ⟨⟨z,_⟩,_⟩ ⟨h1,h2⟩;simp only at h1 h2 ⊢;refine ak (λhc=>?_) (λ_=>h);have hc:=of_decide_eq_true hc;refine ⟨by unfold aB;omega,aK.intro (λi=>0<=i.1.1/\i.1.1<=x.length/\i.1.2.1=i.1.1+2*z) (λi=>(x.length - i.1.1).toNat) ⟨bh _,by show (0:Int)<=_;omega,by show 2*z=0+2*z;omega⟩ ?_⟩;rintro ⟨⟨a,b,_⟩,_⟩ ⟨k1,k2,k3⟩;simp only at k1 k2 k3 ⊢;refine ak (λhd=>?_) (λhd=>⟨by unfold aB;omega,ak (λhe=>?_) (λhe=>?_)⟩)
 .have hd:=of_decide_eq_true hd;exact ⟨by unfold aB;omega,hs,⟨by omega,by omega,by omega,by omega⟩,by omega,hl,by trivial,by unfold aB;omega,by unfold aB;omega,⟨by omega,by omega,by trivial⟩,by omega⟩
 .have he:=of_decide_eq_true he;exact ⟨hs,⟨by omega,by omega,by omega,by omega⟩,by omega,hl,by trivial,by unfold aB;omega,⟨by omega,by omega⟩,by omega⟩
 .exact ⟨by unfold aB;omega,⟨by omega,by omega⟩,by omega⟩
def Ht:Ct
 | [.v (.c cx),.v (.c (.fn 177 [.p 0 0]))],[.cells 22 [.d (.pair (.sl .str) (.pair (.int .i64) (.pair (.int .i64) (.pair (.pair (.int .i64) (.pair (.int .i64) (.pair (.int .i64) .unit))) (.pair (.sl .u8) (.pair .str (.pair (.sl (.pair .str (.pair (.sl .u8) .unit))) (.pair .bool .unit)))))))) L]],Q=>(match (Ty.sl (Ty.int .i64)).of [cx] with
  | some (x,[])=>nO L x/\x.length<=100000/\Q .tV [.cells 22 [.d noTy L]]
  | _=>False)
 | _,_,_=>False
def alC:=acI.add XQ
def BE (x:(List ((Ty.int .i64)).den)) (L:List bc):dq:=λQ=>ix x (aJ (List.length x)->nO L x/\(ay x)=(ay x)/\List.length x<=100000/\Q (SV.cC []) [.cells 22 [Cl.d noTy L]])
theorem UX:cq 176 Ht:=by
 intro args H Q h;unfold Ht at h;split at h;rotate_left;cases h;rename_i cx L;split at h;rotate_left;cases h;rename_i x hx;refine Wp.said (args':=[.c (.d (Ty.int .i64) x),.c (.fn 177 [.p 0 0])]) (λE g=>bA.cE (dI hx) (bA.cE (λ_ h=>h) (λ_ h=>h))) ?_;clear hx;refine Wp.dy alC cu ⟨[],[]⟩ Tryz.f176 (BE x L) (ro:=[177,239,240]) ?_;unfold BE ix ay aJ
 grind
def aa2:Ct:=cD noTy λl=>cD .str λp=>c0 λQ=>(l.length<=1100/\p.length<=1000/\l.Pairwise λa b=>cmpL a.1 b.1< 0)/\Q (.c (.d (.int .i64) (bU p l 0))) []
def alB:=(gp.add xM).add UX
abbrev yd {A2:Type} (y0) (y1:_->Prop) (y2:A2):=cj y0 (y1 ((y0+1,y2),()))
def R4 (l:(List (noTy).den)) (p:(List (Ty.str).den)):dq:=λQ=>di l (aJ (eG p)->aJ (List.length l)->aK (λi ag=>br (eh i.1.1 l) (dL i.1.1 l (pj l i.1.1 (aJ (eG p)->aB .i64 ((ay p)+1)/\br ((fU l i.1.1)==(ay p)+1) (br (decide ((fU l 
 i.1.1)>(ay p))&& gd (List.take (eG p) (cH l i.1.1).1) p) ((List.length i.1.2.1+List.length [i.1.1])*8<=cd/\List.length i.1.2.1+List.length [i.1.1]<=9223372036854775807/\cj i.1.1 (ag ((i.1.1+1,i.1.2.1++ 
 [i.1.1],()),()))) (yd i.1.1 ag i.1.2)) (yd i.1.1 ag i.1.2)))) (nO l i.1.2.1/\List.length i.1.2.1<=100000/\Q eY [HO.held (3:TypeId) bq i.1.2.1])) ((ah,[],()),()))
theorem aiz:cq 129 aa2:=eI<| iH λl=>iH λp=>gx λQ h=>by
 refine Wp.kE [some (.sl (.int .i64))] [0] ?_;refine Wp.dy alB cu ⟨[(4,⟨[(10,.int .i64),(5,.own 3 (.int .i64))],[]⟩)],[]⟩ Tryz.f129 (R4 l p) (hold:=[176]) ?_;unfold R4 yd eY eG eh dL cH cj pj di cd fU ah ay aJ bq;obtain ⟨⟨hl,hp,hs⟩,h⟩:=h;refine λ_ _ _=>aK.intro (λi=>0<=i.1.1/\i.1.1<=l.length/\i.1.2.1++bU p (l.drop i.1.1.toNat) i.1.1=bU p l 0) (λi=>l.length - i.1.1.toNat) ⟨by simp,by simp,by simp⟩ ?_;rintro ⟨⟨i,o,_⟩,_⟩ ⟨h0,h1,h2⟩;simp only at h0 h1 h2 ⊢;have pL:o.length<=1100:=by
  have e1:=congrArg List.length h2;have e2:=jV p (L:=l) (k:=0);rw [af] at e1;omega
 refine ak (λhc=>?_) (λhc=>?_)
 .have hc:=of_decide_eq_true hc;rw [ixR (e:=noTy) h0 hc,jW] at h2;generalize aA noTy l i=x at*;have no:qh p x=false->(0<=i+1/\i+1<=(l.length:Int)/\o++bU p (l.drop (i+1).toNat) (i+1)=bU p l 0)/\l.length - (i+1).toNat< l.length - i.toNat:=λe=>by
   rw [e] at h2;exact ⟨⟨by omega,by omega,h2⟩,by omega⟩
  refine ⟨h0,hc,λ_ _ _=>⟨by unfold aB;omega,ak (λe1=>ak (λe2=>?_) (λe2=>?_)) (λe1=>?_)⟩⟩
  .have e:qh p x=true:=by unfold qh;rw [e1,e2];rfl
   rw [e,if_pos rfl] at h2
   grind [aB]
  .exact ⟨by unfold aB;omega,no (by unfold qh;rw [e1,e2];rfl)⟩
  .exact ⟨by unfold aB;omega,no (by unfold qh;rw [e1];rfl)⟩
 .have hc:=of_decide_eq_false hc;rw [cX hc] at h2;have h2:o=bU p l 0:=by rw [<-h2];simp [bU]
  subst h2;exact ⟨ZK hs p,by omega,⟨cM _,h⟩⟩
def T6:Ct:=cD noTy λl=>cI λi=>c0 λQ=>(0<=i/\i< (l.length:Int))/\l.length<=1100/\Q (.int (jD l (aA noTy l i).2.1:Nat)) []
abbrev SJ (y0) (y1:List (noTy).den) (y2:Int) (y3) (y4:_->Prop) (y5):=0<=y0/\y0< (ay y1)/\(Ty.ok noTy (cH y1 y0)->0<=y2/\y2< (ay y1)/\(Ty.ok noTy (aA noTy y1 y2)->br ((cH y1 y0).2.1==(aA noTy y1 y2).2.1) (cj y3 (cj y0 (y4 ((y0+1,y3+1,()),())))) (cj y0 (y4 ((y0+1,y5),())))))
def Lq (l:(List (noTy).den)) (i:Int):dq:=λQ=>di l (aB .i64 i->br (cL i) (hU Q) (aJ (List.length l)->br (decide (i≥(ay l))) (hU Q) (aJ (List.length l)->aK (λbG ag=>br (eh bG.1.1 l) (SJ bG.1.1 l i bG.1.2.1 ag bG.1.2) (Q (fC 
 bG.1.2.1) [])) ((ah,ah,()),()))))
theorem adN:cq 81 T6:=eI<| iH λl=>nF λi=>gx λQ h=>by
 refine Wp.dy gp cu ⟨[(6,⟨[(18,.int .i64),(5,.int .i64)],[]⟩)],[]⟩ Tryz.f81 (Lq l i) ?_;unfold Lq hU fC eh cL SJ cH cj di aT aC ah ay aJ;obtain ⟨⟨i0,i1⟩,hl,h⟩:=h;refine λ_ _=>ak (λq=>by have:=of_decide_eq_true q;omega) (λ_=>λ_=>ak (λq=>by have:=of_decide_eq_true q;omega) (λ_=>λ_=>?_));refine aK.intro (λk=>0<=k.1.1/\k.1.1<=l.length/\0<=k.1.2.1/\k.1.2.1+((l.drop k.1.1.toNat).countP (uH (aA noTy l i).2.1):Nat)=(jD l (aA noTy l i).2.1:Nat)) (λk=>l.length - k.1.1.toNat) ⟨by simp,by simp,bh _,by simp [jD]⟩ ?_;rintro ⟨⟨k,c,_⟩,_⟩ ⟨k0,k1,c0,hk⟩;have hle:jD l (aA noTy l i).2.1<=l.length:=List.countP_le_length;refine ak (λhc=>?_) (λhc=>?_)
 .have hc:=of_decide_eq_true hc;rw [ixR (e:=noTy) k0 hc,List.countP_cons] at hk;refine ⟨k0,hc,λ_=>⟨i0,i1,λ_=>ak (λe=>?_) (λe=>?_)⟩⟩
  .have e':uH (aA noTy l i).2.1 (aA noTy l k)=true:=e
   grind [aB]
  .have e':uH (aA noTy l i).2.1 (aA noTy l k)=false:=e;rw [if_neg (by rw [e'];simp)] at hk
   grind [aB]
 simp_all [cX]
end Go.Proofs

