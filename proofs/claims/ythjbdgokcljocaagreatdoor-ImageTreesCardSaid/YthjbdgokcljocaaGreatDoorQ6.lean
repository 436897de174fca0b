/- Texts of mine, laid together: I17 LmZn I18 I19 LmYb LmYc LmYd LmYe LmYf LmYg LmYh LmYi LmYo LmYn LmYq LmYr LmYs LmYt LmYu LmZo LmZp LmZq ShelfJ T1 T2 T3 T4 Cmp LmVze Srt C1 C2. -/
import Derived.Test.YthjbdgokcljocaaGreatDoorQ5
import Derived.Test.YthjbdgokcljocaaGreatDoorQ4
import Derived.Test.YthjbdgokcljocaaGreatDoorProg
import Derived.Test.YthjbdgokcljocaaGreatDoorChecked
import Derived.Test.YthjbdgokcljocaaGreatDoorQ3
import Derived.Sort.Walk0
import Derived.Shelf.Strings.Builder1
import Derived.Shelf.Strings.Builder2
import Derived.Shelf.Strings.OnBuilder
import Derived.Shelf.Small.Bits
import Derived.Shelf.Small.Strs
import Derived.Shelf.Strings.BuilderF
import Derived.Shelf.Strings.BuilderK
import Derived.Shelf.Strings.Builder2Cap
import Derived.Shelf.Strconv.Itoa0
import Derived.Shelf.Strings.Search1
import Derived.Shelf.Sort.Plain
import Derived.Shelf.Strings.BuilderCap
import Derived.Ground.Names2Prog
import Derived.Shelf.Slices.Clone
import Derived.Shelf.Slices.In.SortNone
import Derived.Shelf.Bytes.SlSearch0
import Derived.Ground.SlbCloneProg
import Derived.Shelf.Bytes.SlClone
import Derived.Ground.SlsfProg
import Derived.Shelf.SlSortCmp.Insertion
import Derived.Shelf.Bytes.SlEqualAll
import Derived.Shelf.Bytes.Small
import Derived.Sort.Grow
import Derived.Deep.Draws
import Derived.Shelf.Lay
import Derived.Lib.Walk
import Derived.Handy
import Derived.Deep.LoopGhost
import Derived.Shelf.SlSortCmp.InsertionK
import Derived.Shelf.SlSortCmp.WholeK
import Derived.Shelf.SlSortCmp.NoneTotal
set_option linter.unusedVariables false
open Array renaming getElem?_eq_some_iff → aN, getElem?_eq_getElem → eF, getElem?_toList → lS, getElem?_append_left → qB
open Bool renaming and_eq_true → ak, not_eq_true' → dr, false_eq_true → dS, false_or → eZ, false_and → fg, true_and → j5, true_or → lQ
open Int renaming toNat → ax, le_refl → bB, toNat_natCast → bM, tdiv → gw
open Go.IntKind renaming bits → km, max → mJ
open List renaming length_append → af, getElem?_eq_getElem → ao, replicate → au, length_cons → av, getElem?_eq_some_iff → aw, length_singleton → ay, mem_cons_of_mem → aF, length_take → aH, mem_cons_self → aK, append_assoc → aL, length_nil → aO, length_drop → aQ, take_of_length_le → aT, mem_singleton → aW, mem_append → aX, append_nil → bd, mem_map → bq, mem_cons → bz, eq_nil_of_length_eq_zero → bA, getElem?_append_right → bD, take_succ_eq_append_getElem → bG, range → bL, getElem?_append_left → bN, drop_eq_getElem_cons → bO, length_map → bR, take_append_drop → bX, map_cons → cE, pairwise_iff_getElem → cQ, getElem?_map → dq, getElem_mem → dA, flatten_cons → dD, mem_range → dJ, cons_append → dV, getD_eq_getElem?_getD → ep, mem_iff_getElem → ev, take_length → eK, drop_eq_nil_of_le → eL, drop_drop → eP, drop_append_of_le_length → eT, pairwise_cons → eY, nodup_cons → gj, mem_filter → gk, nodup_append → gx, getElem?_eq_none → hZ, map_append → jc, map_congr_left → jv, filter_eq_self → k9, drop_take → lG, drop_left → lH, pairwise_append → nC, take_take → o9
open Nat renaming le_refl → aG, zero_le → cY, zero_lt_succ → eS, lt_or_ge → eW, le_of_ble_eq_true → eX, zero_add → gC, blt → gP, add_mul → gZ, mul_le_mul_right → j9, min_eq_left → pB
open Option renaming getD → cA, isSome_iff_exists → gV, isSome → oc
open Option.some renaming inj → aj
open Go.Proofs.Tryz renaming prog → bQ
open UInt8 renaming ofNat → az, toNat → cK
noncomputable section
namespace Go.Proofs
open Go Go.Lm Go.RowKit
set_option maxRecDepth 1000000
def abv:Ct:=cD (Ty.sl .u8) λl=>cI λn=>c0 λQ=>1<=n/\Q (.c (.fn 228 [.p 0 0,.p 1 0])) [.cells 129 [.d (.sl .u8) l],.cells 3 [.k (.int .i64 n)]]
def aci:=acj.add adB
def FQ (l:(List ((Ty.sl .u8)).den)) (n:Int):dx:=λQ=>List.length l<=9223372036854775807->aD .i64 n->br (decide (n< 1)) False (Q (SV.v (S1.c (Cl.fn (228:Nat) [.p 0 0,.p 1 0]))) [.cells 129 [Cl.d bC l],.cells 3 [.k (aC n)]])
theorem Ye:cu 198 abv:=eQ<| jm λl=>nG λn=>gM λQ h=>by
 refine Wp.dC aci cC ⟨[],[]⟩ Tryz.f198 (FQ l n) ?_;unfold FQ aC bC
 grind [aq]
def afI:Ct:=cP<| cI λr=>cO λH Q=>match H with
 | [.abs A]=>∃ fs R,RB A fs R/\∃ o:Nat,o<=R.length/\r=(dX fs o:Int)/\∃ (l:List uD) (q:List UInt8),dF l=true/\l≠ []/\R.drop o=xsB l++q/\∀ A',RB A' fs R->Q (.cH [.c (.d cZ l),.c (.k (.int .i64 0))]) [.abs A']
 | _=>False
def Q7:=aci.add Ye
abbrev Cq {A1:Type} (y0) (y1:List A1):=List.take a8 (List.drop (y0*2) y1)
abbrev IJ (y0) (y1):=(gu (aB bC (Cq y0 y1) ah),aB bC (Cq y0 y1) aV,())
def K4 (r:Int) (A:Value->Atom):dx:=λQ=>aD .i64 r->∃ fs R,RB A fs R/\∃ o,o<=List.length R/\r=(↑(dX fs o):Int)/\(ah<=aV/\aV<=(10000000:Int))/\∀ (A':Value->Atom) (z:List UInt8) (nx e:Int),RB A' fs R->py fs R o bH z nx e-> 
 db z (cg nx e (br (e !=0) (Q sU [HO.abs A']) (ah<=ah/\ah< (aA z)/\(kx z (br ((fS z)==0) (Q sU [HO.abs A']) (ah<=ah/\ah< (aA z)/\(kx z (br (decide ((fS z)>iJ)) (Q sU 
 [HO.abs A']) (ah<=ah/\ah< (aA z)/\(kx z (aD .i64 (dw*(fS z))/\∃ fs R,RB A' fs R/\∃ o,o<=List.length R/\nx=(↑(dX fs o):Int)/\∃ ts q,List.drop o R=gl ts++q/\(∀ (t:List UInt8),t∈ts-> 
 List.length t<=255)/\dw*(fS z)=(aA ts)/\List.length ts<=100/\∀ (A':Value->Atom),RB A' fs R->aJ (bw ts)->aD .i64 0->aV<=dw/\(aV<=dw/\dw<=(1000000000:Int))/\List.length ts<=1000000000000/\ 
 aM (λi ag=>br (gP (i.1*2) (bw ts)) (ah<=ah/\ah< (aS (Cq i.1 ts))/\(Ty.ok bC (aB bC (Cq i.1 ts) ah)->ah<=aV/\aV< (aS (Cq i.1 ts))/\(Ty.ok bC (aB bC (Cq i.1 ts) aV) 
 ->(List.length i.2.2.1.1+List.length [(IJ i.1 ts)])*40<=ck/\List.length i.2.2.1.1+List.length [(IJ i.1 ts)]<=9223372036854775807/\ag (i.1+1,(),(i.2.2.1.1++ [(IJ i.1 ts)],()),())))) (br (!dF i.2.2.1.1) (Q 
 sU [HO.abs A']) (Q (SV.cH [S1.c (.o 1),.c (.k aR)]) [HO.abs A',HO.held (96:TypeId) cZ i.2.2.1.1]))) (bx,(),([],()),()))))))))))))
theorem Rc:cu 149 afI:=eQ<| r5<| nG λr=>r6 λH Q h=>by
 split at h;rotate_left;cases h;rename_i A;refine Wp.kC [some (.sl cZ),none] [1] ?_;refine Wp.JL (X:=Q7.v cC [180] (chk:=afA)) Q7.ok ⟨[(10,⟨[],[(1,.cells 36 [.own 96 cZ])]⟩)],[]⟩ (fn:=Tryz.f149) (V:=K4 r A) (by kernel_rfl) (λ_=>by kernel_rfl) ?_ (hch:=TR);unfold K4 kx IJ db sU cg Cq bw ck bZ aR fS ah aV dw iJ aS aA aJ bx bH a8 bC;obtain ⟨fs,R,hR,o,ho,rfl,l,q,hx,jb,hd,h⟩:=h;obtain ⟨hm,hl8⟩:=ml hx;have hle:=HP hm;have hn0:=List.length_pos_iff.2 jb;have hd:R.drop o=az l.length::(gl (pC l)++q):=by rw [hd];unfold xsB;rw [show aI 1 l.length= [az (l.length % 256)] from rfl,Nat.mod_eq_of_lt (by omega)];rfl
 have hRl:=congrArg List.length hd;rw [aQ,av] at hRl;refine λ_=>⟨fs,R,hR,o,ho,rfl,⟨by decide,by decide⟩,λA' z nx e hR hz _ _ _=>?_⟩;obtain ⟨rfl,rfl,rfl⟩:=hz.ok (by omega);rw [hd];have hu:(aB .u8 (List.take 1 (az l.length::(gl (pC l)++q))) 0).toNat=l.length:=YM (by omega);have h1:(List.take 1 (az l.length::(gl (pC l)++q))).length=1:=rfl;rw [hu,h1];refine aq (λhc=>by cases hc) (λ_=>⟨by decide,by decide,λ_=>aq (λhc=>?_) (λ_=>⟨by decide,by decide,λ_=>aq (λhc=>?_) (λ_=>⟨by decide,by decide,λ_=>⟨by unfold aD;omega,fs,R,hR,o+1,by omega,rfl,pC l,q,?_,hle,?_,?_,λA' hR _ _=>⟨by decide,?_⟩⟩⟩)⟩)⟩)
 .have hc:(l.length:Int)=0:=eq_of_beq hc;omega
 .have hc:(l.length:Int)>8:=of_decide_eq_true hc;omega
 .rw [<-eP,hd];rfl
 .rw [oh];omega
 .rw [oh];omega
 refine ⟨⟨by decide,by decide⟩,by rw [oh];omega,aM.intro (λi=>i.1<=l.length/\i.2.2.1.1=l.take i.1) (λi=>l.length - i.1) ⟨cY _,rfl⟩ ?_⟩;rintro ⟨k,_,⟨out,_⟩,_⟩ ⟨hk,ho⟩;simp only at hk ho ⊢;subst ho;rw [oh];refine aq (λhc=>?_) (λhc=>?_)
 .have fD:k< l.length:=by have:=eX hc;omega
  have hp:=EJ fD;rw [hp];have e2:l.take k++ [(gu (l[k]).1.data.toList,(l[k]).2.1,())]=l.take (k+1):=by
   rw [zr,bG fD]
  refine ⟨by decide,by show (0:Int)< 2;decide,λ_=>⟨by decide,by show (1:Int)< 2;decide,λ_=>⟨?_,?_,⟨fD,e2⟩,by omega⟩⟩⟩;rw [aH,ay];omega;rw [aH,ay];omega
 .have hge:l.length<=k:=by
   rcases eW k l.length with z| z
   .have:gP (k*2) (2*l.length)=true:=Nat.ble_eq_true_of_le (by omega);rw [this] at hc;cases hc
   .exact z
  rw [aT hge,hx];exact aq (λq=>by cases q) (λ_=>⟨by show 1<=2;decide,h A' hR⟩)
end Go.Proofs

namespace Go.Lm
open Go
def zu (b:List UInt8):List UInt8:=if (b.dropWhile (· ==0)).length=0 then [] else b
theorem abF (b:List UInt8):(zu b).length<=b.length:=by grind [zu]
theorem abD {b:List UInt8} (h:(((b.dropWhile (· ==0)).length:Int)==0)=true):zu b= []:=by
 grind [zu]
theorem abE {b:List UInt8} (h:(((b.dropWhile (· ==0)).length:Int)==0)=false):zu b=b:=by
 grind [zu]
theorem anR {b:List UInt8} (h:(b.dropWhile (· ==0)).length=0):b=au b.length 0:=by
 induction b with
 | nil=>rfl
 | cons z r ih=>
  grind [List.dropWhile_cons_of_pos, List.dropWhile_cons_of_neg]
theorem WW {b:List UInt8}:(zu b= []/\b=au b.length 0)\/(zu b=b):=by
 unfold zu;split
 .rename_i h;exact .inl ⟨rfl,anR h⟩
 grind
structure zE (T:List Int) (x:List UInt8) (fs:List (List UInt8)):Prop where
 fr:∀ (k:Nat) z,fs[k]?=some z->Ea T (zu (k7 x k)) z
theorem zE.nil (T:List Int) (x:List UInt8):zE T x []:=⟨by grind⟩
theorem zE.step {T:List Int} {x z:List UInt8} {fs:List (List UInt8)} (h:zE T x fs) (hz:Ea T (zu (k7 x fs.length)) z):zE T x (fs++ [z]):=⟨λk q hk=>by
 rcases eW k fs.length with hl| hl
 .rw [bN hl] at hk;exact h.fr k q hk
 grind⟩
theorem zE.len {T:List Int} {x:List UInt8} {fs:List (List UInt8)} (h:zE T x fs):3*fs.length<=fs.flatten.length/\fs.flatten.length<=135*fs.length:=by
 have key:∀ n:Nat,n<=fs.length->3*n<=fB fs n/\fB fs n<=135*n:=by
  intro n
  induction n with
  | zero=>intro _;exact ⟨cY _,aG _⟩
  | succ n ih=>
   intro hn;have hf:=(h.fr n fs[n] (by grind)).len
   grind [abF, rB, n9]
 grind [qx]
theorem WX {x:List UInt8} {n k:Nat} (h:k< n):k7 (x.take (128*n)) k=k7 x k:=by
 grind [k7, lG]
structure UF (T:List Int) (b:List UInt8) (o:Nat) (x:List UInt8):Prop where
 ex:∃ fs r,fs.length=x.length / 128/\zE T x fs/\b.drop o=fs.flatten++r/\o<=b.length
theorem UF.app {T:List Int} {b:List UInt8} {o:Nat} {x:List UInt8} (h:UF T b o x) (c:List UInt8):UF T (b++c) o x:=by
 obtain ⟨fs,r,h1,h2,h3,h4⟩:=h;exact ⟨fs,r++c,h1,h2,by grind,by grind⟩
structure DW (first:Int) (b:List UInt8) (M:List (ByteArray×Int)):Prop where
 all:∀ p∈M,∃ o:Nat,p.2=first+o/\∃ r,b.drop o=p.1.data.toList++r/\o<=b.length
theorem DW.app {first:Int} {b:List UInt8} {M:List (ByteArray×Int)} (h:DW first b M) (c:List UInt8):DW first (b++c) M:=⟨λp hp=>by
 obtain ⟨o,h1,r,h2,h3⟩:=h.all p hp;exact ⟨o,h1,r++c,by grind,by grind⟩⟩
theorem DW.put {first:Int} {b c:List UInt8} {M:List (ByteArray×Int)} (h:DW first b M):DW first (b++c) (Kk.put .str M (gu c) (first+b.length)):=⟨λp hp=>by
 rcases bz.1 hp with rfl| hp;exact ⟨b.length,rfl,[],by grind [Oy],by grind⟩
 .exact (h.app c).all p (gk.1 hp).1⟩
theorem DW.get {first:Int} {b c:List UInt8} {M:List (ByteArray×Int)} (h:DW first b M) {v:Int} (hg:Kk.get .str M (gu c)=some v):∃ o:Nat,v=first+o/\∃ r,b.drop o=c++r/\o<=b.length:=by
 have:=h.all _ (oT (κ:=ByteArray) hg)
 assumption
structure zD (T:List Int) (first:Int) (b:List UInt8) (st:Int) (x:List UInt8):Prop where
 or:(x.length< 128/\st=0)\/(128<=x.length/\∃ o:Nat,st=first+o/\UF T b o x)
theorem zD.app {T:List Int} {first:Int} {b:List UInt8} {st:Int} {x:List UInt8} (h:zD T first b st x) (c:List UInt8):zD T first (b++c) st x:=⟨by
 rcases h.or with h| ⟨h1,o,h2,h3⟩;omega
 .exact .inr ⟨h1,o,h2,h3.app c⟩⟩
structure D9 (T:List Int) (im:List UInt8) (st:Int) (x:List UInt8) (fs:List (List UInt8)):Prop where
 len:fs.length=x.length / 128
 fr:zE T x fs
 st0:0<=st
 st1:st<=im.length
 at':∃ r,im.drop st.toNat=fs.flatten++r
theorem D9.le {T:List Int} {im:List UInt8} {st:Int} {x:List UInt8} {fs:List (List UInt8)} (h:D9 T im st x fs):st+fs.flatten.length<=im.length:=by
 obtain ⟨r,hr⟩:=h.at';have:=congrArg List.length hr;rw [aQ,af] at this;have:=h.st1;omega
theorem D9.at {T:List Int} {im:List UInt8} {st:Int} {x:List UInt8} {fs:List (List UInt8)} (h:D9 T im st x fs) {k:Nat} (hk:k< x.length / 128):EG T im (st+fB fs k) (zu (k7 x k)) (st+fB fs (k+1))/\fB fs (k+1)<=fs.flatten.length:=by
 have r8:k< fs.length:=by rw [h.len];exact hk
 have h0:=h.st0;have hl:=h.le;obtain ⟨r,hr⟩:=h.at';have Dg:fs.flatten=(fs.take k).flatten++(fs[k]++(fs.drop (k+1)).flatten):=by
  grind [bX, bO]
 have hs:=n9 r8;have hle:fB fs (k+1)<=fs.flatten.length:=by
  simp_all [fB]
 refine ⟨⟨by omega,by omega,fs[k],(fs.drop (k+1)).flatten++r,h.fr.fr k _ (ao r8),?_,by omega⟩,hle⟩;rw [show (st+(fB fs k:Int)).toNat=st.toNat+fB fs k by omega,<-eP,hr,Dg,aL,aL];exact lH
theorem VI {x:List UInt8} {off m k:Nat} (ho:off< 128*(k+1)) (hm:128*k - off< m) (hx:128*(k+1)<=x.length):(x.drop off).take (min m (128*k - off))++((k7 x k).drop (off - 128*k)).take (min ((k7 x k).length - (off - 128*k)) (m - (min m (128*k - off))))=(x.drop off).take (min m (128*(k+1) - off)):=by
 have hb:(k7 x k).length=128:=by grind [rB]
 rw [hb,Nat.min_eq_right (Nat.le_of_lt hm)];have e:((k7 x k).drop (off - 128*k)).take (min (128 - (off - 128*k)) (m - (128*k - off)))=(x.drop (off+(128*k - off))).take (min (128 - (off - 128*k)) (m - (128*k - off))):=by
  unfold k7;rw [lG,eP,o9,pB (Nat.le_trans (Nat.min_le_left _ _) (aG _)),show 128*k+(off - 128*k)=off+(128*k - off) by omega]
 rw [e,MX]
 grind
theorem AS (n:Nat):gw (n:Int) 128=((n / 128:Nat):Int):=by rfl
theorem gH {e:Ty} {l:List e.den} {k:Nat} (h:k< l.length):aB e l (k:Int)=l[k]:=by
 grind [aB]
theorem nv:∀ {ls:List Nat} {n:Nat},ls.all (λl=>gP l n)=true->∀ l∈ls,l< n:=by simp
theorem MT (M:List (ByteArray×Int)) (k:ByteArray) (v:Int):(Kk.put .str M k v:List (ByteArray×Int)).length<=M.length+1:=by
 show (_::List.filter _ M).length<=_
 grind
def oV (row:List UInt8) (bg:List Int) (i:Nat):Int:=(bg[i+1]?).getD row.length
structure AQ (row:List UInt8) (bg:List Int):Prop where
 all:∀ (i:Nat) a,bg[i]?=some a->0<=a/\a< oV row bg i/\oV row bg i<=a+128/\oV row bg i<=row.length
theorem AQ.nil:AQ [] []:=⟨λ_ _ h=>by simp at h⟩
structure o5 (row:List UInt8) (bg:List Int) (nu off:Int) (t:List UInt8):Prop where
 or:(t= []/\nu=0/\off=0)\/(0< t.length/\t.length< 128/\0<=off/\∃ (i:Nat) (a:Int),nu=(i:Int)+1/\bg[i]?=some a/\a+off+t.length<=oV row bg i/\(row.drop (a+off).toNat).take t.length=t)
theorem TK {row:List UInt8} {bg:List Int} {i:Nat} (h:i+1< bg.length) (lf:List UInt8) (c:List Int):oV lf (bg++c) i=oV row bg i:=by
 grind [oV]
theorem qu {row:List UInt8} {bg:List Int} {i:Nat} (h:bg.length=i+1):oV row bg i=row.length:=by
 grind [oV]
theorem AQ.more {row t:List UInt8} {bg:List Int} {n:Nat} {a:Int} (h:AQ row bg) (hn:bg.length=n+1) (ha:bg[n]?=some a) (ht:0< t.length) (ht2:t.length< 128) (hl:(row.length:Int) - a+t.length<=128):AQ (row++t) bg/\o5 (row++t) bg ((n:Int)+1) ((row.length:Int) - a) t/\∀ nu off u,o5 row bg nu off u->o5 (row++t) bg nu off u:=by
 have key:∀ (i:Nat) b,bg[i]?=some b->oV (row++t) bg i=(if i=n then ((row++t).length:Int) else oV row bg i):=λi b hi=>by
  have fD:=(aw.1 hi).1;split
  .rename_i e;subst e;exact qu hn
  .have:=TK (row:=row) (bg:=bg) (i:=i) (by omega) (row++t) [];rw [bd] at this;exact this
 have hn0:=h.all n a ha;refine ⟨⟨λi b hi=>?_⟩,⟨.inr ⟨ht,ht2,by omega,n,a,rfl,ha,?_,?_⟩⟩,λnu off u hu=>⟨?_⟩⟩
 .have:=h.all i b hi;rw [key i b hi,af];split
  .rename_i e;subst e;rw [ha] at hi;obtain rfl:=aj hi;omega
  .omega
 .rw [key n a ha,if_pos rfl,af];omega
 .rw [show (a+((row.length:Int) - a)).toNat=row.length by omega,lH,eK]
 .rcases hu.or with hu| ⟨u1,u2,u3,i,b,u4,u5,u6,u7⟩
  .exact .inl hu
  .have hb:=h.all i b u5;refine .inr ⟨u1,u2,u3,i,b,u4,u5,?_,?_⟩
   .rw [key i b u5,af];split
    .omega
    .exact u6
   .rw [eT (by omega),List.take_append_of_le_length (by rw [aQ];omega)];exact u7
theorem AQ.next {row t:List UInt8} {bg:List Int} (h:AQ row bg) (ht:0< t.length) (ht2:t.length< 128):AQ (row++t) (bg++ [(row.length:Int)])/\o5 (row++t) (bg++ [(row.length:Int)]) ((bg.length:Int)+1) 0 t/\∀ nu off u,o5 row bg nu off u->o5 (row++t) (bg++ [(row.length:Int)]) nu off u:=by
 have key:∀ (i:Nat),i< bg.length->oV (row++t) (bg++ [(row.length:Int)]) i=oV row bg i:=λi hi=>by
  rcases eW (i+1) bg.length with hl| hl;exact TK hl _ _
  .have e:bg.length=i+1:=by omega
   rw [qu e];unfold oV;rw [bD (by omega),show i+1 - bg.length=0 by omega];rfl
 have ND:oV (row++t) (bg++ [(row.length:Int)]) bg.length=(row++t).length:=qu (by simp);have NC:(bg++ [(row.length:Int)])[bg.length]?=some (row.length:Int):=by simp
 refine ⟨⟨λi b hi=>?_⟩,⟨.inr ⟨ht,ht2,bB _,bg.length,row.length,rfl,NC,?_,?_⟩⟩,λnu off u hu=>⟨?_⟩⟩
 .rcases eW i bg.length with hl| hl
  .rw [bN hl] at hi;have:=h.all i b hi;rw [key i hl,af];omega
  .have fD:=(aw.1 hi).1;rw [af,ay] at fD;obtain rfl:i=bg.length:=by omega
   rw [NC] at hi;obtain rfl:=aj hi;rw [ND,af];omega
 .rw [ND,af];omega
 .rw [Int.add_zero,bM,lH,eK]
 .rcases hu.or with hu| ⟨u1,u2,u3,i,b,u4,u5,u6,u7⟩
  .exact .inl hu
  .have hb:=h.all i b u5;have fD:=(aw.1 u5).1;refine .inr ⟨u1,u2,u3,i,b,u4,by rw [bN fD];exact u5,by rw [key i fD];exact u6,?_⟩;rw [eT (by omega),List.take_append_of_le_length (by rw [aQ];omega)];exact u7
def lP (row:List UInt8) (bg:List Int) (n:Nat):List (List UInt8):=(bL n).map λi=>(row.drop ((bg[i]?).getD 0).toNat).take (oV row bg i - (bg[i]?).getD 0).toNat
theorem QV (row:List UInt8) (bg:List Int) (n:Nat):lP row bg (n+1)=lP row bg n++ [(row.drop ((bg[n]?).getD 0).toNat).take (oV row bg n - (bg[n]?).getD 0).toNat]:=by
 grind [lP, List.range_succ]
theorem qw (row:List UInt8) (bg:List Int) (n:Nat):(lP row bg n).length=n:=by grind [lP]
theorem o5.pd {row t:List UInt8} {bg:List Int} {nu off:Int} (h:o5 row bg nu off t) (hf:AQ row bg) (ht:0< t.length):0<=off/\∃ (i:Nat) (z:List UInt8),nu=(i:Int)+1/\i< bg.length/\(lP row bg bg.length)[i]?=some z/\0< z.length/\z.length<=128/\off+t.length<=z.length/\(z.drop off.toNat).take t.length=t:=by
 rcases h.or with ⟨rfl,_⟩| ⟨u1,u2,u3,i,b,u4,u5,u6,u7⟩;cases ht;have hb:=hf.all i b u5;have fD:=(aw.1 u5).1;refine ⟨u3,i,_,u4,fD,by unfold lP;rw [dq,List.getElem?_range fD,Option.map_some,u5],?_,?_,?_,?_⟩
 .grind
 .grind
 .grind
 .rw [show (some b).getD 0=b from rfl,lG,eP,o9,pB (by omega),show b.toNat+off.toNat=(b+off).toNat by omega];exact u7
theorem WV {row:List UInt8} {bg:List Int} (hf:AQ row bg):∀ z∈lP row bg bg.length,0< z.length/\z.length<=128:=λz hz=>by
 obtain ⟨i,hi,rfl⟩:=bq.1 hz;have hi:=dJ.1 hi;have hb:=hf.all i bg[i] (ao hi)
 grind
end Go.Lm

namespace Go.Proofs
open Go Go.Lm Go.RowKit
set_option maxRecDepth 1000000
def aaW:Ct:=cD .u8 λx=>cB λc=>c0 λQ=>c=0/\Q (.c (.d .u8 (x.dropWhile (· ==0)))) []
def ach:=Q7.add Rc
abbrev Px (y0) (y1:SV->List HO->Prop):=aJ (bw y0)->br ((aS y0)==0) (y1 fE []) (y1 (SV.v (S1.c (Cl.d Ty.u8 y0))) [])
def Fc (x:(List (Ty.u8).den)) (c:Int):dx:=λQ=>cU x (aD .u8 c->aM (λi ag=>fC i.1.1 (br (decide ((aS i.1.1)>ah)) (ah<=ah/\ah< (aS i.1.1)/\(kx i.1.1 (br ((fS i.1.1)==c) (ah<=aV/\aV<=(aS i.1.1)/\ag ((List.drop 1 
 i.1.1,()),())) (Px i.1.1 Q)))) (Px i.1.1 Q))) ((x,()),()))
theorem XC:cu 219 aaW:=eQ<| jm λx=>okB λc=>gM λQ h=>by
 refine Wp.kC [some (.sl .u8)] [] ?_;refine Wp.dC ach cC ⟨[(2,⟨[(0,.d .u8)],[]⟩)],[]⟩ Tryz.f219 (Fc x c) ?_;unfold Fc kx Px fE fC bw cU bZ fS ah aV aS aJ;obtain ⟨rfl,h⟩:=h;have fin:∀ y:List UInt8,y.dropWhile (· ==0)=x.dropWhile (· ==0)->(y= []\/∃ z r,y=z::r/\z≠0)->y=x.dropWhile (· ==0):=λy h1 h2=>by
  rcases h2 with rfl| ⟨z,r,rfl,hz⟩;exact h1;rw [<-h1,List.dropWhile_cons_of_neg (by simpa using hz)]
 refine λ_ _=>aM.intro (λi=>i.1.1.dropWhile (· ==0)=x.dropWhile (· ==0)) (λi=>i.1.1.length) rfl ?_;rintro ⟨⟨y,_⟩,_⟩ hy;refine λ_=>aq (λhc=>?_) (λhc=>λ_=>?_)
 .have hc:(y.length:Int)>0:=of_decide_eq_true hc;cases y with
  | nil=>simp at hc
  | cons z r=>
   refine ⟨by decide,hc,λ_=>aq (λhz=>?_) (λhz=>λ_=>?_)⟩
   .have hz:(z.toNat:Int)=0:=eq_of_beq hz;have hz:z=0:=by
     have:z.toNat=0:=by omega
     exact UInt8.toNat_inj.1 this
    subst hz;exact ⟨by decide,by simp only [av];omega,hy,by simp⟩
   .have hz:z≠0:=λe=>by subst e;cases hz
    have e:=fin _ hy (.inr ⟨z,r,rfl,hz⟩);refine aq (λq=>?_) (λ_=>⟨aG _,by rw [e];exact h⟩);have:(((z::r).length:Nat):Int)=0:=eq_of_beq q;omega
 .have hc:¬(y.length:Int)>0:=of_decide_eq_false hc;obtain rfl:y= []:=bA (by omega);have e:=fin _ hy (.inl rfl);refine aq (λ_=>⟨aG _,?_⟩) (λq=>by cases q);rw [<-e] at h;exact h
def afG:Ct:=cD .u8 λx=>cS λs=>c0 λQ=>s=⟨#[0]⟩/\Q (.c (.d .u8 (x.dropWhile (· ==0)))) []
def acg:=ach.add XC
abbrev CA:=λx=>x==eD
abbrev vh (y0:List (Ty.u8).den):=List.dropWhile CA y0
def K1 (x:(List (Ty.u8).den)) (s:ByteArray):dx:=λQ=>cU x (du s (aJ (dy x)->br ((aA x)==0) (Q fE []) (br (qI s) (Q (SV.v (S1.c (Cl.d Ty.u8 x))) []) (br ((gY s)==1) (ah<=ah/\ah< (gY s)/\br (decide ((↑(cK (jj s ah)): 
 Int)< bF)) (ah<=ah/\ah< (gY s)/\(↑(cK (jj s ah)):Int)=ah/\(aJ (List.length (vh x))->Q (SV.v (S1.c (Cl.d Ty.u8 (vh x)))) [])) False) False))))
theorem adA:cu 174 afG:=eQ<| jm λx=>ZA λs=>gM λQ h=>by
 refine Wp.kC [some (.sl .u8)] [] ?_;refine Wp.dC acg cC ⟨[],[]⟩ Tryz.f174 (K1 x s) ?_;unfold K1 qI vh CA dy fE du gY eD cU bZ ah bF aA aJ;obtain ⟨rfl,h⟩:=h;refine λ_ _ _=>aq (λhc=>⟨aG _,?_⟩) (λ_=>aq (λq=>absurd q (by decide+kernel)) (λ_=>aq (λ_=>⟨by decide,by decide,aq (λ_=>⟨by decide,by decide,by decide+kernel,λ_=>⟨aG _,h⟩⟩) (by decide)⟩) (by decide)));obtain rfl:x= []:=by simp_all
 exact h
def akP:Ct:=cD .u8 λx=>c0 λQ=>Q (.bool (((x.dropWhile (· ==0)).length:Int)==0)) []
def acf:=acg.add adA
def Sa (x:(List (Ty.u8).den)):dx:=λQ=>cU x (ByteArray.mk #[(0:UInt8)]=ByteArray.mk #[(0:UInt8)]/\(aJ (List.length (vh x))->aJ (List.length (vh x))->Q (.v (.c (.k (.bool ((aS (vh x))==0))))) []))
theorem aiK:cu 128 akP:=eQ<| jm λx=>gM λQ h=>by
 refine Wp.dC acf cC ⟨[],[]⟩ Tryz.f128 (Sa x) ?_;unfold Sa vh CA eD cU aS aJ
 grind
def abA:Ct
 | [.v (.c (.o 0))],[.sl 5 .u8 x],Q=>x.length<=140737488355328/\Q (.c (.d .u8 x)) [.sl 5 .u8 x]
 | _,_,_=>False
def Q6:=acf.add aiK
def YE (x:List UInt8):dx:=λQ=>∀ (c:Bool),(c=true->x= [])->br (j8 c) (Q fE [.sl 5 Ty.u8 x]) (IL x Q)
theorem agq:cu 72 abA:=by
 intro args H Q h;unfold abA at h;split at h;rotate_left;cases h;rename_i x;refine Wp.Jc (e:=.u8) ?_;refine Wp.dC Q6 cC ⟨[],[]⟩ Tryz.f72 (YE x) ?_;unfold YE IL j8 fE ck bZ;obtain ⟨hl,h⟩:=h;refine λc hc=>aq (λhb=>.inr (.inl ⟨rfl,?_⟩)) (λhb=>⟨by omega,by omega,.inr (.inr ⟨1,5,x,rfl,aG 1,rfl,h⟩)⟩)
 grind
def ahk:Ct:=cD .u8 λx=>c0 λQ=>x.length<=140737488355328/\Q (.c (.d .u8 x)) []
def ale:=Q6.add agq
def YF (x:(List (Ty.u8).den)):dx:=λQ=>cU x (Aa x Q)
theorem amC:cu 72 ahk:=eQ<| jm λx=>gM λQ h=>by
 refine Wp.Jc (e:=.u8) ?_;refine Wp.dC ale cC ⟨[],[]⟩ Tryz.f72 (YF x) ?_;unfold YF Aa ck cU bZ;refine λ_ c hc=>aq (λhb=>.inr (.inl ⟨rfl,?_⟩)) (by grind)
 grind
def aob:Ct:=λargs H Q=>match H with
 | []=>ahk args H Q
 | [_]=>abA args H Q
 | _=>False
theorem apg:cu 72 aob:=λargs H Q h=>by
 unfold aob at h
 grind [amC, agq]
def Uk:Ct:=cT λT=>cI λfi=>c0 λQ=>Q (.c (.p 0 0)) [.cells 157 [.de (.int .u32) T 0 0,.k (.int .i64 fi),.o 2,.m 1],.map 9 .str (.int .i64) [],.sl 5 .u8 []]
def ace:=Q6.add apg
def LK (T:List Int) (fi:Int):dx:=λQ=>aD .i64 fi->Q (SV.v (S1.c (.p 0 0))) [.cells 157 [Cl.de (.int .u32) T ah bx,.k (aC fi),.k bZ,Cl.m bH],HO.map iI Kk.str bo []]
theorem Rq:cu 49 Uk:=eQ<| okT λT=>nG λfi=>gM λQ h=>by
 refine (λhh=>Wp.xt (p:=0) (t:=157) (tt:=5) (e:=.u8) hh) ?_;refine Wp.dC ace cC ⟨[],[]⟩ Tryz.f49 (LK T fi) ?_;unfold LK bZ aC ah bx bH iI bo;exact λ_=>⟨[_,_],[_],rfl,h⟩
def Ht:Ct:=cP<| cD .u8 λx=>cO λH Q=>match H with
 | [.cells 157 [.de (.int .u32) T 0 0,.k (.int .i64 fi),.o 1,.m 2],.sl 5 .u8 b,.map 9 .str (.int .i64) M]=>T.length=256/\x.length<=128/\(0<=fi/\fi<=1000000)/\b.length<=100000000/\∀ z,Ea T x z->Q (.c (.k (.int .i64 (fi+b.length)))) [.cells 157 [.de (.int .u32) T 0 0,.k (.int .i64 fi),.o 3,.m 2],.gone,.map 9 .str (.int .i64) M,.sl 5 .u8 (b++z)]
 | _=>False
def acd:=ace.add Rq
abbrev Iw (y0:List UInt8) (y1:List UInt8) (R:Prop):=(List.length y0+List.length y1)*1<=ck/\List.length y0+List.length y1<=9223372036854775807/\R
def BK (x:(List (Ty.u8).den)) (T:List Int) (fi:Int) (b:List UInt8) (M:(List (ByteArray×Int))):dx:=λQ=>cU x (dQ T (List.length x<=128/\∀ (xK:List UInt8),Ea T x xK->db xK (aD .i64 0->db b (aD .i64 (fi+(aA b))/\Iw b xK (Q (.v (.c (.k (.int .i64 (fi+(aA b)))))) [.cells 157 [Cl.de 
 (.int .u32) T ah bx,.k (aC fi),.o 3,Cl.m a8],.gone,kB M,.sl 5 Ty.u8 (b++xK)])))))
theorem E7:cu 79 Ht:=eQ<| r5<| jm λx=>r6 λH Q h=>by
 split at h;rotate_left;cases h;rename_i T fi b M;refine Wp.dC acd cC ⟨[],[]⟩ Tryz.f79 (BK x T fi b M) ?_;unfold BK Iw db dQ ck cU aC ah aA aJ bx a8 bI kB;obtain ⟨hT,hx,⟨f0,f1⟩,hb,h⟩:=h;exact λ_=>⟨hT,hx,λz hz _ _ _=>⟨by grind [aD],by have:=hz.len.2;omega,by have:=hz.len.2;omega,h z hz⟩⟩
def Ou:Ct:=cP<| cO λH Q=>match H with
 | [.cells 157 [.de (.int .u32) T 0 0,.k (.int .i64 fi),.o 1,.m 2],.sl 5 .u8 b,.map 9 .str (.int .i64) M]=>b.length<=100000000/\Q (.c (.d .u8 b)) [.gone,.gone,.gone]
 | _=>False
def acb:=acd.add E7
def FK (T:List Int) (fi:Int) (b:List UInt8) (M:(List (ByteArray×Int))):dx:=λQ=>List.length b<=140737488355328/\(db b (Q (SV.v (S1.c (Cl.d Ty.u8 b))) [.cells 157 [Cl.de (.int .u32) T ah bx,.k (aC fi),.o 1,Cl.m a8],.sl 5 Ty.u8 b,kB M]))
theorem KP:cu 56 Ou:=eQ<| r5<| r6 λH Q h=>by
 split at h;rotate_left;cases h;rename_i T fi b M;refine Wp.agK ?_;refine Wp.dC acb cC ⟨[],[]⟩ Tryz.f56 (FK T fi b M) ?_;unfold FK db aC ah aJ bx a8 kB
 grind
def af5:Ct:=cD .u8 λim=>cI λst=>cI λsz=>cI λen=>c0 λQ=>im.length<=100000000/\∃ (T:List Int) (x:List UInt8) (fs:List (List UInt8)),D9 T im st x fs/\sz=x.length/\x.length<=4096/\st+fs.flatten.length<=en/\Q (.cH [.c (.k (.int .i64 (st+fs.flatten.length))),.c (.k (.int .i64 0))]) []
def aca:=acb.add KP
def LM (im:(List (Ty.u8).den)) (st sz en:Int):dx:=λQ=>cU im (cz st sz en (br (cV sz) (Q (.cH [.c (.k aR),.c (.k (.int .i64 1))]) []) (br (decide (sz>4096)) (Q (.cH [.c (.k aR),.c (.k (.int .i64 1))]) []) (bF≠ah/\aD .i64 (gw sz 
 bF)/\aM (λi ag=>br (decide (i.1.1< gw sz bF)) (∃ p s st nx,iA im (Cut im i.1.2.1 p s st nx/\(aD .i64 nx->aD .i64 0->br (decide (nx>en)) (Q (.cH [.c (.k aR),.c (.k (.int .i64 2))]) []) (cF i.1.1 
 (ag ((i.1.1+1,nx,()),())))))) (Q (.cH [.c (.k (aC i.1.2.1)),.c (.k aR)]) [])) ((ah,st,()),())))))
theorem Rs:cu 150 af5:=eQ<| jm λim=>nG λst=>nG λsz=>nG λen=>gM λQ h=>by
 refine Wp.dC aca cC ⟨[(5,⟨[(20,.int .i64),(1,.int .i64)],[]⟩)],[]⟩ Tryz.f150 (LM im st sz en) ?_;unfold LM iA cV cF cU aR cz aC ah bF;obtain ⟨hl,T,x,fs,hI,rfl,hx,hen,h⟩:=h;rw [AS];refine λ_ _ _ _=>aq (λhc=>absurd (of_decide_eq_true hc) (by omega)) (λ_=>aq (λhc=>absurd (of_decide_eq_true hc) (by omega)) (λ_=>⟨by decide,by unfold aD;omega,?_⟩));refine aM.intro (λi=>∃ k:Nat,k<=x.length / 128/\i.1.1=(k:Int)/\i.1.2.1=st+fB fs k) (λi=>x.length / 128 - i.1.1.toNat) ⟨0,cY _,rfl,by unfold fB;simp⟩ ?_;rintro ⟨⟨i,a,_⟩,_⟩ ⟨k,hk,h1,h2⟩;simp only at h1 h2 ⊢;subst h1 h2;refine aq (λhc=>?_) (λhc=>?_)
 .have hc:(k:Int)< ((x.length / 128:Nat):Int):=of_decide_eq_true hc;obtain ⟨hF,hle⟩:=hI.at (k:=k) (by omega);obtain ⟨p,s,t,hC,_⟩:=hF.cut (zi T 0);exact ⟨p,s,t,_,hl,hC,λ_ _=>aq (λhq=>absurd (of_decide_eq_true hq) (by omega)) (λ_=>⟨by unfold aD;omega,⟨k+1,by omega,by omega,rfl⟩,by omega⟩)⟩
 .have hc:¬(k:Int)< ((x.length / 128:Nat):Int):=of_decide_eq_false hc;obtain rfl:k=x.length / 128:=by omega
  rw [<-hI.len,qx];exact h
def abw:Ct:=cD .u8 λl=>cI λn=>c0 λQ=>1<=n/\Q (.c (.fn 173 [.p 0 0,.p 1 0])) [.cells 35 [.d .u8 l],.cells 3 [.k (.int .i64 n)]]
def UB:=aca.add Rs
def FR (l:(List (Ty.u8).den)) (n:Int):dx:=λQ=>cU l (aD .i64 n->br (decide (n< 1)) False (Q (SV.v (S1.c (Cl.fn (173:Nat) [.p 0 0,.p 1 0]))) [.cells 35 [Cl.d Ty.u8 l],.cells 3 [.k (aC n)]]))
theorem Yf:cu 127 abw:=eQ<| jm λl=>nG λn=>gM λQ h=>by
 refine Wp.dC UB cC ⟨[],[]⟩ Tryz.f127 (FR l n) ?_;unfold FR cU aC
 grind [aq]
def Bc:Ct
 | [.v (.c (.p 0 0)),.v (.c cx)],[.cells 157 [.de (.int .u32) T 0 0,.k (.int .i64 fi),.o 1,.m 2],.sl 5 .u8 b,.map 9 .str (.int .i64) M],Q=>(match (Ty.sl Ty.u8).of [cx] with
  | some (x,[])=>((T.length=256/\x.length<=4096/\DW fi b M)/\((0<=fi/\fi<=1000000)/\b.length<=10000000/\M.length<=100000))/\∀ st b' M',DW fi b' M'->(∃ c,b'=b++c)->zD T fi b' st x->b'.length<=b.length+4320->M'.length<=M.length+1->Q (.cH [.c (.k (.int .i64 st)),.c (.d .u8 (x.drop (128*(x.length / 128))))]) [.cells 157 [.de (.int .u32) T 0 0,.k (.int .i64 fi),.o 1,.m 2],.sl 5 .u8 b',.map 9 .str (.int .i64) M']/\Q (.cH [.c (.k (.int .i64 st)),.c (.d .u8 (x.drop (128*(x.length / 128))))]) [.cells 157 [.de (.int .u32) T 0 0,.k (.int .i64 fi),.o 3,.m 2],.gone,.map 9 .str (.int .i64) M',.sl 5 .u8 b']
  | _=>False)
 | _,_,_=>False
def Kd:=UB.add Yf
abbrev MM {A0:Type} (y0:List A0):=ax (gw (aA y0) bF*128)
abbrev IE {A1:Type} (y0) (y1:List A1):=List.take gd (List.drop (y0*128) (List.take (MM y1) y1))
abbrev qN (y0:List (ByteArray×Int)) (y1:List UInt8):=Kk.get Kk.str y0 (gu y1)
abbrev yg {A0:Type} (y0:List A0):=List.drop (MM y0) y0
def LL (x:(List (Ty.u8).den)) (T:List Int) (fi:Int) (b:List UInt8) (M:(List (ByteArray×Int))):dx:=λQ=>fC x (aJ (bw x)->bF≠ah/\aD .i64 (gw (aA x) bF)/\aD .i64 (gw (aA x) bF*128)/\0<=gw (aA x) bF*128/\gw (aA x) bF*128<=(aA x)/\aV<= 
 bF/\(aV<=bF/\bF<=(1000000000:Int))/\List.length (List.take (MM x) x)<=1000000000000/\aM (λi ag=>br (gP (i.1*128) (List.length (List.take (MM x) x))) (br ((↑(List.length (List.dropWhile CA 
 (IE i.1 x))):Int)==0) (dQ T (bx<=gd/\∀ (x:List UInt8),Ea T [] x->aJ (bw x)->CP i.2.2.1.1 x (ag (i.1+1,(),(i.2.2.1.1++x,()),())))) (dQ T (List.length (IE i.1 x)<=128/\∀ (xK:List UInt8), 
 Ea T (IE i.1 x) xK->db xK (CP i.2.2.1.1 xK (ag (i.1+1,(),(i.2.2.1.1++xK,()),())))))) (0<=gw (aA x) bF*128/\gw (aA x) bF*128<=(aA x)/\fc (List.length (yg x))/\(aJ 
 (List.length (yg x))->aJ (bw i.2.2.1.1)->br ((aS i.2.2.1.1)==0) (Q (.cH [.c (.k aR),S1.c (Cl.d Ty.u8 (yg x))]) [.cells 157 [Cl.de (.int .u32) T ah bx,.k (aC fi),.o 1,Cl.m a8],.sl 5 Ty.u8 b,kB M]) 
 (Ty.ok bo (cA (qN M i.2.2.1.1) ah)->br (!oc (qN M i.2.2.1.1)) (db b (aD .i64 (fi+(aA b))/\List.length M< 9223372036854775807/\Iw b i.2.2.1.1 (Q (.cH [.c (.k (.int .i64 (fi+(aA b)))), 
 S1.c (Cl.d Ty.u8 (yg x))]) [.cells 157 [Cl.de (.int .u32) T ah bx,.k (aC fi),.o 3,Cl.m a8],.gone,kB (Kk.put Kk.str M (gu i.2.2.1.1) (fi+(aA b))),.sl 5 Ty.u8 (b++i.2.2.1.1)]))) (Q (.cH [.c (.k (.int .i64 
 (cA (qN M i.2.2.1.1) ah))),S1.c (Cl.d Ty.u8 (yg x))]) [.cells 157 [Cl.de (.int .u32) T ah bx,.k (aC fi),.o 1,Cl.m a8],.sl 5 Ty.u8 b,kB M]))))) (bx,(),([],()),()))
theorem Rr:cu 76 Bc:=by
 intro args H Q h;unfold Bc at h;split at h;rotate_left;cases h;rename_i cx T fi b M;split at h;rotate_left;cases h;rename_i x hx;refine Wp.said (args':=[.v (.c (.p 0 0)),.c (.d Ty.u8 x)]) (λE g=>bm.cr (λ_ h=>h) (bm.cr (dH hx) (λ_ h=>h))) ?_;clear hx;refine Wp.JL (X:=Kd.v cC (chk:=afA)) Kd.ok ⟨[(5,⟨[],[(4,.cells 35 [.own 5 .u8])]⟩)],[]⟩ (fn:=Tryz.f76) (V:=LL x T fi b M) (by kernel_rfl) (λ_=>by kernel_rfl) ?_ (hch:=TR);unfold LL yg CA Iw qN IE db CP dQ MM fC eD bw ck aR aC ah aV bF aS aA fc aJ bx gd a8 bI kB bo;obtain ⟨⟨⟨hT,hx,hD⟩,⟨f0,f1⟩,hb,hM⟩,h⟩:=h;obtain ⟨c,hc⟩:∃ c,x.length / 128=c:=⟨_,rfl⟩;rw [AS,hc];rw [hc] at h;have hn:(((c:Nat):Int)*128).toNat=128*c:=by omega
 have ht:(x.take (128*c)).length=128*c:=by rw [aH];omega
 rw [hn,ht];refine λ_ _=>⟨by decide,by unfold aD;omega,by unfold aD;omega,by omega,by omega,by decide,⟨by decide,by decide⟩,by omega,?_⟩;refine aM.intro (λi=>i.1<=c/\∃ fs,fs.length=i.1/\zE T x fs/\i.2.2.1.1=fs.flatten) (λi=>c - i.1) ⟨cY _,[],rfl,zE.nil T x,rfl⟩ ?_;rintro ⟨k,_,⟨run,_⟩,_⟩ ⟨hk,fs,h1,h2,h3⟩;simp only at hk h1 h3 ⊢;subst h3;have hlen:=h2.len;refine aq (λhq=>?_) (λhq=>?_)
 .have hkc:k< c:=by have:=eX hq;omega
  have hblk:((x.take (128*c)).drop (k*128)).take 128=k7 x k:=by
   rw [Nat.mul_comm k 128];exact WX hkc
  rw [hblk];have step:∀ z,Ea T (zu (k7 x k)) z->k+1<=c/\∃ gs,gs.length=k+1/\zE T x gs/\fs.flatten++z=gs.flatten:=λz hz=>⟨hkc,fs++ [z],by simp [h1],h2.step (by rw [h1];exact hz),by simp⟩;refine aq (λhh=>⟨hT,by decide,λz hz _ _=>?_⟩) (λhh=>⟨hT,by rw [rB];omega,λz hz _ _=>?_⟩)
  .have e:=abD hh;have OR:=hz.len.2;rw [aO] at OR;exact ⟨by omega,by omega,step z (by rw [e];exact hz),by omega⟩
  .have e:=abE hh;have OR:=hz.len.2;rw [rB] at OR;exact ⟨by omega,by omega,step z (by rw [e];exact hz),by omega⟩
 .have hkc:c<=k:=by
   rcases eW k c with z| z
   .have:gP (k*128) (128*c)=true:=Nat.ble_eq_true_of_le (by omega);rw [this] at hq;cases hq
   .exact z
  obtain rfl:k=c:=by omega
  refine ⟨by omega,by omega,by rw [aQ];omega,λ_ _=>aq (λhz=>?_) (λhz=>λ_=>aq (λhg=>?_) (λhg=>?_))⟩
  .have hz:(fs.flatten.length:Int)=0:=eq_of_beq hz;exact (h 0 b M hD ⟨[],by simp⟩ ⟨.inl ⟨by omega,rfl⟩⟩ (by omega) (by omega)).1
  .have hz:¬(fs.flatten.length:Int)=0:=by simpa using hz
   have JB:=MT M (gu fs.flatten) (fi+(b.length:Int));exact λ_=>⟨by unfold aD;omega,by omega,by omega,by omega,(h _ _ _ hD.put ⟨_,rfl⟩ ⟨.inr ⟨by omega,b.length,rfl,fs,[],by omega,h2,by rw [lH,bd],by rw [af];omega⟩⟩ (by rw [af];omega) JB).2⟩
  .have hz:¬(fs.flatten.length:Int)=0:=by simpa using hz
   obtain ⟨v,hv⟩:=gV.1 (show (Kk.get .str M (gu fs.flatten)).isSome=true by simpa using hg);rw [hv];obtain ⟨o,ho,r,hr,hle⟩:=hD.get hv;exact (h v b M hD ⟨[],by simp⟩ ⟨.inr ⟨by omega,o,ho,fs,r,by omega,h2,hr,hle⟩⟩ (by omega) (by omega)).1
def Ow:Ct
 | [.v (.c (.p 0 0)),.v (.c cx)],[.abs a],Q=>(match (Ty.sl Ty.u8).of [cx] with
  | some (x,[])=>∃ T fi b M,a=jM [.cells 157 [.de (.int .u32) T 0 0,.k (.int .i64 fi),.o 1,.m 2],.sl 5 .u8 b,.map 9 .str (.int .i64) M]/\((T.length=256/\x.length<=4096/\DW fi b M)/\((0<=fi/\fi<=1000000)/\b.length<=10000000/\M.length<=100000))/\∀ st b' M',DW fi b' M'->(∃ c,b'=b++c)->zD T fi b' st x->b'.length<=b.length+4320->M'.length<=M.length+1->Q (.cH [.c (.k (.int .i64 st)),.c (.d .u8 (x.drop (128*(x.length / 128))))]) [.abs (jM [.cells 157 [.de (.int .u32) T 0 0,.k (.int .i64 fi),.o 1,.m 2],.sl 5 .u8 b',.map 9 .str (.int .i64) M'])]
  | _=>False)
 | _,_,_=>False
theorem KR:cu 76 Ow:=by
 intro args H Q h;unfold Ow at h;split at h;rotate_left;cases h;split at h;rotate_left;cases h;rename_i x hx;obtain ⟨T,fi,b,M,rfl,h0,h⟩:=h;refine Wp.sel (Wp.aaz (Wp.Zz (p:=0) (L:=[.cells 157 [.de (.int .u32) T 0 0,.k (.int .i64 fi),.o 1,.m 2],.sl 5 .u8 b,.map 9 .str (.int .i64) M]) rfl (eS _) (Rr _ _ _ ?_)));show Bc _ [.cells 157 [.de (.int .u32) T 0 0,.k (.int .i64 fi),.o 1,.m 2],.sl 5 .u8 b,.map 9 .str (.int .i64) M] _;unfold Bc;simp only [hx];refine ⟨h0,λst b' M' h1 h2 h3 h4 h5=>?_⟩;have h6:=h st b' M' h1 h2 h3 h4 h5;exact ⟨⟨0,[1,2],by decide,nv rfl,[0],rfl,by decide,nv rfl,h6⟩,⟨0,[3,2],by decide,nv rfl,[0],rfl,by decide,nv rfl,h6⟩⟩
def af6:Ct:=cT λT=>cD .u8 λim=>cI λst=>cI λsz=>cI λoff=>cI λn=>c0 λQ=>T.length=256/\im.length<=100000000/\∃ x fs,D9 T im st x fs/\sz=x.length/\x.length<=4096/\0<=off/\(0<=n/\n<=4096)/\Q (.cH [.c (.o 0),.c (.k (.int .i64 0))]) [.sl 5 .u8 (((x.take (128*(x.length / 128))).drop off.toNat).take n.toNat)]
def UA:=(Kd.add Rr).add KR
abbrev Cr (y0:Int) (y1):=List.drop (ax (max ah (y0 - y1))) (au gd (0:Ty.den Ty.u8))
abbrev agA {A3 A7:Type} (y0:Int) (y1) (y2) (y3:List A3) (y4:Int) (y5:Int) (y6:_->Prop) (y7:A7):=aJ (List.length (List.drop (ax (max ah (y0 - y1))) y2))->aJ (List.length y3)->aD .i64 (min y4 (gw y5 bF*128 - y0) - (aS y3))/\0<=min (aS (List.drop (ax (max ah (y0 - y1))) y2)) (min y4 (gw y5 bF*128 - y0) - (aS y3))/\min (aS (List.drop (ax (max ah (y0 - y1))) y2)) (min y4 (gw y5 bF*128 - y0) - (aS y3))<=(aS (List.drop (ax (max ah (y0 - y1))) y2))/\(List.length y3+List.length (List.take (ax (min (aS (List.drop (ax (max ah (y0 - y1))) y2)) (min y4 (gw y5 bF*128 - y0) - (aS y3)))) (List.drop (ax (max ah (y0 - y1))) y2)))*1<=(140737488355328:Nat)/\List.length y3+List.length (List.take (ax (min (aS (List.drop (ax (max ah (y0 - y1))) y2)) (min y4 (gw y5 bF*128 - y0) - (aS y3)))) (List.drop (ax (max ah (y0 - y1))) y2))<=9223372036854775807/\aD .i64 (y1+128)/\y6 ((y3++List.take (ax (min (aS (List.drop (ax (max ah (y0 - y1))) y2)) (min y4 (gw y5 bF*128 - y0) - (aS y3)))) (List.drop (ax (max ah (y0 - y1))) y2),y1+128,y7,()),())
abbrev Zn {A7:Type} (y0) (y1:Int) (y2) (y3) (y4:Int) (y5:Int) (y6:_->Prop) (y7:A7):=aJ (List.length y0)->br ((aA y0)==0) (bF=bF/\ah<=bF/\bF<=(140737488355328:Int)/\aD .i64 (y1 - y2)/\0<=max ah (y1 - y2)/\max ah (y1 - y2)<=(↑gd:Int)/\(aJ (List.length (Cr y1 y2))->aJ (List.length y3)->aD .i64 (min y4 (gw y5 bF*128 - y1) - (aS y3))/\0<=min (aS (Cr y1 y2)) (min y4 (gw y5 bF*128 - y1) - (aS y3))/\min (aS (Cr y1 y2)) (min y4 (gw y5 bF*128 - y1) - (aS y3))<=(aS (Cr y1 y2))/\(List.length y3+List.length (List.take (ax (min (aS (Cr y1 y2)) (min y4 (gw y5 bF*128 - y1) - (aS y3)))) (Cr y1 y2)))*1<=(140737488355328:Nat)/\List.length y3+List.length (List.take (ax (min (aS (Cr y1 y2)) (min y4 (gw y5 bF*128 - y1) - (aS y3)))) (Cr y1 y2))<=9223372036854775807/\aD .i64 (y2+128)/\y6 ((y3++List.take (ax (min (aS (Cr y1 y2)) (min y4 (gw y5 bF*128 - y1) - (aS y3)))) (Cr y1 y2),y2+128,y7,()),()))) (aD .i64 (y1 - y2)/\0<=max ah (y1 - y2)/\max ah (y1 - y2)<=(aA y0)/\(agA y1 y2 y0 y3 y4 y5 y6 y7))
abbrev sV (y0:SV->List HO->Prop):=y0 (.cH [.c (.k bZ),.c (.k (.int .i64 35))]) []
abbrev Ix (y0:Int) (R:Prop):=bF≠ah/\aD .i64 (gw y0 bF)/\aD .i64 (gw y0 bF*128)/\R
def LN (T:List Int) (im:(List (Ty.u8).den)) (st sz off n:Int):dx:=λQ=>cU im (cz st sz off (aD .i64 n->br (cV sz) (Q kf []) (br (cV off) (Q kf []) (br (cV n) (Q kf []) (br (decide (sz>4096)) (Q kf []) (Ix sz (br (decide (off≥gw sz bF 
 *128)) (Q (.cH [.c (.k bZ),.c (.k aR)]) []) (aD .i64 (gw sz bF*128 - off)/\aM (λi ag=>fC i.1.1 (br (decide ((aS i.1.1)< min n (gw sz bF*128 - off))) (aD .i64 (i.1.2.1+128)/\br (decide 
 (i.1.2.1+128<=off)) (∃ p s st nx,iA im (Cut im i.1.2.2.1 p s st nx/\(aD .i64 nx->aD .i64 0->aD .i64 (i.1.2.1+128)/\ag ((i.1.1,i.1.2.1+128,nx,()),())))) (dQ T (iA im (∃ z nx e,FrE T im i.1.2.2.1 z nx e/\(aJ 
 (bw z)->cg nx e (br (e !=0) (sV Q) (aJ (bw z)->br ((aA z) !=0) (aJ (bw z)->br ((aA z) !=128) (sV Q) (Zn z off i.1.2.1 i.1.1 n sz ag nx)) (Zn z off i.1.2.1 i.1.1 n sz ag nx)))))))) (Q ll [.sl 5 
 Ty.u8 i.1.1]))) (([],ah,st,()),())))))))))
theorem Rt:cu 32 af6:=eQ<| okT λT=>jm λim=>nG λst=>nG λsz=>nG λoff=>nG λn=>gM λQ h=>by
 refine (λhh=>Wp.sel (Wp.aeJ (t:=5) (e:=.u8) hh)) ?_;refine Wp.dC UA cC ⟨[(10,⟨[(15,.own 5 .u8),(16,.int .i64),(2,.int .i64)],[]⟩)],[]⟩ Tryz.f32 (LN T im st sz off n) (mkd:=true) ?_;unfold LN Ix iA ll sV cg cV dQ fC kf bw cU bZ aR cz Zn agA Cr ah bF aS aA aJ gd bI;obtain ⟨hT,hl,x,fs,hI,rfl,hx,o0,⟨n0,n1⟩,h⟩:=h;obtain ⟨o,rfl⟩:∃ o:Nat,off=(o:Int):=⟨off.toNat,by omega⟩;obtain ⟨q,rfl⟩:∃ q:Nat,n=(q:Int):=⟨n.toNat,by omega⟩;obtain ⟨c,hc⟩:∃ c,x.length / 128=c:=⟨_,rfl⟩;have hs0:=hI.st0;rw [AS,hc];rw [hc] at h;simp only [bM] at h;refine λ_ _ _ _ _=>aq (λhq=>absurd (of_decide_eq_true hq) (by omega)) (λ_=>aq (λhq=>absurd (of_decide_eq_true hq) (by omega)) (λ_=>aq (λhq=>absurd (of_decide_eq_true hq) (by omega)) (λ_=>aq (λhq=>absurd (of_decide_eq_true hq) (by omega)) (λ_=>⟨by decide,by unfold aD;omega,by unfold aD;omega,aq (λhq=>?_) (λhq=>⟨by have:=of_decide_eq_false hq;unfold aD;omega,?_⟩)⟩))))
 .have hq:(o:Int)≥(c:Int)*128:=of_decide_eq_true hq;rw [List.drop_of_length_le (by rw [aH];omega),List.take_nil] at h;exact .inr ⟨0,rfl,[0],rfl,by decide,nv rfl,h⟩
 have hq:¬(o:Int)≥(c:Int)*128:=of_decide_eq_false hq;obtain ⟨m,hm⟩:∃ m:Nat,min (q:Int) ((c:Int)*128 - o)=(m:Int):=⟨min q (128*c - o),by omega⟩;rw [hm];have e:((x.take (128*c)).drop o).take q=(x.drop o).take m:=by rw [lG,o9];congr 1;omega
 rw [e] at h;refine aM.intro (λi=>∃ k:Nat,k<=c/\i.1.2.1=((128*k:Nat):Int)/\i.1.2.2.1=st+fB fs k/\i.1.1=(x.drop o).take (min m (128*k - o))) (λi=>c - (i.1.2.1 / 128).toNat) ⟨0,cY _,rfl,by unfold fB;simp,by simp⟩ ?_;rintro ⟨⟨out,fi,a,_⟩,_⟩ ⟨k,hk,h1,h2,h3⟩;simp only at h1 h2 h3 ⊢;subst h1 h2 h3;have pQ:((x.drop o).take (min m (128*k - o))).length=min m (128*k - o):=by rw [aH,aQ];omega
 rw [pQ];refine λ_=>aq (λhd=>?_) (λhd=>?_)
 .have hd:((min m (128*k - o):Nat):Int)< m:=of_decide_eq_true hd;have hkc:k< c:=by omega
  obtain ⟨hF,hle⟩:=hI.at (k:=k) (by omega);refine ⟨by unfold aD;omega,aq (λhe=>?_) (λhe=>?_)⟩
  .have he:((128*k:Nat):Int)+128<=o:=of_decide_eq_true he;obtain ⟨p,s,t,hC,_⟩:=hF.cut (zi T 0);exact ⟨p,s,t,_,hl,hC,λ_ _=>⟨by unfold aD;omega,⟨k+1,hkc,by omega,rfl,by rw [show min m (128*k - o)=0 by omega,show min m (128*(k+1) - o)=0 by omega]⟩,by omega⟩⟩
  .have he:¬((128*k:Nat):Int)+128<=o:=of_decide_eq_false he;have hb:(k7 x k).length=128:=by rw [rB];omega
   have mx:max (0:Int) ((o:Int) - ((128*k:Nat):Int))=((o - 128*k:Nat):Int):=by omega
   have hdl:((k7 x k).drop (o - 128*k)).length=128 - (o - 128*k):=by rw [aQ,hb]
   have mn:min (((128 - (o - 128*k):Nat)):Int) ((m:Int) - ((min m (128*k - o):Nat):Int))=((min (128 - (o - 128*k)) (m - min m (128*k - o)):Nat):Int):=by omega
   have fin:=VI (x:=x) (off:=o) (m:=m) (k:=k) (by omega) (by omega) (by omega);rw [hb] at fin;refine ⟨hT,hl,_,_,0,⟨.inr ⟨rfl,hF⟩⟩,λ_ _ _=>aq (λhq=>by cases hq) (λ_=>?_)⟩;rcases WW (b:=k7 x k) with ⟨e1,e2⟩| e1
   .rw [hb] at e2;rw [e1];refine λ_=>aq (λhq=>by cases hq) (λ_=>λ_=>aq (λ_=>⟨by trivial,by decide,by decide,?_⟩) (λhq=>by cases hq));have e3:au 128 (0:Ty.den Ty.u8)=k7 x k:=e2.symm;rw [e3];rw [mx,bM];rw [hdl];rw [mn,bM];refine ⟨by unfold aD;omega,by omega,by omega,λ_ _=>⟨by unfold aD;omega,by omega,by omega,?_,?_,by unfold aD;omega,⟨k+1,by omega,by omega,rfl,fin⟩,by omega⟩⟩
    .rw [aH,hdl];omega
    .rw [aH,hdl];omega
   .rw [e1];have hbi:((k7 x k).length:Int)=128:=by omega
    rw [hbi];refine λ_=>aq (λ_=>λ_=>aq (λhq=>by cases hq) (λ_=>λ_=>aq (λhq=>by cases hq) (λ_=>?_))) (λhq=>by cases hq);rw [mx,bM];rw [hdl];rw [mn,bM];refine ⟨by unfold aD;omega,by omega,by omega,λ_ _=>⟨by unfold aD;omega,by omega,by omega,?_,?_,by unfold aD;omega,⟨k+1,by omega,by omega,rfl,fin⟩,by omega⟩⟩;rw [aH,hdl];omega;rw [aH,hdl];omega
 .have hd:¬((min m (128*k - o):Nat):Int)< m:=of_decide_eq_false hd;rw [show min m (128*k - o)=m by omega];exact .inl ⟨[0],rfl,by decide,nv rfl,h⟩
def abp:Ct:=λargs H Q=>Uk args H (uC 0 [2,1] [0] H.length Q)
theorem KN:cu 49 abp:=λargs H Q h=>Wp.ZN (Rq _ _ _ h)
def DN:Ct
 | .v (.c (.p 0 0))::vs,[.abs a],Q=>∃ (T:List Int) (fi:Int) (b:List UInt8) (M:List (ByteArray×Int)),a=jM [.cells 157 [.de (.int .u32) T 0 0,.k (.int .i64 fi),.o 1,.m 2],.sl 5 .u8 b,.map 9 .str (.int .i64) M]/\Ht (.v (.c (.p 0 0))::vs) [.cells 157 [.de (.int .u32) T 0 0,.k (.int .i64 fi),.o 1,.m 2],.sl 5 .u8 b,.map 9 .str (.int .i64) M] (uC 0 [3,2] [0] 1 Q)
 | _,_,_=>False
theorem Bk:cu 79 DN:=λargs H Q h=>by
 unfold DN at h;split at h
 .obtain ⟨T,fi,b,M,rfl,h⟩:=h;exact Wp.zt (q:=0) (L:=[.cells 157 [.de (.int .u32) T 0 0,.k (.int .i64 fi),.o 1,.m 2],.sl 5 .u8 b,.map 9 .str (.int .i64) M]) rfl (eS _) (E7 _ _ _ h)
 grind
def Hu:Ct
 | .v (.c (.p 0 0))::vs,[.abs a],Q=>∃ (T:List Int) (fi:Int) (b:List UInt8) (M:List (ByteArray×Int)),a=jM [.cells 157 [.de (.int .u32) T 0 0,.k (.int .i64 fi),.o 1,.m 2],.sl 5 .u8 b,.map 9 .str (.int .i64) M]/\Ou (.v (.c (.p 0 0))::vs) [.cells 157 [.de (.int .u32) T 0 0,.k (.int .i64 fi),.o 1,.m 2],.sl 5 .u8 b,.map 9 .str (.int .i64) M] (uC 0 [1,2] [0] 1 Q)
 | _,_,_=>False
theorem E8:cu 56 Hu:=λargs H Q h=>by
 unfold Hu at h;split at h
 .obtain ⟨T,fi,b,M,rfl,h⟩:=h;exact Wp.zt (q:=0) (L:=[.cells 157 [.de (.int .u32) T 0 0,.k (.int .i64 fi),.o 1,.m 2],.sl 5 .u8 b,.map 9 .str (.int .i64) M]) rfl (eS _) (KP _ _ _ h)
 grind
def Uh:Ct:=c0 λQ=>Q (.c (.p 0 0)) [.cells 213 [.o 1,.o 2],.sl 5 .u8 [],.sl 3 (.int .i64) []]
def Uz:=(((UA.add Rt).add KN).add Bk).add E8
def LG:dx:=
 λQ=>Q (SV.v (S1.c (.p 0 0))) [.cells 213 [.k bZ,.k bZ]]
theorem Rn:cu 75 Uh:=eQ<| gM λQ h=>by
 refine (λhh=>Wp.xt (p:=0) (t:=213) (tt:=3) (e:=.int .i64) (Wp.xt (p:=0) (t:=213) (tt:=5) (e:=.u8) hh)) ?_;refine Wp.dC Uz cC ⟨[],[]⟩ Tryz.f75 LG ?_;unfold LG bZ;exact ⟨[],[_],rfl,[_],[],rfl,h⟩
def Bb:Ct
 | [.v (.c (.p 0 0)),.v (.c cx)],[.cells 213 [.o 1,.o 2],.sl 5 .u8 row,.sl 3 (.int .i64) bg],Q=>(match (Ty.sl Ty.u8).of [cx] with
  | some (x,[])=>(AQ row bg/\row.length<=10000000/\bg.length<=100000/\x.length< 128)/\∀ nu off lf zw,AQ lf zw->o5 lf zw nu off x->(∀ nu off u,o5 row bg nu off u->o5 lf zw nu off u)->lf.length<=row.length+128->zw.length<=bg.length+1->Q (.cH [.c (.k (.int .i64 nu)),.c (.k (.int .i64 off))]) [.cells 213 [.o 1,.o 2],.sl 5 .u8 lf,.sl 3 (.int .i64) zw]/\Q (.cH [.c (.k (.int .i64 nu)),.c (.k (.int .i64 off))]) [.cells 213 [.o 3,.o 4],.gone,.gone,.sl 5 .u8 lf,.sl 3 (.int .i64) zw]/\Q (.cH [.c (.k (.int .i64 nu)),.c (.k (.int .i64 off))]) [.cells 213 [.o 3,.o 2],.gone,.sl 3 (.int .i64) zw,.sl 5 .u8 lf]
  | _=>False)
 | _,_,_=>False
def Uy:=Uz.add Rn
abbrev Zl (y0:List UInt8) (y1:List Int) (y2:List (Ty.u8).den) (y3:SV->List HO->Prop):=aJ (List.length y0)->(List.length y1+List.length [(aA y0)])*8<=(140737488355328:Nat)/\List.length y1+List.length [(aA y0)]<=9223372036854775807/\aD .i64 ((aA y1)+1)/\(aJ (List.length y0)->aD .i64 ((aA y1)+1 - 1)/\ah<=(aA y1)+1 - 1/\(aA y1)+1 - 1< (aS (y1++ [(aA y0)]))/\ah<=(aA y1)+1 - 1/\(aA y1)+1 - 1< (aS (y1++ [(aA y0)]))/\(Ty.ok bo (aB bo (y1++ [(aA y0)]) ((aA y1)+1 - 1))->aD .i64 ((aA y0) - aB bo (y1++ [(aA y0)]) ((aA y1)+1 - 1))/\(List.length y0+List.length y2)*1<=(140737488355328:Nat)/\List.length y0+List.length y2<=9223372036854775807/\y3 (.cH [.c (.k (.int .i64 ((aA y1)+1))),.c (.k (.int .i64 ((aA y0) - aB bo (y1++ [(aA y0)]) ((aA y1)+1 - 1))))]) [.cells 213 [.o 3,.o 4],.gone,.gone,.sl 5 Ty.u8 (y0++y2),.sl 3 bo (y1++ [(aA y0)])]))
def LH (x:(List (Ty.u8).den)) (row:List UInt8) (bg:List Int):dx:=λQ=>cU x (aJ (dy x)->br (decide ((aA x)< aV)) (Q yx [.cells 213 [.o 1,.o 2],.sl 5 Ty.u8 row,.sl 3 bo bg]) (aJ (dy x)->br (decide ((aA x)≥bF)) (Q yx [.cells 213 [.o 1,.o 2],.sl 5 
 Ty.u8 row,.sl 3 bo bg]) (aJ (List.length bg)->br ((aA bg)==0) (Zl row bg x Q) (db row (aD .i64 ((aA bg) - 1)/\ah<=(aA bg) - 1/\(aA bg) - 1< (aA bg)/\ah<=(aA bg) - 1/\(aA bg) - 1< (aA bg)/\ 
 (Ty.ok bo (aB bo bg ((aA bg) - 1))->aD .i64 ((aA row) - aB bo bg ((aA bg) - 1))/\(aJ (dy x)->aD .i64 ((aA row) - aB bo bg ((aA bg) - 1)+(aA x))/\br (decide ((aA row) - aB bo bg ((aA bg) - 1)+ 
 (aA x)>bF)) (Zl row bg x Q) (db row (aD .i64 ((aA bg) - 1)/\ah<=(aA bg) - 1/\(aA bg) - 1< (aA bg)/\ah<=(aA bg) - 1/\(aA bg) - 1< (aA bg)/\(Ty.ok bo (aB bo bg ((aA bg) - 1))->aD .i64 
 ((aA row) - aB bo bg ((aA bg) - 1))/\yE row x (Q (.cH [.c (.k (.int .i64 (aA bg))),.c (.k (.int .i64 ((aA row) - aB bo bg ((aA bg) - 1))))]) [.cells 213 [.o 3,.o 2],.gone,.sl 3 bo bg,.sl 5 Ty.u8 (row++ 
 x)])))))))))))
theorem Ro:cu 77 Bb:=by
 intro args H Q h;unfold Bb at h;split at h;rotate_left;cases h;rename_i cx row bg;split at h;rotate_left;cases h;rename_i x hx;refine Wp.said (args':=[.v (.c (.p 0 0)),.c (.d Ty.u8 x)]) (λE g=>bm.cr (λ_ h=>h) (bm.cr (dH hx) (λ_ h=>h))) ?_;clear hx;refine Wp.dC Uy cC ⟨[],[]⟩ Tryz.f77 (LH x row bg) ?_;unfold LH yx dy yE db ck cU Zl aR ah aV bF aS aA aJ bo;obtain ⟨⟨hF,hr,hb,hx⟩,h⟩:=h;refine λ_ _=>aq (λhc=>?_) (λhc=>λ_=>aq (λhd=>absurd (of_decide_eq_true hd) (by omega)) (λ_=>λ_=>?_))
 .have hc:(x.length:Int)< 1:=of_decide_eq_true hc;obtain rfl:x= []:=bA (by omega);exact (h 0 0 row bg hF ⟨.inl ⟨rfl,rfl,rfl⟩⟩ (λ_ _ _ q=>q) (by omega) (by omega)).1
 have hc:¬(x.length:Int)< 1:=of_decide_eq_false hc;obtain ⟨m1,m2,m3⟩:=hF.next (t:=x) (by omega) hx
 have uB:=(h _ _ _ _ m1 m2 m3 (by rw [af];omega) (by simp)).2.1;have e1:(bg++ [(row.length:Int)]).length=bg.length+1:=by simp
 have e2:aB (.int .i64) (bg++ [(row.length:Int)]) ((bg.length:Int)+1 - 1)=row.length:=by
  rw [show (bg.length:Int)+1 - 1=bg.length by omega,gH (by rw [e1];omega)];simp
 have go:(List.length bg+List.length [(row.length:Int)])*8<=140737488355328/\List.length bg+List.length [(row.length:Int)]<=9223372036854775807/\aD .i64 ((bg.length:Int)+1):=⟨by simp only [ay];omega,by simp only [ay];omega,by unfold aD;omega⟩;refine aq (λhz=>λ_=>⟨go.1,go.2.1,go.2.2,λ_=>?_⟩) (λhz=>λ_=>?_)
 .rw [e2,e1];exact ⟨by unfold aD;omega,by omega,by omega,by omega,by omega,λ_=>⟨by unfold aD;omega,by omega,by omega,by rw [Int.sub_self];exact uB⟩⟩
 have hz:¬(bg.length:Int)=0:=by simpa using hz
 obtain ⟨n,hn⟩:∃ n,bg.length=n+1:=⟨bg.length - 1,by omega⟩;have hg:=ao (show n< bg.length by omega);have hl:=hF.all n bg[n] hg;rw [qu hn] at hl;have e3:aB (.int .i64) bg ((bg.length:Int) - 1)=bg[n]:=by
  rw [show (bg.length:Int) - 1=(n:Nat) by omega,gH (by omega)]
 rw [e3];refine ⟨by unfold aD;omega,by omega,by omega,by omega,by omega,λ_=>⟨by unfold aD;omega,λ_=>⟨by unfold aD;omega,aq (λhd=>λ_=>⟨go.1,go.2.1,go.2.2,λ_=>?_⟩) (λhd=>λ_=>?_)⟩⟩⟩
 .rw [e2,e1];exact ⟨by unfold aD;omega,by omega,by omega,by omega,by omega,λ_=>⟨by unfold aD;omega,by omega,by omega,by rw [Int.sub_self];exact uB⟩⟩
 .have hd:¬(row.length:Int) - bg[n]+x.length>128:=of_decide_eq_false hd;obtain ⟨k1,k2,k3⟩:=hF.more (t:=x) hn hg (by omega) hx (by omega);have hold:=(h _ _ _ _ k1 k2 k3 (by rw [af];omega) (by omega)).2.2;rw [show (n:Int)+1=bg.length by omega] at hold;exact ⟨by unfold aD;omega,by omega,by omega,by omega,by omega,λ_=>⟨by unfold aD;omega,by omega,by omega,hold⟩⟩
def DM:Ct:=cP<| cO λH Q=>match H with
 | [.cells 213 [.o 1,.o 2],.sl 5 .u8 row,.sl 3 (.int .i64) bg]=>(AQ row bg/\row.length<=10000000/\bg.length<=100000)/\Q (.c (.d (.sl .u8) (lP row bg bg.length))) [.cells 213 [.o 1,.o 2],.sl 5 .u8 row,.sl 3 (.int .i64) bg]
 | _=>False
def Ux:=Uy.add Ro
abbrev Gt (y0:List Int) (y1):=cd (some (aB bo y0 y1)) ah
abbrev vu (y0:List Int) (y1) (y2:List UInt8):=List.drop (ax (Gt y0 y1)) y2
abbrev IC (y0:List Int) (y1):=ax (aB bo y0 (y1+1)) - ax (Gt y0 y1)
def zQ (row:List UInt8) (bg:List Int):dx:=λQ=>List.length row<=140737488355328/\(db row (aJ (List.length bg)->aM (λi ag=>br (decide (i.1.1< (aA bg))) (0<=i.1.1/\i.1.1< (aA bg)/\0<=i.1.1/\i.1.1< (aA bg)/\(Ty.ok bo (aB bo bg i.1.1)-> 
 db row (cF i.1.1 (aJ (List.length bg)->br (decide (i.1.1+1< (aA bg))) (cF i.1.1 (0<=i.1.1+1/\i.1.1+1< (aA bg)/\0<=i.1.1+1/\i.1.1+1< (aA bg)/\(Ty.ok bo (aB bo bg (i.1.1+1))->0<=cd (some (aB 
 bo bg i.1.1)) ah/\cd (some (aB bo bg i.1.1)) 0<=aB bo bg (i.1.1+1)/\aB bo bg (i.1.1+1)<=aB bo bg (i.1.1+1)/\aB bo bg (i.1.1+1)<=(aA row)/\(List.length i.1.2.1+List.length [List.take (IC bg 
 i.1.1) (vu bg i.1.1 row)])*24<=ck/\List.length i.1.2.1+List.length [List.take (IC bg i.1.1) (vu bg i.1.1 row)]<=9223372036854775807/\cF i.1.1 (ag ((i.1.1+1,i.1.2.1++ [List.take (IC bg i.1.1) (vu bg 
 i.1.1 row)],()),()))))) (0<=cd (some (aB bo bg i.1.1)) ah/\cd (some (aB bo bg i.1.1)) ah<=(aA row)/\(aA row)<=(aA row)/\(aA row)<=(aA row)/\(List.length i.1.2.1+List.length [List.take (ax 
 (aA row) - ax (Gt bg i.1.1)) (vu bg i.1.1 row)])*24<=ck/\List.length i.1.2.1+List.length [List.take (ax (aA row) - ax (Gt bg i.1.1)) (vu bg i.1.1 row)]<=9223372036854775807/\cF i.1.1 (ag 
 ((i.1.1+1,i.1.2.1++ [List.take (ax (aA row) - ax (Gt bg i.1.1)) (vu bg i.1.1 row)],()),()))))))) (Q (SV.v (S1.c (.o 3))) [.cells 213 [.o 1,.o 2],.sl 5 Ty.u8 row,.sl 3 bo bg,.sl 35 bC i.1.2.1])) ((ah, 
 [],()),())))
theorem Bj:cu 78 DM:=eQ<| r5<| r6 λH Q h=>by
 split at h;rotate_left;cases h;rename_i row bg;refine Wp.kC [some (.sl (.sl .u8))] [3] ?_;refine Wp.dC Ux cC ⟨[(5,⟨[(18,.int .i64),(3,.own 35 (.sl .u8))],[]⟩)],[]⟩ Tryz.f78 (zQ row bg) ?_;unfold zQ IC vu db cF Gt ck ah aA aJ bC bo;obtain ⟨⟨hF,hr,hb⟩,h⟩:=h;refine ⟨by omega,λ_ _=>aM.intro (λi=>∃ k:Nat,k<=bg.length/\i.1.1=(k:Int)/\i.1.2.1=lP row bg k) (λi=>bg.length - i.1.1.toNat) ⟨0,cY _,rfl,rfl⟩ ?_⟩;rintro ⟨⟨j,l,_⟩,_⟩ ⟨k,hk,h1,h2⟩;simp only at h1 h2 ⊢;subst h1 h2;have hl:=qw row bg k;refine aq (λhc=>?_) (λhc=>?_)
 .have hc:(k:Int)< bg.length:=of_decide_eq_true hc;have r8:k< bg.length:=by omega
  have hg:=ao r8;have ha:=hF.all k bg[k] hg;have hs:=QV row bg k;rw [hg,Option.getD_some] at hs;rw [gH (e:=.int .i64) r8];have b0:cd (some bg[k]) 0=bg[k]:=rfl;have fin:∀ z:Int,z=oV row bg k->lP row bg k++ [List.take (z.toNat - bg[k].toNat) (List.drop bg[k].toNat row)]=lP row bg (k+1):=λz e=>by
   rw [hs,e,show (oV row bg k).toNat - bg[k].toNat=(oV row bg k - bg[k]).toNat by omega]
  refine ⟨by omega,hc,by omega,hc,λ_ _=>⟨by unfold aD;omega,λ_=>aq (λhd=>?_) (λhd=>?_)⟩⟩
  .have hd:(k:Int)+1< bg.length:=of_decide_eq_true hd;have he:aB (.int .i64) bg ((k:Int)+1)=oV row bg k:=by
    have:=gH (e:=.int .i64) (l:=bg) (k:=k+1) (by omega);unfold oV;rw [ao (show k+1< bg.length by omega)];exact this
   rw [he];exact ⟨by unfold aD;omega,by omega,hd,by omega,hd,λ_=>⟨by omega,by omega,bB _,ha.2.2.2,by simp only [ay];omega,by simp only [ay];omega,by unfold aD;omega,⟨k+1,by omega,by omega,fin _ rfl⟩,by omega⟩⟩
  .have hd:¬(k:Int)+1< bg.length:=of_decide_eq_false hd;have he:(row.length:Int)=oV row bg k:=by rw [qu (by omega)]
   exact ⟨by omega,by omega,by omega,bB _,by simp only [ay];omega,by simp only [ay];omega,by unfold aD;omega,⟨k+1,by omega,by omega,fin _ he⟩,by omega⟩
 .have hc:¬(k:Int)< bg.length:=of_decide_eq_false hc;obtain rfl:k=bg.length:=by omega
  exact ⟨by show 3<=4;decide,h⟩
def vV:Ct
 | [.v (.c (.de (.int .u32) T 0 0)),.v (.c cim),.v (.c cpl),.v (.c (.k (.int .i64 nu))),.v (.c (.k (.int .i64 off))),.v (.c (.k (.int .i64 n)))],[],Q=>(match (Ty.sl Ty.u8).of [cim] with
  | some (im,[])=>(match (Ty.sl (Ty.int .i64)).of [cpl] with
  | some (pl,[])=>(T.length=256/\im.length<=100000000/\pl.length<=100000)/\∃ (i:Nat) (a:Int) (z:List UInt8) (nx:Int),nu=(i:Int)+1/\pl[i]?=some a/\EG T im a z nx/\0< z.length/\z.length<=128/\0<=off/\0<=n/\off+n<=z.length/\Q (.cH [.c (.d .u8 ((z.drop off.toNat).take n.toNat)),.c (.k (.int .i64 0))]) []
  | _=>False)
  | _=>False)
 | _,_,_=>False
def agf:=Ux.add Bj
abbrev IH {A2:Type} (y0:Int) (y1:Int) (y2:List A2):=List.take (ax (y0+y1) - ax y0) (List.drop (aU y0) y2)
def zP (T:List Int) (im:(List (Ty.u8).den)) (pl:(List ((Ty.int .i64)).den)) (nu off n:Int):dx:=λQ=>cU im (aJ (List.length pl)->cz nu off n (br (decide (nu< 1)) (Q kf []) (aJ (List.length pl)->br (decide (nu>(aA pl))) (Q kf []) (br (cV off) (Q kf []) (br (cV n) (Q kf []) (aD 
 .i64 (nu - 1)/\0<=nu - 1/\nu - 1< (aA pl)/\(Ty.ok bo (aB bo pl (nu - 1))->dQ T (iA im (∃ z nx e,FrE T im (aB bo pl (nu - 1)) z nx e/\(aJ (bw z)->cg nx e (br (e !=0) (sV Q) (aJ (bw z)->br ((aA 
 z)==0) (sV Q) (aJ (bw z)->br (decide (off>(aA z))) (sV Q) (aJ (bw z)->aD .i64 ((aA z) - off)/\br (decide (n>(aA z) - off)) (sV Q) (aD .i64 (off+n)/\0<=off/\off<=off+n/\off+n<=(aA z)/\ 
 fc (List.length (IH off n z))/\(aJ (List.length (IH off n z))->Q (SV.cH [S1.c (Cl.d Ty.u8 (IH off n z)),.c (.k aR)]) []))))))))))))))))
theorem O0:cu 33 vV:=by
 intro args H Q h;unfold vV at h;split at h;rotate_left;cases h;rename_i T cim cpl nu off n;split at h;rotate_left;cases h;rename_i im Xq;split at h;rotate_left;cases h;rename_i pl JB;refine Wp.said (args':=[.v (.c (.de (.int .u32) T 0 0)),.c (.d Ty.u8 im),.c (.d (Ty.int .i64) pl),.int nu,.int off,.int n]) (λE g=>bm.cr (λ_ h=>h) (bm.cr (dH Xq) (bm.cr (dH JB) (bm.cr (λ_ h=>h) (bm.cr (λ_ h=>h) (bm.cr (λ_ h=>h) (λ_ h=>h))))))) ?_;clear Xq JB;refine Wp.kC [some (.sl .u8),none] [] ?_;refine Wp.dC agf cC ⟨[],[]⟩ Tryz.f33 (zP T im pl nu off n) ?_;unfold zP iA IH sV cg cV dQ kf bw cU bZ aU aR cz aA fc aJ bI bo;obtain ⟨⟨hT,hl,hp⟩,i,a,z,nx,rfl,hg,hF,z0,z1,o0,n0,hz,h⟩:=h;have hi:=(aw.1 hg).1;have e1:aB (.int .i64) pl ((i:Int)+1 - 1)=a:=by
  rw [show (i:Int)+1 - 1=i by omega,gH (e:=.int .i64) hi];exact (aw.1 hg).2
 rw [e1,show (off+n).toNat - off.toNat=n.toNat by omega];refine λ_ _ _ _ _=>aq (λhc=>absurd (of_decide_eq_true hc) (by omega)) (λ_=>λ_=>aq (λhc=>absurd (of_decide_eq_true hc) (by omega)) (λ_=>aq (λhc=>absurd (of_decide_eq_true hc) (by omega)) (λ_=>aq (λhc=>absurd (of_decide_eq_true hc) (by omega)) (λ_=>⟨by unfold aD;omega,by omega,by omega,λ_=>⟨hT,hl,z,nx,0,⟨.inr ⟨rfl,hF⟩⟩,λ_ _ _=>aq (λhc=>by cases hc) (λ_=>λ_=>aq (λhc=>?_) (λ_=>λ_=>aq (λhc=>absurd (of_decide_eq_true hc) (by omega)) (λ_=>λ_=>⟨by unfold aD;omega,aq (λhc=>absurd (of_decide_eq_true hc) (by omega)) (λ_=>⟨by unfold aD;omega,o0,by omega,by omega,by rw [aH];omega,λ_=>⟨aG _,h⟩⟩)⟩)))⟩⟩))));have hc:(z.length:Int)=0:=eq_of_beq hc;omega
def abi:Ct:=λargs H Q=>Uh args H (uC 0 [1,2] [0] H.length Q)
theorem X6:cu 75 abi:=λargs H Q h=>Wp.ZN (Rn _ _ _ h)
def Av:Ct
 | .v (.c (.p 0 0))::vs,[.abs a],Q=>∃ (row:List UInt8) (bg:List Int),a=jM [.cells 213 [.o 1,.o 2],.sl 5 .u8 row,.sl 3 (.int .i64) bg]/\DM (.v (.c (.p 0 0))::vs) [.cells 213 [.o 1,.o 2],.sl 5 .u8 row,.sl 3 (.int .i64) bg] (uC 0 [1,2] [0] 1 Q)
 | _,_,_=>False
theorem KM:cu 78 Av:=λargs H Q h=>by
 unfold Av at h;split at h
 .obtain ⟨row,bg,rfl,h⟩:=h;exact Wp.zt (q:=0) (L:=[.cells 213 [.o 1,.o 2],.sl 5 .u8 row,.sl 3 (.int .i64) bg]) rfl (eS _) (Bj _ _ _ h)
 grind
def Ot:Ct
 | [.v (.c (.p 0 0)),.v (.c cx)],[.abs a],Q=>(match (Ty.sl Ty.u8).of [cx] with
  | some (x,[])=>∃ row bg,a=jM [.cells 213 [.o 1,.o 2],.sl 5 .u8 row,.sl 3 (.int .i64) bg]/\(AQ row bg/\row.length<=10000000/\bg.length<=100000/\x.length< 128)/\∀ nu off lf zw,AQ lf zw->o5 lf zw nu off x->(∀ nu off u,o5 row bg nu off u->o5 lf zw nu off u)->lf.length<=row.length+128->zw.length<=bg.length+1->Q (.cH [.c (.k (.int .i64 nu)),.c (.k (.int .i64 off))]) [.abs (jM [.cells 213 [.o 1,.o 2],.sl 5 .u8 lf,.sl 3 (.int .i64) zw])]
  | _=>False)
 | _,_,_=>False
theorem X7:cu 77 Ot:=by
 intro args H Q h;unfold Ot at h;split at h;rotate_left;cases h;split at h;rotate_left;cases h;rename_i x hx;obtain ⟨row,bg,rfl,h0,h⟩:=h;refine Wp.sel (Wp.aaz (Wp.Zz (p:=0) (L:=[.cells 213 [.o 1,.o 2],.sl 5 .u8 row,.sl 3 (.int .i64) bg]) rfl (eS _) (Ro _ _ _ ?_)));show Bb _ [.cells 213 [.o 1,.o 2],.sl 5 .u8 row,.sl 3 (.int .i64) bg] _;unfold Bb;simp only [hx];refine ⟨h0,λnu off lf zw h1 h2 h3 h4 h5=>?_⟩;have h6:=h nu off lf zw h1 h2 h3 h4 h5;exact ⟨⟨0,[1,2],by decide,nv rfl,[0],rfl,by decide,nv rfl,h6⟩,⟨0,[3,4],by decide,nv rfl,[0],rfl,by decide,nv rfl,h6⟩,⟨0,[3,2],by decide,nv rfl,[0],rfl,by decide,nv rfl,h6⟩⟩
end Go.Proofs

namespace Go.Lm
open Go Go.RowKit
section
variable {L:List (Int×rZ)} {Y:UpY}
theorem uO {α:Type} {p:α->Bool} {g:α->α} (h:∀ x,p (g x)=p x):∀ l:List α,(l.map g).find? p=(l.find? p).map g
 | []=>rfl
 | x::l=>by
  simp only [cE,List.find?_cons,h];cases p x with
  | true=>rfl
  | false=>exact uO h l
theorem Us {r:Int} {f:aZ->aZ} (hf:∀ n,(f n).2.1=n.2.1) (x:Int):({Y with L:=pT Y.L r f}:UpY).at x=(Y.at x).map λn=>bif vZ r n then f n else n:=by
 grind [UpY.at, pT, uO, vZ]
theorem Vn {r:Int} {f:aZ->aZ} (hf:∀ n,(f n).2.1=n.2.1) (l:List aZ):(pT l r f).map (·.2.1)=l.map (·.2.1):=by
 grind [pT, jv]
end
section
variable {L:List (Int×rZ)} {Y:UpY}
theorem TO (E:List UJ) (d:Int) (s:ByteArray) (x r:Int):(E++ [(d,s,x,())]).countP (toR r)=E.countP (toR r)+if x=r then 1 else 0:=by
 grind [toR]
theorem Q0 {n:aZ} {r:Int} {y:aZ} (h:Y.at r=some y) (E:List UJ) (nx:Int):({Y with L:=Y.L++ [n],E:=E,nx:=nx}:UpY).at r=some y:=by
 show (Y.L++ [n]).find? (vZ r)=some y;have:Y.L.find? (vZ r)=some y:=h
 grind
theorem Q1 {n:aZ} {r:Int} (h:Y.at r=none) (hn:n.2.1=r) (E:List UJ) (nx:Int):({Y with L:=Y.L++ [n],E:=E,nx:=nx}:UpY).at r=some n:=by
 show (Y.L++ [n]).find? (vZ r)=some n;have:Y.L.find? (vZ r)=none:=h
 grind [vZ]
theorem aeN (w:Y.Wf):Y.at Y.nx=none:=agc.2 λn hn e=>by
 have:=(w.lo n hn).2;omega
theorem ak2 (w:Y.Wf) {e:UJ} (he:e∈Y.E):∃ y,Y.at e.1=some y/\y.2.2.1=1:=iU.1 (w.dir e he).1
theorem abM (w:Y.Wf) {e:UJ} (he:e∈Y.E):∃ y,Y.at e.2.2.1=some y:=by
 have:=(w.ref e he).2
 grind [UpY.atE]
theorem ajw (w:Y.Wf):1< Y.nx:=by
 obtain ⟨y1,hy1,_⟩:=iU.1 w.root;have:=w.lo y1 (at_mem hy1).1;omega
end
section
variable {L:List (Int×rZ)} {Y:UpY}
end
section
variable {α β:Type}
end
section
variable {L:List (Int×rZ)} {Y:UpY}
theorem zx (w:Y.Wf) {n:aZ} (h:n∈Y.L):Y.at n.2.1=some n:=by
 have key:∀ l:List aZ,(l.map (·.2.1)).Nodup->n∈l->l.find? (vZ n.2.1)=some n:=λl=>by
  induction l with
  | nil=>grind
  | cons x l ih=>
   grind [vZ]
 exact key _ w.nd h
end
def UpY.new (a b:Int):UpY:=⟨a,b,[([],1,1,(493,0,0,()),[],⟨#[]⟩,[],false,())],[],2⟩
theorem ajA (a b:Int):(UpY.new a b).Wf where
 nd:=by simp [UpY.new]
 lo:=λn hn=>by
  have:n=_:=aW.1 hn;subst this;exact ⟨by decide,by show (1:Int)< 2;decide⟩
 root:=rfl
 nm:=λn hn=>by
  have:n=_:=aW.1 hn;subst this;exact ⟨rfl,.inl rfl,by kernel_rfl⟩
 ne:=by simp [UpY.new]
 dir:=λe he=>by cases he
 ref:=λe he=>by cases he
 has:=λn hn h=>by
  have:n=_:=aW.1 hn
  grind
 one:=λe he=>by cases he
 dep:=⟨λ_=>0,λe he=>by cases he⟩
theorem aet (a b:ByteArray):rG a b=decide (a.data.toList< b.data.toList):=by
 grind [rG, Lib.toList_data, Go.Proofs.bytesLess_eq]
theorem ff {e:Ty} {l:List e.den} {i:Int} (h0:0<=i) (h:i< l.length):aB e l i=l[i.toNat]'(by omega):=by
 grind [aB]
section
variable {α:Type}
end
section
variable {Y:UpY}
def ag6 (n:aZ):Prop:=n.1= []/\((n.2.2.1=1\/n.2.2.2.2.2.2.2.1=false)/\wU n=true)
theorem uk {r:Int} {f:aZ->aZ} (hf:∀ n,(f n).2.1=n.2.1) (hk:∀ n,(f n).2.2.1=n.2.2.1) (x:Int):({Y with L:=pT Y.L r f}:UpY).lC x=Y.lC x:=by
 grind [UpY.lC, Us]
theorem abN {r:Int} {f:aZ->aZ} (hf:∀ n,(f n).2.1=n.2.1) (x:Int):({Y with L:=pT Y.L r f}:UpY).atE x=Y.atE x:=by
 grind [UpY.atE, Us]
theorem B7 {r:Int} {f:aZ->aZ} {L:List aZ} {n:aZ} (h:n∈pT L r f):∃ n0∈L,(n0.2.1=r/\n=f n0)\/n=n0:=by
 obtain ⟨n0,h0,rfl⟩:=bq.1 h
 grind [vZ]
theorem UpY.Wf.pT (w:Y.Wf) {r:Int} {f:aZ->aZ} (hf:∀ n,(f n).2.1=n.2.1) (hk:∀ n,(f n).2.2.1=n.2.2.1) (hg:∀ n∈Y.L,n.2.1=r->ag6 (f n)):({Y with L:=Lm.pT Y.L r f}:UpY).Wf where
 nd:=by
  rw [Vn hf];exact w.nd
 lo:=λn hn=>by
  obtain ⟨n0,h0,⟨_,rfl⟩| rfl⟩:=B7 hn;rw [hf];exact w.lo n0 h0;exact w.lo n h0
 root:=by rw [uk hf hk];exact w.root
 nm:=λn hn=>by
  obtain ⟨n0,h0,⟨h1,rfl⟩| rfl⟩:=B7 hn;exact hg n0 h0 h1;exact w.nm n h0
 ne:=w.ne
 dir:=λe he=>by rw [uk hf hk];exact w.dir e he
 ref:=λe he=>by rw [abN hf];exact w.ref e he
 has:=λn hn h1=>by
  obtain ⟨n0,h0,⟨_,rfl⟩| rfl⟩:=B7 hn;rw [hf] at h1 ⊢;exact w.has n0 h0 h1;exact w.has n h0 h1
 one:=λe he h=>by
  rw [uk hf hk] at h;exact w.one e he h
 dep:=by
  obtain ⟨d,hd⟩:=w.dep;exact ⟨d,by grind [uk]⟩
theorem VW {n:aZ} {a:AtD} (hn:wU n=true) (hk:n.2.2.1≠4) (ha:aeT a=true):wU (n.xX a)=true:=by
 unfold wU at hn ⊢;unfold gr aZ.dU aZ.xX at*;have ha:AG a.1 a.2.1 a.2.2.1=true:=ha
 grind
theorem VV {n:aZ} {x:List uD} (hn:wU n=true) (hk:n.2.2.1≠4) (hx:dF x=true):wU (n.ajg x)=true:=by
 unfold wU at hn ⊢
 grind [gr, aZ.dU, aZ.ajg]
structure UpY.OK (Y:UpY) (n:Nat):Prop where
 wf:Y.Wf
 en:Y.E.length<=n
 nb:Y.nx<=n+2
theorem UpY.OK.le {n m:Nat} (h:Y.OK n) (hn:n<=m):Y.OK m:=⟨h.wf,by have:=h.en;omega,by have:=h.nb;omega⟩
theorem aeR (a b:Int):(UpY.new a b).OK 0:=⟨ajA a b,aG _,by show (2:Int)<=_;omega⟩
theorem UpY.OK.pT {n:Nat} (h:Y.OK n) {r:Int} {f:aZ->aZ} (hf:∀ n,(f n).2.1=n.2.1) (hk:∀ n,(f n).2.2.1=n.2.2.1) (hg:∀ n∈Y.L,n.2.1=r->ag6 (f n)):({Y with L:=Lm.pT Y.L r f}:UpY).OK n:=⟨h.wf.pT hf hk hg,h.en,h.nb⟩
theorem M0 {n:Nat} (h:Y.OK n) (r:Int) (a:AtD):(Y.gQ r a).OK n:=by
 unfold UpY.gQ;split
 .rename_i h0;refine h.pT (λ_=>rfl) (λ_=>rfl) λy hy hr=>?_;have uN:Y.at r=some y:=by rw [<-hr];exact zx h.wf hy
  unfold UpY.B8 at h0;rw [uN] at h0;simp only at h0;split at h0;cases h0
  .rename_i h1;obtain ⟨g1,g2,g3⟩:=h.wf.nm y hy;refine ⟨g1,g2,VW g3 (λq=>h1 (.inl q)) ?_⟩
   grind
 omega
theorem Er {n:Nat} (h:Y.OK n) (r:Int) (x:List uD):(Y.fw r x).OK n:=by
 unfold UpY.fw;split
 .rename_i h0;refine h.pT (λ_=>rfl) (λ_=>rfl) λy hy hr=>?_;have uN:Y.at r=some y:=by rw [<-hr];exact zx h.wf hy
  unfold UpY.vb at h0;rw [uN] at h0;simp only at h0;split at h0;cases h0
  .rename_i h1;obtain ⟨g1,g2,g3⟩:=h.wf.nm y hy;refine ⟨g1,g2,VV g3 (λq=>h1 (.inl q)) ?_⟩
   grind
 omega
theorem uJ {n:Nat} (h:Y.OK n) (r:Int) (q:Bool):(Y.gm r q).OK n:=by
 unfold UpY.gm;split
 .rename_i h0;refine h.pT (λ_=>rfl) (λ_=>rfl) λy hy hr=>?_;have uN:Y.at r=some y:=by rw [<-hr];exact zx h.wf hy
  obtain ⟨y',OS,hk⟩:=iU.1 h0;rw [uN] at OS;obtain rfl:=aj OS;obtain ⟨g1,g2,g3⟩:=h.wf.nm y hy;exact ⟨g1,.inl hk,g3⟩
 omega
theorem Ap {d:Int} {s:ByteArray} (h:Y.rk d s=0):Y.lC d=0/\dh s=0/\Y.k8 d s=none:=by
 grind [UpY.rk]
theorem ZO {E:List UJ} (h:(E.map λe=>(e.1,e.2.1)).Nodup) {d:Int} {s:ByteArray} {r:Int} (hn:∀ e∈E,¬(e.1=d/\e.2.1=s)):((E++ [(d,s,r,())]).map λe=>(e.1,e.2.1)).Nodup:=by
 grind
theorem xB {r:Int}:Y.atE r=0↔∃ y,Y.at r=some y:=by
 grind [UpY.atE]
theorem UpY.Wf.make (w:Y.Wf) {d:Int} {s:ByteArray} {x:aZ} (hd:Y.lC d=0) (hs:dh s=0) (hn:Y.k8 d s=none) (hm:wU x=true):({Y with L:=Y.L++ [Y.qZ x],E:=Y.E++ [(d,s,Y.nx,())],nx:=Y.nx+1}:UpY).Wf:=by
 have hnx:=aeN w;have hp:=ajw w;have xL:∀ {z y},Y.at z=some y->({Y with L:=Y.L++ [Y.qZ x],E:=Y.E++ [(d,s,Y.nx,())],nx:=Y.nx+1}:UpY).at z=some y:=λh=>Q0 h _ _;have dold:∀ {z},Y.lC z=0->({Y with L:=Y.L++ [Y.qZ x],E:=Y.E++ [(d,s,Y.nx,())],nx:=Y.nx+1}:UpY).lC z=0:=λh=>by
  obtain ⟨y,hy,hk⟩:=iU.1 h;exact iU.2 ⟨y,xL hy,hk⟩
 have dback:∀ {e},e∈Y.E->({Y with L:=Y.L++ [Y.qZ x],E:=Y.E++ [(d,s,Y.nx,())],nx:=Y.nx+1}:UpY).lC e.2.2.1=0->Y.lC e.2.2.1=0:=λhe h=>by
  obtain ⟨y,hy⟩:=abM w he;obtain ⟨y',OS,hk⟩:=iU.1 h;rw [xL hy] at OS;obtain rfl:=aj OS;exact iU.2 ⟨y,hy,hk⟩
 have noref:∀ e∈Y.E,e.2.2.1≠Y.nx:=λe he q=>by
  obtain ⟨y1,h1⟩:=abM w he;rw [q,hnx] at h1;cases h1
 have nodir:∀ e∈Y.E,e.1≠Y.nx:=λe he q=>by
  obtain ⟨y1,h1,_⟩:=ak2 w he;rw [q,hnx] at h1;cases h1
 have hdn:d≠Y.nx:=λq=>by
  obtain ⟨y,hy,_⟩:=iU.1 hd;rw [q,hnx] at hy;cases hy
 refine ⟨?_,?_,dold w.root,?_,ZO w.ne (xk.1 hn),?_,?_,?_,?_,?_⟩
 .rw [jc];refine gx.2 ⟨w.nd,by simp,λa ha b hb=>?_⟩;have hb:b=Y.nx:=aW.1 hb;obtain ⟨n,hn,rfl⟩:=bq.1 ha;have:=(w.lo n hn).2;omega
 .intro n hn;show 1<=n.2.1/\n.2.1< Y.nx+1;rcases aX.1 hn with hn| hn
  .have:=w.lo n hn;omega
  .have:n=Y.qZ x:=by simpa using hn
   subst this;show 1<=Y.nx/\Y.nx< Y.nx+1;omega
 .intro n hn;rcases aX.1 hn with hn| hn
  .exact w.nm n hn
  .have:n=Y.qZ x:=by simpa using hn
   subst this;exact ⟨rfl,.inr rfl,hm⟩
 .intro e he;rcases aX.1 he with he| he
  .exact ⟨dold (w.dir e he).1,(w.dir e he).2⟩
  .have:e=(d,s,Y.nx,()):=by simpa using he
   subst this;exact ⟨dold hd,hs⟩
 .intro e he;rcases aX.1 he with he| he
  .obtain ⟨h1,h2⟩:=w.ref e he;obtain ⟨y,hy⟩:=xB.1 h2;exact ⟨h1,xB.2 ⟨y,xL hy⟩⟩
  .have:e=(d,s,Y.nx,()):=by simpa using he
   subst this;exact ⟨by show Y.nx≠1;omega,xB.2 ⟨_,Q1 hnx rfl _ _⟩⟩
 .intro n hn h1;rw [List.any_append];rcases aX.1 hn with hn| hn
  .rw [w.has n hn h1];rfl
  .have:n=Y.qZ x:=by simpa using hn
   subst this;have:toR (Y.qZ x).2.1 (d,s,Y.nx,())=true:=by unfold toR;exact beq_self_eq_true _
   simp [this]
 .intro e he h;show (Y.E++ [(d,s,Y.nx,())]).countP (toR e.2.2.1)=1;rw [TO];rcases aX.1 he with he| he
  .rw [if_neg (Ne.symm (noref e he)),w.one e he (dback he h)]
  .have:e=(d,s,Y.nx,()):=by simpa using he
   subst this;rw [if_pos rfl,List.countP_eq_zero.2 λe he=>by simpa [toR] using noref e he]
 .obtain ⟨dp,hdp⟩:=w.dep;refine ⟨λz=>if z=Y.nx then dp d+1 else dp z,λe he h=>?_⟩
  rcases aX.1 he with he| he
  .simp only [if_neg (nodir e he),if_neg (noref e he)];exact hdp e he (dback he h)
  .have:e=(d,s,Y.nx,()):=by simpa using he
   subst this;simp only [if_neg hdn,if_pos];omega
theorem ZB {n:Nat} (h:Y.OK n) (d:Int) (s:ByteArray) (x:aZ):(Y.oL d s x).OK (n+1):=by
 unfold UpY.oL;split
 .rename_i h0;unfold UpY.Nc at h0;split at h0
  .rename_i hf;obtain ⟨h1,h2,h3⟩:=Ap hf;split at h0
   .rename_i hm;refine ⟨h.wf.make h1 h2 h3 hm,?_,?_⟩
    .have:=h.en
     grind
    .show Y.nx+1<=_;have:=h.nb;omega
   omega
  omega
 .exact h.le (Nat.le_succ n)
theorem UpY.Wf.link (w:Y.Wf) {d r:Int} {s:ByteArray} {y:aZ} (hd:Y.lC d=0) (hs:dh s=0) (hn:Y.k8 d s=none) (hy:Y.at r=some y) (hk:y.2.2.1≠1):({Y with E:=Y.E++ [(d,s,r,())]}:UpY).Wf:=by
 have hnd:Y.lC r≠0:=by grind [iU]
 have v7:r≠1:=λq=>hnd (by rw [q];exact w.root);refine ⟨w.nd,w.lo,w.root,w.nm,ZO w.ne (xk.1 hn),λe he=>?_,λe he=>?_,λn hn h1=>?_,λe he h=>?_,?_⟩
 .rcases aX.1 he with he| he
  .exact w.dir e he
  .have:e=(d,s,r,()):=by grind
   subst this;trivial
 .rcases aX.1 he with he| he
  .exact w.ref e he
  .have:e=(d,s,r,()):=by grind
   subst this;exact ⟨v7,xB.2 ⟨y,hy⟩⟩
 .rw [List.any_append,w.has n hn h1];rfl
 .have h:Y.lC e.2.2.1=0:=h;rcases aX.1 he with he| he
  .rw [TO,if_neg (λq=>hnd (by rw [q];exact h)),w.one e he h]
  grind
 .obtain ⟨dp,hdp⟩:=w.dep;refine ⟨dp,λe he h=>?_⟩;have h:Y.lC e.2.2.1=0:=h
  grind
theorem P7 {d r:Int} {s:ByteArray} (h:Y.Nj d s r=0):∃ y,Y.at r=some y/\y.2.2.1≠1/\Y.rk d s=0:=by
 grind [UpY.Nj]
theorem ZC {n:Nat} (h:Y.OK n) (d:Int) (s:ByteArray) (r:Int):(Y.rS d s r).OK (n+1):=by
 unfold UpY.rS;split
 .rename_i h0;obtain ⟨y,hy,hk,hf⟩:=P7 h0;obtain ⟨h1,h2,h3⟩:=Ap hf;refine ⟨h.wf.link h1 h2 h3 hy hk,?_,?_⟩
  .have:=h.en
   grind
  .show Y.nx<=_;have:=h.nb;omega
 .exact h.le (Nat.le_succ n)
end
end Go.Lm

namespace Go.Lm
open Go
def UpY.ji (Y:UpY):List ByteArray->Int->Int×Int
 | [],r=>(r,0)
 | s::l,r=>if Y.mz r s=0 then Y.ji l (Y.Ti r s).2.2.1 else (0,Y.mz r s)
def Ar (Y:UpY) (m:List (Int×Int)) (x:aZ):Int×UpY:=
 if x.1.length=0 then (1,(Y.gQ 1 x.2.2.2.1).fw 1 x.2.2.2.2.2.2.1)
 else match Kk.get .int m x.2.1 with
  | some r=>(r,Y.rS (Y.ji (x.1.take (x.1.length - 1)) 1).1 (aB .str x.1 ((x.1.length:Int) - 1)) r)
  | none=>(Y.Th (Y.ji (x.1.take (x.1.length - 1)) 1).1 (aB .str x.1 ((x.1.length:Int) - 1)) x,Y.oL (Y.ji (x.1.take (x.1.length - 1)) 1).1 (aB .str x.1 ((x.1.length:Int) - 1)) x)
def xh (Y:UpY) (m:List (Int×Int)) (x:aZ):UpY:=if x.2.2.2.2.2.2.2.1 then (Ar Y m x).2.gm (Ar Y m x).1 true else (Ar Y m x).2
def Dr:List aZ->List (Int×Int)->UpY->UpY
 | [],_,Y=>Y
 | x::r,m,Y=>Dr r (Kk.put .int m x.2.1 (Ar Y m x).1) (xh Y m x)
def fK (x y:ByteArray):Int:=if Op.bytesLess x.toList y.toList then -1 else if x.toList==y.toList then 0 else 1
def cmpL:List ByteArray->List ByteArray->Int
 | [],[]=>0
 | [],_::_=> -1
 | _::_,[]=>1
 | x::a,y::b=>if fK x y=0 then cmpL a b else fK x y
theorem Wt {xs ys:List ByteArray} {k:Nat} {x y:ByteArray} (hx:xs[k]?=some x) (hy:ys[k]?=some y):cmpL (xs.drop k) (ys.drop k)=if fK x y=0 then cmpL (xs.drop (k+1)) (ys.drop (k+1)) else fK x y:=by
 obtain ⟨h1,rfl⟩:=aw.1 hx;obtain ⟨h2,rfl⟩:=aw.1 hy;rw [bO h1,bO h2];rfl
theorem jK (x y:ByteArray):(Op.bytesLess x.toList y.toList=true/\fK x y= -1)\/(x.toList=y.toList/\fK x y=0)\/(Op.bytesLess y.toList x.toList=true/\fK x y=1):=by
 grind [fK, QW]
theorem rr {x y z:ByteArray} (h:fK x y< 0) (k:fK y z< 0):fK x z< 0:=by
 rcases jK x y with ⟨h1,e⟩| ⟨_,e⟩| ⟨_,e⟩<;>rw [e] at h<;>try omega
 rcases jK y z with ⟨k1,e2⟩| ⟨_,e2⟩| ⟨_,e2⟩<;>rw [e2] at k<;>try omega
 unfold fK;rw [DR h1 k1,if_pos rfl];decide
theorem A6 {x y:ByteArray} (h:fK x y=0):x.toList=y.toList:=by
 rcases jK x y with ⟨_,e⟩| ⟨h1,_⟩| ⟨_,e⟩;omega;exact h1;omega
theorem vU {x y z u:ByteArray} (h:x.toList=y.toList) (k:z.toList=u.toList):fK x z=fK y u:=by grind [fK]
theorem nZ (x:ByteArray):fK x x=0:=by grind [fK, QX]
theorem Wr (x y:ByteArray):fK y x= - fK x y:=by
 grind [jK, fK, DS]
theorem ju:∀ a:List ByteArray,cmpL a a=0
 | []=>rfl
 | x::a=>by unfold cmpL;rw [nZ,if_pos rfl,ju a]
theorem mg:∀ a b:List ByteArray,cmpL b a= - cmpL a b
 | [],[]=>rfl
 | [],_::_=>rfl
 | _::_,[]=>rfl
 | x::a,y::b=>by
  unfold cmpL;rw [Wr x y,mg a b];omega
theorem Dw:∀ {a b c:List ByteArray},cmpL a b=0->cmpL a c=cmpL b c
 | [],[],_,_=>rfl
 | [],_::_,_,h=>by cases h
 | _::_,[],_,h=>by cases h
 | x::a,y::b,[],_=>rfl
 | x::a,y::b,z::c,h=>by
  unfold cmpL at h ⊢;by_cases e:fK x y=0
  .rw [if_pos e] at h;rw [Dw h,vU (z:=z) (A6 e) rfl]
  omega
theorem ru:∀ {a b c:List ByteArray},cmpL a b< 0->cmpL b c< 0->cmpL a c< 0
 | [],[],_,h,_=>by omega
 | [],_::_,[],_,k=>by trivial
 | [],_::_,_::_,_,_=>by assumption
 | _::_,[],_,h,_=>by trivial
 | _::_,_::_,[],_,k=>by assumption
 | x::a,y::b,z::c,h,k=>by
  unfold cmpL at h k ⊢;by_cases e1:fK x y=0
  .rw [if_pos e1] at h;rw [vU (z:=z) (A6 e1) rfl];by_cases e2:fK y z=0
   .rw [if_pos e2] at k ⊢;exact ru h k
   omega
  .rw [if_neg e1] at h;by_cases e2:fK y z=0
   .have:fK x z=fK x y:=vU (x:=x) rfl (A6 e2).symm;omega
   .rw [if_neg e2] at k;have:=rr h k;omega
theorem Au {a b c:List ByteArray} (h:¬cmpL a b< 0) (k:¬cmpL b c< 0):¬cmpL a c< 0:=λq=>by
 have s1:=mg a b;by_cases e1:cmpL a b=0
 .grind [Dw]
 .have h1:cmpL b a< 0:=by omega
  exact k (ru h1 q)
variable {Y:UpY}
theorem tu (s:ByteArray) (l:List ByteArray) (r:Int):Y.ji (s::l) r=if Y.mz r s=0 then Y.ji l (Y.Ti r s).2.2.1 else (0,Y.mz r s):=rfl
theorem uP:∀ (p q:List ByteArray) (r:Int),Y.ji (p++q) r=if (Y.ji p r).2=0 then Y.ji q (Y.ji p r).1 else (0,(Y.ji p r).2)
 | [],q,r=>by simp [UpY.ji]
 | s::p,q,r=>by
  rw [dV,tu,tu];by_cases h:Y.mz r s=0;rw [if_pos h,if_pos h];exact uP p q _;rw [if_neg h,if_neg h,if_neg h]
theorem GI {d:Int} {s:ByteArray}:Y.mz d s=0↔Y.lC d=0/\∃ e,Y.k8 d s=some e:=by
 grind [UpY.mz]
theorem Nf {d:Int} {s:ByteArray} {e:UJ} (hd:Y.lC d=0) (he:Y.k8 d s=some e):(Y.Ti d s).2.2.1=e.2.2.1:=by
 grind [UpY.Ti]
theorem akj (w:Y.Wf) {e:UJ} (he:e∈Y.E):Y.k8 e.1 e.2.1=some e:=by
 cases hf:Y.k8 e.1 e.2.1 with
 | none=>grind [xk]
 | some x=>
  obtain ⟨h1,h2,h3⟩:=TJ hf;have:∀ {l:List UJ},(l.map λe=>(e.1,e.2.1)).Nodup->x∈l->e∈l->x=e:=by
   intro l
   induction l with
   | nil=>grind
   | cons a l ih=>
    grind
  rw [this w.ne h1 he]
theorem Qt (w:Y.Wf) {p:List ByteArray} {s:ByteArray} {r z:Int}:Y.ji (p++ [s]) r=(z,0)↔∃ d,Y.ji p r=(d,0)/\Y.lC d=0/\(d,s,z,())∈Y.E:=by
 rw [uP];constructor
 .intro h;split at h
  .refine ⟨(Y.ji p r).1,by grind,?_⟩;unfold UpY.ji at h;split at h
   .rename_i hl;obtain ⟨hd,e,he⟩:=GI.1 hl;rw [Nf hd he] at h;unfold UpY.ji at h;obtain ⟨h1,h2,h3⟩:=TJ he
    grind
   grind
  grind
 .rintro ⟨d,h1,hd,he⟩;have:=akj w he;rw [h1,if_pos rfl,tu,if_pos (GI.2 ⟨hd,_,this⟩),Nf hd this];rfl
theorem BU {a b:ByteArray} (h:a.data.toList=b.data.toList):a=b:=by
 obtain ⟨x⟩:=a;simp_all
theorem afx {a b:ByteArray} (h:a.data.toList<=b.data.toList) (hn:a≠b):fK a b< 0:=by
 rcases jK a b with ⟨_,e⟩| ⟨h1,_⟩| ⟨h1,_⟩;omega
 .grind [Lib.toList_data, BU]
 .have:=aet b a
  grind [rG]
theorem Dx:∀ (p a b:List ByteArray),cmpL (p++a) (p++b)=cmpL a b
 | [],_,_=>rfl
 | s::p,a,b=>by
  have:cmpL (s::(p++a)) (s::(p++b))=if fK s s=0 then cmpL (p++a) (p++b) else fK s s:=rfl
  rw [dV,dV,this,nZ,if_pos rfl];exact Dx p a b
theorem N1 (p:List ByteArray) (s:ByteArray) (t:List ByteArray):cmpL p (p++s::t)< 0:=by
 have:=Dx p [] (s::t)
 grind [cmpL]
theorem F8 {α:Type} {R:α->α->Prop} (ha:∀ a b,R a b->¬R b a):∀ {l k:List α},l.Pairwise R->k.Pairwise R->(∀ x,x∈l↔x∈k)->l=k
 | [],[],_,_,_=>rfl
 | [],y::k,_,_,h=>by grind [aK]
 | x::l,[],_,_,h=>by grind [aK]
 | x::l,y::k,h1,h2,h=>by
  obtain ⟨a1,a2⟩:=eY.1 h1;obtain ⟨b1,b2⟩:=eY.1 h2;have e:x=y:=by
   grind [aK]
  subst e;refine congrArg (x:: ·) (F8 ha a2 b2 λz=>?_)
  grind
end Go.Lm

namespace Go.Lm
open Go
variable {Y:UpY}
def aZ.gy (x:aZ) (k:Int):aZ:=(x.1,k,x.2.2)
def aZ.bare (x:aZ):aZ:=([],x.2)
def pq (l:List ByteArray):ByteArray:=aB .str l ((l.length:Int) - 1)
def ZW (c:aZ):Int:=if c.1.length=0 then 0 else ((pq c.1).size:Int)
theorem BY {l:List ByteArray} (h:l.length≠0):l=l.take (l.length - 1)++ [pq l]:=by
 have:=mq (e:=.str) (l:=l) (k:=(l.length:Int) - 1) (by omega) (by omega);rw [show ((l.length:Int) - 1+1).toNat=l.length by omega,show ((l.length:Int) - 1).toNat=l.length - 1 by omega,eK] at this
 assumption
theorem GN (p:List ByteArray) (s:ByteArray):pq (p++ [s])=s:=by
 have h:=BY (l:=p++ [s]) (by simp);have h2:=congrArg List.getLast? h
 grind
def abU (acc:List aZ) (c:aZ):List aZ:=if acc.any (vZ c.2.1) then acc else acc++ [c.bare]
def qY (C:List aZ):List aZ:=C.foldl abU []
theorem Jn (C:List aZ) (c:aZ):qY (C++ [c])=abU (qY C) c:=by grind [qY]
structure IsB (Y:UpY) (C:List aZ):Prop where
 wf:Y.Wf
 L:Y.L=qY C
 get:∀ c∈C,Y.at c.2.1=some c.bare
 k8:∀ e,e∈Y.E↔∃ c∈C,∃ y∈C,y.2.2.1=1/\∃ s,c.1=y.1++ [s]/\e=(y.2.1,s,c.2.1,())
 sum:(Y.E.map λe=>(e.2.1.size:Int)).sum=(C.map ZW).sum
 root:∀ c∈C,c.1= []->c.2.1=1
 has:∃ c∈C,c.1= []
 aaL:∀ c∈C,∀ d∈C,c.2.2.1=1\/c.2.2.1=4->d.2.1=c.2.1->d=c
 par:∀ c∈C,c.1≠ []->∃ y∈C,y.2.2.1=1/\∃ s,c.1=y.1++ [s]
 nm:C.Pairwise λa b=>a.1≠b.1
theorem ZI {C:List aZ} (h:C.Pairwise λa b=>a.1≠b.1) {a b:aZ} (ha:a∈C) (hb:b∈C) (e:a.1=b.1):a=b:=by
 induction C with
 | nil=>cases ha
 | cons x C ih=>
  grind [eY]
namespace IsB
variable {C:List aZ}
theorem dir (h:IsB Y C) {y:aZ} (hy:y∈C) (hk:y.2.2.1=1):Y.lC y.2.1=0:=iU.2 ⟨y.bare,h.get y hy,hk⟩
theorem ag8 (h:IsB Y C):∀ (n:Nat) (c:aZ),c∈C->c.1.length<=n->Y.ji c.1 1=(c.2.1,0)
 | 0,c,hc,hn=>by
  have e:c.1= []:=by grind
  rw [e,h.root c hc e];rfl
 | n+1,c,hc,hn=>by
  by_cases e:c.1= [];rw [e,h.root c hc e];rfl
  .obtain ⟨y,hy,hk,s,hs⟩:=h.par c hc e;have ih:=h.ag8 n y hy (by grind);rw [hs];exact (Qt h.wf).2 ⟨y.2.1,ih,h.dir hy hk,(h.k8 _).2 (by grind)⟩
theorem fresh (h:IsB Y C) {y:aZ} {s:ByteArray} (hy:y∈C) (hk:y.2.2.1=1) (hv:dh s=0) (kZ:∀ c∈C,c.1≠y.1++ [s]):Y.rk y.2.1 s=0/\Y.k8 y.2.1 s=none:=by
 have he:Y.k8 y.2.1 s=none:=xk.2 λe he=>by
  rintro ⟨h1,h2⟩;obtain ⟨c,hc,y',OS,AK,s',hs,rfl⟩:=(h.k8 e).1 he;have:=h.aaL y hy y' OS (.inl hk) h1
  grind
 refine ⟨?_,he⟩;unfold UpY.rk;rw [if_pos (h.dir hy hk),if_pos hv,he]
theorem lt (h:IsB Y C) {c:aZ} (hc:c∈C):c.2.1< Y.nx:=by
 obtain ⟨h1,h2⟩:=at_mem (h.get c hc);have:=(h.wf.lo _ h1).2;omega
theorem amU (h:IsB Y C):(qY C).any (vZ Y.nx)=false:=by
 rw [<-h.L,List.any_eq_false];intro n hn;have:=(h.wf.lo n hn).2
 grind [vZ]
theorem amH (h:IsB Y C) {c:aZ} (hc:c∈C):(qY C).any (vZ c.2.1)=true:=by
 rw [<-h.L,List.any_eq_true];obtain ⟨h1,h2⟩:=at_mem (h.get c hc)
 grind [vZ]
theorem more (h:IsB Y C) {Y':UpY} {x y:aZ} {s:ByteArray} (hy:y∈C) (hk:y.2.2.1=1) (hx:x.1=y.1++ [s]) (kZ:∀ c∈C,c.1≠x.1) (w:Y'.Wf) (hL:Y'.L=abU (qY C) x) (hE:Y'.E=Y.E++ [(y.2.1,s,x.2.1,())])
  (NC:Y'.at x.2.1=Option.some x.bare) (hold:∀ c∈C,Y'.at c.2.1=Y.at c.2.1) (hd1:x.2.2.1=1\/x.2.2.1=4->∀ c∈C,c.2.1≠x.2.1) (hd2:∀ c∈C,c.2.2.1=1\/c.2.2.1=4->x.2.1≠c.2.1):IsB Y' (C++ [x]) where
 wf:=w
 L:=by rw [Jn];exact hL
 get:=λc hc=>by
  rcases aX.1 hc with hc| hc;rw [hold c hc];exact h.get c hc
  .obtain rfl:c=x:=by simpa using hc
   exact NC
 k8:=λe=>by
  rw [hE,aX];constructor
  .rintro (he| he)
   .obtain ⟨c,hc,y',OS,r⟩:=(h.k8 e).1 he;exact ⟨c,by simp [hc],y',by simp [OS],r⟩
   .obtain rfl:e=_:=by simpa using he
    exact ⟨x,by simp,y,by simp [hy],hk,s,hx,rfl⟩
  .rintro ⟨c,hc,y',OS,AK,s',hs,rfl⟩;rcases aX.1 OS with hyC| hyC
   .rcases aX.1 hc with Xs| Xs
    .exact .inl ((h.k8 _).2 ⟨c,Xs,y',hyC,AK,s',hs,rfl⟩)
    .have ec:c=x:=by simpa using Xs
     rw [ec] at hs ⊢;have e:=List.append_inj' (hx.symm.trans hs) rfl;have:=ZI h.nm hy hyC e.1;subst this;have es:s=s':=by simpa using e.2
     subst es;exact .inr (by simp)
   .have ey:y'=x:=by simpa using hyC
    rw [ey] at hs;rcases aX.1 hc with Xs| Xs
    .obtain ⟨y2,hy2,_,s2,hs2⟩:=h.par c Xs (by rw [hs];simp);exact absurd (List.append_inj' (hs2.symm.trans hs) rfl).1 (kZ y2 hy2)
    .have ec:c=x:=by simpa using Xs
     rw [ec] at hs;have:=congrArg List.length hs;simp at this
 sum:=by
  rw [hE,jc,List.sum_append,h.sum,jc,List.sum_append];have:ZW x=(s.size:Int):=by
   unfold ZW;rw [hx,if_neg (by simp),GN]
  simp [this]
 root:=λc hc e=>by
  rcases aX.1 hc with hc| hc;exact h.root c hc e
  .obtain rfl:c=x:=by simpa using hc
   rw [hx] at e;exact absurd e (by simp)
 has:=by
  obtain ⟨c,hc,e⟩:=h.has;exact ⟨c,by simp [hc],e⟩
 aaL:=λc hc d hd AK e=>by
  rcases aX.1 hc with Xs| Xs
  .rcases aX.1 hd with Eh| Eh
   .exact h.aaL c Xs d Eh AK e
   .have ed:d=x:=by simpa using Eh
    rw [ed] at e;exact absurd e (hd2 c Xs AK)
  .have ec:c=x:=by simpa using Xs
   rw [ec] at AK e ⊢;rcases aX.1 hd with Eh| Eh;exact absurd e (hd1 AK d Eh);simpa using Eh
 par:=λc hc e=>by
  rcases aX.1 hc with hc| hc
  .obtain ⟨y',OS,r⟩:=h.par c hc e;exact ⟨y',by simp [OS],r⟩
  .obtain rfl:c=x:=by simpa using hc
   exact ⟨y,by simp [hy],hk,s,hx⟩
 nm:=by
  rw [nC];refine ⟨h.nm,by simp,λa ha b hb=>?_⟩;obtain rfl:b=x:=by simpa using hb
  exact kZ a ha
end IsB
theorem yV {x:aZ} (h:P0 x=true):wU x=true/\(x.2.2.2.2.2.2.2.1=true->x.2.2.1=1):=by
 unfold P0 at h;by_cases h4:x.2.2.1=4
 .grind [ak1, wU, aZ.dU]
 .rw [if_neg h4] at h;unfold wU;rw [if_neg h4];by_cases h1:x.2.2.1=1
  .rw [if_pos h1] at h;exact ⟨h,λ_=>h1⟩
  .grind [gr, aZ.dU]
namespace IsB
variable {C:List aZ}
theorem make (h:IsB Y C) {x y:aZ} {s:ByteArray} (hy:y∈C) (hk:y.2.2.1=1) (hx:x.1=y.1++ [s]) (hv:dh s=0) (kZ:∀ c∈C,c.1≠x.1) (hm:P0 x=true):
  Y.Th y.2.1 s x=Y.nx/\IsB (if x.2.2.2.2.2.2.2.1 then (Y.oL y.2.1 s x).gm Y.nx true else Y.oL y.2.1 s x) (C++ [x.gy Y.nx])/\(if x.2.2.2.2.2.2.2.1 then (Y.oL y.2.1 s x).gm Y.nx true else Y.oL y.2.1 s x).nx=Y.nx+1:=by
 obtain ⟨OU,hm2⟩:=yV hm;have hE:Y.Nc y.2.1 s x=0:=by
  unfold UpY.Nc;rw [if_pos (h.fresh hy hk hv (λc hc=>by rw [<-hx];exact kZ c hc)).1,if_pos OU]
 have e1:Y.oL y.2.1 s x= {Y with L:=Y.L++ [Y.qZ x],E:=Y.E++ [(y.2.1,s,Y.nx,())],nx:=Y.nx+1}:=by unfold UpY.oL;rw [if_pos hE]
 have hlo:∀ n∈Y.L,vZ Y.nx n=false:=λn hn=>by
  have:=(h.wf.lo n hn).2;unfold vZ;simp;omega
 have uN:(Y.oL y.2.1 s x).at Y.nx=Option.some (Y.qZ x):=by
  rw [e1];unfold UpY.at
  rw [List.find?_append,List.find?_eq_none.2 λn hn=>by rw [hlo n hn];simp];simp [vZ,UpY.qZ]
 have ok1:=ZB (n:=Y.E.length+Y.nx.toNat) ⟨h.wf,by omega,by omega⟩ y.2.1 s x;have ajS:pT (Y.L++ [Y.qZ x]) Y.nx (·.dU true)=Y.L++ [(Y.qZ x).dU true]:=by
  unfold pT;rw [jc];congr 1
  .conv=>rhs;rw [<-List.map_id Y.L]
   exact jv λn hn=>by rw [hlo n hn];rfl
  .simp [vZ,UpY.qZ]
 have e2:(if x.2.2.2.2.2.2.2.1 then (Y.oL y.2.1 s x).gm Y.nx true else Y.oL y.2.1 s x)= {Y with L:=Y.L++ [(x.gy Y.nx).bare],E:=Y.E++ [(y.2.1,s,Y.nx,())],nx:=Y.nx+1}:=by
  cases ho:x.2.2.2.2.2.2.2.1 with
  | true=>
   rw [if_pos rfl];unfold UpY.gm;rw [if_pos (iU.2 ⟨_,uN,hm2 ho⟩),e1];rw [ajS];have:(Y.qZ x).dU true=(x.gy Y.nx).bare:=by unfold UpY.qZ aZ.dU aZ.gy aZ.bare;rw [<-ho]
   rw [this]
  | false=>
   rw [if_neg (by simp),e1];have:Y.qZ x=(x.gy Y.nx).bare:=by unfold UpY.qZ aZ.gy aZ.bare;rw [<-ho]
   rw [this]
 have hw:({Y with L:=Y.L++ [(x.gy Y.nx).bare],E:=Y.E++ [(y.2.1,s,Y.nx,())],nx:=Y.nx+1}:UpY).Wf:=by
  rw [<-e2];split;exact (uJ ok1 _ _).wf;exact ok1.wf
 refine ⟨by unfold UpY.Th;rw [if_pos hE],?_,by rw [e2]⟩;rw [e2];refine h.more (y:=y) (s:=s) hy hk hx kZ hw ?_ rfl ?_ (λc hc=>?_) (λ_ c hc=>?_) (λc hc _=>?_)
 .unfold abU;rw [show (x.gy Y.nx).2.1=Y.nx from rfl,h.amU,<-h.L];rfl
 .unfold UpY.at
  rw [List.find?_append,List.find?_eq_none.2 λn hn=>by rw [show (x.gy Y.nx).2.1=Y.nx from rfl,hlo n hn];simp];simp [vZ,aZ.bare,aZ.gy]
 .have hg:=h.get c hc;unfold UpY.at at hg ⊢;rw [List.find?_append,hg];rfl
 .have:=h.lt hc;show c.2.1≠Y.nx;omega
 .have:=h.lt hc;show Y.nx≠c.2.1;omega
theorem link (h:IsB Y C) {x y c0:aZ} {s:ByteArray} (hy:y∈C) (hk:y.2.2.1=1) (hx:x.1=y.1++ [s]) (hv:dh s=0) (kZ:∀ c∈C,c.1≠x.1) (hc0:c0∈C) (ha:x.2.2=c0.2.2) (re:x.2.2.1≠1) (hk4:x.2.2.1≠4):
  IsB (Y.rS y.2.1 s c0.2.1) (C++ [x.gy c0.2.1])/\(Y.rS y.2.1 s c0.2.1).nx=Y.nx:=by
 have hg:=h.get c0 hc0;have hk0:c0.2.2.1≠1:=by rw [<-ha];exact re
 have hE:Y.Nj y.2.1 s c0.2.1=0:=by
  unfold UpY.Nj;rw [hg,h.get y hy];simp only;rw [if_pos (h.fresh hy hk hv (λc hc=>by rw [<-hx];exact kZ c hc)).1];exact if_neg hk0
 have e1:Y.rS y.2.1 s c0.2.1= {Y with E:=Y.E++ [(y.2.1,s,c0.2.1,())]}:=by unfold UpY.rS;rw [if_pos hE]
 have ok1:=(ZC (n:=Y.E.length+Y.nx.toNat) ⟨h.wf,by omega,by omega⟩ y.2.1 s c0.2.1).wf;rw [e1] at ok1 ⊢;refine ⟨h.more (x:=x.gy c0.2.1) (y:=y) (s:=s) hy hk hx kZ ok1 ?_ rfl ?_ (λ_ _=>rfl) (λe=>absurd e (λq=>q.elim re hk4)) (λc hc hkc e=>?_),rfl⟩
 .unfold abU;rw [show (x.gy c0.2.1).2.1=c0.2.1 from rfl,if_pos (h.amH hc0)];exact h.L
 .show Y.at c0.2.1=_
  grind [aZ.bare, aZ.gy]
 .have:=h.aaL c hc c0 hc0 hkc e
  grind
end IsB
end Go.Lm

namespace Go.Lm
open Go
variable {Y:UpY}
theorem eR {k:Kk} {α:Type} {l:List (k.den×α)} {x:k.den} {v:α}:Kk.get k (Kk.put k l x v) x=some v:=by
 unfold Kk.get Kk.put iT qX;simp
theorem iw {k:Kk} {α:Type} {l:List (k.den×α)} {x y:k.den} {v:α} (h:y≠x):Kk.get k (Kk.put k l x v) y=Kk.get k l y:=by
 grind [Kk.get, Kk.put, iT, qX, pf]
theorem kD {k:Kk} {α:Type} {l:List (k.den×α)} {x:k.den} {v:α} (h:Kk.get k l x=none):(Kk.put k l x v).length=l.length+1:=by
 grind [Kk.put, qX, pf, k9, Kk.get, iT, Option.map_eq_none_iff]
def bJ:List aZ->List (Int×Int)->List aZ
 | [],_=>[]
 | x::r,m=>match Kk.get .int m x.2.1 with
  | some k=>x.gy k::bJ r m
  | none=>x.gy ((m.length:Int)+1)::bJ r (Kk.put .int m x.2.1 ((m.length:Int)+1))
theorem gp {x:aZ} {r:List aZ} {m:List (Int×Int)} {k:Int} (h:Kk.get .int m x.2.1=some k):bJ (x::r) m=x.gy k::bJ r m:=by
 grind [bJ]
theorem fO {x:aZ} {r:List aZ} {m:List (Int×Int)} (h:Kk.get .int m x.2.1=none):bJ (x::r) m=x.gy ((m.length:Int)+1)::bJ r (Kk.put .int m x.2.1 ((m.length:Int)+1)):=by
 grind [bJ]
theorem Gb (x:aZ):x.gy x.2.1=x:=rfl
theorem vE (f:aZ->aZ) (hf:∀ x,(f x).2.1=x.2.1):∀ (R:List aZ) (m m2:List (Int×Int)),(∀ i k,Kk.get .int m i=some k->Kk.get .int m2 k=some k)->m2.length=m.length->(∀ k:Int,Kk.get .int m2 k≠none->k<=m.length)->bJ ((bJ R m).map f) m2=(bJ R m).map f
 | [],_,_,_,_,_=>rfl
 | x::R,m,m2,h1,h2,h3=>by
  cases hg:Kk.get .int m x.2.1 with
  | some k=>
   have e:(f (x.gy k)).2.1=k:=hf _;rw [gp hg,cE,gp (show Kk.get .int m2 (f (x.gy k)).2.1=some k by rw [e];exact h1 _ _ hg),vE f hf R m m2 h1 h2 h3];have:=Gb (f (x.gy k));rw [e] at this;rw [this]
  | none=>
   have e:(f (x.gy ((m.length:Int)+1))).2.1=(m.length:Int)+1:=hf _;have hn:Kk.get .int m2 ((m.length:Int)+1)=none:=by
    grind
   rw [fO hg,cE,fO (show Kk.get .int m2 (f (x.gy ((m.length:Int)+1))).2.1=none by rw [e];exact hn),e,h2,vE f hf R (Kk.put .int m x.2.1 ((m.length:Int)+1)) (Kk.put .int m2 ((m.length:Int)+1) ((m.length:Int)+1)) ?_ ?_ ?_]
   .have:=Gb (f (x.gy ((m.length:Int)+1)));rw [e] at this;rw [this]
   .intro i k hk;by_cases hi:i=x.2.1
    .subst hi;rw [eR] at hk;obtain rfl:=aj hk;exact eR
    grind [iw]
   .rw [kD hn,kD hg,h2]
   grind [kD, iw]
theorem V9 (a b:Int) {x:aZ} (hx:x.1= []) (hk:x.2.2.1=1) (hm:P0 x=true):
  IsB (if x.2.2.2.2.2.2.2.1 then (((UpY.new a b).gQ 1 x.2.2.2.1).fw 1 x.2.2.2.2.2.2.1).gm 1 true else ((UpY.new a b).gQ 1 x.2.2.2.1).fw 1 x.2.2.2.2.2.2.1) [x.gy 1]
  /\(if x.2.2.2.2.2.2.2.1 then (((UpY.new a b).gQ 1 x.2.2.2.1).fw 1 x.2.2.2.2.2.2.1).gm 1 true else ((UpY.new a b).gQ 1 x.2.2.2.1).fw 1 x.2.2.2.2.2.2.1).nx=2:=by
 obtain ⟨OU,_⟩:=yV hm;obtain ⟨p,i,k,at',dt,tg,xs,op,u⟩:=x;subst hx hk;unfold wU aZ.dU gr at OU;simp only [show ¬(1:Int)=4 by decide,if_false,if_true,ak,beq_iff_eq,Bool.not_false,and_true] at OU;obtain ⟨⟨⟨h1,h2⟩,h3⟩,h4⟩:=OU;have hdt:dt= []:=by simp_all
 have htg:=gD.1 h2;subst hdt htg;have e1:(UpY.new a b).gQ 1 at'=⟨a,b,[([],1,1,at',[],⟨#[]⟩,[],false,())],[],2⟩:=by
  have:(UpY.new a b).B8 1 at'=0:=by
   have hma:aeT at'=true:=h3;show (if (1:Int)=4\/aeT at'=false then (1:Int) else 0)=0
   grind
  unfold UpY.gQ;rw [if_pos this];rfl
 have e2:((UpY.new a b).gQ 1 at').fw 1 xs=⟨a,b,[([],1,1,at',[],⟨#[]⟩,xs,false,())],[],2⟩:=by
  rw [e1];have:(⟨a,b,[([],1,1,at',[],⟨#[]⟩,[],false,())],[],2⟩:UpY).vb 1 xs=0:=by
   show (if (1:Int)=4\/dF xs=false then (1:Int) else 0)=0
   grind
  unfold UpY.fw;rw [if_pos this];rfl
 have ok:=Er (M0 (aeR a b) 1 at') 1 xs;have e3:(if op then (((UpY.new a b).gQ 1 at').fw 1 xs).gm 1 true else ((UpY.new a b).gQ 1 at').fw 1 xs)=⟨a,b,[([],1,1,at',[],⟨#[]⟩,xs,op,())],[],2⟩:=by
  cases op with
  | true=>
   rw [if_pos rfl,e2];rfl
  | false=>grind
 have hw:(⟨a,b,[([],1,1,at',[],⟨#[]⟩,xs,op,())],[],2⟩:UpY).Wf:=by
  rw [<-e3];split;exact (uJ ok _ _).wf;exact ok.wf
 rw [e3];refine ⟨⟨hw,rfl,λc hc=>?_,λe=>⟨λhe=>(by cases he),?_⟩,rfl,λc hc _=>?_,⟨_,aW.2 rfl,rfl⟩,λc hc d hd _ _=>?_,λc hc e=>?_,by simp⟩,rfl⟩
 .obtain rfl:=aW.1 hc;rfl
 .simp
 .obtain rfl:=aW.1 hc;rfl
 .grind
 .obtain rfl:=aW.1 hc;trivial
structure UH (L:List aZ):Prop where
 nm:∀ x∈L,∀ s∈x.1,dh s=0
 ord:L.Pairwise λa b=>cmpL a.1 b.1< 0
 root:∃ x∈L,x.1= []
 agx:∀ x∈L,x.1= []->x.2.2.1=1
 par:∀ x∈L,x.1.length≠0->∃ y∈L,y.2.2.1=1/\y.1=x.1.take (x.1.length - 1)
 may:∀ x∈L,P0 x=true
 one:L.Pairwise λa b=>a.2.1=b.2.1->b.2.2.1≠1/\b.2.2.1≠4/\b.2.2=a.2.2
structure UI (Y:UpY) (C D:List aZ) (m mm:List (Int×Int)):Prop where
 b:IsB Y C
 get:∀ i,Kk.get .int m i=Kk.get .int mm i
 agn:C=D.map λy=>y.gy ((Kk.get .int mm y.2.1).getD 0)
 key:∀ i,(Kk.get .int mm i).isSome=true↔∃ y∈D,y.2.1=i
 len:(mm.length:Int)+1=Y.nx
theorem xq (a:List ByteArray):¬cmpL a []< 0:=by cases a<;>(unfold cmpL;decide)
theorem JI:∀ (R D:List aZ) {Y:UpY} {C:List aZ} {m mm:List (Int×Int)},UH (D++R)->D≠ []->UI Y C D m mm->IsB (Dr R m Y) (C++bJ R mm)
 | [],D,Y,C,m,mm,_,_,h=>by
  rw [show bJ [] mm= [] from rfl,bd];exact h.b
 | x::R,D,Y,C,m,mm,g,hD,h=>by
  have hxm:x∈D++x::R:=by simp
  have ord:=nC.1 g.ord;have hDx:∀ d∈D,cmpL d.1 x.1< 0:=λd hd=>ord.2.2 d hd x aK;have Ev:x.1.length≠0:=λe=>by
   obtain ⟨d,hd⟩:=List.exists_mem_of_ne_nil D hD;have:=hDx d hd;rw [bA e] at this;exact xq _ this
  obtain ⟨y,hy,hyk,hyn⟩:=g.par x hxm Ev;have Dg:=BY Ev;rw [<-hyn] at Dg;have hyx:cmpL y.1 x.1< 0:=by rw [Dg];exact N1 _ _ _
  have hyD:y∈D:=by
   rcases aX.1 hy with h1| h1;exact h1
   .rcases bz.1 h1 with h1| h1
    .rw [h1,ju] at hyx;omega
    .have:=(eY.1 ord.2.1).1 y h1;have:=mg x.1 y.1;omega
  have hC:∀ d∈D,d.gy ((Kk.get .int mm d.2.1).getD 0)∈C:=λd hd=>by rw [h.agn];exact bq.2 ⟨d,hd,rfl⟩
  have hcy:=hC y hyD;generalize anD:y.gy ((Kk.get .int mm y.2.1).getD 0)=cy at hcy;have anE:cy.1=y.1:=by rw [<-anD];rfl
  have anC:cy.2.2.1=1:=by rw [<-anD];exact hyk
  have Aj:x.1=cy.1++ [pq x.1]:=by rw [anE];exact Dg
  have kZ:∀ c∈C,c.1≠x.1:=λc hc e=>by
   rw [h.agn] at hc;obtain ⟨d,hd,rfl⟩:=bq.1 hc;have:=hDx d hd;rw [show d.1=x.1 from e,ju] at this;omega
  have hv:dh (pq x.1)=0:=g.nm x hxm _ (by rw [Aj,GN];simp);have ano:=g.may x hxm;have hf:(Y.ji (x.1.take (x.1.length - 1)) 1).1=cy.2.1:=by
   rw [<-hyn,<-anE,h.b.ag8 _ cy hcy (aG _)]
  have g':UH ((D++ [x])++R):=by rw [aL];exact g
  have hD':D++ [x]≠ []:=by simp
  have Xr:Ar Y m x=match Kk.get .int m x.2.1 with
   | some r=>(r,Y.rS cy.2.1 (pq x.1) r)
   | none=>(Y.Th cy.2.1 (pq x.1) x,Y.oL cy.2.1 (pq x.1) x):=by
   unfold Ar;rw [if_neg Ev,hf];rfl
  unfold Dr;have hmg:=h.get x.2.1;cases hg:Kk.get .int mm x.2.1 with
  | some r=>
   rw [gp hg];rw [hg] at hmg;rw [hmg] at Xr;simp only at Xr;obtain ⟨d,hd,Qo⟩:=(h.key x.2.1).1 (by rw [hg];rfl);have hc0:=hC d hd;rw [Qo,hg] at hc0;have qp:=(nC.1 g.one).2.2 d hd x aK Qo;obtain ⟨l1,l2⟩:=h.b.link (x:=x) hcy anC Aj hv kZ hc0 qp.2.2 qp.1 qp.2.1;have l1:IsB (Y.rS cy.2.1 (pq x.1) r) (C++ [x.gy r]):=l1;have l2:(Y.rS cy.2.1 (pq x.1) r).nx=Y.nx:=l2;have hop:x.2.2.2.2.2.2.2.1=false:=by
    cases ho:x.2.2.2.2.2.2.2.1 with
    | false=>rfl
    | true=>exact absurd ((yV ano).2 ho) qp.1
   have hfy:xh Y m x=Y.rS cy.2.1 (pq x.1) r:=by
    unfold xh;rw [hop,Xr];rfl
   rw [hfy,Xr];simp only;have st:UI (Y.rS cy.2.1 (pq x.1) r) (C++ [x.gy r]) (D++ [x]) (Kk.put .int m x.2.1 r) mm:=by
    refine ⟨l1,λi=>?_,?_,λi=>?_,by rw [l2];exact h.len⟩
    .by_cases hi:i=x.2.1
     .rw [hi,eR,hg]
     .rw [iw hi,h.get i]
    .rw [jc,<-h.agn];simp [hg]
    .rw [h.key i];constructor
     .rintro ⟨z,hz,e⟩;exact ⟨z,by simp [hz],e⟩
     .rintro ⟨z,hz,e⟩;rcases aX.1 hz with hz| hz
      .exact ⟨z,hz,e⟩
      .obtain rfl:=aW.1 hz;exact ⟨d,hd,Qo.trans e⟩
   have:=JI R (D++ [x]) g' hD' st
   rwa [aL] at this
  | none=>
   rw [fO hg];rw [hg] at hmg;rw [hmg] at Xr;simp only at Xr;obtain ⟨k1,k2,k3⟩:=h.b.make (x:=x) hcy anC Aj hv kZ ano;rw [k1] at Xr;have hfy:xh Y m x=if x.2.2.2.2.2.2.2.1 then (Y.oL cy.2.1 (pq x.1) x).gm Y.nx true else Y.oL cy.2.1 (pq x.1) x:=by
    unfold xh;rw [Xr]
   rw [<-hfy] at k2 k3;rw [Xr];simp only;rw [h.len];have st:UI (xh Y m x) (C++ [x.gy Y.nx]) (D++ [x]) (Kk.put .int m x.2.1 Y.nx) (Kk.put .int mm x.2.1 Y.nx):=by
    refine ⟨k2,λi=>?_,?_,λi=>?_,?_⟩
    .by_cases hi:i=x.2.1
     .rw [hi,eR,eR]
     .rw [iw hi,iw hi,h.get i]
    .rw [jc];congr 1
     .rw [h.agn];refine jv λd hd=>?_;have:d.2.1≠x.2.1:=λe=>by
       have:=(h.key x.2.1).2 ⟨d,hd,e⟩;rw [hg] at this;cases this
      rw [iw this]
     .simp [eR]
    .by_cases hi:i=x.2.1
     .rw [hi,eR];exact ⟨λ_=>⟨x,by simp,rfl⟩,λ_=>rfl⟩
     .rw [iw hi,h.key i];constructor
      .rintro ⟨z,hz,e⟩;exact ⟨z,by simp [hz],e⟩
      .rintro ⟨z,hz,e⟩;rcases aX.1 hz with hz| hz
       .exact ⟨z,hz,e⟩
       .obtain rfl:=aW.1 hz;exact absurd e.symm hi
    .rw [kD hg,k3,<-h.len];simp
   have:=JI R (D++ [x]) g' hD' st
   rwa [aL] at this
theorem aaB (a b:Int) {L:List aZ} (g:UH L):IsB (Dr L [] (UpY.new a b)) (bJ L []):=by
 obtain ⟨ρ,hρ,e0⟩:=g.root;cases L with
 | nil=>cases hρ
 | cons x R=>
  have hx:x.1= []:=by
   rcases bz.1 hρ with e| h
   .grind
   .have:=(eY.1 g.ord).1 ρ h;simp_all [xq]
  obtain ⟨f1,f2⟩:=V9 a b hx (g.agx x aK hx) (g.may x aK);have hr:Ar (UpY.new a b) [] x=(1,((UpY.new a b).gQ 1 x.2.2.2.1).fw 1 x.2.2.2.2.2.2.1):=by
   grind [Ar]
  have hy:xh (UpY.new a b) [] x=if x.2.2.2.2.2.2.2.1 then (((UpY.new a b).gQ 1 x.2.2.2.1).fw 1 x.2.2.2.2.2.2.1).gm 1 true else ((UpY.new a b).gQ 1 x.2.2.2.1).fw 1 x.2.2.2.2.2.2.1:=by
   grind [xh]
  rw [<-hy] at f1 f2;unfold Dr;have e1:Kk.get .int ([]:List (Int×Int)) x.2.1=none:=rfl;rw [fO e1,hr];have st:UI (xh (UpY.new a b) [] x) [x.gy 1] [x] (Kk.put .int [] x.2.1 1) (Kk.put .int [] x.2.1 1):=by
   refine ⟨f1,λ_=>rfl,by simp [eR],λi=>?_,by rw [f2];rfl⟩;by_cases hi:i=x.2.1
   .grind [eR]
   .rw [iw hi];constructor
    .intro h;cases h
    grind
  exact JI R [x] g (by simp) st
end Go.Lm

namespace Go.Lm
open Go
variable {Y:UpY}
def da:List aZ->List (Int×Int)->List (Int×Int)
 | [],m=>m
 | x::r,m=>match Kk.get .int m x.2.1 with
  | some _=>da r m
  | none=>da r (Kk.put .int m x.2.1 ((m.length:Int)+1))
theorem gf {x:aZ} {r:List aZ} {m:List (Int×Int)} {k:Int} (h:Kk.get .int m x.2.1=some k):da (x::r) m=da r m:=by
 grind [da]
theorem gg {x:aZ} {r:List aZ} {m:List (Int×Int)} (h:Kk.get .int m x.2.1=none):da (x::r) m=da r (Kk.put .int m x.2.1 ((m.length:Int)+1)):=by
 grind [da]
theorem lp:∀ (a b:List aZ) (m:List (Int×Int)),bJ (a++b) m=bJ a m++bJ b (da a m)/\da (a++b) m=da b (da a m)
 | [],_,_=>⟨rfl,rfl⟩
 | x::a,b,m=>by
  rw [dV];cases hg:Kk.get .int m x.2.1 with
  | some k=>
   rw [gp hg,gf hg,gp hg,gf hg,(lp a b m).1,(lp a b m).2];exact ⟨rfl,rfl⟩
  | none=>
   rw [fO hg,gg hg,fO hg,gg hg,(lp a b _).1,(lp a b _).2];exact ⟨rfl,rfl⟩
theorem iq:∀ (a:List aZ) (m:List (Int×Int)),(bJ a m).length=a.length
 | [],_=>rfl
 | x::a,m=>by
  cases hg:Kk.get .int m x.2.1 with
  | some k=>rw [gp hg,av,av,iq a]
  | none=>rw [fO hg,av,av,iq a]
theorem lq:∀ (a:List aZ) (m:List (Int×Int)),(da a m).length<=m.length+a.length
 | [],_=>aG _
 | x::a,m=>by
  cases hg:Kk.get .int m x.2.1 with
  | some k=>
   rw [gf hg,av];have:=lq a m;omega
  | none=>
   rw [gg hg,av];have:=lq a (Kk.put .int m x.2.1 ((m.length:Int)+1));rw [kD hg] at this;omega
namespace IsB
variable {C:List aZ}
end IsB
theorem qh:∀ (L:List aZ) (m:List (Int×Int)),(bJ L m).map (λc=>(c.1,c.2.2))=L.map λc=>(c.1,c.2.2)
 | [],_=>rfl
 | x::L,m=>by
  cases hg:Kk.get .int m x.2.1 with
  | some k=>rw [gp hg,cE,cE,qh L];rfl
  | none=>rw [fO hg,cE,cE,qh L];rfl
theorem aeO {L:List aZ} {m:List (Int×Int)} (h:L.Pairwise λa b=>cmpL a.1 b.1< 0):(bJ L m).Pairwise λa b=>cmpL a.1 b.1< 0:=by
 have e:=qh L m;have h1:(L.map λc=>(c.1,c.2.2)).Pairwise λa b=>cmpL a.1 b.1< 0:=List.pairwise_map.2 h
 grind
theorem Jh {L:List aZ} {m:List (Int×Int)} {c:aZ} (h:c∈bJ L m):∃ x∈L,x.1=c.1/\x.2.2=c.2.2:=by
 have e:=qh L m;have h1:(c.1,c.2.2)∈(bJ L m).map λc=>(c.1,c.2.2):=by grind
 grind
end Go.Lm

namespace Go.Lm
open Go
theorem qF (x y:ByteArray):rG x y=decide (fK x y< 0):=by
 grind [rG, jK, DS]
theorem uq {x y:ByteArray} (h:fK x y=0):x=y:=by
 have:=A6 h
 grind [Lib.toList_data, BU]
theorem n5 (x y:ByteArray) (a b:List ByteArray):cmpL (x::a) (y::b)=if fK x y=0 then cmpL a b else fK x y:=rfl
theorem Wv (b:List ByteArray):decide (cmpL [] b< 0)=decide (0< (b.length:Int)):=by
 cases b with
 | nil=>rfl
 | cons _ _=>simp [cmpL]
theorem Wu (a:List ByteArray):decide (cmpL a []< 0)=false:=decide_eq_false (xq a)
theorem ajI {out:List aZ} {x:aZ} {k:Nat} (h:out.Pairwise λx y=>¬cmpL y.1 x.1< 0) (h1:∀ y∈out.drop k,cmpL x.1 y.1< 0) (h2:∀ y∈out.take k,¬cmpL x.1 y.1< 0):
  (out.take k++ [x]++out.drop k).Pairwise λx y=>¬cmpL y.1 x.1< 0:=by
 have hs:(out.take k++out.drop k).Pairwise λx y=>¬cmpL y.1 x.1< 0:=by simp_all
 obtain ⟨s1,s2,s3⟩:=nC.1 hs;refine nC.2 ⟨nC.2 ⟨s1,by simp,λy hy z hz=>?_⟩,s2,λy hy z hz=>?_⟩
 .grind
 .rcases aX.1 hy with hy| hy
  .grind
  .grind [mg]
theorem Z8 {out L:List aZ} {x:aZ} {k:Nat} (h:out.Perm L):(out.take k++ [x]++out.drop k).Perm (L++ [x]):=by
 rw [aL,List.singleton_append];refine List.perm_middle.trans ?_;rw [bX];exact (h.cons x).trans (List.perm_append_singleton x L).symm
theorem tY:∀ (L:List aZ) {m:List (Int×Int)} {i z:Int},Kk.get .int m i=some z->Kk.get .int (da L m) i=some z
 | [],_,_,_,h=>h
 | x::L,m,i,z,h=>by
  cases hg:Kk.get .int m x.2.1 with
  | some k=>rw [gf hg];exact tY L h
  | none=>
   rw [gg hg];refine tY L ?_;have:i≠x.2.1:=λe=>by rw [e,hg] at h;cases h
   rw [iw (k:=.int) this];exact h
theorem Ji:∀ (L:List aZ) {m:List (Int×Int)} {i:Int},Kk.get .int (da L m) i=none↔Kk.get .int m i=none/\∀ y∈L,y.2.1≠i
 | [],_,_=>by simp [da]
 | x::L,m,i=>by
  cases hg:Kk.get .int m x.2.1 with
  | some k=>
   rw [gf hg,Ji L];constructor
   .rintro ⟨h1,h2⟩;refine ⟨h1,λy hy=>?_⟩;rcases bz.1 hy with e| hy
    .rw [e];intro q;rw [q,h1] at hg;cases hg
    .exact h2 y hy
   .rintro ⟨h1,h2⟩;exact ⟨h1,λy hy=>h2 y (aF _ hy)⟩
  | none=>
   rw [gg hg,Ji L];constructor
   .rintro ⟨h1,h2⟩;have hi:i≠x.2.1:=λe=>by rw [e,eR] at h1;cases h1
    rw [iw (k:=.int) hi] at h1;refine ⟨h1,λy hy=>?_⟩;rcases bz.1 hy with e| hy;rw [e];exact λq=>hi q.symm;exact h2 y hy
   .rintro ⟨h1,h2⟩;have hi:i≠x.2.1:=λe=>h2 x aK e.symm;exact ⟨by rw [iw (k:=.int) hi];exact h1,λy hy=>h2 y (aF _ hy)⟩
theorem AX:∀ (L:List aZ) {m:List (Int×Int)},(∀ i z,Kk.get .int m i=some z->1<=z)->∀ i z,Kk.get .int (da L m) i=some z->1<=z
 | [],_,h,i,z,hz=>h i z hz
 | x::L,m,h,i,z,hz=>by
  cases hg:Kk.get .int m x.2.1 with
  | some k=>rw [gf hg] at hz;exact AX L h i z hz
  | none=>
   rw [gg hg] at hz;refine AX L (λj y hy=>?_) i z hz;by_cases hj:j=x.2.1
   .rw [hj,eR] at hy
    grind
   grind [iw]
theorem wR:∀ (L:List aZ) (m:List (Int×Int)) (j:Nat) (hj:j< L.length),Kk.get .int (da L m) (L[j]).2.1=some ((bJ L m)[j]'(by rw [iq];exact hj)).2.1
 | [],_,_,h=>by simp at h
 | x::L,m,j,hj=>by
  cases hg:Kk.get .int m x.2.1 with
  | some k=>
   have e:=gp (r:=L) hg;simp only [gf hg,e];cases j with
   | zero=>exact tY L hg
   | succ j=>exact wR L m j (by simpa using hj)
  | none=>
   have e:=fO (r:=L) hg;simp only [gg hg,e];cases j with
   | zero=>exact tY L eR
   | succ j=>exact wR L _ j (by simpa using hj)
theorem ajx {L:List aZ} {j:Int} (h0:0<=j) (h1:j< L.length):Kk.get .int (da L []) (aB noTy L j).2.1=some (aB noTy (bJ L []) j).2.1:=by
 grind [ff, wR]
theorem M6 {L:List aZ} {x:aZ} {v:Int} (h:Kk.get .int (da L []) x.2.1=some v\/(Kk.get .int (da L []) x.2.1=none/\v=((da L []).length:Int)+1)):bJ (L++ [x]) []=bJ L []++ [x.gy v]/\((da (L++ [x]) []).length:Int)=if Kk.get .int (da L []) x.2.1=none then ((da L []).length:Int)+1 else (da L []).length:=by
 rw [(lp L [x] []).1,(lp L [x] []).2];rcases h with h| ⟨h,rfl⟩
 .rw [gp h,gf h,if_neg (by rw [h];simp)];trivial
 .rw [fO h,gg h,if_pos h];refine ⟨rfl,?_⟩;show ((Kk.put .int _ _ _).length:Int)=_
  grind [kD]
theorem xS {L:List aZ} (h:L.Pairwise λx y=>¬cmpL y.1 x.1< 0) (hn:L.Pairwise λa b=>a.1≠b.1):L.Pairwise λa b=>cmpL a.1 b.1< 0:=by
 refine (h.imp₂ (λa b h1 h2=>?_) hn);have s:=mg a.1 b.1;by_cases e:cmpL a.1 b.1=0;exact absurd (cmpL_zero e) h2;omega
where
 cmpL_zero:∀ {a b:List ByteArray},cmpL a b=0->a=b
  | [],[],_=>rfl
  | [],_::_,h=>by cases h
  | _::_,[],h=>by cases h
  | x::a,y::b,h=>by
   rw [n5] at h;split at h
   .rename_i e;rw [uq e,cmpL_zero h]
   omega
theorem Mb {L K:List aZ} (hp:L.Perm K) (h:L.Pairwise λa b=>cmpL a.1 b.1< 0) (k:K.Pairwise λa b=>cmpL a.1 b.1< 0):L=K:=
 F8 (R:=λa b:aZ=>cmpL a.1 b.1< 0) (by grind [mg]) h k λ_=>hp.mem_iff
theorem S9 (x:aZ) (m:List (Int×Int)):bJ [x] m= [aZ.gy x ((Kk.get .int (da [x] m) x.2.1).getD 0)]:=by
 cases hg:Kk.get .int m x.2.1 with
 | some k=>rw [gp hg,gf hg,show da [] m=m from rfl,hg];rfl
 | none=>rw [fO hg,gg hg,show da [] (Kk.put .int m x.2.1 ((m.length:Int)+1))=Kk.put .int m x.2.1 ((m.length:Int)+1) from rfl,eR];rfl
theorem PY {n:Int} (h0:0<=n) (h1:n< 4611686018427387904):IntKind.wrap .i64 (kW .u64 (IntKind.wrap .u64 n) 1)=n / 2:=by
 grind [pg, Lit.wf, IntKind.min, mJ, km, kW]
structure nB (L:List aZ) (x:List Int):Prop where
 inr:∀ y∈x,0<=y/\y< (L.length:Int)
 ord:∀ i j:Int,0<=i->i< j->j< (x.length:Int)->¬cmpL (aB noTy L (aB (.int .i64) x j)).1 (aB noTy L (aB (.int .i64) x i)).1< 0
theorem nB.at {L:List aZ} {x:List Int} (h:nB L x) {i:Int} (h0:0<=i) (h1:i< (x.length:Int)):0<=(aB (.int .i64) x i:Int)/\(aB (.int .i64) x i:Int)< (L.length:Int):=h.inr _ (by grind [tk])
theorem nB.of {L:List aZ} {x:List Int} (hs:L.Pairwise λa b=>cmpL a.1 b.1< 0) (hx:x.Pairwise λa b=>a< b) (za:∀ y∈x,0<=y/\y< (L.length:Int)):nB L x:=⟨za,λi j h0 h1 h2 hc=>by
 have hi:i< (x.length:Int):=by omega
 have a1:=za _ (tk (e:=.int .i64) h0 hi);have a2:=za _ (tk (e:=.int .i64) (i:=j) (by omega) h2);have fD:(aB (.int .i64) x i:Int)< aB (.int .i64) x j:=by
  rw [ff (e:=.int .i64) h0 hi,ff (e:=.int .i64) (by omega) h2];exact cQ.1 hx _ _ _ _ (by omega)
 have key:∀ u v:Int,0<=u->u< v->v< (L.length:Int)->¬cmpL (aB noTy L v).1 (aB noTy L u).1< 0:=λu v u0 uv v1 hc=>by
  have:=cQ.1 hs u.toNat v.toNat (by omega) (by omega) (by omega);rw [ff (e:=noTy) u0 (by omega),ff (e:=noTy) (by omega) v1] at hc
  grind [mg]
 grind⟩
def AH (p:List ByteArray) (x:aZ):Bool:=((x.1.length:Int)==(p.length:Int)+1)&& (decide ((x.1.length:Int)>(p.length:Int))&& fZ (x.1.take p.length) p)
def bY (p:List ByteArray):List aZ->Int->List Int
 | [],_=>[]
 | x::r,k=>if AH p x then k::bY p r (k+1) else bY p r (k+1)
theorem pr (p:List ByteArray) (x:aZ) (r:List aZ) (k:Int):bY p (x::r) k=(if AH p x then [k] else [])++bY p r (k+1):=by
 grind [bY]
theorem oO (p:List ByteArray):∀ {L:List aZ} {k y:Int},y∈bY p L k↔∃ j:Nat,∃ h:j< L.length,y=k+j/\AH p L[j]=true
 | [],k,y=>by simp [bY]
 | x::r,k,y=>by
  rw [pr,aX,oO p (L:=r)];constructor
  .rintro (h| ⟨j,hj,e,hk⟩)
   .by_cases hx:AH p x=true
    .rw [if_pos hx] at h;obtain rfl:=aW.1 h;exact ⟨0,by simp,by omega,hx⟩
    .rw [if_neg hx] at h;cases h
   .exact ⟨j+1,by simpa using hj,by omega,hk⟩
  .rintro ⟨j,hj,e,hk⟩;cases j with
   | zero=>
    have hk:AH p x=true:=hk;rw [if_pos hk,e];simp
   | succ j=>exact .inr ⟨j,by simpa using hj,by omega,hk⟩
theorem nV (p:List ByteArray):∀ {L:List aZ} {k:Int},(bY p L k).Pairwise λa b=>a< b
 | [],_=>List.Pairwise.nil
 | x::r,k=>by
  rw [pr];split
  .refine eY.2 ⟨λy hy=>?_,nV p⟩;obtain ⟨j,_,e,_⟩:=(oO p).1 hy;omega
  .exact nV p
theorem kF (p:List ByteArray):∀ {L:List aZ} {k:Int},(bY p L k).length<=L.length
 | [],_=>aG _
 | x::r,k=>by
  rw [pr,af,av];have:=kF p (L:=r) (k:=k+1);split;simp only [ay];omega;simp only [aO];omega
theorem ZX {L:List aZ} (hs:L.Pairwise λa b=>cmpL a.1 b.1< 0) (p:List ByteArray):nB L (bY p L 0):=.of hs (nV p) (by grind [oO])
def oM (L:List aZ) (i:Int):Nat:=L.countP (vZ i)
structure RAt (fs:List (List UInt8)) (R:List UInt8) (o:Nat) (r:Int):Prop where
 le:o<=R.length
 ref:∀ gs,r=(dX (fs++gs) o:Nat)
structure Has (fs:List (List UInt8)) (R:List UInt8) (r:Int) (b:List UInt8):Prop where
 ex:∃ o q,RAt fs R o r/\R.drop o=b++q
theorem Has.app {fs:List (List UInt8)} {R:List UInt8} {r:Int} {b:List UInt8} (h:Has fs R r b) (gs:List (List UInt8)) (S:List UInt8):Has (fs++gs) (R++S) r b:=by
 obtain ⟨o,q,h1,h2⟩:=h;exact ⟨o,q++S,⟨by rw [af];have:=h1.le;omega,λhs=>by rw [aL];exact h1.ref _⟩,by rw [eT h1.le,h2,aL]⟩
theorem Has.new {fs fs':List (List UInt8)} {R b:List UInt8} {r:Nat} (h:∀ gs,r=dX (fs++gs) R.length):Has (fs++fs') (R++b) (r:Int) b:=
 ⟨R.length,[],⟨by grind,by grind⟩,by grind⟩
structure BS where
 RI:List UInt8
 fI:List (List UInt8)
 RL:List UInt8
 fL:List (List UInt8)
 RX:List UInt8
 fX:List (List UInt8)
 Mr:List (Int×Int)
 Ms:List (ByteArray×Int)
structure BS.Le (s t:BS):Prop where
 RI:∃ c,t.RI=s.RI++c
 fI:∃ c,t.fI=s.fI++c
 RL:∃ c,t.RL=s.RL++c
 fL:∃ c,t.fL=s.fL++c
 RX:∃ c,t.RX=s.RX++c
 fX:∃ c,t.fX=s.fX++c
 Mr:∀ i r,Kk.get .int s.Mr i=some r->Kk.get .int t.Mr i=some r
theorem zB {α:Type} {a b c:List α} (h:∃ x,b=a++x) (k:∃ x,c=b++x):∃ x,c=a++x:=by
 grind
theorem BS.Le.refl (s:BS):BS.Le s s:=⟨by simp,by simp,by simp,by simp,by simp,by simp,by grind⟩
theorem BS.Le.trans {s t u:BS} (h:BS.Le s t) (k:BS.Le t u):BS.Le s u:=⟨zB h.RI k.RI,zB h.fI k.fI,zB h.RL k.RL,zB h.fL k.fL,zB h.RX k.RX,zB h.fX k.fX,λi r q=>k.Mr i r (h.Mr i r q)⟩
theorem Has.le {fs gs:List (List UInt8)} {R S:List UInt8} {r:Int} {b:List UInt8} (h:Has fs R r b) (hf:∃ c,gs=fs++c) (hr:∃ c,S=R++c):Has gs S r b:=by
 obtain ⟨c,rfl⟩:=hf;obtain ⟨d,rfl⟩:=hr;exact h.app c d
structure W8 (fX:List (List UInt8)) (RX:List UInt8) (x:Int) (l:List uD):Prop where
 or:(l= []/\x=0)\/(l≠ []/\1<=x/\Has fX RX (x - 1) (xsB l))
 le:0<=x/\x<=4294967295
structure px (fX:List (List UInt8)) (RX:List UInt8) (Ms:List (ByteArray×Int)):Prop where
 all:∀ p∈Ms,(0<=p.2/\p.2<=4294967294)/\Has fX RX p.2 p.1.data.toList
theorem px.le {fX gX:List (List UInt8)} {RX SX:List UInt8} {Ms:List (ByteArray×Int)} (h:px fX RX Ms) (hf:∃ c,gX=fX++c) (hr:∃ c,SX=RX++c):px gX SX Ms:=⟨λp hp=>⟨(h.all p hp).1,(h.all p hp).2.le hf hr⟩⟩
theorem px.put {fX:List (List UInt8)} {RX:List UInt8} {Ms:List (ByteArray×Int)} (h:px fX RX Ms) {b:List UInt8} {r:Int} (h0:0<=r/\r<=4294967294) (hb:Has fX RX r b):px fX RX (Kk.put .str Ms (gu b) r):=⟨λp hp=>by
 rcases bz.1 hp with rfl| hp;trivial
 .exact h.all p (gk.1 hp).1⟩
theorem px.get {fX:List (List UInt8)} {RX:List UInt8} {Ms:List (ByteArray×Int)} (h:px fX RX Ms) {b:List UInt8} {r:Int} (hg:Kk.get .str Ms (gu b)=some r):(0<=r/\r<=4294967294)/\Has fX RX r b:=by
 have:=h.all _ (oT (κ:=ByteArray) hg)
 assumption
def fY (L:List aZ) (Mr:List (Int×Int)) (d:Nat):List Int->List cw.den->Prop
 | [],[]=>True
 | k::ks,e::es=>e.1=(aB noTy L k).1.getD d ⟨#[]⟩/\e.2.1=(aB noTy L k).2.2.1/\Kk.get .int Mr (aB noTy L k).2.1=some e.2.2.1/\fY L Mr d ks es
 | _,_=>False
theorem fY.le {L:List aZ} {M N:List (Int×Int)} {d:Nat} (hk:∀ i r,Kk.get .int M i=some r->Kk.get .int N i=some r):∀ {ks:List Int} {es:List cw.den},fY L M d ks es->fY L N d ks es
 | [],[],h=>h
 | _::_,_::_,⟨h1,h2,h3,h4⟩=>⟨h1,h2,hk _ _ h3,fY.le hk h4⟩
 | [],_::_,h=>h
 | _::_,[],h=>h
theorem fY.snoc {L:List aZ} {M:List (Int×Int)} {d:Nat} {k:Int} {e:cw.den}:∀ {ks:List Int} {es:List cw.den},fY L M d ks es->fY L M d [k] [e]->fY L M d (ks++ [k]) (es++ [e])
 | [],[],_,h=>h
 | _::_,_::_,⟨h1,h2,h3,h4⟩,h=>⟨h1,h2,h3,fY.snoc h4 h⟩
 | [],_::_,h,_=>h.elim
 | _::_,[],h,_=>h.elim
theorem fY.len {L:List aZ} {M:List (Int×Int)} {d:Nat}:∀ {ks:List Int} {es:List cw.den},fY L M d ks es->es.length=ks.length
 | [],[],_=>rfl
 | _::_,_::_,⟨_,_,_,h4⟩=>by rw [av,av,fY.len h4]
 | [],_::_,h=>h.elim
 | _::_,[],h=>h.elim
structure rD (L:List aZ) (ids:List Int) (F:List (Int×eC.den)) (s:BS) (x:aZ) (i:eC.den):Prop where
 ok:o8 i
 kind:i.1=x.2.2.1
 mode:i.2.1=x.2.2.2.1.1
 uid:ids[(i.2.2.1:Int).toNat]?=some (uW x)
 gid:ids[(i.2.2.2.1:Int).toNat]?=some (zd x)
 lnk:(i.2.2.2.2.1:Int)=(oM L x.2.1:Nat)
 xa:W8 s.fX s.RX i.2.2.2.2.2.1 x.2.2.2.2.2.2.1
 or:(x.2.2.1=1/\∃ es,iW ⟨#[]⟩ es/\fY L s.Mr x.1.length (bY x.1 L 0) es/\Has s.fL s.RL i.2.2.2.2.2.2.1 (gU es)/\(i.2.2.2.2.2.2.2.1:Int)=(gU es).length)\/
  (x.2.2.1=2/\Kk.get .int F x.2.1=some (0,0,0,0,0,0,i.2.2.2.2.2.2.1,i.2.2.2.2.2.2.2.1,i.2.2.2.2.2.2.2.2.1,i.2.2.2.2.2.2.2.2.2.1,⟨#[]⟩,()))\/
  (x.2.2.1=3/\i.2.2.2.2.2.2.2.2.2.2.1=x.2.2.2.2.2.1)
theorem rD.le {L:List aZ} {ids:List Int} {F:List (Int×eC.den)} {s t:BS} {x:aZ} {i:eC.den} (h:rD L ids F s x i) (k:BS.Le s t):rD L ids F t x i:=by
 refine ⟨h.ok,h.kind,h.mode,h.uid,h.gid,h.lnk,⟨?_,h.xa.le⟩,?_⟩
 .rcases h.xa.or with q| ⟨q,r⟩
  .grind
  .exact .inr ⟨q,r.1,r.2.le k.fX k.RX⟩
 .rcases h.or with ⟨q,es,r1,r2,r3,r4⟩| q| q
  .exact .inl ⟨q,es,r1,r2.le k.Mr,r3.le k.fL k.RL,r4⟩
  .grind
  grind
structure Ed (L:List aZ) (ids:List Int) (F:List (Int×eC.den)) (s:BS) (e:Nat):Prop where
 refs:∀ i r,Kk.get .int s.Mr i=some r->(0<=r/\r<=4294967295)/\∃ x∈L,x.2.1=i/\∃ rec,Has s.fI s.RI r (fR rec)/\rD L ids F s x rec
 aeq:px s.fX s.RX s.Ms
 inj:∀ i j r,Kk.get .int s.Mr i=some r->Kk.get .int s.Mr j=some r->i=j
 keys:∃ V:List Nat,V.Nodup/\(∀ v∈V,v< L.length)/\s.Mr.map (·.1)=V.map λv:Nat=>(aB noTy L (v:Int)).2.1
 lI:s.RI.length<=220*s.Mr.length
 lL:s.RL.length<=10500*(s.Mr.length+e)
 lX:s.RX.length<=4200*s.Mr.length
 kn:(s.Mr.map (·.1)).Nodup
theorem Ed.len {L:List aZ} {ids:List Int} {F:List (Int×eC.den)} {s:BS} {e:Nat} (h:Ed L ids F s e):s.Mr.length<=L.length:=by
 obtain ⟨V,h1,h2,h3⟩:=h.keys;have:=pig h1 h2;have e:=congrArg List.length h3
 grind
theorem sA {T:List Int} {x y R:List UInt8} {fs:List (List UInt8)} (h:MW T x y R fs):dX fs R.length<=270*R.length+128:=by
 have h1:=h.g.adu;have h2:=h.g.row;have h3:(fs.take (R.length / 128)).flatten.length<=fs.flatten.length:=by
  grind [bX]
 rw [<-h.g.flat] at h3
 grind [dX]
theorem aga {T:List Int} {x y R:List UInt8} {fs:List (List UInt8)} (h:MW T x y R fs):∀ {j k:Nat},j< k->k<=fs.length->fB fs j+3<=fB fs k:=λ{j} k=>by
 induction k with
 | zero=>omega
 | succ k ih=>
  intro q hk;have hf:=(h.g.fr k fs[k] (by grind)).len
  grind [n9]
theorem Cp {T:List Int} {x y R:List UInt8} {fs:List (List UInt8)} (h:MW T x y R fs) {o:Nat} (ho:o< R.length):dX fs o< dX fs R.length:=by
 have hr:=h.g.row;have hy:=h.lt;have e1:R.length / 128=fs.length:=by omega
 have e2:R.length % 128=y.length:=by omega
 show 256*fB fs (o / 128)+o % 128< 256*fB fs (R.length / 128)+R.length % 128;rw [e1,e2];rcases eW (o / 128) fs.length with q| q
 .have:=aga h q (aG _);omega
 grind
def pre (p:List ByteArray) (x:aZ):Prop:=x.1.take p.length=p
theorem tc (x:aZ):pre x.1 x:=eK
structure sa (L:List aZ) (ids:List Int) (F:List (Int×eC.den)):Prop where
 len:L.length<=40
 ord:L.Pairwise λa b=>cmpL a.1 b.1< 0
 nm:∀ x∈L,∀ s∈x.1,dh s=0
 deep:∀ x∈L,x.1.length<=16
 par:∀ x∈L,x.1.length≠0->∃ y∈L,y.2.2.1=1/\y.1=x.1.take (x.1.length - 1)
 may:∀ x∈L,gr x=true
 one:∀ x∈L,∀ y∈L,x.2.1=y.2.1->(x.2.2.1=1->x=y)/\x.2.2=y.2.2
 ino:∀ x∈L,1<=x.2.1/\x.2.1<=40
 uid:∀ x∈L,(∃ i:Nat,ids[i]?=some (uW x))/\∃ i:Nat,ids[i]?=some (zd x)
 idl:ids.length<=80
 Xk:ids.Pairwise λa b=>a< b
 file:∀ x∈L,x.2.2.1=2->∃ st fr off,Kk.get .int F x.2.1=some (0,0,0,0,0,0,st,(x.2.2.2.2.1.length:Int),fr,off,⟨#[]⟩,())/\zI st (x.2.2.2.2.1.length:Int) fr off
 nofile:∀ x∈L,x.2.2.1≠2->Kk.get .int F x.2.1=none
theorem Cd:∀ {a b:List ByteArray},fZ a b=true↔a=b
 | [],[]=>by simp [fZ]
 | [],_::_=>by simp [fZ]
 | _::_,[]=>by simp [fZ]
 | x::a,y::b=>by
  unfold fZ;rw [ak,gD,Cd,List.cons.injEq]
theorem Tp {p:List ByteArray} {x:aZ}:AH p x=true↔x.1.length=p.length+1/\pre p x:=by
 unfold AH pre
 grind [Cd]
theorem Tg {L:List aZ} {x:aZ} (h:x∈L):∃ k:Nat,k< L.length/\aB noTy L (k:Int)=x:=by
 obtain ⟨k,hk,rfl⟩:=ev.1 h;exact ⟨k,hk,gH (e:=noTy) hk⟩
theorem eJ {L:List aZ} {p:List ByteArray} {k:Int} (h:k∈bY p L 0):0<=k/\k< (L.length:Int)/\(aB noTy L k).1.length=p.length+1/\pre p (aB noTy L k):=by
 grind [oO, gH, Tp]
theorem Jt {L:List aZ} {p:List ByteArray} {x:aZ} (hx:x∈L) (h1:x.1.length=p.length+1) (h2:pre p x):∃ k∈bY p L 0,aB noTy L k=x:=by
 obtain ⟨j,hj,rfl⟩:=Tg hx;refine ⟨(j:Int),(oO p).2 ⟨j,hj,by omega,?_⟩,rfl⟩
 grind [gH, Tp]
theorem uw {L:List aZ} {ids:List Int} {F:List (Int×eC.den)} (t:sa L ids F) {p:List ByteArray}:∀ (n:Nat) {y:aZ},y∈L->pre p y->y.1.length=p.length+1+n->∃ k∈bY p L 0,pre (aB noTy L k).1 y
 | 0,y,hy,hp,hl=>by
  grind [Jt, tc]
 | n+1,y,hy,hp,hl=>by
  obtain ⟨z,hz,_,e⟩:=t.par y hy (by omega);have OR:z.1.length=p.length+1+n:=by grind
  have hzp:pre p z:=by
   grind [pre]
  obtain ⟨k,hk,hq⟩:=uw t n hz hzp OR;refine ⟨k,hk,?_⟩;have NA:=(eJ hk).2.2.1;simp_all [pre, o9]
theorem yP {p q:List ByteArray} {y:aZ} (h1:p.length<=q.length) (h2:q.take p.length=p) (h:pre q y):pre p y:=by
 grind [pre]
theorem nM {p:List ByteArray} {x:aZ} (h1:x.1.length=p.length+1) (h2:pre p x):x.1=p++ [x.1.getD p.length ⟨#[]⟩]:=by
 conv=>lhs;rw [<-bX p.length x.1]
 congr 1;have:(x.1.drop p.length).length=1:=by grind
 obtain ⟨s,hs⟩:=List.length_eq_one_iff.1 this;have e:(x.1.drop p.length)[0]?=some s:=by grind
 grind
theorem aes {s:ByteArray} (h:dh s=0):rG ⟨#[]⟩ s=true:=by
 rw [qF,decide_eq_true_eq];refine afx (List.nil_le _) (λe=>?_);subst e;exact absurd h (by decide+kernel)
theorem G7 {L:List aZ} {ids:List Int} {F:List (Int×eC.den)} (t:sa L ids F) {p:List ByteArray} {M:List (Int×Int)} (hM:∀ i r,Kk.get .int M i=some r->0<=r/\r<=4294967295):∀ {ks:List Int} {es:List cw.den} {last:ByteArray},fY L M p.length ks es->(∀ k∈ks,k∈bY p L 0)->(ks.Pairwise λa b=>a< b)->(∀ k∈ks,rG last ((aB noTy L k).1.getD p.length ⟨#[]⟩)=true)->iW last es
 | [],[],_,_,_,_,_=>trivial
 | k::ks,e::es,last,⟨h1,h2,h3,h4⟩,hk,ho,hl=>by
  obtain ⟨k0,k1,kl,kp⟩:=eJ (hk k aK);have r7:aB noTy L k∈L:=tk (e:=noTy) k0 k1;have hs:=nM kl kp;obtain ⟨o1,o2⟩:=eY.1 ho;have Dk:1<=(aB noTy L k).2.2.1/\(aB noTy L k).2.2.1<=3:=by
   have:=t.may _ r7;unfold gr at this;split at this
   .rename_i q;exact ⟨by rw [q];decide,by rw [q];decide⟩
   .split at this
    .rename_i q;exact ⟨by rw [q];decide,by rw [q];decide⟩
    .split at this
     .rename_i q;exact ⟨by rw [q];decide,by rw [q];decide⟩
     .cases this
  refine ⟨⟨?_,?_,by rw [h2];exact Dk,hM _ _ h3⟩,G7 t hM h4 (λk' q=>hk k' (aF _ q)) o2 λk' AK=>?_⟩
  .rw [h1];refine t.nm _ r7 _ (Eq.mpr (congrArg (λl:List ByteArray=>(aB noTy L k).1.getD p.length ⟨#[]⟩∈l) hs) ?_);exact List.mem_append_right _ aK
  .rw [h1];exact hl k aK
  .obtain ⟨j0,j1,jl,jp⟩:=eJ (hk k' (aF _ AK));have hs':=nM jl jp;have fD:=o1 k' AK;have hc:=cQ.1 t.ord k.toNat k'.toNat (by omega) (by omega) (by omega);rw [<-ff (e:=noTy) k0 k1,<-ff (e:=noTy) j0 j1,hs,hs',Dx] at hc;rw [h1,qF,decide_eq_true_eq];rw [n5] at hc;split at hc
   .exact absurd hc (by decide)
   .exact hc
 | [],_::_,_,h,_,_,_=>h.elim
 | _::_,[],_,h,_,_,_=>h.elim
theorem BS.Tj (t:BS) (b:List UInt8) (f:List (List UInt8)):BS.Le t {t with RL:=t.RL++b,fL:=t.fL++f}:=⟨⟨[],by simp⟩,⟨[],by simp⟩,⟨b,rfl⟩,⟨f,rfl⟩,⟨[],by simp⟩,⟨[],by simp⟩,λ_ _ h=>h⟩
theorem Ed.list {L:List aZ} {ids:List Int} {F:List (Int×eC.den)} {t:BS} (h:Ed L ids F t 0) (b:List UInt8) (f:List (List UInt8)) (hb:b.length<=10500):Ed L ids F {t with RL:=t.RL++b,fL:=t.fL++f} 1:=by
 refine ⟨λi r q=>?_,h.aeq,h.inj,h.keys,h.lI,?_,h.lX,h.kn⟩
 .obtain ⟨q1,x,q2,q3,rec,q4,q5⟩:=h.refs i r q;exact ⟨q1,x,q2,q3,rec,q4,q5.le (BS.Tj t b f)⟩
 .have:=h.lL;show (t.RL++b).length<=10500*(t.Mr.length+1);rw [af];omega
theorem wN {p:List ByteArray} {y:aZ} (h:pre p y):p.length<=y.1.length:=by
 unfold pre at h;have:=congrArg List.length h;rw [aH] at this;omega
theorem both {P:Prop} (h:P):P/\P:=⟨h,h⟩
structure alP (l:List Int) (y:Int):Prop where
 ex:∃ i:Nat,l[i]?=some y
structure aii (L:List aZ) (M:List (Int×Int)) (d:Nat) (ks:List Int) (es:List cw.den):Prop where
 ok:fY L M d ks es
structure aqP (x:aZ):Prop where
 mode:0<=x.2.2.2.1.1/\x.2.2.2.1.1<=511
 xa:dF x.2.2.2.2.2.2.1=true
 or:(x.2.2.1=1/\x.2.2.2.2.2.1=⟨#[]⟩)\/(x.2.2.1=2/\x.2.2.2.2.2.1=⟨#[]⟩)\/(x.2.2.1=3/\zH x.2.2.2.2.2.1)
theorem yW {m u g:Int} (h:AG m u g=true):0<=m/\m<=511:=by
 unfold AG gW at h;simp only [ak,decide_eq_true_eq] at h;omega
theorem vG {x:aZ} (h:gr x=true):aqP x:=by
 unfold gr at h;split at h
 .rename_i q;simp only [ak] at h;exact ⟨yW h.1.2,h.2,.inl ⟨q,gD.1 h.1.1.1.2⟩⟩
 .split at h
  .rename_i q;simp only [ak] at h;exact ⟨yW h.1.2,h.2,.inr (.inl ⟨q,gD.1 h.1.1.1.2⟩)⟩
  .split at h
   .rename_i q;simp only [ak] at h;have hp:=h.1.1.1.2;unfold oH gW at hp;simp only [ak,decide_eq_true_eq] at hp;refine ⟨yW h.1.2,h.2,.inr (.inr ⟨q,⟨by omega,λc hc e=>?_⟩⟩)⟩;subst e;have h2:decide (Lib.indexByte x.2.2.2.2.2.1.data.toList 0< 0)=true:=decide_eq_true hp.2;rw [ud] at h2;simp only [dr,List.any_eq_false,beq_iff_eq] at h2;exact h2 _ hc rfl
   .cases h
variable {L:List aZ} {ids:List Int} {F:List (Int×eC.den)}
theorem sa.uniq (t:sa L ids F) {x y:aZ} (hx:x∈L) (hy:y∈L) (h:x.1=y.1):x=y:=by
 obtain ⟨i,hi,rfl⟩:=ev.1 hx;obtain ⟨j,hj,rfl⟩:=ev.1 hy;have P:=cQ.1 t.ord;rcases Nat.lt_trichotomy i j with q| q| q
 .have:=P i j hi hj q;rw [h,ju] at this;exact absurd this (by decide)
 .subst q;rfl
 .have:=P j i hj hi q;rw [h,ju] at this;exact absurd this (by decide)
theorem sa.nd (t:sa L ids F):L.Nodup:=t.ord.imp λ{a b} h e=>by
 subst e;rw [ju] at h;exact absurd h (by decide)
theorem count_one {α:Type} {p:α->Bool} {x:α}:∀ {l:List α},l.Nodup->x∈l->p x=true->(∀ y∈l,p y=true->y=x)->l.countP p=1
 | [],_,h,_,_=>by cases h
 | a::r,hn,hx,hp,ha=>by
  obtain ⟨n1,n2⟩:=gj.1 hn;rw [List.countP_cons];rcases bz.1 hx with rfl| hx;rw [if_pos hp,List.countP_eq_zero.2 λy hy q=>n1 (ha y (aF _ hy) q▸hy)];rw [count_one n2 hx hp λy hy=>ha y (aF _ hy),if_neg λq=>n1 (ha a aK q▸hx)]
theorem sa.lnk (t:sa L ids F) {x:aZ} (hx:x∈L):1<=oM L x.2.1/\oM L x.2.1<=40/\(x.2.2.1=1->oM L x.2.1=1):=by
 refine ⟨List.countP_pos_iff.2 ⟨x,hx,by simp [vZ]⟩,Nat.le_trans List.countP_le_length t.len,λh=>count_one t.nd hx (by simp [vZ]) λy hy q=>?_⟩;exact ((t.one x hx y hy (eq_of_beq q).symm).1 h).symm
theorem Db {M:List (Int×Int)} {i:Int}:Kk.get .int M i=none↔i ∉ M.map (·.1):=by
 unfold Kk.get iT;rw [Option.map_eq_none_iff,List.find?_eq_none];constructor
 .intro h q;obtain ⟨p,hp,rfl⟩:=bq.1 q;exact absurd (h p hp) (by simp)
 .intro h p hp q;exact h (bq.2 ⟨p,hp,by simpa using q⟩)
theorem Tn {M:List (Int×Int)} {i r:Int} (h:Kk.get .int M i=none):(Kk.put .int M i r:List (Int×Int))=(i,r)::M:=by
 unfold Kk.put qX pf;rw [k9.2];intro p hp;have:=Db.1 h;simp only [dr,decide_eq_false_iff_not];intro e;exact this (bq.2 ⟨p,hp,e⟩)
theorem Il {i:eC.den} (h:o8 i):(fR i).length<=214:=by
 rw [SK h];rcases h.or with q| q| q;rw [if_pos q.1];decide
 .split
  .decide
  .split
   .decide
   .have:=q.2.2;rw [this];decide
 .have:=q.2.1.len;split
  .decide
  .split
   .decide
   .omega
theorem fY.get {M:List (Int×Int)} {d:Nat}:∀ {ks:List Int} {es:List cw.den},fY L M d ks es->∀ k∈ks,∃ r,Kk.get .int M (aB noTy L k).2.1=some r
 | [],[],_,k,hk=>by cases hk
 | a::ks,e::es,⟨_,_,h3,h4⟩,k,hk=>by
  rcases bz.1 hk with rfl| hk;exact ⟨_,h3⟩;exact fY.get h4 k hk
 | [],_::_,h,_,_=>h.elim
 | _::_,[],h,_,_=>h.elim
theorem Ed.cov (t:sa L ids F) {s:BS} {e:Nat} (h:Ed L ids F s e):∀ (n:Nat) {x y:aZ},x∈L->(∃ r,Kk.get .int s.Mr x.2.1=some r)->y∈L->pre x.1 y->y.1.length=x.1.length+n->∃ r,Kk.get .int s.Mr y.2.1=some r
 | 0,x,y,hx,hr,hy,hp,hl=>by
  unfold pre at hp;rw [aT (by omega)] at hp;rw [t.uniq hy hx hp];exact hr
 | n+1,x,y,hx,hr,hy,hp,hl=>by
  obtain ⟨z,hz,hzk,hze⟩:=t.par y hy (by omega);have OR:z.1.length=x.1.length+n:=by rw [hze,aH];omega
  have hzp:pre x.1 z:=by
   unfold pre at*;rw [hze,o9,pB (by omega),hp]
  obtain ⟨r,hg⟩:=Ed.cov t h n hx hr hz hzp OR;obtain ⟨_,x',OT,ei,rec,_,hN⟩:=h.refs _ _ hg;obtain rfl:=(t.one z hz x' OT ei.symm).1 hzk;rcases hN.or with ⟨_,es,_,q,_⟩| ⟨q,_⟩| ⟨q,_⟩
  .obtain ⟨k,hk,rfl⟩:=Jt (p:=z.1) hy (by omega) (by unfold pre;rw [hze,aH];congr 1;omega);exact q.get k hk
  .rw [hzk] at q;exact absurd q (by decide)
  .rw [hzk] at q;exact absurd q (by decide)
abbrev BS.put (t:BS) (i:Int) (r:Int) (b:List UInt8) (f:List (List UInt8)) (RX:List UInt8) (fX:List (List UInt8)) (Ms:List (ByteArray×Int)):BS:=⟨t.RI++b,t.fI++f,t.RL,t.fL,RX,fX,Kk.put .int t.Mr i r,Ms⟩
theorem Ed.put {t:BS} {e:Nat} (h:Ed L ids F t e) (he:e<=1) {k:Int} (k0:0<=k) (k1:k< (L.length:Int)) (kZ:Kk.get .int t.Mr (aB noTy L k).2.1=none) {RX:List UInt8} {fX:List (List UInt8)} {Ms:List (ByteArray×Int)} (hR:∃ c,RX=t.RX++c/\c.length<=4100) (hf:∃ c,fX=t.fX++c) (hS:px fX RX Ms) {rec:eC.den} {r:Nat} {fs:List (List UInt8)} (hr:∀ gs,r=dX (t.fI++gs) t.RI.length) (anc:r<=4294967295) (fD:∀ o,o< t.RI.length->dX t.fI o< dX t.fI t.RI.length) (hN:rD L ids F {t with RX:=RX,fX:=fX,Ms:=Ms} (aB noTy L k) rec):Ed L ids F (t.put (aB noTy L k).2.1 r (fR rec) fs RX fX Ms) 0/\BS.Le t (t.put (aB noTy L k).2.1 r (fR rec) fs RX fX Ms):=by
 have hM:∀ i q,Kk.get .int t.Mr i=some q->Kk.get .int (Kk.put .int t.Mr (aB noTy L k).2.1 (r:Int):List (Int×Int)) i=some q:=λi q hq=>by
  rw [iw (k:=.int) (by intro e;rw [e,kZ] at hq;cases hq)];exact hq
 obtain ⟨c,hc,Qp⟩:=hR;have hle:BS.Le t (t.put (aB noTy L k).2.1 r (fR rec) fs RX fX Ms):=⟨⟨_,rfl⟩,⟨_,rfl⟩,⟨[],by simp⟩,⟨[],by simp⟩,⟨c,hc⟩,hf,hM⟩;have ant:BS.Le {t with RX:=RX,fX:=fX,Ms:=Ms} (t.put (aB noTy L k).2.1 r (fR rec) fs RX fX Ms):=⟨⟨_,rfl⟩,⟨_,rfl⟩,⟨[],by simp⟩,⟨[],by simp⟩,⟨[],by simp⟩,⟨[],by simp⟩,hM⟩;have Dh:(Kk.put .int t.Mr (aB noTy L k).2.1 (r:Int):List (Int×Int)).length=t.Mr.length+1:=kD kZ;have hrl:=Il hN.ok;have uB:∀ j q,Kk.get .int t.Mr j=some q->q≠(r:Int):=λj q hq e=>by
  obtain ⟨_,y,_,_,rc,⟨o,qq,ho,hd⟩,hn⟩:=h.refs j q hq;have h1:=ho.ref [];have h2:=hr [];rw [bd] at h1 h2;obtain ⟨tl,htl⟩:=MH hn.ok;have hl:=congrArg List.length hd;rw [aQ,af,htl,av] at hl;have:=fD o (by omega);omega
 refine ⟨⟨λi q hq=>?_,hS,λi j q hi hj=>?_,?_,?_,?_,?_,by show ((Kk.put .int t.Mr (aB noTy L k).2.1 (r:Int):List (Int×Int)).map (·.1)).Nodup;rw [Tn kZ,cE,gj];exact ⟨Db.1 kZ,h.kn⟩⟩,hle⟩
 .by_cases hi:i=(aB noTy L k).2.1
  .subst hi;have hq:Kk.get .int (Kk.put .int t.Mr (aB noTy L k).2.1 (r:Int):List (Int×Int)) _=some q:=hq;rw [eR (k:=.int)] at hq;obtain rfl:=aj hq;exact ⟨⟨Int.natCast_nonneg _,by omega⟩,_,tk (e:=noTy) k0 k1,rfl,rec,Has.new hr,hN.le ant⟩
  .have hq:Kk.get .int (Kk.put .int t.Mr (aB noTy L k).2.1 (r:Int):List (Int×Int)) i=some q:=hq;rw [iw (k:=.int) hi] at hq;obtain ⟨q1,x,q2,q3,rc,q4,q5⟩:=h.refs i q hq;exact ⟨q1,x,q2,q3,rc,q4.le hle.fI hle.RI,q5.le hle⟩
 .have hi:Kk.get .int (Kk.put .int t.Mr (aB noTy L k).2.1 (r:Int):List (Int×Int)) i=some q:=hi;have hj:Kk.get .int (Kk.put .int t.Mr (aB noTy L k).2.1 (r:Int):List (Int×Int)) j=some q:=hj;by_cases ei:i=(aB noTy L k).2.1
  .by_cases ej:j=(aB noTy L k).2.1
   .rw [ei,ej]
   .rw [iw (k:=.int) ej] at hj;rw [ei,eR (k:=.int)] at hi;exact absurd (aj hi).symm (uB j q hj)
  .rw [iw (k:=.int) ei] at hi;by_cases ej:j=(aB noTy L k).2.1
   .rw [ej,eR (k:=.int)] at hj;exact absurd (aj hj).symm (uB i q hi)
   .rw [iw (k:=.int) ej] at hj;exact h.inj i j q hi hj
 .obtain ⟨V,v1,v2,v3⟩:=h.keys;refine ⟨k.toNat::V,gj.2 ⟨λq=>?_,v1⟩,λv hv=>?_,?_⟩
  .refine Db.1 kZ ?_;rw [v3];refine bq.2 ⟨_,q,?_⟩;rw [Int.toNat_of_nonneg k0]
  .rcases bz.1 hv with rfl| hv
   .omega
   .exact v2 v hv
  .show (Kk.put .int t.Mr (aB noTy L k).2.1 (r:Int):List (Int×Int)).map (·.1)=_;rw [Tn kZ,cE,cE,v3,Int.toNat_of_nonneg k0]
 .show (t.RI++fR rec).length<=220*(Kk.put .int t.Mr (aB noTy L k).2.1 (r:Int):List (Int×Int)).length;have:=h.lI;rw [af,Dh];omega
 .show t.RL.length<=10500*((Kk.put .int t.Mr (aB noTy L k).2.1 (r:Int):List (Int×Int)).length+0);have:=h.lL;rw [Dh];omega
 .show RX.length<=4200*(Kk.put .int t.Mr (aB noTy L k).2.1 (r:Int):List (Int×Int)).length;have:=h.lX;rw [Dh,hc,af];omega
theorem JA {ids:List Int} {i y:Int} (h:ids[i.toNat]?=some y):i.toNat< ids.length:=(aw.1 h).1
theorem Jm (t:sa L ids F) {x:aZ} (hx:x∈L) {iu ig xa:Int} (u0:0<=iu) (hu:ids[iu.toNat]?=some (uW x)) (g0:0<=ig) (hg:ids[ig.toNat]?=some (zd x)) (ha:0<=xa/\xa<=4294967295):Ec x.2.2.2.1.1 iu ig (oM L x.2.1:Nat) xa:=by
 have h1:=t.idl;have h2:=JA hu;have h3:=JA hg;have h4:=t.lnk hx;exact ⟨(vG (t.may x hx)).mode,by omega,by omega,by omega,ha⟩
theorem ZG (t:sa L ids F) {x:aZ} (hx:x∈L) (hk:x.2.2.1=1) {s:BS} {iu ig xa st:Int} (u0:0<=iu) (hu:ids[iu.toNat]?=some (uW x)) (g0:0<=ig) (hg:ids[ig.toNat]?=some (zd x)) (ha:W8 s.fX s.RX xa x.2.2.2.2.2.2.1) {es:List cw.den} (h1:iW ⟨#[]⟩ es) (h2:fY L s.Mr x.1.length (bY x.1 L 0) es) (h3:Has s.fL s.RL st (gU es)) (h4:0<=st/\st<=4294967295) (h5:(gU es).length<=10440):rD L ids F s x (x.2.2.1,x.2.2.2.1.1,iu,ig,((oM L x.2.1:Nat):Int),xa,st,((gU es).length:Int),0,0,x.2.2.2.2.2.1,()):=by
 have hl:=t.lnk hx;have hz:x.2.2.2.2.2.1=⟨#[]⟩:=by
  rcases (vG (t.may x hx)).or with q| q| q;exact q.2;exact q.2;rw [hk] at q;exact absurd q.1 (by decide)
 refine ⟨⟨Jm t hx u0 hu g0 hg ha.le,.inl ⟨hk,⟨h4,by show (0:Int)<=((gU es).length:Int)/\((gU es).length:Int)<=1048576;omega⟩,?_,rfl,rfl,hz⟩⟩,rfl,rfl,hu,hg,rfl,ha,.inl ⟨hk,es,h1,h2,h3,rfl⟩⟩;show ((oM L x.2.1:Nat):Int)=1;rw [hl.2.2 hk];rfl
theorem VR (t:sa L ids F) {x:aZ} (hx:x∈L) (hk:x.2.2.1=2) {s:BS} {iu ig xa st fr off:Int} (u0:0<=iu) (hu:ids[iu.toNat]?=some (uW x)) (g0:0<=ig) (hg:ids[ig.toNat]?=some (zd x)) (ha:W8 s.fX s.RX xa x.2.2.2.2.2.2.1) (h1:Kk.get .int F x.2.1=some (0,0,0,0,0,0,st,(x.2.2.2.2.1.length:Int),fr,off,⟨#[]⟩,())) (h2:zI st (x.2.2.2.2.1.length:Int) fr off):rD L ids F s x (x.2.2.1,x.2.2.2.1.1,iu,ig,((oM L x.2.1:Nat):Int),xa,st,(x.2.2.2.2.1.length:Int),fr,off,x.2.2.2.2.2.1,()):=by
 have hz:x.2.2.2.2.2.1=⟨#[]⟩:=by
  rcases (vG (t.may x hx)).or with q| q| q;exact q.2;exact q.2;rw [hk] at q;exact absurd q.1 (by decide)
 exact ⟨⟨Jm t hx u0 hu g0 hg ha.le,.inr (.inl ⟨hk,h2,hz⟩)⟩,rfl,rfl,hu,hg,rfl,ha,.inr (.inl ⟨hk,h1⟩)⟩
theorem VQ (t:sa L ids F) {x:aZ} (hx:x∈L) (hk:x.2.2.1=3) {s:BS} {iu ig xa:Int} (u0:0<=iu) (hu:ids[iu.toNat]?=some (uW x)) (g0:0<=ig) (hg:ids[ig.toNat]?=some (zd x)) (ha:W8 s.fX s.RX xa x.2.2.2.2.2.2.1):rD L ids F s x (x.2.2.1,x.2.2.2.1.1,iu,ig,((oM L x.2.1:Nat):Int),xa,0,0,0,0,x.2.2.2.2.2.1,()):=by
 have hz:zH x.2.2.2.2.2.1:=by
  rcases (vG (t.may x hx)).or with q| q| q;rw [hk] at q;exact absurd q.1 (by decide);rw [hk] at q;exact absurd q.1 (by decide);exact q.2
 exact ⟨⟨Jm t hx u0 hu g0 hg ha.le,.inr (.inr ⟨hk,hz,rfl,rfl,rfl,rfl⟩)⟩,rfl,rfl,hu,hg,rfl,ha,.inr (.inr ⟨hk,rfl⟩)⟩
theorem sa.below (t:sa L ids F) {x y:aZ} (hx:x∈L) (hk:x.2.2.1≠1) (hy:y∈L) (hp:pre x.1 y):y=x:=by
 have hl:=wN hp;rcases Nat.eq_or_lt_of_le hl with q| q
 .unfold pre at hp;rw [aT (by omega)] at hp;exact t.uniq hy hx hp
 .obtain ⟨k,r8,hq⟩:=uw t (p:=x.1) (y.1.length - (x.1.length+1)) hy hp (by omega);obtain ⟨k0,k1,kl,kp⟩:=eJ r8;obtain ⟨z,hz,hzk,hze⟩:=t.par _ (tk (e:=noTy) k0 k1) (by omega);have:z.1=x.1:=by
   rw [hze,kl];unfold pre at kp;exact kp
  have:=t.uniq hz hx this;subst this;exact absurd hzk hk
end Go.Lm

namespace Go.Proofs
open Go.Shelf
set_option maxRecDepth 1000000
def Tryz.Ah:Go.Shelf.Ren:=⟨fun| 156=>154| 165=>200| 166=>201| 169=>202| 240=>229| 241=>230| 276=>242| 277=>243| n=>n,fun| 31=>32| 9=>9| 3=>3| 4=>4| 0=>0| 20=>20| 72=>294| 76=>298| 70=>292| 37=>35| 75=>297| 127=>324| 164=>334| 5=>5| 80=>291| n=>n,fun| n=>n⟩
theorem Tryz.Tm:Go.Proofs.Lays.n156 bQ Tryz.Ah:= {
 mixed:=by kernel_rfl
 f156:=Tryz.func154.trans (congrArg some (by kernel_rfl))
 f165:=Tryz.func200.trans (congrArg some (by kernel_rfl))
 f166:=Tryz.func201.trans (congrArg some (by kernel_rfl))
 f169:=Tryz.func202.trans (congrArg some (by kernel_rfl))
 f240:=Tryz.func229.trans (congrArg some (by kernel_rfl))
 f241:=Tryz.func230.trans (congrArg some (by kernel_rfl))
 f276:=Tryz.func242.trans (congrArg some (by kernel_rfl))
 f277:=Tryz.func243.trans (congrArg some (by kernel_rfl))
 t0:=Tryz.underlying0
 a0:=Tryz.isAgg0
 z0:=Tryz.sizeOf0
 v0:=Tryz.zeroValue0
 t3:=Tryz.underlying3
 a3:=Tryz.isAgg3
 z3:=Tryz.sizeOf3
 v3:=Tryz.zeroValue3
 t4:=Tryz.underlying4
 a4:=Tryz.isAgg4
 z4:=Tryz.sizeOf4
 v4:=Tryz.zeroValue4
 t9:=Tryz.underlying9
 a9:=Tryz.isAgg9
 z9:=Tryz.sizeOf9
 v9:=Tryz.zeroValue9
 t20:=Tryz.underlying20
 a20:=Tryz.isAgg20
 z20:=Tryz.sizeOf20
 v20:=Tryz.zeroValue20
 t31:=Tryz.underlying32
 a31:=Tryz.isAgg32
 z31:=Tryz.sizeOf32
 v31:=Tryz.zeroValue32
 t37:=Tryz.underlying35
 a37:=Tryz.isAgg35
 z37:=Tryz.sizeOf35
 v37:=Tryz.zeroValue35
 t70:=Tryz.underlying292
 a70:=Tryz.isAgg292
 z70:=Tryz.sizeOf292
 v70:=Tryz.zeroValue292
 t72:=Tryz.underlying294
 a72:=Tryz.isAgg294
 z72:=Tryz.sizeOf294
 v72:=Tryz.zeroValue294
 t75:=Tryz.underlying297
 a75:=Tryz.isAgg297
 z75:=Tryz.sizeOf297
 v75:=Tryz.zeroValue297
 t76:=Tryz.underlying298
 a76:=Tryz.isAgg298
 z76:=Tryz.sizeOf298
 v76:=Tryz.zeroValue298
 t127:=Tryz.underlying324
 a127:=Tryz.isAgg324
 z127:=Tryz.sizeOf324
 v127:=Tryz.zeroValue324
 t164:=Tryz.underlying334
 a164:=Tryz.isAgg334
 z164:=Tryz.sizeOf334
 v164:=Tryz.zeroValue334}
theorem Tryz.pA:Builder.Extra bQ Tryz.Ah:= {
 sizeBuilder:=by kernel_rfl
 liesBuilder:=by kernel_rfl
 t5:=Tryz.underlying5
 a5:=Tryz.isAgg5
 z5:=Tryz.sizeOf5
 v5:=Tryz.zeroValue5
 infoByte:=by kernel_rfl
 cellsByte:=by kernel_rfl
 sizeByte:=by kernel_rfl
 neB5:=by decide}
open Go.RowKit in
theorem Tryz.strings_Join_none (a:Option Addr) (c:Nat) (sep:ByteArray) (w:World):
  Calls bQ 154 #[.slice a 0 c,.string sep] w λe w'=>e= .returned (.string ⟨#[]⟩)/\w'=w:=Any.strings_Join_none Tryz.Tm Tryz.pA a c sep w
open Go.RowKit in
theorem Tryz.strings_Join (bk o c:Nat) (xs:List ByteArray) (sep:ByteArray) (w:World) (Qq:∀ (j:Nat) x,xs[j]?=some x->w.cell? ⟨bk,o+j,none⟩=some (.string x)) (hbk:bk< w.heap.size) (hN:xs.length<=140737488355328) (JG:xs.length<=c) (hlen:(Lib.join (xs.map (·.data.toList)) sep.data.toList).length<=140737488355328):
  Calls bQ 154 #[.slice (some ⟨bk,o,none⟩) xs.length c,.string sep] w λe w'=>e= .returned (.string ⟨(Lib.join (xs.map (·.data.toList)) sep.data.toList).toArray⟩)/\Below w.heap.size w w':=Any.strings_Join Tryz.Tm Tryz.pA bk o c xs sep w Qq hbk hN JG hlen
end Go.Proofs

namespace Go.Proofs
open Go Go.Lm Go.RowKit
set_option maxRecDepth 1000000
def WJ:Ct:=cI λx=>cI λa=>cI λb=>c0 λQ=>Q (.bool (gW x a b)) []
def ahv:=(gJ.add Rb).add Ks
def By (x a b:Int):dx:=λQ=>cz x a b (br (decide (a<=x)) (Q (.v (.c (.k (.bool (decide (x<=b)))))) []) (bc Q))
theorem UW:cu 157 WJ:=eQ<| nG λx=>nG λa=>nG λb=>gM λQ h=>by
 refine Wp.dC ahv cC ⟨[],[]⟩ Tryz.f157 (By x a b) ?_;unfold By bc cz iX;intro _ _ _;unfold gW at h;refine aq (λhc=>?_) (λhc=>?_)<;>rw [hc] at h<;>exact h
def aa9:Ct:=cS λs=>cI λm=>c0 λQ=>Q (.bool (oH s m)) []
def ahu:=ahv.add UW
def Fq (s:ByteArray) (m:Int):dx:=λQ=>iR s (aD .i64 m->br (gW (gY s) aV m) (IS s.data.toList Q) (bc Q))
theorem XW:cu 156 aa9:=eQ<| ZA λs=>nG λm=>gM λQ h=>by
 refine Wp.dC ahu cC ⟨[],[]⟩ Tryz.f156 (Fq s m) ?_;unfold Fq IS iR bc gY iX aV bx;intro _ _;unfold oH at h;refine aq (λhc=>?_) (λhc=>?_)<;>rw [hc] at h
 .intro _;exact h
 .exact h
def WI:Ct:=cD cZ λl=>c0 λQ=>Q (.bool (dF l)) []
def aht:=ahu.add XW
def Bx (l:(List (cZ).den)):dx:=λQ=>kz l (aJ (List.length l)->aM (λi ag=>br (decide (i.1.1< (aA l))) (0<=i.1.1/\i.1.1< (aA l)/\(Ty.ok cZ (dd l i.1.1)->br (!oH (dd l i.1.1).1 (40:Int)) (bc Q) (br (rG (dd l i.1.1).1 
 i.1.2.1|| kT (dd l i.1.1).1 i.1.2.1) (bc Q) (IW l i.1.1 Q ag)))) (yz l Q)) ((ah,ByteArray.mk #[],()),()))
theorem UU:cu 158 WI:=eQ<| jm λl=>gM λQ h=>by
 refine Wp.dC aht cC ⟨[(4,⟨[(8,.int .i64),(3,.str)],[]⟩)],[]⟩ Tryz.f158 (Bx l) ?_;unfold Bx kz yz dd IW cF bc iX ah iJ aA aJ;intro hl0 _;refine aM.intro (λi=>0<=i.1.1/\i.1.1<=l.length/\fH l ⟨#[]⟩=fH (l.drop i.1.1.toNat) i.1.2.1) (λi=>l.length - i.1.1.toNat) ⟨by simp,by simp,by simp⟩ ?_;rintro ⟨⟨i,last,_⟩,_⟩ ⟨h0,h1,h2⟩;simp only at h0 h1 h2 ⊢;refine aq (λhc=>?_) (λhc=>?_)
 .have hc:i< l.length:=by simpa using hc
  refine ⟨h0,hc,λ_=>?_⟩;rw [dc (e:=cZ) h0 hc] at h2;have bad:vX (aB cZ l i) last=true->Q (.bool false) []:=λhb=>by
   simp only [fH,hb,if_true] at h2;unfold dF at h;rw [h2,fg] at h;exact h
  unfold vX Go.Lm.leB at bad;refine aq (λh3=>bad (by rw [h3];rfl)) (λh3=>aq (λh4=>bad (by rw [h4];simp)) (λh4=>?_));intro _;refine aq (λh5=>bad (by rw [h5];simp)) (λh5=>?_);have hn:vX (aB cZ l i) last=false:=by unfold vX Go.Lm.leB;rw [h3,h4,h5];rfl
  simp only [fH,hn,dS,if_false] at h2;exact ⟨by unfold aD;omega,⟨by omega,by omega,h2⟩,by omega⟩
 .have hc:¬i< l.length:=by simpa using hc
  rw [dj hc] at h2;intro _;unfold dF at h;rw [h2] at h;exact h
def akM:Ct:=cN noTy λx=>c0 λQ=>Q (.bool (gr x)) []
def ahs:=aht.add UU
abbrev Zm (y0) (y1) (y2:SV->List HO->Prop) (y3):=br (gW y0 ah (65535:Int)) (br (gW y1 ah (65535:Int)) (y2 (.v (.c (.k (.bool (dF y3))))) []) (bc y2)) (bc y2)
abbrev ID (y0) (y1) (y2) (y3) (y4:SV->List HO->Prop) (y5):=br (!y0) (br (gW y1 ah (511:Int)) (Zm y2 y3 y4 y5) (bc y4)) (bc y4)
def R4:((noTy).den)->dx:=
 λx Q=>fC x.1 (cz x.2.1 x.2.2.1 x.2.2.2.1.1 (cg x.2.2.2.1.2.1 x.2.2.2.1.2.2.1 (aJ (bw x.2.2.2.2.1)->du x.2.2.2.2.2.1 (aJ (bw x.2.2.2.2.2.2.1)->aJ (bw x.2.2.2.2.1)->br (x.2.2.1==1) (br ((aS 
 x.2.2.2.2.1)==0) (br (qI x.2.2.2.2.2.1) (ID x.2.2.2.2.2.2.2.1 x.2.2.2.1.1 x.2.2.2.1.2.1 x.2.2.2.1.2.2.1 Q x.2.2.2.2.2.2.1) (bc Q)) (bc Q)) (br (x.2.2.1==2) (aJ (bw x.2.2.2.2.1)->br (decide ((aS x.2.2.2.2.1)<=(4096 
 :Int))) (br (qI x.2.2.2.2.2.1) (ID x.2.2.2.2.2.2.2.1 x.2.2.2.1.1 x.2.2.2.1.2.1 x.2.2.2.1.2.2.1 Q x.2.2.2.2.2.2.1) (bc Q)) (bc Q)) (br (x.2.2.1==3) (br ((aS x.2.2.2.2.1)==0) (br (oH x.2.2.2.2.2.1 (200:Int)) (ID 
 x.2.2.2.2.2.2.2.1 x.2.2.2.1.1 x.2.2.2.1.2.1 x.2.2.2.1.2.2.1 Q x.2.2.2.2.2.2.1) (bc Q)) (bc Q)) (bc Q)))))))
theorem aiG:cu 119 akM:=eQ<| PT λx=>gM λQ h=>by
 refine Wp.dC ahs cC ⟨[],[]⟩ Tryz.f119 (R4 x) ?_;unfold R4 qI ID du Zm cg bc fC bw cz iX ah aS aJ;intro _ _ _ _ _ _ _ _ _ _
 repeat' (first| (intro _;done)| refine aq (λ_=>?_) (λ_=>?_)| intro _)
 all_goals refine Eq.mp (congrArg (λz=>Q (SV.bool z) []) ?_) h
 all_goals unfold gr noB AG
 all_goals clear h
 all_goals simp_all
 all_goals (intros;omega)
def af4:Ct:=cN noTy λx=>c0 λQ=>Q (.bool (!gr x)) []
def ahr:=ahs.add aiG
def LA:((noTy).den)->dx:=
 λx Q=>fC x.1 (cz x.2.1 x.2.2.1 x.2.2.2.1.1 (cg x.2.2.2.1.2.1 x.2.2.2.1.2.2.1 (aJ (bw x.2.2.2.2.1)->du x.2.2.2.2.2.1 (aJ (bw x.2.2.2.2.2.2.1)->Q (.v (.c (.k (.bool !gr (x.1,x.2.1,x.2.2.1,(x.2.2.2.1.1, 
 x.2.2.2.1.2.1,x.2.2.2.1.2.2.1,()),x.2.2.2.2.1,x.2.2.2.2.2.1,x.2.2.2.2.2.2.1,x.2.2.2.2.2.2.2.1,()))))) []))))
theorem ad4:cu 118 af4:=eQ<| PT λx=>gM λQ h=>by
 refine Wp.dC ahr cC ⟨[],[]⟩ Tryz.f118 (LA x) ?_;unfold LA du cg fC bw cz aJ
 intros
 exact h
def Ua:Ct
 | [.v (.c cl),.v (.c (.fn 118 []))],[],Q=>(match (Ty.sl noTy).of [cl] with
  | some (l,[])=>Q (.int (kj (λx:aZ=> !gr x) l 0)) []
  | _=>False)
 | _,_,_=>False
def ahq:=ahr.add ad4
abbrev CM (y0:List (noTy).den) (y1):=((aB noTy y0 y1).1,(aB noTy y0 y1).2.1,(aB noTy y0 y1).2.2.1,((aB noTy y0 y1).2.2.2.1.1,(aB noTy y0 y1).2.2.2.1.2.1,(aB noTy y0 y1).2.2.2.1.2.2.1,()),(aB noTy y0 y1).2.2.2.2.1,(aB noTy y0 y1).2.2.2.2.2.1,(aB noTy y0 y1).2.2.2.2.2.2.1,(aB noTy y0 y1).2.2.2.2.2.2.2.1,())
def Lw (l:(List (noTy).den)):dx:=λQ=>dG l (gE l (aM (λi ag=>br (eH i.1.1 l) (dz i.1.1 l (dY l i.1.1 (br (!gr (CM l i.1.1)) (Q (gF i.1.1) []) (dP i.1.1 ag)))) (oF Q)) dE))
theorem ad0:cu 155 Ua:=by
 intro args H Q h;unfold Ua at h;split at h;rotate_left;cases h;rename_i cl;split at h;rotate_left;cases h;rename_i l hl;refine Wp.said (args':=[.c (.d noTy l),.c (.fn 118 [])]) (λE g=>bm.cr (dH hl) (bm.cr (λ_ h=>h) (λ_ h=>h))) ?_;clear hl;refine Wp.dC ahq cC ⟨[(3,⟨[(8,.int .i64)],[]⟩)],[]⟩ Tryz.f155 (Lw l) ?_;unfold Lw gE dY gF oF eH dE dz cn dG dP CM aC ah aA aJ;intro hl _;refine aM.intro (λi=>0<=i.1.1/\i.1.1<=l.length/\kj (λx:aZ=> !gr x) (l.drop i.1.1.toNat) i.1.1=kj (λx:aZ=> !gr x) l 0) (λi=>l.length - i.1.1.toNat) ⟨by simp,by simp,by simp⟩ ?_;rintro ⟨⟨i,_⟩,_⟩ ⟨h0,h1,h2⟩;simp only at h0 h1 h2 ⊢;refine aq (λhc=>?_) (λhc=>?_)
 .have hc:i< l.length:=by simpa using hc
  refine ⟨h0,hc,λ_=>?_⟩;rw [dc (e:=noTy) h0 hc] at h2;refine aq (λh3=>?_) (λh3=>?_)
  .simp only [kj,h3,if_true] at h2;rw [h2];exact h
  .simp only [kj,h3,dS,if_false] at h2;refine ⟨by unfold aD;omega,⟨by omega,by omega,?_⟩,by omega⟩;rw [show (i+1).toNat=(i+1).toNat from rfl];exact h2
 .have hc:¬i< l.length:=by simpa using hc
  rw [dj hc] at h2;simp only [kj] at h2;rw [h2];exact h
def Ud:Ct
 | [.v (.c cl),.v (.c (.fn 118 []))],[],Q=>(match (Ty.sl noTy).of [cl] with
  | some (l,[])=>Q (.bool (l.any λx:aZ=> !gr x)) []
  | _=>False)
 | _,_,_=>False
def ab7:=ahq.add ad0
def LB (l:(List (noTy).den)):dx:=λQ=>dG l (aD .i64 (kj (λx=> !gr x) l ah)->Q (.v (.c (.k (.bool (decide (kj (λx=> !gr x) l ah≥ah)))))) [])
theorem Rm:cu 117 Ud:=by
 intro args H Q h;unfold Ud at h;split at h;rotate_left;cases h;rename_i cl;split at h;rotate_left;cases h;rename_i l hl;refine Wp.said (args':=[.c (.d noTy l),.c (.fn 118 [])]) (λE g=>bm.cr (dH hl) (bm.cr (λ_ h=>h) (λ_ h=>h))) ?_;clear hl;refine Wp.dC ab7 cC ⟨[],[]⟩ Tryz.f117 (LB l) ?_;unfold LB dG ah;intro _ _;rw [<-Nt (bB 0)] at h;exact h
def JK (a b:List UInt8):Bool:=kT (gu a) (gu b)
def WQ:Ct:=cD .u8 λa=>cD .u8 λb=>c0 λQ=>Q (.bool (JK a b)) []
def ahp:=ab7.add Rm
def BE (a b:(List (Ty.u8).den)):dx:=λQ=>cU a (aJ (dy b)->Q (.v (.c (.k (.bool (kT (gu a) (gu b)))))) [])
theorem EX:cu 204 WQ:=eQ<| jm λa=>jm λb=>gM λQ h=>by
 refine Wp.dC ahp cC ⟨[],[]⟩ Tryz.f204 (BE a b) ?_;unfold BE dy cU aJ
 intros
 exact h
def pO (x y:uD):Bool:=kT x.1 y.1&& JK x.2.1 y.2.1
def WR:Ct:=cN cZ λx=>cN cZ λy=>c0 λQ=>Q (.bool (pO x y)) []
def aho:=ahp.add EX
def BF:((cZ).den)->((cZ).den)->dx:=
 λx y Q=>iR x.1 (aJ (bw x.2.1)->du y.1 (aJ (bw y.2.1)->br (kT x.1 y.1) (Q (.v (.c (.k (.bool (JK x.2.1 y.2.1))))) []) (bc Q)))
theorem EY:cu 203 WR:=eQ<| PT λx=>PT λy=>gM λQ h=>by
 refine Wp.dC aho cC ⟨[],[]⟩ Tryz.f203 (BF x y) ?_;unfold BF iR du bc bw iX aJ;unfold pO at h
 intros
 refine aq (λhc=>?_) (λhc=>?_)<;>rw [hc] at h<;>first| exact h| (intros;exact h)
def fG:List uD->List uD->Bool
 | [],[]=>true
 | x::a,y::b=>pO x y&& fG a b
 | _,_=>false
theorem tB:∀ {a b:List uD},a.length≠b.length->fG a b=false
 | [],[],h=>absurd rfl h
 | _::a,_::b,h=>by
  unfold fG;rw [tB (a:=a) (b:=b) (by simpa using h),Bool.and_false]
 | [],_::_,_=>rfl
 | _::_,[],_=>rfl
def Uc:Ct
 | [.v (.c ca),.v (.c cb),.v (.c (.fn 203 []))],[],Q=>(match (Ty.sl cZ).of [ca] with
  | some (a,[])=>(match (Ty.sl cZ).of [cb] with
  | some (b,[])=>Q (.bool (fG a b)) []
  | _=>False)
  | _=>False)
 | _,_,_=>False
def ab6:=aho.add EY
def Lz (a b:(List (cZ).den)):dx:=λQ=>kz a (aJ (List.length b)->aJ (List.length a)->aJ (List.length b)->br ((aA a) !=(aA b)) (bc Q) (aJ (List.length a)->aM (λi ag=>br (decide (i.1.1< (aA a))) (0<=i.1.1/\i.1.1< (aA a)/\(Ty.ok 
 cZ (dd a i.1.1)->0<=i.1.1/\i.1.1< (aA b)/\(Ty.ok cZ (dd b i.1.1)->br (!pO ((dd a i.1.1).1,(dd a i.1.1).2.1,()) ((dd b i.1.1).1,(dd b i.1.1).2.1,())) (bc Q) (dP i.1.1 ag)))) (Q nF [])) 
 dE))
theorem Rl:cu 205 Uc:=by
 intro args H Q h;unfold Uc at h;split at h;rotate_left;cases h;rename_i ca cb;split at h;rotate_left;cases h;rename_i a ha;split at h;rotate_left;cases h;rename_i b hb;refine Wp.said (args':=[.c (.d cZ a),.c (.d cZ b),.c (.fn 203 [])]) (λE g=>bm.cr (dH ha) (bm.cr (dH hb) (bm.cr (λ_ h=>h) (λ_ h=>h)))) ?_;clear ha hb;refine Wp.dC ab6 cC ⟨[(5,⟨[(17,.int .i64)],[]⟩)],[]⟩ Tryz.f205 (Lz a b) ?_;unfold Lz kz dd dE bc dP iX nF ah aA aJ;intro _ _ _ _;refine aq (λh1=>?_) (λh1=>?_)
 .rw [tB (by intro e;rw [e] at h1;simp at h1)] at h;exact h
 .have hl:a.length=b.length:=by
   have:(a.length:Int)=(b.length:Int):=by simpa only [bne_eq_false_iff_eq] using h1
   omega
  intro _;refine aM.intro (λi=>0<=i.1.1/\i.1.1<=a.length/\fG (a.drop i.1.1.toNat) (b.drop i.1.1.toNat)=fG a b) (λi=>a.length - i.1.1.toNat) ⟨by simp,by simp,by simp⟩ ?_;rintro ⟨⟨i,_⟩,_⟩ ⟨h0,h2,h3⟩;simp only at h0 h2 h3 ⊢;refine aq (λhc=>?_) (λhc=>?_)
  .have hc:i< a.length:=by simpa using hc
   have zc:i< b.length:=by omega
   rw [dc (e:=cZ) h0 hc,dc (e:=cZ) h0 zc] at h3;simp only [fG] at h3;refine ⟨h0,hc,λ_=>⟨h0,zc,λ_=>aq (λh4=>?_) (λh4=>?_)⟩⟩
   .have h4:pO (aB cZ a i) (aB cZ b i)=false:=by simpa using h4
    rw [h4,fg] at h3;rw [<-h3] at h;exact h
   .have h4:pO (aB cZ a i) (aB cZ b i)=true:=by simpa using h4
    rw [h4,j5] at h3;exact ⟨by unfold aD;omega,⟨by omega,by omega,h3⟩,by omega⟩
  .have hc:¬i< a.length:=by simpa using hc
   rw [dj hc,dj (by omega)] at h3;simp only [fG] at h3;rw [<-h3] at h;exact h
def iH (x y:aZ):Bool:=x.2.2.1==y.2.2.1&& ((x.2.2.2.1.1==y.2.2.2.1.1&& (x.2.2.2.1.2.1==y.2.2.2.1.2.1&& (x.2.2.2.1.2.2.1==y.2.2.2.1.2.2.1&& true)))&& (kT x.2.2.2.2.2.1 y.2.2.2.2.2.1&& (x.2.2.2.2.2.2.2.1==y.2.2.2.2.2.2.2.1&& (JK x.2.2.2.2.1 y.2.2.2.2.1&& fG x.2.2.2.2.2.2.1 y.2.2.2.2.2.2.1))))
def abe:Ct:=cN noTy λx=>cN noTy λy=>c0 λQ=>Q (.bool (iH x y)) []
def ab5:=ab6.add Rl
def Fz:((noTy).den)->((noTy).den)->dx:=
 λx y Q=>fC x.1 (cz x.2.1 x.2.2.1 x.2.2.2.1.1 (cg x.2.2.2.1.2.1 x.2.2.2.1.2.2.1 (aJ (bw x.2.2.2.2.1)->du x.2.2.2.2.2.1 (aJ (bw x.2.2.2.2.2.2.1)->aJ (bw y.1)->cz y.2.1 y.2.2.1 y.2.2.2.1.1 (cg 
 y.2.2.2.1.2.1 y.2.2.2.1.2.2.1 (aJ (bw y.2.2.2.2.1)->du y.2.2.2.2.2.1 (aJ (bw y.2.2.2.2.2.2.1)->br (x.2.2.1==y.2.2.1) (br (x.2.2.2.1.1==y.2.2.2.1.1&& (x.2.2.2.1.2.1==y.2.2.2.1.2.1&& (x.2.2.2.1.2.2.1==y.2.2.2.1.2.2.1 
 && true))) (br (kT x.2.2.2.2.2.1 y.2.2.2.2.2.1) (br (x.2.2.2.2.2.2.2.1==y.2.2.2.2.2.2.2.1) (br (JK x.2.2.2.2.1 y.2.2.2.2.1) (Q (.v (.c (.k (.bool (fG x.2.2.2.2.2.2.1 y.2.2.2.2.2.2.1))))) []) (bc Q)) (bc Q)) (bc Q)) (bc 
 Q)) (bc Q))))))))
theorem KF:cu 159 abe:=eQ<| PT λx=>PT λy=>gM λQ h=>by
 refine Wp.dC ab5 cC ⟨[],[]⟩ Tryz.f159 (Fz x y) ?_;unfold Fz du cg bc fC bw cz iX aJ;unfold iH at h;intro _ _ _ _ _ _ _ _ _ _ _ _ _ _ _ _ _ _
 repeat' (first| refine aq (λhc=>?_) (λhc=>?_)| intro _)
 all_goals refine Eq.mp (congrArg (λz=>Q (SV.bool z) []) ?_) h
 all_goals clear h
 all_goals simp only [*,j5,fg,Bool.and_false]
def iE:List aZ->List (Int×aZ)->Int
 | [],_=>0
 | x::r,m=>match Kk.get .int m x.2.1 with
  | some o=>if x.2.2.1==1|| !iH x o then 8 else iE r m
  | none=>iE r (Kk.put .int m x.2.1 x)
def WN:Ct:=cD noTy λl=>c0 λQ=>Q (.int (iE l [])) []
def ab4:=ab5.add KF
abbrev Pz (y0) (y1:List (noTy).den) (y2) (y3:_->Prop):=br (!oc (Kk.get Kk.int y0 (cn y1 y2).2.1)) (lY y0 (cF y2 (y3 ((y2+1,()),Kk.put Kk.int y0 (cn y1 y2).2.1 (CM y1 y2),())))) (cF y2 (y3 ((y2+1,()),y0,())))
abbrev yr (y0:SV->List HO->Prop):=y0 (.v (.c (.k (.int .i64 8)))) []
def BC (l:(List (noTy).den)):dx:=λQ=>dG l (gE l (aM (λi ag=>br (eH i.1.1 l) (dz i.1.1 l (dY l i.1.1 (Ty.ok noTy (cA (Kk.get Kk.int i.2.1 (cn l i.1.1).2.1) qW)->br (oc (Kk.get Kk.int i.2.1 (cn l i.1.1).2.1)) (br 
 ((cn l i.1.1).2.2.1==1) (yr Q) (br (!iH (CM l i.1.1) ((cA (Kk.get Kk.int i.2.1 (cn l i.1.1).2.1) qW).1,(cA (Kk.get Kk.int i.2.1 (cn l i.1.1).2.1) qW).2.1,(cA (Kk.get Kk.int i.2.1 (cn 
 l i.1.1).2.1) qW).2.2.1,((cA (Kk.get Kk.int i.2.1 (cn l i.1.1).2.1) qW).2.2.2.1.1,(cA (Kk.get Kk.int i.2.1 (cn l i.1.1).2.1) qW).2.2.2.1.2.1,(cA (Kk.get Kk.int i.2.1 (cn l i.1.1).2.1) 
 qW).2.2.2.1.2.2.1,()),(cA (Kk.get Kk.int i.2.1 (cn l i.1.1).2.1) qW).2.2.2.2.1,(cA (Kk.get Kk.int i.2.1 (cn l i.1.1).2.1) qW).2.2.2.2.2.1,(cA (Kk.get Kk.int i.2.1 (cn l i.1.1).2.1) 
 qW).2.2.2.2.2.2.1,(cA (Kk.get Kk.int i.2.1 (cn l i.1.1).2.1) qW).2.2.2.2.2.2.2.1,())) (yr Q) (Pz i.2.1 l i.1.1 ag))) (Pz i.2.1 l i.1.1 ag)))) (iQ Q)) ((ah,()),[],())))
theorem EW:cu 120 WN:=eQ<| jm λl=>gM λQ h=>by
 refine Wp.dC ab4 cC ⟨[(4,⟨[(11,.int .i64)],[(0,.map 3 .int noTy)]⟩)],[]⟩ Tryz.f120 (BC l) ?_;unfold BC gE yr dY iQ Pz lY eH dz cF cn dG aR CM ah aA aJ qW;intro hl _;refine aM.intro (λi=>0<=i.1.1/\i.1.1<=l.length/\iE (l.drop i.1.1.toNat) i.2.1=iE l []/\(i.2.1.length:Int)<=i.1.1) (λi=>l.length - i.1.1.toNat) ⟨by simp,by simp,by simp,by simp⟩ ?_;rintro ⟨⟨i,_⟩,m,_⟩ ⟨h0,h1,h2,h3⟩;simp only at h0 h1 h2 h3 ⊢;refine aq (λhc=>?_) (λhc=>?_)
 .have hc:i< l.length:=by simpa using hc
  rw [dc (e:=noTy) h0 hc] at h2;refine ⟨h0,hc,λ_=>?_⟩;have hp:=SU (k:=.int) (l:=m) (x:=(aB noTy l i).2.1) (v:=aB noTy l i);cases hg:Kk.get .int m (aB noTy l i).2.1 with
  | none=>
   simp only [iE,hg] at h2;intro _;refine aq (λh4=>by cases h4) (λ_=>aq (λ_=>?_) (λh5=>by cases h5));exact ⟨by omega,by unfold aD;omega,⟨by omega,by omega,h2,Int.le_trans (Int.ofNat_le.2 hp) (by omega)⟩,by omega⟩
  | some o=>
   simp only [iE,hg] at h2;intro _;refine aq (λ_=>aq (λh5=>?_) (λh5=>aq (λh6=>?_) (λh6=>aq (λh7=>by cases h7) (λ_=>?_)))) (λh4=>by cases h4)
   .rw [h5,lQ,if_pos rfl] at h2;rw [<-h2] at h;exact h
   .have h6:(!iH (aB noTy l i) o)=true:=h6;rw [h6,Bool.or_true,if_pos rfl] at h2;rw [<-h2] at h;exact h
   .have h6:(!iH (aB noTy l i) o)=false:=h6;rw [h5,h6] at h2;exact ⟨by unfold aD;omega,⟨by omega,by omega,h2,by omega⟩,by omega⟩
 .have hc:¬i< l.length:=by simpa using hc
  rw [dj hc] at h2;simp only [iE] at h2;rw [<-h2] at h;exact h
def ir:List ByteArray->Int
 | []=>0
 | s::r=>if dh s !=0 then dh s else ir r
def gG:List aZ->Int
 | []=>0
 | x::r=>if ir x.1 !=0 then ir x.1 else gG r
def oW (l:List aZ):Bool:=l.any λx=>decide ((x.1.length:Int)>16)
def ko (l:List aZ):List aZ->Int->Bool
 | [],_=>false
 | x::r,i=>decide (kj (kG x.1) l 0< i)|| ko l r (i+1)
def oJ (l:List aZ):Int:=if gG l !=0 then gG l else if oW l then 9 else if ko l l 0 then 6 else 0
theorem uU (s:ByteArray):Go.LmN.dh s=dh s:=by
 unfold Go.LmN.dh dh;rw [show Go.LmN.akm s=TM s from rfl,show Go.LmN.AN s 0=kq s 0 from rfl,Bool.or_comm]
def TX:Ct
 | [.v (.c ca),.v (.c (.k (.string z)))],[],Q=>(match (Ty.sl Ty.str).of [ca] with
  | some (a,[])=>z=⟨#[47]⟩/\(Go.LmN.ix a).size<=140737488355328/\Q (.str ⟨(Lib.join (a.map (·.data.toList)) [47]).toArray⟩) []
  | _=>False)
 | _,_,_=>False
theorem SA (l:List ByteArray) (hb:(Go.LmN.ix l).size<=140737488355328):1+(ByteArray.mk ((Lib.join (l.map (·.data.toList)) [47]).toArray)).size<=9223372036854775807:=by
 have hj:=Go.LmN.V5 l;have e:(ByteArray.mk ((Lib.join (l.map (·.data.toList)) [47]).toArray)).size=(Lib.join (l.map (·.data.toList)) [47]).length:=by rw [Go.LmN.jQ]
 rw [e];omega
theorem Z2 (l:List ByteArray) (v:Value) (g w:World) (uy:bt g w) (h:Is g v l) (hb:(Go.LmN.ix l).size<=140737488355328):HH bQ 154 #[v,.string ⟨#[47]⟩] w λu w'=>u= .string ⟨(Lib.join (l.map (·.data.toList)) [47]).toArray⟩/\Le w w':=by
 have hj:=Go.LmN.Z3 l;by_cases hl:l= []
 .subst hl;rcases dI.1 h with ⟨rfl,_⟩| ⟨a,cap,rfl,_⟩
  .exact (HH.of (Tryz.strings_Join_none none 0 ⟨#[47]⟩ w)).mono λ_ _ ⟨h1,h2⟩=>⟨h1,by rw [h2];exact Le.refl w⟩
  .exact (HH.of (Tryz.strings_Join_none (some a) cap ⟨#[47]⟩ w)).mono λ_ _ ⟨h1,h2⟩=>⟨h1,by rw [h2];exact Le.refl w⟩
 .obtain ⟨bk,o,c,rfl,h1,h2,h3⟩:=Go.LmN.P9 h uy hl;have hn:l.length<=(Go.LmN.ix l).size:=by
   have e:=Go.LmN.oP l;rw [if_neg (by simpa using hl)] at e;rw [Go.LmN.jQ,e];exact Go.LmN.L8 l
  exact (HH.of (Tryz.strings_Join bk o c l ⟨#[47]⟩ w h1 h2 (by omega) h3 (by show (Lib.join (l.map (·.data.toList)) [47]).length<=_;omega))).mono λ_ _ ⟨h1,h2⟩=>⟨h1,h2⟩
theorem Re:cu 154 TX:=by
 intro args H Q h;unfold TX at h;split at h
 .split at h
  .rename_i a ha;obtain ⟨rfl,hb,h⟩:=h;refine Wp.S6 (λE g w vs m hv=>?_) h;obtain ⟨u,v,rfl,hu,⟨rfl,_⟩⟩:=nR hv;have hu:oa .str g u a:=dH ha u hu;refine (Z2 a u g w m hu hb).mono λx w' ⟨h1,h2⟩=>⟨?_,h2⟩;rw [h1];refine ⟨rfl,?_⟩;exact Nat.le_trans (Nat.le_add_left _ 1) (SA a hb)
  .cases h
 .cases h
def af2:Ct:=cD .str λa=>c0 λQ=>((Go.LmN.ix a).size<=140737488355328/\Q (.str (Go.LmN.ix a)) [])
def ab3:=(ab4.add EW).add Re
abbrev IT (y0:List (Ty.str).den):=List.toArray (Lib.join (List.map (λx=>x.data.toList) y0) [(47:UInt8)])
abbrev mM (y0:List (Ty.str).den) (R:Prop):=List.length y0<=9223372036854775807->R
def Lv (a:(List (Ty.str).den)):dx:=λQ=>mM a (ByteArray.mk #[(47:UInt8)]=ByteArray.mk #[(47:UInt8)]/\ByteArray.size (LmN.ix a)<=140737488355328/\(ByteArray.size (ByteArray.mk (IT a))<=9223372036854775807->bH+ByteArray.size (ByteArray.mk 
 (IT a))<=9223372036854775807/\Q (.v (.c (.k (.string (ByteArray.mk #[(47:UInt8)]++ByteArray.mk (IT a)))))) []))
theorem Rk:cu 116 af2:=eQ<| jm λa=>gM λQ h=>by
 refine Wp.dC ab3 cC ⟨[],[]⟩ Tryz.f116 (Lv a) ?_;unfold Lv mM IT bH;obtain ⟨hb,h⟩:=h;intro _;refine ⟨rfl,hb,λ_=>⟨?_,?_⟩⟩;exact SA a hb
 .rw [<-Go.LmN.yY] at h;exact h
abbrev ql (l:List ByteArray):ByteArray:=Go.LmN.ix l
def lN:List aZ->List (ByteArray×aZ)->Option (List (ByteArray×aZ))
 | [],m=>some m
 | x::r,m=>if (Kk.get .str m (ql x.1)).isSome then none else lN r (Kk.put .str m (ql x.1) x)
theorem FY:∀ {l:List ByteArray},ir l=0->∀ s∈l,dh s=0
 | [],_,s,hs=>by cases hs
 | x::r,h,s,hs=>by
  unfold ir at h;by_cases hx:(dh x !=0)=true
  .rw [if_pos hx] at h;rw [h] at hx;simp at hx
  .rw [if_neg hx] at h;rcases bz.1 hs with rfl| hs
   .simpa using hx
   .exact FY h s hs
theorem ja:∀ {l:List aZ},gG l=0->∀ x∈l,∀ s∈x.1,dh s=0
 | [],_,x,hx=>by cases hx
 | y::r,h,x,hx=>by
  unfold gG at h;by_cases hy:(ir y.1 !=0)=true
  .rw [if_pos hy] at h;rw [h] at hy;simp at hy
  .rw [if_neg hy] at h;rcases bz.1 hx with rfl| hx
   .exact FY (by simpa using hy)
   .exact ja h x hx
theorem A4 {l:List aZ} (h:oW l=false) {x:aZ} (hx:x∈l):x.1.length<=16:=by
 unfold oW at h;rw [List.any_eq_false] at h;have:=h x hx;simp at this;omega
theorem Dd {p:List ByteArray} (h:∀ s∈p,dh s=0) (hl:p.length<=30):(ql p).size<=140737488355328:=by
 have:=Go.LmN.W7 (l:=p) (λs hs=>by rw [uU];exact h s hs) hl;show (Go.LmN.ix p).size<=_;omega
theorem Tu {e:Ty} {l:List e.den} {k:Int} (h0:0<=k) (h1:k< l.length):aB e l k∈l:=by
 have fD:k.toNat< l.length:=by omega
 unfold aB;rw [ep,ao fD];exact dA fD
def iC (l:List aZ):Int:=if gG l !=0 then gG l else if oW l then 9 else if (lN l []).isNone then 6 else 0
def fj (l:List aZ):List (ByteArray×aZ):=(lN l []).getD []
def aba:Ct:=cD noTy λl=>c0 λQ=>br (iC l !=0) (Q (.cH [.c (.k (.map none)),.c (.k (.int .i64 (iC l)))]) []) (Q (.cH [.c (.m 0),.c (.k (.int .i64 0))]) [.map 9 .str noTy (fj l)])
def ala:=ab3.add Rk
abbrev gR (y0:List (noTy).den) (y1):=(↑(List.length (aB noTy y0 y1).1):Int)
abbrev rJ (y0:List (noTy).den) (y1) (R:Prop):=Ty.ok noTy (cn y0 y1)->List.length (cn y0 y1).1<=9223372036854775807->R
abbrev pH (y0:List (noTy).den) (y1) (y2):=aB Ty.str (cn y0 y1).1 y2
def Fs (l:(List (noTy).den)):dx:=λQ=>dG l (gE l (aM (λi ag=>br (eH i.1.1 l) (dz i.1.1 l (rJ l i.1.1 (aM (λbE ag_1=>br (decide (bE.1.1< (gR l i.1.1))) (0<=bE.1.1/\bE.1.1< (gR l i.1.1)/\(Ty.ok Ty.str (pH l i.1.1 
 bE.1.1)->aD .i64 (dh (pH l i.1.1 bE.1.1))->br (dh (pH l i.1.1 bE.1.1) !=0) (Q (.cH [.c (.k (.map none)),.c (.k (.int .i64 (dh (pH l i.1.1 bE.1.1))))]) []) (dP bE.1.1 ag_1))) (dP i.1.1 ag)) dE))) 
 (gE l (aM (λi ag=>br (eH i.1.1 l) (dz i.1.1 l (rJ l i.1.1 (br (decide ((gR l i.1.1)>IZ)) (Q (.cH [.c (.k (.map none)),.c (.k (.int .i64 9))]) []) (dP i.1.1 ag)))) (gE l (aM (λi ag=>br (eH 
 i.1.1 l) (dz i.1.1 l (dY l i.1.1 (ByteArray.size (LmN.ix (cn l i.1.1).1)<=140737488355328/\(aJ (ByteArray.size (LmN.ix (cn l i.1.1).1))->Ty.ok noTy (cA (Kk.get Kk.str i.2.1 (LmN.ix (cn l i.1.1).1)) 
 qW)->br (oc (Kk.get Kk.str i.2.1 (LmN.ix (cn l i.1.1).1))) (Q (.cH [.c (.k (.map none)),.c (.k (.int .i64 6))]) []) (lY i.2.1 (cF i.1.1 (ag ((i.1.1+1,()),Kk.put Kk.str i.2.1 (LmN.ix (cn l i.1.1).1) 
 (CM l i.1.1),())))))))) (Q (SV.cH [S1.c (Cl.m bx),.c (.k aR)]) [HO.map (9:TypeId) Kk.str noTy i.2.1])) ((ah,()),[],())))) dE))) dE))
theorem XX:cu 115 aba:=eQ<| jm λl=>gM λQ h=>by
 refine Wp.dC ala cC ⟨[(3,⟨[(19,.int .i64)],[]⟩),(6,⟨[(26,.int .i64)],[]⟩),(14,⟨[(39,.int .i64)],[]⟩),(21,⟨[(51,.int .i64)],[(0,.map 9 .str noTy)]⟩)],[]⟩ Tryz.f115 (Fs l) ?_;unfold Fs gE dY pH lY eH dE dz cF rJ cn dG gR dP aR CM ah IZ aA aJ qW bx;intro _ _;refine aM.intro (λi=>0<=i.1.1/\i.1.1<=l.length/\gG (l.drop i.1.1.toNat)=gG l) (λi=>l.length - i.1.1.toNat) ⟨by simp,by simp,by simp⟩ ?_;rintro ⟨⟨i,_⟩,_⟩ ⟨h0,h1,h2⟩;simp only at h0 h1 h2 ⊢;refine aq (λhc=>?_) (λhc=>?_)
 .have hc:i< l.length:=by simpa using hc
  rw [dc (e:=noTy) h0 hc] at h2;simp only [gG] at h2;generalize aB noTy l i=x at*;refine ⟨h0,hc,λ_ _=>?_⟩;refine aM.intro (λk=>0<=k.1.1/\k.1.1<=x.1.length/\ir (x.1.drop k.1.1.toNat)=ir x.1) (λk=>x.1.length - k.1.1.toNat) ⟨by simp,by simp,by simp⟩ ?_;rintro ⟨⟨k,_⟩,_⟩ ⟨k0,k1,k2⟩;simp only at k0 k1 k2 ⊢;refine aq (λhk=>?_) (λhk=>?_)
  .have hk:k< x.1.length:=by simpa using hk
   rw [dc (e:=Ty.str) k0 hk] at k2;simp only [ir] at k2;refine ⟨k0,hk,λ_ _=>aq (λhb=>?_) (λhb=>?_)⟩
   .rw [if_pos hb] at k2;rw [k2] at hb;rw [if_pos hb] at h2;rw [h2] at hb;have e:iC l=gG l:=if_pos hb;rw [e,hb,<-h2,<-k2] at h;exact h
   .rw [if_neg (by rw [hb];simp)] at k2;exact ⟨by unfold aD;omega,⟨by omega,by omega,k2⟩,by omega⟩
  .have hk:¬k< x.1.length:=by simpa using hk
   rw [dj hk] at k2;simp only [ir] at k2;rw [<-k2,if_neg (by simp)] at h2;exact ⟨by unfold aD;omega,⟨by omega,by omega,h2⟩,by omega⟩
 have hc:¬i< l.length:=by simpa using hc
 rw [dj hc] at h2;simp only [gG] at h2;have hN:gG l=0:=h2.symm;have e1:iC l=if oW l then 9 else if (lN l []).isNone then 6 else 0:=if_neg (by rw [hN];simp)
 rw [e1] at h;clear h0 h1 h2 hc;intro _;refine aM.intro (λi=>0<=i.1.1/\i.1.1<=l.length/\oW (l.drop i.1.1.toNat)=oW l) (λi=>l.length - i.1.1.toNat) ⟨by simp,by simp,by simp⟩ ?_;rintro ⟨⟨i,_⟩,_⟩ ⟨h0,h1,h2⟩;simp only at h0 h1 h2 ⊢;refine aq (λhc=>?_) (λhc=>?_)
 .have hc:i< l.length:=by simpa using hc
  rw [dc (e:=noTy) h0 hc] at h2;unfold oW at h2;rw [List.any_cons] at h2;refine ⟨h0,hc,λ_ _=>aq (λhb=>?_) (λhb=>?_)⟩
  .rw [hb,lQ] at h2;have hD:oW l=true:=h2.symm;rw [if_pos hD] at h;exact h
  .rw [hb,eZ] at h2;exact ⟨by unfold aD;omega,⟨by omega,by omega,h2⟩,by omega⟩
 have hc:¬i< l.length:=by simpa using hc
 rw [dj hc] at h2;have hD:oW l=false:=h2.symm;rw [if_neg (by rw [hD];decide)] at h;clear h0 h1 h2 hc;intro _;refine aM.intro (λi=>0<=i.1.1/\i.1.1<=l.length/\lN (l.drop i.1.1.toNat) i.2.1=lN l []/\(i.2.1.length:Int)<=i.1.1) (λi=>l.length - i.1.1.toNat) ⟨by simp,by simp,by simp,by simp⟩ ?_;rintro ⟨⟨i,_⟩,m,_⟩ ⟨h0,h1,h2,h3⟩;simp only at h0 h1 h2 h3 ⊢;refine aq (λhc=>?_) (λhc=>?_)
 .have hc:i< l.length:=by simpa using hc
  rw [dc (e:=noTy) h0 hc] at h2;have hx:aB noTy l i∈l:=Tu (e:=noTy) h0 hc;have hb:=Dd (ja hN _ hx) (by have:=A4 hD hx;omega);have hp:=SU (k:=.str) (l:=m) (x:=ql (aB noTy l i).1) (v:=aB noTy l i);generalize aB noTy l i=x at*;simp only [lN] at h2;refine ⟨h0,hc,λ_=>⟨hb,λ_ _=>aq (λh4=>?_) (λh4=>?_)⟩⟩
  .rw [if_pos h4] at h2;rw [<-h2] at h;exact h
  .rw [if_neg (by rw [h4];simp)] at h2;exact ⟨by omega,by unfold aD;omega,⟨by omega,by omega,h2,Int.le_trans (Int.ofNat_le.2 hp) (by omega)⟩,by omega⟩
 have hc:¬i< l.length:=by simpa using hc
 rw [dj hc] at h2;simp only [lN] at h2;have e2:fj l=m:=by unfold fj;rw [<-h2];rfl
 rw [<-h2,e2] at h;exact h
def kE (m:List (ByteArray×aZ)) (p:List ByteArray):Int:=((Kk.get .str m (ql p)).getD ([],0,0,(0,0,0,()),[],⟨#[]⟩,[],false,())).2.2.1
def Eo (m:List (ByteArray×aZ)) (l:List aZ):Bool:=l.any λx=>decide ((x.1.length:Int) - 1≥0)&& (kE m (x.1.take (x.1.length - 1)) !=1)
def dv (l:List aZ):Int:=if (l.length:Int)>1024 then 3 else if iC l !=0 then iC l else if kE (fj l) [] !=1 then 4 else if Eo (fj l) l then 5 else if l.any (λx=> !gr x) then 7 else iE l []
theorem qi {l:List aZ} (h:(iC l !=0)=false):gG l=0/\oW l=false/\(lN l []).isSome=true:=by
 have h:iC l=0:=by simpa using h
 unfold iC at h;split at h
 .rename_i h1;rw [h] at h1;simp at h1
 .rename_i h1;split at h
  .simp at h
  .rename_i h2;split at h
   .simp at h
   .rename_i h3;refine ⟨by simpa using h1,by simpa using h2,?_⟩;cases hm:lN l [] with
    | none=>rw [hm] at h3;simp at h3
    | some m=>rfl
def abd:Ct:=cD noTy λl=>c0 λQ=>Q (.int (dv l)) []
def ak9:=((((((((ab7.add EX).add EY).add Rl).add KF).add EW).add Re).add Rk).add XX).add Rm
abbrev vA (y0:List (noTy).den) (y1):=List.take (ax ((gR y0 y1) - 1)) (cn y0 y1).1
def Fy (l:(List (noTy).den)):dx:=λQ=>dG l (gE l (br (decide ((aA l)>(1024:Int))) (Q (.v (.c (.k (.int .i64 3)))) []) (br (iC l !=0) (aD .i64 (iC l)->br (iC l !=0) (Q (.v (.c (.k (.int .i64 (iC l))))) []) (bH<=ck/\(bH<= 
 eU->False))) (aD .i64 0->bH<=ck/\(bH<=eU->Ty.ok noTy (cA (Kk.get Kk.str (fj l) (LmN.ix [])) qW)->br ((cA (Kk.get Kk.str (fj l) (LmN.ix [])) qW).2.2.1 !=1) (Q (.v (.c (.k (.int .i64 
 4)))) []) (gE l (aM (λi ag=>br (eH i.1.1 l) (dz i.1.1 l (rJ l i.1.1 (aD .i64 ((gR l i.1.1) - 1)/\br (decide ((gR l i.1.1) - 1≥ah)) (ah<=(gR l i.1.1) - 1/\(gR l i.1.1) - 1<=(gR l i.1.1)/\ 
 ByteArray.size (LmN.ix (vA l i.1.1))<=140737488355328/\(ByteArray.size (LmN.ix (vA l i.1.1))<=9223372036854775807->Ty.ok noTy (cA (Kk.get Kk.str (fj l) (LmN.ix (vA l i.1.1))) qW)->br ((cA 
 (Kk.get Kk.str (fj l) (LmN.ix (vA l i.1.1))) qW).2.2.1 !=1) (Q (.v (.c (.k (.int .i64 5)))) []) (dP i.1.1 ag))) (dP i.1.1 ag)))) (br (!List.any l λx=> !gr x) (aD .i64 (iE l [])->Q (.v (.c (.k (.int .i64 
 (iE l []))))) []) (Q (.v (.c (.k (.int .i64 7)))) []))) dE)))))))
theorem X0:cu 67 abd:=eQ<| jm λl=>gM λQ h=>by
 refine Wp.dC ak9 cC ⟨[(10,⟨[(28,.int .i64)],[]⟩)],[]⟩ Tryz.f67 (Fy l) ?_;unfold Fy gE eH dE vA dz rJ cn dG eU gR ck dP ah aA aJ qW bH;intro _ _;unfold dv at h;refine aq (λhc=>?_) (λhc=>?_);rw [if_pos (by simpa using hc)] at h;exact h;rw [if_neg (by simpa using hc)] at h;refine aq (λhc=>?_) (λhc=>?_)
 .rw [if_pos hc] at h;intro _;rw [hc];exact h
 rw [if_neg (by rw [hc];simp)] at h;obtain ⟨hN,hD,_⟩:=qi hc;intro _;refine ⟨by decide,λ_ _=>aq (λhc=>?_) (λhc=>?_)⟩;rw [if_pos (show (kE (fj l) [] !=1)=true from hc)] at h;exact h;rw [if_neg (by show ¬(kE (fj l) [] !=1)=true;rw [show (kE (fj l) [] !=1)=false from hc];simp)] at h;intro _;refine aM.intro (λi=>0<=i.1.1/\i.1.1<=l.length/\Eo (fj l) (l.drop i.1.1.toNat)=Eo (fj l) l) (λi=>l.length - i.1.1.toNat) ⟨by simp,by simp,by simp⟩ ?_;rintro ⟨⟨i,_⟩,_⟩ ⟨h0,h1,h2⟩;simp only at h0 h1 h2 ⊢;refine aq (λhc=>?_) (λhc=>?_)
 .have hc:i< l.length:=by simpa using hc
  rw [dc (e:=noTy) h0 hc] at h2;have hx:aB noTy l i∈l:=Tu (e:=noTy) h0 hc;have hv:=ja hN _ hx;have hl:=A4 hD hx;generalize aB noTy l i=x at*;have h2:((decide ((x.1.length:Int) - 1≥0)&& (kE (fj l) (x.1.take (x.1.length - 1)) !=1))|| Eo (fj l) (l.drop (i+1).toNat))=Eo (fj l) l:=h2;refine ⟨h0,hc,λ_ _=>⟨by unfold aD;omega,aq (λhb=>?_) (λhb=>?_)⟩⟩
  .rw [hb,j5] at h2;have hb:(x.1.length:Int) - 1≥0:=by simpa using hb
   have e1:cd (some ((x.1.length:Int) - 1)) (x.1.length:Int)=(x.1.length:Int) - 1:=rfl;have e2:cd none 0=0:=rfl;refine ⟨by omega,by omega,?_⟩;rw [show ((x.1.length:Int) - 1).toNat=x.1.length - 1 by omega];refine ⟨Dd (λs hs=>hv s (List.take_subset _ _ hs)) (by rw [aH];omega),λ_ _=>aq (λhd=>?_) (λhd=>?_)⟩
   .rw [show (kE (fj l) (x.1.take (x.1.length - 1)) !=1)=true from hd,lQ] at h2;rw [<-h2,if_pos rfl] at h;exact h
   .rw [show (kE (fj l) (x.1.take (x.1.length - 1)) !=1)=false from hd,eZ] at h2;exact ⟨by unfold aD;omega,⟨by omega,by omega,h2⟩,by omega⟩
  .rw [hb,fg,eZ] at h2;exact ⟨by unfold aD;omega,⟨by omega,by omega,h2⟩,by omega⟩
 have hc:¬i< l.length:=by simpa using hc
 rw [dj hc] at h2;rw [<-h2,if_neg (by simp [Eo])] at h;refine aq (λhb=>λ_=>?_) (λhb=>?_)
 .have hb:(l.any λx=> !gr x)=false:=by simpa only [dr] using hb
  rw [if_neg (by rw [hb];simp)] at h;exact h
 .have hb:(l.any λx=> !gr x)=true:=by simpa only [Bool.not_eq_false'] using hb
  rw [if_pos hb] at h;exact h
def akL:Ct:=cS λs=>c0 λQ=>Q (.bool (vF s 0)) []
def RZ (s:ByteArray):dx:=λQ=>iR s (aM (λi ag=>br (decide (i.1.1< (gY s))) (0<=i.1.1/\i.1.1< (gY s)/\br ((↑(cK (jj s i.1.1)):Int)==0) (Q nF []) (dP i.1.1 ag)) (bc Q)) dE)
theorem aiF:cu 113 akL:=eQ<| ZA λs=>gM λQ h=>by
 refine Wp.dC gJ cC ⟨[(3,⟨[(3,.int .i64)],[]⟩)],[]⟩ Tryz.f113 (RZ s) ?_;unfold RZ dE iR bc gY dP iX nF ah;intro hs;refine aM.intro (λi=>0<=i.1.1/\i.1.1<=s.size/\vF s i.1.1.toNat=vF s 0) (λi=>s.size - i.1.1.toNat) ⟨by simp,by simp,rfl⟩ ?_;rintro ⟨⟨i,_⟩,_⟩ ⟨h0,h1,h2⟩;simp only at h0 h1 h2 ⊢;refine aq (λhc=>?_) (λhc=>?_)
 .have hc:i< s.size:=by simpa using hc
  have vM:=VP h0 hc;refine ⟨h0,hc,aq (λhb=>?_) (λhb=>?_)⟩
  .rw [hb,lQ] at vM;rw [<-h2,vM] at h;exact h
  .rw [hb,eZ] at vM;refine ⟨by unfold aD;omega,⟨by omega,by omega,by rw [<-vM,h2]⟩,by omega⟩
 .have hc:¬i< s.size:=by simpa using hc
  rw [<-h2,ZF hc h0] at h;exact h
def QT:Ct:=cD cZ λl=>c0 λQ=>Q (.bool (dF l)) []
def ab2:=gJ.add aiF
def zO (l:(List (cZ).den)):dx:=λQ=>kz l (aM (λi ag=>kz l (br (decide (i.1.1< (aA l))) (0<=i.1.1/\i.1.1< (aA l)/\(Ty.ok cZ (dd l i.1.1)->br (decide ((↑(sH l i.1.1):Int)< aV)) (bc Q) (br (decide ((↑(sH l i.1.1):Int) 
 >(40:Int))) (bc Q) (br (vF (dd l i.1.1).1 bx) (bc Q) (List.length (dd l i.1.1).2.1<=9223372036854775807->br (decide ((↑(List.length (dd l i.1.1).2.1):Int)>(200:Int))) (bc Q) (br (decide (i.1.1>0)) (aD 
 .i64 (i.1.1 - 1)/\0<=i.1.1 - 1/\i.1.1 - 1< (aA l)/\(Ty.ok cZ (aB cZ l (i.1.1 - 1))->br (!rG (aB cZ l (i.1.1 - 1)).1 (dd l i.1.1).1) (bc Q) (dP i.1.1 ag))) (dP i.1.1 ag))))))) (yz l Q))) dE)
theorem OY:cu 114 QT:=eQ<| jm λl=>gM λQ h=>by
 refine Wp.dC ab2 cC ⟨[(3,⟨[(3,.int .i64)],[]⟩)],[]⟩ Tryz.f114 (zO l) ?_;unfold zO sH kz yz dd dE bc dP iX ah aV iJ aA aJ bx;intro hl0;refine aM.intro (λi=>0<=i.1.1/\i.1.1<=l.length/\fH l ⟨#[]⟩=fH (l.drop i.1.1.toNat) (tb l i.1.1)) (λi=>l.length - i.1.1.toNat) ⟨by simp,by simp,by simp [tb]⟩ ?_;rintro ⟨⟨i,_⟩,_⟩ ⟨h0,h1,h2⟩;simp only at h0 h1 h2 ⊢;intro _;refine aq (λhc=>?_) (λhc=>?_)
 .have hc:i< l.length:=by simpa using hc
  refine ⟨h0,hc,λ_=>?_⟩;rw [dc (e:=cZ) h0 hc] at h2;have bad:vX (aB cZ l i) (tb l i)=true->Q (.bool false) []:=λhb=>by
   simp only [fH,hb,if_true] at h2;unfold dF at h;rw [h2,fg] at h;exact h
  have good:vX (aB cZ l i) (tb l i)=false->aD .i64 (i+1)/\(0<=i+1/\i+1<=l.length/\fH l ⟨#[]⟩=fH (l.drop (i+1).toNat) (tb l (i+1)))/\l.length - (i+1).toNat< l.length - i.toNat:=λhb=>by
   simp only [fH,hb,dS,if_false] at h2;have hp:tb l (i+1)=(aB cZ l i).1:=by
    unfold tb;rw [if_pos (by omega),show i+1 - 1=i by omega];rfl
   rw [hp];exact ⟨by unfold aD;omega,⟨by omega,by omega,h2⟩,by omega⟩
  rw [abH] at bad good;refine aq (λh3=>bad (by rw [h3];rfl)) (λh3=>aq (λh4=>bad (by rw [h4];simp)) (λh4=>aq (λh5=>bad (by rw [h5];simp)) (λh5=>λ_=>aq (λh6=>bad (by rw [h6];simp)) (λh6=>?_))));refine aq (λh7=>?_) (λh7=>?_)
  .have h7:i>0:=by simpa using h7
   have hp:tb l i=(aB cZ l (i - 1)).1:=by
    unfold tb;rw [if_pos h7];rfl
   refine ⟨by unfold aD;omega,by omega,by omega,λ_=>?_⟩;rw [hp] at bad good;exact aq (λh8=>bad (by rw [h8];simp)) (λh8=>good (by rw [h3,h4,h5,h6,h8];rfl))
  .have hp:tb l i=⟨#[]⟩:=by
    unfold tb;rw [if_neg (by simpa using h7)]
   have h9:rG ⟨#[]⟩ (aB cZ l i).1=true:=ajz (by
    have:¬((aB cZ l i).1.size:Int)< 1:=by simpa using h3
    omega)
   exact good (by rw [h3,h4,h5,h6,hp,h9];rfl)
 .have hc:¬i< l.length:=by simpa using hc
  rw [dj hc] at h2;intro _;unfold dF at h;rw [h2] at h;exact h
def af1:Ct:=cN noTy λx=>c0 λQ=>Q (.bool (gr x)) []
def ab1:=ab2.add OY
abbrev Zh (y0:Int) (y1) (y2:SV->List HO->Prop) (y3):=br (y0 !=3) (br (!kT y1 (ByteArray.mk #[])) (y2 iX []) (br (y0==3) (br (kT y1 (ByteArray.mk #[])) (y2 iX []) (br (decide ((gY y1)>(200:Int))) (y2 iX []) (br (vF y1 bx) (y2 iX []) (y2 (.v (.c (.k (.bool (dF y3))))) [])))) (y2 (.v (.c (.k (.bool (dF y3))))) []))) (br (y0==3) (br (kT y1 (ByteArray.mk #[])) (y2 iX []) (br (decide ((gY y1)>(200:Int))) (y2 iX []) (br (vF y1 bx) (y2 iX []) (y2 (.v (.c (.k (.bool (dF y3))))) [])))) (y2 (.v (.c (.k (.bool (dF y3))))) []))
def Lu:((noTy).den)->dx:=
 λx Q=>fC x.1 (cz x.2.1 x.2.2.1 x.2.2.2.1.1 (cg x.2.2.2.1.2.1 x.2.2.2.1.2.2.1 (aJ (bw x.2.2.2.2.1)->du x.2.2.2.2.2.1 (aJ (bw x.2.2.2.2.2.2.1)->br (decide (x.2.2.1< 1)) (bc Q) (br (decide (x.2.2.1>3)) 
 (bc Q) (br x.2.2.2.2.2.2.2.1 (bc Q) (br (cV x.2.2.2.1.1) (bc Q) (br (decide (x.2.2.2.1.1>511)) (bc Q) (br (cV x.2.2.2.1.2.1) (bc Q) (br (decide (x.2.2.2.1.2.1>65535)) (bc Q) (br (cV x.2.2.2.1.2.2.1) (bc 
 Q) (br (decide (x.2.2.2.1.2.2.1>65535)) (bc Q) (br (x.2.2.1 !=2) (aJ (bw x.2.2.2.2.1)->br (decide ((aS x.2.2.2.2.1)>ah)) (bc Q) (aJ (bw x.2.2.2.2.1)->br (decide ((aS x.2.2.2.2.1)>(4096:Int))) (bc Q) 
 (Zh x.2.2.1 x.2.2.2.2.2.1 Q x.2.2.2.2.2.2.1))) (aJ (bw x.2.2.2.2.1)->br (decide ((aS x.2.2.2.2.1)>(4096:Int))) (bc Q) (Zh x.2.2.1 x.2.2.2.2.2.1 Q x.2.2.2.2.2.2.1)))))))))))))))
theorem Rj:cu 65 af1:=eQ<| PT λx=>gM λQ h=>by
 refine Wp.dC ab1 cC ⟨[],[]⟩ Tryz.f65 (Lu x) ?_;unfold Lu du cg cV bc Zh gY fC bw cz iX ah aS aJ bx;intro _ _ _ _ _ _ _ _ _
 repeat' (first| refine aq (λ_=>?_) (λ_=>?_)| intro _)
 all_goals refine Eq.mp (congrArg (λz=>Q (SV.bool z) []) ?_) h
 all_goals rw [<-VG]
 all_goals unfold Pp
 all_goals clear h
 all_goals simp only [*,lQ,Bool.or_true,Bool.or_false,Bool.and_true,j5,Bool.and_false,fg,if_true,if_false,dS]
 all_goals (exfalso;simp_all;done)
def WK:Ct:=cS λs=>c0 λQ=>Q (.int (dh s)) []
def ab0:=ab1.add Rj
def Bz (s:ByteArray):dx:=λQ=>iR s (br (decide ((gY s)>(255:Int))) (Q (.v (.c (.k (.int .i64 23)))) []) (aM (λi ag=>br (decide (i.1.1< (gY s))) (0<=i.1.1/\i.1.1< (gY s)/\br ((↑(cK (jj s i.1.1)):Int)==0) (nr 
 Q) (0<=i.1.1/\i.1.1< (gY s)/\br ((↑(cK (jj s i.1.1)):Int)==47) (nr Q) (dP i.1.1 ag))) (br (qI s) (nr Q) (br (kT s (ByteArray.mk #[(46:UInt8)])) (nr Q) (br (kT s (ByteArray.mk #[(46:UInt8), 
 (46:UInt8)])) (nr Q) (iQ Q))))) dE))
theorem UX:cu 152 WK:=eQ<| ZA λs=>gM λQ h=>by
 refine Wp.dC ab0 cC ⟨[(5,⟨[(3,.int .i64)],[]⟩)],[]⟩ Tryz.f152 (Bz s) ?_;unfold Bz qI iQ dE iR nr gY dP aR ah;intro hs;unfold dh at h;refine aq (λh1=>?_) (λh1=>?_);rw [if_pos (by simpa using h1)] at h;exact h
 .rw [if_neg (by simpa using h1)] at h;refine aM.intro (λi=>0<=i.1.1/\i.1.1<=s.size/\kq s i.1.1.toNat=kq s 0) (λi=>s.size - i.1.1.toNat) ⟨by simp,by simp,rfl⟩ ?_;rintro ⟨⟨i,_⟩,_⟩ ⟨h0,h2,h3⟩;simp only at h0 h2 h3 ⊢;refine aq (λhc=>?_) (λhc=>?_)
  .have hc:i< s.size:=by simpa using hc
   have vM:=Mf h0 hc;refine ⟨h0,hc,aq (λhb=>?_) (λhb=>⟨h0,hc,aq (λhd=>?_) (λhd=>?_)⟩)⟩
   .rw [hb,lQ] at vM;rw [<-h3,vM] at h;exact h
   .rw [hb,hd] at vM;rw [<-h3,vM] at h;exact h
   .rw [hb,hd,eZ,eZ] at vM;exact ⟨by unfold aD;omega,⟨by omega,by omega,by rw [<-vM,h3]⟩,by omega⟩
  .have hc:¬i< s.size:=by simpa using hc
   rw [<-h3,Pa hc h0,eZ] at h;unfold TM at h;refine aq (λh5=>?_) (λh5=>aq (λh6=>?_) (λh6=>aq (λh7=>?_) (λh7=>?_)));rw [h5] at h;exact h;rw [h5,h6] at h;exact h;rw [h5,h6,h7] at h;exact h;rw [h5,h6,h7] at h;exact h
def aa8:Ct:=cD .str λa=>cD .str λb=>c0 λQ=>Q (.bool (fZ a b)) []
def abZ:=ab0.add UX
abbrev IX (y0) (y1:List (Ty.str).den) (y2:List (Ty.str).den) (y3:SV->List HO->Prop) (y4):=0<=y0/\y0< (aA y1)/\(Ty.ok Ty.str (aB Ty.str y1 y0)->0<=y0/\y0< (aA y2)/\(Ty.ok Ty.str (aB Ty.str y2 y0)->br (!kT (aB Ty.str y1 y0) (aB Ty.str y2 y0)) (bc y3) (dP y0 y4)))
abbrev nq (y0:List (Ty.str).den) (y1:List (Ty.str).den) (R:Prop):=List.length y0<=9223372036854775807->aJ (List.length y1)->R
abbrev oE (y0:List (Ty.str).den) (y1:List (Ty.str).den) (R:Prop):=aJ (List.length y0)->aJ (List.length y1)->R
def Fp (a b:(List (Ty.str).den)):dx:=λQ=>nq a b (oE a b (br ((aA a) !=(aA b)) (bc Q) (aM (λi ag=>mM a (br (decide (i.1.1< (aA a))) (IX i.1.1 a b Q ag) (Q nF []))) dE)))
theorem KB:cu 28 aa8:=eQ<| jm λa=>jm λb=>gM λQ h=>by
 refine Wp.dC abZ cC ⟨[(5,⟨[(5,.int .i64)],[]⟩)],[]⟩ Tryz.f28 (Fp a b) ?_;unfold Fp mM oE dE nq IX bc dP iX nF ah aA aJ;intro _ _ _ _;refine aq (λh1=>?_) (λh1=>?_)
 .rw [xZ (by intro e;rw [e] at h1;simp at h1)] at h;exact h
 .have hl:a.length=b.length:=by
   have:((a.length:Int)=b.length):=by simpa using h1
   omega
  refine aM.intro (λi=>0<=i.1.1/\i.1.1<=a.length/\fZ (a.drop i.1.1.toNat) (b.drop i.1.1.toNat)=fZ a b) (λi=>a.length - i.1.1.toNat) ⟨by simp,by simp,by simp⟩ ?_;rintro ⟨⟨i,_⟩,_⟩ ⟨h0,h2,h3⟩;simp only at h0 h2 h3 ⊢;intro _;refine aq (λhc=>?_) (λhc=>?_)
  .have hc:i< a.length:=by simpa using hc
   have zc:i< b.length:=by omega
   rw [dc (e:=.str) h0 hc,dc (e:=.str) h0 zc] at h3;simp only [fZ] at h3;refine ⟨h0,hc,λ_=>⟨h0,zc,λ_=>aq (λh4=>?_) (λh4=>?_)⟩⟩
   .have h4:kT (aB .str a i) (aB .str b i)=false:=by simpa using h4
    rw [h4,fg] at h3;rw [<-h3] at h;exact h
   .have h4:kT (aB .str a i) (aB .str b i)=true:=by simpa using h4
    rw [h4,j5] at h3;exact ⟨by unfold aD;omega,⟨by omega,by omega,h3⟩,by omega⟩
  .have hc:¬i< a.length:=by simpa using hc
   rw [dj hc,dj (by omega)] at h3;simp only [fZ] at h3;rw [<-h3] at h;exact h
def af3:Ct:=cD noTy λl=>cD .str λa=>c0 λQ=>Q (.int (kj (kG a) l 0)) []
def abY:=abZ.add KB
def Lx (l:(List (noTy).den)) (a:(List (Ty.str).den)):dx:=λQ=>dG l (aJ (List.length a)->aM (λi ag=>dG l (br (eH i.1.1 l) (dz i.1.1 l (dY l i.1.1 (br (fZ (cn l i.1.1).1 a) (Q (gF i.1.1) []) (dP i.1.1 ag)))) (oF Q))) dE)
theorem ad1:cu 40 af3:=eQ<| jm λl=>jm λa=>gM λQ h=>by
 refine Wp.dC abY cC ⟨[(3,⟨[(5,.int .i64)],[]⟩)],[]⟩ Tryz.f40 (Lx l a) ?_;unfold Lx dY gF oF eH dE dz cn dG dP aC ah aA aJ;intro hl _;refine aM.intro (λi=>0<=i.1.1/\i.1.1<=l.length/\kj (kG a) (l.drop i.1.1.toNat) i.1.1=kj (kG a) l 0) (λi=>l.length - i.1.1.toNat) ⟨by simp,by simp,by simp⟩ ?_;rintro ⟨⟨i,_⟩,_⟩ ⟨h0,h1,h2⟩;simp only at h0 h1 h2 ⊢;intro _;refine aq (λhc=>?_) (λhc=>?_)
 .have hc:i< l.length:=by simpa using hc
  rw [dc (e:=noTy) h0 hc] at h2;refine ⟨h0,hc,λ_=>aq (λh3=>?_) (λh3=>?_)⟩
  .have h3:kG a (aB noTy l i)=true:=h3;simp only [kj,h3,if_true] at h2;rw [h2];exact h
  .have h3:kG a (aB noTy l i)=false:=h3;simp only [kj,h3,dS,if_false] at h2;exact ⟨by unfold aD;omega,⟨by omega,by omega,h2⟩,by omega⟩
 .have hc:¬i< l.length:=by simpa using hc
  rw [dj hc] at h2;simp only [kj] at h2;rw [h2];exact h
def abb:Ct:=cD noTy λl=>cD .str λa=>c0 λQ=>Q (.bool (lz l a)) []
def abX:=abY.add ad1
def Ft (l:(List (noTy).den)) (a:(List (Ty.str).den)):dx:=λQ=>dG l (aJ (List.length a)->aD .i64 (kj (kG a) l ah)->br (decide (kj (kG a) l ah≥ah)) (0<=kj (kG a) l ah/\kj (kG a) l ah< (aA l)/\(Ty.ok noTy (aB noTy l (kj (kG a) l ah))->Q 
 (.v (.c (.k (.bool ((aB noTy l (kj (kG a) l ah)).2.2.1==1))))) [])) (bc Q))
theorem XY:cu 112 abb:=eQ<| jm λl=>jm λa=>gM λQ h=>by
 refine Wp.dC abX cC ⟨[],[]⟩ Tryz.f112 (Ft l a) ?_;unfold Ft bc dG iX ah aA aJ;intro _ _ _;unfold lz at h;rcases GR (p:=kG a) (l:=l) (k:=0) with ⟨h1,h2⟩| ⟨j,h1,h2,h3⟩
 .rw [h1];rw [h2] at h;exact aq (λhc=>by simp at hc) (λ_=>h)
 .rw [h1];rw [h3,ao h2] at h;refine aq (λhc=>⟨by omega,by omega,λ_=>?_⟩) (λhc=>by simp at hc);have e:aB noTy l (0+(j:Int))=l[j]:=by
   unfold aB;rw [ep,show (0+(j:Int)).toNat=j by omega,ao h2];rfl
  rw [e];exact h
def WS:Ct:=cN noTy λx=>cN noTy λy=>c0 λQ=>Q (.bool (iH x y)) []
def abW:=abX.add XY
def BG:((noTy).den)->((noTy).den)->dx:=
 λx y Q=>fC x.1 (cz x.2.1 x.2.2.1 x.2.2.2.1.1 (cg x.2.2.2.1.2.1 x.2.2.2.1.2.2.1 (aJ (bw x.2.2.2.2.1)->du x.2.2.2.2.2.1 (aJ (bw x.2.2.2.2.2.2.1)->aJ (bw y.1)->cz y.2.1 y.2.2.1 y.2.2.2.1.1 (cg 
 y.2.2.2.1.2.1 y.2.2.2.1.2.2.1 (aJ (bw y.2.2.2.2.1)->du y.2.2.2.2.2.1 (aJ (bw y.2.2.2.2.2.2.1)->br (x.2.2.1 !=y.2.2.1) (bc Q) (br (!(x.2.2.2.1.1==y.2.2.2.1.1&& (x.2.2.2.1.2.1==y.2.2.2.1.2.1&& (x.2.2.2.1.2.2.1== 
 y.2.2.2.1.2.2.1&& true)))) (bc Q) (br (!kT (gu x.2.2.2.2.1) (gu y.2.2.2.2.1)) (bc Q) (br (!kT x.2.2.2.2.2.1 y.2.2.2.2.2.1) (bc Q) (br (!x.2.2.2.2.2.2.2.1==y.2.2.2.2.2.2.2.1) (bc Q) (aJ (bw x.2.2.2.2.2.2.1)->aJ 
 (bw y.2.2.2.2.2.2.1)->br ((aS x.2.2.2.2.2.2.1) !=(aS y.2.2.2.2.2.2.1)) (bc Q) (aM (λi ag=>fC x.2.2.2.2.2.2.1 (br (decide (i.1.1< (aS x.2.2.2.2.2.2.1))) (0<=i.1.1/\i.1.1< (aS x.2.2.2.2.2.2.1)/\(Ty.ok cZ 
 (dd x.2.2.2.2.2.2.1 i.1.1)->0<=i.1.1/\i.1.1< (aS y.2.2.2.2.2.2.1)/\(Ty.ok cZ (dd y.2.2.2.2.2.2.1 i.1.1)->br (!kT (dd x.2.2.2.2.2.2.1 i.1.1).1 (dd y.2.2.2.2.2.2.1 i.1.1).1) (bc Q) (0<=i.1.1/\i.1.1< (aS 
 x.2.2.2.2.2.2.1)/\(Ty.ok cZ (dd x.2.2.2.2.2.2.1 i.1.1)->0<=i.1.1/\i.1.1< (aS y.2.2.2.2.2.2.1)/\(Ty.ok cZ (dd y.2.2.2.2.2.2.1 i.1.1)->br (!kT (gu (dd x.2.2.2.2.2.2.1 i.1.1).2.1) (gu (dd y.2.2.2.2.2.2.1 
 i.1.1).2.1)) (bc Q) (dP i.1.1 ag))))))) (Q nF []))) dE)))))))))))))
theorem xN:cu 44 WS:=eQ<| PT λx=>PT λy=>gM λQ h=>by
 refine Wp.dC abW cC ⟨[(5,⟨[(5,.int .i64)],[]⟩)],[]⟩ Tryz.f44 (BG x y) ?_;unfold BG dd dE du cg bc fC bw dP cz iX nF ah aS aJ;intro _ _ _ _ _ _ _ _ _ _ _ _ _ _ _ _ _ _;refine aq (λh1=>?_) (λh1=>aq (λh2=>?_) (λh2=>aq (λh3=>?_) (λh3=>aq (λh4=>?_) (λh4=>aq (λh5=>?_) (λh5=>?_)))))
 iterate 5
  .refine Eq.mp (congrArg (λz=>Q (SV.bool z) []) ?_) h;clear h;unfold iH JK;simp only [bne,dr,Bool.not_eq_false'] at*;simp only [*,j5,fg,Bool.and_false]
 have hk:iH x y=fG x.2.2.2.2.2.2.1 y.2.2.2.2.2.2.1:=by
  clear h;unfold iH JK;simp only [bne,Bool.not_eq_false'] at*;simp only [*,j5]
 rw [hk] at h;clear h1 h2 h3 h4 h5 hk;generalize x.2.2.2.2.2.2.1=a at*;generalize y.2.2.2.2.2.2.1=b at*;intro _ _;refine aq (λh1=>?_) (λh1=>?_)
 .rw [tB (by intro e;rw [e] at h1;simp at h1)] at h;exact h
 have hl:a.length=b.length:=by
  have:(a.length:Int)=(b.length:Int):=by simpa only [bne_eq_false_iff_eq] using h1
  omega
 refine aM.intro (λi=>0<=i.1.1/\i.1.1<=a.length/\fG (a.drop i.1.1.toNat) (b.drop i.1.1.toNat)=fG a b) (λi=>a.length - i.1.1.toNat) ⟨by simp,by simp,by simp⟩ ?_;rintro ⟨⟨i,_⟩,_⟩ ⟨h0,h2,h3⟩;simp only at h0 h2 h3 ⊢;intro _;refine aq (λhc=>?_) (λhc=>?_)
 .have hc:i< a.length:=by simpa using hc
  have zc:i< b.length:=by omega
  rw [dc (e:=cZ) h0 hc,dc (e:=cZ) h0 zc] at h3;simp only [fG,pO,JK] at h3;refine ⟨h0,hc,λ_=>⟨h0,zc,λ_=>aq (λh4=>?_) (λh4=>⟨h0,hc,λ_=>⟨h0,zc,λ_=>aq (λh5=>?_) (λh5=>?_)⟩⟩)⟩⟩
  .simp only [dr] at h4;rw [h4,fg,fg] at h3;rw [<-h3] at h;exact h
  .simp only [dr,Bool.not_eq_false'] at h4 h5;rw [h4,h5,j5,fg] at h3;rw [<-h3] at h;exact h
  .simp only [Bool.not_eq_false'] at h4 h5;rw [h4,h5,j5,j5] at h3;exact ⟨by unfold aD;omega,⟨by omega,by omega,h3⟩,by omega⟩
 .have hc:¬i< a.length:=by simpa using hc
  rw [dj hc,dj (by omega)] at h3;simp only [fG] at h3;rw [<-h3] at h;exact h
def WM:Ct:=cD noTy λl=>c0 λQ=>Q (.int (oJ l)) []
def abV:=abW.add xN
def BB (l:(List (noTy).den)):dx:=λQ=>dG l (aM (λi ag=>dG l (br (eH i.1.1 l) (aM (λbE ag_1=>dz i.1.1 l (rJ l i.1.1 (br (decide (bE.1.1< (gR l i.1.1))) (dz i.1.1 l (dY l i.1.1 (0<=bE.1.1/\bE.1.1< (gR l i.1.1)/\ 
 (Ty.ok Ty.str (pH l i.1.1 bE.1.1)->aD .i64 (dh (pH l i.1.1 bE.1.1))->br (dh (pH l i.1.1 bE.1.1) !=0) (Q (.v (.c (.k (.int .i64 (dh (pH l i.1.1 bE.1.1)))))) []) (dP bE.1.1 ag_1))))) (dP i.1.1 ag)))) 
 dE) (aM (λi ag=>dG l (br (eH i.1.1 l) (dz i.1.1 l (rJ l i.1.1 (br (decide ((gR l i.1.1)>IZ)) (Q (.v (.c (.k (.int .i64 9)))) []) (dP i.1.1 ag)))) (aM (λi ag=>dG l (br (eH i.1.1 l) (dz 
 i.1.1 l (dY l i.1.1 (aD .i64 (kj (kG (cn l i.1.1).1) l ah)->br (decide (kj (kG (cn l i.1.1).1) l 0< i.1.1)) (Q (.v (.c (.k (.int .i64 6)))) []) (dP i.1.1 ag)))) (iQ Q))) dE))) dE))) dE)
theorem UZ:cu 111 WM:=eQ<| jm λl=>gM λQ h=>by
 refine Wp.dC abV cC ⟨[(3,⟨[(3,.int .i64)],[]⟩),(6,⟨[(4,.int .i64)],[]⟩),(12,⟨[(6,.int .i64)],[]⟩),(17,⟨[(7,.int .i64)],[]⟩)],[]⟩ Tryz.f111 (BB l) ?_;unfold BB dY pH iQ eH dE dz rJ cn dG gR dP aR ah IZ aA;intro _;refine aM.intro (λi=>0<=i.1.1/\i.1.1<=l.length/\gG (l.drop i.1.1.toNat)=gG l) (λi=>l.length - i.1.1.toNat) ⟨by simp,by simp,by simp⟩ ?_;rintro ⟨⟨i,_⟩,_⟩ ⟨h0,h1,h2⟩;simp only at h0 h1 h2 ⊢;intro _;refine aq (λhc=>?_) (λhc=>?_)
 .have hc:i< l.length:=by simpa using hc
  rw [dc (e:=noTy) h0 hc] at h2;simp only [gG] at h2;generalize aB noTy l i=x at*;refine aM.intro (λk=>0<=k.1.1/\k.1.1<=x.1.length/\ir (x.1.drop k.1.1.toNat)=ir x.1) (λk=>x.1.length - k.1.1.toNat) ⟨by simp,by simp,by simp⟩ ?_;rintro ⟨⟨k,_⟩,_⟩ ⟨k0,k1,k2⟩;simp only at k0 k1 k2 ⊢;refine ⟨h0,hc,λ_ _=>aq (λhk=>?_) (λhk=>?_)⟩
  .have hk:k< x.1.length:=by simpa using hk
   rw [dc (e:=Ty.str) k0 hk] at k2;simp only [ir] at k2;refine ⟨h0,hc,λ_=>⟨k0,hk,λ_ _=>aq (λhb=>?_) (λhb=>?_)⟩⟩
   .rw [if_pos hb] at k2;rw [k2] at hb;rw [if_pos hb] at h2;rw [h2] at hb;unfold oJ at h;rw [if_pos hb,<-h2,<-k2] at h;exact h
   .rw [if_neg (by rw [hb];simp)] at k2;exact ⟨by unfold aD;omega,⟨by omega,by omega,k2⟩,by omega⟩
  .have hk:¬k< x.1.length:=by simpa using hk
   rw [dj hk] at k2;simp only [ir] at k2;rw [<-k2,if_neg (by simp)] at h2;exact ⟨by unfold aD;omega,⟨by omega,by omega,h2⟩,by omega⟩
 .have hc:¬i< l.length:=by simpa using hc
  rw [dj hc] at h2;simp only [gG] at h2;unfold oJ at h;rw [<-h2,if_neg (by simp)] at h;clear h0 h1 h2 hc;refine aM.intro (λi=>0<=i.1.1/\i.1.1<=l.length/\oW (l.drop i.1.1.toNat)=oW l) (λi=>l.length - i.1.1.toNat) ⟨by simp,by simp,by simp⟩ ?_;rintro ⟨⟨i,_⟩,_⟩ ⟨h0,h1,h2⟩;simp only at h0 h1 h2 ⊢;intro _;refine aq (λhc=>?_) (λhc=>?_)
  .have hc:i< l.length:=by simpa using hc
   rw [dc (e:=noTy) h0 hc] at h2;unfold oW at h2;rw [List.any_cons] at h2;refine ⟨h0,hc,λ_ _=>aq (λhb=>?_) (λhb=>?_)⟩
   .rw [hb,lQ] at h2;unfold oW at h;rw [<-h2,if_pos rfl] at h;exact h
   .rw [hb,eZ] at h2;exact ⟨by unfold aD;omega,⟨by omega,by omega,h2⟩,by omega⟩
  .have hc:¬i< l.length:=by simpa using hc
   rw [dj hc] at h2;rw [<-h2,if_neg (by decide)] at h;clear h0 h1 h2 hc;refine aM.intro (λi=>0<=i.1.1/\i.1.1<=l.length/\ko l (l.drop i.1.1.toNat) i.1.1=ko l l 0) (λi=>l.length - i.1.1.toNat) ⟨by simp,by simp,by simp⟩ ?_;rintro ⟨⟨i,_⟩,_⟩ ⟨h0,h1,h2⟩;simp only at h0 h1 h2 ⊢;intro _;refine aq (λhc=>?_) (λhc=>?_)
   .have hc:i< l.length:=by simpa using hc
    rw [dc (e:=noTy) h0 hc] at h2;simp only [ko] at h2;refine ⟨h0,hc,λ_ _=>aq (λhb=>?_) (λhb=>?_)⟩
    .rw [hb,lQ] at h2;rw [<-h2,if_pos rfl] at h;exact h
    .rw [hb,eZ] at h2;exact ⟨by unfold aD;omega,⟨by omega,by omega,h2⟩,by omega⟩
   .have hc:¬i< l.length:=by simpa using hc
    rw [dj hc] at h2;simp only [ko] at h2;rw [<-h2,if_neg (by decide)] at h;exact h
def upB (l:List aZ):Bool:=l.any λx=>decide ((x.1.length:Int)>0)&& !lz l (x.1.take (x.1.length - 1))
def mj (l:List aZ):Int:=if (l.length:Int)>1024 then 3 else if oJ l !=0 then oJ l else if !lz l [] then 4 else if upB l then 5 else 0
theorem YJ {l r:List aZ} {x:aZ}:((x::r).any λx=>decide ((x.1.length:Int)>0)&& !lz l (x.1.take (x.1.length - 1)))=((decide ((x.1.length:Int)>0)&& !lz l (x.1.take (x.1.length - 1)))|| r.any λx=>decide ((x.1.length:Int)>0)&& !lz l (x.1.take (x.1.length - 1))):=rfl
def WL:Ct:=cD noTy λl=>c0 λQ=>Q (.int (mj l)) []
def ak8:=abV.add UZ
def BA (l:(List (noTy).den)):dx:=λQ=>dG l (gE l (br (decide ((aA l)>(1024:Int))) (Q (.v (.c (.k (.int .i64 3)))) []) (aD .i64 (oJ l)->br (oJ l !=0) (Q (.v (.c (.k (.int .i64 (oJ l))))) []) (br (!lz l []) (Q (.v (.c (.k (.int .i64 
 4)))) []) (aM (λi ag=>dG l (br (eH i.1.1 l) (dz i.1.1 l (rJ l i.1.1 (br (decide ((gR l i.1.1)>ah)) (List.length (cn l i.1.1).1<=9223372036854775807->aD .i64 ((gR l i.1.1) - 1)/\ah<=(gR l i.1.1) 
 - 1/\(gR l i.1.1) - 1<=(gR l i.1.1)/\br (!lz l (vA l i.1.1)) (Q (.v (.c (.k (.int .i64 5)))) []) (dP i.1.1 ag)) (dP i.1.1 ag)))) (iQ Q))) dE)))))
theorem UY:cu 64 WL:=eQ<| jm λl=>gM λQ h=>by
 refine Wp.dC ak8 cC ⟨[(11,⟨[(5,.int .i64)],[]⟩)],[]⟩ Tryz.f64 (BA l) ?_;unfold BA gE iQ eH dE vA dz rJ cn dG gR dP aR ah aA aJ;intro _ _;unfold mj at h;refine aq (λhc=>?_) (λhc=>?_);rw [if_pos (by simpa using hc)] at h;exact h;rw [if_neg (by simpa using hc)] at h;intro _;refine aq (λhc=>?_) (λhc=>?_);rw [if_pos hc] at h;exact h;rw [if_neg (by rw [hc];simp)] at h;refine aq (λhc=>?_) (λhc=>?_);rw [if_pos hc] at h;exact h;rw [if_neg (by rw [hc];simp)] at h;refine aM.intro (λi=>0<=i.1.1/\i.1.1<=l.length/\((l.drop i.1.1.toNat).any λx=>decide ((x.1.length:Int)>0)&& !lz l (x.1.take (x.1.length - 1)))=upB l) (λi=>l.length - i.1.1.toNat) ⟨by simp,by simp,by simp [upB]⟩ ?_;rintro ⟨⟨i,_⟩,_⟩ ⟨h0,h1,h2⟩;simp only at h0 h1 h2 ⊢;intro _;refine aq (λhc=>?_) (λhc=>?_)
 .have hc:i< l.length:=by simpa using hc
  rw [dc (e:=noTy) h0 hc,YJ] at h2;generalize aB noTy l i=x at*;refine ⟨h0,hc,λ_ _=>aq (λhb=>λ_=>?_) (λhb=>?_)⟩
  .rw [hb,j5] at h2;have hb:(x.1.length:Int)>0:=by simpa using hb
   have e1:cd (some ((x.1.length:Int) - 1)) (x.1.length:Int)=(x.1.length:Int) - 1:=rfl;have e2:cd none 0=0:=rfl;refine ⟨by unfold aD;omega,by omega,by omega,?_⟩;rw [show ((x.1.length:Int) - 1).toNat=x.1.length - 1 by omega];refine aq (λhd=>?_) (λhd=>?_)
   .rw [hd,lQ] at h2;rw [<-h2,if_pos rfl] at h;exact h
   .rw [hd,eZ] at h2;exact ⟨by unfold aD;omega,⟨by omega,by omega,h2⟩,by omega⟩
  .rw [hb,fg,eZ] at h2;exact ⟨by unfold aD;omega,⟨by omega,by omega,h2⟩,by omega⟩
 .have hc:¬i< l.length:=by simpa using hc
  rw [dj hc,List.any_nil] at h2;rw [<-h2,if_neg (by decide)] at h;exact h
end Go.Proofs

namespace Go.Proofs
open Go Go.Shelf Go.Lib Go.Sort Go.Lm
set_option maxRecDepth 1000000
set_option maxHeartbeats 1000000 in
theorem Tryz.ae1 (x:ByteArray) (w:World):Calls bQ 170 #[.string x] w λe w'=>e= .returned (.bool false)/\w'=w:=by
 go_enter Tryz.func170,Tryz.ntmps170
 go_wp2
 go_ret
 exact ⟨by simp,rfl⟩
set_option maxHeartbeats 1000000 in
theorem Tryz.Wq (x y:ByteArray) (w:World):Calls bQ 123 #[.string x,.string y] w λe w'=>e= .returned (.int .i64 (fK x y))/\w'=w:=by
 go_enter Tryz.func123,Tryz.ntmps123
 go_wp2_with (first| (go_at_call 170;refine (Tryz.ae1 _ _).mono ?_;rintro e w' ⟨rfl,hw⟩;rw [hw])| rw [Tryz.str_gtr])
 all_goals go_ret
 all_goals (refine ⟨?_,rfl⟩;simp_all [fK])
set_option maxHeartbeats 2000000 in
theorem Tryz.aaQ (a a2:Option Addr) (c c2:Nat) (xs ys:List ByteArray) (w:World) (lx:xs.length<=9223372036854775807) (ly:ys.length<=9223372036854775807)
  (h1:∀ (j:Nat) x,xs[j]?=some x->∃ bk o,a=some ⟨bk,o,none⟩/\w.cell? ⟨bk,o+j,none⟩=some (.string x))
  (h2:∀ (j:Nat) x,ys[j]?=some x->∃ bk o,a2=some ⟨bk,o,none⟩/\w.cell? ⟨bk,o+j,none⟩=some (.string x)):
  Calls bQ 71 #[.slice a xs.length c,.slice a2 ys.length c2] w λe w'=>e= .returned (.int .i64 (cmpL xs ys))/\w'=w:=by
 generalize hn:xs.length=n at*;generalize hm:ys.length=m at*
 go_enter Tryz.func71,Tryz.ntmps71
 go_wp2
 go_loop [11] (λv11=>∃ k:Nat,k<=n/\k<=m/\v11= .int .i64 k/\Aside (cmpL (xs.drop k) (ys.drop k)=cmpL xs ys)) (λv11=>match v11 with| .int _ m=>n - m.toNat| _=>0)
 case atStart=>exact ⟨0,cY _,cY _,rfl,rfl⟩
 case round=>
  obtain ⟨k,hk,r8,rfl,A⟩:=hrel;by_cases fD:k< n
  .by_cases aj2:k< m
   .obtain ⟨bk,o,rfl,g1⟩:=h1 k xs[k] (ao (by omega));obtain ⟨bk2,o2,rfl,g2⟩:=h2 k ys[k] (ao (by omega));have B:Aside (cmpL (xs.drop k) (ys.drop k)=if fK xs[k] ys[k]=0 then cmpL (xs.drop (k+1)) (ys.drop (k+1)) else fK xs[k] ys[k]):=Wt (ao (by omega:k< xs.length)) (ao (by omega:k< ys.length))
    clear h1 h2;have hc:=λw=>Tryz.Wq xs[k] ys[k] w;generalize xs[k]=x at*;generalize ys[k]=y at*;generalize fK x y=r at*;by_cases hr:r=0
    .subst hr
     go_wp2_with (go_at_call 123;refine (hc _).mono ?_;rintro e w' ⟨rfl,rfl⟩)
     refine ⟨⟨k+1,by omega,by omega,rfl,?_⟩,by simp only [bM];omega⟩;simp only [if_true] at B;exact (Eq.symm B).trans A
    .go_wp2_with (go_at_call 123;refine (hc _).mono ?_;rintro e w' ⟨rfl,rfl⟩)
     go_ret
     have B:cmpL (xs.drop k) (ys.drop k)=r:=by
      have B':cmpL (xs.drop k) (ys.drop k)=if r=0 then cmpL (xs.drop (k+1)) (ys.drop (k+1)) else r:=B
      rw [if_neg hr] at B';exact B'
     exact ⟨congrArg (λz=>Ending.returned (.int .i64 z)) ((Eq.symm B).trans A),rfl⟩
   .obtain ⟨bk,o,rfl,g1⟩:=h1 k xs[k] (ao (by omega));have B:Aside (cmpL (xs.drop k) (ys.drop k)=1):=by
     rw [bO (show k< xs.length by omega),@eL _ ys k (by omega)];rfl
    clear h1 h2;generalize xs[k]=x at*
    go_wp2
    go_ret
    exact ⟨congrArg (λz=>Ending.returned (.int .i64 z)) ((Eq.symm B).trans A),rfl⟩
  .clear h1 h2;have e1:xs.drop k= []:=eL (by omega);by_cases aj2:n< m
   .have B:Aside (cmpL (xs.drop k) (ys.drop k)= -1):=by
     rw [e1,bO (show k< ys.length by omega)];rfl
    go_wp2
    go_ret
    exact ⟨congrArg (λz=>Ending.returned (.int .i64 z)) ((Eq.symm B).trans A),rfl⟩
   .have B:Aside (cmpL (xs.drop k) (ys.drop k)=0):=by
     rw [e1,@eL _ ys k (by omega)];rfl
    go_wp2
    go_ret
    exact ⟨congrArg (λz=>Ending.returned (.int .i64 z)) ((Eq.symm B).trans A),rfl⟩
theorem ur {w:World} {os:Array Obj} {a:Addr} {v:Value} (h:w.cell? a=some v):(grow w os).cell? a=some v:=by
 unfold World.cell? at h ⊢;split at h
 .rename_i c e z hb;have:(grow w os).heap[a.block]?=some (.cells c e z):=by
   show (w.heap++os)[a.block]?=_;rw [qB (aN.1 hb).1];exact hb
  rw [this];exact h
 .cases h
set_option maxHeartbeats 2000000 in
theorem Tryz.anP (a a2:Option Addr) (c c2:Nat) (xs ys:List ByteArray) (p1 p2 p3 p4 p5 p6 p7 p8 p9 q1 q2 q3 q4 q5 q6 q7 q8 q9:Value) (w:World) (lx:xs.length<=9223372036854775807) (ly:ys.length<=9223372036854775807)
  (h1:∀ (j:Nat) x,xs[j]?=some x->∃ bk o,a=some ⟨bk,o,none⟩/\w.cell? ⟨bk,o+j,none⟩=some (.string x))
  (h2:∀ (j:Nat) x,ys[j]?=some x->∃ bk o,a2=some ⟨bk,o,none⟩/\w.cell? ⟨bk,o+j,none⟩=some (.string x)):
  Calls bQ 70 #[.agg #[.slice a xs.length c,p1,p2,p3,p4,p5,p6,p7,p8,p9],.agg #[.slice a2 ys.length c2,q1,q2,q3,q4,q5,q6,q7,q8,q9]] w λe w'=>e= .returned (.int .i64 (cmpL xs ys))/\∃ q os',w'=grow (w.drewN q) os':=by
 have aqv:∀ W' os,W'=grow w os->Calls bQ 71 #[.slice a xs.length c,.slice a2 ys.length c2] W' λe w'=>e= .returned (.int .i64 (cmpL xs ys))/\w'=W':=by
  rintro W' os rfl;refine Tryz.aaQ a a2 c c2 xs ys _ lx ly (λj x hj=>?_) (λj x hj=>?_)
  .obtain ⟨bk,o,e,h⟩:=h1 j x hj;exact ⟨bk,o,e,ur h⟩
  .obtain ⟨bk,o,e,h⟩:=h2 j x hj;exact ⟨bk,o,e,ur h⟩
 clear h1 h2;generalize cmpL xs ys=r at*;generalize xs.length=n at*;generalize ys.length=m at*
 go_enter Tryz.func70,Tryz.ntmps70
 go_wp2_with (go_at_call 71;refine (aqv _ _ (by rw [alloc_eq_grow,alloc_eq_grow,grow_grow])).mono ?_;rintro e w' ⟨rfl,rfl⟩)
 go_ret
 exact ⟨rfl,0,_,by rw [alloc_eq_grow,alloc_eq_grow,grow_grow];rfl⟩
end Go.Proofs

namespace Go.Lm
open Go Go.RowKit Go.Proofs
def aid (P:Program) (f fk k:Nat):Prop:=∀ {α:Type} [Inhabited α] (enc:α->List Value),(∀ x,(enc x).length=k)->(∀ x,∀ v∈enc x,v.oneCell'=true)->∀ (cf:α->α->Int),Sort.SWO (ltOf cf)->∀ (pd off cap:Nat) (d:Array α) (w:World),
 CmpLays P fk #[] enc k cf pd off d.size w->Sort.HoldsK enc k w pd off d->pd< w.heap.size->d.size< 4611686018427387904->
 Calls P f #[.slice (some ⟨pd,off,none⟩) d.size cap,.func (.func fk) #[] #[]] w λe w'=>e= .returned (.tuple #[])/\∃ d' n os,Sort.PermIn 0 d.size d d'/\Sort.SortedIn (ltOf cf) 0 d.size d'/\w'=Go.Proofs.sortWorldK enc k w pd off n d' os
def aos (P:Program) (fk:Nat):Prop:=∀ (a a2:Option Addr) (c c2:Nat) (xs ys:List ByteArray) (p1 p2 p3 p4 p5 p6 p7 p8 p9 q1 q2 q3 q4 q5 q6 q7 q8 q9:Value) (w:World),xs.length<=9223372036854775807->ys.length<=9223372036854775807->
  (∀ (j:Nat) x,xs[j]?=some x->∃ bk o,a=some ⟨bk,o,none⟩/\w.cell? ⟨bk,o+j,none⟩=some (.string x))->
  (∀ (j:Nat) x,ys[j]?=some x->∃ bk o,a2=some ⟨bk,o,none⟩/\w.cell? ⟨bk,o+j,none⟩=some (.string x))->
  Calls P fk #[.agg #[.slice a xs.length c,p1,p2,p3,p4,p5,p6,p7,p8,p9],.agg #[.slice a2 ys.length c2,q1,q2,q3,q4,q5,q6,q7,q8,q9]] w λe w'=>e= .returned (.int .i64 (cmpL xs ys))/\∃ q os',w'=Sort.grow (w.drewN q) os'
theorem flat_get {k:Nat}:∀ {l:List (List Value)},(∀ x∈l,x.length=k)->∀ {t:Nat},t< l.length*k->∃ c v,l[t / k]?=some c/\c[t % k]?=some v/\l.flatten[t]?=some v
 | [],_,t,h=>by simp at h
 | c::l,hl,t,h=>by
  have hc:=hl c (by simp);by_cases ht:t< k
  .refine ⟨c,c[t]'(by omega),?_,?_,?_⟩
   .rw [Nat.div_eq_of_lt ht];rfl
   .rw [Nat.mod_eq_of_lt ht];exact ao (by omega)
   .rw [dD,bN (by omega)];exact ao (by omega)
  .have hk:0< k:=by
    cases k with
    | zero=>simp at h
    | succ _=>omega
   have h':t - k< l.length*k:=by
    rw [av,gZ] at h;omega
   obtain ⟨c',v,h1,h2,h3⟩:=flat_get (λx hx=>hl x (aF _ hx)) h';refine ⟨c',v,?_,?_,?_⟩;rw [Nat.div_eq_sub_div hk (by omega),List.getElem?_cons_succ];exact h1;rw [Nat.mod_eq_sub_mod (by omega)];exact h2;rw [dD,bD (by omega),hc];exact h3
theorem vQ {α:Type} [Inhabited α] {enc:α->List Value} {k:Nat} (hk:∀ x,(enc x).length=k) (d:Array α):(Sort.flatK enc k d).toList=(d.toList.map enc).flatten:=by
 have hl:∀ x∈d.toList.map enc,x.length=k:=λx hx=>by
  obtain ⟨y,_,rfl⟩:=bq.1 hx;exact hk y
 have hlen:(d.toList.map enc).flatten.length=d.size*k:=by
  rw [List.length_flatten,List.map_map];have:(d.toList.map (List.length ∘ enc))=au d.size k:=by
   rw [List.eq_replicate_iff];refine ⟨by simp,λx hx=>?_⟩;obtain ⟨y,_,rfl⟩:=bq.1 hx;exact hk y
  rw [this,List.sum_replicate_nat]
 refine List.ext_getElem? λt=>?_;by_cases ht:t< d.size*k
 .obtain ⟨c,v,h1,h2,h3⟩:=flat_get hl (t:=t) (by simpa using ht);rw [h3];have hg:=Sort.get_flatK enc k d t ht;have hs:t< (Sort.flatK enc k d).size:=by rw [Sort.size_flatK];exact ht
  rw [getElem!_pos _ t hs] at hg;have hdk:t / k< d.size:=by
   rcases aw.1 h1 with ⟨q,_⟩;simpa using q
  have hc:c=enc d[t / k]:=by
   rw [dq] at h1;simp only [lS,eF hdk,Option.map_some,Option.some.injEq] at h1;exact h1.symm
  rw [lS,eF hs,hg,getElem!_pos d _ hdk,<-hc];obtain ⟨q,e⟩:=aw.1 h2;rw [getElem!_pos c _ q,e]
 .rw [hZ (by simpa using Nat.le_of_not_lt ht),hZ (by omega)]
structure o7 (g:World) where
 cs:List Value
 x:aZ
 rel:noTy.rep.rel g cs x
theorem o7.len {g:World} (r:o7 g):r.cs.length=10:=by
 have:=noTy.rep.len r.rel;rw [Ty.gz] at this;exact this
theorem o7.names {g:World} (r:o7 g):∃ a c p1 p2 p3 p4 p5 p6 p7 p8 p9,r.cs= [.slice a r.x.1.length c,p1,p2,p3,p4,p5,p6,p7,p8,p9]/\r.x.1.length<=9223372036854775807/\∀ (j:Nat) s,r.x.1[j]?=some s->∃ bk o,a=some ⟨bk,o,none⟩/\g.cell? ⟨bk,o+j,none⟩=some (.string s):=by
 have hl:=r.len;obtain ⟨cs,x,c1,c2,e,⟨v,vP,hs⟩,_⟩:=r;simp only at e hl ⊢;subst e;subst vP;have v8:c2.length=9:=by simpa using hl
 match c2,v8 with
 | [p1,p2,p3,p4,p5,p6,p7,p8,p9],_=>
  rcases hs with ⟨rfl,hx⟩| ⟨a,cap,rfl,h1,h2,h3⟩
  .refine ⟨none,0,p1,p2,p3,p4,p5,p6,p7,p8,p9,?_,?_,?_⟩
   .rw [hx];rfl
   .rw [hx];simp
   .intro j s hj;rw [hx] at hj;simp at hj
  .refine ⟨some a,cap,p1,p2,p3,p4,p5,p6,p7,p8,p9,rfl,Nat.le_trans h1 h2,λj s hj=>?_⟩;obtain ⟨cs,hc,hr⟩:=h3 j s hj;obtain ⟨rfl,_⟩:cs= [.string s]/\_:=hr;have h4:=hc 0 (.string s) rfl;have h0:∃ s0,x.1[0]?=some s0:=⟨x.1[0]'(by have:=(aw.1 hj).1;omega),ao _⟩;obtain ⟨s0,hs0⟩:=h0;obtain ⟨cs0,hc0,Nx⟩:=h3 0 s0 hs0;obtain ⟨rfl,_⟩:cs0= [.string s0]/\_:=Nx;have h5:=hc0 0 (.string s0) rfl;obtain ⟨bk,o,sp⟩:=a;have Dg:sp=none:=by
    cases sp with
    | none=>rfl
    | some z=>
     have:g.cell? ⟨bk,o,some z⟩=some (.string s0):=by simpa [Addr.add] using h5
     unfold World.cell? at this;split at this<;>simp at this
   subst Dg;refine ⟨bk,o,rfl,?_⟩;have e:(⟨bk,o,none⟩:Addr).add (j*aP.size ByteArray+0)=⟨bk,o+j,none⟩:=by
    have:j*aP.size ByteArray+0=j:=by show j*1+0=j;omega
    rw [this];unfold Addr.add;split
    .rename_i h;rw [h];rfl
    .rfl
   exact e▸h4
theorem SI {g:World}:∀ {cs:List (List Value)} {xs:List aZ},@eG aZ noTy.rep g cs xs->∃ rows:List (o7 g),rows.map (·.cs)=cs/\rows.map (·.x)=xs
 | [],[],_=>⟨[],rfl,rfl⟩
 | c::cs,x::xs,h=>by
  obtain ⟨rows,h1,h2⟩:=SI (cs:=cs) (xs:=xs) h.2;exact ⟨⟨c,x,h.1⟩::rows,by rw [cE,h1],by rw [cE,h2]⟩
 | [],_::_,h=>h.elim
 | _::_,[],h=>h.elim
theorem SG {g:World}:∀ (rows:List (o7 g)),@eG aZ noTy.rep g (rows.map (·.cs)) (rows.map (·.x))
 | []=>trivial
 | r::rows=>⟨r.rel,SG rows⟩
theorem ur {w:World} {os:Array Obj} {a:Addr} {v:Value} (h:w.cell? a=some v):(Sort.grow w os).cell? a=some v:=by
 unfold World.cell? at h ⊢;split at h
 .rename_i c e z hb;have:(Sort.grow w os).heap[a.block]?=some (.cells c e z):=by
   show (w.heap++os)[a.block]?=_;rw [qB (aN.1 hb).1];exact hb
  rw [this];exact h
 .cases h
theorem Vf {g:World}:Sort.SWO (ltOf λx y:o7 g=>cmpL x.x.1 y.x.1) where
 irrefl x:=by
  unfold ltOf;have:=ju x.x.1;simp only [this];decide
 trans x y z h k:=by
  unfold ltOf at*;simp only [decide_eq_true_eq] at*;exact ru h k
 ntrans x y z h k:=by
  unfold ltOf at*;simp only [decide_eq_false_iff_not] at*;exact Au h k
theorem Wp.Vk {I:cX->Prop} {P:Program} {f fk:Nat} {tN:TypeId} {L:List aZ} {Q:SV->List HO->Prop} (hS:aid P f fk 10) (hN:∀ (p:Option Addr) (cap:Nat) (fv:Value) (w:World),Calls P f #[.slice p 0 cap,fv] w λe w'=>e= .returned (.tuple #[])/\w'=w) (hC:aos P fk)
  (hL:L.length< 4611686018427387904) (hq:∀ L':List aZ,L'.Perm L->L'.Pairwise (λx y=>¬cmpL y.1 x.1< 0)->Q (.cH []) [.sl tN noTy L']):
  Wp I P f [.v (.c (.o 0)),.v (.c (.fn fk []))] [.sl tN noTy L] Q:=by
 intro W hW g w E F vs S Ef;obtain ⟨u1,r1,rfl,⟨hE,_⟩,hv2⟩:=Ef;obtain ⟨u2,r2,rfl,⟨us,Xn,rfl⟩,hr2⟩:=hv2;obtain rfl:us= []:=Xn;obtain rfl:r2= []:=hr2;letI:=noTy.rep;have H1:SL W g w (pF noTy tN u1 L::F):=S.sl.cJ λh ⟨k1,k2,ap,q,⟨v,hv,s1⟩,s2⟩=>by
  rw [hE] at hv;obtain rfl:=aj hv;exact ⟨k1,k2,ap,q,s1,s2⟩
 obtain ⟨cs,rel,H2⟩:=H1.pF;obtain ⟨rows,zb,Aj⟩:=SI rel;have hln:rows.length=L.length:=by rw [<-Aj,bR]
 have same:L= []->Q (.cH []) [.sl tN noTy L]:=λe=>by
  subst e;exact hq [] (List.Perm.refl _) List.Pairwise.nil
 have nil:∀ (p:Option Addr) (cap:Nat),u1= .slice p 0 cap->L= []->HH P f #[u1,.func (.func fk) #[] [].toArray] w λv w'=>∃ E' g' sv H',bu E E'/\bt g g'/\Sat W E' g' w' H' F/\df E' g' sv v/\Q sv H':=λp cap hu he=>by
  subst hu;refine (HH.of (hN p cap _ w)).mono λv w' ⟨h1,h2⟩=>?_;subst h1;subst h2;exact ⟨E,g,.cH [],_,bu.refl E,bt.refl g,S,⟨[],rfl,rfl⟩,same he⟩
 rcases H2.row.2 with ⟨rfl,h0⟩| ⟨k,cap,cur,rfl,hbk,qt,hn,JG,aas,Nv⟩;exact nil none 0 rfl (bA h0);by_cases hz:L= [];subst hz;exact nil _ _ rfl rfl;obtain ⟨r0,Nx⟩:∃ r,r∈rows:=List.exists_mem_of_ne_nil rows λe=>hz (by rw [<-Aj,e];rfl);letI:Inhabited (o7 g):=⟨r0⟩;have hk:∀ x:o7 g,x.cs.length=10:=λx=>x.len;have kZ:tG g k:=by
  obtain ⟨h,be,s,ow,h1,h2,ap,rfl,⟨hl,hv⟩,s2⟩:=H2;rcases hv with ⟨hv,_⟩| ⟨k',afB,ako,hv,AK,_⟩;cases hv
  .have:k=k':=by
    injection hv with e1 _ _;injection e1 with e1;injection e1
   subst this;exact (ow k _ (Hp.fQ AK)).2.2
 have hF:(Sort.flatK (λx:o7 g=>x.cs) 10 rows.toArray).toList=cur.toList.take (L.length*10):=by
  rw [vQ hk];show (rows.map (·.cs)).flatten=_;rw [zb,<-Nv];rfl
 have hHolds:Sort.HoldsK (λx:o7 g=>x.cs) 10 w k 0 rows.toArray:=λj hj=>by
  have Ey:j< (cur.toList.take (L.length*10)).length:=by rw [<-hF];simpa using hj
  have e1:(Sort.flatK (λx:o7 g=>x.cs) 10 rows.toArray)[j]?=cur[j]?:=by
   rw [<-lS,hF,List.getElem?_take,if_pos (by simp at Ey;omega),lS]
  have e2:(Sort.flatK (λx:o7 g=>x.cs) 10 rows.toArray)[j]?=some (Sort.flatK (λx:o7 g=>x.cs) 10 rows.toArray)[j]!:=by
   rw [getElem!_pos _ j hj];exact eF hj
  refine ⟨?_,?_⟩
  .simp only [World.cell?,qt,gC];rw [<-e1,e2];rfl
  .simp [World.frozen?,qt]
 have aka:CmpLays P fk #[] (λx:o7 g=>x.cs) 10 (λx y=>cmpL x.x.1 y.x.1) k 0 rows.toArray.size w:=λm os dk _ x y=>by
  obtain ⟨a,c,p1,p2,p3,p4,p5,p6,p7,p8,p9,ex,lx,hx⟩:=x.names;obtain ⟨a2,c2,q1,q2,q3,q4,q5,q6,q7,q8,q9,ey,ly,hy⟩:=y.names;have seen:∀ bk o s,g.cell? ⟨bk,o,none⟩=some (.string s)->(Go.Proofs.sortWorldK (λx:o7 g=>x.cs) 10 w k 0 m dk os).cell? ⟨bk,o,none⟩=some (.string s):=λbk o s hg=>by
   refine ur ?_;have jb:bk≠k:=λe=>by
    have:=kZ ⟨bk,o,none⟩ e;rw [this] at hg;cases hg
   rw [Sort.cell?_putRowK_other (h:=jb),Sort.cell?_ahead];exact S.sl.m _ _ hg
  have:=hC a a2 c c2 x.x.1 y.x.1 p1 p2 p3 p4 p5 p6 p7 p8 p9 q1 q2 q3 q4 q5 q6 q7 q8 q9 (Go.Proofs.sortWorldK (λx:o7 g=>x.cs) 10 w k 0 m dk os) lx ly
   (λj s hj=>by obtain ⟨bk,o,e,h⟩:=hx j s hj;exact ⟨bk,o,e,seen _ _ _ h⟩) (λj s hj=>by obtain ⟨bk,o,e,h⟩:=hy j s hj;exact ⟨bk,o,e,seen _ _ _ h⟩)
  have e:(#[Value.agg x.cs.toArray,Value.agg y.cs.toArray]++ #[]:Array Value)= #[.agg #[.slice a x.x.1.length c,p1,p2,p3,p4,p5,p6,p7,p8,p9],.agg #[.slice a2 y.x.1.length c2,q1,q2,q3,q4,q5,q6,q7,q8,q9]]:=by rw [ex,ey];rfl
  show Calls P fk (#[Value.agg x.cs.toArray,Value.agg y.cs.toArray]++ #[]) _ _;rw [e];exact this
 have jr:=hS (λx:o7 g=>x.cs) hk (λx v hv=>(oneCellsTy noTy).one x.rel v hv) (λx y=>cmpL x.x.1 y.x.1) Vf k 0 cap rows.toArray w aka hHolds (xA qt) (by simpa [hln] using hL);have mC:rows.toArray.size=L.length:=by simpa using hln
 rw [mC] at jr;refine (HH.of jr).mono λv w' ⟨hv,d',n,os,hp,hso,hw'⟩=>?_;subst hv;have hd:d'.size=L.length:=hp.1.trans mC;have anf:d'.toList.Perm rows:=by
  have:=hp.2.2;rw [<-hd] at this;rw [show d'.extract 0 d'.size=d' by simp,show rows.toArray.extract 0 d'.size=rows.toArray by rw [hd,<-mC];simp] at this;simpa using this
 have hb:w'.heap[k]?=some (.cells (Sort.putCells id 0 (Sort.flatK (λx:o7 g=>x.cs) 10 d') cur) tN (0,0)):=by
  rw [hw'];show ((w.heap.modify k (Sort.onCells (Sort.putCells id 0 (Sort.flatK (λx:o7 g=>x.cs) 10 d'))))++os)[k]?=_;rw [qB (by rw [Array.size_modify];exact xA qt),Array.getElem?_modify,if_pos rfl,qt];rfl
 have hFs:(Sort.flatK (λx:o7 g=>x.cs) 10 d').size=L.length*10:=by rw [Sort.size_flatK,hd]
 have anG:(Sort.putCells id 0 (Sort.flatK (λx:o7 g=>x.cs) 10 d') cur).size=cur.size:=by unfold Sort.putCells;simp
 have hle:L.length*10<=cur.size:=by rw [aas];exact j9 _ hn
 have htk:(Sort.putCells id 0 (Sort.flatK (λx:o7 g=>x.cs) 10 d') cur).toList.take (L.length*10)=(d'.toList.map (·.cs)).flatten:=by
  rw [<-vQ hk];refine List.ext_getElem? λj=>?_;by_cases hj:j< L.length*10
  .rw [List.getElem?_take,if_pos hj,lS,lS];unfold Sort.putCells;rw [Array.getElem?_mapIdx,eF (by omega:j< cur.size),Option.map_some,if_pos ⟨cY _,by rw [hFs];omega⟩,Nat.sub_zero,getElem!_pos _ j (by rw [hFs];exact hj),eF (by rw [hFs];exact hj)];rfl
  .rw [hZ (by rw [aH];omega),hZ (by rw [Array.length_toList,hFs];omega)]
 have NB:w.grownBy w' (some k):=by
  rw [hw'];refine ⟨rfl,rfl,rfl,?_,λj hj jb=>?_⟩
  .show w.heap.size<=((w.heap.modify k _)++os).size;rw [Array.size_append,Array.size_modify];omega
  .show ((w.heap.modify k _)++os)[j]?=_;rw [qB (by rw [Array.size_modify];exact hj),Array.getElem?_modify,if_neg (λe=>jb (by rw [e]))]
 have hlen:((d'.toList.map (·.cs)).flatten).length=L.length*10:=by rw [<-vQ hk,Array.length_toList,hFs]
 have H3:=H2.grown (v':=.slice (some ⟨k,0,none⟩) L.length cap) (n':=L.length) (xs':=(d'.toList.map (·.cs)).flatten) (w':=w') ⟨hlen,.inr ⟨k,cap,_,rfl,hbk,hb,hn,JG,by rw [anG];exact aas,htk⟩⟩ NB (λq hq=>.inl hq);have hxl:(d'.toList.map (·.x)).length=L.length:=by rw [bR,Array.length_toList,hd]
 have H4:SL W g w' (pF noTy tN (.slice (some ⟨k,0,none⟩) L.length cap) (d'.toList.map (·.x))::F):=by
  refine SL.YR (cs:=d'.toList.map (·.cs)) (SG _) ?_;rw [hxl];exact H3
 have hpL:(d'.toList.map (·.x)).Perm L:=by rw [<-Aj];exact anf.map _
 refine ⟨E,g,.cH [],[.sl tN noTy (d'.toList.map (·.x))],bu.refl E,bt.refl g,⟨H4.cJ λh ⟨k1,k2,ap,q,s1,s2⟩=>⟨k1,k2,ap,q,⟨_,hE,s1⟩,s2⟩,S.len⟩,⟨[],rfl,rfl⟩,hq _ hpL ?_⟩;rw [List.pairwise_map,cQ];intro i j hi hj hij;have r9:i< d'.size:=by simpa using hi
 have Ey:j< d'.size:=by simpa using hj
 have:=hso i j (cY _) hij (by omega);rw [getElem!_pos d' i r9,getElem!_pos d' j Ey] at this;unfold ltOf at this;simpa using this
end Go.Lm

namespace Go.Proofs
open Go Go.Shelf Go.Lm
set_option maxRecDepth 1000000
def Tryz.Vl:Go.Shelf.Ren:=⟨fun| 6=>69| 15=>122| 14=>121| 28=>168| 29=>169| 20=>160| 21=>161| 22=>162| 23=>163| 24=>164| 25=>165| 26=>166| 27=>167| 46=>206| 47=>207| 48=>208| 49=>209| 50=>210| 57=>231| n=>n,fun| 22=>22| 24=>38| 25=>146| 3=>3| 39=>148| 0=>0| 53=>107| 55=>267| 4=>4| 46=>260| 45=>259| 50=>104| 5=>5| 9=>9| 66=>303| 70=>130| 76=>325| 77=>163| n=>n,fun| n=>n⟩
theorem Tryz.agt:Go.Proofs.SlLaysF0.n6 bQ Tryz.Vl:= {
 mixed:=by kernel_rfl
 f6:=⟨"slices.SortFunc[[]lamella/api.Node,lamella/api.Node]",by kernel_rfl,Tryz.func69.trans (congrArg some (by kernel_rfl))⟩
 f14:=⟨"slices.pdqsortCmpFunc[lamella/api.Node]",by kernel_rfl,Tryz.func121.trans (congrArg some (by kernel_rfl))⟩
 f15:=Tryz.func122.trans (congrArg some (by kernel_rfl))
 f20:=⟨"slices.insertionSortCmpFunc[lamella/api.Node]",by kernel_rfl,Tryz.func160.trans (congrArg some (by kernel_rfl))⟩
 f21:=⟨"slices.heapSortCmpFunc[lamella/api.Node]",by kernel_rfl,Tryz.func161.trans (congrArg some (by kernel_rfl))⟩
 f22:=⟨"slices.breakPatternsCmpFunc[lamella/api.Node]",by kernel_rfl,Tryz.func162.trans (congrArg some (by kernel_rfl))⟩
 f23:=⟨"slices.choosePivotCmpFunc[lamella/api.Node]",by kernel_rfl,Tryz.func163.trans (congrArg some (by kernel_rfl))⟩
 f24:=⟨"slices.reverseRangeCmpFunc[lamella/api.Node]",by kernel_rfl,Tryz.func164.trans (congrArg some (by kernel_rfl))⟩
 f25:=⟨"slices.partialInsertionSortCmpFunc[lamella/api.Node]",by kernel_rfl,Tryz.func165.trans (congrArg some (by kernel_rfl))⟩
 f26:=⟨"slices.partitionEqualCmpFunc[lamella/api.Node]",by kernel_rfl,Tryz.func166.trans (congrArg some (by kernel_rfl))⟩
 f27:=⟨"slices.partitionCmpFunc[lamella/api.Node]",by kernel_rfl,Tryz.func167.trans (congrArg some (by kernel_rfl))⟩
 f28:=Tryz.func168.trans (congrArg some (by kernel_rfl))
 f29:=Tryz.func169.trans (congrArg some (by kernel_rfl))
 f46:=⟨"slices.siftDownCmpFunc[lamella/api.Node]",by kernel_rfl,Tryz.func206.trans (congrArg some (by kernel_rfl))⟩
 f47:=Tryz.func207.trans (congrArg some (by kernel_rfl))
 f48:=Tryz.func208.trans (congrArg some (by kernel_rfl))
 f49:=⟨"slices.medianAdjacentCmpFunc[lamella/api.Node]",by kernel_rfl,Tryz.func209.trans (congrArg some (by kernel_rfl))⟩
 f50:=⟨"slices.medianCmpFunc[lamella/api.Node]",by kernel_rfl,Tryz.func210.trans (congrArg some (by kernel_rfl))⟩
 f57:=⟨"slices.order2CmpFunc[lamella/api.Node]",by kernel_rfl,Tryz.func231.trans (congrArg some (by kernel_rfl))⟩
 t0:=Tryz.underlying0
 a0:=Tryz.isAgg0
 z0:=Tryz.sizeOf0
 v0:=Tryz.zeroValue0
 t3:=Tryz.underlying3
 a3:=Tryz.isAgg3
 z3:=Tryz.sizeOf3
 v3:=Tryz.zeroValue3
 t4:=Tryz.underlying4
 a4:=Tryz.isAgg4
 z4:=Tryz.sizeOf4
 v4:=Tryz.zeroValue4
 t5:=Tryz.underlying5
 a5:=Tryz.isAgg5
 z5:=Tryz.sizeOf5
 v5:=Tryz.zeroValue5
 t9:=Tryz.underlying9
 a9:=Tryz.isAgg9
 z9:=Tryz.sizeOf9
 v9:=Tryz.zeroValue9
 t22:=Tryz.underlying22
 a22:=Tryz.isAgg22
 z22:=Tryz.sizeOf22
 v22:=Tryz.zeroValue22
 t25:=Tryz.underlying146
 a25:=Tryz.isAgg146
 z25:=Tryz.sizeOf146
 v25:=Tryz.zeroValue146
 t39:=Tryz.underlying148
 a39:=Tryz.isAgg148
 z39:=Tryz.sizeOf148
 v39:=Tryz.zeroValue148
 t45:=Tryz.underlying259
 a45:=Tryz.isAgg259
 z45:=Tryz.sizeOf259
 v45:=Tryz.zeroValue259
 t46:=Tryz.underlying260
 a46:=Tryz.isAgg260
 z46:=Tryz.sizeOf260
 v46:=Tryz.zeroValue260
 t50:=Tryz.underlying104
 a50:=Tryz.isAgg104
 z50:=Tryz.sizeOf104
 v50:=Tryz.zeroValue104
 t53:=Tryz.underlying107
 a53:=Tryz.isAgg107
 z53:=Tryz.sizeOf107
 v53:=Tryz.zeroValue107
 t55:=Tryz.underlying267
 a55:=Tryz.isAgg267
 z55:=Tryz.sizeOf267
 v55:=Tryz.zeroValue267
 t66:=Tryz.underlying303
 a66:=Tryz.isAgg303
 z66:=Tryz.sizeOf303
 v66:=Tryz.zeroValue303
 t70:=Tryz.underlying130
 a70:=Tryz.isAgg130
 z70:=Tryz.sizeOf130
 v70:=Tryz.zeroValue130
 t76:=Tryz.underlying325
 a76:=Tryz.isAgg325
 z76:=Tryz.sizeOf325
 v76:=Tryz.zeroValue325
 t77:=Tryz.underlying163
 a77:=Tryz.isAgg163
 z77:=Tryz.sizeOf163
 v77:=Tryz.zeroValue163
}
theorem Tryz.amF:aid bQ 69 70 10:=λenc hk h1 cf hO pd off cap d w aka hH hblk mC=>
 AnyQ.slices_SortFunc Tryz.agt 10 Tryz.isAgg38 Tryz.sizeOf38 enc hk h1 cf hO 70 #[] pd off cap d w (enters_of Tryz.func70 (by kernel_rfl) rfl) aka hH hblk mC
theorem Tryz.amG (p:Option Addr) (cap:Nat) (fv:Value) (w:World):Calls bQ 69 #[.slice p 0 cap,fv] w λe w'=>e= .returned (.tuple #[])/\w'=w:=AnyF.slices_SortFunc_none {Tryz.agt with} p cap fv w
theorem Tryz.aqH:aos bQ 70:=Tryz.anP
end Go.Proofs

namespace Go.Proofs
open Go Go.Lm Go.RowKit
set_option maxRecDepth 1000000
def akW:Ct:=cD .u8 λx=>c0 λQ=>x.length<=5000000000000/\Q (.c (.d .u8 x)) []
def Sn (x:(List (Ty.u8).den)):dx:=λQ=>cU x (Aa x Q)
theorem Yl:cu 72 akW:=eQ<| jm λx=>gM λQ h=>by
 refine Wp.Jc (e:=.u8) ?_;refine Wp.dC gJ cC ⟨[],[]⟩ Tryz.f72 (Sn x) ?_;unfold Sn Aa ck cU bZ;obtain ⟨hl,h⟩:=h;refine λ_ c hc=>aq (λhb=>.inr (.inl ⟨rfl,?_⟩)) (λhb=>⟨by omega,by omega,.inr (.inr ⟨0,5,x,rfl,aG 0,rfl,h⟩)⟩);rw [hc hb] at h;exact h
def anV:Ct:=cD .str λx=>c0 λQ=>x.length<=1000/\Q (.c (.d .str x)) []
def ac5:=gJ.add Yl
abbrev IB (y0:List (Ty.str).den) (y1:SV->List HO->Prop):=(∀ (c:Bool),(c=true->y0= [])->br (j8 c) (y1 fE []) ((0+List.length y0)*16<=ck/\0+List.length y0<=9223372036854775807/\y1 fh [.sl 9 Ty.str ([]++y0)]))
def Yn (x:(List (Ty.str).den)):dx:=λQ=>mM x (IB x Q)
theorem ago:cu 43 anV:=eQ<| jm λx=>gM λQ h=>by
 refine Wp.Jc (e:=.str) ?_;refine Wp.dC ac5 cC ⟨[],[]⟩ Tryz.f43 (Yn x) ?_;unfold Yn IB mM j8 fh fE ck bZ;obtain ⟨hl,h⟩:=h;refine λ_ c hc=>aq (λhb=>.inr (.inl ⟨rfl,?_⟩)) (λhb=>⟨by omega,by omega,.inr (.inr ⟨0,9,x,rfl,aG 0,rfl,h⟩)⟩);rw [hc hb] at h;exact h
def anU:Ct:=cD cZ λx=>c0 λQ=>x.length<=1000/\Q (.c (.o 0)) [.sl 96 cZ x]
def alM:=ac5.add ago
abbrev IK (y0:List (cZ).den) (y1:SV->List HO->Prop):=(∀ (c:Bool),(c=true->y0= [])->br (j8 c) (y1 fE []) ((0+List.length y0)*40<=ck/\0+List.length y0<=9223372036854775807/\y1 fh [.sl 96 cZ ([]++y0)]))
def Ym (x:(List (cZ).den)):dx:=λQ=>kz x (IK x Q)
theorem amh:cu 37 anU:=eQ<| jm λx=>gM λQ h=>by
 refine Wp.yR (t:=96) (e:=cZ) ?_;refine Wp.dC alM cC ⟨[],[]⟩ Tryz.f37 (Ym x) ?_;unfold Ym IK kz j8 fh fE ck bZ;intro _ c hc;refine aq (λhb=>.inr ⟨rfl,?_⟩) (λhb=>⟨by omega,by omega,.inl ?_⟩)
 .have:=hc (by simpa using hb);subst this;exact h.2
 .exact h.2
def anZ:Ct:=cD noTy λx=>c0 λQ=>x.length<=1100/\Q (.c (.o 0)) [.sl 38 noTy x]
def Yq (x:(List (noTy).den)):dx:=λQ=>dG x (∀ (c:Bool),(c=true->x= [])->br (j8 c) (Q fE []) ((0+List.length x)*136<=ck/\0+List.length x<=9223372036854775807/\Q fh [.sl 38 noTy ([]++x)]))
theorem amm:cu 68 anZ:=eQ<| jm λx=>gM λQ h=>by
 refine Wp.yR (t:=38) (e:=noTy) ?_;refine Wp.dC gJ cC ⟨[],[]⟩ Tryz.f68 (Yq x) ?_;unfold Yq j8 fh fE dG ck bZ;intro _ c hc;refine aq (λhb=>.inr ⟨rfl,?_⟩) (λhb=>⟨by omega,by omega,.inl ?_⟩)
 .have:=hc (by simpa using hb);subst this;exact h.2
 .exact h.2
def T0:Ct
 | [.v (.c (.o 0)),.v (.c (.fn 70 []))],[.sl tN e xs],Q=>(match zy noTy xs with
  | some L=>(L.length:Int)<=1100/\∀ L':List aZ,L'.Perm L->L'.Pairwise (λx y=>¬cmpL y.1 x.1< 0)->Q (.cH []) [.sl tN noTy L']
  | none=>False)
 | _,_,_=>False
theorem ajc {e e':Ty} {xs:List e.den} {L:List e'.den} (h:zy e' xs=some L) (t:TypeId):HO.sl t e xs=HO.sl t e' L:=by
 obtain ⟨q,hy⟩:=eB h;subst q;subst hy;rfl
theorem adR:cu 69 T0:=by
 intro args H Q h;unfold T0 at h;split at h
 .split at h
  .rename_i tN e xs x_ L hL;rw [ajc hL];exact Wp.Vk Tryz.amF Tryz.amG Tryz.aqH (by have:=h.1;omega) h.2
  .cases h
 .cases h
theorem N3 {l:List aZ} (h:dv l=0):l.length<=1024/\iC l=0/\kE (fj l) []=1/\Eo (fj l) l=false/\(∀ x∈l,gr x=true)/\iE l []=0:=by
 unfold dv at h;split at h;cases h;rename_i h1;split at h
 .rename_i h2;rw [h] at h2;cases h2
 rename_i h2;split at h;cases h;rename_i h3;split at h;cases h;rename_i h4;split at h;cases h;rename_i h5;refine ⟨by omega,by simpa using h2,by simpa using h3,by simpa using h4,λx hx=>?_,h⟩;have:(l.any λx=> !gr x)=false:=by simpa using h5
 have:=List.any_eq_false.1 this x hx;simpa using this
theorem P1 {x:aZ} (h:gr x=true):x.2.2.2.2.1.length<=4096/\dF x.2.2.2.2.2.2.1=true/\x.2.2.2.2.2.2.2.1=false:=by
 unfold gr at h;split at h
 .simp only [ak,beq_iff_eq,dr] at h;exact ⟨by omega,h.2,h.1.1.2⟩
 .split at h
  .simp only [ak,decide_eq_true_eq,dr] at h;exact ⟨by omega,h.2,h.1.1.2⟩
  .split at h
   .simp only [ak,beq_iff_eq,dr] at h;exact ⟨by omega,h.2,h.1.1.2⟩
   .cases h
theorem N2 {l:List aZ} (h:dv l=0):∀ x∈l,x.1.length<=16/\x.2.2.2.2.1.length<=4096/\x.2.2.2.2.2.2.1.length<=8/\∀ z∈x.2.2.2.2.2.2.1,z.2.1.length<=200:=λx hx=>by
 obtain ⟨_,h2,_,_,h5,_⟩:=N3 h;obtain ⟨_,hD,_⟩:=qi (show (iC l !=0)=false by rw [h2];rfl);obtain ⟨a,b,_⟩:=P1 (h5 x hx);obtain ⟨c,d⟩:=ml b;exact ⟨A4 hD hx,a,d,λz hz=>(c z hz).2.2⟩
theorem aer {e:Ty} {L:List e.den} {i:Int} (h0:0<=i) (h1:i< (L.length:Int)):L.set i.toNat (aB e L i)=L:=by
 rw [ff h0 h1,List.set_getElem_self]
theorem Tt {e:Ty} (A B:List e.den) (x:e.den) {j:Nat} (h:A.length=j):aB e (A++x::B) (j:Int)=x:=by
 subst h;unfold aB;rw [bM,ep,bD (aG _),Nat.sub_self];rfl
theorem SB {α:Type} (A B:List α) (x y:α) {j:Nat} (h:A.length=j):(A++x::B).set (j:Int).toNat y=A++y::B:=by
 subst h;rw [bM,List.set_append_right _ _ (aG _),Nat.sub_self];rfl
def xu:Ct
 | [.v (.c cl)],[],Q=>(match (Ty.sl noTy).of [cl] with
  | some (l,[])=>(l.length:Int)<=1000/\br (dv l !=0) (Q (.cH [.c (.d noTy []),.c (.k (.int .i64 (dv l)))]) []) (∀ L':List aZ,L'.Perm l->L'.Pairwise (λx y=>¬cmpL y.1 x.1< 0)->Q (.cH [.c (.d noTy (bJ L' [])),.c (.k (.int .i64 0))]) [])
  | _=>False)
 | _,_,_=>False
def alL:=(((((gJ.add X0).add Yl).add ago).add amh).add amm).add adR
abbrev aeE (y0) (y1):=List.set (List.set y0 (ax y1) (aB noTy y0 y1)) (ax y1) ((aB noTy (List.set y0 (ax y1) (aB noTy y0 y1)) y1).1,(aB noTy (List.set y0 (ax y1) (aB noTy y0 y1)) y1).2.1,(aB noTy (List.set y0 (ax y1) (aB noTy y0 y1)) y1).2.2.1,(aB noTy (List.set y0 (ax y1) (aB noTy y0 y1)) y1).2.2.2.1,(aB noTy y0 y1).2.2.2.2.1,(aB noTy (List.set y0 (ax y1) (aB noTy y0 y1)) y1).2.2.2.2.2)
abbrev oG (y0:List aZ) (R:Prop):=List.Pairwise (λx y=>¬cmpL y.1 x.1< 0) y0->R
abbrev IU (y0) (y1) (R:Prop):=List.length (dd y0 y1).2.1<=9223372036854775807->0<=y1/\y1< (aS y0)/\0<=y1/\y1< (aS y0)/\R
abbrev vt {A1:Type} (y0) (y1:List A1) (R:Prop):=0<=y0/\y0< (aS y1)/\0<=y0/\y0< (aS y1)/\R
abbrev sM (y0) (y1):=aB noTy (aeE y0 y1) y1
abbrev fb (y0) (y1):=aB noTy y0 y1
def Fe (l:(List (noTy).den)):dx:=λQ=>dG l (aD .i64 (dv l)->br (dv l !=0) (Q (.cH [.c (.k bZ),.c (.k (.int .i64 (dv l)))]) []) (List.length l<=1100/\(aA l)<=(1100:Int)/\∀ (L':List aZ),List.Perm L' l->oG L' (aJ (List.length 
 L')->aM (λi ag=>br (decide (i.1.1< (aS L'))) (vt i.1.1 i.2.1 (Ty.ok noTy (fb i.2.1 i.1.1)->Ty.ok bo (cA (Kk.get Kk.int i.2.2.1 (fb i.2.1 i.1.1).2.1) ah)->cG (λk=>br (!oc (Kk.get 
 Kk.int i.2.2.1 (fb i.2.1 i.1.1).2.1)) (aJ (bw i.2.2.1)->aD .i64 ((aS i.2.2.1)+1)/\0<=i.1.1/\i.1.1< (aS i.2.1)/\(Ty.ok noTy (fb i.2.1 i.1.1)->lY i.2.2.1 (k (((aS i.2.2.1)+1,()),Kk.put Kk.int i.2.2.1 
 (fb i.2.1 i.1.1).2.1 ((aS i.2.2.1)+1),())))) (k ((cA (Kk.get Kk.int i.2.2.1 (fb i.2.1 i.1.1).2.1) ah,()),i.2.2))) λbE=>cG (λk=>0<=i.1.1/\i.1.1< (aS i.2.1)/\k ((),List.set i.2.1 (aU i.1.1) 
 ((fb i.2.1 i.1.1).1,bE.1.1,(fb i.2.1 i.1.1).2.2),())) λkH=>0<=i.1.1/\i.1.1< (aS kH.2.1)/\(Ty.ok noTy (fb kH.2.1 i.1.1)->0<=i.1.1/\i.1.1< (aS kH.2.1)/\(Ty.ok noTy (fb kH.2.1 i.1.1)->0<=i.1.1/\ 
 i.1.1< (aS kH.2.1)/\(Ty.ok noTy (fb kH.2.1 i.1.1)->List.length (fb kH.2.1 i.1.1).1<=1000/\(List.length (fb kH.2.1 i.1.1).1<=9223372036854775807->List.length (fb kH.2.1 i.1.1).2.2.2.2.1<=5000000000000/\ 
 (List.length (fb kH.2.1 i.1.1).2.2.2.2.1<=9223372036854775807->List.length (fb kH.2.1 i.1.1).2.2.2.2.2.2.1<=1000/\0<=i.1.1/\i.1.1< (aS kH.2.1)/\0<=i.1.1/\i.1.1< (aS (List.set kH.2.1 (aU i.1.1) (fb kH.2.1 
 i.1.1)))/\0<=i.1.1/\i.1.1< (↑(List.length (aeE kH.2.1 i.1.1)):Int)/\i.1.1=i.1.1/\(List.length (fb kH.2.1 i.1.1).2.2.2.2.2.2.1<=9223372036854775807->aM (λjU ag_1=>br (decide (jU.1.1< (↑(List.length (fb 
 kH.2.1 i.1.1).2.2.2.2.2.2.1):Int))) (vt jU.1.1 jU.2.1 (Ty.ok cZ (dd jU.2.1 jU.1.1)->i.1.1=i.1.1/\List.length (dd jU.2.1 jU.1.1).2.1<=5000000000000/\(IU jU.2.1 jU.1.1 (cF jU.1.1 (ag_1 ((jU.1.1+1, 
 ()),List.set jU.2.1 (aU jU.1.1) (dd jU.2.1 jU.1.1),())))))) (cF i.1.1 (ag ((i.1.1+1,()),List.set (aeE kH.2.1 i.1.1) (aU i.1.1) ((sM kH.2.1 i.1.1).1,(sM kH.2.1 i.1.1).2.1,(sM kH.2.1 i.1.1).2.2.1, 
 (sM kH.2.1 i.1.1).2.2.2.1,(sM kH.2.1 i.1.1).2.2.2.2.1,(sM kH.2.1 i.1.1).2.2.2.2.2.1,jU.2.1,(sM kH.2.1 i.1.1).2.2.2.2.2.2.2),bE.2)))) ((ah,()),(fb kH.2.1 i.1.1).2.2.2.2.2.2.1,()))))))))) (Q ll [.sl 
 38 noTy i.2.1])) ((ah,()),L',[],()))))
theorem Kr:cu 45 xu:=by
 intro args H Q h;unfold xu at h;split at h;rotate_left;cases h;rename_i cl;split at h;rotate_left;cases h;rename_i l hl;refine Wp.said (args':=[.c (.d noTy l)]) (λE g=>bm.cr (dH hl) (λ_ h=>h)) ?_;clear hl;refine Wp.kC [some (.sl noTy),none] [0] ?_;refine Wp.dC alL cC ⟨[(9,⟨[(25,.int .i64)],[(0,.sl 38 noTy),(1,.map 3 .int (.int .i64))]⟩),(19,⟨[(84,.int .i64)],[(2,.sl 96 cZ)]⟩)],[(16,⟨[(9,.int .i64)],[(1,.map 3 .int (.int .i64))]⟩),(17,⟨[],[(0,.sl 38 noTy)]⟩)]⟩ Tryz.f45 (Fe l) (sfh:=true) ?_;unfold Fe fb sM vt IU dd lY oG ll cF dG bw bZ aU aR aeE ah aS aA aJ bo;obtain ⟨hl,h⟩:=h;refine λ_ _=>aq (λhc=>?_) (λhc=>?_);rw [hc] at h;exact ⟨aG _,h⟩;rw [hc] at h;have hck:dv l=0:=by simpa using hc
 have akc:=N2 hck;refine ⟨by omega,by omega,λL' hp ho _=>?_⟩;have hq:=h L' hp ho;have hlen:L'.length=l.length:=hp.length_eq;clear h ho hc;refine aM.intro (λi=>∃ j:Nat,j<=L'.length/\i.1.1=(j:Int)/\i.2.1=bJ (L'.take j) []++L'.drop j/\i.2.2.1=da (L'.take j) []) (λi=>L'.length - i.1.1.toNat) ⟨0,cY _,rfl,by simp [bJ],by simp [da]⟩ ?_;rintro ⟨⟨i,_⟩,out,m,_⟩ ⟨j,hj,h1,h2,h3⟩;simp only at h1 h2 h3 ⊢;subst h1 h2 h3;have hA:(bJ (L'.take j) []).length=j:=by rw [iq,aH];omega
 have pQ:(bJ (L'.take j) []++L'.drop j).length=L'.length:=by rw [af,hA,aQ];omega
 have Dh:=lq (L'.take j) [];rw [aH,aO] at Dh;refine aq (λhc=>?_) (λhc=>?_)
 .have vP:(j:Int)< L'.length:=of_decide_eq_true hc;clear hc;have pt:j< L'.length:=by omega
  have Dg:=bO pt;obtain ⟨b1,b2,b3,b4⟩:=akc _ (hp.mem_iff.1 (dA pt));have ht:L'.take (j+1)=L'.take j++ [L'[j]]:=bG pt;have hna:=(lp (L'.take j) [L'[j]] []).2;have hns:∀ v:Int,(Kk.get .int (da (L'.take j) []) (L'[j]'pt).2.1=some v\/(Kk.get .int (da (L'.take j) []) (L'[j]'pt).2.1=none/\v=((da (L'.take j) []).length:Int)+1))->bJ (L'.take j++ [L'[j]'pt]) []=bJ (L'.take j) []++ [aZ.gy (L'[j]'pt) v]:=λv q=>(M6 q).1;rw [<-ht] at hna hns;generalize L'[j]=x at*;rw [Dg] at pQ ⊢;generalize bJ (L'.take j) []=A at*;generalize da (L'.take j) []=m0 at*;rw [pQ,Tt (e:=noTy) A _ x hA];refine ⟨by omega,vP,by omega,vP,λ_ _=>?_⟩;refine cG.intro (λk=>(Kk.get .int m0 x.2.1=some k.1.1\/(Kk.get .int m0 x.2.1=none/\k.1.1=(m0.length:Int)+1))/\k.2.1=da (L'.take (j+1)) []) ?_ ?_
  .refine aq (λhg=>?_) (λhg=>?_)
   .have hg:Kk.get .int m0 x.2.1=none:=by simpa using hg
    exact λ_=>⟨by unfold aD;omega,by omega,vP,λ_=>⟨by omega,.inr ⟨hg,rfl⟩,by rw [hna,gg hg];rfl⟩⟩
   .obtain ⟨v,hv⟩:=gV.1 (show (Kk.get .int m0 x.2.1).isSome=true by simpa using hg);exact ⟨.inl (by rw [hv];rfl),by rw [hna,gf hv];rfl⟩
  rintro ⟨⟨v,_⟩,m1,_⟩ ⟨hv,OU⟩;simp only at hv OU ⊢;subst OU;refine cG.intro (λk=>k.2.1=A++(x.1,v,x.2.2)::L'.drop (j+1)) ⟨by omega,vP,SB _ _ _ _ hA⟩ ?_;rintro ⟨_,L2,_⟩ hL2;have hL2:L2=_:=hL2;subst hL2;have Qi:=hns v hv;have aaq:A++(x.1,v,x.2.2)::L'.drop (j+1)=bJ (L'.take (j+1)) []++L'.drop (j+1):=by
   rw [Qi,aL];rfl
  have b1:(x.1,v,x.2.2).1.length<=16:=b1;have b2:(x.1,v,x.2.2).2.2.2.2.1.length<=4096:=b2;have b3:(x.1,v,x.2.2).2.2.2.2.2.2.1.length<=8:=b3;have b4:∀ z∈(x.1,v,x.2.2).2.2.2.2.2.2.1,z.2.1.length<=200:=b4;have aj0:(A++(x.1,v,x.2.2)::L'.drop (j+1)).length=L'.length:=by rw [<-pQ];simp
  generalize ((x.1,v,x.2.2):aZ)=y at*;have hix:=Tt (e:=noTy) A (L'.drop (j+1)) y hA;have hse:=SB A (L'.drop (j+1)) y y hA;have apG:(A++y::L'.drop (j+1)).set (j:Int).toNat (y.1,y.2.1,y.2.2.1,y.2.2.2.1,y.2.2.2.2.1,y.2.2.2.2.2)=A++y::L'.drop (j+1):=hse;have apF:(A++y::L'.drop (j+1)).set (j:Int).toNat (y.1,y.2.1,y.2.2.1,y.2.2.2.1,y.2.2.2.2.1,y.2.2.2.2.2.1,y.2.2.2.2.2.2.1,y.2.2.2.2.2.2.2)=A++y::L'.drop (j+1):=hse;simp only [hix,hse,aj0];have anx:∀ Z,y.2.2.2.2.2.2.1=Z->(A++y::L'.drop (j+1)).set (j:Int).toNat (y.1,y.2.1,y.2.2.1,y.2.2.2.1,y.2.2.2.2.1,y.2.2.2.2.2.1,Z,y.2.2.2.2.2.2.2)=bJ (L'.take (j+1)) []++L'.drop (j+1):=by
   rintro Z rfl;exact apF.trans aaq
  refine ⟨by omega,vP,λ_=>⟨by omega,vP,λ_=>⟨by omega,vP,λ_=>⟨by omega,λ_=>⟨by omega,λ_=>⟨by omega,by omega,vP,by omega,vP,by omega,vP,by trivial,λ_=>?_⟩⟩⟩⟩⟩⟩;generalize hX:y.2.2.2.2.2.2.1=X at*;refine aM.intro (λi=>0<=i.1.1/\i.2.1=X) (λi=>X.length - i.1.1.toNat) ⟨bB _,rfl⟩ ?_;rintro ⟨⟨k,_⟩,X',_⟩ ⟨k0,kX⟩;simp only at k0 kX ⊢;subst kX;refine aq (λhk=>?_) (λhk=>?_)
  .have hk:k< (X'.length:Int):=of_decide_eq_true hk;have hv2:=b4 _ (tk (e:=cZ) k0 hk);rw [aer (e:=cZ) k0 hk];exact ⟨k0,hk,k0,hk,λ_=>⟨by trivial,by omega,λ_=>⟨k0,hk,k0,hk,by unfold aD;omega,⟨by omega,by trivial⟩,by omega⟩⟩⟩
  .exact ⟨by unfold aD;omega,⟨j+1,pt,by omega,anx _ rfl,by trivial⟩,by omega⟩
 .have hc:¬(j:Int)< L'.length:=of_decide_eq_false hc;obtain rfl:j=L'.length:=by omega
  rw [eK,List.drop_length,bd];exact ⟨cY _,hq⟩
def aaZ:Ct:=cD .str λa=>cD .str λb=>c0 λQ=>Q (.bool (fZ a b)) []
def RF (a b:(List (Ty.str).den)):dx:=λQ=>nq a b (oE a b (br ((aA a) !=(aA b)) (bc Q) (aJ (List.length a)->aM (λi ag=>br (decide (i.1.1< (aA a))) (IX i.1.1 a b Q ag) (Q nF [])) dE)))
theorem XE:cu 238 aaZ:=eQ<| jm λa=>jm λb=>gM λQ h=>by
 refine Wp.dC gJ cC ⟨[(5,⟨[(13,.int .i64)],[]⟩)],[]⟩ Tryz.f238 (RF a b) ?_;unfold RF oE dE nq IX bc dP iX nF ah aA aJ;intro _ _ _ _;refine aq (λh1=>?_) (λh1=>?_)
 .grind [xZ]
 .have hl:a.length=b.length:=by
   grind
  refine λ_=>aM.intro (λi=>0<=i.1.1/\i.1.1<=a.length/\fZ (a.drop i.1.1.toNat) (b.drop i.1.1.toNat)=fZ a b) (λi=>a.length - i.1.1.toNat) (by grind) ?_;rintro ⟨⟨i,_⟩,_⟩ ⟨h0,h2,h3⟩;refine aq (λhc=>?_) (λhc=>?_)
  .have hc:i< a.length:=by grind
   have zc:i< b.length:=by omega
   rw [dc (e:=.str) h0 hc,dc (e:=.str) h0 zc] at h3;simp only [fZ] at h3;refine ⟨h0,hc,λ_=>⟨h0,zc,λ_=>aq (λh4=>?_) (λh4=>?_)⟩⟩
   .grind
   .have h4:kT (aB .str a i) (aB .str b i)=true:=by grind
    grind [aD]
  grind [dj, fZ]
def Oc:Ct:=cD .str λa=>cD .str λb=>c0 λQ=>Q (.bool (fZ a b)) []
def ac4:=gJ.add XE
def Fh (a b:(List (Ty.str).den)):dx:=λQ=>nq a b (Q (.v (.c (.k (.bool (fZ a b))))) [])
theorem Kw:cu 223 Oc:=eQ<| jm λa=>jm λb=>gM λQ h=>by
 refine Wp.dC ac4 cC ⟨[],[]⟩ Tryz.f223 (Fh a b) ?_;unfold Fh nq aJ
 grind
def Hk:Ct:=cD .str λa=>cD .str λb=>c0 λQ=>Q (.bool (decide ((a.length:Int)>b.length)&& fZ (a.take b.length) b)) []
def ac3:=ac4.add Kw
def Bv (a b:(List (Ty.str).den)):dx:=λQ=>nq a b (oE a b (br (decide ((aA a)>(aA b))) (aJ (List.length b)->ah<=(aA b)/\(aA b)<=(aA a)/\Q (.v (.c (.k (.bool (fZ (List.take (ax (aA b)) a) b))))) []) (bc Q)))
theorem xM:cu 175 Hk:=eQ<| jm λa=>jm λb=>gM λQ h=>by
 refine Wp.dC ac3 cC ⟨[],[]⟩ Tryz.f175 (Bv a b) ?_;unfold Bv oE nq bc iX ah aA aJ;refine λ_ _ _ _=>aq (λhc=>λ_=>?_) (λhc=>?_)
 .grind
 grind
def aa5:Ct:=cS λx=>c0 λQ=>Q (.bool false) []
def ac2:=ac3.add xM
def RU (x:ByteArray):dx:=λQ=>iR x (Q (.v (.c (.k (.bool !kT x x)))) [])
theorem XQ:cu 170 aa5:=eQ<| ZA λx=>gM λQ h=>by
 refine Wp.dC ac2 cC ⟨[],[]⟩ Tryz.f170 (RU x) ?_;unfold RU iR;rw [gD.2 rfl]
 grind
def Ul:Ct:=cS λx=>cS λy=>c0 λQ=>Q (.int (fK x y)) []
def ac1:=ac2.add XQ
abbrev Iz (y0:ByteArray) (y1:ByteArray) (y2:SV->List HO->Prop):=du y0 (br (rG y1 y0) (oF y2) (br (!(rG y1 y0|| kT y1 y0)) (y2 (.v (.c (.k (.int .i64 1)))) []) (iQ y2)))
def LO (x y:ByteArray):dx:=λQ=>iR x (Iz y x Q)
theorem Ru:cu 123 Ul:=eQ<| ZA λx=>ZA λy=>gM λQ h=>by
 refine Wp.dC ac1 cC ⟨[],[]⟩ Tryz.f123 (LO x y) ?_;unfold LO Iz iQ oF iR du aR aJ;refine λ_ _=>aq (λh1=>?_) (λh1=>aq (λh2=>?_) (λh2=>?_))
 .have e:fK x y= -1:=if_pos h1
  grind
 .grind [fK, rG, kT]
 grind [fK, rG, kT]
def Um:Ct:=cD .str λa=>cD .str λb=>c0 λQ=>Q (.int (cmpL a b)) []
def ac0:=ac1.add Ru
abbrev iz (y0:List (Ty.str).den) (y1):=aB Ty.str y0 y1
def LP (a b:(List (Ty.str).den)):dx:=λQ=>nq a b (aJ (List.length a)->aM (λi ag=>br (decide (i.1.1< (aA a))) (0<=i.1.1/\i.1.1< (aA a)/\(Ty.ok Ty.str (iz a i.1.1)->aJ (List.length b)->br (decide (i.1.1≥(aA b))) (Q (.v (.c (.k (.int 
 .i64 1)))) []) (0<=i.1.1/\i.1.1< (aA b)/\(Ty.ok Ty.str (iz b i.1.1)->aD .i64 (fK (iz a i.1.1) (iz b i.1.1))->br (fK (iz a i.1.1) (iz b i.1.1) !=0) (Q (.v (.c (.k (.int .i64 (fK (iz a i.1.1) (iz b 
 i.1.1)))))) []) (dP i.1.1 ag))))) (oE a b (br (decide ((aA a)< (aA b))) (oF Q) (iQ Q)))) dE)
theorem Rv:cu 71 Um:=eQ<| jm λa=>jm λb=>gM λQ h=>by
 refine Wp.dC ac0 cC ⟨[(3,⟨[(11,.int .i64)],[]⟩)],[]⟩ Tryz.f71 (LP a b) ?_;unfold LP iz oE iQ oF dE nq dP aR ah aA aJ;refine λ_ _ _=>aM.intro (λi=>0<=i.1.1/\i.1.1<=a.length/\i.1.1<=b.length/\cmpL (a.drop i.1.1.toNat) (b.drop i.1.1.toNat)=cmpL a b) (λi=>a.length - i.1.1.toNat) ⟨by simp,by simp,by simp,by simp⟩ ?_;rintro ⟨⟨i,_⟩,_⟩ ⟨h0,h1,h2,h3⟩;simp only at h0 h1 h2 h3 ⊢;rw [<-h3] at h;refine aq (λha=>?_) (λha=>λ_ _=>?_)
 .have ha:i< (a.length:Int):=of_decide_eq_true ha;refine ⟨h0,ha,λ_ _=>aq (λhb=>?_) (λhb=>?_)⟩
  .have hb:i≥(b.length:Int):=of_decide_eq_true hb;rw [dc (e:=.str) h0 ha,dj (l:=b) (by omega)] at h;exact h
  .have hb:i< (b.length:Int):=by have:=of_decide_eq_false hb;omega
   rw [dc (e:=.str) h0 ha,dc (e:=.str) h0 hb,n5] at h h3;refine ⟨h0,hb,λ_ _=>aq (λhd=>?_) (λhd=>?_)⟩;rw [if_neg (by simpa using hd)] at h;exact h
   .rw [if_pos (by simpa using hd)] at h3;exact ⟨by unfold aD;omega,⟨by omega,by omega,by omega,h3⟩,by omega⟩
 .have ha:¬i< (a.length:Int):=of_decide_eq_false ha;rw [dj ha] at h;refine aq (λhb=>?_) (λhb=>?_)
  .have hb:=of_decide_eq_true hb;rw [dc (e:=.str) h0 (by omega)] at h;exact h
  .have hb:=of_decide_eq_false hb;rw [dj (l:=b) (by omega)] at h;exact h
def Oh:Ct:=cI λa=>cI λb=>cP<| cO λH Q=>match H with
 | [.cells 22 [.d (.pair (.sl .str) (.pair (.int .i64) (.pair (.int .i64) (.pair (.pair (.int .i64) (.pair (.int .i64) (.pair (.int .i64) .unit))) (.pair (.sl .u8) (.pair .str (.pair (.sl (.pair .str (.pair (.sl .u8) .unit))) (.pair .bool .unit)))))))) L]]=>(0<=a/\a< (L.length:Int))/\(0<=b/\b< (L.length:Int))/\Q (.int (cmpL (aB noTy L a).1 (aB noTy L b).1)) [.cells 22 [.d noTy L]]
 | _=>False
def acZ:=ac0.add Rv
abbrev gS (y0:List aZ) (y1:Int):=aB noTy y0 y1
def Fx (a b:Int) (L:List aZ):dx:=λQ=>cg a b (0<=a/\a< (aA L)/\(Ty.ok noTy (gS L a)->0<=b/\b< (aA L)/\(Ty.ok noTy (gS L b)->aD .i64 (cmpL (gS L a).1 (gS L b).1)->Q (.v (.c (.k (.int .i64 (cmpL (gS L a).1 (gS L b).1))))) 
 [.cells 22 [Cl.d noTy L]])))
theorem KE:cu 177 Oh:=eQ<| nG λa=>nG λb=>r5<| r6 λH Q h=>by
 split at h;rotate_left;cases h;rename_i L;refine Wp.dC acZ cC ⟨[],[]⟩ Tryz.f177 (Fx a b L) ?_;unfold Fx gS cg aA
 grind
def DL:Ct
 | [.v (.c cx),.v (.c (.k (.int .i64 a))),.v (.c (.k (.int .i64 b))),.v (.c (.fn 177 [.p 0 0]))],[.cells 22 [.d (.pair (.sl .str) (.pair (.int .i64) (.pair (.int .i64) (.pair (.pair (.int .i64) (.pair (.int .i64) (.pair (.int .i64) .unit))) (.pair (.sl .u8) (.pair .str (.pair (.sl (.pair .str (.pair (.sl .u8) .unit))) (.pair .bool .unit)))))))) L]],Q=>(match (Ty.sl (Ty.int .i64)).of [cx] with
  | some (x,[])=>nB L x/\(0<=a/\a<=x.length/\b<=x.length)/\x.length<=100000/\Q .tO [.cells 22 [.d noTy L]]
  | _=>False)
 | _,_,_=>False
def acY:=acZ.add KE
abbrev SM (y0) (y1:List ((Ty.int .i64)).den):=aD .i64 (y0 - 1)/\aD .i64 (y0 - 1)/\0<=y0 - 1/\y0 - 1< (aA y1)/\(Ty.ok bo (aB bo y1 (y0 - 1))->0<=y0/\y0< (aA y1)/\(Ty.ok bo (aB bo y1 y0)->0<=y0/\y0< (aA y1)/\False))
abbrev vo (y0:SV->List HO->Prop) (y1:List aZ):=y0 (SV.cH []) [.cells 22 [Cl.d noTy y1]]
abbrev sE (y0:List aZ) (y1:List ((Ty.int .i64)).den) (y2:Int):=aB noTy y0 (aB bo y1 y2)
abbrev Cv (y0:List ((Ty.int .i64)).den) (y1:Int) (y2:List aZ):=0<=aB bo y0 y1/\aB bo y0 y1< (aA y2)
def Fw (x:(List ((Ty.int .i64)).den)) (a b:Int) (L:List aZ):dx:=λQ=>iB x (cg a b (cF a (aM (λi ag=>br (decide (i.1.1< b)) (aM (λbE ag_1=>br (decide (bE.1.1>a)) (0<=bE.1.1/\bE.1.1< (aA x)/\(yD x bE.1.1 (Ty.ok bo (aB bo x (bE.1.1 - 1))-> 
 (Cv x bE.1.1 L)/\(0<=aB bo x (bE.1.1 - 1)/\aB bo x (bE.1.1 - 1)< (aA L))/\L=L/\(aD .i64 (cmpL (sE L x bE.1.1).1 (aB noTy L (aB bo x (bE.1.1 - 1))).1)->br (decide (cmpL (sE L x bE.1.1).1 (aB noTy L 
 (aB bo x (bE.1.1 - 1))).1< 0)) (SM bE.1.1 x) (dP i.1.1 ag))))) (dP i.1.1 ag)) i) (vo Q L)) ((a+1,()),()))))
theorem KD:cu 239 DL:=by
 intro args H Q h;unfold DL at h;split at h;rotate_left;cases h;rename_i cx a b L;split at h;rotate_left;cases h;rename_i x hx;refine Wp.said (args':=[.c (.d (Ty.int .i64) x),.int a,.int b,.c (.fn 177 [.p 0 0])]) (λE g=>bm.cr (dH hx) (bm.cr (λ_ h=>h) (bm.cr (λ_ h=>h) (bm.cr (λ_ h=>h) (λ_ h=>h))))) ?_;clear hx;refine Wp.dC acY cC ⟨[(2,⟨[(8,.int .i64)],[]⟩),(5,⟨[(9,.int .i64)],[]⟩)],[]⟩ Tryz.f239 (Fw x a b L) (ro:=[177]) ?_;unfold Fw Cv sE vo yD iB cg cF SM dP aA bo;obtain ⟨hs,⟨a0,a1,b1⟩,hl,h⟩:=h;refine λ_ _ _=>⟨by unfold aD;omega,aM.intro (λi=>a+1<=i.1.1) (λi=>(b - i.1.1).toNat) (bB _) ?_⟩;rintro ⟨⟨i,_⟩,_⟩ hi;simp only at hi ⊢;refine aq (λhc=>?_) (λ_=>h);have hc:i< b:=of_decide_eq_true hc;refine aM.intro (λj=>j.1.1=i) (λj=>0) rfl ?_;rintro ⟨⟨j,_⟩,_⟩ hj;simp only at hj ⊢;have p1:=hs.at (i:=j) (by omega) (by omega);have p2:=hs.at (i:=j - 1) (by omega) (by omega);have p3:=hs.ord (j - 1) j (by omega) (by omega) (by omega);refine aq (λ_=>⟨by omega,by omega,λ_=>⟨by unfold aD;omega,by omega,by omega,λ_=>⟨p1,p2,by trivial,λ_=>aq (λq=>absurd (of_decide_eq_true q) p3) (λ_=>⟨by unfold aD;omega,by omega,by omega⟩)⟩⟩⟩) (λ_=>⟨by unfold aD;omega,by omega,by omega⟩)
def mG (n:Nat):Ct
 | [.v (.c cx),.v (.c (.k (.int .i64 a))),.v (.c (.k (.int .i64 m))),.v (.c (.k (.int .i64 b))),.v (.c (.fn 177 [.p 0 0]))],[.cells 22 [.d (.pair (.sl .str) (.pair (.int .i64) (.pair (.int .i64) (.pair (.pair (.int .i64) (.pair (.int .i64) (.pair (.int .i64) .unit))) (.pair (.sl .u8) (.pair .str (.pair (.sl (.pair .str (.pair (.sl .u8) .unit))) (.pair .bool .unit)))))))) L]],Q=>(match (Ty.sl (Ty.int .i64)).of [cx] with
  | some (x,[])=>nB L x/\(0<=a/\a< m/\m< b/\b<=x.length)/\b - a<=n/\x.length<=100000/\Q .tO [.cells 22 [.d noTy L]]
  | _=>False)
 | _,_,_=>False
def acX (n:Nat):Vx:= {P:=bQ,ct:=[(240,(mG n)),(239,DL),(177,Oh),(71,Um),(123,Ul),(170,aa5),(175,Hk),(223,Oc),(238,aaZ)],ty:=cC,hold:=[],ro:=[177,239,240]}
theorem Xg (n:Nat) (hn:cu 240 (mG n)):gO Inv bQ (acX n).ct:=gO.cons hn (gO.cons KD (by grind [gO.cons, KE, Rv, Ru, XQ, xM, Kw, XE, gO.nil]))
abbrev aeC (y0:Int) (y1:Int) (y2:Int) (y3) (y4:List aZ) (y5:List ((Ty.int .i64)).den) (y6:Nat) (y7:SV->List HO->Prop):=br (decide (iO (qd (y0+y1))+y2 - y3< y1)) (nB y4 y5/\(0<=iO (qd (y0+y1))/\iO (qd (y0+y1))< iO (qd (y0+y1))+y2 - y3/\iO (qd (y0+y1))+y2 - y3< y1/\y1<=(aA y5))/\y1 - iO (qd (y0+y1))<=(↑y6:Int)/\List.length y5<=100000/\y4=y4/\y7 (SV.cH []) [.cells 22 [Cl.d noTy y4]]) (y7 (SV.cH []) [.cells 22 [Cl.d noTy y4]])
abbrev Zk (y0:Int) (y1) (y2:Int) (y3:List aZ) (y4:List ((Ty.int .i64)).den) (y5:Nat) (y6:Int) (y7:SV->List HO->Prop):=br (decide (y0< y1)) (br (decide (y1< iO (qd (y0+y2)))) (nB y3 y4/\(0<=y0/\y0< y1/\y1< iO (qd (y0+y2))/\iO (qd (y0+y2))<=(aA y4))/\iO (qd (y0+y2)) - y0<=(↑y5:Int)/\List.length y4<=100000/\y3=y3/\br (decide (iO (qd (y0+y2))< iO (qd (y0+y2))+y6 - y1)) (aeC y0 y2 y6 y1 y3 y4 y5 y7) (y7 (SV.cH []) [.cells 22 [Cl.d noTy y3]])) (br (decide (iO (qd (y0+y2))< iO (qd (y0+y2))+y6 - y1)) (aeC y0 y2 y6 y1 y3 y4 y5 y7) (y7 (SV.cH []) [.cells 22 [Cl.d noTy y3]]))) (br (decide (iO (qd (y0+y2))< iO (qd (y0+y2))+y6 - y1)) (aeC y0 y2 y6 y1 y3 y4 y5 y7) (y7 (SV.cH []) [.cells 22 [Cl.d noTy y3]]))
abbrev iZ (y0:Int) (y1:Int):=qd (y0+y1)
abbrev sW {A3:Type} (y0) (y1) (y2:_->Prop) (y3:A3):=aD .i64 (iO (iZ y0 y1)+1)/\y2 ((iO (iZ y0 y1)+1,y3),())
abbrev kA (y0:Int) (y1:Int):=iO (iZ y0 y1)
abbrev qV (y0:Int) (y1:Int) (R:Prop):=aD .u64 (iZ y0 y1)->aD .i64 (kA y0 y1)->R
abbrev qU (y0:Int) (y1:Int) (R:Prop):=aD .u64 (IntKind.wrap .u64 (y0+y1))->ah<=aV/\R
abbrev vw (y0:Int) (y1:Int) (y2:Int) (y3) (y4):=iO (iZ y0 y1)+y2 - 1 - iO (iZ y3 y4)
abbrev yB (y0) (y1) (y2:List ((Ty.int .i64)).den) (R:Prop):=0<=iO (iZ y0 y1)/\iO (iZ y0 y1)< (aA y2)/\R
abbrev IM (y0:List ((Ty.int .i64)).den) (y1) (y2) (y3:List aZ):=0<=aB bo y0 (kA y1 y2)/\aB bo y0 (kA y1 y2)< (aA y3)
abbrev vp (y0:List aZ) (y1:List ((Ty.int .i64)).den) (y2) (y3):=aB noTy y0 (aB bo y1 (kA y2 y3))
abbrev sJ (y0:_->Prop) (y1) (y2):=y0 ((y1,iO (iZ y1 y2),()),())
def Fu (n:Nat) (x:(List ((Ty.int .i64)).den)) (a m b:Int) (L:List aZ):dx:=λQ=>iB x (cz a m b (aD .i64 (m - a)/\br (m - a==1) (aM (λi ag=>br (decide (i.1.1< i.1.2.1)) (aD .i64 (i.1.1+i.1.2.1)/\(qU i.1.1 i.1.2.1 (qV i.1.1 i.1.2.1 (yB i.1.1 i.1.2.1 x (Ty.ok bo 
 (aB bo x (kA i.1.1 i.1.2.1))->0<=a/\a< (aA x)/\(Ty.ok bo (aB bo x a)->(IM x i.1.1 i.1.2.1 L)/\(Cv x a L)/\L=L/\(aD .i64 (cmpL (vp L x i.1.1 i.1.2.1).1 (sE L x a).1)->br (decide (cmpL (vp L x 
 i.1.1 i.1.2.1).1 (sE L x a).1< 0)) (sW i.1.1 i.1.2.1 ag i.1.2) (sJ ag i.1.1 i.1.2.1)))))))) (aM (λbE ag=>aD .i64 (i.1.1 - 1)/\br (decide (bE.1.1< i.1.1 - 1)) (cF bE.1.1 (cF bE.1.1 (0<=bE.1.1+1/\bE.1.1 
 +1< (aA x)/\(Ty.ok bo (aB bo x (bE.1.1+1))->0<=bE.1.1/\bE.1.1< (aA x)/\(Ty.ok bo (aB bo x bE.1.1)->0<=bE.1.1/\bE.1.1< (aA x)/\False))))) (vo Q L)) ((a,()),()))) ((m,b,()),())) (aD .i64 (b - m) 
 /\br (b - m==1) (aM (λi ag=>br (decide (i.1.1< i.1.2.1)) (aD .i64 (i.1.1+i.1.2.1)/\(qU i.1.1 i.1.2.1 (qV i.1.1 i.1.2.1 (0<=m/\m< (aA x)/\(Ty.ok bo (aB bo x m)->yB i.1.1 i.1.2.1 x (Ty.ok bo (aB bo 
 x (kA i.1.1 i.1.2.1))->(Cv x m L)/\(IM x i.1.1 i.1.2.1 L)/\L=L/\(aD .i64 (cmpL (sE L x m).1 (vp L x i.1.1 i.1.2.1).1)->br (!decide (cmpL (sE L x m).1 (vp L x i.1.1 i.1.2.1).1< 0)) (sW i.1.1 i.1.2.1 
 ag i.1.2) (sJ ag i.1.1 i.1.2.1)))))))) (aM (λbE ag=>br (decide (bE.1.1>i.1.1)) (SM bE.1.1 x) (vo Q L)) ((m,()),()))) ((a,m,()),())) (aD .i64 (a+b)/\(qU a b (qV a b (aD .i64 (iO (iZ a b)+m)/\ 
 cG (λk=>br (decide (m>iO (iZ a b))) (aD .i64 (iO (iZ a b)+m - b)/\k ((iO (iZ a b)+m - b,iO (iZ a b),()),())) (k ((a,m,()),()))) λi=>aD .i64 (iO (iZ a b)+m - 1)/\aM (λi ag=>br 
 (decide (i.1.1< i.1.2.1)) (aD .i64 (i.1.1+i.1.2.1)/\(qU i.1.1 i.1.2.1 (qV i.1.1 i.1.2.1 (aD .i64 (vw a b m i.1.1 i.1.2.1)/\0<=iO (iZ a b)+m - 1 - iO (iZ i.1.1 i.1.2.1)/\iO (iZ a b)+m - 1 - iO (iZ 
 i.1.1 i.1.2.1)< (aA x)/\(Ty.ok bo (aB bo x (vw a b m i.1.1 i.1.2.1))->yB i.1.1 i.1.2.1 x (Ty.ok bo (aB bo x (kA i.1.1 i.1.2.1))->(0<=aB bo x (vw a b m i.1.1 i.1.2.1)/\aB bo x (vw a b m i.1.1 
 i.1.2.1)< (aA L))/\(IM x i.1.1 i.1.2.1 L)/\L=L/\(aD .i64 (cmpL (aB noTy L (aB bo x (vw a b m i.1.1 i.1.2.1))).1 (vp L x i.1.1 i.1.2.1).1)->br (!decide (cmpL (aB noTy L (aB bo x (vw a b m i.1.1 i.1.2.1))).1 
 (vp L x i.1.1 i.1.2.1).1< 0)) (sW i.1.1 i.1.2.1 ag i.1.2) (sJ ag i.1.1 i.1.2.1)))))))) (aD .i64 (iO (iZ a b)+m - i.1.1)/\br (decide (i.1.1< m)) (br (decide (m< iO (iZ a b)+m - i.1.1)) False (Zk a i.1.1 b L 
 x n m Q)) (Zk a i.1.1 b L x n m Q))) i)))))))
theorem OZ (n:Nat) (hn:cu 240 (mG n)):∀ args H Q,mG (n+1) args H Q->Wp Inv bQ 240 args H Q:=by
 intro args H Q h;unfold mG at h;split at h;rotate_left;cases h;rename_i cx a m b L;split at h;rotate_left;cases h;rename_i x hx;refine Wp.said (args':=[.c (.d (Ty.int .i64) x),.int a,.int m,.int b,.c (.fn 177 [.p 0 0])]) (λE g=>bm.cr (dH hx) (bm.cr (λ_ h=>h) (bm.cr (λ_ h=>h) (bm.cr (λ_ h=>h) (bm.cr (λ_ h=>h) (λ_ h=>h)))))) ?_;clear hx;refine Wp.JL (X:=(acX n)) (Xg n hn) ⟨[(4,⟨[(10,.int .i64),(11,.int .i64)],[]⟩),(10,⟨[(13,.int .i64)],[]⟩),(16,⟨[(14,.int .i64),(15,.int .i64)],[]⟩),(22,⟨[(17,.int .i64)],[]⟩),(34,⟨[(20,.int .i64),(21,.int .i64)],[]⟩)],[(33,⟨[(20,.int .i64),(21,.int .i64)],[]⟩)]⟩ (fn:=Tryz.f240) (V:=Fu n x a m b L) (by kernel_rfl) (λ_=>by kernel_rfl) ?_;unfold Fu Cv sE vo sJ vp IM yB vw qU qV kA iB sW cF SM iZ Zk cz aeC ah aV aA qd bo iO;obtain ⟨hs,⟨a0,a1,a2,a3⟩,hn,hl,h⟩:=h;have M:=λz:Int=>PY (n:=z);refine λ_ _ _ _=>⟨by unfold aD;omega,aq (λhc=>?_) (λhc=>⟨by unfold aD;omega,aq (λhd=>?_) (λhd=>?_)⟩)⟩
 .have hc:m - a=1:=eq_of_beq hc;refine aM.intro (λi=>i.1.1=m/\m<=i.1.2.1/\i.1.2.1<=b) (λi=>(i.1.2.1 - m).toNat) ⟨rfl,by show m<=b;omega,bB _⟩ ?_;rintro ⟨⟨i,j,_⟩,_⟩ ⟨h1,h2,h3⟩;simp only at h1 h2 h3 ⊢;subst h1;refine aq (λhq=>?_) (λhq=>?_)
  .have hq:i< j:=of_decide_eq_true hq;refine ⟨by unfold aD;omega,λ_=>⟨by decide,λ_ _=>?_⟩⟩;rw [M (i+j) (by omega) (by omega)];have p1:=hs.at (i:=(i+j) / 2) (by omega) (by omega);have p2:=hs.at (i:=a) (by omega) (by omega);have p3:=hs.ord a ((i+j) / 2) (by omega) (by omega) (by omega);exact ⟨by omega,by omega,λ_=>⟨by omega,by omega,λ_=>⟨p1,p2,by trivial,λ_=>aq (λq=>absurd (of_decide_eq_true q) p3) (λ_=>⟨⟨by trivial,by omega,by omega⟩,by omega⟩)⟩⟩⟩
  .refine aM.intro (λk=>k.1.1=a) (λ_=>0) rfl ?_;rintro ⟨⟨k,_⟩,_⟩ hk;simp only at hk ⊢;subst hk;exact ⟨by unfold aD;omega,aq (λq=>by have:=of_decide_eq_true q;omega) (λ_=>h)⟩
 .have hd:b - m=1:=eq_of_beq hd;refine aM.intro (λi=>i.1.2.1=m/\a<=i.1.1/\i.1.1<=m) (λi=>(m - i.1.1).toNat) ⟨rfl,bB _,by show a<=m;omega⟩ ?_;rintro ⟨⟨i,j,_⟩,_⟩ ⟨h1,h2,h3⟩;simp only at h1 h2 h3 ⊢;subst h1;refine aq (λhq=>?_) (λhq=>?_)
  .have hq:i< j:=of_decide_eq_true hq;refine ⟨by unfold aD;omega,λ_=>⟨by decide,λ_ _=>?_⟩⟩;rw [M (i+j) (by omega) (by omega)];have p1:=hs.at (i:=(i+j) / 2) (by omega) (by omega);have p2:=hs.at (i:=j) (by omega) (by omega);have p3:=hs.ord ((i+j) / 2) j (by omega) (by omega) (by omega);refine ⟨by omega,by omega,λ_=>⟨by omega,by omega,λ_=>⟨p2,p1,by trivial,λ_=>aq (λ_=>⟨by unfold aD;omega,⟨by trivial,by omega,by omega⟩,by omega⟩) (λq=>?_)⟩⟩⟩;rw [decide_eq_false p3] at q;cases q
  .have hq:¬i< j:=of_decide_eq_false hq;obtain rfl:i=j:=by omega
   refine aM.intro (λk=>k.1.1=i) (λ_=>0) rfl ?_;rintro ⟨⟨k,_⟩,_⟩ hk;simp only at hk ⊢;subst hk;exact aq (λq=>by have:=of_decide_eq_true q;omega) (λ_=>h)
 have hc:¬m - a=1:=by simpa using hc
 have hd:¬b - m=1:=by simpa using hd
 refine ⟨by unfold aD;omega,λ_=>⟨by decide,λ_ _=>?_⟩⟩;rw [M (a+b) (by omega) (by omega)];obtain ⟨d,hdd⟩:∃ d,(a+b) / 2=d:=⟨_,rfl⟩;have hdr:a< d/\d< b:=by omega
 rw [hdd];refine ⟨by unfold aD;omega,cG.intro (λk=>(d< m/\k.1.1=d+m - b/\k.1.2.1=d)\/(m<=d/\k.1.1=a/\k.1.2.1=m)) (aq (λhq=>⟨by unfold aD;omega,.inl ⟨of_decide_eq_true hq,rfl,rfl⟩⟩) (λhq=>.inr ⟨by have:=of_decide_eq_false hq;omega,rfl,rfl⟩)) ?_⟩;rintro ⟨⟨s0,r0,_⟩,_⟩ hk;simp only at hk ⊢;have hr:r0=min d m/\a<=s0/\s0<=r0:=by omega
 refine ⟨by unfold aD;omega,aM.intro (λi=>i.1.2.1=r0/\s0<=i.1.1/\i.1.1<=r0) (λi=>(r0 - i.1.1).toNat) ⟨rfl,bB _,hr.2.2⟩ ?_⟩;rintro ⟨⟨s,r,_⟩,_⟩ ⟨h1,h2,h3⟩;simp only at h1 h2 h3 ⊢;subst h1;refine aq (λhq=>?_) (λhq=>?_)
 .have hq:s< r:=of_decide_eq_true hq;refine ⟨by unfold aD;omega,λ_=>⟨by decide,λ_ _=>?_⟩⟩;rw [M (s+r) (by omega) (by omega)];have p1:=hs.at (i:=(s+r) / 2) (by omega) (by omega);have p2:=hs.at (i:=d+m - 1 - (s+r) / 2) (by omega) (by omega);have p3:=hs.ord ((s+r) / 2) (d+m - 1 - (s+r) / 2) (by omega) (by omega) (by omega);refine ⟨by unfold aD;omega,by omega,by omega,λ_=>⟨by omega,by omega,λ_=>⟨p2,p1,by trivial,λ_=>aq (λ_=>⟨by unfold aD;omega,⟨by trivial,by omega,by omega⟩,by omega⟩) (λq=>?_)⟩⟩⟩;rw [decide_eq_false p3] at q;cases q
 .have hq:¬s< r:=of_decide_eq_false hq;obtain rfl:s=r:=by omega
  have go1:∀ hh:s< d,br (decide (a< s)) (br (decide (s< d)) True True) True:=λ_=>aq (λ_=>aq (λ_=>trivial) (λ_=>trivial)) (λ_=>trivial);refine ⟨by unfold aD;omega,?_⟩
  repeat' (first| exact h| exact hs| exact rfl| refine aq (λq=>?_) (λq=>?_)| apply And.intro| intro _)
  all_goals (simp only [decide_eq_true_eq,decide_eq_false_iff_not] at*)
  all_goals omega
theorem KC:∀ (n:Nat) args H Q,mG n args H Q->Wp Inv bQ 240 args H Q
 | 0=>by
  intro args H Q h;unfold mG at h;split at h
  .split at h
   omega;cases h
  .cases h
 | n+1=>OZ n (KC n)
def WO:Ct:=mG 100000
theorem U0:cu 240 WO:=KC 100000
def Og:Ct
 | [.v (.c cx),.v (.c (.k (.int .i64 m))),.v (.c (.fn 177 [.p 0 0]))],[.cells 22 [.d (.pair (.sl .str) (.pair (.int .i64) (.pair (.int .i64) (.pair (.pair (.int .i64) (.pair (.int .i64) (.pair (.int .i64) .unit))) (.pair (.sl .u8) (.pair .str (.pair (.sl (.pair .str (.pair (.sl .u8) .unit))) (.pair .bool .unit)))))))) L]],Q=>(match (Ty.sl (Ty.int .i64)).of [cx] with
  | some (x,[])=>nB L x/\m=x.length/\x.length<=100000/\Q .tO [.cells 22 [.d noTy L]]
  | _=>False)
 | _,_,_=>False
def acW:=(acY.add KD).add U0
abbrev PA (y0:List aZ) (y1:List ((Ty.int .i64)).den) (y2) (y3) (y4:Int) (R:Prop):=nB y0 y1/\(0<=y2/\y2< y2+y3/\y2+y3< y4/\y4<=(aA y1))/\y4 - y2<=(↑(100000:Nat):Int)/\List.length y1<=100000/\y0=y0/\R
def Fv (x:(List ((Ty.int .i64)).den)) (m:Int) (L:List aZ):dx:=λQ=>iB x (aD .i64 m->aM (λi ag=>br (decide (i.1.2.1<=m)) (nB L x/\(0<=i.1.1/\i.1.1<=(aA x)/\i.1.2.1<=(aA x))/\List.length x<=100000/\L=L/\aD .i64 (i.1.2.1+20)/\ag ((i.1.2.1,i.1.2.1+20, 
 ()),())) (nB L x/\(0<=i.1.1/\i.1.1<=(aA x)/\m<=(aA x))/\List.length x<=100000/\L=L/\aM (λi ag=>br (decide (i.1.1< m)) (aD .i64 (dw*i.1.1)/\aM (λbE ag_1=>br (decide (bE.1.2.1<=m)) (aD .i64 
 (bE.1.1+i.1.1)/\PA L x bE.1.1 i.1.1 bE.1.2.1 (aD .i64 (dw*i.1.1)/\aD .i64 (bE.1.2.1+2*i.1.1)/\ag_1 ((bE.1.2.1,bE.1.2.1+2*i.1.1,()),()))) (aD .i64 (bE.1.1+i.1.1)/\br (decide (bE.1.1+i.1.1< m)) 
 (PA L x bE.1.1 i.1.1 m (aD .i64 (i.1.1*2)/\ag ((i.1.1*2,()),()))) (aD .i64 (i.1.1*2)/\ag ((i.1.1*2,()),())))) ((ah,dw*i.1.1,()),())) (vo Q L)) (((20:Int),()),()))) ((ah,(20:Int),()),()))
theorem XZ:cu 224 Og:=by
 intro args H Q h;unfold Og at h;split at h;rotate_left;cases h;rename_i cx m L;split at h;rotate_left;cases h;rename_i x hx;refine Wp.said (args':=[.c (.d (Ty.int .i64) x),.int m,.c (.fn 177 [.p 0 0])]) (λE g=>bm.cr (dH hx) (bm.cr (λ_ h=>h) (bm.cr (λ_ h=>h) (λ_ h=>h)))) ?_;clear hx;refine Wp.dC acW cC ⟨[(3,⟨[(7,.int .i64),(8,.int .i64)],[]⟩),(8,⟨[(6,.int .i64)],[]⟩),(10,⟨[(7,.int .i64),(8,.int .i64)],[]⟩)],[]⟩ Tryz.f224 (Fv x m L) (ro:=[177,239,240]) ?_;unfold Fv vo PA iB ah dw aA;obtain ⟨hs,rfl,hl,h⟩:=h;refine λ_ _=>aM.intro (λi=>0<=i.1.1/\i.1.1<=x.length/\i.1.2.1=i.1.1+20) (λi=>(x.length - i.1.1).toNat) ⟨bB _,by show (0:Int)<=_;omega,rfl⟩ ?_;rintro ⟨⟨a,b,_⟩,_⟩ ⟨h1,h2,h3⟩;simp only at h1 h2 h3 ⊢;refine aq (λhc=>?_) (λhc=>?_)
 .have hc:=of_decide_eq_true hc;exact ⟨hs,⟨by omega,by omega,by omega⟩,hl,by trivial,by unfold aD;omega,⟨by omega,by omega,by trivial⟩,by omega⟩
 refine ⟨hs,⟨by omega,by omega,by omega⟩,hl,by trivial,?_⟩;refine aM.intro (λi=>20<=i.1.1/\i.1.1<=2*(x.length:Int)+20) (λi=>(x.length - i.1.1).toNat) ⟨bB _,by show (20:Int)<=_;omega⟩ ?_;rintro ⟨⟨z,_⟩,_⟩ ⟨h1,h2⟩;simp only at h1 h2 ⊢;refine aq (λhc=>?_) (λ_=>h);have hc:=of_decide_eq_true hc;refine ⟨by unfold aD;omega,aM.intro (λi=>0<=i.1.1/\i.1.1<=x.length/\i.1.2.1=i.1.1+2*z) (λi=>(x.length - i.1.1).toNat) ⟨bB _,by show (0:Int)<=_;omega,by show 2*z=0+2*z;omega⟩ ?_⟩;rintro ⟨⟨a,b,_⟩,_⟩ ⟨k1,k2,k3⟩;simp only at k1 k2 k3 ⊢;refine aq (λhd=>?_) (λhd=>⟨by unfold aD;omega,aq (λhe=>?_) (λhe=>?_)⟩)
 .have hd:=of_decide_eq_true hd;exact ⟨by unfold aD;omega,hs,⟨by omega,by omega,by omega,by omega⟩,by omega,hl,by trivial,by unfold aD;omega,by unfold aD;omega,⟨by omega,by omega,by trivial⟩,by omega⟩
 .have he:=of_decide_eq_true he;exact ⟨hs,⟨by omega,by omega,by omega,by omega⟩,by omega,hl,by trivial,by unfold aD;omega,⟨by omega,by omega⟩,by omega⟩
 .exact ⟨by unfold aD;omega,⟨by omega,by omega⟩,by omega⟩
def Ho:Ct
 | [.v (.c cx),.v (.c (.fn 177 [.p 0 0]))],[.cells 22 [.d (.pair (.sl .str) (.pair (.int .i64) (.pair (.int .i64) (.pair (.pair (.int .i64) (.pair (.int .i64) (.pair (.int .i64) .unit))) (.pair (.sl .u8) (.pair .str (.pair (.sl (.pair .str (.pair (.sl .u8) .unit))) (.pair .bool .unit)))))))) L]],Q=>(match (Ty.sl (Ty.int .i64)).of [cx] with
  | some (x,[])=>nB L x/\x.length<=100000/\Q .tO [.cells 22 [.d noTy L]]
  | _=>False)
 | _,_,_=>False
def alK:=acW.add XZ
def BD (x:(List ((Ty.int .i64)).den)) (L:List aZ):dx:=λQ=>iB x (aJ (List.length x)->nB L x/\(aA x)=(aA x)/\List.length x<=100000/\Q (SV.cH []) [.cells 22 [Cl.d noTy L]])
theorem U1:cu 176 Ho:=by
 intro args H Q h;unfold Ho at h;split at h;rotate_left;cases h;rename_i cx L;split at h;rotate_left;cases h;rename_i x hx;refine Wp.said (args':=[.c (.d (Ty.int .i64) x),.c (.fn 177 [.p 0 0])]) (λE g=>bm.cr (dH hx) (bm.cr (λ_ h=>h) (λ_ h=>h))) ?_;clear hx;refine Wp.dC alK cC ⟨[],[]⟩ Tryz.f176 (BD x L) (ro:=[177,239,240]) ?_;unfold BD iB aA aJ
 grind
def abc:Ct:=cD noTy λl=>cD .str λp=>c0 λQ=>(l.length<=1100/\p.length<=1000/\l.Pairwise λa b=>cmpL a.1 b.1< 0)/\Q (.c (.d (.int .i64) (bY p l 0))) []
def alJ:=(gJ.add xM).add U1
def R5 (l:(List (noTy).den)) (p:(List (Ty.str).den)):dx:=λQ=>dG l (aJ (List.length p)->gE l (aM (λi ag=>br (eH i.1.1 l) (dz i.1.1 l (rJ l i.1.1 (aJ (List.length p)->aD .i64 ((aA p)+1)/\br ((gR l i.1.1)==(aA p)+1) (br (decide ((gR l i.1.1) 
 >(aA p))&& fZ (List.take (List.length p) (cn l i.1.1).1) p) ((List.length i.1.2.1+List.length [i.1.1])*8<=ck/\List.length i.1.2.1+List.length [i.1.1]<=9223372036854775807/\cF i.1.1 (ag ((i.1.1+1,i.1.2.1++ 
 [i.1.1],()),()))) (cF i.1.1 (ag ((i.1.1+1,i.1.2),())))) (cF i.1.1 (ag ((i.1.1+1,i.1.2),())))))) (nB l i.1.2.1/\List.length i.1.2.1<=100000/\Q fh [HO.held (3:TypeId) bo i.1.2.1])) ((ah,[],()),())))
theorem aiH:cu 129 abc:=eQ<| jm λl=>jm λp=>gM λQ h=>by
 refine Wp.kC [some (.sl (.int .i64))] [0] ?_;refine Wp.dC alJ cC ⟨[(4,⟨[(10,.int .i64),(5,.own 3 (.int .i64))],[]⟩)],[]⟩ Tryz.f129 (R5 l p) (hold:=[176]) ?_;unfold R5 gE fh eH dz cF rJ cn dG gR ck ah aA aJ bo;obtain ⟨⟨hl,hp,hs⟩,h⟩:=h;refine λ_ _ _=>aM.intro (λi=>0<=i.1.1/\i.1.1<=l.length/\i.1.2.1++bY p (l.drop i.1.1.toNat) i.1.1=bY p l 0) (λi=>l.length - i.1.1.toNat) ⟨by simp,by simp,by simp⟩ ?_;rintro ⟨⟨i,o,_⟩,_⟩ ⟨h0,h1,h2⟩;simp only at h0 h1 h2 ⊢;have pQ:o.length<=1100:=by
  have e1:=congrArg List.length h2;have e2:=kF p (L:=l) (k:=0);rw [af] at e1;omega
 refine aq (λhc=>?_) (λhc=>?_)
 .have hc:=of_decide_eq_true hc;rw [ixR (e:=noTy) h0 hc,pr] at h2;generalize aB noTy l i=x at*;have no:AH p x=false->(0<=i+1/\i+1<=(l.length:Int)/\o++bY p (l.drop (i+1).toNat) (i+1)=bY p l 0)/\l.length - (i+1).toNat< l.length - i.toNat:=λe=>by
   rw [e] at h2;exact ⟨⟨by omega,by omega,h2⟩,by omega⟩
  refine ⟨h0,hc,λ_ _ _=>⟨by unfold aD;omega,aq (λe1=>aq (λe2=>?_) (λe2=>?_)) (λe1=>?_)⟩⟩
  .have e:AH p x=true:=by unfold AH;rw [e1,e2];rfl
   rw [e,if_pos rfl] at h2
   grind [aD]
  .exact ⟨by unfold aD;omega,no (by unfold AH;rw [e1,e2];rfl)⟩
  .exact ⟨by unfold aD;omega,no (by unfold AH;rw [e1];rfl)⟩
 .have hc:=of_decide_eq_false hc;rw [dj hc] at h2;have h2:o=bY p l 0:=by rw [<-h2];simp [bY]
  subst h2;exact ⟨ZX hs p,by omega,⟨cY _,h⟩⟩
def T9:Ct:=cD noTy λl=>cI λi=>c0 λQ=>(0<=i/\i< (l.length:Int))/\l.length<=1100/\Q (.int (oM l (aB noTy l i).2.1:Nat)) []
def Lp (l:(List (noTy).den)) (i:Int):dx:=λQ=>dG l (aD .i64 i->br (cV i) (iQ Q) (gE l (br (decide (i≥(aA l))) (iQ Q) (gE l (aM (λbE ag=>br (eH bE.1.1 l) (dz bE.1.1 l (dY l bE.1.1 (0<=i/\i< (aA l)/\(Ty.ok noTy (aB 
 noTy l i)->br ((cn l bE.1.1).2.1==(aB noTy l i).2.1) (cF bE.1.2.1 (cF bE.1.1 (ag ((bE.1.1+1,bE.1.2.1+1,()),())))) (cF bE.1.1 (ag ((bE.1.1+1,bE.1.2),()))))))) (Q (gF bE.1.2.1) [])) ((ah,ah,()), 
 ()))))))
theorem adY:cu 81 T9:=eQ<| jm λl=>nG λi=>gM λQ h=>by
 refine Wp.dC gJ cC ⟨[(6,⟨[(18,.int .i64),(5,.int .i64)],[]⟩)],[]⟩ Tryz.f81 (Lp l i) ?_;unfold Lp gE dY gF iQ eH dz cV cF cn dG aR aC ah aA aJ;obtain ⟨⟨i0,i1⟩,hl,h⟩:=h;refine λ_ _=>aq (λq=>by have:=of_decide_eq_true q;omega) (λ_=>λ_=>aq (λq=>by have:=of_decide_eq_true q;omega) (λ_=>λ_=>?_));refine aM.intro (λk=>0<=k.1.1/\k.1.1<=l.length/\0<=k.1.2.1/\k.1.2.1+((l.drop k.1.1.toNat).countP (vZ (aB noTy l i).2.1):Nat)=(oM l (aB noTy l i).2.1:Nat)) (λk=>l.length - k.1.1.toNat) ⟨by simp,by simp,bB _,by simp [oM]⟩ ?_;rintro ⟨⟨k,c,_⟩,_⟩ ⟨k0,k1,c0,hk⟩;have hle:oM l (aB noTy l i).2.1<=l.length:=List.countP_le_length;refine aq (λhc=>?_) (λhc=>?_)
 .have hc:=of_decide_eq_true hc;rw [ixR (e:=noTy) k0 hc,List.countP_cons] at hk;refine ⟨k0,hc,λ_=>⟨i0,i1,λ_=>aq (λe=>?_) (λe=>?_)⟩⟩
  .have e':vZ (aB noTy l i).2.1 (aB noTy l k)=true:=e
   grind [aD]
  .have e':vZ (aB noTy l i).2.1 (aB noTy l k)=false:=e;rw [if_neg (by rw [e'];simp)] at hk
   grind [aD]
 simp_all [dj]
end Go.Proofs

