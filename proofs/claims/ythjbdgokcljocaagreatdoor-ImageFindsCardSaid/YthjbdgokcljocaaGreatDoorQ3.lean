/- Texts of mine, laid together: LmVy LmVyb LmVz LmWa LmVza LmYa LmZb LmVzf LmVzc LmZw I1 I2 LmZa I3 LmZ0 LmZc I4 I5 LmZd LmZx I6 LmZg Grow LmZy LmZe I7 I8 LmZh I9 Shelf LmZi. -/
import Derived.Test.YthjbdgokcljocaaGreatDoorQ2
import Derived.RangeFuncSeq
import Derived.RangeFuncRecord
import Derived.RangeFuncLeaves
import Derived.RangeFuncIn
import Derived.Lib.Bytealg
import Derived.Lib.Bytes
import Derived.Test.YthjbdgokcljocaaGreatDoorProg
import Derived.Test.YthjbdgokcljocaaGreatDoorChecked
import Derived.Test.YthjbdgokcljocaaGreatDoorQ1
import Derived.Shelf.Spec.SlicesGrow
import Derived.Shelf.Strings.Builder1
import Derived.Shelf.Strings.Builder2
import Derived.Shelf.Strings.OnBuilder
import Derived.Shelf.Small.Bits
import Derived.Shelf.Small.Strs
import Derived.Shelf.Strings.BuilderF
import Derived.Shelf.Strings.BuilderK
import Derived.Shelf.Strings.Builder2Cap
import Derived.Shelf.Strconv.Itoa0
import Derived.Shelf.Strings.Search1
import Derived.Shelf.Sort.Plain
import Derived.Shelf.Strings.BuilderCap
import Derived.Ground.Names2Prog
import Derived.Shelf.Slices.Clone
import Derived.Shelf.Slices.In.SortNone
import Derived.Shelf.Bytes.SlSearch0
import Derived.Ground.SlbCloneProg
import Derived.Shelf.Bytes.SlClone
import Derived.Ground.SlsfProg
import Derived.Shelf.SlSortCmp.Insertion
import Derived.Shelf.Bytes.SlEqualAll
import Derived.Shelf.Bytes.Small
set_option linter.unusedVariables false
open Array renaming getElem?_eq_some_iff → aO, getD_eq_getD_getElem? → kr
open Bool renaming and_eq_true → ao, not_eq_true' → cY, false_eq_true → dQ, false_or → eW, or_eq_true → kq
open Int renaming toNat → ax, le_refl → bh, toNat_natCast → bL, tdiv → gu, eq_ofNat_of_zero_le → og
open Go.IntKind renaming signed → ij, bits → kH, max → mU
open List renaming flatten → ae, length_append → af, getElem?_eq_getElem → aq, replicate → au, length_cons → av, getElem?_eq_some_iff → aw, length_singleton → aE, length_take → aF, mem_cons_of_mem → aI, take_of_length_le → aL, append_assoc → aM, mem_cons_self → aN, length_drop → aR, length_replicate → aX, length_nil → aY, append_nil → bf, mem_cons → bm, all_eq_true → bo, mem_map → bp, eq_nil_of_length_eq_zero → bB, getElem?_append_right → bD, getElem?_append_left → bF, take_append_drop → bK, drop_eq_getElem_cons → bM, range → bQ, length_map → bT, take_succ_eq_append_getElem → bY, getD_eq_getElem?_getD → dh, getElem?_map → dj, flatten_cons → dz, mem_range → dF, cons_append → eH, drop_eq_nil_of_le → eJ, drop_drop → eN, drop_append_of_le_length → eQ, take_length → fz, nodup_cons → gj, length_set → jc, map_congr_left → jy, flatten_append → jz, mem_of_getElem? → kz, filter_eq_self → lr, drop_take → lQ, drop_left → lR, getElem?_take → mT, take_take → o8, drop_zero → o9
open Nat renaming eq_of_beq_eq_true → ai, le_refl → aG, zero_le → cM, lt_or_ge → eT, le_of_ble_eq_true → eU, zero_lt_succ → fy, zero_add → gA, blt → gH, min_eq_left → py
open Option renaming getD → gB, isSome_iff_exists → mS
open Option.some renaming inj → aj
open Go.Proofs.Tryz renaming prog → cg
open UInt8 renaming ofNat → az, toNat → cz
noncomputable section
namespace Go.Lm
open Go Go.RowKit
def Ex.out:Ex->Exit
 | .normal=>.normal
 | .exit i=>.exit i
 | .ret=>.ret
def aog (n:Nat) (W:cV) (F:List Atom) (b:Bs) (E:Env) (g:World) (Q:Ex->Ov->Prop) (e:Exit) (a':Act) (w':World):Prop:=∃ E' g' s' ex,bu E E'/\bt g g'/\df n W F b E' g' w' s' a'/\e=ex.out/\Q ex s'
section
variable {X:Vx} {n:Nat} {an:EG} {W:cV} {F:List Atom}
theorem Ov.force_eq {s:Ov} {K:Ov->Prop} (h:s.force K):K s:=by
 have:=fw _ (fw _ h);omega
theorem Bs.force_eq {b:Bs} {K:Bs->Prop} (h:b.force K):K b:=by
 have:=fw _ (fw _ h);omega
theorem vp {ks:List Nat} {b:Bs} {s:Ov} {t:Nat} (h:t∈ks):gg (pS ks b s).f t=none:=by
 show gg ((s.f++b.f).filter λp=> !iA p.1 ks) t=none;rw [jg (p:=λk=> !iA k ks),gz.2 h];rfl
theorem BR {ro:Option Nat} {m:Nat} (kf:jv W X.P X.ct):∀ (c:Code) {b:Bs} {s:Ov} {E:Env} {g w:World} {a:Act} {Q:Ex->Ov->Prop},df n W F b E g w s a->lU X n an c b s Q->c.wpIn (Ei ro) m X.P (aog n W F b E g Q) a w:=by
 intro c
 induction c with
 | skip=>
  intro b s E g w a Q S h;exact wpIn_skip ⟨E,g,s,.normal,bu.refl E,bt.refl g,S,rfl,h⟩
 | region id ops draw=>
  intro b s E g w a Q S h;exact O5 kf S (Ov.force_eq h) λa' w' ⟨E',g',s',l1,l2,S',k⟩=>⟨E',g',s',.normal,l1,l2,S',rfl,k⟩
 | seq x y ihx ihy=>
  intro b s E g w a Q S h;unfold lU at h;split at h
  .refine wpIn_seq (wpIn_mono (ihx S h) ?_);rintro e a1 w1 ⟨E1,g1,s1,ex,l1,l2,S1,rfl,hq⟩;cases ex with
   | normal=>exact wpIn_mono (ihy S1 hq) λe a2 w2 ⟨E2,g2,s2,ex,m1,m2,S2,he,hq⟩=>⟨E2,g2,s2,ex,l1.trans m1,l2.trans m2,S2,he,hq⟩
   | exit i=>exact ⟨E1,g1,s1,.exit i,l1,l2,S1,rfl,hq⟩
   | ret=>exact ⟨E1,g1,s1,.ret,l1,l2,S1,rfl,hq⟩
  .rename_i la _;have h:=fw _ (Ov.force_eq h);generalize hks:nR x++la.jL.map (·.1)=ks at h;have h:=Bs.force_eq h;obtain ⟨J,hA,hB⟩:=h;refine wpIn_seq (wpIn_mono (ihx (S.ai9 ks) hA) ?_);rintro e a1 w1 ⟨E1,g1,s1,ex,l1,l2,S1,rfl,hq⟩;cases ex with
   | normal=>
    obtain ⟨i,hi,E3,l3,S3⟩:=CY S1 l1 S.len (S.xL ks) (by grind [vp]) hq;refine wpIn_mono (ihy S3 (hB i hi)) ?_;rintro e a2 w2 ⟨E2,g2,s2,ex,m1,m2,S2,he,hq⟩;exact ⟨E2,g2,_,ex,l3.trans m1,l2.trans m2,S2.out S.top,he,hq⟩
   | exit i=>exact ⟨E1,g1,_,.exit i,l1,l2,S1.out S.top,rfl,hq⟩
   | ret=>exact ⟨E1,g1,_,.ret,l1,l2,S1.out S.top,rfl,hq⟩
 | cond c x y ihx ihy=>
  intro b s E g w a Q S h;unfold lU at h;split at h
  .rename_i v hv;obtain ⟨hc,_⟩:=S.fe hv;have told:∀ q,a.eval c= .bool q->df n W F b E g w (s.told c q) a:=λq hq=>by
    cases c with
    | tmp t=>exact S.told (d:=t) (by trivial)
    | const _=>exact S
    | global _=>exact S
    | func _=>exact S
   grind [tH, wpIn_cond_true, wpIn_cond_false]
  grind
 | block id c ih=>
  intro b s E g w a Q S h;refine wpIn_block (wpIn_mono (ih S h) ?_);rintro e a1 w1 ⟨E1,g1,s1,ex,l1,l2,S1,rfl,hq⟩;cases ex with
  | normal=>exact ⟨E1,g1,s1,.normal,l1,l2,S1,rfl,hq⟩
  | exit i=>
   show (if i=id then _ else _)
   simp only at hq;split
   .rename_i e;subst e;rw [if_pos (by simp)] at hq;exact ⟨E1,g1,s1,.normal,l1,l2,S1,rfl,hq⟩
   .rename_i e;rw [if_neg (by simpa using e)] at hq;exact ⟨E1,g1,s1,.exit i,l1,l2,S1,rfl,hq⟩
  | ret=>exact ⟨E1,g1,s1,.ret,l1,l2,S1,rfl,hq⟩
 | loop c ih=>
  intro b s E g w a Q S h;unfold lU at h;split at h
  .rename_i k0 _;refine uM (λk a' w'=>∃ s' E' g',bu E E'/\bt g g'/\df n W F b E' g' w' s' a'/\aiO (λs q=>lU X n an c b s q) Q k s') (λk=>k) k0 (by grind [bu.refl, bt.refl]) ?_;rintro k a1 w1 ⟨s1,E1,g1,l1,l2,S1,hu⟩;cases k with
   | zero=>trivial
   | succ k=>
    refine wpIn_mono (ih S1 (Ov.force_eq hu)) ?_;rintro e a2 w2 ⟨E2,g2,s2,ex,m1,m2,S2,rfl,hq⟩;cases ex with
    | normal=>exact ⟨k,⟨s2,E2,g2,l1.trans m1,l2.trans m2,S2,hq⟩,Nat.lt_succ_self k⟩
    | exit i=>exact ⟨E2,g2,s2,.exit i,l1.trans m1,l2.trans m2,S2,rfl,hq⟩
    | ret=>exact ⟨E2,g2,s2,.ret,l1.trans m1,l2.trans m2,S2,rfl,hq⟩
  .grind
  .rename_i la _ _;have h:=fw _ (Ov.force_eq h);generalize hks:nR c++la.jL.map (·.1)=ks at h;have h:=Bs.force_eq h;have S:=Hi X.cloH S;generalize Dv X.cloH b s=s at h S;obtain ⟨i0,h0,E0,l0,S0⟩:=CY (S.ai9 ks) (bu.refl E) S.len (S.xL ks) (by grind [vp]) h;obtain ⟨I,μ,hI0,hI⟩:=h0;refine uM (λi a' w'=>I i/\∃ E' g',bu E E'/\bt g g'/\df n W F (pS ks b s) E' g' w' (lY la (CT la b s) s.n i) a') μ i0 (by grind [bt.refl]) ?_;rintro i a1 w1 ⟨hi,E1,g1,l1,l2,S1⟩;refine wpIn_mono (ih S1 (hI i hi)) ?_;rintro e a2 w2 ⟨E2,g2,s2,ex,m1,m2,S2,rfl,hq⟩;cases ex with
   | normal=>
    obtain ⟨i',⟨h1,h2⟩,E3,l3,S3⟩:=CY S2 (l1.trans m1) S.len (S.xL ks) (by grind [vp]) hq;exact ⟨i',⟨h1,E3,g2,l3,l2.trans m2,S3⟩,h2⟩
   | exit i=>
    obtain ⟨g3,m3,S3⟩:=Hk X.sfh (S2.out S.top);exact ⟨E2,g3,_,.exit i,l1.trans m1,(l2.trans m2).trans m3,S3,rfl,hq⟩
   | ret=>
    obtain ⟨g3,m3,S3⟩:=Hk X.sfh (S2.out S.top);exact ⟨E2,g3,_,.ret,l1.trans m1,(l2.trans m2).trans m3,S3,rfl,hq⟩
 | exit id=>
  intro b s E g w a Q S h;exact wpIn_exit ⟨E,g,s,.exit id,bu.refl E,bt.refl g,S,rfl,h⟩
 | ret=>
  intro b s E g w a Q S h;exact wpIn_ret ⟨E,g,s,.ret,bu.refl E,bt.refl g,S,rfl,h⟩
 | rangeFunc f ps x y ih1 ih2=>intro b s E g w a Q S h;trivial
 | scope c ih=>intro b s E g w a Q S h;trivial
 | label l=>intro b s E g w a Q S h;trivial
 | goto l=>intro b s E g w a Q S h;trivial
 | refuse l=>intro b s E g w a Q S h;trivial
end
def Nf (D:Nat):Deferred:= {target:=.collected D,args:= #[]}
def akR (D:Nat):Atom:=obj D (.deferred (some []))
def cV.EJ (W:cV) (Ds:List Nat):cV:= {W with ds:=Ds.map Nf++W.ds}
theorem SL.base {W W':cV} (hw:W'.w=W.w) (hg:W'.g=W.g) {g w:World} {l:List Atom} (h:SL W g w l):SL W' g w l:=by
 obtain ⟨h0,h1,h2,h3,h4⟩:=h;refine ⟨h0,?_,⟨h2.uE,?_⟩,?_,h4⟩
 .grind
 .rw [hw,hg];exact h2.agr
 grind
theorem Sat.base {W W':cV} (hw:W'.w=W.w) (hg:W'.g=W.g) {E:Env} {g w:World} {H:List HO} {F:List Atom} (h:Sat W E g w H F):Sat W' E g w H F:=⟨h.sl.base hw hg,h.len⟩
theorem WpW.base {W W':cV} (hw:W'.w=W.w) (hg:W'.g=W.g) {P:Program} {f:FuncId} {args:List SV} {H:List HO} {Q:SV->List HO->Prop} (h:WpW W P f args H Q):WpW W' P f args H Q:=λg w E F vs hs hv=>(h g w E F vs (hs.base hw.symm hg.symm) hv).mono λ_ _ ⟨E1,g1,sv,H1,a1,a2,a3,a4,a5⟩=>⟨E1,g1,sv,H1,a1,a2,a3.base hw hg,a4,a5⟩
theorem jv.base {W W':cV} (hw:W'.w=W.w) (hg:W'.g=W.g) {P:Program} {L:List (Nat×Ct)} (h:jv W P L):jv W' P L:=λp hp args H Q hc=>(h p hp args H Q hc).base hw hg
theorem SL.anH {g:World} {a b:Atom} {A F:List Atom} {W:cV} {w:World} (H:SL W g w (A++a::b::F)):SL W g w (A++F):=((H.cv λh x=>bd.po x).drop.cv λh x=>bd.po x).drop
def UI (n:Nat) (W:cV) (F:List Atom) (b:Bs) (E:Env) (g:World) (Q:Ex->Ov->Prop) (e:Exit) (a':Act) (w':World):Prop:=∃ Ds E' g' s' ex,bu E E'/\bt g g'/\df n (W.EJ Ds) (Ds.map akR++F) b E' g' w' s' a'/\e=ex.out/\Q ex s'
def F9 (sz:Nat):Value->Nat->Nat->Value
 | .slice a _ _,i,k=>jB sz (.slice a (i+k) (i+k)) (i:Int) ((i+k:Nat):Int)
 | v,_,_=>v
def uN:Value->Nat
 | .slice _ n _=>n
 | _=>0
def agc (P:Program) (f:Nat) (e:Ty):Prop:=∀ (l b1 b2:Nat) (v0:Value) (q:Int) (J:Nat->World->Prop) (w:World),1<=q->q<=1000000000->(∃ (p:Option Addr) (n c:Nat),v0= .slice p n c/\n<=1000000000000/\n<=c/\(p=none->n=0))->
 (∀ k w,J k w->w.cell? ⟨b1,0,none⟩=some v0/\w.cell? ⟨b2,0,none⟩=some (.int .i64 q))->(∀ k w,J k w->J k w.drew)->
 (∀ k w,J k w->k*q.toNat< uN v0->YieldAt (Ei none) 0 P l #[F9 e.size v0 (k*q.toNat) (min q.toNat (uN v0 - k*q.toNat))] w λx w'=>x= .returned (.bool true)/\J (k+1) w')->J 0 w->
 CallsIn (Ei none) 1 P f #[.func (.yield l) #[] #[],ptr b1 0,ptr b2 0] w λx w'=>(∃ v,x= .returned v)/\∃ k,J k w'/\uN v0<=k*q.toNat
def xK (P:Program) (L:List (Nat×Ty)):Prop:=∀ p∈L,agc P p.1 p.2
theorem xK.nil (P:Program):xK P []:=λ_ h=>by cases h
section
variable {X:Vx} {n:Nat} {an:EG} {W:cV} {F:List Atom}
theorem GM:∀ {l:List (Nat×Ty)} {f:Nat} {e:Ty},GN l f=some e->(f,e)∈l
 | (k,v)::s,f,e,h=>by
  unfold GN at h;cases hb:Nat.beq k f with
  | true=>
   rw [hb] at h;obtain rfl:=ai hb;obtain rfl:=aj h;exact aN
  | false=>rw [hb] at h;exact aI _ (GM h)
theorem aeR {e:Ty} {g:World} {v:Value} {xs:List e.den} {i k:Nat} (h:od e g v xs) (hk:i+k<=xs.length):od e g (F9 e.size v i k) ((xs.drop i).take k):=by
 obtain ⟨a,cp,rfl,h2⟩:=Ts h hk;have h3:=k9 (l:=(i:Int)) (h:=((i+k:Nat):Int)) h2 (by omega) (by omega) (by rw [aF];omega);have e1:((xs.take (i+k)).drop (i:Int).toNat).take (((i+k:Nat):Int).toNat - (i:Int).toNat)=(xs.drop i).take k:=by
  grind
 rw [e1] at h3;exact h3
theorem U9 {m:Nat} {t p f:Nat} {ps:Array Tmp} {assign body:Code} (hps:ps.toList= [p]) {e:Ty} (hch:agc X.P f e) (kf:jv W X.P X.ct) (hp:gH p n=true) (hf:rk X.P f=true)
  {b:Bs} {s:Ov} {E:Env} {g w:World} {a:Act} {Q:Ov->Prop} {xs:List e.den} {q:Int} {la:xI} (hla:la.jL= []) {b1 b2:Nat} {v0:Value} {t1 t2:TypeId}
  (hg:a.eval (.tmp t)= .func (.func f) #[] #[ptr b1 0,ptr b2 0]) (Aj:od e g v0 xs)
  (S:df n W (obj b2 (.cells #[.int .i64 q] t2 (0,0))::obj b1 (.cells #[v0] t1 (0,0))::F) b E g w s a) (h:Yw X n an p assign body e xs q la b s Q):
  (Code.rangeFunc (.tmp t) ps assign body).wpIn (Ei none) m X.P (UI n W F b E g λe s'=>match e with| .normal=>Q s'| _=>False) a w:=by
 have hps:ps= #[p]:=by rw [<-Array.toArray_toList (xs:=ps),hps]
 subst hps;have h:=Ov.force_eq h;have h:=Bs.force_eq h;obtain ⟨⟨q1,q2⟩,aj5,h⟩:=h;have top:=S.top;have hold:=S.xL [];have Sx:=S.ai9 [];have hn0:=S.len;generalize Xf:CT la b s=us0 at h;generalize hb1:pS [] b s=bb at h Sx hold;obtain ⟨i0,hL,E0,lE0,S0⟩:=CY Sx (bu.refl E) hn0 hold (λt ht=>by cases ht) h;obtain ⟨I,μ,hI0,hI⟩:=hL;have hsx:(uO [] b s).f= []:=by unfold uO;simp [iA]
 refine wpIn_rangeFunc ?_;intro fn _;obtain ⟨rec,Qi⟩:∃ rec:LoopState->Option Code->Loop,rec=λst pe=> {state:=st,pending:=pe,fn,tmps:=a.tmps,params:= #[p],assign,body,defers:=w.heap.size}:=⟨_,rfl⟩;have uI:∀ st pe,(rec st pe).state=st:=λ_ _=>by rw [Qi]
 have AJ:∀ st pe,(rec st pe).pending=pe:=λ_ _=>by rw [Qi]
 have agH:∀ st pe st',{rec st pe with state:=st'}=rec st' pe:=λ_ _ _=>by rw [Qi]
 have Z2:∀ st pe st' pe',{rec st pe with state:=st',pending:=pe'}=rec st' pe':=λ_ _ _ _=>by rw [Qi]
 obtain ⟨W1,hW1⟩:∃ W1,(w.alloc (.deferred (some []))).alloc (.loop (rec .ready none))=W1:=⟨_,rfl⟩;obtain ⟨l,hl⟩:∃ l,w.heap.size+1=l:=⟨_,rfl⟩;obtain ⟨FF,hFF⟩:∃ FF,FF=λ(st:LoopState)=>obj l (.loop (rec st none))::obj w.heap.size (.deferred (some []))::obj b2 (.cells #[.int .i64 q] t2 (0,0))::obj b1 (.cells #[v0] t1 (0,0))::F:=⟨_,rfl⟩;have key:∀ {st st':LoopState} {W0:cV} {E':Env} {g' w':World} {H:List HO},Sat W0 E' g' w' H (FF st)->w'.heap[l]?=some (.loop (rec st none))/\Sat W0 E' g' (w'.putObj l (.loop (rec st' none))) H (FF st'):=λ{st st' W0 E' g' w' H} T=>by
  rw [hFF] at T ⊢;have H1:=T.sl.cv λh x=>bd.po x;have u:qy w' l (.loop (rec st' none)) (w'.putObj l (.loop (rec st' none))):=⟨rfl,(aO.1 H1.Ey.2.1).1⟩;exact ⟨H1.Ey.2.1,(H1.zQ u).cv λh x=>bd.toEnd x,T.len⟩
 have cellsJ:∀ {st:LoopState} {W0:cV} {E':Env} {g' w':World} {H:List HO},Sat W0 E' g' w' H (FF st)->w'.cell? ⟨b1,0,none⟩=some v0/\w'.cell? ⟨b2,0,none⟩=some (.int .i64 q):=λ{st W0 E' g' w' H} T=>by
  rw [hFF] at T;have H1:=((T.sl.cv λh x=>bd.po x).drop.cv λh x=>bd.po x).drop.cv λh x=>bd.po x;have c2:=H1.Ey.2.1;have c1:=(H1.drop.cv λh x=>bd.po x).Ey.2.1;exact ⟨by simp [World.cell?,c1],by simp [World.cell?,c2]⟩
 have S1:Sat W E0 g W1 (bb.heap (lY la us0 s.n i0)) (FF .ready):=by
  rw [hFF];refine ⟨?_,S0.sat.len⟩;have H1:SL W g (w.alloc (.deferred (some []))) (obj w.heap.size (.deferred (some []))::(a8 E0 0 (bb.heap (lY la us0 s.n i0))++_)):=S0.sat.sl.new ⟨rfl,rfl⟩;have H2:SL W g W1 (obj l (.loop (rec .ready none))::_):=H1.new ⟨hW1.symm,by rw [<-hl];simp⟩;refine H2.cv λh x=>?_;obtain ⟨h1,h2,ap,e1,x1,x2⟩:=x;exact bd.toEnd ⟨h1,h2,ap,e1,x1,bd.toEnd x2⟩
 let J:Nat->World->Prop:=λk w'=>∃ i E' g',I (k,i)/\bu E E'/\bt g g'/\df n W (FF .ready) bb E' g' w' (lY la us0 s.n i) a;have J0:J 0 W1:=⟨i0,E0,g,hI0,lE0,bt.refl g,S0.size,S0.defers,S0.fr,S1,S0.top⟩;obtain ⟨pa,cp,Tu,hcp,hpa,hlen⟩:∃ (pa:Option Addr) (cp:Nat),v0= .slice pa xs.length cp/\xs.length<=cp/\(pa=none->xs.length=0)/\xs.length<=9223372036854775807:=by
  have:=lJ Aj;rcases (@dE e.den e.rep g _ _).1 Aj with ⟨rfl,rfl⟩| ⟨ad,cp,rfl,hc,JI,h3⟩;exact ⟨none,0,rfl,aG _,λ_=>rfl,by simp⟩;exact ⟨some ad,cp,rfl,by omega,(λe=>by cases e),this⟩
 have Eg:uN v0=xs.length:=by rw [Tu];rfl
 have law:=hch l b1 b2 v0 q J W1 q1 q2 ⟨pa,_,cp,Tu,aj5,hcp,hpa⟩ (λk w' ⟨i,E',g',_,_,_,S'⟩=>cellsJ S'.sat) (λk w' ⟨i,E',g',x1,x2,x3,S'⟩=>⟨i,E',g',x1,x2,x3,S'.le (Le.drew w')⟩) ?_ J0
 .refine ⟨l,[Nf w.heap.size],W1,{target:=.fn (.func f) #[ptr b1 0,ptr b2 0],args:= #[.func (.yield l) #[] #[]]},W1,f,#[.func (.yield l) #[] #[],ptr b1 0,ptr b2 0],W1,?_,?_,λ_ _=>trivial,?_,λq=>(by cases q),(callsIn_wide (n:=m - 1)).2 ((callsIn_wide (n:=1)).1 (law.mono ?_))⟩
  .rw [<-hW1,Qi,<-hl];exact run_enterLoop_outer _ _ _ _ _
  .simp only [resolve,hg];simp [go_sem]
  .unfold rk at hf;split at hf
   .rename_i fn hfn;simp only [ao,cY] at hf;have h1:¬fn.name= "runtime.NumGoroutine" :=by simpa using hf.1
    have h2:¬fn.body=none:=λe=>by rw [e] at hf;cases hf.2
    simp [invoke,callFunc,hfn,h1,h2,go_sem]
   .cases hf
  .rintro x w2 ⟨⟨v,rfl⟩,k,⟨i,E',g',hi,l1,l2,S'⟩,hk⟩;obtain ⟨hrl,hT⟩:=key (st':=.exhausted) S'.sat
   have NH:=run_endLoop (P:=X.P) hrl (by rw [uI];simp);rw [agH,AJ] at NH;refine ⟨none,_,NH,?_⟩;rw [Eg] at hk;have hq0:=hI (k,i) hi;have hqq:Q (ph [] s (lY la us0 s.n i)):=by
    have hb:gH (k*q.toNat) xs.length=false:=by
     cases hx:gH (k*q.toNat) xs.length with
     | false=>rfl
     | true=>have:=eU hx;omega
    simp only [hb] at hq0;exact hq0
   clear hq0;have S3:df n W (obj w.heap.size (.deferred (some []))::F) bb E' g' _ (lY la us0 s.n i) a:=⟨S'.size,S'.defers,S'.fr,⟨by
    rw [hFF] at hT;have H1:=(hT.sl.cv λh x=>bd.po x).drop;have H2:SL W g' _ ((a8 E' 0 (bb.heap (lY la us0 s.n i))++ [obj w.heap.size (.deferred (some []))])++obj b2 (.cells #[.int .i64 q] t2 (0,0))::obj b1 (.cells #[v0] t1 (0,0))::F):=H1.cast (by simp);exact H2.anH.cast (by simp),S'.sat.len⟩,S'.top⟩
   subst hb1;have S4:=S3.out top;exact ⟨[w.heap.size],E',g',_,.normal,l1,l2,⟨S4.size,by show [Nf w.heap.size]++a.defers=_;rw [S4.defers];rfl,S4.fr,Sat.base (W:=W) (W':=W.EJ [w.heap.size]) rfl rfl S4.sat,S4.top⟩,rfl,hqq⟩
 .rintro k w' ⟨i,E',g',hi,l1,l2,S'⟩ fB;rw [Eg] at fB ⊢;have hq:=hI (k,i) hi;have hb:gH (k*q.toNat) xs.length=true:=Nat.ble_eq_true_of_le fB;simp only [hb] at hq;obtain ⟨vk,hvk⟩:∃ vk,F9 e.size v0 (k*q.toNat) (min q.toNat (xs.length - k*q.toNat))=vk:=⟨_,rfl⟩;have hd:od e g' vk ((xs.drop (k*q.toNat)).take q.toNat):=by
   have:=aeR (i:=k*q.toNat) (k:=min q.toNat (xs.length - k*q.toNat)) Aj (by omega);rw [hvk] at this;have e1:(xs.drop (k*q.toNat)).take (min q.toNat (xs.length - k*q.toNat))=(xs.drop (k*q.toNat)).take q.toNat:=by
    rw [<-aR,<-o8,fz]
   rw [e1] at this;exact this.mono l2
  obtain ⟨hrl,_⟩:=key (st':=.ready) S'.sat
  have hy:=run_yield (P:=X.P) (args:= #[vk]) hrl (by rw [Qi];rfl);rw [hvk];rw [Qi] at hy;have Sp:=S'.put (d:=some p) (v:=.v (.c (.d e ((xs.drop (k*q.toNat)).take q.toNat)))) (u:=vk) hp hd;have Sr:df n {W with ds:=[]} (FF .ready) bb E' g' w' ((lY la us0 s.n i).put (some p) (.c (.d e ((xs.drop (k*q.toNat)).take q.toNat)))) {tmps:=a.tmps.setIfInBounds p vk,defers:=[]}:=⟨Sp.size,rfl,Sp.fr,Sat.base (W:=W) (W':= {W with ds:=[]}) rfl rfl Sp.sat,Sp.top⟩;have ant:jv {W with ds:=[]} X.P X.ct:=jv.base (W:=W) (W':= {W with ds:=[]}) rfl rfl kf;refine ⟨fn,a.tmps.setIfInBounds p vk,assign,body,(by simpa using hy),roundIn_of_wpIn trivial ?_⟩;refine wpIn_mono (BR (ro:=some l) (m:=0) ant assign Sr hq) ?_;rintro ex a1 w1 ⟨E1,g1,s1,x1,m1,m2,T1,rfl,hq1⟩;cases x1 with
  | exit _=>exact hq1.elim
  | ret=>exact hq1.elim
  | normal=>
   obtain ⟨apx,hT1⟩:=key (st':=.busy) T1.sat
   have anv:=run_beginRound (P:=X.P) apx (uI _ _);rw [agH] at anv;refine ⟨_,anv,?_⟩;have T2:df n {W with ds:=[]} (FF .busy) bb E1 g1 (w1.putObj l (.loop (rec .busy none))) s1 a1:=⟨T1.size,T1.defers,T1.fr,hT1,T1.top⟩;refine wpIn_mono (BR (ro:=some l) (m:=0) ant body T2 hq1) ?_;rintro ex a3 w3 ⟨E3,g3,s3,x3,m3,m4,T3,rfl,hq3⟩;cases x3 with
   | exit _=>exact hq3.elim
   | ret=>exact hq3.elim
   | normal=>
    obtain ⟨apw,hT3⟩:=key (st':=.ready) T3.sat
    have NH:=run_endRound (P:=X.P) none apw;simp only [Z2,Option.isNone_none,if_true] at NH;refine ⟨_,_,NH,rfl,?_⟩;have T4:df n W (FF .ready) bb E3 g3 (w3.putObj l (.loop (rec .ready none))) {s3 with f:=[]} a:=⟨S'.size,S'.defers,λt sv ht=>(Sx.fr t sv (by unfold Bs.slot;rw [hsx];exact ht)).mono ((l1.trans m1).trans m3) ((l2.trans m2).trans m4),Sat.base (W:= {W with ds:=[]}) (W':=W) rfl rfl hT3,T3.top⟩;obtain ⟨i',⟨r8,_⟩,E4,lE4,T5⟩:=CY T4 ((l1.trans m1).trans m3) hn0 hold (λt ht=>by cases ht) hq3;exact ⟨i',E4,g3,r8,lE4,(l2.trans m2).trans m4,T5⟩
theorem O6 {m:Nat} {t p:Nat} {ps:Array Tmp} {assign body:Code} (hps:ps.toList= [p]) (hch:xK X.P X.chk) (kf:jv W X.P X.ct) {b:Bs} {s:Ov} {E:Env} {g w:World} {a:Act} {Q:Ov->Prop} (S:df n W F b E g w s a) (h:HX X n an t p assign body b s Q):
  (Code.rangeFunc (.tmp t) ps assign body).wpIn (Ei none) m X.P (UI n W F b E g λe s'=>match e with| .normal=>Q s'| _=>False) a w:=by
 unfold HX at h;split at h
 .rename_i f l1 l2 hv;split at h
  .rename_i e t1 e' xs' t2 q la he ho1 ho2 hl;split at h
   .rename_i xs hx hla;obtain ⟨hc,h⟩:=dc h;simp only [ao,cY] at hc;obtain ⟨ja,_,hp,hf⟩:=hc;have ja:l1≠l2:=by grind
    obtain ⟨us,Xf,ha⟩:=S.fr t _ hv;obtain ⟨_,us1,rfl,⟨b1,hE1,rfl⟩,Xf⟩:=Xf;obtain ⟨_,us2,rfl,⟨b2,hE2,rfl⟩,Xf⟩:=Xf;obtain rfl:us2= []:=Xf;obtain ⟨ws1,r1,_,H1⟩:=o5 S hE1 ho1;obtain ⟨v0,ws1',rfl,Tu,hn1⟩:=r1;obtain rfl:ws1'= []:=hn1;have S1:=S.anD hE1 (bt.refl g) H1;have apI:b.obj (s.dR l1 .gone) l2= .cells t2 [.k (.int .i64 q)]:=by simp_all [jr]
    obtain ⟨ws2,r2,_,H2⟩:=o5 S1 hE2 apI;obtain ⟨vq,ws2',rfl,hvq,hn2⟩:=r2;obtain rfl:ws2'= []:=hn2;obtain ⟨rfl,_⟩:vq= .int .i64 q/\True:=⟨hvq.1,trivial⟩;have S2:=S1.anD hE2 (bt.refl g) H2;obtain ⟨qe,Aj⟩:=eB hx;subst qe;subst Aj;exact U9 hps (hch _ (GM he)) kf hp hf hla ha Tu S2 h
   grind
  grind
 grind
theorem U8 {m:Nat} (hch:xK X.P X.chk):∀ (c:Code) {W:cV} {F:List Atom} {b:Bs} {s:Ov} {E:Env} {g w:World} {a:Act} {Q:Ex->Ov->Prop},jv W X.P X.ct->df n W F b E g w s a->ot X n an c b s Q->c.wpIn (Ei none) m X.P (UI n W F b E g Q) a w:=by
 intro c;have plain:∀ {c:Code} {W:cV} {F:List Atom} {b:Bs} {s:Ov} {E:Env} {g w:World} {a:Act} {Q:Ex->Ov->Prop},jv W X.P X.ct->df n W F b E g w s a->lU X n an c b s Q->c.wpIn (Ei none) m X.P (UI n W F b E g Q) a w:=λkf S h=>wpIn_mono (BR kf _ S h) λe a' w' ⟨E',g',s',ex,l1,l2,S',he,hq⟩=>⟨[],E',g',s',ex,l1,l2,S',he,hq⟩
 induction c with
 | seq x y ihx ihy=>
  intro W F b s E g w a Q kf S h;unfold ot at h;split at h;exact plain kf S h
  .dsimp only at h;split at h
   .refine wpIn_seq (wpIn_mono (ihx kf S h) ?_);rintro e a1 w1 ⟨Ds,E1,g1,s1,ex,l1,l2,S1,rfl,hq⟩;cases ex with
    | normal=>
     refine wpIn_mono (ihy (jv.base (W:=W) (W':=W.EJ Ds) rfl rfl kf) S1 hq) ?_;rintro e a2 w2 ⟨Ds2,E2,g2,s2,ex,m1,m2,S2,he,hq⟩;refine ⟨Ds2++Ds,E2,g2,s2,ex,l1.trans m1,l2.trans m2,?_,he,hq⟩
     grind [cV.EJ]
    | exit i=>exact ⟨Ds,E1,g1,s1,.exit i,l1,l2,S1,rfl,hq⟩
    | ret=>exact ⟨Ds,E1,g1,s1,.ret,l1,l2,S1,rfl,hq⟩
   .cases h
 | block id c ih=>
  intro W F b s E g w a Q kf S h;unfold ot at h;split at h;exact plain kf S h
  .refine wpIn_block (wpIn_mono (ih kf S h) ?_);rintro e a1 w1 ⟨Ds,E1,g1,s1,ex,l1,l2,S1,rfl,hq⟩;cases ex with
   | normal=>exact ⟨Ds,E1,g1,s1,.normal,l1,l2,S1,rfl,hq⟩
   | exit i=>
    show (if i=id then _ else _)
    simp only at hq;split
    .rename_i e;subst e;rw [if_pos (by simp)] at hq;exact ⟨Ds,E1,g1,s1,.normal,l1,l2,S1,rfl,hq⟩
    .rename_i e;rw [if_neg (by simpa using e)] at hq;exact ⟨Ds,E1,g1,s1,.exit i,l1,l2,S1,rfl,hq⟩
   | ret=>exact ⟨Ds,E1,g1,s1,.ret,l1,l2,S1,rfl,hq⟩
 | rangeFunc f ps x y ih1 ih2=>
  intro W F b s E g w a Q kf S h;unfold ot at h;split at h;exact plain kf S h
  .dsimp only at h;split at h
   .rename_i t p hps _;exact wpIn_mono (O6 hps hch kf S h) λe a' w' ⟨Ds,E',g',s',ex,l1,l2,S',he,hq⟩=>by
     cases ex with
     | normal=>exact ⟨Ds,E',g',s',.normal,l1,l2,S',he,hq⟩
     | exit i=>exact hq.elim
     | ret=>exact hq.elim
   .cases h
 | skip=>intro W F b s E g w a Q kf S h;exact plain kf S h
 | region id ops draw=>intro W F b s E g w a Q kf S h;exact plain kf S h
 | exit id=>intro W F b s E g w a Q kf S h;exact plain kf S h
 | ret=>intro W F b s E g w a Q kf S h;exact plain kf S h
 | cond c x y ihx ihy=>
  intro W F b s E g w a Q kf S h;unfold ot at h
  grind
 | loop c ih=>
  intro W F b s E g w a Q kf S h;unfold ot at h
  grind
 | scope c ih=>
  intro W F b s E g w a Q kf S h;unfold ot at h
  grind
 | label l=>intro W F b s E g w a Q kf S h;exact plain kf S h
 | goto l=>intro W F b s E g w a Q kf S h;exact plain kf S h
 | refuse l=>intro W F b s E g w a Q kf S h;exact plain kf S h
theorem xb {P:Program} {fn:Func} {R:Ending->World->Prop} {tmps:Array Value}:∀ (Ds:List Nat) {g w:World} {l:List Atom},SL W g w (Ds.map akR++l)->
  (∀ w',SL W g w' l->∃ v,(results fn tmps).run P w'= .ok v w'/\R (.returned v) w')->LeavesInM (Ei none) 0 P fn tmps R (Ds.map Nf) .returning w
 | [],g,w,l,H,h=>h w H
 | D::Ds,g,w,l,H,h=>by
  have hD:=H.Ey.2.1;refine ⟨by grind,.inl ⟨D,_,rfl,run_takeDeferred hD,?_⟩⟩;have u:qy w D (.deferred none) (w.putObj D (.deferred none)):=⟨rfl,(aO.1 hD).1⟩;exact xb Ds (H.zQ u).drop h
end
section
variable {P:Program} {X:Vx} {n:Nat} {W:cV} {F:List Atom} {b:Bs} {E:Env} {g w:World} {s:Ov} {a:Act}
theorem P7 {t:TypeId} {bb:Nat} {off:Nat} {u:Value} (h:(Instr.loadAt t (ptr bb off)).run P w= .ok u w):∃ q,ptr bb off= .pointer (some q)/\(loadVar t q).run P w= .ok u w:=by
 grind [Instr.loadAt, Instr.sureAddr]
def Pq (tmps:Array Value):ResultVar->Sem Value
 | .tmp t=>pure (tmps.getD t undef)
 | .cell a t=>do loadVar t (<-asAddr (tmps.getD a undef))
theorem sx (S:df n W F b E g w s a):∀ {rs:List ResultVar} {l:List S1},lA P b s rs=some l->
  ∃ us,ir E g l us/\(rs.mapM (Pq a.tmps)).run P w= .ok us w
 | [],l,h=>by
  obtain rfl: []=l:=aj h;exact ⟨[],rfl,by simp⟩
 | .tmp t::r,l,h=>by
  unfold lA at h;split at h
  .rename_i v hv;split at h
   .rename_i q hq;obtain rfl:v::q=l:=aj h;obtain ⟨us,h1,h2⟩:=sx S hq;refine ⟨_::us,⟨_,us,rfl,S.fr t _ hv,h1⟩,?_⟩;simp [Pq,h2]
   .cases h
  .cases h
 | .cell t ty::r,l,h=>by
  unfold lA at h;split at h
  .rename_i lb off hv;split at h
   .rename_i ht cs eD;split at h
    .rename_i v hp;split at h
     .rename_i q hq;obtain rfl:v::q=l:=aj h;obtain ⟨us,h1,h2⟩:=sx S hq;obtain ⟨bb,hE,hx⟩:=S.fr t _ hv;obtain ⟨zg,k1,k2,_⟩:=o5 S hE eD;obtain ⟨u,h3,h4⟩:=C7 k2 k1 hp;obtain ⟨qa,h5,h6⟩:=P7 h3;refine ⟨u::us,⟨u,us,rfl,h4,h1⟩,?_⟩;simp [Pq,Sem.run_bind,h2,hx,h5,asAddr,h6]
     .cases h
    .cases h
   .cases h
  .cases h
theorem aew {l:List S1} {us:List Value} (h:ir E g l us):dd E g (pack l) (if h:us.toArray.size=1 then us.toArray[0] else .tuple us.toArray):=by
 unfold pack;split
 .obtain ⟨u,r,rfl,h1,h2⟩:=h;obtain rfl:r= []:=h2;exact h1
 .rename_i h0;have:¬us.toArray.size=1:=λe=>by
   have hl:=h.length;simp at e;rw [e] at hl
   match l,hl,h0 with
   | [v],_,h0=>grind
  rw [dif_neg this];exact ⟨us,h,rfl⟩
theorem Pp (S:df n W F b E g w s a) {fn:Func} {l:List S1} (h:lA P b s fn.results.toList=some l):∃ v,(results fn a.tmps).run P w= .ok v w/\dd E g (pack l) v:=by
 obtain ⟨us,h1,h2⟩:=sx S h;refine ⟨_,?_,aew h1⟩;have e:results fn a.tmps=(do
   let vs <-fn.results.mapM (Pq a.tmps)
   pure (if h:vs.size=1 then vs[0] else .tuple vs)):=by
  rfl
 simp_all [Array.mapM_eq_mapM_toList]
theorem afg (S:df n W F b E g w s a) {fn:Func} {k:SV->Prop} (h:akd P b s fn.results.toList k):∃ r v,(results fn a.tmps).run P w= .ok v w/\dd E g r v/\k r:=by
 have e:results fn a.tmps=(do
   let vs <-fn.results.mapM (Pq a.tmps)
   pure (if h:vs.size=1 then vs[0] else .tuple vs)):=by
  rfl
 have xL:∀ {rs:List ResultVar},fn.results.toList=rs->(match lA P b s rs with| some l=>k (pack l)| none=>False)->∃ r v,(results fn a.tmps).run P w= .ok v w/\dd E g r v/\k r:=by grind [Pp]
 unfold akd at h;split at h
 .rename_i t hr;split at h
  .rename_i q l hv;refine ⟨.arr q l,a.tmps.getD t undef,?_,S.fr t _ hv,h⟩;simp_all [Array.mapM_eq_mapM_toList, Pq]
  grind
 .rename_i t ty hr;split at h
  .rename_i c hv;obtain ⟨u,sv,h1,h2,h3⟩:=xZ S (S.fr t _ hv) h;refine ⟨sv,u,?_,h2,h3⟩;obtain ⟨q,hq,h5⟩:∃ q,a.tmps.getD t undef= .pointer (some q)/\(loadVar ty q).run P w= .ok u w:=by
    cases hx:a.tmps.getD t undef with
    | pointer p=>cases p with
     | some q=>simp_all [Instr.loadAt, Instr.sureAddr]
     | none=>simp_all [Instr.loadAt, Instr.sureAddr]
    | _=>simp_all [Instr.loadAt, Instr.sureAddr]
   simp_all [Array.mapM_eq_mapM_toList, Pq, asAddr]
  grind
 grind
theorem ad5 {E0:Env} {g0:World} {fn:Func} {Q:SV->List HO->Prop} (S:df n W F b E g w s a) (he:bu E0 E) (m:bt g0 g) {c:Bool} (h:ad6 P c fn E0.length b s Q):
  ∃ v,(results fn a.tmps).run P w= .ok v w/\∃ E' g' sv H',bu E0 E'/\bt g0 g'/\Sat W E' g' w H' F/\dd E' g' sv v/\Q sv H':=by
 unfold ad6 agi at h;have S:=Hi c S;generalize Dv c b s=s at h S;obtain ⟨l,v,hr,hv,h⟩:=afg S h;have h:=fw _ h;generalize hrl:(sB (b.obj s) 1000 (l.labels++(bQ E0.length).flatMap λi=>(b.obj s i).labels) []).filter (λl=>Nat.ble E0.length l)=rl at h;generalize hls:bQ E0.length++rl=ls at h;obtain ⟨hc,h⟩:=dc h;rw [ao,jU] at hc;obtain ⟨hn,fB⟩:=hc;have Dg:∀ l∈ls,l< s.n:=λl hl=>by have:=bo.1 fB l hl;simpa using this
 have wj:mR (iD ls) E (ls.map λl=>(E[l]?).getD undef):=λl l' v h1 h2=>by
  have:=oP h1;rw [dj,this];simp [h2]
 have xi:Sat W (ls.map λl=>(E[l]?).getD undef) g w (ls.map λl=>(b.obj s l).fj (iD ls)) F:=by
  refine ⟨S.sat.sl.cv λh0 x=>?_,by simp⟩;have x1:=bd.qD (ob:=b.obj s) hn (λl hl=>eL (Dg l hl)) x;have x2:=bd.YK x1;exact bd.xW wj (k:=0) (λi l hi=>by rw [gA];exact qk hn hi) x2
 refine ⟨v,hr,_,g,_,_,λk u hk=>?_,m,xi,hv.fj wj,h⟩;have hk0:k< E0.length:=tD hk;have:ls[k]?=some k:=by
  rw [<-hls,bF (by simpa using hk0)];simp [hk0]
 rw [dj,this];simp [he k u hk]
theorem BZ:∀ {args:List SV} {k t:Nat} {v:SV},gg (oz k args) t=some v->k<=t/\args[t - k]?=some v
 | [],_,_,_,h=>by cases h
 | x::r,k,t,v,h=>by
  simp only [oz,gg] at h;by_cases e:k=t
  .simp_all
  .rw [jk e] at h;obtain ⟨h1,h2⟩:=BZ h
   grind
theorem Gr:∀ {l:List SV} {us:List Value},bA E g l us->us.length=l.length
 | [],_,h=>by rw [show _= [] from h];rfl
 | _::_,_,⟨_,_,e,_,h⟩=>by rw [e,av,av,Gr h]
theorem Gs:∀ {l:List SV} {us:List Value} {i:Nat} {c:SV},bA E g l us->l[i]?=some c->∃ u,us[i]?=some u/\dd E g c u
 | [],_,_,_,_,h=>by grind
 | x::l,_,0,c,⟨u,r,e,h1,_⟩,h=>by
  grind
 | x::l,_,i+1,c,⟨u,r,e,_,h2⟩,h=>by
  obtain ⟨v,h3,h4⟩:=Gs (i:=i) h2 (by simpa using h);exact ⟨v,by rw [e];simpa using h3,h4⟩
theorem Wp.SZ {I:cV->Prop} {f:FuncId} {args:List SV} {H:List HO} {Q:SV->List HO->Prop} {sv:SV} (h:∀ (E:Env) (g w:World) (vs:List Value),bt g w->bA E g args vs->HM P f vs.toArray w λv w'=>dd E g sv v/\Le w w') (hq:Q sv H):Wp I P f args H Q:=by
 intro W _ g w E F vs hs hv;exact (h E g w vs hs.m hv).mono λv w' ⟨r,l⟩=>⟨E,g,sv,H,bu.refl E,bt.refl g,hs.le l,r,hq⟩
theorem Wp.said {I:cV->Prop} {f:FuncId} {args args':List SV} {H:List HO} {Q:SV->List HO->Prop} (h:∀ (E:Env) (g:World) (us:List Value),bA E g args us->bA E g args' us) (k:Wp I P f args' H Q):Wp I P f args H Q:=λW hW g w E F vs hs hv=>k W hW g w E F vs hs (by grind)
theorem bA.cE {g:World} {c c':SV} {l l':List SV} (h1:∀ u,dd E g c u->dd E g c' u) (h2:∀ us,bA E g l us->bA E g l' us):∀ us,bA E g (c::l) us->bA E g (c'::l') us:=λ_ ⟨u,r,e,a,b⟩=>⟨u,r,e,h1 u a,h2 r b⟩
theorem Ji {g:World} {e:Ty} {l:List Cl} {x:e.den} (h:e.of l=some (x,[])):∀ u,dd E g (.v (.agg l)) u->dd E g (.v (.agg (e.cells x))) u:=λu ⟨us,h1,h2⟩=>by
 obtain ⟨u1,u2,e1,h3,h4⟩:=of_cells e h h1;obtain rfl:u2= []:=h4;rw [bf] at e1;subst e1;exact ⟨us,(ft E g e h3).1,h2⟩
theorem dI {g:World} {e:Ty} {c:Cl} {x:List e.den} (h:(Ty.sl e).of [c]=some (x,[])):∀ u,dd E g (.v (.c c)) u->dd E g (.v (.c (.d e x))) u:=λu r=>by
 have r1:bz E g [c] [u]:=⟨u,[],rfl,r,rfl⟩;obtain ⟨u1,u2,e1,h3,h4⟩:=of_cells (.sl e) h r1;obtain rfl:u2= []:=h4;rw [bf] at e1;subst e1
 assumption
theorem ak {c:Bool} {p q:Prop} (h1:c=true->p) (h2:c=false->q):br c p q:=by
 cases c;exact h2 rfl;exact h1 rfl
theorem Wp.enter {I:cV->Prop} (kf:jJ I X.P X.ct) {f:FuncId} {fn:Func} (an:EG) (hf:X.P.funcs[f]?=some fn) {args:List SV} {H:List HO} {Q:SV->List HO->Prop} (h:ad4 X an fn args H Q) (hch:xK X.P X.chk:=by exact xK.nil _):Wp I X.P f args H Q:=by
 intro W0 hW;replace kf:jv {W0 with ds:=[]} X.P X.ct:=jv.base (W:=W0) (W':= {W0 with ds:=[]}) rfl rfl (kf.at hW);refine WpW.base (W:= {W0 with ds:=[]}) (W':=W0) rfl rfl ?_;have Wa:({W0 with ds:=[]}:cV).ds= []:=rfl;revert kf Wa;generalize ({W0 with ds:=[]}:cV)=W;intro kf Wa g w E F vs xi Ef;unfold ad4 at h;split at h;cases h
 .rename_i c hb;obtain ⟨hl,h⟩:=dc h;have Al:vs.length<=fn.ntmps:=by rw [Gr Ef];exact eU hl
  have apG:∀ l,({f:=oz 0 args,h:=H}:Bs).obj {f:=[],h:=[],n:=H.length} l=lF H l:=λl=>rfl;have S:df fn.ntmps W F {f:=oz 0 args,h:=H} E g w {f:=[],h:=[],n:=H.length} {tmps:=vs.toArray++Array.replicate (fn.ntmps - vs.toArray.size) undef,defers:=[]}:=by
   refine ⟨by simp;omega,Wa.symm,λt v ht=>?_,?_,λl hl=>?_⟩
   .obtain ⟨_,h2⟩:=BZ (k:=0) ht;obtain ⟨u,h3,h4⟩:=Gs Ef h2;simp only [Nat.sub_zero] at h3;have h5:t< vs.length:=(aw.1 h3).1;have:(vs.toArray++Array.replicate (fn.ntmps - vs.toArray.size) undef).getD t undef=u:=by
     simp [kr,Array.getElem?_append,h5];rw [aq h5] at h3;exact aj h3
    rw [this];exact h4
   .have:({f:=oz 0 args,h:=H}:Bs).heap {f:=[],h:=[],n:=H.length}=H:=by
     apply List.ext_getElem?
     grind [eL, mI, dW]
    rw [this];exact xi
   .exact nZ hl
  have h:=G6 Ef h;refine (callsIn_wide (n:=0)).1 (callsIn_of_wp_marks hf hb trivial (wpIn_mono (U8 (m:=0) hch c kf S h) ?_));rintro e a' w' ⟨Ds,E',g',s',ex,l1,l2,S',rfl,hq⟩;have hlen:E.length=H.length:=xi.len;have fin:∀ {Q':SV->List HO->Prop},ad6 X.P X.clo fn E.length {f:=oz 0 args,h:=H} s' Q'->LeavesInM (Ei none) 0 X.P fn a'.tmps (λe w1=>∃ v,e= .returned v/\∃ E1 g1 sv H1,bu E E1/\bt g g1/\Sat W E1 g1 w1 H1 F/\dd E1 g1 sv v/\Q' sv H1) a'.defers .returning w':=λ{Q'} hq=>by
   have hd:a'.defers=Ds.map Nf:=by rw [S'.defers];unfold cV.EJ;simp [Wa]
   rw [hd];have H0:SL W g' w' (Ds.map akR++(a8 E' 0 (Bs.heap {f:=oz 0 args,h:=H} s')++F)):=(SL.base (W:=W.EJ Ds) (W':=W) rfl rfl S'.sat.sl).cv λh x=>bd.comm x;refine xb Ds H0 λw1 H1=>?_;have S1:df fn.ntmps W F {f:=oz 0 args,h:=H} E' g' w1 s' {a' with defers:=W.ds}:=⟨S'.size,rfl,S'.fr,⟨H1,S'.sat.len⟩,S'.top⟩;obtain ⟨v,hr,hv⟩:=ad5 S1 l1 l2 hq;exact ⟨v,hr,v,rfl,hv⟩
  cases ex with
  | normal=>
   rw [<-hlen] at hq;exact fin hq
  | exit i=>exact hq.elim
  | ret=>
   rw [<-hlen] at hq;exact fin hq
theorem Wp.QC {I:cV->Prop} (kf:jJ I X.P X.ct) {f:FuncId} {fn:Func} (an:EG) (hf:X.P.funcs[f]?=some fn) {args:List SV} {H:List HO} {Q:SV->List HO->Prop} {V:(SV->List HO->Prop)->Prop} (e:∀ Q,ad4 X an fn args H Q=V Q) (h:V Q) (hch:xK X.P X.chk:=by exact xK.nil _):Wp I X.P f args H Q:=by grind [Wp.enter]
end
def gN (x a b:Int):Bool:=decide (a<=x)&& decide (x<=b)
def S8 (s:ByteArray):Int:=Lib.indexByte s.data.toList 0
def oG (s:ByteArray) (m:Int):Bool:=gN (s.size:Int) 1 m&& decide (S8 s< 0)
theorem j7 (s:ByteArray):s.size=s.data.toList.length:=by
 rfl
theorem JC (l:List UInt8) (c:UInt8): -1<=Lib.indexByte l c/\Lib.indexByte l c< max 1 (l.length:Int):=by
 induction l with
 | nil=>grind [Lib.indexByte]
 | cons b r ih=>
  unfold Lib.indexByte;by_cases hb:(b==c)=true
  .grind
  .grind [Lib.indexByte]
def vN (s:ByteArray) (k:Nat):Bool:=(s.data.toList.drop k).any (· ==0)
theorem VK {s:ByteArray} {k:Int} (h0:0<=k) (h1:k< s.size):vN s k.toNat=(((jj s k).toNat:Int)==0|| vN s (k+1).toNat):=by
 have fB:k.toNat< s.data.toList.length:=by simp_all
 unfold vN;rw [bM fB,List.any_cons,show k.toNat+1=(k+1).toNat by omega];have e:s.data.toList[k.toNat]=jj s k:=by
  grind [jj, ByteArray.getElem_eq_getElem_data]
 congr 1;rw [Bool.eq_iff_iff];simp only [beq_iff_eq];constructor
 .simp_all
 .intro h;exact UInt8.toNat_inj.1 (by grind)
theorem Zu {s:ByteArray} {k:Int} (h:¬k< s.size) (h0:0<=k):vN s k.toNat=false:=by
 grind [vN, eJ, j7]
abbrev u9:=ByteArray×List UInt8×Unit
def leB (a b:ByteArray):Bool:=lS a b|| j9 a b
def wh (x:u9) (last:ByteArray):Bool:= !oG x.1 40|| leB x.1 last|| decide ((x.2.1.length:Int)>200)
def fG:List u9->ByteArray->Bool
 | [],_=>true
 | x::r,last=>if wh x last then false else fG r x.1
def dC (l:List u9):Bool:=fG l ⟨#[]⟩&& decide ((l.length:Int)<=8)
theorem cR {e:Ty} {l:List e.den} {k:Int} (h0:0<=k) (h1:k< l.length):l.drop k.toNat=aA e l k::l.drop (k+1).toNat:=by
 grind [bM, aA]
theorem cX {α:Type} {l:List α} {k:Int} (h:¬k< l.length):l.drop k.toNat= []:=eJ (by omega)
theorem Bf (a b:UInt8) (x y:List UInt8):Op.bytesLess (a::x) (b::y)=(decide (a< b)|| (a==b&& Op.bytesLess x y)):=rfl
theorem QY:∀ x:List UInt8,Op.bytesLess x x=false
 | []=>rfl
 | a::x=>by rw [Bf,QY x];simp
theorem aiR (a b:UInt8):a< b\/a=b\/b< a:=by
 grind
theorem QX:∀ x y:List UInt8,Op.bytesLess x y=true\/x=y\/Op.bytesLess y x=true
 | [],[]=>.inr (.inl rfl)
 | [],_::_=>.inl rfl
 | _::_,[]=>.inr (.inr rfl)
 | a::x,b::y=>by
  rw [Bf,Bf];rcases aiR a b with h| h| h;exact .inl (by simp [h])
  .subst h;rcases QX x y with k| k| k
   .exact .inl (by simp [k])
   .exact .inr (.inl (by rw [k]))
   .exact .inr (.inr (by simp [k]))
  .exact .inr (.inr (by simp [h]))
theorem DP:∀ {x y z:List UInt8},Op.bytesLess x y=true->Op.bytesLess y z=true->Op.bytesLess x z=true
 | _,[],_,h,_=>by grind [Op.bytesLess]
 | _,_::_,[],_,k=>by trivial
 | [],_::_,_::_,_,_=>rfl
 | a::x,b::y,c::z,h,k=>by
  rw [Bf] at*;simp only [kq,ao,decide_eq_true_eq,beq_iff_eq] at*;rcases h with h| ⟨rfl,h⟩
  .grind
  .rcases k with k| ⟨rfl,k⟩
   .grind
   .exact .inr ⟨rfl,DP h k⟩
theorem DQ {x y:List UInt8} (h:Op.bytesLess x y=true):Op.bytesLess y x=false:=by
 grind [DP, QY]
theorem Jw (a b:ByteArray):leB a b= !lS b a:=by
 grind [leB, lS, j9, QX, DQ]
theorem ajs {a:ByteArray} (h:1<=(a.size:Int)):lS ⟨#[]⟩ a=true:=by
 unfold lS;have h0:(⟨#[]⟩:ByteArray).toList= []:=by simp
 rw [h0];rw [j7] at h;rw [Lib.toList_data];cases h2:a.data.toList with
 | nil=>grind
 | cons x r=>rfl
theorem um:∀ l:List UInt8,decide (Lib.indexByte l 0< 0)= !l.any (· ==0)
 | []=>rfl
 | b::r=>by
  have ih:=um r;have ge:=Lib.indexByte_ge r 0;unfold Lib.indexByte;by_cases hb:b=0;subst hb;simp
  .have h1:(b==0)=false:=by simpa using hb
   simp only [dQ,if_false,List.any_cons,h1,eW];rw [<-ih];by_cases hm:Lib.indexByte r 0= -1;simp [hm]
   .have:(Lib.indexByte r 0== -1)=false:=by simpa using hm
    simp only [this,dQ,if_false];have h2:¬Lib.indexByte r 0< 0:=by omega
    have h3:¬Lib.indexByte r 0+1< 0:=by omega
    simp [h2,h3]
theorem S7 (s:ByteArray):decide (S8 s< 0)= !vN s 0:=by
 grind [S8, vN, um]
theorem abw (x:u9) (last:ByteArray):wh x last=(decide ((x.1.size:Int)< 1)|| decide ((x.1.size:Int)>40)|| vN x.1 0|| decide ((x.2.1.length:Int)>200)|| !lS last x.1):=by
 grind [wh, oG, gN, S7, Jw]
def th (l:List u9) (k:Int):ByteArray:=if k>0 then (@List.getD u9 l (k - 1).toNat (⟨#[]⟩,[],())).1 else ⟨#[]⟩
def noB (s:ByteArray):Bool:=j9 s ⟨#[]⟩
def AH (m u g:Int):Bool:=gN m 0 511&& gN u 0 65535&& gN g 0 65535
def gE (x:bc):Bool:=
 if x.2.2.1=1 then ((x.2.2.2.2.1.length:Int)==0)&& noB x.2.2.2.2.2.1&& !x.2.2.2.2.2.2.2.1&& AH x.2.2.2.1.1 x.2.2.2.1.2.1 x.2.2.2.1.2.2.1&& dC x.2.2.2.2.2.2.1
 else if x.2.2.1=2 then decide ((x.2.2.2.2.1.length:Int)<=4096)&& noB x.2.2.2.2.2.1&& !x.2.2.2.2.2.2.2.1&& AH x.2.2.2.1.1 x.2.2.2.1.2.1 x.2.2.2.1.2.2.1&& dC x.2.2.2.2.2.2.1
 else if x.2.2.1=3 then ((x.2.2.2.2.1.length:Int)==0)&& oG x.2.2.2.2.2.1 200&& !x.2.2.2.2.2.2.2.1&& AH x.2.2.2.1.1 x.2.2.2.1.2.1 x.2.2.2.1.2.2.1&& dC x.2.2.2.2.2.2.1
 else false
def ic {α:Type} (p:α->Bool):List α->Int->Int
 | [],_=> -1
 | x::r,k=>if p x then k else ic p r (k+1)
theorem Nx {α:Type} {p:α->Bool}:∀ {l:List α} {k:Int},0<=k->decide (ic p l k≥0)=l.any p
 | [],_,_=>rfl
 | x::r,k,h=>by
  unfold ic;rw [List.any_cons];cases hp:p x with
  | true=>simp [h]
  | false=>simpa using Nx (l:=r) (p:=p) (k:=k+1) (by omega)
def akS (x:bc):Bool:=x.2.2.1==4&& (!(x.2.2.2.1.1==0&& (x.2.2.2.1.2.1==0&& x.2.2.2.1.2.2.1==0))|| decide ((x.2.2.2.2.1.length:Int)>0)|| !j9 x.2.2.2.2.2.1 ⟨#[]⟩|| decide ((x.2.2.2.2.2.2.1.length:Int)>0)|| x.2.2.2.2.2.2.2.1)
def P2 (x:bc):Bool:=if x.2.2.1=4 then !akS x else gE (x.1,x.2.1,x.2.2.1,x.2.2.2.1,x.2.2.2.2.1,x.2.2.2.2.2.1,x.2.2.2.2.2.2.1,(if x.2.2.1=1 then false else x.2.2.2.2.2.2.2.1),())
def Pr (x:bc):Bool:=
 if decide (x.2.2.1< 1)|| (decide (x.2.2.1>3)|| x.2.2.2.2.2.2.2.1) then false
 else if decide (x.2.2.2.1.1< 0)|| (decide (x.2.2.2.1.1>511)|| (decide (x.2.2.2.1.2.1< 0)|| (decide (x.2.2.2.1.2.1>65535)|| (decide (x.2.2.2.1.2.2.1< 0)|| decide (x.2.2.2.1.2.2.1>65535))))) then false
 else if (x.2.2.1 !=2&& decide ((x.2.2.2.2.1.length:Int)>0))|| decide ((x.2.2.2.2.1.length:Int)>4096) then false
 else if (x.2.2.1 !=3&& !j9 x.2.2.2.2.2.1 ⟨#[]⟩)|| (x.2.2.1==3&& (j9 x.2.2.2.2.2.1 ⟨#[]⟩|| (decide ((x.2.2.2.2.2.1.size:Int)>200)|| vN x.2.2.2.2.2.1 0))) then false
 else dC x.2.2.2.2.2.2.1
theorem Zw (s:ByteArray):j9 s ⟨#[]⟩= !decide (1<=(s.size:Int)):=by
 unfold j9;have h1:(⟨#[]⟩:ByteArray).toList= []:=by simp
 rw [h1,Lib.toList_data,j7];cases s.data.toList with
 | nil=>rfl
 | cons x r=>
  grind
theorem ZD (m u g:Int):AH m u g= !(decide (m< 0)|| (decide (m>511)|| (decide (u< 0)|| (decide (u>65535)|| (decide (g< 0)|| decide (g>65535)))))):=by
 grind [AH, gN]
theorem VB (x:bc):Pr x=gE x:=by
 grind [Pr, gE, noB, oG, S7, Zw, ZD, gN, dC]
def N4 (x:bc):bc:=(x.1.take 18,x.2.1,x.2.2.1,x.2.2.2.1,x.2.2.2.2.1.take 1500,x.2.2.2.2.2.1,x.2.2.2.2.2.2.1.take 10,x.2.2.2.2.2.2.2.1,())
theorem jo {e:Ty} {l:List e.den} {k:Int} (h0:0<=k) (h1:k< l.length):l.take (k+1).toNat=l.take k.toNat++ [aA e l k]:=by
 have fB:k.toNat< l.length:=by omega
 rw [show (k+1).toNat=k.toNat+1 by omega,List.take_add_one,aq fB]
 grind [aA]
def kK (s:ByteArray) (k:Nat):Bool:=(s.data.toList.drop k).any λb=>b==0|| b==47
theorem Ul {b:UInt8} {n:Nat} (h:n< 256):(b==az n)=((b.toNat:Int)==(n:Int)):=by
 rw [Bool.eq_iff_iff]
 grind [UInt8.toNat_ofNat_of_lt', UInt8.toNat_inj]
theorem drop_byte {s:ByteArray} {k:Int} (h0:0<=k) (h1:k< s.size):s.data.toList.drop k.toNat=jj s k::s.data.toList.drop (k+1).toNat:=by
 grind [j7, bM, jj, ByteArray.getElem_eq_getElem_data]
theorem Mh {s:ByteArray} {k:Int} (h0:0<=k) (h1:k< s.size):kK s k.toNat=(((jj s k).toNat:Int)==0|| (((jj s k).toNat:Int)==47|| kK s (k+1).toNat)):=by
 unfold kK;rw [drop_byte h0 h1,List.any_cons,show (0:UInt8)=az 0 from rfl,show (47:UInt8)=az 47 from rfl,Ul (n:=0) (by omega),Ul (n:=47) (by omega),Bool.or_assoc];rfl
theorem Pb {s:ByteArray} {k:Int} (h:¬k< s.size) (h0:0<=k):kK s k.toNat=false:=by
 grind [kK, eJ, j7]
def TK (s:ByteArray):Bool:=j9 s ⟨#[]⟩|| (j9 s ⟨#[46]⟩|| j9 s ⟨#[46,46]⟩)
def db (s:ByteArray):Int:=if (s.size:Int)>255 then 23 else if kK s 0|| TK s then 22 else 0
def gd:List ByteArray->List ByteArray->Bool
 | [],[]=>true
 | x::a,y::b=>j9 x y&& gd a b
 | _,_=>false
theorem xX:∀ {a b:List ByteArray},a.length≠b.length->gd a b=false
 | [],[],h=>absurd rfl h
 | _::a,_::b,h=>by
  unfold gd;rw [xX (a:=a) (b:=b) (by simpa using h),Bool.and_false]
 | [],_::_,_=>rfl
 | _::_,[],_=>rfl
theorem GV {α:Type} {p:α->Bool}:∀ {l:List α} {k:Int},(ic p l k= -1/\l.find? p=none)\/∃ j:Nat,ic p l k=k+j/\j< l.length/\l.find? p=l[j]?
 | [],_=>.inl ⟨rfl,rfl⟩
 | x::r,k=>by
  unfold ic;rw [List.find?_cons];cases hp:p x with
  | true=>exact .inr ⟨0,by simp,by simp,rfl⟩
  | false=>
   simp only [dQ,if_false];rcases GV (l:=r) (p:=p) (k:=k+1) with ⟨h1,h2⟩| ⟨j,h1,h2,h3⟩
   .grind
   .exact .inr ⟨j+1,by omega,by grind,by grind⟩
def js (names:List ByteArray) (x:bc):Bool:=gd x.1 names
def lH (l:List bc) (names:List ByteArray):Bool:=match l.find? (js names) with
 | some x=>x.2.2.1==1
 | none=>false
theorem SR {k:Kk} {α:Type} {l:List (k.den×α)} {x:k.den} {v:α}:(k.put l x v).length<=l.length+1:=by
 grind [Kk.put, qY, pf]
section
variable {P:Program} {I:cV->Prop} {f:FuncId} {args:List SV} {H:List HO} {Q Q':SV->List HO->Prop} {W:cV} {E:Env} {g w:World} {F:List Atom}
theorem Wp.fin (h:Wp I P f args H Q') (k:∀ (W:cV) (E:Env) (g w:World) (F:List Atom) (H':List HO) (sv:SV),Sat W E g w H' F->Q' sv H'->∃ g' H'',bt g g'/\Sat W E g' w H'' F/\Q sv H''):Wp I P f args H Q:=λW hW g w E F vs hs hv=>
 (h W hW g w E F vs hs hv).mono λv w' ⟨E1,g1,sv,H1,e1,m1,s1,r1,q1⟩=>by
  obtain ⟨g2,H2,m2,s2,q2⟩:=k W E1 g1 w' F H1 sv s1 q1;exact ⟨E1,g2,sv,H2,e1,m1.trans m2,s2,r1.mono (bu.refl _) m2,q2⟩
theorem Wp.mono (h:Wp I P f args H Q') (k:∀ sv H',Q' sv H'->Q sv H'):Wp I P f args H Q:=
 h.fin (by grind [bt.refl])
theorem Wp.beg {H0:List HO} (h:∀ (W:cV) (E:Env) (g w:World) (F:List Atom),Sat W E g w H0 F->∃ E' H1,bu E E'/\Sat W E' g w H1 F/\Wp I P f args H1 Q):Wp I P f args H0 Q:=λW hW g w E F vs hs hv=>by
 obtain ⟨E1,H1,e1,s1,k⟩:=h W E g w F hs;have hv1:bA E1 g args vs:=by
  have key:∀ {l:List SV} {us:List Value},bA E g l us->bA E1 g l us:=by
   intro l
   induction l with
   | nil=>intro us h;exact h
   | cons c l ih=>
    rintro us ⟨u,r,e,h1,h2⟩;exact ⟨u,r,e,h1.mono e1 (bt.refl g),ih h2⟩
  grind
 exact (k W hW g w E1 F vs s1 hv1).mono λv w' ⟨E2,g2,sv,H2,e2,m2,q⟩=>⟨E2,g2,sv,H2,e1.trans e2,m2,q⟩
theorem Wp.sel (h:Wp I P f args H λsv H'=>∃ ls:List Nat,ls.take H.length=bQ H.length/\ls.Nodup/\(∀ l∈ls,l< H'.length)/\Q (sv.fj (iD ls)) (ls.map λl=>(lF H' l).fj (iD ls))):Wp I P f args H Q:=λW hW g w E F vs hs hv=>
 (h W hW g w E F vs hs hv).mono λv w' ⟨E1,g1,sv,H1,e1,m1,s1,r1,ls,h1,hn,fB,q⟩=>by
  have wj:mR (iD ls) E1 (ls.map λl=>(E1[l]?).getD undef):=λl l' v h1 h2=>by
   have:=oP h1
   grind
  have xi:Sat W (ls.map λl=>(E1[l]?).getD undef) g1 w' (ls.map λl=>(lF H1 l).fj (iD ls)) F:=by
   refine ⟨s1.sl.cv λh0 x=>?_,by simp⟩;have x1:=bd.qD (ob:=lF H1) hn (λl hl=>by
    have Al:=fB l hl;rw [aq Al,mI (aq Al)]) x
   have x2:=bd.YK x1;exact bd.xW wj (k:=0) (λi l hi=>by grind [qk]) x2
  refine ⟨_,g1,_,_,λk u hk=>?_,m1,xi,r1.fj wj,q⟩;have hk0:k< H.length:=by
   have:=(aw.1 hk).1;rw [hs.len] at this;omega
  have:ls[k]?=some k:=by
   have h2:(ls.take H.length)[k]?=some k:=by grind
   grind
  rw [dj,this];simp [e1 k u hk]
theorem Wp.CU {t:TypeId} {e:Ty} (h:Wp I P f args H λsv H'=>Q sv H'\/(sv= .c (.k (.slice none 0 0))/\Q (.c (.o H'.length)) (H'++ [.sl t e []]))):Wp I P f args H Q:=λW hW g w E F vs hs hv=>
 (h W hW g w E F vs hs hv).mono λv w' ⟨E1,g1,sv,H1,e1,m1,s1,r1,q⟩=>by
  rcases q with q| ⟨rfl,q⟩
  .grind
  .have Tu:v= .slice none 0 0:=r1.1;subst Tu;letI:=e.rep;have H2:=SL.zT e.den t s1.sl;refine ⟨E1++ [.slice none 0 0],g1,.c (.o H1.length),H1++ [.sl t e []],e1.trans (bu.app _ _),m1,Sat.push (o:=.sl t e []) (v:=.slice none 0 0) s1.len (H2.cv λ_ ⟨k1,k2,ap,q,x1,x2⟩=>⟨k1,k2,ap,q,⟨_,by rw [<-s1.len];simp,x1⟩,x2⟩),⟨by rw [<-s1.len];simp,none,0,0,rfl⟩,q⟩
theorem Wp.aey {t:TypeId} {e:Ty} (h:Wp I P f args H λsv H'=>Q sv H'\/∃ x:Int,sv= .cC [.c (.k (.slice none 0 0)),.c (.k (.int .i64 x))]/\Q (.cC [.c (.o H'.length),.c (.k (.int .i64 x))]) (H'++ [.sl t e []])):Wp I P f args H Q:=λW hW g w E F vs hs hv=>
 (h W hW g w E F vs hs hv).mono λv w' ⟨E1,g1,sv,H1,e1,m1,s1,r1,q⟩=>by
  rcases q with q| ⟨x,rfl,q⟩
  .grind
  .obtain ⟨us,⟨u1,us1,rfl,⟨hu1,_⟩,u2,us2,rfl,hu2,ae0⟩,rfl⟩:=r1;obtain rfl:us2= []:=ae0;subst hu1;letI:=e.rep;have H2:=SL.zT e.den t s1.sl;refine ⟨E1++ [.slice none 0 0],g1,.cC [.c (.o H1.length),.c (.k (.int .i64 x))],H1++ [.sl t e []],e1.trans (bu.app _ _),m1,Sat.push (o:=.sl t e []) (v:=.slice none 0 0) s1.len (H2.cv λ_ ⟨k1,k2,ap,q,x1,x2⟩=>⟨k1,k2,ap,q,⟨_,by rw [<-s1.len];simp,x1⟩,x2⟩),⟨_,⟨_,_,rfl,⟨by rw [<-s1.len];simp,none,0,0,rfl⟩,_,_,rfl,hu2,rfl⟩,rfl⟩,q⟩
end
abbrev AtD:=Int×Int×Int×Unit
abbrev XeD:=ByteArray×Int×Int×Unit
abbrev ao1:Ty:=.pair .str (.pair (.int .i64) (.pair (.int .i64) .unit))
theorem gO {a b:ByteArray}:j9 a b=true↔a=b:=by
 unfold j9;rw [beq_iff_eq,Lib.toList_data,Lib.toList_data];constructor
 .obtain ⟨x⟩:=a;simp_all
 grind
def bc.xV (n:bc) (a:AtD):bc:=(n.1,n.2.1,n.2.2.1,a,n.2.2.2.2)
def bc.ai7 (n:bc) (x:List u9):bc:=(n.1,n.2.1,n.2.2.1,n.2.2.2.1,n.2.2.2.2.1,n.2.2.2.2.2.1,x,n.2.2.2.2.2.2.2)
def bc.dR (n:bc) (q:Bool):bc:=(n.1,n.2.1,n.2.2.1,n.2.2.2.1,n.2.2.2.2.1,n.2.2.2.2.2.1,n.2.2.2.2.2.2.1,q,())
def pR (L:List bc) (r:Int) (f:bc->bc):List bc:=L.map λn=>bif uH r n then f n else n
def wZ (x:bc):Bool:=if x.2.2.1=4 then !akS (x.dR false) else gE (x.dR false)
def aeI (a:AtD):Bool:=AH a.1 a.2.1 a.2.2.1
namespace UpY
variable (Y:UpY)
def lM (r:Int):Int:=match Y.at r with
 | none=>1
 | some n=>if n.2.2.1=1 then 0 else 24
def atE (r:Int):Int:=match Y.at r with
 | none=>1
 | some _=>0
def kindOf (r:Int):Int:=match Y.at r with
 | none=>0
 | some n=>n.2.2.1
def mJ (d:Int) (s:ByteArray):Int:=if Y.lM d=0 then (match Y.lq d s with
 | none=>20
 | some _=>0) else Y.lM d
def Tf (d:Int) (s:ByteArray):XeD:=if Y.lM d=0 then (match Y.lq d s with
 | none=>(⟨#[]⟩,0,0,())
 | some e=>(s,Y.kindOf e.2.2.1,e.2.2.1,())) else (⟨#[]⟩,0,0,())
def rm (d:Int) (s:ByteArray):Int:=if Y.lM d=0 then (if db s=0 then (match Y.lq d s with
 | none=>0
 | some _=>21) else db s) else Y.lM d
def B9 (r:Int) (a:AtD):Int:=match Y.at r with
 | none=>1
 | some n=>if n.2.2.1=4\/aeI a=false then 1 else 0
def gJ (r:Int) (a:AtD):UpY:=if Y.B9 r a=0 then {Y with L:=pR Y.L r (·.xV a)} else Y
def vo (r:Int) (x:List u9):Int:=match Y.at r with
 | none=>1
 | some n=>if n.2.2.1=4\/dC x=false then 1 else 0
def fh (r:Int) (x:List u9):UpY:=if Y.vo r x=0 then {Y with L:=pR Y.L r (·.ai7 x)} else Y
def gm (r:Int) (q:Bool):UpY:=if Y.lM r=0 then {Y with L:=pR Y.L r (·.dR q)} else Y
def Ng (d:Int) (s:ByteArray) (n:bc):Int:=if Y.rm d s=0 then (if wZ n then 0 else 1) else Y.rm d s
def Te (d:Int) (s:ByteArray) (n:bc):Int:=if Y.Ng d s n=0 then Y.nx else 0
def rb (n:bc):bc:=([],Y.nx,n.2.2.1,n.2.2.2.1,n.2.2.2.2.1,n.2.2.2.2.2.1,n.2.2.2.2.2.2.1,false,())
def oK (d:Int) (s:ByteArray) (n:bc):UpY:=if Y.Ng d s n=0 then {Y with L:=Y.L++ [Y.rb n],E:=Y.E++ [(d,s,Y.nx,())],nx:=Y.nx+1} else Y
def Nn (d:Int) (s:ByteArray) (r:Int):Int:=match Y.at r,Y.at d with
 | some n,some _=>if Y.rm d s=0 then (if n.2.2.1=1 then 25 else 0) else Y.rm d s
 | _,_=>1
def rS (d:Int) (s:ByteArray) (r:Int):UpY:=if Y.Nn d s r=0 then {Y with E:=Y.E++ [(d,s,r,())]} else Y
end UpY
structure UpY.Wf (Y:UpY):Prop where
 nd:(Y.L.map (·.2.1)).Nodup
 lo:∀ n∈Y.L,1<=n.2.1/\n.2.1< Y.nx
 root:Y.lM 1=0
 nm:∀ n∈Y.L,n.1= []/\((n.2.2.1=1\/n.2.2.2.2.2.2.2.1=false)/\wZ n=true)
 ne:(Y.E.map λe=>(e.1,e.2.1)).Nodup
 dir:∀ e∈Y.E,Y.lM e.1=0/\db e.2.1=0
 ref:∀ e∈Y.E,e.2.2.1≠1/\Y.atE e.2.2.1=0
 has:∀ n∈Y.L,n.2.1≠1->Y.E.any (toR n.2.1)=true
 one:∀ e∈Y.E,Y.lM e.2.2.1=0->Y.E.countP (toR e.2.2.1)=1
 dep:∃ d:Int->Nat,∀ e∈Y.E,Y.lM e.2.2.1=0->d e.1< d e.2.2.1
section
variable {L:List (Int×rY)} {Y:UpY}
theorem at_mem {r:Int} {y:bc} (h:Y.at r=some y):y∈Y.L/\y.2.1=r:=by
 grind [UpY.at, uH]
theorem af3 {r:Int}:Y.at r=none↔∀ n∈Y.L,n.2.1≠r:=by
 grind [UpY.at, uH]
theorem TG {d:Int} {s:ByteArray} {e:UF} (h:Y.lq d s=some e):e∈Y.E/\e.1=d/\e.2.1=s:=by
 grind [UpY.lq, isE]
theorem xo {d:Int} {s:ByteArray}:Y.lq d s=none↔∀ e∈Y.E,¬(e.1=d/\e.2.1=s):=by
 grind [UpY.lq, isE]
theorem iT {r:Int}:Y.lM r=0↔∃ y,Y.at r=some y/\y.2.2.1=1:=by
 grind [UpY.lM]
end
end Go.Lm

namespace Go.Lm
open Go Go.RowKit
def aaB (r:Int):Int:=da .xor .u32 (ll .u32 r 1) (IntKind.wrap .u32 (da .and .u32 r 1*3988292384))
def xt:Nat->Int->Int
 | 0,r=>r
 | n+1,r=>aaB (xt n r)
def Hd (i:Nat):Int:=xt 8 (IntKind.wrap .u32 i)
def dB:List Int:=(bQ 256).map Hd
def rr (N n:Nat):List Int:=(bQ N).map λj=>if j< n then Hd j else 0
theorem N1 (N:Nat):au N (0:Int)=rr N 0:=by
 unfold rr;refine List.ext_getElem (by simp) (by grind)
theorem N2 {N n:Nat} (_:n< N):(rr N n).set n (Hd n)=rr N (n+1):=by
 unfold rr;refine List.ext_getElem (by simp) λj h1 h2=>?_
 grind
theorem N3 (N:Nat):rr N N=(bQ N).map Hd:=by
 simp_all [rr]
def xr (n:Nat):List Int:=rr 256 n
theorem QG:au 256 (0:Int)=xr 0:=N1 256
theorem Hc (n:Nat):(xr n).length=256:=by unfold xr rr;rw [bT,List.length_range]
theorem QH {n:Nat} (h:n< 256):(xr n).set n (Hd n)=xr (n+1):=N2 h
theorem QI:xr 256=dB:=N3 256
def afm (T:List Int) (r:Int) (c:UInt8):Int:=da .xor .u32 (ll .u32 r 8) (T.getD (da .xor .u8 (IntKind.wrap .u8 r) (c.toNat:Int)).toNat 0)
def aaA (T:List Int) (r:Int) (b:List UInt8):Int:=b.foldl (afm T) r
def JT (r:Int):Int:=da .xor .u32 (mU .u32) r
def cn (T:List Int) (s:Int) (b:List UInt8):Int:=JT (aaA T (JT s) b)
def nK (c e:Int):Int:=if c=0 then e else c
def bJ:List UInt8->Int
 | []=>0
 | c::r=>(c.toNat:Int)+256*bJ r
def aH:Nat->Nat->List UInt8
 | 0,_=>[]
 | n+1,x=>az (x % 256)::aH n (x / 256)
theorem C8:∀ l:List UInt8,0<=bJ l
 | []=>bh _
 | c::r=>by
  have:=C8 r;show 0<=(c.toNat:Int)+256*bJ r;omega
theorem ZI:∀ l:List UInt8,bJ l< 256 ^ l.length
 | []=>by show (0:Int)< 256 ^ 0;omega
 | c::r=>by
  have h1:=ZI r;have h2:c.toNat< 256:=UInt8.toNat_lt c;show (c.toNat:Int)+256*bJ r< 256 ^ (r.length+1);omega
theorem Th:∀ (l:List UInt8) (c:UInt8),bJ (l++ [c])=bJ l+(c.toNat:Int)*256 ^ l.length
 | [],c=>by show (c.toNat:Int)+256*0=0+(c.toNat:Int)*256 ^ 0;omega
 | d::r,c=>by
  show (d.toNat:Int)+256*bJ (r++ [c])=(d.toNat:Int)+256*bJ r+(c.toNat:Int)*256 ^ (r.length+1);rw [Th r c,Int.pow_succ,Int.mul_add,Int.add_assoc];rw [Int.mul_comm (256 ^ r.length) 256,<-Int.mul_assoc,<-Int.mul_assoc,Int.mul_comm 256 (c.toNat:Int)]
theorem wrap64 {z:Int} (h0:0<=z) (h1:z< 9223372036854775808):IntKind.wrap .i64 z=z:=by grind [wrap64_in]
theorem Zl {x:Int} {i:Int} {c:UInt8} (hi:0<=i) (V8:i<=3) (h0:0<=x) (hx:x< 256 ^ i.toNat):da .or .i64 x (AB .i64 (c.toNat:Int) (8*i))=x+(c.toNat:Int)*256 ^ i.toNat:=by
 have hc:c.toNat< 256:=UInt8.toNat_lt c;obtain ⟨x,rfl⟩:=og h0;obtain ⟨j,rfl⟩:=og hi;have hj:j<=3:=by omega
 have OV:x< 256 ^ j:=by grind
 have key:∀ k:Nat,k=8*j->2 ^ k=256 ^ j:=by grind [Nat.pow_mul]
 have hp:(256:Nat) ^ j<=16777216:=Nat.le_trans (Nat.pow_le_pow_right (by omega) hj) (by decide);have hcp:c.toNat*256 ^ j<=255*16777216:=Nat.mul_le_mul (by omega) hp;have hs:AB .i64 (c.toNat:Int) (8*(j:Int))=((c.toNat*256 ^ j:Nat):Int):=by
  unfold AB;have e1:min (8*(j:Int)).toNat IntKind.i64.bits=8*j:=by
   show min (8*(j:Int)).toNat 64=8*j;omega
  grind [wrap64]
 unfold da;have e3:(BitVec.ofInt IntKind.i64.bits (x:Int)||| BitVec.ofInt IntKind.i64.bits ((c.toNat*256 ^ j:Nat):Int)).toNat=x||| (c.toNat*256 ^ j):=by
  have b1:(BitVec.ofInt IntKind.i64.bits (x:Int)).toNat=x:=by
   exact Nat.mod_eq_of_lt (by show x< 2 ^ 64;omega)
  have b2:(BitVec.ofInt IntKind.i64.bits ((c.toNat*256 ^ j:Nat):Int)).toNat=c.toNat*256 ^ j:=by
   rw [BitVec.ofInt_natCast,BitVec.toNat_ofNat];exact Nat.mod_eq_of_lt (by show c.toNat*256 ^ j< 2 ^ 64;omega)
  grind
 have e4:x||| (c.toNat*256 ^ j)=x+c.toNat*256 ^ j:=by
  have h9:=Nat.shiftLeft_add_eq_or_of_lt (b:=x) (i:=8*j) (by rw [key _ rfl];exact OV) c.toNat
  simp_all [Nat.shiftLeft_eq, Nat.or_comm, Nat.add_comm]
 grind [wrap64]
theorem aD:∀ n x:Nat,(aH n x).length=n
 | 0,_=>rfl
 | n+1,x=>by show (aH n (x / 256)).length+1=n+1;rw [aD n]
theorem GP:∀ n x:Nat,aH (n+1) x=aH n x++ [az (x / 256 ^ n % 256)]
 | 0,x=>by show [az (x % 256)]= [az (x / 256 ^ 0 % 256)];grind
 | n+1,x=>by
  show az (x % 256)::aH (n+1) (x / 256)=az (x % 256)::(aH n (x / 256)++_);rw [GP n (x / 256),Nat.div_div_eq_div_mul,Nat.pow_succ,Nat.mul_comm 256]
theorem C9:∀ n x:Nat,x< 256 ^ n->bJ (aH n x)=x
 | 0,x,h=>by
  have:x=0:=by simpa using h
  subst this;rfl
 | n+1,x,h=>by
  show ((az (x % 256)).toNat:Int)+256*bJ (aH n (x / 256))=x;rw [C9 n (x / 256) (by omega),UInt8.toNat_ofNat',Nat.mod_eq_of_lt (by omega)];omega
theorem fdiv_pow (m j:Nat):Int.fdiv (m:Int) (2 ^ (8*j))=((m / 256 ^ j:Nat):Int):=by
 have e:(2:Int) ^ (8*j)=((256 ^ j:Nat):Int):=by
  rw [show (256:Nat) ^ j=2 ^ (8*j) by rw [Nat.pow_mul],Int.natCast_pow];rfl
 grind
theorem afZ {m:Int} {i:Int} (hm:0<=m) (hi:0<=i) (V8:i<=3):az (IntKind.wrap .u8 (ll .i64 m (8*i))).toNat=az (m.toNat / 256 ^ i.toNat % 256):=by
 obtain ⟨m,rfl⟩:=og hm;obtain ⟨j,rfl⟩:=og hi;have e1:ll .i64 (m:Int) (8*(j:Int))=((m / 256 ^ j:Nat):Int):=by
  unfold ll;have e0:min (8*(j:Int)).toNat IntKind.i64.bits=8*j:=by
   show min (8*(j:Int)).toNat 64=8*j;omega
  grind [fdiv_pow]
 rw [e1];rfl
theorem YI {m n:Int} (hm:0<=m) (hn:1<=n) (hn4:n<=4) (h:m< 256 ^ n.toNat):ll .i64 m (8*n)=0:=by
 obtain ⟨m,rfl⟩:=og hm;obtain ⟨j,rfl⟩:=og (show 0<=n by omega);unfold ll;have e0:min (8*(j:Int)).toNat IntKind.i64.bits=8*j:=by
  show min (8*(j:Int)).toNat 64=8*j;omega
 rw [e0,fdiv_pow m j];have h':m< 256 ^ j:=by grind
 grind [Nat.div_eq_of_lt]
def jM (b:List UInt8) (n:Int):List UInt8:=if n>(b.length:Int) then [] else b.take n.toNat
def Kn (b:List UInt8) (n:Int):Int:=if n>(b.length:Int) then 2 else 0
def l8 (b:List UInt8) (n:Int):List UInt8:=if n>(b.length:Int) then b else b.drop n.toNat
def ad9 (l:Nat) (d:Cl):Cl->Cl
 | .o k=>bif Nat.beq k l then d else .o k
 | c=>c
def Sv (l:Nat) (d:Cl):List Cl->List Cl
 | []=>[]
 | c::r=>ad9 l d c::Sv l d r
def aiX (l:Nat) (d:Cl):S1->S1
 | .c x=>.c (ad9 l d x)
 | .agg cs=>.agg (Sv l d cs)
def YD (l:Nat) (d:Cl):List S1->List S1
 | []=>[]
 | c::r=>aiX l d c::YD l d r
def aiW (l:Nat) (d:Cl):SV->SV
 | .v x=>.v (aiX l d x)
 | .cC xs=>.cC (YD l d xs)
 | .any=>.any
 | .arr k l=>.arr k l
section
variable {E:Env} {g:World} {l:Nat} {d:Cl}
theorem MI (hd:∀ u,E[l]?=some u->ck E g d u) {c:Cl} {u:Value} (h:ck E g c u):ck E g (ad9 l d c) u:=by
 unfold ad9;split
 .rename_i k;cases hb:Nat.beq k l with
  | true=>
   rw [ai hb] at h;exact hd u h.1
  | false=>exact h
 omega
theorem yb (hd:∀ u,E[l]?=some u->ck E g d u):∀ {cs:List Cl} {us:List Value},bz E g cs us->bz E g (Sv l d cs) us
 | [],_,h=>h
 | _::_,_,⟨u,r,e,h1,h2⟩=>⟨u,r,e,MI hd h1,yb hd h2⟩
theorem MH (hd:∀ u,E[l]?=some u->ck E g d u):∀ {x:S1} {u:Value},gr E g x u->gr E g (aiX l d x) u
 | .c _,_,h=>MI hd h
 | .agg _,_,⟨us,h1,h2⟩=>⟨us,yb hd h1,h2⟩
theorem Gu (hd:∀ u,E[l]?=some u->ck E g d u):∀ {cs:List S1} {us:List Value},ir E g cs us->ir E g (YD l d cs) us
 | [],_,h=>h
 | _::_,_,⟨u,r,e,h1,h2⟩=>⟨u,r,e,MH hd h1,Gu hd h2⟩
theorem MF (hd:∀ u,E[l]?=some u->ck E g d u):∀ {x:SV} {u:Value},dd E g x u->dd E g (aiW l d x) u
 | .v _,_,h=>MH hd h
 | .cC _,_,⟨us,h1,h2⟩=>⟨us,Gu hd h1,h2⟩
 | .any,_,h=>h
 | .arr _ _,_,h=>h
end
theorem MJ {E:Env} {g:World} {e:Ty} {u:Value} (h:ck E g (.k (.slice none 0 0)) u):ck E g (.d e []) u:=by
 have hu:u= .slice none 0 0:=h.1;subst hu;letI:=e.rep;exact (dE (α:=e.den)).2 (.inl ⟨rfl,rfl⟩)
section
variable {P:Program} {I:cV->Prop} {f:FuncId} {args:List SV} {H:List HO} {Q Q':SV->List HO->Prop}
theorem Wp.res (h:Wp I P f args H λsv H'=>∃ OR,(∀ E g v,dd E g sv v->dd E g OR v)/\Q OR H'):Wp I P f args H Q:=λW hW g w E F vs hs hv=>
 (h W hW g w E F vs hs hv).mono (by grind)
end
section
variable {P:Program} {I:cV->Prop} {f:FuncId} {args:List SV} {H:List HO} {Q Q':SV->List HO->Prop} {W:cV} {E:Env} {g w:World} {F:List Atom}
theorem Wp.xy {p:Nat} {t tt:TypeId} {e:Ty} (h:Wp I P f args H λsv H'=>∃ cs1 cs2,H'[p]?=some (.cells t (cs1++ .k (.slice none 0 0)::cs2))/\Q sv ((H'.set p (.cells t (cs1++ .o H'.length::cs2)))++ [.sl tt e []])):Wp I P f args H Q:=λW hW g w E F vs hs hv=>
 (h W hW g w E F vs hs hv).mono λv w' ⟨E1,g1,sv,H1,e1,m1,s1,r1,cs1,cs2,hp,hq⟩=>by
  have JF:=(aw.1 hp).1;letI:=e.rep;have H2:=SL.zT e.den tt s1.sl;have hlen:E1.length=H1.length:=s1.len;have he:bu E1 (E1++ [Value.slice none 0 0]):=bu.app _ _;have S1:Sat W (E1++ [Value.slice none 0 0]) g1 w' (H1++ [.sl tt e []]) F:=Sat.push (o:=.sl tt e []) hlen (H2.cv λ_ ⟨k1,k2,ap,q,x1,x2⟩=>⟨k1,k2,ap,q,⟨_,by rw [<-hlen];simp,x1⟩,x2⟩);refine ⟨E1++ [.slice none 0 0],g1,sv,_,e1.trans he,m1,⟨?_,by simp [hlen]⟩,r1.mono he (bt.refl _),hq⟩;have Z6:(H1++ [HO.sl tt e []])[p]?=some (.cells t (cs1++ .k (.slice none 0 0)::cs2)):=by grind
  refine S1.sl.cv λk s=>?_;obtain ⟨k1,k2,ap,e2,⟨bb,us,hE,hrel,hblk⟩,s2⟩:=bd.sk Z6 s;obtain ⟨u1,u2,rfl,h1,⟨_,r,rfl,⟨rfl,_⟩,h3⟩⟩:=bz.split hrel;have hn:(E1++ [Value.slice none 0 0])[H1.length]?=some (.slice none 0 0):=by rw [<-hlen];simp
  have s3:bd g1 (cF (E1++ [Value.slice none 0 0]) p (.cells t (cs1++ .o H1.length::cs2))::(a8 (E1++ [Value.slice none 0 0]) 0 ((H1++ [HO.sl tt e []]).set p .gone)++F)) k:=⟨k1,k2,ap,e2,⟨bb,_,hE,h1.app ⟨_,r,rfl,⟨hn,none,0,0,rfl⟩,h3⟩,hblk⟩,s2⟩;have s4:=bd.Em (l:=p) (by simp;omega) s3;simp_all
end
theorem Na:∀ {H:List HO} {n l:Nat} {o:HO},l< n->lF (H.set n o) l=lF H l
 | [],_,_,_,_=>rfl
 | _::_,0,_,_,h=>by omega
 | _::_,_+1,0,_,_=>rfl
 | _::r,n+1,l+1,o,h=>Na (H:=r) (by omega)
theorem aje (n m:Nat) (h:m<=n):(bQ n).take m=bQ m:=by
 grind
section
variable {P:Program} {I:cV->Prop} {f:FuncId} {args:List SV} {H:List HO} {Q Q':SV->List HO->Prop}
abbrev LY (n:Nat) (H:List HO):List HO:=(bQ n).map λl=>(lF H l).fj (iD (bQ n))
theorem YM {W:cV} {E:Env} {g w:World} {F:List Atom} {n:Nat} (s:Sat W E g w H F) (hn:n<=H.length):Sat W ((bQ n).map λl=>(E[l]?).getD undef) g w (LY n H) F:=by
 have wj:mR (iD (bQ n)) E ((bQ n).map λl=>(E[l]?).getD undef):=λl l' v h1 h2=>by
  have:=oP h1
  grind
 refine ⟨s.sl.cv λh0 x=>?_,by simp⟩;have x1:=bd.qD (ob:=lF H) (ls:=bQ n) List.nodup_range (λl hl=>by
  have Al:l< H.length:=by have:=dF.1 hl;omega
  rw [aq Al,mI (aq Al)]) x
 have x2:=bd.YK x1;exact bd.xW wj (k:=0) (λi l hi=>by grind [qk]) x2
theorem Wp.amJ (h:Wp I P f args H λsv H'=>Q sv H'\/(∃ OR,(∀ E g v,dd E g sv v->dd E g OR v)/\Q OR H')\/∃ (n:Nat) (t:TypeId) (e:Ty) (xs:List e.den) (OR:SV),H.length<=n/\H'[n]?=some (.sl t e xs)/\(∀ E g v,(∀ u,E[n]?=some u->ck [] g (.d e xs) u)->dd E g sv v->dd [] g OR v)/\Q OR (LY n H')):Wp I P f args H Q:=λW hW g w E F vs hs hv=>
 (h W hW g w E F vs hs hv).mono λv w' ⟨E1,g1,sv,H1,e1,m1,s1,r1,q⟩=>by
  rcases q with q| ⟨OR,k,q⟩| ⟨n,t,e,xs,OR,hn,hl,k,q⟩;exact ⟨E1,g1,sv,H1,e1,m1,s1,r1,q⟩;exact ⟨E1,g1,OR,H1,e1,m1,s1,k _ _ _ r1,q⟩
  .have fB:=(aw.1 hl).1;obtain ⟨u,hE⟩:∃ u,E1[n]?=some u:=⟨E1[n]'(by rw [s1.len];exact fB),aq _⟩;letI:=e.rep;have H2:SL W g1 w' (pD e t u xs::dJ (a8 E1 0 H1++F) n):=(s1.pick hl).cv λk ⟨h1,h2,ap,q,⟨u',x1,x2⟩,x3⟩=>⟨h1,h2,ap,q,by
    rw [hE] at x1;obtain rfl:=aj x1;exact x2,x3⟩
   obtain ⟨g2,m2,H3,hi⟩:=SL.qF (α:=e.den) H2;have S3:Sat W E1 g2 w' (H1.set n .gone) F:=Sat.back .gone s1.len hl (H3.cv λk s2=>⟨λ_=>none,k,λ_=>.inl rfl,rfl,trivial,s2⟩);have S4:=YM (n:=n) S3 (by rw [jc];omega);have e4:LY n (H1.set n .gone)=LY n H1:=jy λl hl=>by rw [Na (dF.1 hl)]
   rw [e4] at S4;refine ⟨_,g2,OR,_,λk u hk=>?_,m1.trans m2,S4,(k E1 g2 _ (λu' hu=>by
    rw [hE] at hu;obtain rfl:=aj hu;exact hi) (r1.mono (bu.refl _) m2)).mono (λ_ _ h=>by simp at h) (bt.refl _),q⟩
   have hk0:k< H.length:=by
    have:=(aw.1 hk).1;rw [hs.len] at this;exact this
   rw [dj,List.getElem?_range (by omega)];simp [e1 k u hk]
theorem Wp.Jh {e:Ty} (h:Wp I P f args H λsv H'=>Q sv H'\/(sv= .c (.k (.slice none 0 0))/\Q (.c (.d e [])) H')\/∃ (n:Nat) (t:TypeId) (xs:List e.den),sv= .c (.o n)/\H.length<=n/\H'[n]?=some (.sl t e xs)/\Q (.c (.d e xs)) (LY n H')):Wp I P f args H Q:=
 Wp.amJ (h.mono λsv H' q=>by
  rcases q with q| ⟨rfl,q⟩| ⟨n,t,xs,rfl,h1,h2,q⟩
  .grind
  .exact .inr (.inl ⟨.c (.d e []),λE g v h=>(MJ h:ck E g (.d e []) v),q⟩)
  .exact .inr (.inr ⟨n,t,e,xs,.c (.d e xs),h1,h2,λE g v hu hr=>hu v (show ck E g (.o n) v from hr).1,q⟩))
theorem Gt {E E':Env} {g:World} {a b a' b':S1} (h1:∀ u,gr E g a u->gr E' g a' u) (h2:∀ u,gr E g b u->gr E' g b' u):∀ v,dd E g (.cC [a,b]) v->dd E' g (.cC [a',b']) v:=by
 rintro v ⟨us,⟨u,q,rfl,x1,⟨u2,q2,rfl,x2,x3⟩⟩,rfl⟩;exact ⟨_,⟨u,_,rfl,h1 u x1,u2,q2,rfl,h2 u2 x2,x3⟩,rfl⟩
theorem Wp.agu {e:Ty} (h:Wp I P f args H λsv H'=>Q sv H'\/(∃ x,sv= .cC [.c (.k (.slice none 0 0)),.c (.k x)]/\Q (.cC [.c (.d e []),.c (.k x)]) H')\/∃ (n:Nat) (t:TypeId) (xs:List e.den) (x:Value),sv= .cC [.c (.o n),.c (.k x)]/\H.length<=n/\H'[n]?=some (.sl t e xs)/\Q (.cC [.c (.d e xs),.c (.k x)]) (LY n H')):Wp I P f args H Q:=
 Wp.amJ (h.mono λsv H' q=>by
  rcases q with q| ⟨x,rfl,q⟩| ⟨n,t,xs,x,rfl,h1,h2,q⟩
  .grind
  .exact .inr (.inl ⟨.cC [.c (.d e []),.c (.k x)],λE g=>Gt (λu h=>(MJ h:ck E g (.d e []) u)) λ_ h=>h,q⟩)
  .exact .inr (.inr ⟨n,t,e,xs,.cC [.c (.d e xs),.c (.k x)],h1,h2,λE g v hu=>Gt (E:=E) (E':=[]) (g:=g) (a:=.c (.o n)) (a':=.c (.d e xs)) (b:=.c (.k x)) (b':=.c (.k x)) (λu hr=>hu u (show ck E g (.o n) u from hr).1) (λ_ h=>h) v,q⟩))
theorem Wp.abv {p:Nat} {t tt:TypeId} {e:Ty} {cs1 cs2:List Cl} (hp:H[p]?=some (.cells t (cs1++ .k (.slice none 0 0)::cs2))) (h:Wp I P f args ((H.set p (.cells t (cs1++ .o H.length::cs2)))++ [.sl tt e []]) Q):Wp I P f args H Q:=Wp.beg λW E1 g1 w' F s1=>by
 have JF:=(aw.1 hp).1;letI:=e.rep;have H2:=SL.zT e.den tt s1.sl;have hlen:E1.length=H.length:=s1.len;have he:bu E1 (E1++ [Value.slice none 0 0]):=bu.app _ _;have S1:Sat W (E1++ [Value.slice none 0 0]) g1 w' (H++ [.sl tt e []]) F:=Sat.push (o:=.sl tt e []) hlen (H2.cv λ_ ⟨k1,k2,ap,q,x1,x2⟩=>⟨k1,k2,ap,q,⟨_,by grind,x1⟩,x2⟩);refine ⟨E1++ [.slice none 0 0],_,he,⟨?_,by grind⟩,h⟩;have Z6:(H++ [HO.sl tt e []])[p]?=some (.cells t (cs1++ .k (.slice none 0 0)::cs2)):=by grind
 refine S1.sl.cv λk s=>?_;obtain ⟨k1,k2,ap,e2,⟨bb,us,hE,hrel,hblk⟩,s2⟩:=bd.sk Z6 s;obtain ⟨u1,u2,rfl,h1,⟨_,r,rfl,⟨rfl,_⟩,h3⟩⟩:=bz.split hrel;have hn:(E1++ [Value.slice none 0 0])[H.length]?=some (.slice none 0 0):=by grind
 have s3:bd g1 (cF (E1++ [Value.slice none 0 0]) p (.cells t (cs1++ .o H.length::cs2))::(a8 (E1++ [Value.slice none 0 0]) 0 ((H++ [HO.sl tt e []]).set p .gone)++F)) k:=⟨k1,k2,ap,e2,⟨bb,_,hE,h1.app ⟨_,r,rfl,⟨hn,none,0,0,rfl⟩,h3⟩,hblk⟩,s2⟩;have s4:=bd.Em (l:=p) (by simp;omega) s3;simp_all
end
end Go.Lm

namespace Go.Proofs
open Go Go.Lm Go.RowKit
set_option maxRecDepth 1000000
abbrev Inv (_:cV):Prop:=True
def fg:List (Nat×Ty):=[(38,noTy),(96,cU),(9,.str),(5,.u8),(44,ao1),(3,.int .i64),(35,.sl .u8),(107,.int .u32)]
abbrev cq (f:FuncId) (c:Ct):Prop:=∀ args H Q,c args H Q->Wp Inv cg f args H Q
abbrev af9 (l:List SV->List SV):Prop:=∀ (E:Env) (g:World) (a b:List SV),(∀ us,bA E g a us->bA E g b us)->∀ us,bA E g (l a) us->bA E g (l b) us
theorem af9.cons {l:List SV->List SV} (h:af9 l) (x:SV):af9 (λr=>l (x::r)):=λE g _ _ q=>h E g _ _ (bA.cE (by grind) q)
def OL (f:FuncId) (l:List SV->List SV) (c:Ct):Prop:=af9 l->∀ args H Q,c args H Q->Wp Inv cg f (l args) H Q
theorem eI {f:FuncId} {c:Ct} (h:OL f (λr=>r) c):cq f c:=h (by grind)
def cI (k:Int->Ct):Ct
 | .v (.c (.k (.int .i64 x)))::r,H,Q=>k x r H Q
 | _,_,_=>False
theorem nF {f:FuncId} {l:List SV->List SV} {k:Int->Ct} (h:∀ x:Int,OL f (λr=>l (.v (.c (.k (.int .i64 x)))::r)) (k x)):OL f l (cI k):=λhl args H Q q=>by
 unfold cI at q;split at q;exact h _ (hl.cons _) _ _ _ q
 grind
def cB (k:Int->Ct):Ct
 | .v (.c (.k (.int .u8 x)))::r,H,Q=>k x r H Q
 | _,_,_=>False
theorem okB {f:FuncId} {l:List SV->List SV} {k:Int->Ct} (h:∀ x:Int,OL f (λr=>l (.v (.c (.k (.int .u8 x)))::r)) (k x)):OL f l (cB k):=λhl args H Q q=>by
 unfold cB at q;split at q;exact h _ (hl.cons _) _ _ _ q
 grind
def cS (k:ByteArray->Ct):Ct
 | .v (.c (.k (.string x)))::r,H,Q=>k x r H Q
 | _,_,_=>False
theorem Zp {f:FuncId} {l:List SV->List SV} {k:ByteArray->Ct} (h:∀ x:ByteArray,OL f (λr=>l (.v (.c (.k (.string x)))::r)) (k x)):OL f l (cS k):=λhl args H Q q=>by
 unfold cS at q;split at q;exact h _ (hl.cons _) _ _ _ q
 grind
def cT (k:List Int->Ct):Ct
 | .v (.c (.de (.int .u32) x 0 0))::r,H,Q=>k x r H Q
 | _,_,_=>False
theorem okT {f:FuncId} {l:List SV->List SV} {k:List Int->Ct} (h:∀ x:List Int,OL f (λr=>l (.v (.c (.de (.int .u32) x 0 0))::r)) (k x)):OL f l (cT k):=λhl args H Q q=>by
 unfold cT at q;split at q;exact h _ (hl.cons _) _ _ _ q
 grind
def cP (k:Ct):Ct
 | .v (.c (.p 0 0))::r,H,Q=>k r H Q
 | _,_,_=>False
theorem rZ {f:FuncId} {l:List SV->List SV} {k:Ct} (h:OL f (λr=>l (.v (.c (.p 0 0))::r)) k):OL f l (cP k):=λhl args H Q q=>by
 unfold cP at q;split at q;exact h (hl.cons _) _ _ _ q
 grind
def cD (e:Ty) (k:List e.den->Ct):Ct
 | .v (.c c)::r,H,Q=>match (Ty.sl e).of [c] with
  | some (x,[])=>k x r H Q
  | _=>False
 | _,_,_=>False
theorem iH {f:FuncId} {l:List SV->List SV} {e:Ty} {k:List e.den->Ct} (h:∀ x,OL f (λr=>l (.c (.d e x)::r)) (k x)):OL f l (cD e k):=λhl args H Q q=>by
 unfold cD at q;split at q;rotate_left
 .grind
 split at q;rotate_left
 .grind
 exact Wp.said (by grind [bA.cE, dI]) (h _ (hl.cons _) _ _ _ q)
def cN (e:Ty) (k:e.den->Ct):Ct
 | .v (.agg c)::r,H,Q=>match e.of c with
  | some (x,[])=>k x r H Q
  | _=>False
 | _,_,_=>False
theorem PV {f:FuncId} {l:List SV->List SV} {e:Ty} {k:e.den->Ct} (h:∀ x,OL f (λr=>l (.v (.agg (Ty.cells e x))::r)) (k x)):OL f l (cN e k):=λhl args H Q q=>by
 unfold cN at q;split at q;rotate_left
 .grind
 split at q;rotate_left
 .grind
 exact Wp.said (by grind [bA.cE, Ji]) (h _ (hl.cons _) _ _ _ q)
def c0 (k:(SV->List HO->Prop)->Prop):Ct
 | [],[],Q=>k Q
 | _,_,_=>False
theorem gx {f:FuncId} {l:List SV->List SV} {k:(SV->List HO->Prop)->Prop} (h:∀ Q,k Q->Wp Inv cg f (l []) [] Q):OL f l (c0 k):=λhl args H Q q=>by
 unfold c0 at q
 grind
def cO (k:List HO->(SV->List HO->Prop)->Prop):Ct
 | [],H,Q=>k H Q
 | _,_,_=>False
theorem r5 {f:FuncId} {l:List SV->List SV} {k:List HO->(SV->List HO->Prop)->Prop} (h:∀ H Q,k H Q->Wp Inv cg f (l []) H Q):OL f l (cO k):=λhl args H Q q=>by
 unfold cO at q
 grind
def abh:Ct:=c0 λQ=>Q (.arr .u32 dB) []
abbrev dq:=(SV->List HO->Prop)->Prop
structure XP where
 ct:List (Nat×Ct)
 ok:jJ Inv cg ct
def XP.nil:XP:=⟨[],jJ.nil _ _⟩
def XP.add (x:XP) {f:FuncId} {c:Ct} (w:cq f c):XP:=⟨(f,c)::x.ct,jJ.cons w x.ok⟩
abbrev XP.v (x:XP) (ty:List (Nat×Ty)) (hold:List Nat:=[]) (ro:List Nat:=[]) (unr:List (Nat×Nat):=[]) (clo:Bool:=false) (cloH:Bool:=false) (pmT:List (Nat×Nat×Ty):=[]) (chk:List (Nat×Ty):=[]) (sfh:Bool:=false) (mkd:Bool:=false):Vx:= {P:=cg,ct:=x.ct,ty:=ty,hold:=hold,ro:=ro,unr:=unr,clo:=clo,cloH:=cloH,pmT:=pmT,chk:=chk,sfh:=sfh,mkd:=mkd}
theorem Wp.dy (x:XP) (ty:List (Nat×Ty)) {f:FuncId} (an:EG) (fn:Func) {args:List SV} {H:List HO} {Q:SV->List HO->Prop} (V:dq) (h:V Q) (hold:List Nat:=[]) (ro:List Nat:=[]) (unr:List (Nat×Nat):=[]) (clo:Bool:=false) (cloH:Bool:=false) (pmT:List (Nat×Nat×Ty):=[]) (sfh:Bool:=false) (mkd:Bool:=false) (hf:Tryz.prog.funcs[f]?=some fn:=by kernel_rfl) (e:∀ Q,ad4 (x.v ty hold ro unr clo cloH pmT [] sfh mkd) an fn args H Q=V Q:=by intro _;kernel_rfl):Wp Inv cg f args H Q:=Wp.QC (X:=x.v ty hold ro unr clo cloH pmT [] sfh mkd) x.ok an hf e h
def gp:=XP.nil
abbrev aS (y0:Int):=ax y0
abbrev cj (y0:Int) (R:Prop):=aB .i64 (y0+1)/\R
abbrev dO (y0:List Int) (R:Prop):=List.length y0=bI/\R
abbrev IL (y0):=IntKind.wrap .u32 (da BinOp.and .u32 y0 aW*3988292384)
abbrev bj (R:Prop):=ah=ah/\R
abbrev oB:=(↑bI:Int)
def FR:dq:=
 λQ=>aK (λi ag=>br (decide (i.1.1< 256)) (aB .u32 (IntKind.wrap .u32 i.1.1)->aK (λbG ag_1=>br (decide (bG.1.2.1< 8)) (ah<=aW/\(aB .u32 (ll .u32 bG.1.1 aW)->aB .u32 (da BinOp.and .u32 bG.1.1 
 aW)->aB .u32 (IL bG.1.1)->aB .u32 (da BinOp.xor .u32 (ll .u32 bG.1.1 aW) (IL bG.1.1))->cj bG.1.2.1 (ag_1 ((da BinOp.xor .u32 (ll .u32 bG.1.1 aW) (IL bG.1.1),bG.1.2.1+1,()),())))) (bj (0 
 <=i.1.1/\i.1.1< oB/\i.1.1< (aP i.2.1)/\0<=i.1.1/\i.1.1< (aP i.2.1)/\cj i.1.1 (ag ((i.1.1+1,()),List.set i.2.1 (aS i.1.1) bG.1.1,()))))) ((IntKind.wrap .u32 i.1.1,ah,()),())) (bj (dO i.2.1 (bj 
 (bI=bI/\dO i.2.1 (bj (dO i.2.1 (Q (SV.arr .u32 i.2.1) [])))))))) ((ah,()),au bI (0:Ty.den (.int .u32)),())
theorem Bn:cq 46 abh:=eI<| gx λQ h=>by
 refine Wp.dy gp fg ⟨[(4,⟨[(4,.int .i64)],[(1,.sl 109 (.int .u32))]⟩),(8,⟨[(3,.int .u32),(9,.int .i64)],[]⟩)],[]⟩ Tryz.f46 FR ?_;unfold FR oB bj IL dO cj aS ah aW aP bI;refine aK.intro (λi=>0<=i.1.1/\i.1.1<=256/\i.2.1=xr i.1.1.toNat) (λi=>256 - i.1.1.toNat) ⟨by simp,by simp,QG⟩ ?_;rintro ⟨⟨i,_⟩,L,_⟩ ⟨h0,h1,h2⟩;simp only at h0 h1 h2 ⊢;subst h2;refine ak (λhc=>λ_=>?_) (λhc=>?_)
 .have hc:i< 256:=of_decide_eq_true hc;refine aK.intro (λj=>0<=j.1.2.1/\j.1.2.1<=8/\j.1.1=xt j.1.2.1.toNat (IntKind.wrap .u32 i)) (λj=>8 - j.1.2.1.toNat) ⟨by simp,by simp,rfl⟩ ?_;rintro ⟨⟨r,k,_⟩,_⟩ ⟨g0,g1,g2⟩;simp only at g0 g1 g2 ⊢;subst g2;refine ak (λhd=>⟨by omega,λ_ _ _ _=>⟨by unfold aB;have hd:k< 8:=of_decide_eq_true hd;omega,⟨by omega,by have hd:k< 8:=of_decide_eq_true hd;omega,?_⟩,by have hd:k< 8:=of_decide_eq_true hd;show 8 - (k+1).toNat< 8 - k.toNat;omega⟩⟩) (λhd=>?_)
  .show aaB (xt k.toNat _)=xt (k+1).toNat _;rw [show (k+1).toNat=k.toNat+1 by omega];rfl
  .have hd:¬k< 8:=of_decide_eq_false hd;have hl:(xr i.toNat).length=256:=Hc _;refine ⟨trivial,h0,hc,by rw [hl];omega,h0,by rw [hl];omega,by unfold aB;omega,⟨by omega,by omega,?_⟩,by show 256 - (i+1).toNat< 256 - i.toNat;omega⟩;rw [show (i+1).toNat=i.toNat+1 by omega,show k.toNat=8 by omega];refine Eq.trans ?_ (QH (by omega));unfold Hd;rw [Int.toNat_of_nonneg h0]
 .have hc:¬i< 256:=of_decide_eq_false hc;have e:i.toNat=256:=by omega
  rw [e];have hl:(xr 256).length=256:=Hc _;refine ⟨trivial,hl,trivial,trivial,hl,trivial,hl,?_⟩;rw [QI];exact h
def Hz:Ct
 | [.v (.c (.de (.int .u32) T 0 0)),.v (.c (.k (.int .u32 s))),.v (.c cb)],[],Q=>(match (Ty.sl Ty.u8).of [cb] with
  | some (b,[])=>T.length=256/\Q (.k (.int .u32 (cn T s b))) []
  | _=>False)
 | _,_,_=>False
def aoc:=gp.add Bn
abbrev CM (y0) (y1:List (Ty.u8).den) (y2):=da BinOp.xor .u8 (IntKind.wrap .u8 y0) (↑(cz (aA Ty.u8 y1 y2)):Int)
abbrev CL:=if ij .u32=true then (-1:Int) else mU .u32
abbrev dr (y0:List (Ty.u8).den):=List.length y0
abbrev ym (y0:List (Ty.u8).den) (y1):=(↑(cz (aA Ty.u8 y0 y1)):Int)
abbrev qJ (y0:Int):=IntKind.wrap .u8 y0
def BN (T:List Int) (s:Int) (b:(List (Ty.u8).den)):dq:=λQ=>aB .u32 s->aJ (dr b)->aB .u32 (da BinOp.xor .u32 CL s)->aJ (dr b)->aK (λi ag=>br (decide (i.1.1< (ay b))) (0<=i.1.1/\i.1.1< (ay b)/\(Ty.ok Ty.u8 (aA Ty.u8 b i.1.1)->ah<=iF/\ 
 (aB .u32 (ll .u32 i.1.2.1 iF)->aB .u8 (qJ i.1.2.1)->aB .u8 (CM i.1.2.1 b i.1.1)->bj (0<=da BinOp.xor .u8 (qJ i.1.2.1) (ym b i.1.1)/\da BinOp.xor .u8 (qJ i.1.2.1) (ym b i.1.1)< oB/\da 
 BinOp.xor .u8 (qJ i.1.2.1) (ym b i.1.1)< (ay T)/\(Ty.ok (.int .u32) (aA (.int .u32) T (CM i.1.2.1 b i.1.1))->aB .u32 (da BinOp.xor .u32 (ll .u32 i.1.2.1 iF) (aA (.int .u32) T (CM i.1.2.1 b i.1.1)))->cj 
 i.1.1 (ag ((i.1.1+1,da BinOp.xor .u32 (ll .u32 i.1.2.1 iF) (aA (.int .u32) T (CM i.1.2.1 b i.1.1)),()),()))))))) (aB .u32 (da BinOp.xor .u32 CL i.1.2.1)->Q (.v (.c (.k (.int .u32 (da BinOp.xor .u32 CL 
 i.1.2.1))))) [])) ((ah,da BinOp.xor .u32 CL s,()),())
theorem U1:cq 145 Hz:=by
 intro args H Q h;unfold Hz at h;split at h;rotate_left;cases h;rename_i T s cb;split at h;rotate_left;cases h;rename_i b hb;refine Wp.said (args':=[.v (.c (.de (.int .u32) T 0 0)),.k (.int .u32 s),.c (.d Ty.u8 b)]) (λE g=>bA.cE (λ_ h=>h) (bA.cE (λ_ h=>h) (bA.cE (dI hb) (λ_ h=>h)))) ?_;clear hb;refine Wp.dy aoc fg ⟨[(4,⟨[(14,.int .i64),(7,.int .u32)],[]⟩)],[]⟩ Tryz.f145 (BN T s b) ?_;unfold BN oB qJ ym bj dr CL CM cj ah iF ay aJ bI;obtain ⟨hT,h⟩:=h;intro _ _ _ _;refine aK.intro (λi=>0<=i.1.1/\i.1.1<=b.length/\i.1.2.1=aaA T (JT s) (b.take i.1.1.toNat)) (λi=>b.length - i.1.1.toNat) ⟨by simp,by simp,by rfl⟩ ?_;rintro ⟨⟨i,r,_⟩,_⟩ ⟨h0,h1,h2⟩;simp only at h0 h1 h2 ⊢;subst h2;refine ak (λhc=>?_) (λhc=>?_)
 .have hc:i< (b.length:Int):=of_decide_eq_true hc;refine ⟨h0,hc,λ_=>⟨by omega,λ_ _ hx=>?_⟩⟩;obtain ⟨hx0,hx1⟩:=hx;refine ⟨trivial,hx0,by omega,by omega,λ_ _=>⟨by unfold aB;omega,⟨by omega,by omega,?_⟩,by omega⟩⟩;rw [show (i+1).toNat=i.toNat+1 by omega,bY (by omega)];unfold aaA;rw [List.foldl_append];have e:aA .u8 b i=b[i.toNat]'(by omega):=by
   unfold aA;rw [dh,aq (by omega)];rfl
  rw [e];rfl
 .have hc:¬i< (b.length:Int):=of_decide_eq_false hc;rw [aL (by omega)];exact λ_=>h
def abg:Ct:=cT λT=>cD .u8 λb=>c0 λQ=>T.length=256/\Q (.k (.int .u32 (cn T 0 b))) []
def aob:=aoc.add U1
abbrev cJ (y0:List (Ty.u8).den) (R:Prop):=List.length y0<=9223372036854775807->R
def FQ (T:List Int) (b:(List (Ty.u8).den)):dq:=λQ=>cJ b (dO T (aB .u32 (cn T ah b)->Q (.v (.c (.k (.int .u32 (cn T ah b))))) []))
theorem X0:cq 95 abg:=eI<| okT λT=>iH λb=>gx λQ h=>by
 refine Wp.dy aob fg ⟨[],[]⟩ Tryz.f95 (FQ T b) ?_;unfold FQ dO cJ ah bI
 grind
def Uf:Ct:=cP<| cI λe=>cO λH Q=>match H with
 | [.cells 187 [.k (.int .i64 c),.d .u8 b]]=>Q .tV [.cells 187 [.k (.int .i64 (nK c e)),.d .u8 (b)]]
 | _=>False
def ak9:=aob.add X0
abbrev aC (y0:Int):Value:=.int .i64 y0
def LK (e c:Int) (b:List UInt8):dq:=λQ=>aB .i64 e->br (c==0) (Q (SV.cC []) [.cells 187 [.k (aC e),Cl.d Ty.u8 b]]) (Q (SV.cC []) [.cells 187 [.k (aC c),Cl.d Ty.u8 b]])
theorem Rr:cq 138 Uf:=eI<| rZ<| nF λe=>r5 λH Q h=>by
 split at h;rotate_left;cases h;rename_i c b;refine Wp.dy ak9 fg ⟨[],[]⟩ Tryz.f138 (LK e c b) ?_;unfold LK aC;intro _;refine ak (λhc=>?_) (λhc=>?_)
 .grind [nK]
 grind [nK]
def Ue:Ct:=cP<| cI λe=>cO λH Q=>match H with
 | [.cells 174 [.k (.int .i64 c),.o 1],.sl 5 .u8 x]=>Q .tV [.cells 174 [.k (.int .i64 (nK c e)),.o 1],.sl 5 .u8 (x)]
 | _=>False
def aqz:=ak9.add Rr
abbrev CE (y0:SV->List HO->Prop) (y1:Int) (y2:List UInt8):=y0 (SV.cC []) [.cells 174 [.k (aC y1),.o 1],.sl 5 Ty.u8 y2]
def LJ (e c:Int) (x:List UInt8):dq:=λQ=>aB .i64 e->br (c==0) (CE Q e x) (CE Q c x)
theorem adV:cq 138 Ue:=eI<| rZ<| nF λe=>r5 λH Q h=>by
 split at h;rotate_left;cases h;rename_i c x;refine Wp.dy aqz fg ⟨[],[]⟩ Tryz.f138 (LJ e c x) ?_;unfold LJ CE aC;intro _;refine ak (λhc=>?_) (λhc=>?_)
 .grind [nK]
 grind [nK]
def aba:Ct:=λargs H Q=>match H with
 | [.cells _ [_,.d _ _]]=>Uf args H Q
 | [.cells _ [_,.o _],_]=>Ue args H Q
 | _=>False
theorem aiG:cq 138 aba:=λargs H Q h=>by
 unfold aba at h
 grind [Rr, adV]
def abc:Ct:=cP<| cO λH Q=>match H with
 | [.cells 187 [.k (.int .i64 c),.d .u8 b]]=>Q (.int c) [.cells 187 [.k (.int .i64 (c)),.d .u8 (b)]]
 | _=>False
def ak8:=ak9.add aiG
abbrev fC (y0:Int):SV:=.v (.c (.k (aC y0)))
def Sc (c:Int) (b:List UInt8):dq:=λQ=>Q (fC c) [.cells 187 [.k (aC c),Cl.d Ty.u8 b]]
theorem XY:cq 88 abc:=eI<| rZ<| r5 λH Q h=>by
 split at h;rotate_left;cases h;rename_i c b;refine Wp.dy ak8 fg ⟨[],[]⟩ Tryz.f88 (Sc c b) ?_;unfold Sc fC aC;exact h
def abb:Ct:=cP<| cO λH Q=>match H with
 | [.cells 174 [.k (.int .i64 c),.o 1],.sl 5 .u8 x]=>Q (.int c) [.cells 174 [.k (.int .i64 (c)),.o 1],.sl 5 .u8 (x)]
 | _=>False
def an8:=ak8.add XY
def Sb (c:Int) (x:List UInt8):dq:=λQ=>Q (fC c) [.cells 174 [.k (aC c),.o 1],.sl 5 Ty.u8 x]
theorem XX:cq 88 abb:=eI<| rZ<| r5 λH Q h=>by
 split at h;rotate_left;cases h;rename_i c x;refine Wp.dy an8 fg ⟨[],[]⟩ Tryz.f88 (Sb c x) ?_;unfold Sb fC aC;exact h
def abd:Ct:=cP<| cO λH Q=>match H with
 | [.cells 174 [.k (.int .i64 c),.k (.slice none 0 0)]]=>Q (.int c) [.cells 174 [.k (.int .i64 c),.k (.slice none 0 0)]]
 | _=>False
def aqy:=an8.add XX
abbrev eP:Value:=.slice none 0 0
def Sd (c:Int):dq:=λQ=>Q (fC c) [.cells 174 [.k (aC c),.k eP]]
theorem aiH:cq 88 abd:=eI<| rZ<| r5 λH Q h=>by
 split at h;rotate_left;cases h;rename_i c;refine Wp.dy aqy fg ⟨[],[]⟩ Tryz.f88 (Sd c) ?_;unfold Sd fC eP aC;exact h
def ag8:Ct:=λargs H Q=>match H with
 | [.cells _ [_,.d _ _]]=>abc args H Q
 | [.cells _ [_,.o _],_]=>abb args H Q
 | [.cells _ [_,.k _]]=>abd args H Q
 | _=>False
theorem amp:cq 88 ag8:=λargs H Q h=>by
 unfold ag8 at h
 grind [XY, XX, aiH]
def QV:Ct
 | [.v (.c (.o 0))],[.sl 5 .u8 x],Q=>x.length<=140737488355328/\Q (.c (.d .u8 x)) [.sl 5 .u8 x]
 | _,_,_=>False
def ak7:=ak8.add amp
abbrev dD:Cl:=.k (.slice none 0 0)
abbrev cd:=(140737488355328:Nat)
abbrev IQ (y0:List UInt8) (y1:SV->List HO->Prop):=(0+List.length y0)*1<=cd/\0+List.length y0<=9223372036854775807/\y1 (SV.v (S1.c (.o 1))) [.sl 5 Ty.u8 y0,.sl 5 Ty.u8 ([]++y0)]
abbrev mY (y0:Bool):=if true=true then y0 else !y0
abbrev gW:SV:=.v (.c dD)
def Sg (x:List UInt8):dq:=λQ=>∀ (c:Bool),(c=true->x= [])->br (mY c) (Q gW [.sl 5 Ty.u8 x]) (IQ x Q)
theorem X8:cq 38 QV:=by
 intro args H Q h;unfold QV at h;split at h;rotate_left;cases h;rename_i x;refine Wp.Jh (e:=.u8) ?_;refine Wp.dy ak7 fg ⟨[],[]⟩ Tryz.f38 (Sg x) ?_;unfold Sg gW mY IQ cd dD;obtain ⟨hl,h⟩:=h;refine λc hc=>ak (λhb=>.inr (.inl ⟨rfl,?_⟩)) (λhb=>⟨by omega,by omega,.inr (.inr ⟨1,5,x,rfl,aG 1,rfl,h⟩)⟩)
 grind
def abn:Ct:=cD .u8 λx=>c0 λQ=>x.length<=140737488355328/\Q (.c (.d .u8 x)) []
def aoa:=ak7.add X8
abbrev zY (y0:List (Ty.u8).den) (y1:SV->List HO->Prop):=(∀ (c:Bool),(c=true->y0= [])->br (if true=true then c else !c) (y1 (.v (.c dD)) []) ((0+List.length y0)*1<=cd/\0+List.length y0<=9223372036854775807/\y1 (SV.v (S1.c (.o 0))) [.sl 5 Ty.u8 ([]++y0)]))
def Sj (x:(List (Ty.u8).den)):dq:=λQ=>cJ x (zY x Q)
theorem O2:cq 38 abn:=eI<| iH λx=>gx λQ h=>by
 refine Wp.Jh (e:=.u8) ?_;refine Wp.dy aoa fg ⟨[],[]⟩ Tryz.f38 (Sj x) ?_;unfold Sj zY cd cJ dD;refine λ_ c hc=>ak (λhb=>.inr (.inl ⟨rfl,?_⟩)) (by grind)
 grind
def ahb:Ct:=λargs H Q=>match H with
 | []=>abn args H Q
 | [_]=>QV args H Q
 | _=>False
theorem ams:cq 38 ahb:=λargs H Q h=>by
 unfold ahb at h
 grind [O2, X8]
def akt:Ct:=cD .u8 λb=>c0 λQ=>b.length<=140737488355328/\Q (.c (.p 0 0)) [.cells 187 [.k (.int .i64 (0)),.d .u8 (b)]]
def ah2:=ak7.add ams
abbrev aT:Value:=.int .i64 0
def RM (b:(List (Ty.u8).den)):dq:=λQ=>cJ b (fa (dr b)/\(aJ (dr b)->Q (SV.v (S1.c (.p 0 0))) [.cells 187 [.k aT,Cl.d Ty.u8 b]]))
theorem aip:cq 97 akt:=eI<| iH λb=>gx λQ h=>by
 refine Wp.dy ah2 fg ⟨[],[]⟩ Tryz.f97 (RM b) ?_;unfold RM dr cJ aT fa aJ
 grind
def aaR:Ct:=cP<| cI λn=>cO λH Q=>match H with
 | [.cells 187 [.k (.int .i64 c),.d .u8 b]]=>c=0/\0<=n/\b.length<=140737488355328/\Q (.c (.d .u8 (jM b n))) [.cells 187 [.k (.int .i64 (Kn b n)),.d .u8 (l8 b n)]]
 | _=>False
def ah1:=ah2.add aip
abbrev cL (y0:Int):=decide (y0< 0)
abbrev cW (y0:List UInt8) (R:Prop):=aJ (List.length y0)->R
abbrev pI (y0:Int) (y1:List UInt8):=List.take (aS y0) y1
abbrev vw (y0:Int) (y1:List UInt8):=List.length (pI y0 y1)
abbrev qK (y0:Int) (y1:List UInt8):=List.drop (aS y0) y1
def Fi (n c:Int) (b:List UInt8):dq:=λQ=>aB .i64 n->br (cL n) (br (nK c aW !=0) (Q gW [.cells 187 [.k (.int .i64 (nK c aW)),Cl.d Ty.u8 b]]) (0<=n/\n<=(ay b)/\fa (vw n b)/\(aJ (vw n b)->0<=n/\n<=(ay b)/\Q (SV.v (S1.c 
 (Cl.d Ty.u8 (pI n b)))) [.cells 187 [.k (.int .i64 (nK c aW)),Cl.d Ty.u8 (qK n b)]]))) (cW b (br (decide (n>(ay b))) (br (nK c dm !=0) (Q gW [.cells 187 [.k (.int .i64 (nK c dm)),Cl.d Ty.u8 b]]) (0<= 
 n/\n<=(ay b)/\fa (vw n b)/\(aJ (vw n b)->0<=n/\n<=(ay b)/\Q (SV.v (S1.c (Cl.d Ty.u8 (pI n b)))) [.cells 187 [.k (.int .i64 (nK c dm)),Cl.d Ty.u8 (qK n b)]]))) (br (c !=0) (Q gW [.cells 187 [.k 
 (aC c),Cl.d Ty.u8 b]]) (0<=n/\n<=(ay b)/\fa (vw n b)/\(aJ (vw n b)->0<=n/\n<=(ay b)/\Q (SV.v (S1.c (Cl.d Ty.u8 (pI n b)))) [.cells 187 [.k (aC c),Cl.d Ty.u8 (qK n b)]])))))
theorem Xy:cq 98 aaR:=eI<| rZ<| nF λn=>r5 λH Q h=>by
 split at h;rotate_left;cases h;rename_i c b;refine Wp.Jh (e:=.u8) ?_;refine Wp.dy ah1 fg ⟨[],[]⟩ Tryz.f98 (Fi n c b) ?_;unfold Fi gW qK vw pI cW cL dD aS aC aW dm ay fa aJ;obtain ⟨rfl,h0,hb,h⟩:=h;unfold jM Kn l8 at h;refine λ_=>ak (λhc=>?_) (λ_=>λ_=>ak (λhc=>?_) (λhc=>?_))
 .have hc:n< 0:=of_decide_eq_true hc;omega
 .have hc:n>(b.length:Int):=of_decide_eq_true hc;rw [if_pos hc,if_pos hc,if_pos hc] at h;exact ak (λ_=>.inr (.inl ⟨rfl,h⟩)) (λhd=>nomatch hd)
 .have hc:¬n>(b.length:Int):=of_decide_eq_false hc
  grind [ak]
def aks:Ct:=cP<| cI λn=>cO λH Q=>match H with
 | [.cells 187 [.k (.int .i64 c),.d .u8 b]]=>c=0/\1<=n/\n<=4/\n<=b.length/\b.length<=140737488355328/\Q (.int (bJ (b.take n.toNat))) [.cells 187 [.k (.int .i64 (0)),.d .u8 (b.drop n.toNat)]]
 | _=>False
def ah0:=ah1.add Xy
abbrev bw {A0:Type} (y0:List A0):=List.length y0
abbrev IW (y0) (y1:Int) (y2):=AB .i64 (↑(cz (aA Ty.u8 (jM y0 y1) y2)):Int) (iF*y2)
abbrev sU (y0:_->Prop) (y1:Int) (y2:List UInt8):=y0 ((),(nK y1 aW,y2,()),())
abbrev Cu (y0:Int) (R:Prop):=aB .i64 (iF*y0)/\ah<=iF*y0/\R
def RJ (n c:Int) (b:List UInt8):dq:=λQ=>aB .i64 n->cK (λk=>br (decide (n< 1)) (sU k c b) (br (decide (n>4)) (sU k c b) (k ((),(c,b,()),())))) λi=>i.2.1.1=ah/\0<=n/\fa (bw i.2.1.2.1)/\(aJ (List.length (jM i.2.1.2.1 
 n))->aJ (List.length (jM i.2.1.2.1 n))->aK (λbG ag=>br (decide (bG.1.1< (aP (jM i.2.1.2.1 n)))) (0<=bG.1.1/\bG.1.1< (aP (jM i.2.1.2.1 n))/\(Ty.ok Ty.u8 (aA Ty.u8 (jM i.2.1.2.1 n) bG.1.1)->Cu 
 bG.1.1 (aB .i64 (IW i.2.1.2.1 n bG.1.1)->aB .i64 (da BinOp.or .i64 bG.1.2.1 (IW i.2.1.2.1 n bG.1.1))->cj bG.1.1 (ag ((bG.1.1+1,da BinOp.or .i64 bG.1.2.1 (IW i.2.1.2.1 n bG.1.1),()),()))))) (Q (fC 
 bG.1.2.1) [.cells 187 [.k (.int .i64 (Kn i.2.1.2.1 n)),Cl.d Ty.u8 (l8 i.2.1.2.1 n)]])) ((ah,ah,()),()))
theorem aio:cq 99 aks:=eI<| rZ<| nF λn=>r5 λH Q h=>by
 split at h;rotate_left;cases h;rename_i c b;refine Wp.dy ah0 fg ⟨[(6,⟨[(22,.int .i64),(5,.int .i64)],[]⟩)],[(4,⟨[],[(0,.cells 187 [.int .i64,.d .u8])]⟩)]⟩ Tryz.f99 (RJ n c b) ?_;unfold RJ Cu sU IW fC cj bw aC ah aW iF aP fa aJ;obtain ⟨rfl,h1,h4,hb,hl,h⟩:=h;intro _;refine cK.intro (λi=>i.2.1.1=0/\i.2.1.2.1=b) (ak (λhc=>?_) (λ_=>ak (λhc=>?_) (by grind))) ?_
 .grind
 .grind
 rintro ⟨_,⟨c,b',_⟩,_⟩ ⟨rfl,e⟩;simp only at e ⊢;subst e;have hn:¬n>(b'.length:Int):=by omega
 rw [show jM b' n=b'.take n.toNat by unfold jM;rw [if_neg hn],show Kn b' n=0 by unfold Kn;rw [if_neg hn],show l8 b' n=b'.drop n.toNat by unfold l8;rw [if_neg hn]];have hlen:(b'.take n.toNat).length=n.toNat:=by grind
 refine ⟨trivial,by omega,hl,λ_ _=>?_⟩;generalize hz:b'.take n.toNat=z at h hlen ⊢;refine aK.intro (λj=>0<=j.1.1/\j.1.1<=z.length/\j.1.2.1=bJ (z.take j.1.1.toNat)) (λj=>z.length - j.1.1.toNat) ⟨by simp,by simp,rfl⟩ ?_;rintro ⟨⟨i,r,_⟩,_⟩ ⟨g0,g1,g2⟩;simp only at g0 g1 g2 ⊢;subst g2;refine ak (λhc=>?_) (λhc=>?_)
 .have hc:i< (z.length:Int):=of_decide_eq_true hc;refine ⟨g0,hc,λ_=>⟨by grind [aB],by omega,λ_ _=>⟨by grind [aB],⟨by omega,by omega,?_⟩,by omega⟩⟩⟩;have fB:(z.take i.toNat).length=i.toNat:=by grind
  rw [Zl g0 (by omega) (C8 _) (by have:=ZI (z.take i.toNat);rw [fB] at this;exact this)];rw [show (i+1).toNat=i.toNat+1 by omega,bY (by omega),Th,fB]
  grind [aA]
 grind
def afD:Ct:=cP<| cO λH Q=>match H with
 | [.cells 187 [.k (.int .i64 c),.d .u8 b]]=>c=0/\Q (.int b.length) [.cells 187 [.k (.int .i64 (0)),.d .u8 (b)]]
 | _=>False
def ahZ:=ah0.add aio
def Lb (c:Int) (b:List UInt8):dq:=λQ=>br (c !=0) (Q (.v (.c (.k aT))) [.cells 187 [.k (aC c),Cl.d Ty.u8 b]]) (cW b (Q (.v (.c (.k (.int .i64 (ay b))))) [.cells 187 [.k (aC c),Cl.d Ty.u8 b]]))
theorem ady:cq 100 afD:=eI<| rZ<| r5 λH Q h=>by
 split at h;rotate_left;cases h;rename_i c b;refine Wp.dy ahZ fg ⟨[],[]⟩ Tryz.f100 (Lb c b) ?_;unfold Lb cW aT aC ay aJ
 grind [ak]
def afC:Ct:=cP<| cO λH Q=>match H with
 | [.cells 187 [.k (.int .i64 c),.d .u8 b]]=>c=0/\(∃ z r,b=z::r/\z.toNat<=r.length/\b.length<=140737488355328/\Q (.str (fY (r.take z.toNat))) [.cells 187 [.k (.int .i64 (0)),.d .u8 (r.drop z.toNat)]])
 | _=>False
def ahY:=ahZ.add ady
abbrev yk (y0:List UInt8):=bJ (List.take bH y0)
def La (c:Int) (b:List UInt8):dq:=λQ=>c=ah/\aW<=aW/\aW<=cA/\aW<=(ay b)/\fa (List.length b)/\(aB .i64 (yk b)->bj (0<=bJ (List.take bH b)/\fa (List.length (List.drop 1 b))/\(aJ (List.length (jM (List.drop 1 b) 
 (yk b)))->Q (.v (.c (.k (.string (fY (jM (List.drop 1 b) (yk b))))))) [.cells 187 [.k (.int .i64 (Kn (List.drop 1 b) (yk b))),Cl.d Ty.u8 (l8 (List.drop 1 b) (yk b))]])))
theorem adx:cq 199 afC:=eI<| rZ<| r5 λH Q h=>by
 split at h;rotate_left;cases h;rename_i c b;refine Wp.dy ahY fg ⟨[],[]⟩ Tryz.f199 (La c b) ?_;unfold La yk bj ah aW cA ay fa aJ bH;obtain ⟨rfl,z,r,rfl,hz,hl,h⟩:=h;have e1:bJ (List.take 1 (z::r))=(z.toNat:Int):=by rfl
 refine ⟨rfl,by omega,by omega,by grind,hl,λ_=>⟨rfl,by omega,?_,λ_=>?_⟩⟩
 .grind
 simp_all [jM, Kn, l8, if_neg]
def aku:Ct:=cP<| cO λH Q=>match H with
 | [.cells 187 [.k (.int .i64 c),.d .u8 b]]=>c=0/\b= []/\Q (.int 0) [.cells 187 [.k (.int .i64 (0)),.d .u8 ([])]]
 | _=>False
def ahX:=ahY.add adx
def RN (c:Int) (b:List UInt8):dq:=λQ=>List.length b<=9223372036854775807->br (decide ((ay b)>ah)) (Q (.v (.c (.k (.int .i64 (nK c dm))))) [.cells 187 [.k (.int .i64 (nK c dm)),Cl.d Ty.u8 b]]) (Q (fC c) [.cells 187 [.k (aC c),Cl.d Ty.u8 
 b]])
theorem aiq:cq 227 aku:=eI<| rZ<| r5 λH Q h=>by
 split at h;rotate_left;cases h;rename_i c b;refine Wp.dy ahX fg ⟨[],[]⟩ Tryz.f227 (RN c b) ?_;unfold RN fC aC ah dm ay
 grind [ak]
def J3:Ct:=cP<| cI λm=>cI λn=>cO λH Q=>match H with
 | [.cells 174 [.k (.int .i64 c),.o 1],.sl 5 .u8 x]=>c=0/\(1<=n/\n<=4)/\(0<=m/\m< 256 ^ n.toNat)/\x.length<=100000000000/\Q .tV [.cells 174 [.k (.int .i64 (0)),.o 2],.gone,.sl 5 .u8 (x++aH n.toNat m.toNat)]
 | _=>False
def abY:=ahX.add aiq
abbrev bZ (y0:Int) (y1:Int) (R:Prop):=aB .i64 y0->aB .i64 y1->R
abbrev CF (y0:Int) (y1):=IntKind.wrap .u8 (ll .i64 y0 (iF*y1))
def K0 (m n c:Int) (x:List UInt8):dq:=λQ=>bZ m n (cK (λk=>br (decide (n< 1)) (sU k c x) (br (decide (n>4)) (sU k c x) (br (cL m) (sU k c x) (Cu n (aB .i64 (ll .i64 m (iF*n))->br (ll .i64 m (iF*n) !=0) (sU k c 
 x) (k ((),(c,x,()),()))))))) λi=>aK (λi ag=>br (decide (i.1.1< n)) (br (i.2.1.1==0) (Cu i.1.1 (aB .i64 (ll .i64 m (iF*i.1.1))->aB .u8 (CF m i.1.1)->(List.length i.2.1.2.1+List.length [az 
 (ax (CF m i.1.1))])*1<=cd/\List.length i.2.1.2.1+List.length [az (ax (CF m i.1.1))]<=9223372036854775807/\cj i.1.1 (ag ((i.1.1+1,()),(i.2.1.1,i.2.1.2.1++ [az (ax (CF m 
 i.1.1))],()),())))) (Q (SV.cC []) [.cells 174 [.k (aC i.2.1.1),.o 2],.gone,.sl 5 Ty.u8 i.2.1.2.1])) (Q (SV.cC []) [.cells 174 [.k (aC i.2.1.1),.o 2],.gone,.sl 5 Ty.u8 i.2.1.2.1])) ((ah,()),i.2))
theorem HU:cq 86 J3:=eI<| rZ<| nF λm=>nF λn=>r5 λH Q h=>by
 split at h;rotate_left;cases h;rename_i c x;refine Wp.dy abY fg ⟨[(4,⟨[(6,.int .i64)],[(0,.cells 174 [.int .i64,.own 5 .u8])]⟩)],[(3,⟨[],[(0,.cells 174 [.int .i64,.own 5 .u8])]⟩)]⟩ Tryz.f86 (K0 m n c x) ?_;unfold K0 Cu CF sU bZ cL cj cd aC ah aW iF;obtain ⟨rfl,⟨h1,h4⟩,⟨m0,m1⟩,hl,h⟩:=h;intro _ _;refine cK.intro (λi=>i.2.1.1=0/\i.2.1.2.1=x) (ak (λhc=>?_) (λ_=>ak (λhc=>?_) (λ_=>ak (λhc=>?_) (λ_=>⟨by unfold aB;omega,by omega,λ_=>ak (λhc=>?_) (λ_=>⟨rfl,rfl⟩)⟩)))) ?_
 .have hc:n< 1:=of_decide_eq_true hc;omega
 .have hc:n>4:=of_decide_eq_true hc;omega
 .have hc:m< 0:=of_decide_eq_true hc;omega
 .rw [YI m0 h1 h4 m1] at hc;cases hc
 rintro ⟨_,⟨c,x',_⟩,_⟩ ⟨rfl,e⟩;simp only at e ⊢;subst e;refine aK.intro (λj=>0<=j.1.1/\j.1.1<=n/\j.2.1.1=0/\j.2.1.2.1=x'++aH j.1.1.toNat m.toNat) (λj=>(n - j.1.1).toNat) (by simp [aH]; omega) ?_;rintro ⟨⟨i,_⟩,⟨c,y,_⟩,_⟩ ⟨g0,g1,rfl,g3⟩;simp only at g0 g1 g3 ⊢;subst g3;refine ak (λhc=>ak (λ_=>?_) (λhd=>nomatch hd)) (λhc=>?_)
 .have hc:i< n:=of_decide_eq_true hc;have hy:(x'++aH i.toNat m.toNat).length=x'.length+i.toNat:=by rw [af,aD]
  refine ⟨by unfold aB;omega,by omega,λ_ _=>⟨by rw [hy,aE];omega,by rw [hy,aE];omega,by unfold aB;omega,⟨by omega,by omega,trivial,?_⟩,by omega⟩⟩;rw [afZ m0 g0 (by omega),aM,<-GP,show (i+1).toNat=i.toNat+1 by omega]
 grind
def zk:Ct:=cP<| cD .u8 λb=>cO λH Q=>match H with
 | [.cells 174 [.k (.int .i64 c),.o 1],.sl 5 .u8 x]=>c=0/\x.length<=100000000000/\b.length<=100000000/\Q .tV [.cells 174 [.k (.int .i64 (0)),.o 2],.gone,.sl 5 .u8 (x++b)]
 | _=>False
def an9:=abY.add HU
abbrev yD (y0:List UInt8) (y1:List (Ty.u8).den) (R:Prop):=(List.length y0+List.length y1)*1<=cd/\List.length y0+List.length y1<=9223372036854775807/\R
def Bo (b:(List (Ty.u8).den)) (c:Int) (x:List UInt8):dq:=λQ=>cJ b (br (c==0) (yD x b (Q (SV.cC []) [.cells 174 [.k (aC c),.o 2],.gone,.sl 5 Ty.u8 (x++b)])) (CE Q c x))
theorem EN:cq 92 zk:=eI<| rZ<| iH λb=>r5 λH Q h=>by
 split at h;rotate_left;cases h;rename_i c x;refine Wp.dy an9 fg ⟨[],[]⟩ Tryz.f92 (Bo b c x) ?_;unfold Bo CE yD cd cJ aC
 grind [ak]
def J4:Ct
 | [.v (.c (.p 0 0)),.v (.c (.k (.int .i64 m))),.v (.c (.k (.int .i64 n)))],[.cells 174 [.k (.int .i64 c),.k (.slice none 0 0)]],Q=>J3 [.v (.c (.p 0 0)),.v (.c (.k (.int .i64 m))),.v (.c (.k (.int .i64 n)))] [.cells 174 [.k (.int .i64 c),.o 1],.sl 5 .u8 []] Q
 | _,_,_=>False
theorem adm:cq 86 J4:=λargs H Q h=>by
 unfold J4 at h;split at h;exact Wp.abv (p:=0) (t:=174) (tt:=5) (e:=.u8) (cs1:=[.k (.int .i64 _)]) (cs2:=[]) rfl (HU _ _ _ h)
 grind
def aaH:Ct:=λargs H Q=>match H with
 | [.cells _ [_,.k _]]=>J4 args H Q
 | [.cells _ [_,.o _],_]=>J3 args H Q
 | _=>False
theorem aih:cq 86 aaH:=λargs H Q h=>by
 unfold aaH at h
 grind [adm, HU]
def zm:Ct
 | [.v (.c (.p 0 0)),b],[.cells 174 [.k (.int .i64 c),.k (.slice none 0 0)]],Q=>zk [.v (.c (.p 0 0)),b] [.cells 174 [.k (.int .i64 c),.o 1],.sl 5 .u8 []] Q
 | _,_,_=>False
theorem UJ:cq 92 zm:=λargs H Q h=>by
 unfold zm at h;split at h;exact Wp.abv (p:=0) (t:=174) (tt:=5) (e:=.u8) (cs1:=[.k (.int .i64 _)]) (cs2:=[]) rfl (EN _ _ _ h)
 grind
def N9:Ct:=λargs H Q=>match H with
 | [.cells _ [_,.k _]]=>zm args H Q
 | [.cells _ [_,.o _],_]=>zk args H Q
 | _=>False
theorem Xr:cq 92 N9:=λargs H Q h=>by
 unfold N9 at h
 grind [UJ, EN]
def afu:Ct:=cP<| cO λH Q=>match H with
 | [.cells 174 [.k (.int .i64 c),.o 1],.sl 5 .u8 x]=>c=0/\x.length<=100000000000/\Q (.c (.d .u8 x)) [.cells 174 [.k (.int .i64 (0)),.o 1],.sl 5 .u8 (x)]
 | _=>False
def ahW:=(abY.add aih).add Xr
def K1 (c:Int) (x:List UInt8):dq:=λQ=>br (c !=0) (Q gW [.cells 174 [.k (aC c),.o 1],.sl 5 Ty.u8 x]) (fa (List.length x)/\(cW x (Q (SV.v (S1.c (Cl.d Ty.u8 x))) [.cells 174 [.k (aC c),.o 1],.sl 5 Ty.u8 x])))
theorem adn:cq 87 afu:=eI<| rZ<| r5 λH Q h=>by
 split at h;rotate_left;cases h;rename_i c x;refine Wp.dy ahW fg ⟨[],[]⟩ Tryz.f87 (K1 c x) ?_;unfold K1 gW cW dD aC fa aJ
 grind [ak]
def akp:Ct:=cP<| cO λH Q=>match H with
 | [.cells 174 [.k (.int .i64 c),.o 1],.sl 5 .u8 x]=>c=0/\x.length<=100000000000/\Q (.int x.length) [.cells 174 [.k (.int .i64 (0)),.o 1],.sl 5 .u8 (x)]
 | _=>False
def ahV:=ahW.add adn
def RD (c:Int) (x:List UInt8):dq:=λQ=>c=ah/\List.length x<=100000000000/\(cW x (cW x (Q (.v (.c (.k (.int .i64 (ay x))))) [.cells 174 [.k aT,.o 1],.sl 5 Ty.u8 x])))
theorem aii:cq 96 akp:=eI<| rZ<| r5 λH Q h=>by
 split at h;rotate_left;cases h;rename_i c x;refine Wp.dy ahV fg ⟨[],[]⟩ Tryz.f96 (RD c x) ?_;unfold RD cW aT ah ay aJ
 grind
def aft:Ct:=cP<| cS λz=>cO λH Q=>match H with
 | [.cells 174 [.k (.int .i64 c),.o 1],.sl 5 .u8 x]=>c=0/\z.size<=255/\x.length<=1000000000/\Q .tV [.cells 174 [.k (.int .i64 (0)),.o 2],.gone,.sl 5 .u8 (x++az z.size::z.data.toList)]
 | _=>False
def ahU:=ahV.add aii
abbrev gQ (y0:ByteArray):=(↑(ByteArray.size y0):Int)
abbrev iN (y0:ByteArray) (R:Prop):=ByteArray.size y0<=9223372036854775807->R
abbrev jd (y0:List UInt8) (R:Prop):=List.length y0<=100000000/\R
def KZ (z:ByteArray) (c:Int) (x:List UInt8):dq:=λQ=>iN z (br (decide ((gQ z)>(255:Int))) (Q (SV.cC []) [.cells 174 [.k (.int .i64 (nK c lh)),.o 1],.sl 5 Ty.u8 x]) (c=ah/\(aW<=aW/\aW<=cA)/\(ah<=(gQ z)/\(gQ z)< fb ^ 
 bH)/\List.length x<=100000000000/\bj (List.length (x++aH bH (ax (gQ z)))<=100000000000/\jd z.data.toList (Q (SV.cC []) [.cells 174 [.k aT,.o 2],.gone,.sl 5 Ty.u8 (x++aH bH (ax (gQ z)) 
 ++z.data.toList)]))))
theorem adl:cq 137 aft:=eI<| rZ<| Zp λz=>r5 λH Q h=>by
 split at h;rotate_left;cases h;rename_i c x;refine Wp.dy ahU fg ⟨[],[]⟩ Tryz.f137 (KZ z c x) ?_;unfold KZ jd bj iN gQ aT ah aW fb lh cA bH;obtain ⟨rfl,hz,hl,h⟩:=h;have e1:aH 1 ((z.size:Int)).toNat= [az z.size]:=by
  show [az (z.size % 256)]=_
  grind
 have e2:z.data.toList.length=z.size:=Array.length_toList;refine λ_=>ak (λhc=>?_) (λ_=>⟨rfl,⟨by omega,by omega⟩,⟨by omega,by omega⟩,by omega,rfl,?_,by omega,?_⟩)
 .grind
 .grind
 grind
end Go.Proofs

namespace Go.Lm
open Go
def mA:Nat->List UInt8->Nat->List UInt8
 | 0,out,_=>out
 | n+1,out,f=>mA n (out++ [out.getD f 0]) (f+1)
def Ej:Nat->List UInt8->List UInt8->Option (List UInt8)
 | _,[],out=>some out
 | 0,_::_,_=>none
 | k+1,t::r,out=>
  if t.toNat< 128 then (if r.length< t.toNat+1 then none else Ej k (r.drop (t.toNat+1)) (out++r.take (t.toNat+1)))
  else match r with
   | []=>none
   | c::q=>if out.length<=c.toNat then none else Ej k q (mA (t.toNat - 125) out (out.length - c.toNat - 1))
theorem L0 (n:Nat) (out:List UInt8):Ej n [] out=some out:=by cases n<;>rfl
theorem tU:∀ {n m:Nat} {b out:List UInt8},b.length<=n->b.length<=m->Ej n b out=Ej m b out
 | n,m,[],out,_,_=>by rw [L0,L0]
 | 0,_,_::_,_,h,_=>by simp at h
 | _,0,_::_,_,_,h=>by simp at h
 | n+1,m+1,t::r,out,h1,h2=>by
  rw [av] at h1 h2;unfold Ej;split
  .split
   .rfl
   .exact tU (by rw [aR];omega) (by rw [aR];omega)
  .cases r with
   | nil=>rfl
   | cons c q=>
    simp only;rw [av] at h1 h2;split;rfl;exact tU (by omega) (by omega)
def nS (b out:List UInt8):Option (List UInt8):=Ej b.length b out
theorem BV (out:List UInt8):nS [] out=some out:=rfl
theorem L1 {t:UInt8} {r out:List UInt8} (ht:t.toNat< 128):nS (t::r) out=if r.length< t.toNat+1 then none else nS (r.drop (t.toNat+1)) (out++r.take (t.toNat+1)):=by
 unfold nS;rw [av]
 conv=>lhs;unfold Ej
 rw [if_pos ht];split;rfl;exact tU (by grind) (aG _)
theorem F8 {t c:UInt8} {r out:List UInt8} (ht:¬t.toNat< 128):nS (t::c::r) out=if out.length<=c.toNat then none else nS r (mA (t.toNat - 125) out (out.length - c.toNat - 1)):=by
 unfold nS;rw [av]
 conv=>lhs;unfold Ej
 rw [if_neg ht];simp only;split;rfl;exact tU (by grind) (aG _)
theorem Yz {t:UInt8} {out:List UInt8} (ht:¬t.toNat< 128):nS [t] out=none:=by
 grind [nS, Ej]
theorem v7:∀ (n:Nat) (out:List UInt8) (f:Nat),(mA n out f).length=out.length+n
 | 0,_,_=>rfl
 | n+1,out,f=>by
  show (mA n (out++ [out.getD f 0]) (f+1)).length=_;rw [v7 n,af,aE];omega
theorem Sn {t:UInt8} {r out z:List UInt8} (ht:t.toNat< 128) (h:nS (t::r) out=some z):t.toNat+1<=r.length/\nS (r.drop (t.toNat+1)) (out++r.take (t.toNat+1))=some z:=by
 grind [L1]
theorem LZ {t:UInt8} {r out z:List UInt8} (ht:¬t.toNat< 128) (h:nS (t::r) out=some z):∃ c q,r=c::q/\c.toNat< out.length/\nS q (mA (t.toNat - 125) out (out.length - c.toNat - 1))=some z:=by
 cases r with
 | nil=>grind [Yz]
 | cons c q=>
  grind [F8]
theorem wC:∀ {n:Nat} {b out z:List UInt8},b.length<=n->nS b out=some z->out.length<=z.length
 | _,[],out,z,_,h=>by
  grind [BV]
 | 0,_::_,_,_,h,_=>by grind
 | n+1,t::r,out,z,hn,h=>by
  rw [av] at hn;by_cases ht:t.toNat< 128
  .obtain ⟨h1,h2⟩:=Sn ht h;have:=wC (n:=n) (by grind) h2
   grind
  .obtain ⟨c,q,rfl,h1,h2⟩:=LZ ht h;rw [av] at hn;have:=wC (n:=n) (by omega) h2
   grind [v7]
structure D9 (x pre:List UInt8):Prop where
 go:∀ r,nS (x++r) []=nS r pre
theorem D9.nil:D9 [] []:=⟨λ_=>rfl⟩
theorem D9.done {x b:List UInt8} (h:D9 x b):nS x []=some b:=by
 have:=h.go []
 grind [BV]
theorem D9.run {x pre l:List UInt8} (h:D9 x pre) (h0:0< l.length) (h1:l.length<=128):D9 (x++(az (l.length - 1)::l)) (pre++l):=⟨λr=>by
 have ht:(az (l.length - 1)).toNat=l.length - 1:=by simp;omega
 rw [aM,h.go,eH,L1 (by omega),ht,if_neg (by rw [af];omega)]
 grind⟩
theorem Hf {b:List UInt8}:∀ (n a f:Nat),f< a->a+n<=b.length->(∀ k,k< n->b[a+k]?=b[f+k]?)->mA n (b.take a) f=b.take (a+n)
 | 0,_,_,_,_,_=>rfl
 | n+1,a,f,hf,hl,hk=>by
  unfold mA;have h0:=hk 0 (by omega);rw [Nat.add_zero,Nat.add_zero] at h0;have e:(b.take a).getD f 0=b[a]'(by omega):=by
   rw [dh,mT,if_pos hf,<-h0,aq (by omega)];rfl
  rw [e];have e2:b.take a++ [b[a]'(by omega)]=b.take (a+1):=by rw [List.take_add_one,aq (by omega)];rfl
  rw [e2,Hf n (a+1) (f+1) (by omega) (by omega) λk AK=>by
   have:=hk (k+1) (by omega)
   rwa [show a+(k+1)=a+1+k by omega,show f+(k+1)=f+1+k by omega] at this]
  congr 1;omega
theorem D9.copy {x b:List UInt8} {a n back:Nat} (h:D9 x (b.take a)) (hn:3<=n) (hn2:n<=130) (hb:1<=back) (hb2:back<=a) (hb3:back<=256) (hl:a+n<=b.length) (hk:∀ k,k< n->b[a+k]?=b[a - back+k]?):
  D9 (x++ [az (n+125),az (back - 1)]) (b.take (a+n)):=⟨λr=>by
 have ht:(az (n+125)).toNat=n+125:=by simp;omega
 have hc:(az (back - 1)).toNat=back - 1:=by simp;omega
 have hla:(b.take a).length=a:=by grind
 rw [aM,h.go];show nS (az (n+125)::az (back - 1)::r) _=_;rw [F8 (by omega),ht,hc,hla,if_neg (by omega),show n+125 - 125=n by omega,show a - (back - 1) - 1=a - back by omega]
 grind [Hf]⟩
end Go.Lm

namespace Go.Proofs
open Go Go.Lm Go.RowKit
set_option maxRecDepth 1000000
def aaP:Ct
 | [.v (.c (.o 0)),.v (.c cl)],[.sl 5 .u8 x],Q=>(match (Ty.sl Ty.u8).of [cl] with
  | some (l,[])=>∃ pre:List UInt8,D9 x pre/\x.length+2*l.length<=1000000000/\∀ y,D9 y (pre++l)->y.length<=x.length+2*l.length->Q (.c (.o 1)) [.gone,.sl 5 .u8 y]
  | _=>False)
 | _,_,_=>False
def ahT:=ahU.add adl
abbrev fA {A0:Type} (y0:List A0) (R:Prop):=List.length y0<=9223372036854775807->R
abbrev yH {A0:Type} (y0:List A0):=ax (IntKind.wrap .u8 (min (aP y0) 128 - 1))
abbrev CB {A0:Type} (y0:List A0):=ax (min (aP y0) bE)
abbrev Pu {A0:Type} (y0:List A0) (R:Prop):=0<=min (aP y0) bE/\min (aP y0) bE<=(aP y0)/\R
def RH (l:(List (Ty.u8).den)) (x:List UInt8):dq:=λQ=>cJ l (aK (λi ag=>fA i.1.2.1 (br (decide ((aP i.1.2.1)>ah)) (aJ (bw i.1.2.1)->aB .i64 (min (aP i.1.2.1) 128 - 1)/\(aB .u8 (IntKind.wrap .u8 (min (aP i.1.2.1) 128 - 1))->Pu i.1.2.1 
 ((List.length i.1.1+List.length [az (yH i.1.2.1)])*1<=cd/\List.length i.1.1+List.length [az (yH i.1.2.1)]<=9223372036854775807/\(List.length (i.1.1++ [az (yH i.1.2.1)])+List.length 
 (List.take (CB i.1.2.1) i.1.2.1))*1<=cd/\List.length (i.1.1++ [az (yH i.1.2.1)])+List.length (List.take (CB i.1.2.1) i.1.2.1)<=9223372036854775807/\Pu i.1.2.1 (ag ((i.1.1++ [az (yH 
 i.1.2.1)]++List.take (CB i.1.2.1) i.1.2.1,List.drop (CB i.1.2.1) i.1.2.1,()),()))))) (Q (SV.v (S1.c (.o 1))) [.gone,.sl 5 Ty.u8 i.1.1]))) ((x,l,()),()))
theorem aim:cq 193 aaP:=by
 intro args H Q h;unfold aaP at h;split at h;rotate_left;cases h;rename_i cl x;split at h;rotate_left;cases h;rename_i l hl;refine Wp.said (args':=[.v (.c (.o 0)),.c (.d Ty.u8 l)]) (λE g=>bA.cE (λ_ h=>h) (bA.cE (dI hl) (λ_ h=>h))) ?_;clear hl;refine Wp.dy ahT fg ⟨[(2,⟨[(0,.own 5 .u8),(1,.d .u8)],[]⟩)],[]⟩ Tryz.f193 (RH l x) ?_;unfold RH Pu CB yH fA bw cd cJ ah bE aP aJ;obtain ⟨pre,he,hl,h⟩:=h;intro _;refine aK.intro (λi=>∃ p,D9 i.1.1 p/\p++i.1.2.1=pre++l/\i.1.1.length+2*i.1.2.1.length<=x.length+2*l.length) (λi=>i.1.2.1.length) ⟨pre,he,rfl,aG _⟩ ?_;rintro ⟨⟨y,r,_⟩,_⟩ ⟨p,h1,h2,h3⟩;simp only at h1 h2 h3 ⊢;refine λ_=>ak (λhc=>λ_=>?_) (λhc=>?_)
 .have hc:(r.length:Int)>0:=of_decide_eq_true hc;have e1:az (IntKind.wrap .u8 (min (r.length:Int) 128 - 1)).toNat=az ((r.take (min (r.length:Int) 128).toNat).length - 1):=by
   grind [pg, Lit.wf, IntKind.min, mU, kH]
  have fB:(r.take (min (r.length:Int) 128).toNat).length=(min (r.length:Int) 128).toNat:=by rw [aF];omega
  rw [e1];refine ⟨by unfold aB;omega,λ_=>⟨by omega,by omega,?_,?_,?_,?_,by omega,by omega,⟨p++r.take (min (r.length:Int) 128).toNat,?_,?_,?_⟩,?_⟩⟩;rw [aE];omega;rw [aE];omega;rw [af,aE,fB];omega;rw [af,aE,fB];omega
  .have:=h1.run (l:=r.take (min (r.length:Int) 128).toNat) (by rw [fB];omega) (by rw [fB];omega);rw [aM];exact this
  .rw [aM,bK];exact h2
  .rw [af,af,aE,fB,aR];omega
  .show (r.drop _).length< r.length;rw [aR];omega
 simp_all
def aaI:Ct:=cD .u8 λb=>cI λm=>c0 λQ=>∃ z:List UInt8,nS b []=some z/\z.length<=m/\m<=1000000/\Q (.cC [.c (.d .u8 z),.c (.k (.int .i64 0))]) []
def ahS:=ahT.add aim
abbrev fQ (y0:List UInt8):=(↑(cz (aA Ty.u8 y0 ah)):Int)
abbrev kD:SV:=.cC [.c dD,.c (.k (.int .i64 1))]
abbrev ta:SV:=.cC [.c dD,.c (.k (.int .i64 2))]
abbrev lD:=SV.cC [S1.c (.o 0),.c (.k aT)]
abbrev IP {A1:Type} (y0) (y1:List A1) (y2) (y3):=ax (↑(cz (aA Ty.u8 y0 ((aP y1) - (fQ y2) - 1+y3))):Int)
abbrev sS (y0:SV->List HO->Prop):=y0 (.cC [.c dD,.c (.k (.int .i64 3))]) []
abbrev kQ (y0:List UInt8) (R:Prop):=Ty.ok Ty.u8 (aA Ty.u8 y0 ah)->R
abbrev Pv {A0 A3:Type} (y0:List A0) (y1) (y2) (y3:List A3) (R:Prop):=ah<=(aP y0) - (fQ y1) - 1+y2/\(aP y0) - (fQ y1) - 1+y2< (aP y3)/\R
abbrev vt {A1:Type} (y0) (y1:List A1) (R:Prop):=0<=y0/\y0<=(aP y1)/\R
def Fb (b:(List (Ty.u8).den)) (m:Int):dq:=λQ=>cJ b (aB .i64 m->br (cL m) (Q kD []) (aK (λi ag=>fA i.1.1 (br (decide ((aP i.1.1)>ah)) (ah<=ah/\ah< (aP i.1.1)/\(kQ i.1.1 (ah<=aW/\aW<=(aP i.1.1)/\aB .i64 ((fQ 
 i.1.1)+1)/\aB .i64 ((fQ i.1.1)+1)/\cK (λk=>br (decide ((fQ i.1.1)≥bE)) (aB .i64 ((fQ i.1.1) - 125)/\k ((List.drop 1 i.1.1,(fQ i.1.1),(fQ i.1.1) - 125,aW,()),())) (k ((List.drop 1 i.1.1,(fQ 
 i.1.1),(fQ i.1.1)+1,(fQ i.1.1)+1,()),()))) λbG=>cK (λk=>fA bG.1.1 (br (decide ((aP bG.1.1)< bG.1.2.2.2.1)) (Q ta []) (br (decide (bG.1.2.1≥128)) (ah<=ah/\ah< (aP bG.1.1)/\(kQ 
 bG.1.1 (aJ (bw i.1.2.1)->br (decide ((fQ bG.1.1)≥(aP i.1.2.1))) (Q ta []) (k ((),()))))) (k ((),()))))) λkV=>fA i.1.2.1 (aB .i64 (m - (aP i.1.2.1))/\br (decide (bG.1.2.2.1>m - (aP i.1.2.1))) (sS Q) 
 (cK (λk=>br (decide (bG.1.2.1< 128)) (vt bG.1.2.2.1 bG.1.1 ((List.length i.1.2.1+List.length (List.take (aS bG.1.2.2.1) bG.1.1))*1<=cd/\List.length i.1.2.1+List.length (List.take (aS bG.1.2.2.1) bG.1.1) 
 <=9223372036854775807/\k ((i.1.2.1++List.take (aS bG.1.2.2.1) bG.1.1,()),()))) (aJ (bw i.1.2.1)->ah<=ah/\ah< (aP bG.1.1)/\(kQ bG.1.1 (aB .i64 ((aP i.1.2.1) - (fQ bG.1.1))/\aB .i64 ((aP 
 i.1.2.1) - (fQ bG.1.1) - 1)/\aK (λjX ag=>br (decide (jX.1.1< bG.1.2.2.1)) (aB .i64 ((aP i.1.2.1) - (fQ bG.1.1) - 1+jX.1.1)/\Pv i.1.2.1 bG.1.1 jX.1.1 jX.1.2.1 (Pv i.1.2.1 bG.1.1 jX.1.1 jX.1.2.1 
 (Ty.ok Ty.u8 (aA Ty.u8 jX.1.2.1 ((aP i.1.2.1) - (fQ bG.1.1) - 1+jX.1.1))->(List.length jX.1.2.1+List.length [az (IP jX.1.2.1 i.1.2.1 bG.1.1 jX.1.1)])*1<=cd/\List.length jX.1.2.1+List.length 
 [az (IP jX.1.2.1 i.1.2.1 bG.1.1 jX.1.1)]<=9223372036854775807/\cj jX.1.1 (ag ((jX.1.1+1,jX.1.2.1++ [az (IP jX.1.2.1 i.1.2.1 bG.1.1 jX.1.1)],()),()))))) (k (jX.1.2,()))) ((ah,i.1.2), 
 ()))))) λi=>vt bG.1.2.2.2.1 bG.1.1 (ag ((List.drop (aS bG.1.2.2.2.1) bG.1.1,i.1),()))))))) (Q lD [.sl 5 Ty.u8 i.1.2.1]))) ((b,[],()),())))
theorem Xs:cq 110 aaI:=eI<| iH λb=>nF λm=>gx λQ h=>by
 refine Wp.agu (e:=.u8) ?_;refine Wp.dy ahS fg ⟨[(5,⟨[(0,.d .u8),(6,.own 5 .u8)],[]⟩),(19,⟨[(70,.int .i64),(6,.own 5 .u8)],[]⟩)],[(11,⟨[(0,.d .u8),(7,.int .i64),(8,.int .i64),(9,.int .i64)],[]⟩),(13,⟨[],[]⟩),(23,⟨[(6,.own 5 .u8)],[]⟩)]⟩ Tryz.f110 (Fb b m) ?_;unfold Fb vt Pv kQ sS IP lD ta cL cj fA kD bw cd cJ dD aT aS fQ ah aW bE aP aJ;obtain ⟨z,hz,hm,hm2,h⟩:=h;refine λ_ _=>ak (λhc=>?_) (λ_=>?_)
 .have hc:m< 0:=of_decide_eq_true hc;omega
 refine aK.intro (λi=>nS i.1.1 i.1.2.1=some z) (λi=>i.1.1.length) hz ?_;rintro ⟨⟨r,out,_⟩,_⟩ h1;simp only at h1 ⊢;refine λ_=>ak (λhc=>?_) (λhc=>?_);rotate_left
 .have hc:¬(r.length:Int)>0:=of_decide_eq_false hc;have:r= []:=bB (by omega);subst this;rw [BV] at h1;obtain rfl:=aj h1;exact .inr (.inr ⟨0,5,out,.int .i64 0,rfl,cM _,rfl,h⟩)
 cases r with
 | nil=>simp at hc
 | cons t r=>
 have hlz:=wC (aG _) h1;have ht:=UInt8.toNat_lt t;have e0:aA .u8 (t::r) 0=t:=rfl;rw [e0];refine ⟨bh _,by simp only [av];omega,λ_=>⟨by omega,by simp only [av];omega,by unfold aB;omega,by unfold aB;omega,?_⟩⟩;simp only [List.drop_one,List.tail_cons];refine cK.intro (λi=>i.1.1=r/\i.1.2.1=(t.toNat:Int)/\(t.toNat< 128->i.1.2.2.1=(t.toNat:Int)+1/\i.1.2.2.2.1=(t.toNat:Int)+1)/\(¬t.toNat< 128->i.1.2.2.1=(t.toNat:Int) - 125/\i.1.2.2.2.1=1)) (ak (λhd=>⟨by unfold aB;omega,rfl,rfl,λhq=>?_,λ_=>⟨rfl,rfl⟩⟩) (λhd=>⟨rfl,rfl,λ_=>⟨rfl,rfl⟩,λhq=>?_⟩)) ?_
 .have hd:(t.toNat:Int)≥128:=of_decide_eq_true hd;omega
 .have hd:¬(t.toNat:Int)≥128:=of_decide_eq_false hd;omega
 rintro ⟨⟨r',t',n,nd,_⟩,_⟩ ⟨g1,g2,g3,g4⟩;simp only at g1 g2 g3 g4 ⊢;subst g1 g2;have key:(t.toNat< 128/\n=(t.toNat:Int)+1/\nd=(t.toNat:Int)+1/\t.toNat+1<=r'.length/\out.length+(t.toNat+1)<=z.length/\nS (r'.drop (t.toNat+1)) (out++r'.take (t.toNat+1))=some z)\/
   (¬t.toNat< 128/\n=(t.toNat:Int) - 125/\nd=1/\∃ c q,r'=c::q/\c.toNat< out.length/\out.length+(t.toNat - 125)<=z.length/\nS q (mA (t.toNat - 125) out (out.length - c.toNat - 1))=some z):=by
  by_cases hq:t.toNat< 128
  .obtain ⟨k1,k2⟩:=Sn hq h1;have:=wC (aG _) k2;rw [af,aF] at this;exact .inl ⟨hq,(g3 hq).1,(g3 hq).2,k1,by omega,k2⟩
  .obtain ⟨c,q,k0,k1,k2⟩:=LZ hq h1;have:=wC (aG _) k2;rw [v7] at this;exact .inr ⟨hq,(g4 hq).1,(g4 hq).2,c,q,k0,k1,this,k2⟩
 clear g3 g4 h1;refine cK.intro (λ_=>True) (λ_=>ak (λhd=>?_) (λ_=>ak (λhd=>⟨bh _,?_,λ_ _=>ak (λhf=>?_) (λ_=>trivial)⟩) (λ_=>trivial))) ?_
 .have hd:(r'.length:Int)< nd:=of_decide_eq_true hd;rcases key with ⟨_,_,k2,k3,_⟩| ⟨_,_,k2,c,q,k3,_⟩
  .omega
  .rw [k3,av] at hd;omega
 .have hd:(t.toNat:Int)≥128:=of_decide_eq_true hd;rcases key with ⟨k1,_⟩| ⟨_,_,_,c,q,k3,_⟩
  .omega
  .rw [k3,av];omega
 .have hd:(t.toNat:Int)≥128:=of_decide_eq_true hd;have hf:(cz (aA .u8 r' 0):Int)≥(out.length:Int):=of_decide_eq_true hf;rcases key with ⟨k1,_⟩| ⟨_,_,_,c,q,k3,k4,_⟩
  .omega
  .rw [k3] at hf;have e3:aA .u8 (c::q) 0=c:=rfl;rw [e3] at hf;omega
 rintro ⟨_,_⟩ _;refine λ_=>⟨by unfold aB;omega,ak (λhd=>?_) (λ_=>?_)⟩
 .have hd:n>m - (out.length:Int):=of_decide_eq_true hd;rcases key with ⟨_,_,_,_,k5,_⟩| ⟨_,_,_,_,_,_,_,k5,_⟩<;>omega
 refine cK.intro (λi=>0<=nd/\nd<=(r'.length:Int)/\nS (r'.drop nd.toNat) i.1.1=some z) (ak (λhd=>?_) (λhd=>?_)) ?_
 .have hd:(t.toNat:Int)< 128:=of_decide_eq_true hd;rcases key with ⟨_,k1,k2,k3,k4,k5⟩| ⟨k0,_⟩
  .have e4:n.toNat=t.toNat+1:=by omega
   have e5:nd.toNat=t.toNat+1:=by omega
   rw [e4,e5];exact ⟨by omega,by omega,by rw [aF];omega,by rw [aF];omega,by omega,by omega,k5⟩
  .omega
 .have hd:¬(t.toNat:Int)< 128:=of_decide_eq_false hd;rcases key with ⟨k0,_⟩| ⟨_,k1,k2,c,q,k3,k4,k5,k6⟩
  .omega
  subst k3 k2;have e3:aA .u8 (c::q) 0=c:=rfl;rw [e3];refine λ_=>⟨bh _,by simp only [av];omega,λ_=>⟨by unfold aB;omega,by unfold aB;omega,?_⟩⟩;refine aK.intro (λi=>0<=i.1.1/\i.1.1<=n/\i.1.2.1.length=out.length+i.1.1.toNat/\mA (n - i.1.1).toNat i.1.2.1 (out.length - c.toNat - 1+i.1.1.toNat)=mA (t.toNat - 125) out (out.length - c.toNat - 1)) (λi=>(n - i.1.1).toNat) ⟨by simp,by show (0:Int)<=n;omega,rfl,by show mA (n - 0).toNat out _=_;rw [show (n - 0).toNat=t.toNat - 125 by omega];rfl⟩ ?_;rintro ⟨⟨j,y,_⟩,_⟩ ⟨j0,j1,j2,j3⟩;simp only at j0 j1 j2 j3 ⊢;refine ak (λhf=>?_) (λhf=>?_)
  .have hf:j< n:=of_decide_eq_true hf;refine ⟨by unfold aB;omega,by omega,by rw [j2];omega,by omega,by rw [j2];omega,λ_=>⟨?_,?_,by unfold aB;omega,⟨by omega,by omega,?_,?_⟩,by omega⟩⟩
   .rw [aE];omega
   .rw [aE];omega
   .rw [af,aE];omega
   .rw [<-j3,show (n - j).toNat=(n - (j+1)).toNat+1 by omega];show _=mA _ (y++ [_]) _;have e6:az ((cz (aA .u8 y ((out.length:Int) - (c.toNat:Int) - 1+j)):Int)).toNat=y.getD (out.length - c.toNat - 1+j.toNat) 0:=by
     rw [bL,UInt8.ofNat_toNat];unfold aA;rw [show ((out.length:Int) - (c.toNat:Int) - 1+j).toNat=out.length - c.toNat - 1+j.toNat by omega];rfl
    rw [e6,show out.length - c.toNat - 1+(j+1).toNat=out.length - c.toNat - 1+j.toNat+1 by omega]
  .have hf:¬j< n:=of_decide_eq_false hf;rw [show (n - j).toNat=0 by omega] at j3;refine ⟨by omega,by simp only [av];omega,?_⟩;rw [<-j3] at k6;exact k6
 rintro ⟨⟨y,_⟩,_⟩ ⟨k1,k2,k3⟩;refine ⟨k1,k2,k3,?_⟩;show (r'.drop nd.toNat).length< (t::r').length;rw [aR,av];omega
def akB:Ct:=cD .u8 λb=>cI λa=>cI λo=>c0 λQ=>(0<=a/\a<=b.length)/\(0<=o/\o< a)/\b.length<=1000000/\∀ n:Int,0<=n->n<=130->a+n<=b.length->(∀ k,k< n.toNat->b[a.toNat+k]?=b[o.toNat+k]?)->(n< 3->a+n< b.length->b[a.toNat+n.toNat]?≠b[o.toNat+n.toNat]?)->Q (.int n) []
def ahR:=ahS.add Xs
abbrev dN (y0) (y1:_->Prop):=aB .i64 (y0+1)/\y1 ((y0+1,()),())
abbrev du:=((ah,()),())
def RW (b:(List (Ty.u8).den)) (a o:Int):dq:=λQ=>cJ b (bZ a o (aK (λi ag=>br (decide (i.1.1< 130)) (aB .i64 (a+i.1.1)/\(aJ (dr b)->br (decide (a+i.1.1< (ay b))) (aB .i64 (a+i.1.1)/\0<=a+i.1.1/\a+i.1.1< (ay b)/\(Ty.ok Ty.u8 (aA 
 Ty.u8 b (a+i.1.1))->aB .i64 (o+i.1.1)/\0<=o+i.1.1/\o+i.1.1< (ay b)/\(Ty.ok Ty.u8 (aA Ty.u8 b (o+i.1.1))->br ((↑(cz (aA Ty.u8 b (a+i.1.1))):Int)==(↑(cz (aA Ty.u8 b (o+i.1.1))):Int)) (dN 
 i.1.1 ag) (Q (fC i.1.1) [])))) (Q (fC i.1.1) []))) (Q (fC i.1.1) [])) du))
theorem aiw:cq 226 akB:=eI<| iH λb=>nF λa=>nF λo=>gx λQ h=>by
 refine Wp.dy ahR fg ⟨[(3,⟨[(7,.int .i64)],[]⟩)],[]⟩ Tryz.f226 (RW b a o) ?_;unfold RW dr fC du bZ cJ dN aC ah ay aJ;obtain ⟨⟨a0,a1⟩,⟨o0,o1⟩,hl,h⟩:=h;intro _ _ _;refine aK.intro (λi=>0<=i.1.1/\i.1.1<=130/\a+i.1.1<=b.length/\∀ k,k< i.1.1.toNat->b[a.toNat+k]?=b[o.toNat+k]?) (λi=>(130 - i.1.1).toNat) ⟨by simp,by simp,by simpa using a1,λk hk=>by simp at hk⟩ ?_;rintro ⟨⟨i,_⟩,_⟩ ⟨h0,h1,h2,h3⟩;simp only at h0 h1 h2 h3 ⊢;refine ak (λhc=>⟨by unfold aB;omega,λ_=>ak (λhd=>?_) (λhd=>?_)⟩) (λhc=>?_)
 .have hc:i< 130:=of_decide_eq_true hc;have hd:a+i< (b.length:Int):=of_decide_eq_true hd;have ea:b[a.toNat+i.toNat]?=some (aA .u8 b (a+i)):=by
   unfold aA;rw [show (a+i).toNat=a.toNat+i.toNat by omega,dh,aq (by omega)];rfl
  have eo:b[o.toNat+i.toNat]?=some (aA .u8 b (o+i)):=by
   unfold aA;rw [show (o+i).toNat=o.toNat+i.toNat by omega,dh,aq (by omega)];rfl
  refine ⟨by unfold aB;omega,by omega,hd,λ_=>⟨by unfold aB;omega,by omega,by omega,λ_=>ak (λhe=>?_) (λhe=>?_)⟩⟩
  .have he:=eq_of_beq he;refine ⟨by unfold aB;omega,⟨by omega,by omega,by omega,λk hk=>?_⟩,by omega⟩;by_cases hq:k=i.toNat
   .subst hq;rw [ea,eo,UInt8.toNat_inj.1 (Int.ofNat.inj he)]
   .exact h3 k (by omega)
  .refine h i h0 h1 h2 h3 λ_ _ e=>?_;rw [ea,eo] at e;rw [aj e] at he;simp at he
 .have hd:¬a+i< (b.length:Int):=of_decide_eq_false hd;exact h i h0 h1 h2 h3 λ_ hq=>absurd hq hd
 .have hc:¬i< 130:=of_decide_eq_false hc;exact h i h0 h1 h2 h3 λhq=>by omega
end Go.Proofs

namespace Go.Lm
open Go
theorem ixG {e:Ty} {l:List e.den} {i:Int} (h0:0<=i) (h:i< l.length):aA e l i=l[i.toNat]'(by omega):=by
 grind [aA]
theorem ixT {e:Ty} {l:List e.den} {i:Int} (h0:0<=i) (h:i< l.length):l.take (i+1).toNat=l.take i.toNat++ [aA e l i]:=by
 rw [ixG h0 h,show (i+1).toNat=i.toNat+1 by omega,bY (by omega)]
theorem tv {e:Ty} {l:List e.den} {i:Int} (h0:0<=i) (h:i< l.length):aA e l i∈l:=by
 grind [ixG]
theorem ixR {e:Ty} {l:List e.den} {i:Int} (h0:0<=i) (h:i< l.length):l.drop i.toNat=aA e l i::l.drop (i+1).toNat:=by
 grind [ixG, bM]
def Jz (b:List UInt8) (x:Int):K3:=(b.getD x.toNat 0,b.getD (x.toNat+1) 0,b.getD (x.toNat+2) 0)
structure pN (b:List UInt8) (t:Int) (M:uL):Prop where
 len:M.length<=t
 all:∀ p∈M,p.2.2.length<=t/\∀ x∈p.2.2,0<=x/\x< t/\x+3<=b.length/\Jz b x=p.1
theorem pN.nil (b:List UInt8):pN b 0 []:=⟨by simp,by grind⟩
theorem pN.later {b:List UInt8} {t u:Int} {M:uL} (h:pN b t M) (hu:t<=u):pN b u M:=⟨by have:=h.len;omega,λp hp=>⟨by have:=(h.all p hp).1;omega,λx hx=>by have:=(h.all p hp).2 x hx;grind⟩⟩
theorem pN.find {b:List UInt8} {t:Int} {M:uL} {k:K3} {o:Option (Nat×Value)} {xs:List Int} (h:pN b t M) (h0:0<=t) (f:FindM M k o xs):xs.length<=t/\∀ x∈xs,0<=x/\x< t/\x+3<=b.length/\Jz b x=k:=by
 cases f with
 | «at» i v xs hi=>exact h.all _ (kz hi)
 | no _=>grind
theorem pN.put {b:List UInt8} {t:Int} {M:uL} {o:Option (Nat×Value)} {xs:List Int} {v:Value} (h:pN b t M) (h0:0<=t) (hl:t+3<=b.length) (f:FindM M (Jz b t) o xs):pN b (t+1) ((Jz b t,v,xs++ [t])::(Option.rec M (λval=>List.eraseIdx M val.fst) o:uL)):=by
 have e0:(Option.rec M (λval=>List.eraseIdx M val.fst) o:uL)=Iq M o:=by cases o<;>rfl
 rw [e0];have hx:=h.find h0 f;have hm:(Iq M o).length<=t/\∀ p∈Iq M o,p∈M:=by
  cases o with
  | none=>exact ⟨h.len,λ_ q=>q⟩
  | some q=>
   refine ⟨?_,λp hp=>List.mem_of_mem_eraseIdx hp⟩;have:=h.len
   grind
 refine ⟨by grind,λp hp=>?_⟩;rcases bm.1 hp with rfl| hp
 .grind
 .have:=h.all p (hm.2 p hp)
  grind
theorem To (b:List UInt8) (i:Int):((az (ax (↑(cz (aA (kC (3:Nat)) [rowOf (List.drop (ax i) b) (3:Nat) (0:Nat)] (0:Int)).fst):Int)),az (ax (↑(cz (aA (kC (3:Nat)) [rowOf (List.drop (ax i) b) (3:Nat) (0:Nat)] (0:Int)).snd.fst):Int)),az (ax (↑(cz (aA (kC (3:Nat)) [rowOf (List.drop (ax i) b) (3:Nat) (0:Nat)] (0:Int)).snd.snd.fst):Int))):K3)=Jz b i:=by
 have e:∀ x:UInt8,az (ax (x.toNat:Int))=x:=by simp
 have g:∀ k,(List.drop (ax i) b).getD k 0=b.getD (i.toNat+k) 0:=by grind
 rw [e,e,e];unfold Jz;rw [<-g 1,<-g 2,<-Nat.add_zero i.toNat,<-g 0];rfl
theorem Q0 {M:uL} {k:K3} {o:Option (Nat×Value)} {xs:List Int} (f:FindM M k o xs):(Option.rec M (λval=>List.set M val.fst (k,val.snd,xs)) o:uL)=M:=by
 cases f with
 | «at» i v xs hi=>exact wI hi
 | no _=>rfl
theorem VX {b:List UInt8} {x y:Int} (h:Jz b x=Jz b y) (hx:x+3<=b.length) (hy:y+3<=b.length) (x0:0<=x) (y0:0<=y) {k:Nat} (hk:k< 3):b[x.toNat+k]?=b[y.toNat+k]?:=by
 unfold Jz at h;have g:∀ j,j< b.length->b[j]?=some (b.getD j 0):=by grind
 rw [g _ (by omega),g _ (by omega)];simp only [Prod.mk.injEq] at h;obtain ⟨h1,h2,h3⟩:=h
 match k,hk with
 | 0,_=>grind
 | 1,_=>rw [h2]
 | 2,_=>rw [h3]
structure alJ (b:List UInt8) (a n back:Int):Prop where
 or:(n=0/\back=0)\/(3<=n/\n<=130/\1<=back/\back<=256/\back<=a/\a+n<=b.length/\∀ k,k< n.toNat->b[a.toNat+k]?=b[a.toNat - back.toNat+k]?)
end Go.Lm

namespace Go.Proofs
open Go Go.Lm Go.RowKit
set_option maxRecDepth 1000000
def aaS:Ct
 | [.v (.c (.m 0)),.v (.c cb),.v (.c (.k (.int .i64 a))),.v (.c (.k (.int .i64 t)))],[.ab (.ch 321 3 M)],Q=>(match (Ty.sl Ty.u8).of [cb] with
  | some (b,[])=>(0<=a/\a<=t/\t<=b.length)/\b.length<=1000000/\pN b a M/\∀ M',pN b t M'->Q .tV [.ab (.ch 321 3 M')]
  | _=>False)
 | _,_,_=>False
def ahQ:=ahR.add aiw
abbrev VG (y0:Int) (y1:List (Ty.u8).den):=(az (ax (↑(cz (aA (kC eZ) [rowOf (List.drop (ax y0) y1) eZ bx] ah).1):Int)),az (ax (↑(cz (aA (kC eZ) [rowOf (List.drop (ax y0) y1) eZ bx] ah).2.1):Int)),az (ax (↑(cz (aA (kC eZ) [rowOf (List.drop (ax y0) y1) eZ bx] ah).2.2.1):Int)))
abbrev mc {A0:Type} (y0:List A0) (R:Prop):=List.length y0< 9223372036854775807/\R
abbrev yr (y0:uL):=AbK.ch (321:TypeId) (3:TypeId) y0
abbrev qL (y0) (y1:List (Ty.u8).den):=List.drop (aS y0) y1
def RR (b:(List (Ty.u8).den)) (a t:Int) (M:uL):dq:=λQ=>cJ b (bZ a t (aK (λi ag=>br (decide (i.1.1< t)) (aB .i64 (i.1.1+3)/\(aJ (dr b)->br (decide (i.1.1+3<=(ay b))) (0<=i.1.1/\i.1.1<=(ay b)/\3<=List.length (qL i.1.1 b)/\(Ty.ok (kC 
 eZ) (aA (kC eZ) [rowOf (qL i.1.1 b) eZ bx] ah)->mc i.2.1 (∀ (o:Option (Nat×Value)) (xs:List Int) (st:Nat),FindM i.2.1 (VG i.1.1 b) o xs->(List.length xs+List.length [i.1.1])*8<=cd/\ 
 List.length xs+List.length [i.1.1]<=9223372036854775807/\(↑st:Int)=(↑st:Int)/\∀ (v:Value),cj i.1.1 (ag ((i.1.1+1,()),((VG i.1.1 b),v,xs++ [i.1.1])::Option.rec i.2.1 (λval=>List.eraseIdx i.2.1 val.1) o, 
 ()))))) (Q (SV.cC []) [HO.ab (yr i.2.1)]))) (Q (SV.cC []) [HO.ab (yr i.2.1)])) ((a,()),M,())))
theorem ais:cq 192 aaS:=by
 intro args H Q h;unfold aaS at h;split at h;rotate_left;cases h;rename_i cb a t M;split at h;rotate_left;cases h;rename_i b hb;refine Wp.said (args':=[.v (.c (.m 0)),.c (.d Ty.u8 b),.int a,.int t]) (λE g=>bA.cE (λ_ h=>h) (bA.cE (dI hb) (bA.cE (λ_ h=>h) (bA.cE (λ_ h=>h) (λ_ h=>h))))) ?_;clear hb;refine Wp.dy ahQ fg ⟨[(2,⟨[(8,.int .i64)],[(0,.ab (.ch 321 3))]⟩)],[]⟩ Tryz.f192 (RR b a t M) ?_;unfold RR qL yr dr mc bZ cj cd cJ aS VG ah ay aJ bx eZ;obtain ⟨⟨a0,a1,a2⟩,hl,hM,h⟩:=h;intro _ _ _;refine aK.intro (λi=>0<=i.1.1/\i.1.1<=t/\pN b i.1.1 i.2.1) (λi=>(t - i.1.1).toNat) ⟨a0,a1,hM⟩ ?_;rintro ⟨⟨i,_⟩,M1,_⟩ ⟨h0,h1,h2⟩;simp only at h0 h1 h2 ⊢;refine ak (λhc=>⟨by unfold aB;omega,λ_=>ak (λhd=>?_) (λ_=>?_)⟩) (λ_=>?_)
 .have hc:i< t:=of_decide_eq_true hc;have hd:i+3<=(b.length:Int):=of_decide_eq_true hd;rw [To];refine ⟨h0,by omega,by rw [aR];omega,λ_=>⟨by have:=h2.len;omega,λo xs st hf=>?_⟩⟩;have:=h2.find h0 hf;exact ⟨by simp only [aE];omega,by simp only [aE];omega,trivial,λv=>⟨by unfold aB;omega,⟨by omega,by omega,h2.put h0 hd hf⟩,by omega⟩⟩
 .exact h M1 (h2.later h1)
 .exact h M1 (h2.later h1)
def T0:Ct
 | [.v (.c (.m 0)),.v (.c cb),.v (.c (.k (.int .i64 a)))],[.ab (.ch 321 3 M)],Q=>(match (Ty.sl Ty.u8).of [cb] with
  | some (b,[])=>(0<=a/\a< b.length)/\b.length<=1000000/\pN b a M/\∀ n k,alJ b a n k->Q (.cC [.c (.k (.int .i64 n)),.c (.k (.int .i64 k))]) [.ab (.ch 321 3 M)]
  | _=>False)
 | _,_,_=>False
def ahP:=ahQ.add ais
abbrev PA (y0:SV->List HO->Prop) (y1) (y2) (y3:uL) (y4:Int) (y5:List (Ty.u8).den) (y6:List Int) (y7:Option (Nat×Value)):=y0 (.cC [.c (.k (aC y1)),.c (.k (aC y2))]) [HO.ab (AbK.ch (321:TypeId) (3:TypeId) (Option.rec y3 (λval=>List.set y3 val.1 ((VG y4 y5),val.2,y6)) y7))]
abbrev oD (y0:Int) (y1:List (Ty.u8).den):=List.drop (aS y0) y1
abbrev yu:SV:=.cC [.c (.k aT),.c (.k aT)]
def Ln (b:(List (Ty.u8).den)) (a:Int) (M:uL):dq:=λQ=>cJ b (aB .i64 a->br (cL a) (Q yu [HO.ab (yr M)]) (aB .i64 (a+3)/\(aJ (dr b)->br (decide (a+3>(ay b))) (Q yu [HO.ab (yr M)]) (0<=a/\a<=(ay b)/\3<=List.length (oD a b)/\ 
 (Ty.ok (kC eZ) (aA (kC eZ) [rowOf (oD a b) eZ bx] ah)->∀ (o:Option (Nat×Value)) (xs:List Int),FindM M (VG a b) o xs->aJ (List.length xs)->aB .i64 ((ay xs) - 1)/\aK (λi ag=>br (decide 
 (i.1.1≥0)) (0<=i.1.1/\i.1.1< (ay xs)/\0<=i.1.1/\i.1.1< (ay xs)/\(Ty.ok bq (aA bq xs i.1.1)->aB .i64 (a - aA bq xs i.1.1)/\br (decide (a - aA bq xs i.1.1>256)) (PA Q i.1.2.1 i.1.2.2.1 M a b xs o) (0<=i.1.1 
 /\i.1.1< (ay xs)/\0<=i.1.1/\i.1.1< (ay xs)/\(Ty.ok bq (aA bq xs i.1.1)->(0<=a/\a<=(ay b))/\(0<=aA bq xs i.1.1/\aA bq xs i.1.1< a)/\List.length b<=1000000/\∀ (n:Int),0<=n->n<=130->a+n<=(ay b)-> 
 (∀ (k:Nat),k< ax n->b[ax a+k]?=b[ax (aA bq xs i.1.1)+k]?)->(n< 3->a+n< (ay b)->b[ax a+ax n]?≠b[ax (aA bq xs i.1.1)+ax n]?)->aB .i64 n->br (decide (n> 
 i.1.2.1)) (0<=i.1.1/\i.1.1< (ay xs)/\0<=i.1.1/\i.1.1< (ay xs)/\(Ty.ok bq (aA bq xs i.1.1)->aB .i64 (a - aA bq xs i.1.1)/\aB .i64 (i.1.1 - 1)/\ag ((i.1.1 - 1,n,a - aA bq xs i.1.1,()),()))) (aB .i64 (i.1.1 - 
 1)/\ag ((i.1.1 - 1,i.1.2),())))))) (PA Q i.1.2.1 i.1.2.2.1 M a b xs o)) (((ay xs) - 1,ah,ah,()),()))))))
theorem adK:cq 191 T0:=by
 intro args H Q h;unfold T0 at h;split at h;rotate_left;cases h;rename_i cb a M;split at h;rotate_left;cases h;rename_i b hb;refine Wp.said (args':=[.v (.c (.m 0)),.c (.d Ty.u8 b),.int a]) (λE g=>bA.cE (λ_ h=>h) (bA.cE (dI hb) (bA.cE (λ_ h=>h) (λ_ h=>h)))) ?_;clear hb;refine Wp.dy ahP fg ⟨[(6,⟨[(9,.int .i64),(6,.int .i64),(7,.int .i64)],[]⟩)],[]⟩ Tryz.f191 (Ln b a M) (clo:=true) ?_;unfold Ln yr yu oD PA dr cL cJ aT aS VG aC ah ay aJ bx eZ bq;obtain ⟨⟨a0,a1⟩,hl,hM,h⟩:=h;have hz:=h 0 0 ⟨.inl ⟨rfl,rfl⟩⟩;intro _ _;refine ak (λ_=>hz) (λ_=>⟨by unfold aB;omega,λ_=>ak (λ_=>hz) (λhc=>?_)⟩);have hc:¬a+3>(b.length:Int):=of_decide_eq_false hc;rw [To];refine ⟨a0,by omega,by rw [aR];omega,λ_ o xs hf _=>?_⟩;have hb:=Q0 hf;have hx:=hM.find a0 hf;refine ⟨by unfold aB;omega,?_⟩;simp only [hb];refine aK.intro (λi=> -1<=i.1.1/\i.1.1< xs.length/\alJ b a i.1.2.1 i.1.2.2.1) (λi=>(i.1.1+1).toNat) ⟨by show -1<=(xs.length:Int) - 1;omega,by show (xs.length:Int) - 1< _;omega,⟨.inl ⟨rfl,rfl⟩⟩⟩ ?_;rintro ⟨⟨i,n,k,_⟩,_⟩ ⟨h0,h1,h2⟩;simp only at h0 h1 h2 ⊢;refine ak (λhc=>?_) (λ_=>h n k h2);have hc:i≥0:=of_decide_eq_true hc;have hm:=hx.2 _ (tv (e:=.int .i64) hc h1);generalize aA (Ty.int IntKind.i64) xs i=x at hm ⊢;refine ⟨hc,h1,hc,h1,λ_=>⟨by unfold aB;omega,ak (λ_=>h n k h2) (λhd=>?_)⟩⟩;have hd:¬a - x>256:=of_decide_eq_false hd;obtain ⟨x0,x1,x2,x3⟩:=hm;refine ⟨hc,h1,hc,h1,λ_=>⟨⟨a0,by omega⟩,⟨x0,x1⟩,by omega,λm m0 m1 m2 m3 m4 _=>ak (λhe=>?_) (λ_=>⟨by unfold aB;omega,⟨by omega,by omega,h2⟩,by omega⟩)⟩⟩;have m5:3<=m:=by
  rcases Int.lt_or_le m 3 with q| q;exact absurd (VX x3.symm (by omega) x2 a0 x0 (by omega)) (m4 q (by omega));exact q
 exact ⟨hc,h1,hc,h1,λ_=>⟨by unfold aB;omega,by unfold aB;omega,⟨by omega,by omega,⟨.inr ⟨m5,m1,by omega,by omega,by omega,m2,λq hq=>by rw [m3 q hq,show x.toNat=a.toNat - (a - x).toNat by omega]⟩⟩⟩,by omega⟩⟩
def akw:Ct:=cD .u8 λb=>c0 λQ=>b.length<=4096/\∀ y:List UInt8,D9 y b->y.length<=2*b.length->Q (.cC [.c (.d .u8 y),.c (.k (.int .i64 0))]) []
def ahO:=ahP.add adK
abbrev Iy (y0:Int):=ax (IntKind.wrap .u8 (y0+125))
abbrev Iw (y0:Int):=ax (IntKind.wrap .u8 (y0 - 1))
def RP (b:(List (Ty.u8).den)):dq:=λQ=>cJ b (aJ (dr b)->br (decide ((ay b)>(4096:Int))) (sS Q) (aK (λi ag=>cJ b (br (decide (i.1.1< (ay b))) ((0<=i.1.1/\i.1.1< (ay b))/\List.length b<=1000000/\pN b i.1.1 i.2.1/\∀ (n k: 
 Int),alJ b i.1.1 n k->bZ n k (br (n==0) (cj i.1.1 ((0<=i.1.1/\i.1.1<=i.1.1+1/\i.1.1+1<=(ay b))/\List.length b<=1000000/\pN b i.1.1 i.2.1/\∀ (M':uL),pN b (i.1.1+1) M'->cj i.1.1 (ag ((i.1.1+1, 
 i.1.2),M',())))) (0<=i.1.2.1/\i.1.2.1<=i.1.1/\i.1.1<=(ay b)/\∃ pre,D9 i.1.2.2.1 pre/\List.length i.1.2.2.1+2*List.length (List.take (ax i.1.1 - ax i.1.2.1) (qL i.1.2.1 b))<=1000000000/\∀ (y:List 
 UInt8),D9 y (pre++List.take (ax i.1.1 - ax i.1.2.1) (qL i.1.2.1 b))->List.length y<=List.length i.1.2.2.1+2*List.length (List.take (ax i.1.1 - ax i.1.2.1) (qL i.1.2.1 b))->aB .i64 (n+125)/\ 
 (aB .u8 (IntKind.wrap .u8 (n+125))->aB .i64 (k - 1)/\(aB .u8 (IntKind.wrap .u8 (k - 1))->(List.length y+List.length [az (Iy n),az (Iw k)])*1<=cd/\List.length y+List.length [az (Iy 
 n),az (Iw k)]<=9223372036854775807/\aB .i64 (i.1.1+n)/\(0<=i.1.1/\i.1.1<=i.1.1+n/\i.1.1+n<=(ay b))/\List.length b<=1000000/\pN b i.1.1 i.2.1/\∀ (M':uL),pN b (i.1.1+n) M'->aB .i64 (i.1.1+n)/\ 
 ag ((i.1.1+n,i.1.1+n,y++ [az (Iy n),az (Iw k)],()),M',())))))) (0<=i.1.2.1/\i.1.2.1<=(ay b)/\∃ pre,D9 i.1.2.2.1 pre/\List.length i.1.2.2.1+2*List.length (qL i.1.2.1 b)<=1000000000/\∀ 
 (y:List UInt8),D9 y (pre++List.drop (aS i.1.2.1) b)->List.length y<=List.length i.1.2.2.1+2*List.length (qL i.1.2.1 b)->Q lD [.sl 5 Ty.u8 y]))) ((ah,ah,[],()),[],())))
theorem air:cq 141 akw:=eI<| iH λb=>gx λQ h=>by
 refine Wp.agu (e:=.u8) ?_;refine Wp.dy ahO fg ⟨[(8,⟨[(7,.int .i64),(6,.int .i64),(5,.own 5 .u8)],[(0,.ab (.ch 321 3))]⟩)],[]⟩ Tryz.f141 (RP b) ?_;unfold RP Iw Iy qL sS dr lD bZ cj cd cJ dD aT aS ah ay aJ;obtain ⟨hl,h⟩:=h;refine λ_ _=>ak (λhc=>absurd (of_decide_eq_true hc) (by omega)) (λ_=>?_);refine aK.intro (λi=>0<=i.1.2.1/\i.1.2.1<=i.1.1/\i.1.1<=b.length/\pN b i.1.1 i.2.1/\D9 i.1.2.2.1 (b.take i.1.2.1.toNat)/\i.1.2.2.1.length<=2*i.1.2.1.toNat) (λi=>b.length - i.1.1.toNat) ⟨by simp,by simp,by simp,pN.nil b,D9.nil,by simp⟩ ?_;rintro ⟨⟨a,f,x,_⟩,M,_⟩ ⟨h0,h1,h2,h3,h4,h5⟩;simp only at h0 h1 h2 h3 h4 h5 ⊢;refine λ_=>ak (λhc=>?_) (λhc=>?_)
 .have hc:a< (b.length:Int):=of_decide_eq_true hc;have ht:(b.drop f.toNat).take (a.toNat - f.toNat)=(b.take a.toNat).drop f.toNat:=by rw [lQ]
  have fB:((b.drop f.toNat).take (a.toNat - f.toNat)).length=a.toNat - f.toNat:=by rw [aF,aR];omega
  have hj:b.take f.toNat++(b.drop f.toNat).take (a.toNat - f.toNat)=b.take a.toNat:=by
   rw [ht];have:=bK f.toNat (b.take a.toNat);rw [o8,py (by omega)] at this;exact this
  refine ⟨⟨by omega,hc⟩,by omega,h3,λn k hcp _ _=>ak (λhn=>?_) (λhn=>?_)⟩;exact ⟨by unfold aB;omega,⟨by omega,by omega,by omega⟩,by omega,h3,λM' hM=>⟨by unfold aB;omega,⟨by omega,by omega,by omega,hM,h4,h5⟩,by omega⟩⟩
  .have hn:¬n=0:=by simpa using hn
   rcases hcp.or with ⟨q,_⟩| ⟨n0,n1,k0,k1,k2,n2,hk⟩;exact absurd q hn;refine ⟨h0,h1,h2,b.take f.toNat,h4,by rw [fB];omega,λy hy hyl=>?_⟩;rw [hj] at hy;rw [fB] at hyl;have w1:IntKind.wrap .u8 (n+125)=n+125:=pg (by simp [Lit.wf,IntKind.min,mU,ij,kH];omega);have w2:IntKind.wrap .u8 (k - 1)=k - 1:=pg (by simp [Lit.wf,IntKind.min,mU,ij,kH];omega);have e:=hy.copy (n:=n.toNat) (back:=k.toNat) (by omega) (by omega) (by omega) (by omega) (by omega) (by omega) hk;rw [w1,w2,show (n+125).toNat=n.toNat+125 by omega,show (k - 1).toNat=k.toNat - 1 by omega];refine ⟨by unfold aB;omega,λ_=>⟨by unfold aB;omega,λ_=>⟨by simp only [av,aY];omega,by simp only [av,aY];omega,by unfold aB;omega,⟨by omega,by omega,n2⟩,by omega,h3,λM' hM=>⟨by unfold aB;omega,⟨by omega,by omega,n2,hM,?_,?_⟩,by omega⟩⟩⟩⟩;rw [show (a+n).toNat=a.toNat+n.toNat by omega];exact e;simp only [af,av,aY];omega
 .refine ⟨h0,by omega,b.take f.toNat,h4,by rw [aR];omega,λy hy hyl=>?_⟩;rw [bK] at hy;rw [aR] at hyl;exact .inr (.inr ⟨0,5,y,.int .i64 0,rfl,aG _,rfl,h y hy (by omega)⟩)
end Go.Proofs

namespace Go.Lm
open Go
def JK (n:Int):Int:=IntKind.wrap .u8 n
def G0 (n:Int):Int:=IntKind.wrap .u8 (ll .i64 n 8)
def Eh (n:Int):Int:=da .xor .u8 (mU .u8) (da .xor .u8 (JK n) (G0 n))
def Wc (n:Int):List UInt8:=[az (JK n).toNat,az (G0 n).toNat,az (Eh n).toNat]
theorem rj (n:Int):(Wc n).length=3:=rfl
theorem Ks {n:Int}:0<=IntKind.wrap .u8 n/\IntKind.wrap .u8 n< 256:=by
 grind [IntKind.wrap, kH, ij]
theorem ahd {op:BinOp} {x y:Int}:0<=da op .u8 x y/\da op .u8 x y< 256:=by simp [da, Ks]
theorem PW {n:Int} (h0:0<=n) (h1:n< 256):((az n.toNat).toNat:Int)=n:=by
 simp; omega
theorem Dj (n:Int):((az (JK n).toNat).toNat:Int)=JK n/\((az (G0 n).toNat).toNat:Int)=G0 n/\((az (Eh n).toNat).toNat:Int)=Eh n:=
 ⟨PW Ks.1 Ks.2,PW Ks.1 Ks.2,PW ahd.1 ahd.2⟩
theorem aj2 {n:Int} (h0:0<=n) (h1:n< 65536):da .or .i64 (JK n) (AB .i64 (G0 n) 8)=n:=by
 have e:=(Dj n).2.1;have hw:JK n=n % 256:=by rfl
 have hs:ll .i64 n 8=n / 256:=by
  unfold ll;rw [Int.fdiv_eq_ediv_of_nonneg _ (by decide)];rfl
 have hb:G0 n=n / 256:=by
  grind [G0, pg, Lit.wf, IntKind.min, mU, ij, kH]
 have:=Zl (x:=JK n) (i:=1) (c:=az (G0 n).toNat) (by decide) (by decide) (by omega) (by grind)
 grind
theorem aea:∀ l:Fin 256,da .and .i64 (l.val:Int) 32768=0/\da .andNot .i64 (l.val:Int) 32768=l.val/\da .and .i64 ((l.val:Int)+32768) 32768=32768/\da .andNot .i64 ((l.val:Int)+32768) 32768=l.val:=by decide+kernel
theorem aiZ {l:Nat} (h:l< 256):da .and .i64 (l:Int) 32768=0/\da .andNot .i64 (l:Int) 32768=l/\da .and .i64 ((l:Int)+32768) 32768=32768/\da .andNot .i64 ((l:Int)+32768) 32768=l:=aea ⟨l,h⟩
def CS (T:List Int) (x:List UInt8) (m:Int):List UInt8:=Wc (x.length+m)++if x= [] then [] else aH 4 (cn T 0 x).toNat++x
theorem amI (T:List Int):CS T [] 0=Wc 0:=by rfl
theorem Jg {T:List Int} {x:List UInt8} {m:Int} (h:x≠ []):CS T x m=Wc (x.length+m)++(aH 4 (cn T 0 x).toNat++x):=by grind [CS]
structure D8 (T:List Int) (b x:List UInt8):Prop where
 or:(b= []/\x=Wc 0)\/∃ (p:List UInt8) (m:Int),0< b.length/\b.length<=128/\0< p.length/\p.length<=b.length/\(m=0/\D9 p b\/m=32768/\p=b)/\x=Wc (p.length+m)++(aH 4 (cn T 0 p).toNat++p)
theorem D8.len {T:List Int} {b x:List UInt8} (h:D8 T b x):3<=x.length/\x.length<=b.length+7:=by
 rcases h.or with ⟨rfl,rfl⟩| ⟨p,m,_,_,h3,h4,_,rfl⟩
 .decide
 grind [rj, aD]
theorem It {x y:List UInt8} {n:Int} (h:n=x.length):jM (x++y) n=x/\Kn (x++y) n=0/\l8 (x++y) n=y:=by
 have hn:¬n>((x++y).length:Int):=by grind
 simp_all [jM, Kn, l8, if_neg]
theorem Tz (n:Int):(JK n==((az (JK n).toNat).toNat:Int)&& (G0 n==((az (G0 n).toNat).toNat:Int)&& (Eh n==((az (Eh n).toNat).toNat:Int)&& true)))=true:=by
 grind [Dj]
theorem ae6 {n:Int} (h0:0<=n) (h1:n< 65536):da .or .i64 ((aA .u8 (Wc n) 0).toNat:Int) (AB .i64 ((aA .u8 (Wc n) 1).toNat:Int) 8)=n:=by
 show da .or .i64 ((az (JK n).toNat).toNat:Int) (AB .i64 ((az (G0 n).toNat).toNat:Int) 8)=n
 grind [Dj, aj2]
structure Cut (im:List UInt8) (a:Int) (p:List UInt8) (s:Int) (st:Bool) (nx:Int):Prop where
 at0:0<=a
 at1:a<=im.length
 or:(p= []/\s=0/\st=false/\nx=a+3/\∃ r,im.drop a.toNat=Wc 0++r)\/(0< p.length/\p.length<=128/\nx=a+7+p.length/\(0<=s/\s<=4294967295)/\∃ r,im.drop a.toNat=Wc (p.length+if st then 32768 else 0)++(aH 4 s.toNat++(p++r)))
structure EF (T:List Int) (im:List UInt8) (a:Int) (b:List UInt8) (nx:Int):Prop where
 at0:0<=a
 at1:a<=im.length
 ex:∃ x r,D8 T b x/\im.drop a.toNat=x++r/\nx=a+x.length
structure alI (im:List UInt8) (a:Int) (p:List UInt8) (s:Int) (st:Bool) (nx e:Int):Prop where
 or:(a=im.length/\p= []/\s=0/\st=false/\nx=0/\e=2)\/(e=0/\Cut im a p s st nx)
structure FrE (T:List Int) (im:List UInt8) (a:Int) (b:List UInt8) (nx e:Int):Prop where
 or:(a=im.length/\b= []/\nx=0/\e=2)\/(e=0/\EF T im a b nx)
theorem Cut.head {im:List UInt8} {a:Int} {p:List UInt8} {s:Int} {st:Bool} {nx:Int} (h:Cut im a p s st nx):p.length<=128/\(st=true->0< p.length)/\∃ q,im.drop a.toNat=Wc (p.length+if st then 32768 else 0)++q/\((p= []/\s=0/\st=false/\nx=a+3)\/(0< p.length/\nx=a+7+p.length/\(0<=s/\s<=4294967295)/\∃ r,q=aH 4 s.toNat++(p++r))):=by
 rcases h.or with ⟨rfl,rfl,rfl,h4,r,h5⟩| ⟨h1,h2,h3,h4,r,h5⟩
 .grind
 grind
theorem aiY {l:Nat} {st:Bool} (h:l< 256):(da .and .i64 ((l:Int)+if st then 32768 else 0) 32768 !=0)=st/\da .andNot .i64 ((l:Int)+if st then 32768 else 0) 32768=l:=by
 grind [aiZ]
theorem agC {s:Int} (h0:0<=s) (h1:s<=4294967295):IntKind.wrap .u32 (bJ (aH 4 s.toNat))=s:=by
 grind [C9, pg, Lit.wf, IntKind.min, mU, ij, kH]
theorem EF.cut {T:List Int} {im:List UInt8} {a:Int} {b:List UInt8} {nx:Int} (h:EF T im a b nx) (hk:∀ p,0<=cn T 0 p/\cn T 0 p<=4294967295):∃ p s st,Cut im a p s st nx/\((p= []/\b= [])\/(0< p.length/\0< b.length/\b.length<=128/\s=cn T 0 p/\(st=true/\p=b\/st=false/\D9 p b))):=by
 obtain ⟨a0,a1,x,r,hx,hd,hn⟩:=h;rcases hx.or with ⟨rfl,rfl⟩| ⟨p,m,b0,b1,p0,p1,hm,rfl⟩;exact ⟨[],0,false,⟨a0,a1,.inl ⟨rfl,rfl,rfl,hn,r,hd⟩⟩,by grind⟩
 .have hl:((Wc (p.length+m)++(aH 4 (cn T 0 p).toNat++p)).length:Int)=7+p.length:=by grind [rj, aD]
  rcases hm with ⟨rfl,he⟩| ⟨rfl,rfl⟩;exact ⟨p,cn T 0 p,false,⟨a0,a1,by grind⟩,by grind⟩;exact ⟨p,cn T 0 p,true,⟨a0,a1,by grind⟩,by grind⟩
theorem an1 {op:BinOp} {x y:Int}:0<=da op .u32 x y/\da op .u32 x y<=4294967295:=by
 simp [da, IntKind.wrap, kH, ij]; omega
theorem zh (T:List Int) (s:Int) (p:List UInt8):0<=cn T s p/\cn T s p<=4294967295:=by simp [cn, JT, an1]
open Go Go.RowKit
def YE (l:Nat) (d:Cl):HO->HO
 | .cells t cs=>.cells t (Sv l d cs)
 | o=>o
def uT (n0:Nat):List Nat->SV->List HO->(SV->List HO->Prop)->Prop
 | [],sv,H',k=>k sv H'
 | l::r,sv,H',k=>match Nat.ble n0 l,lF H' l with
  | true,.sl _ e xs=>uT n0 r (aiW l (.d e xs) sv) ((H'.set l .gone).map (YE l (.d e xs))) k
  | true,.held _ e xs=>uT n0 r (aiW l (.d e xs) sv) (H'.map (YE l (.d e xs))) k
  | _,_=>uT n0 r sv H' k
def tyS:Option Ty->S1->S1
 | some e,.c c=>match e.of [c] with
  | some (x,[])=>(match e.cells x with
   | [c']=>.c c'
   | _=>.c c)
  | _=>.c c
 | some e,.agg cs=>match e.of cs with
  | some (x,[])=>.agg (e.cells x)
  | _=>.agg cs
 | none,x=>x
def aiS:List (Option Ty)->List S1->List S1
 | t::ts,x::r=>tyS t x::aiS ts r
 | _,l=>l
def tyV:List (Option Ty)->SV->SV
 | [t],.v x=>.v (tyS t x)
 | ts,.cC l=>.cC (aiS ts l)
 | _,x=>x
section
variable {E:Env} {g:World}
theorem SE {t:Option Ty} {x:S1} {u:Value} (h:gr E g x u):gr E g (tyS t x) u:=by
 unfold tyS;split
 .rename_i e c;split
  .rename_i x hx;split
   .rename_i c' hc;obtain ⟨u1,u2,e1,h1,h2⟩:=of_cells e hx (show bz E g [c] [u] from ⟨u,[],rfl,h,rfl⟩);obtain rfl:u2= []:=h2;rw [bf] at e1;subst e1;have h3:=(ft E g e h1).1;rw [hc] at h3;obtain ⟨u',r,e2,h4,h5⟩:=h3;obtain rfl:=(List.cons.inj e2).1;exact h4
   .exact h
  .exact h
 .rename_i e cs;split
  .rename_i x hx;obtain ⟨us,h1,rfl⟩:=h;obtain ⟨u1,u2,e1,h3,h2⟩:=of_cells e hx h1;obtain rfl:u2= []:=h2;rw [bf] at e1;subst e1;exact ⟨_,(ft E g e h3).1,rfl⟩
  .exact h
 .exact h
theorem MG:∀ {ts:List (Option Ty)} {l:List S1} {us:List Value},ir E g l us->ir E g (aiS ts l) us
 | _::_,_::_,_,⟨u,r,e,h1,h2⟩=>⟨u,r,e,SE h1,MG h2⟩
 | [],[],_,h=>h
 | [],_::_,_,h=>h
 | _::_,[],_,h=>h
theorem aen {ts:List (Option Ty)} {x:SV} {u:Value} (h:dd E g x u):dd E g (tyV ts x) u:=by
 unfold tyV;split;exact SE h
 .obtain ⟨us,h1,h2⟩:=h;exact ⟨us,MG h1,h2⟩
 omega
theorem Cc {f:HO->HO} {F:List Atom} (hf:∀ (k:Nat) (o:HO) (h:Hp),(cF E k o).sat g h->(cF E k (f o)).sat g h):∀ {H:List HO} {k:Nat} {h:Hp},bd g (a8 E k H++F) h->bd g (a8 E k (H.map f)++F) h
 | [],_,_,s=>s
 | _::_,_,_,⟨h1,h2,ap,e,s1,s2⟩=>⟨h1,h2,ap,e,hf _ _ _ s1,Cc hf s2⟩
theorem HH {l:Nat} {d:Cl} (hd:∀ u,E[l]?=some u->ck E g d u) {k:Nat} {o:HO} {h:Hp} (s:(cF E k o).sat g h):(cF E k (YE l d o)).sat g h:=by
 cases o with
 | cells t cs=>
  obtain ⟨b,us,h1,h2,h3⟩:=s;exact ⟨b,us,h1,yb hd h2,h3⟩
 | _=>exact s
end
section
variable {P:Program} {I:cV->Prop} {f:FuncId} {args:List SV} {H:List HO} {Q Q':SV->List HO->Prop}
theorem Wp.am8 {n0:Nat} {ls:List Nat} (h:Wp I P f args H λsv H'=>uT n0 ls sv H' Q):Wp I P f args H Q:=λW hW g w E F vs hs hv=>
 (h W hW g w E F vs hs hv).mono λv w' ⟨E1,g1,sv,H1,e1,m1,s1,r1,q⟩=>by
  have key:∀ (ls:List Nat) (g1:World) (sv:SV) (H1:List HO),bt g g1->Sat W E1 g1 w' H1 F->dd E1 g1 sv v->uT n0 ls sv H1 Q->∃ g2 sv2 H2,bt g g2/\Sat W E1 g2 w' H2 F/\dd E1 g2 sv2 v/\Q sv2 H2:=by
   intro ls
   induction ls with
   | nil=>intro g1 sv H1 m1 s1 r1 q;exact ⟨g1,sv,H1,m1,s1,r1,q⟩
   | cons l ls ih=>
    intro g1 sv H1 m1 s1 r1 q;unfold uT at q;split at q
    .rename_i t e xs _ eD;have fB:l< H1.length:=by
      rcases eT l H1.length with z| z;exact z;rw [nZ z] at eD;cases eD
     have hl:H1[l]?=some (.sl t e xs):=by
      rw [aq fB,<-eD,mI (aq fB)]
     obtain ⟨u,hE⟩:∃ u,E1[l]?=some u:=⟨E1[l]'(by rw [s1.len];exact fB),aq _⟩;letI:=e.rep;have H2:SL W g1 w' (pD e t u xs::dJ (a8 E1 0 H1++F) l):=(s1.pick hl).cv λk ⟨h1,h2,ap,q,⟨u',x1,x2⟩,x3⟩=>⟨h1,h2,ap,q,by
      rw [hE] at x1;obtain rfl:=aj x1;exact x2,x3⟩
     obtain ⟨g2,m2,H3,hi⟩:=SL.qF (α:=e.den) H2;have S3:Sat W E1 g2 w' (H1.set l .gone) F:=Sat.back .gone s1.len hl (H3.cv λk s2=>⟨λ_=>none,k,λ_=>.inl rfl,rfl,trivial,s2⟩);have hd:∀ u',E1[l]?=some u'->ck E1 g2 (.d e xs) u':=λu' hu=>by
      rw [hE] at hu;obtain rfl:=aj hu;exact hi
     have S4:Sat W E1 g2 w' ((H1.set l .gone).map (YE l (.d e xs))) F:=⟨S3.sl.cv λ_ x=>Cc (λ_ _ _=>HH hd) x,by rw [bT];exact S3.len⟩;exact ih g2 _ _ (m1.trans m2) S4 (MF hd (r1.mono (bu.refl _) m2)) q
    .rename_i t e xs _ eD;have fB:l< H1.length:=by
      rcases eT l H1.length with z| z;exact z;rw [nZ z] at eD;cases eD
     have hl:H1[l]?=some (.held t e xs):=by
      rw [aq fB,<-eD,mI (aq fB)]
     obtain ⟨_,_,_,_,h1,h2,_,_,⟨u,hE,hi⟩,_⟩:=s1.pick hl;have hd:∀ u',E1[l]?=some u'->ck E1 g1 (.d e xs) u':=λu' hu=>by
      rw [hE] at hu;obtain rfl:=aj hu;exact hi
     have S4:Sat W E1 g1 w' (H1.map (YE l (.d e xs))) F:=⟨s1.sl.cv λ_ x=>Cc (λ_ _ _=>HH hd) x,by rw [bT];exact s1.len⟩;exact ih g1 _ _ m1 S4 (MF hd r1) q
    .exact ih g1 sv H1 m1 s1 r1 q
  obtain ⟨g2,sv2,H2,m2,s2,r2,q2⟩:=key ls g1 sv H1 m1 s1 r1 q;exact ⟨E1,g2,sv2,H2,e1,m2,s2,r2,q2⟩
theorem Wp.kE (ts:List (Option Ty)) (ls:List Nat) (h:Wp I P f args H λsv H'=>uT H.length ls sv H' λsv H'=>H.length<=H'.length/\Q ((tyV ts sv).fj (iD (bQ H.length))) (LY H.length H')):Wp I P f args H Q:=
 Wp.sel (Wp.res (Wp.am8 (n0:=H.length) (ls:=ls) (h.mono λsv H' q=>by
  have key:∀ (ls:List Nat) (sv:SV) (H':List HO),uT H.length ls sv H' (λsv H'=>H.length<=H'.length/\Q ((tyV ts sv).fj (iD (bQ H.length))) (LY H.length H'))->uT H.length ls sv H' (λsv H'=>∃ OR,(∀ E g v,dd E g sv v->dd E g OR v)/\∃ ls:List Nat,ls.take H.length=bQ H.length/\ls.Nodup/\(∀ l∈ls,l< H'.length)/\Q (OR.fj (iD ls)) (ls.map λl=>(lF H' l).fj (iD ls))):=by
   intro ls
   induction ls with
   | nil=>exact λsv H' ⟨hl,q⟩=>⟨tyV ts sv,by grind [aen],bQ H.length,by grind,List.nodup_range,by grind,q⟩
   | cons l ls ih=>
    grind [uT]
  grind)))
theorem Wp.agB (h:Wp I P f args H λsv H'=>Q sv (H'.map λ_=>HO.gone)):Wp I P f args H Q:=
 h.fin λW E g w F H' sv s q=>⟨g,_,bt.refl g,⟨s.sl.cv λ_ x=>by
  have key:∀ (H:List HO) (k:Nat) (h:Hp),bd g (a8 E k H++F) h->bd g (a8 E k (H.map λ_=>HO.gone)++F) h:=by
   intro H
   induction H with
   | nil=>grind
   | cons o H ih=>exact λk h ⟨h1,h2,ap,e,s1,s2⟩=>⟨h1,h2,ap,e,trivial,ih _ _ s2⟩
  grind,by rw [bT];exact s.len⟩,q⟩
end
end Go.Lm

namespace Go.Proofs
open Go Go.Lm Go.RowKit
set_option maxRecDepth 1000000
abbrev ag2:Ty:=.pair (.sl .u8) (.pair (.int .u32) (.pair .bool (.pair (.int .i64) .unit)))
def akH:Ct:=cI λn=>c0 λQ=>Q (.v (.agg [.k (.int .u8 (JK n)),.k (.int .u8 (G0 n)),.k (.int .u8 (Eh n))])) []
def ahN:=ahO.add air
abbrev PE (y0:Int):=da BinOp.xor .u8 (if ij .u8=true then (-1:Int) else mU .u8) (da BinOp.xor .u8 (IntKind.wrap .u8 y0) (IntKind.wrap .u8 (ll .i64 y0 iF)))
abbrev jQ:=(↑eZ:Int)
abbrev Iv (y0:Int):=IntKind.wrap .u8 (ll .i64 y0 iF)
def R8 (n:Int):dq:=λQ=>aB .i64 n->aB .u8 (qJ n)->ah<=iF/\(aB .i64 (ll .i64 n iF)->aB .u8 (Iv n)->ah<=ah/\ah< jQ/\ah<=aW/\aW< jQ/\(aB .u8 (da BinOp.xor .u8 (qJ n) (Iv n))->aB 
 .u8 (PE n)->ah<=dm/\dm< jQ/\Q (SV.v (S1.agg [.k (.int .u8 (qJ n)),.k (.int .u8 (Iv n)),.k (.int .u8 (PE n))])) []))
theorem aiC:cq 140 akH:=eI<| nF λn=>gx λQ h=>by
 refine Wp.dy ahN fg ⟨[],[]⟩ Tryz.f140 (R8 n) (hold:=[92]) ?_;unfold R8 Iv qJ jQ PE ah aW dm iF eZ;exact λ_ _=>⟨by decide,λ_ _=>⟨by decide,by decide,by decide,by decide,λ_ _=>⟨by decide,by decide,h⟩⟩⟩
def Hn:Ct
 | [.v (.c cx),.v (.c (.k (.int .i64 m))),.v (.c (.p 0 0)),.v (.c (.p 1 0))],[.cells 174 [.k (.int .i64 0),.k (.slice none 0 0)],.cells 84 [.de (.int .u32) T 0 0]],Q=>(match (Ty.sl Ty.u8).of [cx] with
  | some (x,[])=>T.length=256/\x.length<=128/\(0<=m/\m<=32768)/\((0<=cn T 0 x/\cn T 0 x<=4294967295)->Q (.cC [.c (.d .u8 (CS T x m)),.c (.k (.int .i64 0))]) [.cells 174 [.k (.int .i64 0),.Km],.cells 84 [.de (.int .u32) T 0 0]])
  | _=>False)
 | _,_,_=>False
def ahM:=ahN.add aiC
abbrev MU (y0:List (Ty.u8).den) (y1:Int) (y2:List Int):=[]++ [az (ax (JK ((ay y0)+y1))),az (ax (G0 ((ay y0)+y1))),az (ax (Eh ((ay y0)+y1)))]++aH cQ (ax (cn y2 ah y0))++y0
abbrev Gz (y0:List (Ty.u8).den) (y1:Int):=[]++ [az (ax (JK ((ay y0)+y1))),az (ax (G0 ((ay y0)+y1))),az (ax (Eh ((ay y0)+y1)))]
abbrev eR:=(9223372036854775807:Nat)
abbrev IU (y0:List Int) (y1:List (Ty.u8).den) (R:Prop):=aB .u32 (cn y0 ah y1)->ah=ah/\(aW<=cA/\cA<=cA)/\(0<=cn y0 ah y1/\cn y0 ah y1< 256 ^ cQ)/\R
abbrev ku:=(100000000000:Nat)
abbrev iw (y0:List (Ty.u8).den) (R:Prop):=List.length y0<=100000000/\R
def Bv (x:(List (Ty.u8).den)) (m:Int) (T:List Int):dq:=λQ=>cJ x (aB .i64 m->aJ (dr x)->aB .i64 ((ay x)+m)/\(aB .u8 (JK ((ay x)+m))->aB .u8 (G0 ((ay x)+m))->aB .u8 (Eh ((ay x)+m))->eZ<=eR/\0<=bX none 0/\bX none 0< jQ/\ 
 bX none 0<=bX none jQ/\bX none jQ<=jQ/\bj (bx<=ku/\List.length [az (ax (JK ((ay x)+m))),az (ax (G0 ((ay x)+m))),az (ax (Eh ((ay x)+ 
 m)))]<=100000000/\(aJ (dr x)->br (decide ((ay x)>ah)) (dO T (IU T x (List.length (Gz x m)<=100000000000/\bj (List.length ([]++ [az (ax (JK ((ay x)+m))),az (ax (G0 
 ((ay x)+m))),az (ax (Eh ((ay x)+m)))]++aH cQ (ax (cn T ah x)))<=100000000000/\iw x (bj (List.length (MU x m T)<=100000000000/\(List.length (MU x m T)<=9223372036854775807-> 
 aB .i64 0->Q (SV.cC [S1.c (Cl.d Ty.u8 (MU x m T)),.c (.k aT)]) [.cells 174 [.k aT,.o 2],.cells 84 [Cl.de (.int .u32) T ah bx],.sl 5 Ty.u8 (MU x m T)]))))))) (bj (List.length (Gz x m)<=100000000000/\ 
 (List.length (Gz x m)<=9223372036854775807->aB .i64 0->Q (SV.cC [S1.c (Cl.d Ty.u8 (Gz x m)),.c (.k aT)]) [.cells 174 [.k aT,.o 2],.cells 84 [Cl.de (.int .u32) T ah bx],.sl 5 Ty.u8 (Gz x m)])))))))
theorem UO:cq 139 Hn:=by
 intro args H Q h;unfold Hn at h;split at h;rotate_left;cases h;rename_i cx m T;split at h;rotate_left;cases h;rename_i x hx;refine Wp.said (args':=[.c (.d Ty.u8 x),.int m,.v (.c (.p 0 0)),.v (.c (.p 1 0))]) (λE g=>bA.cE (dI hx) (bA.cE (λ_ h=>h) (bA.cE (λ_ h=>h) (bA.cE (λ_ h=>h) (λ_ h=>h))))) ?_;clear hx;refine Wp.kE [some (.sl .u8),none] [] ?_;refine Wp.dy ahM fg ⟨[],[]⟩ Tryz.f139 (Bv x m T) (hold:=[92]) ?_;unfold Bv jQ iw ku bj IU dr dO eR Gz MU cJ aT ah aW cA ay aJ bx bI eZ cQ;obtain ⟨hT,hx,⟨m0,m1⟩,h⟩:=h;intro _ _ _;refine ⟨by unfold aB;omega,λ_ _ _=>⟨by decide,by decide,by decide,by decide,by decide,rfl,by decide,by show 3<=100000000;omega,λ_=>ak (λhc=>⟨hT,λhk=>?_⟩) (λhc=>?_)⟩⟩
 .have ja:¬x= []:=λe=>by rw [e] at hc;simp at hc
  have hk:0<=cn T 0 x/\cn T 0 x<=4294967295:=hk;rw [Jg ja] at h;refine ⟨rfl,⟨by decide,by decide⟩,by omega,by grind,rfl,by grind [aD],by omega,rfl,by grind [aD],λ_ _=>⟨by simp,?_⟩⟩;have h2:=h hk;exact h2
 .have hc:¬(x.length:Int)>0:=of_decide_eq_false hc;have he:x= []:=bB (by omega);subst he;have h2:=h (zh T 0 []);unfold CS at h2;rw [if_pos rfl,bf] at h2;exact ⟨rfl,by grind,λ_ _=>⟨by simp,h2⟩⟩
def anN:Ct:=cT λT=>cD .u8 λb=>c0 λQ=>T.length=256/\b.length<=128/\∀ x,D8 T b x->Q (.cC [.c (.d .u8 x),.c (.k (.int .i64 0))]) []
def ahL:=ahM.add UO
abbrev kO:=(32768:Int)
def Ye (T:List Int) (b:(List (Ty.u8).den)):dq:=λQ=>cJ b (aJ (dr b)->br (decide ((ay b)>bE)) (sS Q) (aJ (dr b)->br ((ay b)==0) (dO T (bx<=gf/\(ah<=ah/\ah<=kO)/\(0<=cn T ah []/\cn T ah []<= 
 4294967295->aJ (List.length (CS T [] ah))->aB .i64 0->Q (SV.cC [S1.c (Cl.d Ty.u8 (CS T [] ah)),.c (.k aT)]) []))) (List.length b<=4096/\∀ (y:List UInt8),D9 y b->List.length y<=2*List.length b->cW y (aB 
 .i64 0->cW y (aJ (dr b)->br (decide ((ay y)< (ay b))) (dO T (List.length y<=128/\(ah<=ah/\ah<=kO)/\(0<=cn T ah y/\cn T ah y<=4294967295->aJ (List.length (CS T y ah))->aB 
 .i64 0->Q (SV.cC [S1.c (Cl.d Ty.u8 (CS T y ah)),.c (.k aT)]) []))) (dO T (List.length b<=128/\(ah<=kO/\kO<=kO)/\(0<=cn T ah b/\cn T ah b<=4294967295->aJ (List.length (CS T b 
 kO))->aB .i64 0->Q (SV.cC [S1.c (Cl.d Ty.u8 (CS T b kO)),.c (.k aT)]) []))))))))
theorem amc:cq 89 anN:=eI<| okT λT=>iH λb=>gx λQ h=>by
 refine Wp.kE [some (.sl .u8),none] [] ?_;refine Wp.dy ahL fg ⟨[],[]⟩ Tryz.f89 (Ye T b) (hold:=[92]) ?_;unfold Ye kO sS dr cW dO cJ dD aT ah bE ay aJ bx gf bI;obtain ⟨hT,hb,h⟩:=h;refine λ_ _=>ak (λhc=>absurd (of_decide_eq_true hc) (by omega)) (λ_=>λ_=>ak (λhc=>?_) (λhc=>?_))
 .have hc:(b.length:Int)=0:=eq_of_beq hc;have he:b= []:=bB (by omega);subst he;refine ⟨hT,by decide,by decide,λ_ _ _=>⟨aG _,?_⟩⟩;exact h _ ⟨.inl ⟨rfl,rfl⟩⟩
 .have hc:¬(b.length:Int)=0:=by simpa using hc
  refine ⟨by omega,λy hy hyl _ _ _ _=>ak (λhd=>?_) (λhd=>?_)⟩
  .have hd:(y.length:Int)< b.length:=of_decide_eq_true hd;have hy0:y≠ []:=λe=>by
    subst e;have:=hy.done;have:=aj this;subst this;simp at hd
   have:=List.length_pos_iff.2 hy0;refine ⟨hT,by omega,by decide,λ_ _ _=>⟨aG _,?_⟩⟩;rw [Jg hy0];exact h _ ⟨.inr ⟨y,0,by omega,hb,by omega,by omega,.inl ⟨rfl,hy⟩,rfl⟩⟩
  .have hb0:b≠ []:=λe=>by rw [e] at hc;simp at hc
   refine ⟨hT,hb,by decide,λ_ _ _=>⟨aG _,?_⟩⟩;rw [Jg hb0];exact h _ ⟨.inr ⟨b,32768,by omega,hb,by omega,aG _,.inr ⟨rfl,rfl⟩,rfl⟩⟩
def akJ:Ct:=cD .u8 λb=>cI λa=>c0 λQ=>b.length<=100000000/\∃ p s st nx e,alI b a p s st nx e/\Q (.cC [.agg (ag2.cells (p,s,st,nx,())),.c (.k (.int .i64 e))]) []
def ahK:=ahL.add amc
abbrev zZ (y0:SV->List HO->Prop):=y0 (SV.cC [S1.agg [.k (.slice none 0 0),.k (.int .u32 ah),.k (.bool false),.k aT],.c (.k (.int .i64 2))]) []
abbrev rO (y0:Int) (y1:List (Ty.u8).den):=jM (List.drop (aS y0) y1) lh
abbrev Gw (y0:Int) (y1:List (Ty.u8).den):=aA (kC eZ) [rowOf (rO y0 y1) eZ bx] ah
abbrev vI (y0:Int) (y1:List (Ty.u8).den):=l8 (List.drop (aS y0) y1) lh
abbrev PF (y0) (y1:Int) (y2:List (Ty.u8).den):=((JK y0==(↑(cz (Gw y1 y2).1):Int)&& (G0 y0==(↑(cz (Gw y1 y2).2.1):Int)&& (Eh y0==(↑(cz (Gw y1 y2).2.2.1):Int)&& true)),()),())
abbrev IM (y0:Int) (y1:List (Ty.u8).den):=AB .i64 (↑(cz (aA Ty.u8 (rO y0 y1) aW)):Int) iF
abbrev yg (y0:Int) (y1:List (Ty.u8).den):=List.drop 4 (vI y0 y1)
def Sa (b:(List (Ty.u8).den)) (a:Int):dq:=λQ=>cJ b (aB .i64 a->br (cL a) (zZ Q) (aJ (dr b)->br (decide (a>(ay b))) (zZ Q) (0<=a/\a<=(ay b)/\fa (List.length (oD a b))/\bj (ah<=lh/\fa (List.length (oD a b))/\(aJ 
 (List.length (rO a b))->aB .i64 (Kn (oD a b) lh)->br (Kn (oD a b) lh !=0) (zZ Q) (cK (λk=>ah<=ah/\ah< (aP (rO a b))/\(Ty.ok Ty.u8 (aA Ty.u8 (rO a b) ah)->ah<=aW/\aW< 
 (aP (rO a b))/\(Ty.ok Ty.u8 (aA Ty.u8 (rO a b) aW)->ah<=iF/\(aB .i64 (IM a b)->aB .i64 (da BinOp.or .i64 (↑(cz (aA Ty.u8 (rO a b) ah)):Int) (IM a b))->k ((da BinOp.or .i64 
 (↑(cz (aA Ty.u8 (rO a b) ah)):Int) (IM a b),()),()))))) λi=>cK (λk=>(aB .u8 (JK i.1.1)->aB .u8 (G0 i.1.1)->aB .u8 (Eh i.1.1)->3<=List.length (rO a b)/\(Ty.ok (kC eZ) (Gw a b)->k 
 (PF i.1.1 a b)))/\3<=List.length (rO a b)/\(Ty.ok (kC eZ) (Gw a b)->aB .u8 (JK i.1.1)->aB .u8 (G0 i.1.1)->aB .u8 (Eh i.1.1)->k (PF i.1.1 a b))) λbG=>aB .i64 (da BinOp.and .i64 i.1.1 kO)->aB 
 .i64 (a+3)/\cK (λk=>aB .i64 (da BinOp.andNot .i64 i.1.1 kO)->k ((da BinOp.andNot .i64 i.1.1 kO,()),())) λkV=>cK (λk=>br (!bG.1.1) (zZ Q) (br (decide (kV.1.1>128)) (zZ Q) (br (kV.1.1== 
 0) (br (da BinOp.and .i64 i.1.1 kO !=0) (zZ Q) (k ((),()))) (k ((),()))))) λjX=>cK (λk=>br (decide (kV.1.1>0)) (Kn (oD a b) lh=ah/\aW<=cA/\cA<=cA/\cA<=(aP (vI a b))/\ 
 fa (List.length (vI a b))/\(aB .i64 (bJ (List.take cQ (vI a b)))->aB .u32 (IntKind.wrap .u32 (bJ (List.take cQ (vI a b))))->bj (0<=kV.1.1/\fa (List.length (yg a b))/\(List.length (jM (yg a 
 b) kV.1.1)<=9223372036854775807->aB .i64 (cA+kV.1.1)/\aB .i64 (a+3+(cA+kV.1.1))/\k ((),(Kn (yg a b) kV.1.1,l8 (yg a b) kV.1.1,()),(jM (yg a b) kV.1.1,IntKind.wrap .u32 (bJ (List.take 
 cQ (vI a b))),da BinOp.and .i64 i.1.1 kO !=0,a+3+(cA+kV.1.1),()),()))))) (k ((),(Kn (oD a b) lh,l8 (oD a b) lh,()),([],ah,da BinOp.and .i64 i.1.1 kO !=0,a+3,()),()))) fun 
 i=>aB .i64 i.2.1.1->br (i.2.1.1 !=0) (zZ Q) (Q (SV.cC [S1.agg [Cl.d Ty.u8 i.2.2.1.1,.k (.int .u32 i.2.2.1.2.1),.k (.bool i.2.2.1.2.2.1),.k (aC i.2.2.1.2.2.2.1)],.c (.k aT)]) [])))))))
theorem aiF:cq 109 akJ:=eI<| iH λb=>nF λa=>gx λQ h=>by
 refine Wp.kE [some ag2,none] [] ?_;refine Wp.dy ahK fg ⟨[],[(9,⟨[(8,.int .i64)],[]⟩),(10,⟨[(9,.bool)],[]⟩),(12,⟨[(8,.int .i64)],[]⟩),(14,⟨[],[]⟩),(18,⟨[],[(1,.cells 187 [.int .i64,.d .u8]),(2,.cells 197 [.d .u8,.int .u32,.bool,.int .i64])]⟩)]⟩ Tryz.f109 (Sa b a) (hold:=[92]) ?_;unfold Sa yg kO oD bj IM dr PF cL vI Gw rO zZ cJ aT aS aC ah aW lh cA iF aP ay fa aJ bx eZ cQ;obtain ⟨hl,p,s,st,nx,e,hE,h⟩:=h;have ha:0<=a/\a<=(b.length:Int):=by
  rcases hE.or with ⟨h1,_⟩| ⟨_,hC⟩;omega;exact ⟨hC.at0,hC.at1⟩
 refine λ_ _=>ak (λhc=>?_) (λhc=>λ_=>ak (λhd=>?_) (λhd=>?_))
 .have hc:a< 0:=of_decide_eq_true hc;omega
 .have hd:a>b.length:=of_decide_eq_true hd;omega
 have hz:(b.drop a.toNat).length=b.length - a.toNat:=aR;rcases hE.or with ⟨h1,rfl,rfl,rfl,rfl,rfl⟩| ⟨rfl,hC⟩
 .have e1:b.drop a.toNat= []:=List.drop_of_length_le (by omega);rw [e1];exact ⟨by omega,by omega,by decide,rfl,by decide,by decide,λ_ _=>ak (λ_=>⟨aG _,h⟩) (λhq=>by cases hq)⟩
 obtain ⟨hp,uI,q,hdr,hq⟩:=hC.head;obtain ⟨n,hn⟩:∃ n:Int,n=p.length+if st then 32768 else 0:=⟨_,rfl⟩
 have hn0:0<=n/\n< 65536:=by cases st<;>simp at hn<;>omega
 have hsn:=aiY (st:=st) (show p.length< 256 by omega);rw [<-hn] at hdr hsn;have hql:q.length+3<=b.length:=by
  have:=congrArg List.length hdr;rw [af,rj] at this;omega
 obtain ⟨r1,r2,r3⟩:=It (x:=Wc n) (y:=q) (n:=3) rfl;rw [hdr,r1,r2,r3];refine ⟨by omega,by omega,by rw [af,rj];omega,rfl,by decide,by rw [af,rj];omega,λ_ _=>ak (λhq=>by cases hq) (λ_=>?_)⟩;refine cK.intro (λi=>i.1.1=n) ⟨by decide,by rw [rj];decide,λ_=>⟨by decide,by rw [rj];decide,λ_=>⟨by decide,λ_ _=>ae6 hn0.1 hn0.2⟩⟩⟩ ?_;rintro ⟨⟨n',_⟩,_⟩ e;obtain rfl:n'=n:=e;simp only;refine cK.intro (λi=>i.1.1=true) ⟨λ_ _ _=>⟨aG 3,λ_=>Tz _⟩,aG 3,λ_ _ _ _=>Tz _⟩ ?_;rintro ⟨⟨g,_⟩,_⟩ e;obtain rfl:g=true:=e;simp only;rw [hsn.1];refine λ_=>⟨by unfold aB;omega,cK.intro (λi=>i.1.1=p.length) (λ_=>hsn.2) ?_⟩;rintro ⟨⟨l,_⟩,_⟩ e;obtain rfl:l=p.length:=e;simp only;refine cK.intro (λ_=>True) (ak (λhq=>by cases hq) (λ_=>ak (λhq=>absurd (of_decide_eq_true hq) (by omega)) (λ_=>ak (λhz=>ak (λhs=>?_) (λ_=>trivial)) (λ_=>trivial)))) ?_
 .have hz:(p.length:Int)=0:=eq_of_beq hz;have:=uI hs;omega
 intro _ _;refine cK.intro (λi=>i.2.1.1=0/\i.2.2.1=(p,s,st,nx,())) (ak (λhz=>?_) (λhz=>?_)) ?_
 .have hz:(p.length:Int)>0:=of_decide_eq_true hz;rcases hq with ⟨rfl,_⟩| ⟨p0,rfl,hs,r,rfl⟩
  .simp at hz
  have e4:List.take 4 (aH 4 s.toNat++(p++r))=aH 4 s.toNat:=List.take_left' (aD _ _);have e5:List.drop 4 (aH 4 s.toNat++(p++r))=p++r:=List.drop_left' (aD _ _);obtain ⟨q1,q2,q3⟩:=It (x:=p) (y:=r) (n:=p.length) rfl;rw [af,aD] at hql;rw [e4,e5,q1,q2,q3,agC hs.1 hs.2];have hpr:(p++r).length=p.length+r.length:=af;refine ⟨trivial,by decide,by decide,by rw [af,aD];omega,by rw [af,aD];omega,λ_ _=>⟨trivial,by omega,by omega,λ_=>⟨by unfold aB;omega,by unfold aB;omega,rfl,?_⟩⟩⟩;rw [show a+3+(4+(p.length:Int))=a+7+p.length by omega]
 .have hz:¬(p.length:Int)>0:=of_decide_eq_false hz;rcases hq with ⟨rfl,rfl,rfl,rfl⟩| ⟨p0,_⟩
  .exact ⟨rfl,rfl⟩
  .omega
 rintro ⟨_,⟨c,y,_⟩,cc,_⟩ ⟨e1,e2⟩;simp only at e1 e2;subst e1 e2;exact λ_=>ak (λhq=>by cases hq) (λ_=>⟨aG _,h⟩)
def akr:Ct:=cD .u8 λb=>cI λa=>c0 λQ=>∃ p s st nx,b.length<=100000000/\Cut b a p s st nx/\Q (.cC [.c (.k (.int .i64 nx)),.c (.k (.int .i64 0))]) []
def ahJ:=ahK.add aiF
def RG (b:(List (Ty.u8).den)) (a:Int):dq:=λQ=>cJ b (aB .i64 a->iw b (∃ p s st nx e,alI b a p s st nx e/\(aJ (bw p)->aB .u32 s->bZ nx e (Q (.cC [.c (.k (aC nx)),.c (.k (aC e))]) []))))
theorem ail:cq 62 akr:=eI<| iH λb=>nF λa=>gx λQ h=>by
 refine Wp.dy ahJ fg ⟨[],[]⟩ Tryz.f62 (RG b a) (hold:=[92]) ?_;unfold RG iw bZ bw cJ aC aJ;obtain ⟨p,s,st,nx,hl,hC,h⟩:=h;exact λ_ _=>⟨hl,p,s,st,nx,0,⟨by grind⟩,by grind⟩
def akq:Ct:=cT λT=>cD .u8 λb=>cI λa=>c0 λQ=>T.length=256/\b.length<=100000000/\∃ z nx e,FrE T b a z nx e/\Q (.cC [.c (.d .u8 z),.c (.k (.int .i64 nx)),.c (.k (.int .i64 e))]) []
def ahI:=ahJ.add ail
def RE (T:List Int) (b:(List (Ty.u8).den)) (a:Int):dq:=λQ=>cJ b (aB .i64 a->iw b (∃ p s st nx e,alI b a p s st nx e/\(aJ (bw p)->aB .u32 s->bZ nx e (br (e !=0) (Q (.cC [.c dD,.c (.k aT),.c (.k (aC e))]) []) (aJ (bw p)->br ((ay p)==0) (Q 
 (.cC [.c dD,.c (.k (aC nx)),.c (.k aT)]) []) (dO T (aB .u32 (cn T ah p)->br (cn T ah p !=s) (Q (.cC [.c dD,.c (.k aT),.c (.k (.int .i64 2))]) []) (br st (Q (SV.cC [S1.c (Cl.d Ty.u8 p),.c (.k (aC 
 nx)),.c (.k aT)]) []) (∃ z,nS p []=some z/\(ay z)<=bE/\bE<=(1000000:Int)/\(aJ (bw z)->aB .i64 0->aJ (bw z)->br ((ay z)==0) (Q (.cC [.c dD,.c (.k aT),.c (.k (.int .i64 2))]) []) (Q 
 (SV.cC [S1.c (Cl.d Ty.u8 z),.c (.k (aC nx)),.c (.k aT)]) [])))))))))))
theorem aij:cq 63 akq:=eI<| okT λT=>iH λb=>nF λa=>gx λQ h=>by
 refine Wp.kE [some (.sl .u8),none,none] [] ?_;refine Wp.dy ahI fg ⟨[],[]⟩ Tryz.f63 (RE T b a) (hold:=[92]) ?_;unfold RE iw bZ dO bw cJ dD aT aC ah bE ay aJ bI;obtain ⟨hT,hl,z,nx,e,hE,h⟩:=h;refine λ_ _=>⟨hl,?_⟩;rcases hE.or with ⟨h1,rfl,rfl,rfl⟩| ⟨rfl,hF⟩;exact ⟨[],0,false,0,2,⟨.inl ⟨h1,rfl,rfl,rfl,rfl,rfl⟩⟩,λ_ _ _ _=>ak (λ_=>⟨aG _,h⟩) (λq=>by cases q)⟩;obtain ⟨p,s,st,hC,hk⟩:=hF.cut (zh T 0);refine ⟨p,s,st,nx,0,⟨.inr ⟨rfl,hC⟩⟩,λ_ _ _ _=>ak (λq=>by cases q) (λ_=>λ_=>ak (λhq=>?_) (λhq=>⟨hT,λ_=>ak (λhs=>?_) (λ_=>ak (λht=>?_) (λht=>?_))⟩))⟩
 .have hq:(p.length:Int)=0:=eq_of_beq hq;rcases hk with ⟨rfl,rfl⟩| ⟨p0,_⟩
  .exact ⟨aG _,h⟩
  .omega
 all_goals
  have hq:¬(p.length:Int)=0:=by simpa using hq
  rcases hk with ⟨rfl,_⟩| ⟨p0,b0,b1,rfl,hk⟩;exact absurd rfl hq
 .simp at hs
 .rcases hk with ⟨_,rfl⟩| ⟨rfl,_⟩
  .exact ⟨aG _,h⟩
  .cases ht
 .rcases hk with ⟨rfl,_⟩| ⟨_,he⟩
  .cases ht
  .exact ⟨z,he.done,by omega,by decide,λ_ _ _=>ak (λhz=>by have:(z.length:Int)=0:=eq_of_beq hz;omega) (λ_=>⟨aG _,h⟩)⟩
end Go.Proofs

namespace Go.Lm
open Go Go.RowKit
section
variable {P:Program} {I:cV->Prop} {f:FuncId} {Q:SV->List HO->Prop} {tE:TypeId} {n:Int}
theorem Wp.aj7 (h0:∀ w,Calls P f #[.slice none 0 0,.int .i64 0] w λe w'=>e= .returned (.slice none 0 0)/\w'=w)
  (h1:∀ (n:Nat) (w:World),0< n->n<=1000000000->Calls P f #[.slice none 0 0,.int .i64 n] w λe w'=>∃ (G:Nat) (cs:Array Value),e= .returned (.slice (some ⟨w.heap.size,0,none⟩) 0 G)/\w'=w.drew.alloc (.cells cs tE)/\cs.size=G/\G<=maxLen)
  (hn:0<=n/\n<=1000000000) (hq:Q (.c (.o 0)) [.sl tE .u8 []]):Wp I P f [.v (.c (.k (.slice none 0 0))),.v (.c (.k (.int .i64 n)))] [] Q:=by
 intro W hW g w E F vs S Ef;obtain ⟨_,_,rfl,⟨rfl,_⟩,_,_,rfl,⟨rfl,_⟩,hz⟩:=Ef;rw [show _= [] from hz];have hE:E= []:=bB S.len;subst hE;letI:=Ty.u8.rep;by_cases e0:n=0
 .subst e0;refine Calls.mono (h0 w) ?_;rintro e w' ⟨rfl,rfl⟩;refine ⟨_,rfl,[.slice none 0 0],g,.c (.o 0),_,bu.app [] _,bt.refl g,⟨?_,rfl⟩,⟨rfl,none,0,0,rfl⟩,hq⟩;have H:=SL.zT Ty.u8.den tE S.sl;exact H.cv λh ⟨k1,k2,ap,e,s1,s2⟩=>⟨k1,k2,ap,e,⟨_,rfl,s1⟩,s2⟩
 .obtain ⟨m,rfl⟩:∃ m:Nat,n=m:=⟨n.toNat,by omega⟩;refine Calls.mono (h1 m w (by omega) (by omega)) ?_;rintro e w' ⟨G,cs,rfl,rfl,hs,hG⟩;refine ⟨_,rfl,[.slice (some ⟨w.heap.size,0,none⟩) 0 G],g,.c (.o 0),_,bu.app [] _,bt.refl g,⟨?_,rfl⟩,⟨rfl,_,0,G,rfl⟩,hq⟩;have H:=SL.new (S.sl.le (Le.drew w)) (xH.mk' w.drew (.cells cs tE));have H2:=SL.wE (size:=1) (cap:=G) 0 H (cM _) hG (by rw [hs,Nat.mul_one]);have H3:SL W g (w.drew.alloc (.cells cs tE)) (B6 (α:=Ty.u8.den) tE (.slice (some ⟨w.heap.size,0,none⟩) 0 G) []::(a8 [] 0 []++F)):=SL.YG (cs:=[]) trivial (by rw [Nat.zero_mul,List.take_zero] at H2;exact H2);exact H3.cv λh ⟨k1,k2,ap,e,s1,s2⟩=>⟨k1,k2,ap,e,⟨_,rfl,s1⟩,s2⟩
end
end Go.Lm

namespace Go.Proofs
open Go Go.Shelf Go.Lm
set_option maxRecDepth 1000000
def Tryz.Wd:Go.Shelf.Ren:=⟨fun| 4=>142| n=>n,fun| 22=>35| 25=>5| 3=>3| 4=>4| 9=>9| 20=>20| 0=>0| n=>n,fun| n=>n⟩
theorem Tryz.agY:Go.Proofs.Lays8.n4 cg Tryz.Wd:= {
 mixed:=by kernel_rfl
 f4:=⟨"slices.Grow[[]byte,byte]",by kernel_rfl,Tryz.func142.trans (congrArg some (by kernel_rfl))⟩
 t0:=Tryz.underlying0
 a0:=Tryz.isAgg0
 z0:=Tryz.sizeOf0
 v0:=Tryz.zeroValue0
 t3:=Tryz.underlying3
 a3:=Tryz.isAgg3
 z3:=Tryz.sizeOf3
 v3:=Tryz.zeroValue3
 t4:=Tryz.underlying4
 a4:=Tryz.isAgg4
 z4:=Tryz.sizeOf4
 v4:=Tryz.zeroValue4
 t9:=Tryz.underlying9
 a9:=Tryz.isAgg9
 z9:=Tryz.sizeOf9
 v9:=Tryz.zeroValue9
 t20:=Tryz.underlying20
 a20:=Tryz.isAgg20
 z20:=Tryz.sizeOf20
 v20:=Tryz.zeroValue20
 t22:=Tryz.underlying35
 a22:=Tryz.isAgg35
 z22:=Tryz.sizeOf35
 v22:=Tryz.zeroValue35
}
theorem Tryz.anB (w:World):Calls cg 142 #[.slice none 0 0,.int .i64 0] w λe w'=>e= .returned (.slice none 0 0)/\w'=w:=Any8.slices_Grow_room Tryz.agY none 0 0 0 w (aG _) (by decide) (by decide) (by decide)
theorem Tryz.anA (n:Nat) (w:World) (h0:0< n) (h1:n<=1000000000):Calls cg 142 #[.slice none 0 0,.int .i64 n] w λe w'=>∃ (G:Nat) (cs:Array Value),e= .returned (.slice (some ⟨w.heap.size,0,none⟩) 0 G)/\w'=w.drew.alloc (.cells cs 5)/\cs.size=G/\G<=maxLen:=by
 obtain ⟨i0,Ew⟩:=mS.1 (show (Tryz.prog.info? 5).isSome=true by kernel_rfl);have GW:i0.zero=some (.int .u8 0):=by
  have:(Tryz.prog.info? 5).bind (·.zero)=some (.int .u8 0):=by kernel_rfl
  rw [Ew] at this;exact this
 have hs0:i0.size=1:=by
  have:(Tryz.prog.info? 5).map (·.size)=some 1:=by kernel_rfl
  rw [Ew] at this;exact aj this
 have hb0:i0.bytes=1:=by
  have:(Tryz.prog.info? 5).map (·.bytes)=some 1:=by kernel_rfl
  rw [Ew] at this;exact aj this
 refine Calls.mono (Any8.slices_Grow_grow Tryz.agY i0 _ Ew GW (by omega) none 0 0 n [] w (aG _) (by omega) (by rw [hb0];omega) (by omega) (by simp) (λ_=>rfl) (λa q=>by cases q)) ?_;rintro e w' ⟨rfl,rfl⟩;rw [gA];refine ⟨_,_,rfl,rfl,?_,?_⟩
 .have:=grownCap_ge w n 0 5;simp [Builtin.zeroCells,Value.cells];show n+(grownCap w n 0 5 - n)=grownCap w n 0 5;omega
 .exact grownCap_le_maxLen w n 0 5 (by unfold maxLen;omega)
end Go.Proofs

namespace Go.Lm
open Go Go.RowKit
def j4 (L:List HO) (v:Value):Atom:=⟨λg h=>∃ E:Env,E.length=L.length/\E[0]?=some v/\bd g (a8 E 0 L) h,λm ⟨E,h1,h2,h3⟩=>⟨E,h1,h2,bd.mono m h3⟩⟩
def EC (p n:Nat) (i:Nat):Option Nat:=some (if i=0 then p else n+(i - 1))
def M4 (p:Nat) (L H:List HO):List HO:=H.set p ((lF L 0).fj (EC p H.length))++L.tail.map (·.fj (EC p H.length))
def NM (p:Nat) (r:List Nat) (H:List HO):List HO:=(iI H (p::r)).set p (.abs (j4 ((p::r).map λl=>(lF H l).fj (iD (p::r)))))
section
variable {P:Program} {I:cV->Prop} {f:FuncId} {args:List SV} {H:List HO} {Q Q':SV->List HO->Prop}
theorem wJ {E E':Env} {g:World} {r:Nat->Option Nat} (hr:mR r E E'):∀ {L:List HO} {k m:Nat} {h:Hp},(∀ i,r (k+i)=some (m+i))->bd g (a8 E k L) h->bd g (a8 E' m (L.map (·.fj r))) h
 | [],_,_,_,_,s=>s
 | o::L,k,m,_,hi,⟨h1,h2,ap,e,s1,s2⟩=>⟨h1,h2,ap,e,cF.fj hr (hi 0) s1,wJ hr (k:=k+1) (m:=m+1) (λi=>by have:=hi (i+1);rw [show k+1+i=k+(i+1) by omega,show m+1+i=m+(i+1) by omega];exact this) s2⟩
theorem Wp.Zo {p:Nat} {L:List HO} (hp:H[p]?=some (.abs (j4 L))) (hL:0< L.length) (h:Wp I P f args (M4 p L H) Q):Wp I P f args H Q:=Wp.beg λW E g w F s1=>by
 have JF:=(aw.1 hp).1;obtain ⟨E1,hE1⟩:∃ E1:List Value,(∃ v EL,E[p]?=some v/\EL.length=L.length/\EL[0]?=some v/\E1=E++EL.tail/\SL W g w (⟨λg h=>bd g (a8 EL 0 L) h,λm=>bd.mono m⟩::(a8 E 0 (H.set p .gone)++F))):=by
  obtain ⟨be,hs⟩:=s1.sl;have key:∀ h0,bd g (a8 E 0 H++F) h0->∃ v EL,E[p]?=some v/\EL.length=L.length/\EL[0]?=some v/\bd g (⟨λg h=>bd g (a8 EL 0 L) h,λm=>bd.mono m⟩::(a8 E 0 (H.set p .gone)++F)) h0:=λh0 x=>by
   obtain ⟨h1,h2,ap,e,⟨v,hE,EL,a1,a2,a3⟩,x2⟩:=bd.sk hp x;exact ⟨v,EL,hE,a1,a2,h1,h2,ap,e,a3,x2⟩
  obtain ⟨se,hh,ow,x⟩:=hs;obtain ⟨v,EL,b1,b2,b3,b4⟩:=key _ x;exact ⟨_,v,EL,b1,b2,b3,rfl,be,se,hh,ow,b4⟩
 obtain ⟨v,EL,hE,hlen,h0,rfl,S⟩:=hE1;have hr:mR (EC p H.length) EL (E++EL.tail):=λi i' u hi hu=>by
  unfold EC at hi;have hi:=aj hi;by_cases e0:i=0
  .subst e0;rw [if_pos rfl] at hi;subst hi;rw [h0] at hu;obtain rfl:=aj hu;exact bu.app E _ _ _ hE
  .rw [if_neg e0] at hi;subst hi;rw [bD (by rw [s1.len];omega),s1.len,show H.length+(i - 1) - H.length=i - 1 by omega];cases EL with
   | nil=>simp at hu
   | cons x EL=>
    obtain ⟨j,rfl⟩:∃ j,i=j+1:=⟨i - 1,by omega⟩;simpa using hu
 refine ⟨E++EL.tail,M4 p L H,bu.app E _,⟨S.cv λh0 x=>?_,?_⟩,h⟩
 .obtain ⟨h1,h2,ap,e,x1,x2⟩:=x;cases L with
  | nil=>simp at hL
  | cons o Lt=>
   obtain ⟨k1,k2,ap1,e1,y1,y2⟩:=x1;have y1:=cF.fj (E:=EL) hr (l:=0) (l':=p) rfl y1;have y2:=wJ hr (k:=1) (m:=H.length) (λi=>by unfold EC;rw [if_neg (by omega),show 1+i - 1=i by omega]) y2;have x2:=a8.env (bu.app E EL.tail) x2;subst e1;rw [e];obtain ⟨ap2,ap3⟩:=Hp.eM.1 ap.symm;have z:bd g (cF (E++EL.tail) p (o.fj (EC p H.length))::(a8 (E++EL.tail) H.length (Lt.map (·.fj (EC p H.length)))++(a8 (E++EL.tail) 0 (H.set p .gone)++F))) ((k1.join k2).join h2):=⟨k1,k2.join h2,Hp.eM.2 ⟨ap1,ap2.symm⟩,Hp.join_assoc ..,y1,bd.app ap3.symm y2 x2⟩;obtain ⟨m1,m2,ap4,e4,z1,z2⟩:=z;rw [e4];unfold M4;rw [oX,aM,gA,jc];refine bd.comm (B:=a8 (E++EL.tail) 0 (H.set p (o.fj (EC p H.length)))) (A:=a8 (E++EL.tail) H.length (Lt.map (·.fj (EC p H.length)))) ?_;refine bd.under (λh3 x3=>?_) (bd.toEnd (A:=a8 (E++EL.tail) H.length (Lt.map (·.fj (EC p H.length)))) (F:=a8 (E++EL.tail) 0 (H.set p .gone)++F) ⟨m1,m2,ap4,rfl,z1,z2⟩);have:=bd.Em (by rw [jc];exact JF) x3;rw [List.set_set] at this;exact this
 .unfold M4;simp [s1.len,hlen]
theorem Wp.aan (h:Wp I P f args H λsv H'=>∃ (p:Nat) (r:List Nat),(p::r).Nodup/\(∀ l∈p::r,l< H'.length)/\Q sv (NM p r H')):Wp I P f args H Q:=
 h.fin λW E g w F H' sv s ⟨p,r,hn,fB,q⟩=>by
  refine ⟨g,_,bt.refl g,⟨s.sl.cv λh0 x=>?_,?_⟩,q⟩
  .have x1:=bd.qD (ob:=lF H') hn (λl hl=>by
    have Al:=fB l hl;rw [aq Al,mI (aq Al)]) x
   obtain ⟨h1,h2,ap,e,y1,y2⟩:=bd.YA (bd.comm x1);have wj:mR (iD (p::r)) E ((p::r).map λl=>(E[l]?).getD undef):=λl l' v h1 h2=>by
    have:=oP h1;rw [dj,this];simp [h2]
   have y3:=bd.xW (X:=[]) wj (k:=0) (λi l hi=>by rw [gA];exact qk hn hi) (by rw [bf];exact y1);rw [bf] at y3;unfold NM;refine bd.Em (by rw [mO];exact fB p (by simp)) ?_;have hp:p< E.length:=by rw [s.len];exact fB p (by simp)
   exact ⟨h1,h2,ap,e,⟨E[p],aq hp,_,by simp,by simp [aq hp],y3⟩,y2⟩
  .unfold NM;rw [jc,mO];exact s.len
def uK (p:Nat) (r ls:List Nat) (n0:Nat) (Q:SV->List HO->Prop):SV->List HO->Prop:=λsv H'=>
 if nG (p::r)&& (nG ls&& ((p::r).all (λl=>gH l H'.length)&& (ls.all (λl=>gH l H'.length)&& (ls.take n0==bQ n0)))) then Q (sv.fj (iD ls)) (ls.map λl=>(lF (NM p r H') l).fj (iD ls)) else False
theorem Wp.anF {p:Nat} {r ls:List Nat} {H0:List HO} {n0:Nat} (hn:H0.length=n0) (k:(∀ Q,Wp I P f args H Q->Wp I P f args H0 Q)) (h:Wp I P f args H (uK p r ls n0 Q)):Wp I P f args H0 Q:=
 Wp.sel (k _ (Wp.aan (h.mono λsv H' q=>by
  unfold uK at q;obtain ⟨hc,q⟩:=dc q;simp only [ao,bo] at hc;obtain ⟨c1,c2,c3,c4,c5⟩:=hc;refine ⟨p,r,jU.1 c1,λl hl=>by simpa using c3 l hl,ls,by rw [hn];exact eq_of_beq c5,jU.1 c2,λl hl=>?_,q⟩;unfold NM;rw [jc,mO];simpa using c4 l hl)))
theorem Wp.DO {q p:Nat} {r ls:List Nat} {L:List HO} (hp:H[q]?=some (.abs (j4 L))) (hL:0< L.length) (h:Wp I P f args (M4 q L H) (uK p r ls H.length Q)):Wp I P f args H Q:=Wp.anF rfl (λ_ k=>Wp.Zo hp hL k) h
theorem Wp.ZB {p:Nat} {r ls:List Nat} (h:Wp I P f args H (uK p r ls H.length Q)):Wp I P f args H Q:=Wp.anF rfl (λ_ k=>k) h
end
end Go.Lm

namespace Go.Lm
open Go
structure Xl (T:List Int) (x y:List UInt8) (R:List UInt8) (fs:List (List UInt8)):Prop where
 flat:x=fs.flatten
 le:128*fs.length<=R.length
 rest:y=R.drop (128*fs.length)
 fr:∀ (i:Nat) z,fs[i]?=some z->D8 T ((R.drop (128*i)).take 128) z
structure MW (T:List Int) (x y:List UInt8) (R:List UInt8) (fs:List (List UInt8)):Prop where
 g:Xl T x y R fs
 lt:y.length< 128
theorem MW.nil (T:List Int):MW T [] [] [] []:=⟨⟨rfl,aG _,rfl,λi z h=>by simp at h⟩,by decide⟩
theorem Xl.row {T:List Int} {x y R:List UInt8} {fs:List (List UInt8)} (h:Xl T x y R fs):R.length=128*fs.length+y.length:=by
 rw [h.rest,aR];have:=h.le;omega
theorem Xl.app {T:List Int} {x y R:List UInt8} {fs:List (List UInt8)} (h:Xl T x y R fs) (b:List UInt8):Xl T x (y++b) (R++b) fs:=by
 have hle:=h.le;refine ⟨h.flat,by rw [af];omega,?_,λi z hi=>?_⟩;rw [h.rest,eQ hle]
 .have fB:=(aw.1 hi).1;have:=h.fr i z hi;rw [eQ (by omega),List.take_append_of_le_length (by rw [aR];omega)];exact this
theorem Xl.step {T:List Int} {x y R z:List UInt8} {fs:List (List UInt8)} (h:Xl T x y R fs) (hy:128<=y.length) (hz:D8 T (y.take 128) z):Xl T (x++z) (y.drop 128) R (fs++ [z]):=by
 have hr:=h.row;refine ⟨by rw [jz,<-h.flat,List.flatten_singleton],by rw [af,aE];omega,?_,λi q hi=>?_⟩;rw [h.rest,eN,af,aE,show 128*(fs.length+1)=128*fs.length+128 by omega]
 .rcases eT i fs.length with hl| hl
  .rw [bF hl] at hi;exact h.fr i q hi
  .rw [bD hl] at hi;have fB:=(aw.1 hi).1;rw [aE] at fB;obtain rfl:i=fs.length:=by omega
   rw [Nat.sub_self] at hi;obtain rfl:z=q:=by simpa using hi
   rw [<-h.rest];exact hz
theorem NN {T:List Int} {R:List UInt8}:∀ {fs:List (List UInt8)} {k:Nat},(∀ (i:Nat) z,fs[i]?=some z->D8 T ((R.drop (128*(k+i))).take 128) z)->fs.flatten.length<=135*fs.length
 | [],_,_=>aG _
 | z::fs,k,h=>by
  have h1:=(h 0 z rfl).len.2;have h2:=NN (fs:=fs) (k:=k+1) (λi z hz=>by rw [show k+1+i=k+(i+1) by omega];exact h (i+1) z (by simpa using hz));rw [aF] at h1;simp only [dz,af,av];omega
theorem Xl.adj {T:List Int} {x y R:List UInt8} {fs:List (List UInt8)} (h:Xl T x y R fs):x.length<=135*fs.length:=by
 rw [h.flat];exact NN (T:=T) (R:=R) (k:=0) (λi z hz=>by rw [gA];exact h.fr i z hz)
structure kZ (T:List Int) (fs:List (List UInt8)) (R:List UInt8):Prop where
 len:fs.length=(R.length+127) / 128
 fr:∀ (i:Nat) z,fs[i]?=some z->D8 T ((R.drop (128*i)).take 128) z
def dS (fs:List (List UInt8)) (o:Nat):Nat:=256*(fs.take (o / 128)).flatten.length+o % 128
theorem MW.amE {T:List Int} {x y R:List UInt8} {fs:List (List UInt8)} (h:MW T x y R fs) (hy:y= []):kZ T fs R/\x=fs.flatten:=by
 have hr:=h.g.row;subst hy;exact ⟨⟨by rw [hr,aY];omega,h.g.fr⟩,h.g.flat⟩
theorem MW.amD {T:List Int} {x y R z:List UInt8} {fs:List (List UInt8)} (h:MW T x y R fs) (hy:y≠ []) (hz:D8 T y z):kZ T (fs++ [z]) R/\x++z=(fs++ [z]).flatten:=by
 have hr:=h.g.row;have hl:=h.lt;have h0:=List.length_pos_iff.2 hy;refine ⟨⟨by rw [af,aE];omega,λi q hi=>?_⟩,by rw [jz,<-h.g.flat,List.flatten_singleton]⟩;rcases eT i fs.length with wk| wk
 .rw [bF wk] at hi;exact h.g.fr i q hi
 .rw [bD wk] at hi;have fB:=(aw.1 hi).1;rw [aE] at fB;obtain rfl:i=fs.length:=by omega
  rw [Nat.sub_self] at hi;obtain rfl:z=q:=by simpa using hi
  rw [<-h.g.rest,aL (by omega)];exact hz
theorem MW.ref {T:List Int} {x y R:List UInt8} {fs:List (List UInt8)} (h:MW T x y R fs) (gs:List (List UInt8)):256*x.length+y.length=dS (fs++gs) R.length:=by
 have hr:=h.g.row;have hl:=h.lt;have e1:R.length / 128=fs.length:=by omega
 have e2:R.length % 128=y.length:=by omega
 unfold dS;rw [e1,e2,List.take_left,<-h.g.flat]
abbrev dV:Ty:=.pair (.sl .u8) (.pair (.int .i64) .unit)
def fx (fs:List (List UInt8)) (k:Nat):Nat:=(fs.take k).flatten.length
def lp (R:List UInt8) (k:Nat):List UInt8:=(R.drop (128*k)).take 128
def uU (fs:List (List UInt8)) (R:List UInt8) (k:Nat):Int×dV.den:=((fx fs k:Int),lp R k,(fx fs (k+1):Int),())
structure iX (T:List Int) (im:List UInt8) (a c:Int) (fs:List (List UInt8)) (R:List UInt8) (M:List (Int×dV.den)):Prop where
 a0:0<=a
 ac:c=a+fs.flatten.length
 ci:c<=im.length
 row:kZ T fs R
 at':∃ r,im.drop a.toNat=fs.flatten++r
 nxt:c=im.length\/∃ b nx,EF T im c b nx
 all:∃ ks:List Nat,ks.Nodup/\(∀ k∈ks,k< fs.length)/\M=ks.map (uU fs R)
structure ah8 (fs:List (List UInt8)) (R:List UInt8) (k:Nat) (h:dV.den) (ok:Bool):Prop where
 or:(ok=true/\k< fs.length/\h=(lp R k,(fx fs (k+1):Int),()))\/(ok=false/\k=fs.length/\h=([],0,()))
theorem pig:∀ {n:Nat} {l:List Nat},l.Nodup->(∀ x∈l,x< n)->l.length<=n
 | 0,l,_,h=>by
  cases l with
  | nil=>exact aG 0
  | cons x l=>exact absurd (h x aN) (Nat.not_lt_zero x)
 | n+1,l,hn,h=>by
  by_cases hm:n∈l
  .have h1:(l.erase n).Nodup:=hn.erase n;have h2:(l.erase n).length<=n:=pig h1 λx hx=>by
    have h3:=List.mem_of_mem_erase hx;have h4:x≠n:=λe=>by
     subst e;exact absurd hx (by rw [hn.mem_erase_iff];simp)
    have:=h x h3;omega
   rw [List.length_erase_of_mem hm] at h2;omega
  .have:=pig (n:=n) hn λx hx=>by
    have h4:x≠n:=λe=>hm (e▸hx);have:=h x hx;omega
   omega
theorem oc {fs:List (List UInt8)} {k:Nat} (h:k< fs.length):fx fs (k+1)=fx fs k+fs[k].length:=by
 unfold fx;rw [bY h,jz,af,List.flatten_singleton]
theorem xB {T:List Int} {fs:List (List UInt8)} {R:List UInt8} (h:kZ T fs R):∀ {j k:Nat},j< k->k<=fs.length->fx fs j+3<=fx fs k
 | j,0,h1,_=>by omega
 | j,k+1,h1,h2=>by
  have e:=oc (fs:=fs) (k:=k) (by omega);have h3:=(h.fr k fs[k] (aq (by omega))).len.1;rcases eT j k with q| q
  .have:=xB h q (by omega);omega
  .obtain rfl:j=k:=by omega
   omega
theorem J7 {T:List Int} {fs:List (List UInt8)} {R:List UInt8} (h:kZ T fs R):∀ {k:Nat},k<=fs.length->3*k<=fx fs k
 | 0,_=>by omega
 | k+1,hk=>by
  have:=J7 h (k:=k) (by omega);have:=xB h (j:=k) (k:=k+1) (by omega) hk;omega
theorem OC {T:List Int} {fs:List (List UInt8)} {R:List UInt8} (h:kZ T fs R) {j k:Nat} (hj:j<=fs.length) (hk:k<=fs.length) (e:fx fs j=fx fs k):j=k:=by
 rcases Nat.lt_trichotomy j k with q| q| q;have:=xB h q hk;omega;exact q;have:=xB h q hj;omega
theorem qx (fs:List (List UInt8)):fx fs fs.length=fs.flatten.length:=by unfold fx;rw [fz]
theorem xC {T:List Int} {fs:List (List UInt8)} {R:List UInt8} (h:kZ T fs R) {k:Nat} (hk:k<=fs.length):fx fs k<=fs.flatten.length:=by
 rw [<-qx];rcases eT k fs.length with q| q;have:=xB h q (aG _);omega
 .obtain rfl:k=fs.length:=by omega
  exact aG _
theorem iX.get {T:List Int} {im:List UInt8} {a c:Int} {fs:List (List UInt8)} {R:List UInt8} {M:List (Int×dV.den)} (h:iX T im a c fs R M) {k:Nat} (hk:k<=fs.length):(Kk.get .int M (fx fs k:Int)=none/\(k< fs.length->iX T im a c fs R (Kk.put .int M (fx fs k:Int) (uU fs R k).2))/\M.length<=fs.length)\/(k< fs.length/\Kk.get .int M (fx fs k:Int)=some (uU fs R k).2):=by
 obtain ⟨ks,hn,hl,rfl⟩:=h.all;cases hg:Kk.get .int (ks.map (uU fs R)) (fx fs k:Int) with
 | none=>
  have kA:∀ j∈ks,j≠k:=λj hj e=>by
   subst e;exact (oa (κ:=Int)).1 hg (uU fs R j) (bp.2 ⟨j,hj,rfl⟩) rfl
  refine .inl ⟨rfl,λr7=>⟨h.a0,h.ac,h.ci,h.row,h.at',h.nxt,k::ks,gj.2 ⟨λq=>kA k q rfl,hn⟩,λj hj=>?_,?_⟩,by rw [bT];exact pig hn hl⟩
  .rcases bm.1 hj with rfl| hj
   .exact r7
   .exact hl j hj
  .show ((fx fs k:Int),(uU fs R k).2)::pf (ks.map (uU fs R)) (fx fs k:Int)=uU fs R k::ks.map (uU fs R);congr 1;unfold pf;refine lr.2 λp hp=>?_;obtain ⟨j,hj,rfl⟩:=bp.1 hp;have:(fx fs j:Int)≠fx fs k:=λe=>kA j hj (OC h.row (Nat.le_of_lt (hl j hj)) hk (by omega));show (!decide ((fx fs j:Int)=fx fs k))=true;simp [this]
 | some v=>
  have hm:=oR (κ:=Int) hg;obtain ⟨j,hj,hp⟩:=bp.1 hm;have hp1:(fx fs j:Int)=fx fs k:=congrArg Prod.fst hp;obtain rfl:j=k:=OC h.row (Nat.le_of_lt (hl j hj)) hk (by omega);exact .inr ⟨hl j hj,congrArg some (congrArg Prod.snd hp).symm⟩
theorem iX.take {T:List Int} {im:List UInt8} {a c:Int} {fs:List (List UInt8)} {R:List UInt8} {M:List (Int×dV.den)} (h:iX T im a c fs R M) {k:Nat} (hk:k< fs.length):EF T im (a+fx fs k) (lp R k) (a+fx fs (k+1))/\lp R k≠ []:=by
 have ha:=h.a0;have hac:=h.ac;have hci:=h.ci;have hle:=xC h.row (Nat.le_of_lt hk);obtain ⟨r,hr⟩:=h.at';have Df:fs.flatten=(fs.take k).flatten++(fs[k]++(fs.drop (k+1)).flatten):=by
  conv=>lhs;rw [<-bK k fs,jz,bM hk,dz]
 refine ⟨⟨by omega,by omega,fs[k],(fs.drop (k+1)).flatten++r,h.row.fr k _ (aq hk),?_,by rw [oc hk];omega⟩,λe=>?_⟩
 .rw [show (a+(fx fs k:Int)).toNat=a.toNat+fx fs k by omega,<-eN,hr,Df,aM,aM];exact lR
 .have:=h.row.len;have e2:=congrArg List.length e;unfold lp at e2;rw [aF,aR,aY] at e2;omega
structure pw (fs:List (List UInt8)) (R:List UInt8) (o n:Nat) (z:List UInt8) (nx e:Int):Prop where
 or:(o+n<=R.length/\z=(R.drop o).take n/\nx=(dS fs (o+n):Int)/\e=0)\/(R.length< o+n/\z= []/\nx=0/\e=2)
theorem VA (fs:List (List UInt8)) (o:Nat):gu (dS fs o:Int) 256=(fx fs (o / 128):Int)/\Int.tmod (dS fs o:Int) 256=((o % 128:Nat):Int):=by
 unfold dS;have:∀ s m:Nat,m< 256->gu ((256*s+m:Nat):Int) 256=(s:Int)/\Int.tmod ((256*s+m:Nat):Int) 256=(m:Int):=λs m hm=>by
  rw [Int.tdiv_eq_ediv_of_nonneg (by omega),Int.tmod_eq_emod_of_nonneg (by omega)];omega
 exact this (fx fs (o / 128)) (o % 128) (by omega)
theorem M0 (R:List UInt8) (o c m:Nat):(R.drop o).take c++(R.drop (o+c)).take m=(R.drop o).take (c+m):=by
 rw [List.take_add,eN]
theorem abq (R:List UInt8) (p h:Nat) (hh:h<=128):((lp R (p / 128)).drop (p % 128)).take (h - p % 128)=(R.drop p).take (h - p % 128):=by
 unfold lp;rw [lQ,eN,o8,show 128*(p / 128)+p % 128=p by omega,py (by omega)]
theorem rA (R:List UInt8) (k:Nat):(lp R k).length=min 128 (R.length - 128*k):=by
 unfold lp;rw [aF,aR]
end Go.Lm

namespace Go.Proofs
open Go Go.Lm Go.RowKit
set_option maxRecDepth 1000000
def akM:Ct:=cD .u8 λx=>c0 λQ=>x.length<=140737488355328/\Q (.c (.o 0)) [.sl 5 .u8 x]
def abX:=ahI.add aij
def Si (x:(List (Ty.u8).den)):dq:=λQ=>cJ x (zY x Q)
theorem aiK:cq 38 akM:=eI<| iH λx=>gx λQ h=>by
 refine Wp.CU (t:=5) (e:=.u8) ?_;refine Wp.dy abX fg ⟨[],[]⟩ Tryz.f38 (Si x) (hold:=[92]) ?_;unfold Si zY cd cJ dD;obtain ⟨hl,h⟩:=h;refine λ_ c hc=>ak (λhb=>.inr ⟨rfl,?_⟩) (λhb=>⟨by omega,by omega,.inl h⟩);have hb:c=true:=hb;rw [hc hb] at h;exact h
def Bc:Ct
 | [.v (.c (.p 0 0)),.v (.c cb)],[.cells 150 [.de (.int .u32) T 0 0,.o 1,.o 2],.sl 5 .u8 x,.sl 5 .u8 y],Q=>(match (Ty.sl Ty.u8).of [cb] with
  | some (b,[])=>∃ R fs,T.length=256/\MW T x y R fs/\R.length+b.length<=10000000/\∀ x' y' fs',MW T x' y' (R++b) (fs++fs')->Q (.int (256*x.length+y.length)) [.cells 150 [.de (.int .u32) T 0 0,.o 3,.o 4],.gone,.gone,.sl 5 .u8 x',.sl 5 .u8 y']
  | _=>False)
 | _,_,_=>False
def ahH:=abX.add aiK
abbrev CN {A0:Type} (y0:List A0) (y1:List UInt8) (R:Prop):=aB .i64 0->(List.length y0+List.length y1)*1<=cd/\List.length y0+List.length y1<=9223372036854775807/\R
def Lj (b:(List (Ty.u8).den)) (T:List Int) (x y:List UInt8):dq:=λQ=>cJ b (cW x (aB .i64 (fb*(ay x))/\(cW y (aB .i64 (fb*(ay x)+(ay y))/\yD y b (aK (λi ag=>fA i.2.1.2.2.1 (br (decide ((aP i.2.1.2.2.1)≥bE)) (ah<=bE/\ 
 bE<=(aP i.2.1.2.2.1)/\ah<=ah/\ah<=bE/\bE<=(aP i.2.1.2.2.1)/\dO i.2.1.1 (List.length (List.take gf (List.drop 0 i.2.1.2.2.1))<=128/\∀ (x:List UInt8),D8 i.2.1.1 (List.take gf (List.drop 0 
 i.2.1.2.2.1)) x->cW x (CN i.2.1.2.1 x (ah<=bE/\bE<=(aP i.2.1.2.2.1)/\fa (List.length (List.drop 128 i.2.1.2.2.1))/\ag ((),(i.2.1.1,i.2.1.2.1++x,List.drop gf i.2.1.2.2.1,()),()))))) (Q (.v (.c (.k 
 (.int .i64 (fb*(ay x)+(ay y)))))) [.cells 150 [Cl.de (.int .u32) i.2.1.1 ah bx,.o 3,.o 4],.gone,.gone,.sl 5 Ty.u8 i.2.1.2.1,.sl 5 Ty.u8 i.2.1.2.2.1]))) ((),(T,x,y++b,()),()))))))
theorem HW:cq 54 Bc:=by
 intro args H Q h;unfold Bc at h;split at h;rotate_left;cases h;rename_i cb T x y;split at h;rotate_left;cases h;rename_i b hb;refine Wp.said (args':=[.v (.c (.p 0 0)),.c (.d Ty.u8 b)]) (λE g=>bA.cE (λ_ h=>h) (bA.cE (dI hb) (λ_ h=>h))) ?_;clear hb;refine Wp.dy ahH fg ⟨[(4,⟨[],[(0,.cells 150 [.dp (.int .u32),.own 5 .u8,.own 5 .u8])]⟩)],[]⟩ Tryz.f54 (Lj b T x y) (hold:=[89,38]) ?_;unfold Lj yD cW CN dO fA cd cJ ah bE fb aP ay fa aJ bx gf bI;obtain ⟨R,fs,hT,hm,hl,h⟩:=h;have hr:=hm.g.row;have hx:=hm.g.adj;have fB:=hm.lt;refine λ_ _=>⟨by unfold aB;omega,λ_=>⟨by unfold aB;omega,by omega,by omega,?_⟩⟩;refine aK.intro (λi=>i.2.1.1=T/\∃ fs',Xl T i.2.1.2.1 i.2.1.2.2.1 (R++b) (fs++fs')) (λi=>i.2.1.2.2.1.length) ⟨rfl,[],by rw [bf];exact hm.g.app b⟩ ?_;rintro ⟨_,⟨T',x',y',_⟩,_⟩ ⟨rfl,fs',h1⟩;simp only at h1 ⊢;have h2:=h1.row;have h3:=h1.adj;rw [af] at h2;refine λ_=>ak (λhc=>?_) (λhc=>?_)
 .have hc:(y'.length:Int)≥128:=of_decide_eq_true hc;rw [o9];refine ⟨by decide,by omega,by decide,by decide,by omega,hT,by rw [aF];omega,λz hz _ _=>?_⟩;have hz2:=hz.len.2;rw [aF] at hz2;exact ⟨by omega,by omega,by decide,by omega,by rw [aR];omega,⟨trivial,fs'++ [z],by rw [<-aM];exact h1.step (by omega) hz⟩,by rw [aR];omega⟩
 .have hc:¬(y'.length:Int)≥128:=of_decide_eq_false hc;exact h x' y' fs' ⟨h1,by omega⟩
def Og:Ct
 | .v (.c (.p 0 0))::vs,[.abs a],Q=>∃ (T:List Int) (x:List UInt8) (y:List UInt8),a=j4 [.cells 150 [.de (.int .u32) T 0 0,.o 1,.o 2],.sl 5 .u8 x,.sl 5 .u8 y]/\Bc (.v (.c (.p 0 0))::vs) [.cells 150 [.de (.int .u32) T 0 0,.o 1,.o 2],.sl 5 .u8 x,.sl 5 .u8 y] (uK 0 [3,4] [0] 1 Q)
 | _,_,_=>False
theorem Bk:cq 54 Og:=λargs H Q h=>by
 unfold Og at h;split at h
 .obtain ⟨T,x,y,rfl,h⟩:=h;exact Wp.DO (q:=0) (L:=[.cells 150 [.de (.int .u32) T 0 0,.o 1,.o 2],.sl 5 .u8 x,.sl 5 .u8 y]) rfl (fy _) (HW _ _ _ h)
 .cases h
def TY:Ct:=cT λT=>c0 λQ=>Q (.c (.p 0 0)) [.cells 150 [.de (.int .u32) T 0 0,.o 1,.o 2],.sl 5 .u8 [],.sl 5 .u8 []]
def an7:=(ahH.add HW).add Bk
def Li (T:List Int):dq:=λQ=>Q (SV.v (S1.c (.p 0 0))) [.cells 150 [Cl.de (.int .u32) T ah bx,.k eP,.k eP]]
theorem Rg:cq 47 TY:=eI<| okT λT=>gx λQ h=>by
 refine (λhh=>Wp.xy (p:=0) (t:=150) (tt:=5) (e:=.u8) (Wp.xy (p:=0) (t:=150) (tt:=5) (e:=.u8) hh)) ?_;refine Wp.dy an7 fg ⟨[],[]⟩ Tryz.f47 (Li T) (hold:=[89,38]) ?_;unfold Li eP ah bx;exact ⟨[_],[_],rfl,[_,_],[],rfl,h⟩
def aaV:Ct:=λargs H Q=>TY args H (uK 0 [1,2] [0] H.length Q)
theorem KA:cq 47 aaV:=λargs H Q h=>Wp.ZB (Rg _ _ _ h)
def aa6:Ct
 | [.v (.c (.k (.slice none 0 0))),.v (.c (.k (.int .i64 n)))],[],Q=>(0<=n/\n<=1000000000)/\Q (.c (.o 0)) [.sl 5 .u8 []]
 | _,_,_=>False
theorem aiD:cq 142 aa6:=λargs H Q h=>by
 unfold aa6 at h;split at h;exact Wp.aj7 Tryz.anB Tryz.anA h.1 h.2;cases h
def abi:Ct:=cD (Ty.sl Ty.u8) λl=>c0 λQ=>l.flatten.length<=100000000/\Q (.c (.d .u8 l.flatten)) []
def ahG:=((((abX.add HW).add Bk).add Rg).add KA).add aiD
abbrev eY:=SV.v (S1.c (.o 0))
def FT (l:(List ((Ty.sl Ty.u8)).den)):dq:=λQ=>List.length l<=9223372036854775807->aJ (List.length l)->aK (λi ag=>br (decide (i.1.1< (ay l))) (0<=i.1.1/\i.1.1< (ay l)/\(Ty.ok bC (aA bC l i.1.1)->aJ (List.length (aA bC l i.1.1))->aB .i64 
 (i.1.2.1+(aP (aA bC l i.1.1)))/\br (decide (i.1.2.1+(aP (aA bC l i.1.1))< ah)) False (cj i.1.1 (ag ((i.1.1+1,i.1.2.1+(aP (aA bC l i.1.1)),()),()))))) ((0<=i.1.2.1/\i.1.2.1<=1000000000)/\(aJ 
 (List.length l)->aK (λi ag=>br (decide (i.1.1< (ay l))) (0<=i.1.1/\i.1.1< (ay l)/\(Ty.ok bC (aA bC l i.1.1)->(List.length i.1.2.1+List.length (aA bC l i.1.1))*1<=cd/\List.length i.1.2.1+List.length (aA 
 bC l i.1.1)<=9223372036854775807/\cj i.1.1 (ag ((i.1.1+1,i.1.2.1++aA bC l i.1.1,()),())))) (Q eY [.sl 5 Ty.u8 i.1.2.1])) ((ah,[],()),())))) ((ah,ah,()),())
theorem X1:cq 90 abi:=eI<| iH λl=>gx λQ h=>by
 refine Wp.kE [some (.sl .u8)] [0] ?_;refine Wp.dy ahG fg ⟨[(4,⟨[(11,.int .i64),(3,.int .i64)],[]⟩),(12,⟨[(27,.int .i64),(6,.own 5 .u8)],[]⟩)],[]⟩ Tryz.f90 (FT l) (hold:=[89,38]) ?_;unfold FT eY cj cd ah aP ay aJ bC;obtain ⟨hl,h⟩:=h;have uI:∀ i:Int,0<=i->i< l.length->(l.take (i+1).toNat).flatten=(l.take i.toNat).flatten++aA (.sl .u8) l i:=λi h0 h1=>by
  rw [ixT (e:=.sl .u8) h0 h1,jz,List.flatten_singleton]
 have hle:∀ n:Nat,(l.take n).flatten.length<=l.flatten.length:=λn=>by
  conv=>rhs;rw [<-bK n l,jz,af]
  omega
 intro _ _;refine aK.intro (λi=>0<=i.1.1/\i.1.1<=l.length/\i.1.2.1=(l.take i.1.1.toNat).flatten.length) (λi=>l.length - i.1.1.toNat) ⟨by simp,by simp,by simp⟩ ?_;rintro ⟨⟨i,n,_⟩,_⟩ ⟨h0,h1,h2⟩;simp only at h0 h1 h2 ⊢;subst h2;have:=hle i.toNat
 refine ak (λhc=>?_) (λhc=>⟨by omega,λ_=>?_⟩)
 .have hc:i< (l.length:Int):=of_decide_eq_true hc;have e:=uI i h0 hc;have h3:=hle (i+1).toNat
  have e2:=congrArg List.length e;rw [af] at e2;generalize aA (.sl .u8) l i=z at*;exact ⟨h0,hc,λ_ _=>⟨by unfold aB;omega,ak (λhd=>by have hd:=of_decide_eq_true hd;omega) (λ_=>⟨by unfold aB;omega,⟨by omega,by omega,by omega⟩,by omega⟩)⟩⟩
 refine aK.intro (λi=>0<=i.1.1/\i.1.1<=l.length/\i.1.2.1=(l.take i.1.1.toNat).flatten) (λi=>l.length - i.1.1.toNat) ⟨by simp,by simp,by simp⟩ ?_;rintro ⟨⟨j,n,_⟩,_⟩ ⟨h0,h1,h2⟩;simp only at h0 h1 h2 ⊢;subst h2;refine ak (λhc=>?_) (λhc=>?_)
 .have hc:j< (l.length:Int):=of_decide_eq_true hc;have e:=uI j h0 hc;have h3:=hle (j+1).toNat
  have e2:=congrArg List.length e;rw [af] at e2;exact ⟨h0,hc,λ_=>⟨by omega,by omega,by unfold aB;omega,⟨by omega,by omega,e.symm⟩,by omega⟩⟩
 .have hc:¬j< (l.length:Int):=of_decide_eq_false hc;rw [aL (by omega)];exact ⟨cM _,h⟩
def DE:Ct
 | [.v (.c (.p 0 0))],[.cells 150 [.de (.int .u32) T 0 0,.o 1,.o 2],.sl 5 .u8 x,.sl 5 .u8 y],Q=>∃ R fs,T.length=256/\MW T x y R fs/\R.length<=10000000/\∀ fs',kZ T (fs++fs') R->Q (.c (.d .u8 (fs++fs').flatten)) [.gone,.gone,.gone]
 | _,_,_=>False
def ahF:=ahG.add X1
def Fl (T:List Int) (x y:List UInt8):dq:=λQ=>List.length y<=9223372036854775807->br ((ay y)==0) (fa (List.length x)/\(cW x (Q (SV.v (S1.c (Cl.d Ty.u8 x))) [.cells 150 [Cl.de (.int .u32) T ah bx,.o 1,.o 2],HO.held (5:TypeId) Ty.u8 x,.sl 5 Ty.u8 
 y]))) (dO T (List.length y<=128/\∀ (zI:List UInt8),D8 T y zI->cW zI (aB .i64 0->List.length (ae [x,zI])<=100000000/\(aJ (List.length (ae [x,zI]))->Q (SV.v (S1.c (Cl.d Ty.u8 (ae [x, 
 zI])))) [.cells 150 [Cl.de (.int .u32) T ah bx,.o 1,.o 2],HO.held (5:TypeId) Ty.u8 x,HO.held (5:TypeId) Ty.u8 y]))))
theorem KB:cq 55 DE:=by
 intro args H Q h;unfold DE at h;split at h;rotate_left;cases h;rename_i T x y;refine Wp.agB ?_;refine Wp.dy ahF fg ⟨[],[]⟩ Tryz.f55 (Fl T x y) (hold:=[89,38,90]) ?_;unfold Fl cW dO ah ay fa aJ bx bI;obtain ⟨R,fs,hT,hm,hl,h⟩:=h;have hr:=hm.g.row;have hx:=hm.g.adj;have fB:=hm.lt;refine λ_=>ak (λhc=>?_) (λhc=>?_)
 .have hc:(y.length:Int)=0:=eq_of_beq hc;obtain ⟨h1,h2⟩:=hm.amE (bB (by omega));have h3:=h [] (by rw [bf];exact h1);rw [bf,<-h2] at h3;exact ⟨by omega,λ_=>h3⟩
 .have hc:¬(y.length:Int)=0:=by simpa using hc
  refine ⟨hT,by omega,λz hz _ _=>?_⟩;obtain ⟨h1,h2⟩:=hm.amD (λe=>by rw [e] at hc;simp at hc) hz;have h3:=h [z] h1;rw [<-h2] at h3;have e:ae [x,z]=x++z:=by simp
  rw [e];have:=hz.len.2;exact ⟨by rw [af];omega,λ_=>h3⟩
def Hq:Ct
 | .v (.c (.p 0 0))::vs,[.abs a],Q=>∃ (T:List Int) (x:List UInt8) (y:List UInt8),a=j4 [.cells 150 [.de (.int .u32) T 0 0,.o 1,.o 2],.sl 5 .u8 x,.sl 5 .u8 y]/\DE (.v (.c (.p 0 0))::vs) [.cells 150 [.de (.int .u32) T 0 0,.o 1,.o 2],.sl 5 .u8 x,.sl 5 .u8 y] (uK 0 [1,2] [0] 1 Q)
 | _,_,_=>False
theorem ES:cq 55 Hq:=λargs H Q h=>by
 unfold Hq at h;split at h
 .obtain ⟨T,x,y,rfl,h⟩:=h;exact Wp.DO (q:=0) (L:=[.cells 150 [.de (.int .u32) T 0 0,.o 1,.o 2],.sl 5 .u8 x,.sl 5 .u8 y]) rfl (fy _) (KB _ _ _ h)
 .cases h
def jA:List (Nat×Ty):=(281,dV)::fg
def xA:Ct
 | [.v (.c (.de (.int .u32) T 0 0)),.v (.c cim),.v (.c (.k (.int .i64 a))),.v (.c (.k (.int .i64 c)))],[],Q=>(match (Ty.sl Ty.u8).of [cim] with
  | some (im,[])=>im.length<=100000000/\Q (.c (.p 0 0)) [.cells 245 [.de (.int .u32) T 0 0,.d .u8 im,.k (.int .i64 a),.k (.int .i64 c),.m 1],.map 3 .int dV []]
  | _=>False)
 | _,_,_=>False
def ahE:=(ahF.add KB).add ES
def Fo (T:List Int) (im:(List (Ty.u8).den)) (a c:Int):dq:=λQ=>cJ im (bZ a c (fa (dr im)/\(aJ (dr im)->Q (SV.v (S1.c (.p 0 0))) [.cells 245 [Cl.de (.int .u32) T ah bx,Cl.d Ty.u8 im,.k (aC a),.k (aC c),Cl.m bH],HO.map eZ Kk.int dV []])))
theorem KD:cq 103 xA:=by
 intro args H Q h;unfold xA at h;split at h;rotate_left;cases h;rename_i T cim a c;split at h;rotate_left;cases h;rename_i im Xh;refine Wp.said (args':=[.v (.c (.de (.int .u32) T 0 0)),.c (.d Ty.u8 im),.int a,.int c]) (λE g=>bA.cE (λ_ h=>h) (bA.cE (dI Xh) (bA.cE (λ_ h=>h) (bA.cE (λ_ h=>h) (λ_ h=>h))))) ?_;clear Xh;refine Wp.dy ahE jA ⟨[],[]⟩ Tryz.f103 (Fo T im a c) ?_;unfold Fo dr bZ cJ aC ah fa aJ bx bH eZ;obtain ⟨hl,h⟩:=h;exact λ_ _ _=>⟨by omega,λ_=>h⟩
def afK:Ct:=cP<| cO λH Q=>match H with
 | [.cells 245 [.de (.int .u32) T 0 0,.d .u8 im,.k (.int .i64 a),.k (.int .i64 c),.m 1],.map 3 .int (.pair (.sl .u8) (.pair (.int .i64) .unit)) M]=>(0<=a/\a<=c/\c<=im.length)/\Q (.bool true) [.cells 245 [.de (.int .u32) T 0 0,.d .u8 im,.k (.int .i64 a),.k (.int .i64 c),.m 1],.map 3 .int dV M]
 | _=>False
def ahD:=ahE.add KD
def Ll (T:List Int) (im:List UInt8) (a c:Int) (M:(List (Int×dV.den))):dq:=λQ=>br (decide (a≥0)) (br (decide (a<=c)) (cW im (Q (.v (.c (.k (.bool (decide (c<=(ay im))))))) [.cells 245 [Cl.de (.int .u32) T ah bx,Cl.d Ty.u8 im,.k (aC a),.k (aC c),Cl.m bH],HO.map (3: 
 TypeId) Kk.int dV M])) (Q iW [.cells 245 [Cl.de (.int .u32) T ah bx,Cl.d Ty.u8 im,.k (aC a),.k (aC c),Cl.m bH],HO.map (3:TypeId) Kk.int dV M])) (Q iW [.cells 245 [Cl.de (.int .u32) T ah bx,Cl.d Ty.u8 
 im,.k (aC a),.k (aC c),Cl.m bH],HO.map (3:TypeId) Kk.int dV M])
theorem adI:cq 194 afK:=eI<| rZ<| r5 λH Q h=>by
 split at h;rotate_left;cases h;rename_i T im a c M;refine Wp.dy ahD jA ⟨[],[]⟩ Tryz.f194 (Ll T im a c M) ?_;unfold Ll cW aC iW ah ay aJ bx bH;obtain ⟨⟨h0,h1,h2⟩,h⟩:=h;refine ak (λ_=>ak (λ_=>λ_=>?_) (λhc=>absurd h1 (of_decide_eq_false hc))) (λhc=>absurd h0 (of_decide_eq_false hc));rw [decide_eq_true h2];exact h
def Wy:Ct:=cP<| cI λr=>cO λH Q=>match H with
 | [.cells 245 [.de (.int .u32) T 0 0,.d .u8 im,.k (.int .i64 a),.k (.int .i64 c),.m 1],.map 3 .int (.pair (.sl .u8) (.pair (.int .i64) .unit)) M]=>∃ fs R,T.length=256/\im.length<=100000000/\iX T im a c fs R M/\∃ k:Nat,k<=fs.length/\r=(fx fs k:Int)/\∀ h ok M',iX T im a c fs R M'->ah8 fs R k h ok->Q (.cC [.agg (dV.cells h),.c (.k (.bool ok))]) [.cells 245 [.de (.int .u32) T 0 0,.d .u8 im,.k (.int .i64 a),.k (.int .i64 c),.m 1],.map 3 .int dV M']
 | _=>False
def ahC:=ahD.add adI
abbrev MV (y0:SV->List HO->Prop) (y1:List Int) (y2:List UInt8) (y3:Int) (y4:Int) (y5:List (Int×dV.den)):=y0 (SV.cC [S1.agg [.k (.slice none 0 0),.k aT],.c (.k (.bool false))]) [.cells 245 [Cl.de (.int .u32) y1 ah bx,Cl.d Ty.u8 y2,.k (aC y3),.k (aC y4),Cl.m bH],HO.map (3:TypeId) Kk.int dV y5]
abbrev IA (y0:List (Int×dV.den)) (y1:Int):=gB (Kk.get Kk.int y0 y1) ([],ah,())
def Bx (r:Int) (T:List Int) (im:List UInt8) (a c:Int) (M:(List (Int×dV.den))):dq:=λQ=>aB .i64 r->Ty.ok dV (IA M r)->br (Option.isSome (Kk.get Kk.int M r)) (Q (SV.cC [S1.agg [Cl.d Ty.u8 (IA M r).1,.k (.int .i64 (IA M r).2.1)],.c (.k (.bool true))]) [.cells 245 [Cl.de (.int .u32) T 
 ah bx,Cl.d Ty.u8 im,.k (aC a),.k (aC c),Cl.m bH],HO.map (3:TypeId) Kk.int dV M]) (aB .i64 (c - a)/\br (decide (r>c - a)) (MV Q T im a c M) (aB .i64 (a+r)/\dO T (jd im (∃ z nx e,FrE T im (a+r) z 
 nx e/\(aJ (bw z)->bZ nx e (br (e !=0) (MV Q T im a c M) (br (decide (nx>c)) (MV Q T im a c M) (aJ (bw z)->br ((ay z)==0) (MV Q T im a c M) (aB .i64 (nx - a)/\List.length M< 9223372036854775807/\Q (SV.cC 
 [S1.agg [Cl.d Ty.u8 z,.k (.int .i64 (nx - a))],.c (.k (.bool true))]) [.cells 245 [Cl.de (.int .u32) T ah bx,Cl.d Ty.u8 im,.k (aC a),.k (aC c),Cl.m bH],HO.map (3:TypeId) Kk.int dV (Kk.put Kk.int M r (z,nx - a, 
 ()))])))))))))
theorem UP:cq 195 Wy:=eI<| rZ<| nF λr=>r5 λH Q h=>by
 split at h;rotate_left;cases h;rename_i T im a c M;refine Wp.kE [some dV,none] [] ?_;refine Wp.dy ahC jA ⟨[],[]⟩ Tryz.f195 (Bx r T im a c M) ?_;unfold Bx IA jd bZ dO bw MV aT aC ah ay aJ bx bH bI;obtain ⟨fs,R,hT,hl,hR,k,hk,rfl,h⟩:=h;have ha:=hR.a0;have hac:=hR.ac;have hci:=hR.ci;have hle:=xC hR.row hk;have jI:=qx fs;have hge:=J7 hR.row (aG _);refine λ_ _=>?_;rcases hR.get hk with ⟨hg,ajO,hM⟩| ⟨r7,hg⟩;rotate_left
 .rw [hg];exact ak (λ_=>⟨aG _,h _ true M hR ⟨.inl ⟨rfl,r7,rfl⟩⟩⟩) (λhc=>by cases hc)
 rw [hg];refine ak (λhc=>by cases hc) (λ_=>⟨by unfold aB;omega,ak (λhc=>by have hc:=of_decide_eq_true hc;omega) (λ_=>⟨by unfold aB;omega,hT,hl,?_⟩)⟩);rcases eT k fs.length with r7| r7
 .obtain ⟨hF,ja⟩:=hR.take r7;have ani:=xC hR.row (show k+1<=fs.length by omega);refine ⟨_,_,0,⟨.inr ⟨rfl,hF⟩⟩,λ_ _ _=>ak (λhc=>by cases hc) (λ_=>ak (λhc=>by have hc:=of_decide_eq_true hc;omega) (λ_=>λ_=>ak (λhc=>?_) (λ_=>⟨by unfold aB;omega,by omega,aG _,?_⟩)))⟩
  .have hc:((lp R k).length:Int)=0:=eq_of_beq hc;exact absurd (bB (by omega)) ja
  .rw [show a+(fx fs (k+1):Int) - a=fx fs (k+1) by omega];exact h (uU fs R k).2 true _ (ajO r7) ⟨.inl ⟨rfl,r7,rfl⟩⟩
 .obtain rfl:k=fs.length:=by omega
  have kA:=h ([],0,()) false M hR ⟨.inr ⟨rfl,rfl,rfl⟩⟩;have apo:a+(fx fs fs.length:Int)=c:=by omega
  rw [apo];rcases hR.nxt with hc| ⟨b,nx,hF⟩;exact ⟨[],0,2,⟨.inl ⟨hc,rfl,rfl,rfl⟩⟩,λ_ _ _=>ak (λ_=>⟨aG _,kA⟩) (λhq=>by cases hq)⟩
  .obtain ⟨x,r,hx,_,hn⟩:=hF.ex;have:=hx.len.1;exact ⟨b,nx,0,⟨.inr ⟨rfl,hF⟩⟩,λ_ _ _=>ak (λhq=>by cases hq) (λ_=>ak (λ_=>⟨aG _,kA⟩) (λhq=>by have hq:=of_decide_eq_false hq;omega))⟩
def DG:Ct
 | [.v (.c (.p 0 0)),.v (.c (.k (.int .i64 r))),.v (.c (.k (.int .i64 n)))],[.cells 245 [.de (.int .u32) T 0 0,.d .u8 im,.k (.int .i64 a),.k (.int .i64 c),.m 1],.map 3 .int (.pair (.sl .u8) (.pair (.int .i64) .unit)) M],Q=>∃ fs R,T.length=256/\im.length<=100000000/\iX T im a c fs R M/\∃ o:Nat,o<=R.length/\R.length<=10000000/\r=(dS fs o:Int)/\(0<=n/\n<=10000000)/\∀ z nx e M',iX T im a c fs R M'->pw fs R o n.toNat z nx e->Q (.cC [.c (.d .u8 z),.c (.k (.int .i64 nx)),.c (.k (.int .i64 e))]) [.cells 245 [.de (.int .u32) T 0 0,.d .u8 im,.k (.int .i64 a),.k (.int .i64 c),.m 1],.map 3 .int dV M']
 | _,_,_=>False
def ahB:=ahC.add UP
abbrev Cr {A0 A3:Type} (y0:List A0) (y1) (y2:Int) (y3:List A3):=List.take (ax (min (aP y0) (y1+y2 - (aP y3))) - ax y1) (List.drop (aS y1) y0)
abbrev SN (y0:SV->List HO->Prop) (y1) (y2) (y3) (y4) (y5:List (Int×Ty.den dV)):=y0 (.cC [.c dD,.c (.k aT),.c (.k (.int .i64 2))]) [.cells 245 [Cl.de (.int .u32) y1 ah bx,Cl.d Ty.u8 y2,.k (aC y3),.k (aC y4),Cl.m bH],HO.map (3:TypeId) Kk.int dV y5]
abbrev PD (y0:SV->List HO->Prop) (y1:List Int) (y2:List UInt8) (y3:Int) (y4:Int) (y5:List (Int×dV.den)):=y0 (.cC [.c dD,.c (.k aT),.c (.k (.int .i64 1))]) [.cells 245 [Cl.de (.int .u32) y1 ah bx,Cl.d Ty.u8 y2,.k (aC y3),.k (aC y4),Cl.m bH],HO.map (3:TypeId) Kk.int dV y5]
abbrev CH {A0 A3:Type} (y0:List A0) (y1) (y2:Int) (y3:List A3):=ax (min (aP y0) (y1+y2 - (aP y3))) - ax y1
def Fm (r n:Int) (T:List Int) (im:List UInt8) (a c:Int) (M:(List (Int×dV.den))):dq:=λQ=>bZ r n (br (cL r) (PD Q T im a c M) (br (cL n) (PD Q T im a c M) ((0<=a/\a<=c/\c<=(ay im))/\fb≠ah/\aB .i64 (gu r fb)/\fb≠ah/\(aB .i64 (Int.tmod r 
 fb)->aK (λi ag=>fA i.1.2.2.1 (br (decide ((aP i.1.2.2.1)< n)) (∃ fs R,dO i.2.1.1 (jd i.2.1.2.1 (iX i.2.1.1 i.2.1.2.1 i.2.1.2.2.1 i.2.1.2.2.2.1 fs R i.2.2.1/\∃ k,k<=List.length fs/\i.1.1=(↑(fx fs k): 
 Int)/\∀ (h:Ty.den dV) (ok:Bool) (M':List (Int×Ty.den dV)),iX i.2.1.1 i.2.1.2.1 i.2.1.2.2.1 i.2.1.2.2.2.1 fs R M'->ah8 fs R k h ok->aJ (bw h.1)->aB .i64 h.2.1->br (!ok) (SN Q i.2.1.1 i.2.1.2.1 i.2.1.2.2.1 
 i.2.1.2.2.2.1 M') (aJ (bw h.1)->br (decide (i.1.2.1≥(aP h.1))) (SN Q i.2.1.1 i.2.1.2.1 i.2.1.2.2.1 i.2.1.2.2.2.1 M') (aJ (bw h.1)->aB .i64 (i.1.2.1+n)/\(aJ (bw i.1.2.2.1)->aB .i64 (i.1.2.1+n - (aP 
 i.1.2.2.1))/\0<=i.1.2.1/\i.1.2.1<=min (aP h.1) (i.1.2.1+n - (aP i.1.2.2.1))/\min (aP h.1) (i.1.2.1+n - (aP i.1.2.2.1))<=(aP h.1)/\(List.length i.1.2.2.1+List.length (Cr h.1 i.1.2.1 n i.1.2.2.1))*1<=cd/\ 
 List.length i.1.2.2.1+List.length (Cr h.1 i.1.2.1 n i.1.2.2.1)<=9223372036854775807/\(List.length (Cr h.1 i.1.2.1 n i.1.2.2.1)<=9223372036854775807->aB .i64 (i.1.2.1+(↑(List.length (Cr h.1 i.1.2.1 n i.1.2.2.1)):Int))/\ 
 br (i.1.2.1+(↑(List.length (Cr h.1 i.1.2.1 n i.1.2.2.1)):Int)==128) (ag ((h.2.1,ah,i.1.2.2.1++List.take (CH h.1 i.1.2.1 n i.1.2.2.1) (qK i.1.2.1 h.1),()),(i.2.1.1,i.2.1.2.1,i.2.1.2.2.1,i.2.1.2.2.2.1,(),()), 
 M',())) (List.length (i.1.2.2.1++List.take (CH h.1 i.1.2.1 n i.1.2.2.1) (qK i.1.2.1 h.1))<=9223372036854775807->br (decide ((↑(List.length (i.1.2.2.1++List.take (CH h.1 i.1.2.1 n i.1.2.2.1) (qK i.1.2.1 h.1))):Int)< 
 n)) (SN Q i.2.1.1 i.2.1.2.1 i.2.1.2.2.1 i.2.1.2.2.2.1 M') (ag ((i.1.1,i.1.2.1+(↑(List.length (Cr h.1 i.1.2.1 n i.1.2.2.1)):Int),i.1.2.2.1++List.take (CH h.1 i.1.2.1 n i.1.2.2.1) (qK i.1.2.1 h.1),()),(i.2.1.1, 
 i.2.1.2.1,i.2.1.2.2.1,i.2.1.2.2.2.1,(),()),M',())))))))))) (aB .i64 (fb*i.1.1)/\aB .i64 (fb*i.1.1+i.1.2.1)/\Q (SV.cC [S1.c (.o 2),.c (.k (.int .i64 (fb*i.1.1+i.1.2.1))),.c (.k aT)]) [.cells 245 
 [Cl.de (.int .u32) i.2.1.1 ah bx,Cl.d Ty.u8 i.2.1.2.1,.k (aC i.2.1.2.2.1),.k (aC i.2.1.2.2.2.1),Cl.m bH],HO.map (3:TypeId) Kk.int dV i.2.2.1,.sl 5 Ty.u8 i.1.2.2.1]))) ((gu r fb,Int.tmod r fb,[], 
 ()),(T,im,a,c,(),()),M,())))))
theorem KC:cq 147 DG:=by
 intro args H Q h;unfold DG at h;split at h;rotate_left;cases h;rename_i r n T im a c M;refine Wp.kE [some (.sl .u8),none,none] [2] ?_;refine Wp.dy ahB jA ⟨[(8,⟨[(10,.int .i64),(11,.int .i64),(9,.own 5 .u8)],[(0,.cells 245 [.dp (.int .u32),.d .u8,.int .i64,.int .i64,.JS (.m 1)]),(1,.map 3 .int dV)]⟩)],[(16,⟨[(10,.int .i64),(11,.int .i64)],[]⟩)]⟩ Tryz.f147 (Fm r n T im a c M) ?_;unfold Fm qK jd CH PD bZ cL dO SN fA Cr bw cd dD aT aS aC ah fb aP ay aJ bx bH bI;obtain ⟨fs,R,hT,hl,hR,o,ho,hRl,rfl,⟨n0,n1⟩,h⟩:=h;obtain ⟨n,rfl⟩:∃ k:Nat,n=k:=⟨n.toNat,by omega⟩;rw [bL] at h;have ha:=hR.a0;have hac:=hR.ac;have hci:=hR.ci;have jI:=qx fs;have hge:=J7 hR.row (aG _);have hfl:=hR.row.len;obtain ⟨s1,s2⟩:=VA fs o;rw [s1,s2];have sa:=xC hR.row (show o / 128<=fs.length by omega);refine λ_ _=>ak (λhc=>by have hc:=of_decide_eq_true hc;omega) (λ_=>ak (λhc=>by have hc:=of_decide_eq_true hc;omega) (λ_=>⟨⟨ha,by omega,hci⟩,by decide,by unfold aB;omega,by decide,λ_=>?_⟩));refine aK.intro (λi=>i.2.1=(T,im,a,c,(),())/\iX T im a c fs R i.2.2.1/\∃ m:Nat,m<=n/\o+m<=R.length/\i.1=((fx fs ((o+m) / 128):Int),(((o+m) % 128:Nat):Int),(R.drop o).take m,())) (λi=>n - i.1.2.2.1.length) ⟨rfl,hR,0,cM _,ho,rfl⟩ ?_;rintro ⟨⟨at',q,out,_⟩,⟨T',im',a',c',_,_⟩,M1,_⟩ ⟨e1,hR1,m,hm,hom,e2⟩;simp only [Prod.mk.injEq] at e1 e2;obtain ⟨rfl,rfl,rfl,rfl,_⟩:=e1;obtain ⟨rfl,rfl,rfl,_⟩:=e2;simp only at hR1 ⊢;have pL:((R.drop o).take m).length=m:=by rw [aF,aR];omega
 rw [pL];have ND:(o+m) / 128<=fs.length:=by omega
 have asi:=xC hR.row ND;refine λ_=>ak (λhc=>?_) (λhc=>?_);rotate_left
 .have hc:¬(m:Int)< n:=of_decide_eq_false hc;obtain rfl:m=n:=by omega
  refine ⟨by unfold aB;omega,by unfold aB;omega,by simp,?_⟩;have:=h ((R.drop o).take m) (dS fs (o+m):Int) 0 M1 hR1 ⟨.inl ⟨hom,rfl,rfl,rfl⟩⟩;have e:(256*(fx fs ((o+m) / 128):Int)+(((o+m) % 128:Nat):Int))=(dS fs (o+m):Int):=by
   show _=((256*fx fs ((o+m) / 128)+(o+m) % 128:Nat):Int);omega
  rw [e];exact this
 have hc:(m:Int)< n:=of_decide_eq_true hc;refine ⟨fs,R,hT,hl,hR1,_,ND,rfl,λhh ok M2 hR2 hH _ _=>?_⟩;have ajZ:R.length< o+n->Q (.cC [.c (.d .u8 []),.c (.k (.int .i64 0)),.c (.k (.int .i64 2))]) _:=λq=>h [] 0 2 M2 hR2 ⟨.inr ⟨q,rfl,rfl,rfl⟩⟩;rcases hH.or with ⟨rfl,hk,rfl⟩| ⟨rfl,hk,rfl⟩;rotate_left;exact ak (λ_=>⟨by simp,ajZ (by omega)⟩) (λhq=>by cases hq);refine ak (λhq=>by cases hq) (λ_=>λ_=>ak (λhq=>?_) (λhq=>?_))
 .have hq:=of_decide_eq_true hq;rw [rA] at hq;exact ⟨by simp,ajZ (by omega)⟩
 have hq:=of_decide_eq_false hq;have hbl:=rA R ((o+m) / 128);simp only at hq ⊢;generalize hz:(min ((lp R ((o+m) / 128)).length:Int) ((((o+m) % 128:Nat):Int)+(n:Int) - (m:Int)))=z;obtain ⟨d,hd⟩:∃ d:Nat,z=(((o+m) % 128:Nat):Int)+d:=⟨(z - (((o+m) % 128:Nat):Int)).toNat,by omega⟩;have hp:List.take (z.toNat - (((o+m) % 128:Nat):Int).toNat) (List.drop (((o+m) % 128:Nat):Int).toNat (lp R ((o+m) / 128)))=(R.drop (o+m)).take d:=by
  have:=abq R (o+m) ((o+m) % 128+d) (by omega);rw [bL,show z.toNat - (o+m) % 128=(o+m) % 128+d - (o+m) % 128 by omega,this,show (o+m) % 128+d - (o+m) % 128=d by omega]
 rw [hp];have hdl:((R.drop (o+m)).take d).length=d:=by rw [aF,aR];omega
 rw [hdl,M0];have ajT:((R.drop o).take (m+d)).length=m+d:=by rw [aF,aR];omega
 rw [ajT];refine λ_=>⟨by unfold aB;omega,λ_=>⟨by unfold aB;omega,by omega,by omega,by omega,by omega,by omega,λ_=>⟨by unfold aB;omega,ak (λhe=>?_) (λhe=>λ_=>ak (λhf=>?_) (λhf=>?_))⟩⟩⟩
 .have he:(((o+m) % 128:Nat):Int)+(d:Int)=128:=eq_of_beq he;refine ⟨⟨trivial,hR2,m+d,by omega,by omega,?_⟩,by omega⟩;rw [show (o+(m+d)) / 128=(o+m) / 128+1 by omega,show (o+(m+d)) % 128=0 by omega];rfl
 .have hf:=of_decide_eq_true hf;have he:¬(((o+m) % 128:Nat):Int)+(d:Int)=128:=by simpa using he
  exact ⟨by simp,ajZ (by omega)⟩
 .have he:¬(((o+m) % 128:Nat):Int)+(d:Int)=128:=by simpa using he
  refine ⟨⟨trivial,hR2,m+d,by omega,by omega,?_⟩,by omega⟩;rw [show (o+(m+d)) / 128=(o+m) / 128 by omega,show (o+(m+d)) % 128=(o+m) % 128+d by omega];rfl
def Hr:Ct
 | .v (.c (.p 0 0))::vs,[.abs a],Q=>∃ (T:List Int) (im:List UInt8) (a1:Int) (c:Int) (M:List (Int×dV.den)),a=j4 [.cells 245 [.de (.int .u32) T 0 0,.d .u8 im,.k (.int .i64 a1),.k (.int .i64 c),.m 1],.map 3 .int dV M]/\DG (.v (.c (.p 0 0))::vs) [.cells 245 [.de (.int .u32) T 0 0,.d .u8 im,.k (.int .i64 a1),.k (.int .i64 c),.m 1],.map 3 .int dV M] (uK 0 [1] [0] 1 Q)
 | _,_,_=>False
theorem ET:cq 147 Hr:=λargs H Q h=>by
 unfold Hr at h;split at h
 .obtain ⟨T,im,a1,c,M,rfl,h⟩:=h;exact Wp.DO (q:=0) (L:=[.cells 245 [.de (.int .u32) T 0 0,.d .u8 im,.k (.int .i64 a1),.k (.int .i64 c),.m 1],.map 3 .int dV M]) rfl (fy _) (KC _ _ _ h)
 .cases h
def Hs:Ct:=λargs H Q=>xA args H (uK 0 [1] [0] H.length Q)
theorem EU:cq 103 Hs:=λargs H Q h=>Wp.ZB (KD _ _ _ h)
end Go.Proofs

namespace Go.Lm
open Go
structure UA (x:List Int):Prop where
 le:∀ i:Int,1<=i->i< x.length->aA (.int .i64) x (i - 1)<=aA (.int .i64) x i
abbrev ov:Ty:=.pair (.int .i64) (.pair (.int .i64) (.pair (.int .i64) (.pair (.int .i64) (.pair (.int .i64) (.pair (.int .i64) (.pair (.int .i64) (.pair (.int .i64) (.pair (.int .i64) (.pair (.int .i64) .unit)))))))))
structure rT (s:ov.den):Prop where
 p1:64<=s.2.2.1
 p2:s.2.2.1<=s.2.2.2.1
 p3:s.2.2.2.1<=s.2.2.2.2.1
 p4:s.2.2.2.2.1<=s.2.2.2.2.2.1
 p5:s.2.2.2.2.2.1<=s.2.2.2.2.2.2.1
 p6:s.2.2.2.2.2.2.1<=s.1
 p7:s.1<=1048576
 n1:1<=s.2.1/\s.2.1<=1024
 n2:1<=s.2.2.2.2.2.2.2.1/\s.2.2.2.2.2.2.2.1<=2048
 n3:0<=s.2.2.2.2.2.2.2.2.1/\s.2.2.2.2.2.2.2.2.1<=1024
 n4:0<=s.2.2.2.2.2.2.2.2.2.1/\s.2.2.2.2.2.2.2.2.2.1<=4294967295
theorem rT.ints {s:ov.den} (h:rT s):∃ s0 s1 s2 s3 s4 s5 s6 s7 s8 s9:Int,s=(s0,s1,s2,s3,s4,s5,s6,s7,s8,s9,())/\64<=s2/\s2<=s3/\s3<=s4/\s4<=s5/\s5<=s6/\s6<=s0/\s0<=1048576/\(1<=s1/\s1<=1024)/\(1<=s7/\s7<=2048)/\(0<=s8/\s8<=1024)/\(0<=s9/\s9<=4294967295):=by
 obtain ⟨s0,s1,s2,s3,s4,s5,s6,s7,s8,s9,_⟩:=s;exact ⟨s0,s1,s2,s3,s4,s5,s6,s7,s8,s9,rfl,h.p1,h.p2,h.p3,h.p4,h.p5,h.p6,h.p7,h.n1,h.n2,h.n3,h.n4⟩
theorem ai1 {a b c d e f:Int} (h1:64<=a) (h2:a<=b) (h3:b<=c) (h4:c<=d) (h5:d<=e) (h6:e<=f) (h7:f<=1048576):UA [64,a,b,c,d,e,f,1048576]:=⟨λi i0 i1=>by
 have i1:i< 8:=i1;have:i=1\/i=2\/i=3\/i=4\/i=5\/i=6\/i=7:=by omega
 rcases this with rfl| rfl| rfl| rfl| rfl| rfl| rfl<;>assumption⟩
def fR (s:ov.den):List UInt8:=[76,77,76,65]++(aH 4 s.1.toNat++(aH 4 s.2.2.1.toNat++(aH 4 s.2.2.2.1.toNat++(aH 4 s.2.2.2.2.1.toNat++(aH 4 s.2.2.2.2.2.1.toNat++(aH 4 s.2.2.2.2.2.2.1.toNat++(aH 4 s.2.2.2.2.2.2.2.2.2.1.toNat++(aH 2 s.2.1.toNat++(aH 2 s.2.2.2.2.2.2.2.1.toNat++aH 2 s.2.2.2.2.2.2.2.2.1.toNat)))))))))
def fJ (T:List Int) (s:ov.den):List UInt8:=fR s++(aH 4 (cn T 0 (fR s)).toNat++au 22 0)
theorem vj (s:ov.den):(fR s).length=38:=by
 unfold fR;simp only [af,aD,av,aY]
theorem l7 (T:List Int) (s:ov.den):(fJ T s).length=64:=by
 unfold fJ;simp only [af,aD,vj,aX]
theorem iG (n x:Nat) (r:List UInt8):List.take n (aH n x++r)=aH n x:=List.take_left' (aD n x)
theorem iJ (n x:Nat) (r:List UInt8):List.drop n (aH n x++r)=r:=List.drop_left' (aD n x)
theorem ev {n:Nat} {x:Int} (h0:0<=x) (h1:x< 256 ^ n):bJ (aH n x.toNat)=x:=by
 have e:(x.toNat:Int)=x:=by omega
 rw [C9 n x.toNat (by
  have:(x.toNat:Int)< ((256 ^ n:Nat):Int):=by rw [e];simpa using h1
  exact Int.ofNat_lt.1 this),e]
theorem ajc (z:List UInt8):jM z (z.length:Int)=z/\Kn z (z.length:Int)=0:=by
 have:=It (x:=z) (y:=[]) (n:=z.length) rfl;rw [bf] at this;exact ⟨this.1,this.2.1⟩
theorem amM:j9 (fY [76,77,76,65]) (ByteArray.mk #[(76:UInt8),(77:UInt8),(76:UInt8),(65:UInt8)])=true:=by decide+kernel
end Go.Lm

namespace Go.Proofs
open Go Go.Lm Go.RowKit
set_option maxRecDepth 1000000
def akz:Ct:=cI λx=>c0 λQ=>Q (.bool false) []
def ahA:=((ahB.add KC).add ET).add EU
def RU (x:Int):dq:=λQ=>aB .i64 x->Q (.v (.c (.k (.bool (x !=x))))) []
theorem XH:cq 179 akz:=eI<| nF λx=>gx λQ h=>by
 refine Wp.dy ahA jA ⟨[],[]⟩ Tryz.f179 (RU x) (hold:=[92]) ?_;unfold RU;intro _;rw [show (x !=x)=false by simp];exact h
def afN:Ct:=cI λx=>cI λy=>c0 λQ=>Q (.bool (decide (x< y))) []
def ahz:=ahA.add XH
def Lr (x y:Int):dq:=λQ=>bZ x y (Q (.v (.c (.k (.bool (decide (x< y)))))) [])
theorem Rh:cq 131 afN:=eI<| nF λx=>nF λy=>gx λQ h=>by
 refine Wp.dy ahz jA ⟨[],[]⟩ Tryz.f131 (Lr x y) (hold:=[92]) ?_;unfold Lr bZ;exact λ_ _=>h
def Wv:Ct:=cD (Ty.int .i64) λx=>c0 λQ=>UA x/\Q (.bool true) []
def ahy:=ahz.add Rh
abbrev ba (y0:SV->List HO->Prop):=y0 iW []
abbrev ix (y0:List ((Ty.int .i64)).den) (R:Prop):=List.length y0<=9223372036854775807->R
abbrev yC (y0:List ((Ty.int .i64)).den) (y1) (R:Prop):=Ty.ok bq (aA bq y0 y1)->aB .i64 (y1 - 1)/\0<=y1 - 1/\y1 - 1< (ay y0)/\R
abbrev jR (y0:List ((Ty.int .i64)).den) (y1:Int):=aA bq y0 (y1 - 1)
def Br (x:(List ((Ty.int .i64)).den)):dq:=λQ=>ix x (aJ (List.length x)->aB .i64 ((ay x) - 1)/\aK (λi ag=>br (decide (i.1.1>0)) (0<=i.1.1/\i.1.1< (ay x)/\(yC x i.1.1 (Ty.ok bq (jR x i.1.1)->br (decide (aA bq x i.1.1< aA bq x (i.1.1 
 - 1))) (ba Q) (aB .i64 (i.1.1 - 1)/\ag ((i.1.1 - 1,()),()))))) (Q ml [])) (((ay x) - 1,()),()))
theorem EO:cq 105 Wv:=eI<| iH λx=>gx λQ h=>by
 refine Wp.dy ahy jA ⟨[(3,⟨[(3,.int .i64)],[]⟩)],[]⟩ Tryz.f105 (Br x) (hold:=[92]) ?_;unfold Br jR yC ix ba iW ml ay aJ bq;obtain ⟨hs,h⟩:=h;refine λ_ _=>⟨by unfold aB;omega,aK.intro (λi=>i.1.1< (x.length:Int)) (λi=>i.1.1.toNat) (by show (x.length:Int) - 1< x.length;omega) ?_⟩;rintro ⟨⟨i,_⟩,_⟩ h0;simp only at h0 ⊢;refine ak (λhc=>?_) (λ_=>h);have hc:i>0:=of_decide_eq_true hc;have:=hs.le i (by omega) h0;have h0:i< (x.length:Int):=h0;exact ⟨by omega,h0,λ_=>⟨by unfold aB;omega,by omega,by omega,λ_=>ak (λhd=>absurd (of_decide_eq_true hd) (Int.not_lt.2 this)) (λ_=>⟨by unfold aB;omega,by show i - 1< (x.length:Int);omega,by show (i - 1).toNat< i.toNat;omega⟩)⟩⟩
def Wt:Ct:=cN ov λs=>c0 λQ=>Q (.v (.agg [.k (.int .i64 64),.k (.int .i64 s.2.2.1),.k (.int .i64 s.2.2.2.1),.k (.int .i64 s.2.2.2.2.1),.k (.int .i64 s.2.2.2.2.2.1),.k (.int .i64 s.2.2.2.2.2.2.1),.k (.int .i64 s.1),.k (.int .i64 1048576)])) []
def ahx:=ahy.add EO
abbrev cr (y0:Int) (y1:Int) (y2:Int) (R:Prop):=aB .i64 y0->aB .i64 y1->aB .i64 y2->R
def Bp:((ov).den)->dq:=
 λs Q=>cr s.1 s.2.1 s.2.2.1 (cr s.2.2.2.1 s.2.2.2.2.1 s.2.2.2.2.2.1 (cr s.2.2.2.2.2.2.1 s.2.2.2.2.2.2.2.1 s.2.2.2.2.2.2.2.2.1 (aB .i64 s.2.2.2.2.2.2.2.2.2.1->Q (SV.v (S1.agg [.k (.int .i64 64),.k (aC s.2.2.1),.k (aC 
 s.2.2.2.1),.k (aC s.2.2.2.2.1),.k (aC s.2.2.2.2.2.1),.k (aC s.2.2.2.2.2.2.1),.k (aC s.1),.k (.int .i64 1048576)])) [])))
theorem UL:cq 143 Wt:=eI<| PV λs=>gx λQ h=>by
 refine Wp.dy ahx jA ⟨[],[]⟩ Tryz.f143 (Bp s) (hold:=[92]) ?_;unfold Bp cr aC;exact λ_ _ _ _ _ _ _ _ _ _=>h
def Wu:Ct:=cI λx=>cI λy=>cI λz=>c0 λQ=>(y<=x/\x<=z)/\Q (.bool true) []
def ahw:=ahx.add UL
def Bq (x y z:Int):dq:=λQ=>cr x y z (br (decide (y<=x)) (Q (.v (.c (.k (.bool (decide (x<=z)))))) []) (ba Q))
theorem UM:cq 144 Wu:=eI<| nF λx=>nF λy=>nF λz=>gx λQ h=>by
 refine Wp.dy ahw jA ⟨[],[]⟩ Tryz.f144 (Bq x y z) (hold:=[92]) ?_;unfold Bq ba cr iW;obtain ⟨⟨h1,h2⟩,h⟩:=h;refine λ_ _ _=>ak (λ_=>?_) (λhc=>absurd h1 (of_decide_eq_false hc));rw [decide_eq_true h2];exact h
def QT:Ct:=cN ov λs=>c0 λQ=>rT s/\Q (.bool true) []
def ahv:=ahw.add UM
def zM:((ov).den)->dq:=
 λs Q=>cr s.1 s.2.1 s.2.2.1 (cr s.2.2.2.1 s.2.2.2.2.1 s.2.2.2.2.2.1 (cr s.2.2.2.2.2.2.1 s.2.2.2.2.2.2.2.1 s.2.2.2.2.2.2.2.2.1 (aB .i64 s.2.2.2.2.2.2.2.2.2.1->aB .i64 64->cr s.2.2.1 s.2.2.2.1 s.2.2.2.2.1 (cr 
 s.2.2.2.2.2.1 s.2.2.2.2.2.2.1 s.1 (aB .i64 1048576->GB<=eR/\0<=bX none 0/\bX none 0< (↑GB:Int)/\bX none 0<=bX none (↑GB:Int)/\bX none (↑GB:Int)<=(↑GB:Int)/\UA [gn,s.2.2.1, 
 s.2.2.2.1,s.2.2.2.2.1,s.2.2.2.2.2.1,s.2.2.2.2.2.2.1,s.1,(1048576:Int)]/\(1<=s.2.1/\s.2.1<=1024)/\(1<=s.2.2.2.2.2.2.2.1/\s.2.2.2.2.2.2.2.1<=2048)/\(0<=s.2.2.2.2.2.2.2.2.1/\s.2.2.2.2.2.2.2.2.1<=1024)/\(0<= 
 s.2.2.2.2.2.2.2.2.2.1/\s.2.2.2.2.2.2.2.2.2.1<=4294967295)/\Q ml [])))))
theorem OY:cq 91 QT:=eI<| PV λs=>gx λQ h=>by
 refine Wp.dy ahv jA ⟨[],[]⟩ Tryz.f91 (zM s) (hold:=[92,105]) ?_;unfold zM eR cr ml gn GB;obtain ⟨hs,h⟩:=h;exact λ_ _ _ _ _ _ _ _ _ _ _ _ _ _ _ _ _ _=>⟨by decide,by decide,by decide,by decide,by decide,ai1 hs.p1 hs.p2 hs.p3 hs.p4 hs.p5 hs.p6 hs.p7,hs.n1,hs.n2,hs.n3,hs.n4,h⟩
def akn:Ct:=cP<| cO λH Q=>match H with
 | [.cells 86 [.k (.int .i64 s0),.k (.int .i64 s1),.k (.int .i64 s2),.k (.int .i64 s3),.k (.int .i64 s4),.k (.int .i64 s5),.k (.int .i64 s6),.k (.int .i64 s7),.k (.int .i64 s8),.k (.int .i64 s9)]]=>Q (.c (.sc 1 0 7)) [.cells 86 [.k (.int .i64 s0),.k (.int .i64 s1),.k (.int .i64 s2),.k (.int .i64 s3),.k (.int .i64 s4),.k (.int .i64 s5),.k (.int .i64 s6),.k (.int .i64 s7),.k (.int .i64 s8),.k (.int .i64 s9)],.cells 130 [.p 0 0,.p 0 2,.p 0 3,.p 0 4,.p 0 5,.p 0 6,.p 0 9]]
 | _=>False
def ahu:=ahv.add OY
def RA (s0 s1 s2 s3 s4 s5 s6 s7 s8 s9:Int):dq:=λQ=>Q (SV.v (S1.c (Cl.sc bH bx kh))) [.cells 86 [.k (aC s0),.k (aC s1),.k (aC s2),.k (aC s3),.k (aC s4),.k (aC s5),.k (aC s6),.k (aC s7),.k (aC s8),.k (aC s9)],.cells 
 130 [.p 0 0,.p 0 2,.p 0 3,.p 0 4,.p 0 5,.p 0 6,.p 0 9]]
theorem aif:cq 93 akn:=eI<| rZ<| r5 λH Q h=>by
 split at h;rotate_left;cases h;rename_i s0 s1 s2 s3 s4 s5 s6 s7 s8 s9;refine Wp.dy ahu jA ⟨[],[]⟩ Tryz.f93 (RA s0 s1 s2 s3 s4 s5 s6 s7 s8 s9) (hold:=[92,105]) ?_;unfold RA aC bx bH kh;exact h
def aaT:Ct:=cP<| cO λH Q=>match H with
 | [.cells 86 [.k (.int .i64 s0),.k (.int .i64 s1),.k (.int .i64 s2),.k (.int .i64 s3),.k (.int .i64 s4),.k (.int .i64 s5),.k (.int .i64 s6),.k (.int .i64 s7),.k (.int .i64 s8),.k (.int .i64 s9)]]=>Q (.c (.sc 1 0 3)) [.cells 86 [.k (.int .i64 s0),.k (.int .i64 s1),.k (.int .i64 s2),.k (.int .i64 s3),.k (.int .i64 s4),.k (.int .i64 s5),.k (.int .i64 s6),.k (.int .i64 s7),.k (.int .i64 s8),.k (.int .i64 s9)],.cells 130 [.p 0 1,.p 0 7,.p 0 8]]
 | _=>False
def aht:=ahu.add aif
def Fk (s0 s1 s2 s3 s4 s5 s6 s7 s8 s9:Int):dq:=λQ=>Q (SV.v (S1.c (Cl.sc bH bx eZ))) [.cells 86 [.k (aC s0),.k (aC s1),.k (aC s2),.k (aC s3),.k (aC s4),.k (aC s5),.k (aC s6),.k (aC s7),.k (aC s8),.k (aC s9)],.cells 
 130 [.p 0 1,.p 0 7,.p 0 8]]
theorem XF:cq 94 aaT:=eI<| rZ<| r5 λH Q h=>by
 split at h;rotate_left;cases h;rename_i s0 s1 s2 s3 s4 s5 s6 s7 s8 s9;refine Wp.dy aht jA ⟨[],[]⟩ Tryz.f94 (Fk s0 s1 s2 s3 s4 s5 s6 s7 s8 s9) (hold:=[92,105]) ?_;unfold Fk aC bx bH eZ;exact h
def QS:Ct:=cT λT=>cN ov λs=>c0 λQ=>T.length=256/\rT s/\Q (.cC [.c (.d .u8 (fJ T s)),.c (.k (.int .i64 0))]) []
def ahs:=aht.add XF
abbrev eS:=ah+1+1+1+1
abbrev fT:=ah+1+1+1+1+1
abbrev dY:=ah+1+1+1
abbrev lg:=ah+1+1+1+1+1+1
abbrev dP:=ah+1+1
abbrev eC:=(0:Ty.den Ty.u8)
abbrev pY (R:Prop):=ah<=ah+1+1+1+1+1+1/\ah+1+1+1+1+1+1< (↑kh:Int)/\R
abbrev sD (y0) (y1:List Int):=y0++aH cQ (ax (cn y1 ah y0))
abbrev Y8 {A2:Type} (y0:Int) (y1:Int) (y2:List A2) (R:Prop):=y0=ah/\(aW<=cA/\cA<=cA)/\(0<=y1/\y1< 256 ^ cQ)/\List.length y2<=100000000000/\R
abbrev pX (R:Prop):=ah<=ah+1+1+1+1+1/\ah+1+1+1+1+1< (↑kh:Int)/\R
abbrev fS (R:Prop):=ah<=ah+1+1+1+1/\R
abbrev pV (R:Prop):=ah<=ah+1+1+1/\ah+1+1+1< (↑kh:Int)/\R
abbrev dG:=ah+1
abbrev lB (y0:Int):=0<=y0/\y0< 256 ^ a7
abbrev pT (R:Prop):=ah<=ah+1+1/\ah+1+1< (↑kh:Int)/\R
abbrev Jc (y0) (y1:List Int):=y0++aH cQ (ax (cn y1 ah y0))++au (ax (gn - (aP (sD y0 y1)))) eC
abbrev mh (R:Prop):=ah<=ah+1/\ah+1< (↑kh:Int)/\R
abbrev yN (y0) (y1) (y2) (y3:_->Prop):=Y8 y0 y1 y2 (y3 ((),(ah,y2++aH cQ (aS y1),()),()))
abbrev mf (R:Prop):=ah<=ah/\ah< (↑kh:Int)/\R
abbrev IV {A2:Type} (y0) (y1) (y2:List A2) (R:Prop):=y0=ah/\(aW<=dm/\dm<=cA)/\(lB y1)/\List.length y2<=100000000000/\R
abbrev pG (R:Prop):=aB .i64 (ah+1+1+1+1+1+1+1)/\R
abbrev l9 (R:Prop):=ah+1+1+1+1< (↑kh:Int)/\R
abbrev oC (y0:Int):=0<=y0/\y0< 256 ^ cQ
abbrev Iz (y0) (y1):=((),(ah,y0++aH a7 (aS y1),()),())
def zL:(List Int)->((ov).den)->dq:=
 λT s Q=>cr s.1 s.2.1 s.2.2.1 (cr s.2.2.2.1 s.2.2.2.2.1 s.2.2.2.2.2.1 (cr s.2.2.2.2.2.2.1 s.2.2.2.2.2.2.2.1 s.2.2.2.2.2.2.2.2.1 (aB .i64 s.2.2.2.2.2.2.2.2.2.1->rT s/\ [az 76,az 77,az 76, 
 az 65]≠ []/\bj (bx<=ku/\cQ<=(100000000:Nat)/\kh<=eR/\cK (λk=>mf (bj ((aW<=cA/\cA<=cA)/\(oC s.1)/\cQ<=ku/\k ((),(ah,[]++ [az 76,az 
 77,az 76,az 65]++aH cQ (aS s.1),()),())))) λi=>aB .i64 dG/\cK (λk=>mh (yN i.2.1.1 s.2.2.1 i.2.1.2.1 k)) λi=>aB .i64 dP/\cK (λk=>pT (yN i.2.1.1 s.2.2.2.1 
 i.2.1.2.1 k)) λi=>aB .i64 dY/\cK (λk=>pV (yN i.2.1.1 s.2.2.2.2.1 i.2.1.2.1 k)) λi=>aB .i64 eS/\cK (λk=>fS (l9 (Y8 i.2.1.1 s.2.2.2.2.2.1 i.2.1.2.1 (k ((),(ah,i.2.1.2.1++aH cQ 
 (aS s.2.2.2.2.2.1),()),()))))) λi=>aB .i64 fT/\cK (λk=>pX (yN i.2.1.1 s.2.2.2.2.2.2.1 i.2.1.2.1 k)) λi=>aB .i64 lg/\cK (λk=>pY (yN i.2.1.1 s.2.2.2.2.2.2.2.2.2.1 i.2.1.2.1 k)) λi=> 
 pG (eZ<=eR/\cK (λk=>ah<=ah/\ah< jQ/\IV i.2.1.1 s.2.1 i.2.1.2.1 (k (Iz i.2.1.2.1 s.2.1))) λi=>aB .i64 dG/\cK (λk=>ah<=ah+1/\ah+1< jQ/\IV i.2.1.1 
 s.2.2.2.2.2.2.2.1 i.2.1.2.1 (k (Iz i.2.1.2.1 s.2.2.2.2.2.2.2.1))) λi=>aB .i64 dP/\cK (λk=>ah<=ah+1+1/\ah+1+1< jQ/\IV i.2.1.1 s.2.2.2.2.2.2.2.2.1 i.2.1.2.1 (k (Iz i.2.1.2.1 
 s.2.2.2.2.2.2.2.2.1))) λi=>aB .i64 dY/\i.2.1.1=ah/\List.length i.2.1.2.1<=100000000000/\(aJ (bw i.2.1.2.1)->dO T (IU T i.2.1.2.1 (List.length i.2.1.2.1<=100000000000/\bj (List.length (sD i.2.1.2.1 T) 
 <=100000000000/\(aB .i64 (aP (sD i.2.1.2.1 T))->aB .i64 (gn - (aP (sD i.2.1.2.1 T)))/\gn - (aP (sD i.2.1.2.1 T))=gn - (aP (sD i.2.1.2.1 T))/\ah<=gn - (aP (sD i.2.1.2.1 T))/\gn - 
 (aP (sD i.2.1.2.1 T))<=(140737488355328:Int)/\bj (List.length (sD i.2.1.2.1 T)<=100000000000/\List.length (au (ax (gn - (aP (sD i.2.1.2.1 T)))) eC)<=100000000/\bj (List.length (Jc 
 i.2.1.2.1 T)<=100000000000/\(List.length (Jc i.2.1.2.1 T)<=9223372036854775807->aB .i64 0->Q (SV.cC [S1.c (Cl.d Ty.u8 (Jc i.2.1.2.1 T)),.c (.k aT)]) [])))))))))))))
theorem Bj:cq 57 QS:=eI<| okT λT=>PV λs=>gx λQ h=>by
 refine Wp.kE [some (.sl .u8),none] [] ?_;refine Wp.dy ahs jA ⟨[],[(10,⟨[],[(1,.cells 174 [.int .i64,.own 5 .u8])]⟩),(15,⟨[],[(1,.cells 174 [.int .i64,.own 5 .u8])]⟩)]⟩ Tryz.f57 (zL T s) (hold:=[92,105]) (unr:=[(7,9),(12,5)]) ?_;unfold zL Iz jQ oC l9 ku bj IU pG IV mf yN mh Jc pT dO lB dG pV fS pX Y8 eR sD pY eC bw dP lg dY fT eS aT aS cr ah aW dm cA gn aP aJ bx a7 bI eZ cQ kh;obtain ⟨hT,hs,h⟩:=h;obtain ⟨s0,s1,s2,s3,s4,s5,s6,s7,s8,s9,rfl,p1,p2,p3,p4,p5,p6,p7,n1,n2,n3,n4⟩:=hs.ints;have b0:0<=s0/\s0< 256 ^ 4:=⟨by have:=hs.p1;have:=hs.p2;have:=hs.p3;have:=hs.p4;have:=hs.p5;have:=hs.p6;have:=hs.p7;have:=hs.n1;have:=hs.n2;have:=hs.n3;have:=hs.n4;omega,by have:=hs.p1;have:=hs.p2;have:=hs.p3;have:=hs.p4;have:=hs.p5;have:=hs.p6;have:=hs.p7;have:=hs.n1;have:=hs.n2;have:=hs.n3;have:=hs.n4;show _< (4294967296:Int);omega⟩;have b2:0<=s2/\s2< 256 ^ 4:=⟨by have:=hs.p1;have:=hs.p2;have:=hs.p3;have:=hs.p4;have:=hs.p5;have:=hs.p6;have:=hs.p7;have:=hs.n1;have:=hs.n2;have:=hs.n3;have:=hs.n4;omega,by have:=hs.p1;have:=hs.p2;have:=hs.p3;have:=hs.p4;have:=hs.p5;have:=hs.p6;have:=hs.p7;have:=hs.n1;have:=hs.n2;have:=hs.n3;have:=hs.n4;show _< (4294967296:Int);omega⟩;have b3:0<=s3/\s3< 256 ^ 4:=⟨by have:=hs.p1;have:=hs.p2;have:=hs.p3;have:=hs.p4;have:=hs.p5;have:=hs.p6;have:=hs.p7;have:=hs.n1;have:=hs.n2;have:=hs.n3;have:=hs.n4;omega,by have:=hs.p1;have:=hs.p2;have:=hs.p3;have:=hs.p4;have:=hs.p5;have:=hs.p6;have:=hs.p7;have:=hs.n1;have:=hs.n2;have:=hs.n3;have:=hs.n4;show _< (4294967296:Int);omega⟩;have b4:0<=s4/\s4< 256 ^ 4:=⟨by have:=hs.p1;have:=hs.p2;have:=hs.p3;have:=hs.p4;have:=hs.p5;have:=hs.p6;have:=hs.p7;have:=hs.n1;have:=hs.n2;have:=hs.n3;have:=hs.n4;omega,by have:=hs.p1;have:=hs.p2;have:=hs.p3;have:=hs.p4;have:=hs.p5;have:=hs.p6;have:=hs.p7;have:=hs.n1;have:=hs.n2;have:=hs.n3;have:=hs.n4;show _< (4294967296:Int);omega⟩;have b5:0<=s5/\s5< 256 ^ 4:=⟨by have:=hs.p1;have:=hs.p2;have:=hs.p3;have:=hs.p4;have:=hs.p5;have:=hs.p6;have:=hs.p7;have:=hs.n1;have:=hs.n2;have:=hs.n3;have:=hs.n4;omega,by have:=hs.p1;have:=hs.p2;have:=hs.p3;have:=hs.p4;have:=hs.p5;have:=hs.p6;have:=hs.p7;have:=hs.n1;have:=hs.n2;have:=hs.n3;have:=hs.n4;show _< (4294967296:Int);omega⟩;have b6:0<=s6/\s6< 256 ^ 4:=⟨by have:=hs.p1;have:=hs.p2;have:=hs.p3;have:=hs.p4;have:=hs.p5;have:=hs.p6;have:=hs.p7;have:=hs.n1;have:=hs.n2;have:=hs.n3;have:=hs.n4;omega,by have:=hs.p1;have:=hs.p2;have:=hs.p3;have:=hs.p4;have:=hs.p5;have:=hs.p6;have:=hs.p7;have:=hs.n1;have:=hs.n2;have:=hs.n3;have:=hs.n4;show _< (4294967296:Int);omega⟩;have b9:0<=s9/\s9< 256 ^ 4:=⟨by have:=hs.p1;have:=hs.p2;have:=hs.p3;have:=hs.p4;have:=hs.p5;have:=hs.p6;have:=hs.p7;have:=hs.n1;have:=hs.n2;have:=hs.n3;have:=hs.n4;omega,by have:=hs.p1;have:=hs.p2;have:=hs.p3;have:=hs.p4;have:=hs.p5;have:=hs.p6;have:=hs.p7;have:=hs.n1;have:=hs.n2;have:=hs.n3;have:=hs.n4;show _< (4294967296:Int);omega⟩;have b1:0<=s1/\s1< 256 ^ 2:=⟨by have:=hs.p1;have:=hs.p2;have:=hs.p3;have:=hs.p4;have:=hs.p5;have:=hs.p6;have:=hs.p7;have:=hs.n1;have:=hs.n2;have:=hs.n3;have:=hs.n4;omega,by have:=hs.p1;have:=hs.p2;have:=hs.p3;have:=hs.p4;have:=hs.p5;have:=hs.p6;have:=hs.p7;have:=hs.n1;have:=hs.n2;have:=hs.n3;have:=hs.n4;show _< (65536:Int);omega⟩;have b7:0<=s7/\s7< 256 ^ 2:=⟨by have:=hs.p1;have:=hs.p2;have:=hs.p3;have:=hs.p4;have:=hs.p5;have:=hs.p6;have:=hs.p7;have:=hs.n1;have:=hs.n2;have:=hs.n3;have:=hs.n4;omega,by have:=hs.p1;have:=hs.p2;have:=hs.p3;have:=hs.p4;have:=hs.p5;have:=hs.p6;have:=hs.p7;have:=hs.n1;have:=hs.n2;have:=hs.n3;have:=hs.n4;show _< (65536:Int);omega⟩;have b8:0<=s8/\s8< 256 ^ 2:=⟨by have:=hs.p1;have:=hs.p2;have:=hs.p3;have:=hs.p4;have:=hs.p5;have:=hs.p6;have:=hs.p7;have:=hs.n1;have:=hs.n2;have:=hs.n3;have:=hs.n4;omega,by have:=hs.p1;have:=hs.p2;have:=hs.p3;have:=hs.p4;have:=hs.p5;have:=hs.p6;have:=hs.p7;have:=hs.n1;have:=hs.n2;have:=hs.n3;have:=hs.n4;show _< (65536:Int);omega⟩;refine λ_ _ _ _ _ _ _ _ _ _=>⟨hs,by simp,rfl,by decide,by decide,by decide,?_⟩;refine cK.intro (λi=>i.2.1.1=0/\i.2.1.2.1=([76,77,76,65]:List UInt8)++aH 4 s0.toNat) ⟨by decide,by decide,rfl,⟨by decide,by decide⟩,b0,by decide,rfl,rfl⟩ ?_;rintro ⟨_,⟨c,x,_⟩,_⟩ ⟨e1,e2⟩;dsimp only at e1 e2 ⊢;subst e1 e2;refine ⟨by unfold aB;decide,?_⟩;refine cK.intro (λi=>i.2.1.1=0/\i.2.1.2.1=([76,77,76,65]:List UInt8)++aH 4 s0.toNat++aH 4 s2.toNat) ⟨by decide,by decide,rfl,⟨by decide,by decide⟩,b2,by simp only [af,aD,av,aY];decide,rfl,rfl⟩ ?_;rintro ⟨_,⟨c,x,_⟩,_⟩ ⟨e1,e2⟩;dsimp only at e1 e2 ⊢;subst e1 e2;refine ⟨by unfold aB;decide,?_⟩;refine cK.intro (λi=>i.2.1.1=0/\i.2.1.2.1=([76,77,76,65]:List UInt8)++aH 4 s0.toNat++aH 4 s2.toNat++aH 4 s3.toNat) ⟨by decide,by decide,rfl,⟨by decide,by decide⟩,b3,by simp only [af,aD,av,aY];decide,rfl,rfl⟩ ?_;rintro ⟨_,⟨c,x,_⟩,_⟩ ⟨e1,e2⟩;dsimp only at e1 e2 ⊢;subst e1 e2;refine ⟨by unfold aB;decide,?_⟩;refine cK.intro (λi=>i.2.1.1=0/\i.2.1.2.1=([76,77,76,65]:List UInt8)++aH 4 s0.toNat++aH 4 s2.toNat++aH 4 s3.toNat++aH 4 s4.toNat) ⟨by decide,by decide,rfl,⟨by decide,by decide⟩,b4,by simp only [af,aD,av,aY];decide,rfl,rfl⟩ ?_;rintro ⟨_,⟨c,x,_⟩,_⟩ ⟨e1,e2⟩;dsimp only at e1 e2 ⊢;subst e1 e2;refine ⟨by unfold aB;decide,?_⟩;refine cK.intro (λi=>i.2.1.1=0/\i.2.1.2.1=([76,77,76,65]:List UInt8)++aH 4 s0.toNat++aH 4 s2.toNat++aH 4 s3.toNat++aH 4 s4.toNat++aH 4 s5.toNat) ⟨by decide,by decide,rfl,⟨by decide,by decide⟩,b5,by simp only [af,aD,av,aY];decide,rfl,rfl⟩ ?_;rintro ⟨_,⟨c,x,_⟩,_⟩ ⟨e1,e2⟩;dsimp only at e1 e2 ⊢;subst e1 e2;refine ⟨by unfold aB;decide,?_⟩;refine cK.intro (λi=>i.2.1.1=0/\i.2.1.2.1=([76,77,76,65]:List UInt8)++aH 4 s0.toNat++aH 4 s2.toNat++aH 4 s3.toNat++aH 4 s4.toNat++aH 4 s5.toNat++aH 4 s6.toNat) ⟨by decide,by decide,rfl,⟨by decide,by decide⟩,b6,by simp only [af,aD,av,aY];decide,rfl,rfl⟩ ?_;rintro ⟨_,⟨c,x,_⟩,_⟩ ⟨e1,e2⟩;dsimp only at e1 e2 ⊢;subst e1 e2;refine ⟨by unfold aB;decide,?_⟩;refine cK.intro (λi=>i.2.1.1=0/\i.2.1.2.1=([76,77,76,65]:List UInt8)++aH 4 s0.toNat++aH 4 s2.toNat++aH 4 s3.toNat++aH 4 s4.toNat++aH 4 s5.toNat++aH 4 s6.toNat++aH 4 s9.toNat) ⟨by decide,by decide,rfl,⟨by decide,by decide⟩,b9,by simp only [af,aD,av,aY];decide,rfl,rfl⟩ ?_;rintro ⟨_,⟨c,x,_⟩,_⟩ ⟨e1,e2⟩;dsimp only at e1 e2 ⊢;subst e1 e2;refine ⟨by unfold aB;decide,by decide,?_⟩;refine cK.intro (λi=>i.2.1.1=0/\i.2.1.2.1=([76,77,76,65]:List UInt8)++aH 4 s0.toNat++aH 4 s2.toNat++aH 4 s3.toNat++aH 4 s4.toNat++aH 4 s5.toNat++aH 4 s6.toNat++aH 4 s9.toNat++aH 2 s1.toNat) ⟨by decide,by decide,rfl,⟨by decide,by decide⟩,b1,by simp only [af,aD,av,aY];decide,rfl,rfl⟩ ?_;rintro ⟨_,⟨c,x,_⟩,_⟩ ⟨e1,e2⟩;dsimp only at e1 e2 ⊢;subst e1 e2;refine ⟨by unfold aB;decide,?_⟩;refine cK.intro (λi=>i.2.1.1=0/\i.2.1.2.1=([76,77,76,65]:List UInt8)++aH 4 s0.toNat++aH 4 s2.toNat++aH 4 s3.toNat++aH 4 s4.toNat++aH 4 s5.toNat++aH 4 s6.toNat++aH 4 s9.toNat++aH 2 s1.toNat++aH 2 s7.toNat) ⟨by decide,by decide,rfl,⟨by decide,by decide⟩,b7,by simp only [af,aD,av,aY];decide,rfl,rfl⟩ ?_;rintro ⟨_,⟨c,x,_⟩,_⟩ ⟨e1,e2⟩;dsimp only at e1 e2 ⊢;subst e1 e2;refine ⟨by unfold aB;decide,?_⟩;refine cK.intro (λi=>i.2.1.1=0/\i.2.1.2.1=fR (s0,s1,s2,s3,s4,s5,s6,s7,s8,s9,())) ⟨by decide,by decide,rfl,⟨by decide,by decide⟩,b8,by simp only [af,aD,av,aY];decide,rfl,by unfold fR;simp only [aM]⟩ ?_;rintro ⟨_,⟨c,x,_⟩,_⟩ ⟨e1,e2⟩;dsimp only at e1 e2 ⊢;subst e1 e2;refine ⟨by unfold aB;decide,?_⟩;have hl:=vj (s0,s1,s2,s3,s4,s5,s6,s7,s8,s9,());have wk:(fR (s0,s1,s2,s3,s4,s5,s6,s7,s8,s9,())++aH 4 (cn T 0 (fR (s0,s1,s2,s3,s4,s5,s6,s7,s8,s9,()))).toNat).length=42:=by rw [af,aD,hl]
 have hc:=zh T 0 (fR (s0,s1,s2,s3,s4,s5,s6,s7,s8,s9,()));have hr:(au 22 (0:UInt8)).length=22:=aX;rw [wk];refine ⟨rfl,by omega,λ_=>⟨hT,λ_=>⟨rfl,⟨by decide,by decide⟩,⟨hc.1,by have:=hc.2;show _< (4294967296:Int);omega⟩,by omega,rfl,by omega,λ_=>⟨by unfold aB;decide,rfl,by decide,by decide,rfl,by omega,by show (au 22 (0:UInt8)).length<=_;omega,rfl,by show (_++au 22 (0:UInt8)).length<=_;rw [af,wk,hr];decide,λ_ _=>⟨aG _,?_⟩⟩⟩⟩⟩;have e:fJ T (s0,s1,s2,s3,s4,s5,s6,s7,s8,s9,())=fR (s0,s1,s2,s3,s4,s5,s6,s7,s8,s9,())++aH 4 (cn T 0 (fR (s0,s1,s2,s3,s4,s5,s6,s7,s8,s9,()))).toNat++au 22 0:=by unfold fJ;rw [aM]
 rw [e] at h;exact h
def aky:Ct:=cB λx=>c0 λQ=>Q (.bool (x !=0)) []
def ahr:=ahs.add Bj
def RS (x:Int):dq:=λQ=>aB .u8 x->Q (.v (.c (.k (.bool (x !=0))))) []
theorem ait:cq 102 aky:=eI<| okB λx=>gx λQ h=>by
 refine Wp.dy ahr jA ⟨[],[]⟩ Tryz.f102 (RS x) (hold:=[92,105]) ?_;unfold RS;exact λ_=>h
def abp:Ct
 | [.v (.c cx),.v (.c (.fn 102 []))],[],Q=>(match (Ty.sl Ty.u8).of [cx] with
  | some (x,[])=>(∀ z∈x,z=0)/\Q (.int (-1)) []
  | _=>False)
 | _,_,_=>False
def ahq:=ahr.add ait
abbrev oE (y0:SV->List HO->Prop):=y0 (.v (.c (.k (.int .i64 (-1:Int))))) []
def Sl (x:(List (Ty.u8).den)):dq:=λQ=>cJ x (aJ (dr x)->aK (λi ag=>br (decide (i.1.1< (ay x))) (0<=i.1.1/\i.1.1< (ay x)/\(Ty.ok Ty.u8 (aA Ty.u8 x i.1.1)->br ((ym x i.1.1) !=0) (Q (fC i.1.1) []) (dN i.1.1 ag))) (oE Q)) 
 du)
theorem aiL:cq 146 abp:=by
 intro args H Q h;unfold abp at h;split at h;rotate_left;cases h;rename_i cx;split at h;rotate_left;cases h;rename_i x hx;refine Wp.said (args':=[.c (.d Ty.u8 x),.v (.c (.fn 102 []))]) (λE g=>bA.cE (dI hx) (bA.cE (λ_ h=>h) (λ_ h=>h))) ?_;clear hx;refine Wp.dy ahq jA ⟨[(3,⟨[(8,.int .i64)],[]⟩)],[]⟩ Tryz.f146 (Sl x) (hold:=[92,105]) ?_;unfold Sl ym dr oE fC du cJ dN aC ah ay aJ;obtain ⟨hx,h⟩:=h;refine λ_ _=>aK.intro (λi=>0<=i.1.1) (λi=>x.length - i.1.1.toNat) (bh _) ?_;rintro ⟨⟨i,_⟩,_⟩ h0;have h0:0<=i:=h0;refine ak (λhc=>?_) (λ_=>h);have hc:i< (x.length:Int):=of_decide_eq_true hc;have e:aA .u8 x i=0:=hx _ (tv (e:=.u8) h0 hc);dsimp only;rw [e];exact ⟨h0,hc,λ_=>ak (λhd=>by cases hd) (λ_=>⟨by unfold aB;omega,by show 0<=i+1;omega,by show x.length - (i+1).toNat< x.length - i.toNat;omega⟩)⟩
def Aw:Ct
 | [.v (.c cx),.v (.c (.fn 102 []))],[],Q=>(match (Ty.sl Ty.u8).of [cx] with
  | some (x,[])=>(∀ z∈x,z=0)/\Q (.bool false) []
  | _=>False)
 | _,_,_=>False
def ahp:=ahq.add aiL
def wA (x:(List (Ty.u8).den)):dq:=λQ=>cJ x ((∀ (z:Ty.den Ty.u8),z∈x->z=eC)/\(aB .i64 (-1:Int)->Q (.v (.c (.k (.bool (decide ((-1:Int)≥ah)))))) []))
theorem KX:cq 101 Aw:=by
 intro args H Q h;unfold Aw at h;split at h;rotate_left;cases h;rename_i cx;split at h;rotate_left;cases h;rename_i x hx;refine Wp.said (args':=[.c (.d Ty.u8 x),.v (.c (.fn 102 []))]) (λE g=>bA.cE (dI hx) (bA.cE (λ_ h=>h) (λ_ h=>h))) ?_;clear hx;refine Wp.dy ahp jA ⟨[],[]⟩ Tryz.f101 (wA x) (hold:=[92,105]) ?_;unfold wA eC cJ ah;obtain ⟨hx,h⟩:=h;exact λ_=>⟨hx,λ_=>h⟩
def Oa:Ct:=cT λT=>cD .u8 λim=>c0 λQ=>T.length=256/\im.length<=100000000/\∃ s r,rT s/\im=fJ T s++r/\s.1=im.length/\Q (.cC [.agg (ov.cells s),.c (.k (.int .i64 0))]) []
def aho:=ahp.add KX
abbrev GA (y0:SV->List HO->Prop):=y0 (SV.cC [S1.agg [.k aT,.k aT,.k aT,.k aT,.k aT,.k aT,.k aT,.k aT,.k aT,.k aT],.c (.k (.int .i64 2))]) []
abbrev zW {A0:Type} (y0:List A0) (R:Prop):=aW<=cA/\cA<=cA/\cA<=(aP y0)/\fa (bw y0)/\R
abbrev Cq (y0:List (Ty.u8).den):=List.take (ax (min (ay y0) gn)) y0
abbrev pJ {A0:Type} (y0:List A0):=List.take cQ y0
abbrev IZ {A1:Type} (y0) (y1:List A1) (R:Prop):=y0=ah/\aW<=dm/\dm<=cA/\dm<=(aP y1)/\fa (bw y1)/\R
abbrev vD {A0:Type} (y0:List A0):=(ah,List.drop cQ y0,())
abbrev sQ (y0) (R:Prop):=aB .i64 (bJ (pJ y0))->R
abbrev mW {A0:Type} (y0:List A0):=List.drop 4 y0
abbrev yh (y0:List (Ty.u8).den):=l8 (Cq y0) cA
def wy (T:List Int) (im:(List (Ty.u8).den)):dq:=λQ=>cJ im (aJ (dr im)->0<=min (ay im) gn/\min (ay im) gn<=(ay im)/\fa (List.length (Cq im))/\bj (ah<=cA/\fa (List.length (Cq im))/\(List.length (jM (Cq im) cA)<= 
 9223372036854775807->kh<=eR/\cK (λk=>mf (Kn (Cq im) cA=ah/\aW<=cA/\cA<=cA/\cA<=(↑(List.length (yh im)):Int)/\List.length (yh im)<=140737488355328/\(aB .i64 (bJ (List.take 
 cQ (yh im)))->k ((),(ah,List.drop cQ (yh im),()),(bJ (List.take cQ (yh im)),ah,ah,ah,ah,ah,ah,ah,ah,ah,()),())))) λi=>aB .i64 dG/\cK (λk=>mh (i.2.1.1 
 =ah/\zW i.2.1.2.1 (sQ i.2.1.2.1 (k ((),(vD i.2.1.2.1),(i.2.2.1.1,i.2.2.1.2.1,bJ (pJ i.2.1.2.1),i.2.2.1.2.2.2),()))))) λi=>aB .i64 dP/\cK (λk=>pT (i.2.1.1=ah/\zW i.2.1.2.1 (sQ 
 i.2.1.2.1 (k ((),(vD i.2.1.2.1),(i.2.2.1.1,i.2.2.1.2.1,i.2.2.1.2.2.1,bJ (pJ i.2.1.2.1),i.2.2.1.2.2.2.2),()))))) λi=>aB .i64 dY/\cK (λk=>pV (i.2.1.1=ah/\zW i.2.1.2.1 (sQ i.2.1.2.1 (k ((), 
 (vD i.2.1.2.1),(i.2.2.1.1,i.2.2.1.2.1,i.2.2.1.2.2.1,i.2.2.1.2.2.2.1,bJ (pJ i.2.1.2.1),i.2.2.1.2.2.2.2.2),()))))) λi=>aB .i64 eS/\cK (λk=>fS (l9 (i.2.1.1=ah/\zW i.2.1.2.1 (sQ i.2.1.2.1 
 (k ((),(vD i.2.1.2.1),(i.2.2.1.1,i.2.2.1.2.1,i.2.2.1.2.2.1,i.2.2.1.2.2.2.1,i.2.2.1.2.2.2.2.1,bJ (pJ i.2.1.2.1),i.2.2.1.2.2.2.2.2.2),())))))) λi=>aB .i64 fT/\cK (λk=>pX (i.2.1.1=ah/\zW 
 i.2.1.2.1 (sQ i.2.1.2.1 (k ((),(vD i.2.1.2.1),(i.2.2.1.1,i.2.2.1.2.1,i.2.2.1.2.2.1,i.2.2.1.2.2.2.1,i.2.2.1.2.2.2.2.1,i.2.2.1.2.2.2.2.2.1,bJ (pJ i.2.1.2.1),i.2.2.1.2.2.2.2.2.2.2),()))))) λi=>aB .i64 lg/\ 
 cK (λk=>pY (i.2.1.1=ah/\zW i.2.1.2.1 (sQ i.2.1.2.1 (k ((),(vD i.2.1.2.1),(i.2.2.1.1,i.2.2.1.2.1,i.2.2.1.2.2.1,i.2.2.1.2.2.2.1,i.2.2.1.2.2.2.2.1,i.2.2.1.2.2.2.2.2.1,i.2.2.1.2.2.2.2.2.2.1, 
 i.2.2.1.2.2.2.2.2.2.2.1,i.2.2.1.2.2.2.2.2.2.2.2.1,bJ (pJ i.2.1.2.1),()),()))))) λi=>pG (eZ<=eR/\cK (λk=>ah<=ah/\ah< jQ/\IZ i.2.1.1 i.2.1.2.1 (aB .i64 (bJ (List.take a7 
 i.2.1.2.1))->k ((),(ah,List.drop a7 i.2.1.2.1,()),(i.2.2.1.1,bJ (List.take a7 i.2.1.2.1),i.2.2.1.2.2),()))) λi=>aB .i64 dG/\cK (λk=>ah<=ah+1/\ah+1< jQ/\IZ i.2.1.1 i.2.1.2.1 (aB 
 .i64 (bJ (List.take a7 i.2.1.2.1))->k ((),(ah,List.drop a7 i.2.1.2.1,()),(i.2.2.1.1,i.2.2.1.2.1,i.2.2.1.2.2.1,i.2.2.1.2.2.2.1,i.2.2.1.2.2.2.2.1,i.2.2.1.2.2.2.2.2.1,i.2.2.1.2.2.2.2.2.2.1,bJ (List.take a7 
 i.2.1.2.1),i.2.2.1.2.2.2.2.2.2.2.2),()))) λi=>aB .i64 dP/\cK (λk=>ah<=ah+1+1/\ah+1+1< jQ/\IZ i.2.1.1 i.2.1.2.1 (aB .i64 (bJ (List.take a7 i.2.1.2.1))->k ((),(ah,List.drop a7 
 i.2.1.2.1,()),(i.2.2.1.1,i.2.2.1.2.1,i.2.2.1.2.2.1,i.2.2.1.2.2.2.1,i.2.2.1.2.2.2.2.1,i.2.2.1.2.2.2.2.2.1,i.2.2.1.2.2.2.2.2.2.1,i.2.2.1.2.2.2.2.2.2.2.1,bJ (List.take a7 i.2.1.2.1),i.2.2.1.2.2.2.2.2.2.2.2.2),()))) λi=> 
 aB .i64 dY/\i.2.1.1=ah/\(aB .i64 (aP i.2.1.2.1)->bj (zW i.2.1.2.1 (sQ i.2.1.2.1 (aB .u32 (IntKind.wrap .u32 (bJ (pJ i.2.1.2.1)))->bj (aB .i64 (aP (mW i.2.1.2.1))->bj (ah<=(aP (mW 
 i.2.1.2.1))/\fa (List.length (mW i.2.1.2.1))/\(aJ (List.length (jM (mW i.2.1.2.1) (aP (mW i.2.1.2.1))))->aB .i64 (Kn (mW i.2.1.2.1) (aP (mW i.2.1.2.1)))->br (Kn (mW i.2.1.2.1) (aP (mW 
 i.2.1.2.1)) !=0) (GA Q) (aJ (dr im)->br (decide ((ay im)< gn)) (GA Q) (br (j9 (fY (jM (Cq im) cA)) (ByteArray.mk #[(76:UInt8),(77:UInt8),(76:UInt8),(65:UInt8)])) (aB .i64 (gn - (aP 
 i.2.1.2.1))/\ah<=gn - (aP i.2.1.2.1)/\gn - (aP i.2.1.2.1)<=(ay im)/\dO T (aB .u32 (cn T ah (List.take (ax (gn - (aP i.2.1.2.1))) im))->br (IntKind.wrap .u32 (bJ (pJ i.2.1.2.1))== 
 cn T ah (List.take (ax (gn - (aP i.2.1.2.1))) im)) (aJ (dr im)->br (i.2.2.1.1==(ay im)) (rT i.2.2.1/\(∀ (z:Ty.den Ty.u8),List.Mem z (jM (mW i.2.1.2.1) (aP (mW i.2.1.2.1)))->z=eC)/\Q 
 (SV.cC [S1.agg [.k (aC i.2.2.1.1),.k (aC i.2.2.1.2.1),.k (aC i.2.2.1.2.2.1),.k (aC i.2.2.1.2.2.2.1),.k (aC i.2.2.1.2.2.2.2.1),.k (aC i.2.2.1.2.2.2.2.2.1),.k (aC i.2.2.1.2.2.2.2.2.2.1),.k (aC i.2.2.1.2.2.2.2.2.2.2.1), 
 .k (aC i.2.2.1.2.2.2.2.2.2.2.2.1),.k (aC i.2.2.1.2.2.2.2.2.2.2.2.2.1)],.c (.k aT)]) []) (GA Q)) (GA Q))) (GA Q))))))))))))))
theorem zJ:cq 58 Oa:=eI<| okT λT=>iH λim=>gx λQ h=>by
 refine Wp.dy aho jA ⟨[],[(9,⟨[],[(1,.cells 187 [.int .i64,.d .u8]),(2,.cells 86 [.int .i64,.int .i64,.int .i64,.int .i64,.int .i64,.int .i64,.int .i64,.int .i64,.int .i64,.int .i64])]⟩),(14,⟨[],[(1,.cells 187 [.int .i64,.d .u8]),(2,.cells 86 [.int .i64,.int .i64,.int .i64,.int .i64,.int .i64,.int .i64,.int .i64,.int .i64,.int .i64,.int .i64])]⟩)]⟩ Tryz.f58 (wy T im) (hold:=[92,105]) (unr:=[(6,9),(11,5)]) ?_;unfold wy yh mW jQ sQ l9 bj vD pG dr IZ pJ mf mh pT dO dG Cq pV zW fS pX eR pY eC bw dP GA lg dY fT cJ eS aT aC ah aW dm cA gn aP ay fa aJ a7 bI eZ cQ kh;obtain ⟨hT,hl,s,r,hs,rfl,mM,h⟩:=h;obtain ⟨s0,s1,s2,s3,s4,s5,s6,s7,s8,s9,rfl,p1,p2,p3,p4,p5,p6,p7,n1,n2,n3,n4⟩:=hs.ints;have b0:0<=s0/\s0< 256 ^ 4:=⟨by have:=hs.p1;have:=hs.p2;have:=hs.p3;have:=hs.p4;have:=hs.p5;have:=hs.p6;have:=hs.p7;have:=hs.n1;have:=hs.n2;have:=hs.n3;have:=hs.n4;omega,by have:=hs.p1;have:=hs.p2;have:=hs.p3;have:=hs.p4;have:=hs.p5;have:=hs.p6;have:=hs.p7;have:=hs.n1;have:=hs.n2;have:=hs.n3;have:=hs.n4;show _< (4294967296:Int);omega⟩;have b2:0<=s2/\s2< 256 ^ 4:=⟨by have:=hs.p1;have:=hs.p2;have:=hs.p3;have:=hs.p4;have:=hs.p5;have:=hs.p6;have:=hs.p7;have:=hs.n1;have:=hs.n2;have:=hs.n3;have:=hs.n4;omega,by have:=hs.p1;have:=hs.p2;have:=hs.p3;have:=hs.p4;have:=hs.p5;have:=hs.p6;have:=hs.p7;have:=hs.n1;have:=hs.n2;have:=hs.n3;have:=hs.n4;show _< (4294967296:Int);omega⟩;have b3:0<=s3/\s3< 256 ^ 4:=⟨by have:=hs.p1;have:=hs.p2;have:=hs.p3;have:=hs.p4;have:=hs.p5;have:=hs.p6;have:=hs.p7;have:=hs.n1;have:=hs.n2;have:=hs.n3;have:=hs.n4;omega,by have:=hs.p1;have:=hs.p2;have:=hs.p3;have:=hs.p4;have:=hs.p5;have:=hs.p6;have:=hs.p7;have:=hs.n1;have:=hs.n2;have:=hs.n3;have:=hs.n4;show _< (4294967296:Int);omega⟩;have b4:0<=s4/\s4< 256 ^ 4:=⟨by have:=hs.p1;have:=hs.p2;have:=hs.p3;have:=hs.p4;have:=hs.p5;have:=hs.p6;have:=hs.p7;have:=hs.n1;have:=hs.n2;have:=hs.n3;have:=hs.n4;omega,by have:=hs.p1;have:=hs.p2;have:=hs.p3;have:=hs.p4;have:=hs.p5;have:=hs.p6;have:=hs.p7;have:=hs.n1;have:=hs.n2;have:=hs.n3;have:=hs.n4;show _< (4294967296:Int);omega⟩;have b5:0<=s5/\s5< 256 ^ 4:=⟨by have:=hs.p1;have:=hs.p2;have:=hs.p3;have:=hs.p4;have:=hs.p5;have:=hs.p6;have:=hs.p7;have:=hs.n1;have:=hs.n2;have:=hs.n3;have:=hs.n4;omega,by have:=hs.p1;have:=hs.p2;have:=hs.p3;have:=hs.p4;have:=hs.p5;have:=hs.p6;have:=hs.p7;have:=hs.n1;have:=hs.n2;have:=hs.n3;have:=hs.n4;show _< (4294967296:Int);omega⟩;have b6:0<=s6/\s6< 256 ^ 4:=⟨by have:=hs.p1;have:=hs.p2;have:=hs.p3;have:=hs.p4;have:=hs.p5;have:=hs.p6;have:=hs.p7;have:=hs.n1;have:=hs.n2;have:=hs.n3;have:=hs.n4;omega,by have:=hs.p1;have:=hs.p2;have:=hs.p3;have:=hs.p4;have:=hs.p5;have:=hs.p6;have:=hs.p7;have:=hs.n1;have:=hs.n2;have:=hs.n3;have:=hs.n4;show _< (4294967296:Int);omega⟩;have b9:0<=s9/\s9< 256 ^ 4:=⟨by have:=hs.p1;have:=hs.p2;have:=hs.p3;have:=hs.p4;have:=hs.p5;have:=hs.p6;have:=hs.p7;have:=hs.n1;have:=hs.n2;have:=hs.n3;have:=hs.n4;omega,by have:=hs.p1;have:=hs.p2;have:=hs.p3;have:=hs.p4;have:=hs.p5;have:=hs.p6;have:=hs.p7;have:=hs.n1;have:=hs.n2;have:=hs.n3;have:=hs.n4;show _< (4294967296:Int);omega⟩;have b1:0<=s1/\s1< 256 ^ 2:=⟨by have:=hs.p1;have:=hs.p2;have:=hs.p3;have:=hs.p4;have:=hs.p5;have:=hs.p6;have:=hs.p7;have:=hs.n1;have:=hs.n2;have:=hs.n3;have:=hs.n4;omega,by have:=hs.p1;have:=hs.p2;have:=hs.p3;have:=hs.p4;have:=hs.p5;have:=hs.p6;have:=hs.p7;have:=hs.n1;have:=hs.n2;have:=hs.n3;have:=hs.n4;show _< (65536:Int);omega⟩;have b7:0<=s7/\s7< 256 ^ 2:=⟨by have:=hs.p1;have:=hs.p2;have:=hs.p3;have:=hs.p4;have:=hs.p5;have:=hs.p6;have:=hs.p7;have:=hs.n1;have:=hs.n2;have:=hs.n3;have:=hs.n4;omega,by have:=hs.p1;have:=hs.p2;have:=hs.p3;have:=hs.p4;have:=hs.p5;have:=hs.p6;have:=hs.p7;have:=hs.n1;have:=hs.n2;have:=hs.n3;have:=hs.n4;show _< (65536:Int);omega⟩;have b8:0<=s8/\s8< 256 ^ 2:=⟨by have:=hs.p1;have:=hs.p2;have:=hs.p3;have:=hs.p4;have:=hs.p5;have:=hs.p6;have:=hs.p7;have:=hs.n1;have:=hs.n2;have:=hs.n3;have:=hs.n4;omega,by have:=hs.p1;have:=hs.p2;have:=hs.p3;have:=hs.p4;have:=hs.p5;have:=hs.p6;have:=hs.p7;have:=hs.n1;have:=hs.n2;have:=hs.n3;have:=hs.n4;show _< (65536:Int);omega⟩;have hE:=l7 T (s0,s1,s2,s3,s4,s5,s6,s7,s8,s9,());have Xh:(fJ T (s0,s1,s2,s3,s4,s5,s6,s7,s8,s9,())++r).length=64+r.length:=by rw [af,hE]
 obtain ⟨r0,NB⟩:∃ r0,r0=aH 4 s0.toNat++(aH 4 s2.toNat++(aH 4 s3.toNat++(aH 4 s4.toNat++(aH 4 s5.toNat++(aH 4 s6.toNat++(aH 4 s9.toNat++(aH 2 s1.toNat++(aH 2 s7.toNat++(aH 2 s8.toNat++(aH 4 (cn T 0 (fR (s0,s1,s2,s3,s4,s5,s6,s7,s8,s9,()))).toNat++au 22 0)))))))))):=⟨_,rfl⟩;have Df:fJ T (s0,s1,s2,s3,s4,s5,s6,s7,s8,s9,())=([76,77,76,65]:List UInt8)++r0:=by rw [NB];unfold fJ fR;simp only [aM]
 have arM:r0.length=60:=by have:=congrArg List.length Df;rw [hE,af] at this;simp only [av,aY] at this;omega
 obtain ⟨d1,d2,d3⟩:=It (x:=([76,77,76,65]:List UInt8)) (y:=r0) (n:=4) rfl;have Qm:min ((fJ T (s0,s1,s2,s3,s4,s5,s6,s7,s8,s9,())++r).length:Int) 64=64:=by rw [Xh];omega
 have htk:List.take (ax 64) (fJ T (s0,s1,s2,s3,s4,s5,s6,s7,s8,s9,())++r)=fJ T (s0,s1,s2,s3,s4,s5,s6,s7,s8,s9,()):=List.take_left' hE;rw [Qm,htk,Xh];rw [Df,d1,d2,d3];refine λ_ _=>⟨by decide,by omega,by rw [<-Df,hE];decide,rfl,by decide,by rw [<-Df,hE];decide,λ_=>⟨by decide,?_⟩⟩;subst NB;have hz:(au 22 (0:UInt8)).length=22:=aX;rw [iG,iJ,ev b0.1 b0.2];refine cK.intro (λi=>i.2.1.1=0/\i.2.1.2.1=aH 4 s2.toNat++(aH 4 s3.toNat++(aH 4 s4.toNat++(aH 4 s5.toNat++(aH 4 s6.toNat++(aH 4 s9.toNat++(aH 2 s1.toNat++(aH 2 s7.toNat++(aH 2 s8.toNat++(aH 4 (cn T 0 (fR (s0,s1,s2,s3,s4,s5,s6,s7,s8,s9,()))).toNat++au 22 0)))))))))/\i.2.2.1=(s0,0,0,0,0,0,0,0,0,0,())) ⟨by decide,by decide,by trivial,by decide,by decide,by simp only [af,aD,hz];decide,by simp only [af,aD,hz];decide,λ_=>⟨rfl,rfl,rfl⟩⟩ ?_;rintro ⟨_,⟨c,x,_⟩,y,_⟩ ⟨e1,e2,e3⟩;dsimp only at e1 e2 e3;subst e1 e2 e3;dsimp only;refine ⟨by unfold aB;decide,?_⟩;simp only [iG,iJ,ev b2.1 b2.2];refine cK.intro (λi=>i.2.1.1=0/\i.2.1.2.1=aH 4 s3.toNat++(aH 4 s4.toNat++(aH 4 s5.toNat++(aH 4 s6.toNat++(aH 4 s9.toNat++(aH 2 s1.toNat++(aH 2 s7.toNat++(aH 2 s8.toNat++(aH 4 (cn T 0 (fR (s0,s1,s2,s3,s4,s5,s6,s7,s8,s9,()))).toNat++au 22 0))))))))/\i.2.2.1=(s0,0,s2,0,0,0,0,0,0,0,())) ⟨by decide,by decide,by trivial,by decide,by decide,by simp only [af,aD,hz];decide,by simp only [af,aD,hz];decide,λ_=>⟨rfl,rfl,rfl⟩⟩ ?_;rintro ⟨_,⟨c,x,_⟩,y,_⟩ ⟨e1,e2,e3⟩;dsimp only at e1 e2 e3;subst e1 e2 e3;dsimp only;refine ⟨by unfold aB;decide,?_⟩;simp only [iG,iJ,ev b3.1 b3.2];refine cK.intro (λi=>i.2.1.1=0/\i.2.1.2.1=aH 4 s4.toNat++(aH 4 s5.toNat++(aH 4 s6.toNat++(aH 4 s9.toNat++(aH 2 s1.toNat++(aH 2 s7.toNat++(aH 2 s8.toNat++(aH 4 (cn T 0 (fR (s0,s1,s2,s3,s4,s5,s6,s7,s8,s9,()))).toNat++au 22 0)))))))/\i.2.2.1=(s0,0,s2,s3,0,0,0,0,0,0,())) ⟨by decide,by decide,by trivial,by decide,by decide,by simp only [af,aD,hz];decide,by simp only [af,aD,hz];decide,λ_=>⟨rfl,rfl,rfl⟩⟩ ?_;rintro ⟨_,⟨c,x,_⟩,y,_⟩ ⟨e1,e2,e3⟩;dsimp only at e1 e2 e3;subst e1 e2 e3;dsimp only;refine ⟨by unfold aB;decide,?_⟩;simp only [iG,iJ,ev b4.1 b4.2];refine cK.intro (λi=>i.2.1.1=0/\i.2.1.2.1=aH 4 s5.toNat++(aH 4 s6.toNat++(aH 4 s9.toNat++(aH 2 s1.toNat++(aH 2 s7.toNat++(aH 2 s8.toNat++(aH 4 (cn T 0 (fR (s0,s1,s2,s3,s4,s5,s6,s7,s8,s9,()))).toNat++au 22 0))))))/\i.2.2.1=(s0,0,s2,s3,s4,0,0,0,0,0,())) ⟨by decide,by decide,by trivial,by decide,by decide,by simp only [af,aD,hz];decide,by simp only [af,aD,hz];decide,λ_=>⟨rfl,rfl,rfl⟩⟩ ?_;rintro ⟨_,⟨c,x,_⟩,y,_⟩ ⟨e1,e2,e3⟩;dsimp only at e1 e2 e3;subst e1 e2 e3;dsimp only;refine ⟨by unfold aB;decide,?_⟩;simp only [iG,iJ,ev b5.1 b5.2];refine cK.intro (λi=>i.2.1.1=0/\i.2.1.2.1=aH 4 s6.toNat++(aH 4 s9.toNat++(aH 2 s1.toNat++(aH 2 s7.toNat++(aH 2 s8.toNat++(aH 4 (cn T 0 (fR (s0,s1,s2,s3,s4,s5,s6,s7,s8,s9,()))).toNat++au 22 0)))))/\i.2.2.1=(s0,0,s2,s3,s4,s5,0,0,0,0,())) ⟨by decide,by decide,by trivial,by decide,by decide,by simp only [af,aD,hz];decide,by simp only [af,aD,hz];decide,λ_=>⟨rfl,rfl,rfl⟩⟩ ?_;rintro ⟨_,⟨c,x,_⟩,y,_⟩ ⟨e1,e2,e3⟩;dsimp only at e1 e2 e3;subst e1 e2 e3;dsimp only;refine ⟨by unfold aB;decide,?_⟩;simp only [iG,iJ,ev b6.1 b6.2];refine cK.intro (λi=>i.2.1.1=0/\i.2.1.2.1=aH 4 s9.toNat++(aH 2 s1.toNat++(aH 2 s7.toNat++(aH 2 s8.toNat++(aH 4 (cn T 0 (fR (s0,s1,s2,s3,s4,s5,s6,s7,s8,s9,()))).toNat++au 22 0))))/\i.2.2.1=(s0,0,s2,s3,s4,s5,s6,0,0,0,())) ⟨by decide,by decide,by trivial,by decide,by decide,by simp only [af,aD,hz];decide,by simp only [af,aD,hz];decide,λ_=>⟨rfl,rfl,rfl⟩⟩ ?_;rintro ⟨_,⟨c,x,_⟩,y,_⟩ ⟨e1,e2,e3⟩;dsimp only at e1 e2 e3;subst e1 e2 e3;dsimp only;refine ⟨by unfold aB;decide,?_⟩;simp only [iG,iJ,ev b9.1 b9.2];refine cK.intro (λi=>i.2.1.1=0/\i.2.1.2.1=aH 2 s1.toNat++(aH 2 s7.toNat++(aH 2 s8.toNat++(aH 4 (cn T 0 (fR (s0,s1,s2,s3,s4,s5,s6,s7,s8,s9,()))).toNat++au 22 0)))/\i.2.2.1=(s0,0,s2,s3,s4,s5,s6,0,0,s9,())) ⟨by decide,by decide,by trivial,by decide,by decide,by simp only [af,aD,hz];decide,by simp only [af,aD,hz];decide,λ_=>⟨rfl,rfl,rfl⟩⟩ ?_;rintro ⟨_,⟨c,x,_⟩,y,_⟩ ⟨e1,e2,e3⟩;dsimp only at e1 e2 e3;subst e1 e2 e3;dsimp only;refine ⟨by unfold aB;decide,by decide,?_⟩;simp only [iG,iJ,ev b1.1 b1.2];refine cK.intro (λi=>i.2.1.1=0/\i.2.1.2.1=aH 2 s7.toNat++(aH 2 s8.toNat++(aH 4 (cn T 0 (fR (s0,s1,s2,s3,s4,s5,s6,s7,s8,s9,()))).toNat++au 22 0))/\i.2.2.1=(s0,s1,s2,s3,s4,s5,s6,0,0,s9,())) ⟨by decide,by decide,by trivial,by decide,by decide,by simp only [af,aD,hz];decide,by simp only [af,aD,hz];decide,λ_=>⟨rfl,rfl,rfl⟩⟩ ?_;rintro ⟨_,⟨c,x,_⟩,y,_⟩ ⟨e1,e2,e3⟩;dsimp only at e1 e2 e3;subst e1 e2 e3;dsimp only;refine ⟨by unfold aB;decide,?_⟩;simp only [iG,iJ,ev b7.1 b7.2];refine cK.intro (λi=>i.2.1.1=0/\i.2.1.2.1=aH 2 s8.toNat++(aH 4 (cn T 0 (fR (s0,s1,s2,s3,s4,s5,s6,s7,s8,s9,()))).toNat++au 22 0)/\i.2.2.1=(s0,s1,s2,s3,s4,s5,s6,s7,0,s9,())) ⟨by decide,by decide,by trivial,by decide,by decide,by simp only [af,aD,hz];decide,by simp only [af,aD,hz];decide,λ_=>⟨rfl,rfl,rfl⟩⟩ ?_;rintro ⟨_,⟨c,x,_⟩,y,_⟩ ⟨e1,e2,e3⟩;dsimp only at e1 e2 e3;subst e1 e2 e3;dsimp only;refine ⟨by unfold aB;decide,?_⟩;simp only [iG,iJ,ev b8.1 b8.2];refine cK.intro (λi=>i.2.1.1=0/\i.2.1.2.1=aH 4 (cn T 0 (fR (s0,s1,s2,s3,s4,s5,s6,s7,s8,s9,()))).toNat++au 22 0/\i.2.2.1=(s0,s1,s2,s3,s4,s5,s6,s7,s8,s9,())) ⟨by decide,by decide,by trivial,by decide,by decide,by simp only [af,aD,hz];decide,by simp only [af,aD,hz];decide,λ_=>⟨rfl,rfl,rfl⟩⟩ ?_;rintro ⟨_,⟨c,x,_⟩,y,_⟩ ⟨e1,e2,e3⟩;dsimp only at e1 e2 e3;subst e1 e2 e3;dsimp only;refine ⟨by unfold aB;decide,?_⟩;have hc:=zh T 0 (fR (s0,s1,s2,s3,s4,s5,s6,s7,s8,s9,()));have hl4:(aH 4 (cn T 0 (fR (s0,s1,s2,s3,s4,s5,s6,s7,s8,s9,()))).toNat++au 22 (0:UInt8)).length=26:=by rw [af,aD,hz]
 have hB:=vj (s0,s1,s2,s3,s4,s5,s6,s7,s8,s9,());have htB:List.take (ax (64 - ((26:Nat):Int))) (fJ T (s0,s1,s2,s3,s4,s5,s6,s7,s8,s9,())++r)=fR (s0,s1,s2,s3,s4,s5,s6,s7,s8,s9,()):=by
  unfold fJ;rw [aM];exact List.take_left' hB
 obtain ⟨z1,z2⟩:=ajc (au 22 (0:UInt8));simp only [iG,iJ,hl4,<-Df,htB,agC hc.1 hc.2,z1,z2,amM,beq_self_eq_true];refine ⟨by trivial,λ_=>⟨by trivial,by decide,by decide,by decide,by decide,λ_ _=>⟨by trivial,λ_=>⟨by trivial,by omega,by rw [hz];decide,λ_ _=>ak (λhq=>by cases hq) (λ_=>λ_=>ak (λhq=>by have hq:=of_decide_eq_true hq;omega) (λ_=>ak (λ_=>⟨by unfold aB;decide,by decide,by omega,hT,λ_=>ak (λ_=>λ_=>ak (λ_=>⟨hs,λz hz=>List.eq_of_mem_replicate hz,h⟩) (λhq=>?_)) (λhq=>by cases hq)⟩) (λhq=>by cases hq)))⟩⟩⟩⟩;rw [Xh] at mM;exact absurd mM (by simpa using hq)
end Go.Proofs

namespace Go.Proofs
open Go.Shelf
def Tryz.Np:Go.Shelf.Ren:=⟨fun| 137=>181| 217=>225| 266=>241| n=>n,fun| 9=>9| 5=>5| 3=>3| n=>n,fun| n=>n⟩
theorem Tryz.aeM:Go.Proofs.Lays.n137 cg Tryz.Np:= {
 mixed:=by kernel_rfl
 f137:=Tryz.func181.trans (congrArg some (by kernel_rfl))
 f217:=Tryz.func225.trans (congrArg some (by kernel_rfl))
 f266:=Tryz.func241.trans (congrArg some (by kernel_rfl))
 t3:=Tryz.underlying3
 a3:=Tryz.isAgg3
 z3:=Tryz.sizeOf3
 v3:=Tryz.zeroValue3
 t5:=Tryz.underlying5
 a5:=Tryz.isAgg5
 z5:=Tryz.sizeOf5
 v5:=Tryz.zeroValue5
 t9:=Tryz.underlying9
 a9:=Tryz.isAgg9
 z9:=Tryz.sizeOf9
 v9:=Tryz.zeroValue9}
open Go.RowKit in
theorem Tryz.strings_IndexByte (s:ByteArray) (c:Int) (w:World):
  Calls cg 181 #[.string s,.int .u8 c] w λe w'=>e= .returned (.int .i64 (Lib.indexByte s.data.toList c.toNat.toUInt8))/\w'=w:=Any.strings_IndexByte Tryz.aeM s c w
def Tryz.No:Go.Shelf.Ren:=⟨fun| 189=>125| 125=>122| 257=>172| 128=>168| 129=>169| 294=>211| 295=>212| 296=>213| 297=>214| 298=>215| 299=>216| 216=>131| 300=>217| 301=>218| 328=>232| 329=>207| 330=>208| 331=>233| 332=>234| 215=>179| 343=>244| n=>n,fun| 28=>29| 3=>3| 46=>148| 0=>0| 51=>107| 53=>267| 4=>4| 183=>260| 182=>259| 131=>104| 5=>5| 9=>9| 218=>303| 222=>130| 228=>325| 229=>163| n=>n,fun| n=>n⟩
theorem Tryz.Ti:Go.Proofs.Lays.n189 cg Tryz.No:= {
 mixed:=by kernel_rfl
 f125:=Tryz.func122.trans (congrArg some (by kernel_rfl))
 f128:=Tryz.func168.trans (congrArg some (by kernel_rfl))
 f129:=Tryz.func169.trans (congrArg some (by kernel_rfl))
 f189:=Tryz.func125.trans (congrArg some (by kernel_rfl))
 f215:=Tryz.func179.trans (congrArg some (by kernel_rfl))
 f216:=Tryz.func131.trans (congrArg some (by kernel_rfl))
 f257:=Tryz.func172.trans (congrArg some (by kernel_rfl))
 f294:=Tryz.func211.trans (congrArg some (by kernel_rfl))
 f295:=Tryz.func212.trans (congrArg some (by kernel_rfl))
 f296:=Tryz.func213.trans (congrArg some (by kernel_rfl))
 f297:=Tryz.func214.trans (congrArg some (by kernel_rfl))
 f298:=Tryz.func215.trans (congrArg some (by kernel_rfl))
 f299:=Tryz.func216.trans (congrArg some (by kernel_rfl))
 f300:=Tryz.func217.trans (congrArg some (by kernel_rfl))
 f301:=Tryz.func218.trans (congrArg some (by kernel_rfl))
 f328:=Tryz.func232.trans (congrArg some (by kernel_rfl))
 f329:=Tryz.func207.trans (congrArg some (by kernel_rfl))
 f330:=Tryz.func208.trans (congrArg some (by kernel_rfl))
 f331:=Tryz.func233.trans (congrArg some (by kernel_rfl))
 f332:=Tryz.func234.trans (congrArg some (by kernel_rfl))
 f343:=Tryz.func244.trans (congrArg some (by kernel_rfl))
 t0:=Tryz.underlying0
 a0:=Tryz.isAgg0
 z0:=Tryz.sizeOf0
 v0:=Tryz.zeroValue0
 t3:=Tryz.underlying3
 a3:=Tryz.isAgg3
 z3:=Tryz.sizeOf3
 v3:=Tryz.zeroValue3
 t4:=Tryz.underlying4
 a4:=Tryz.isAgg4
 z4:=Tryz.sizeOf4
 v4:=Tryz.zeroValue4
 t5:=Tryz.underlying5
 a5:=Tryz.isAgg5
 z5:=Tryz.sizeOf5
 v5:=Tryz.zeroValue5
 t9:=Tryz.underlying9
 a9:=Tryz.isAgg9
 z9:=Tryz.sizeOf9
 v9:=Tryz.zeroValue9
 t28:=Tryz.underlying29
 a28:=Tryz.isAgg29
 z28:=Tryz.sizeOf29
 v28:=Tryz.zeroValue29
 t46:=Tryz.underlying148
 a46:=Tryz.isAgg148
 z46:=Tryz.sizeOf148
 v46:=Tryz.zeroValue148
 t51:=Tryz.underlying107
 a51:=Tryz.isAgg107
 z51:=Tryz.sizeOf107
 v51:=Tryz.zeroValue107
 t53:=Tryz.underlying267
 a53:=Tryz.isAgg267
 z53:=Tryz.sizeOf267
 v53:=Tryz.zeroValue267
 t131:=Tryz.underlying104
 a131:=Tryz.isAgg104
 z131:=Tryz.sizeOf104
 v131:=Tryz.zeroValue104
 t182:=Tryz.underlying259
 a182:=Tryz.isAgg259
 z182:=Tryz.sizeOf259
 v182:=Tryz.zeroValue259
 t183:=Tryz.underlying260
 a183:=Tryz.isAgg260
 z183:=Tryz.sizeOf260
 v183:=Tryz.zeroValue260
 t218:=Tryz.underlying303
 a218:=Tryz.isAgg303
 z218:=Tryz.sizeOf303
 v218:=Tryz.zeroValue303
 t222:=Tryz.underlying130
 a222:=Tryz.isAgg130
 z222:=Tryz.sizeOf130
 v222:=Tryz.zeroValue130
 t228:=Tryz.underlying325
 a228:=Tryz.isAgg325
 z228:=Tryz.sizeOf325
 v228:=Tryz.zeroValue325
 t229:=Tryz.underlying163
 a229:=Tryz.isAgg163
 z229:=Tryz.sizeOf163
 v229:=Tryz.zeroValue163}
open Go.Sort Go.RowKit in
theorem Tryz.slices_Sort_int (pc off cap:Nat) (zs:List Int) (w:World) (hH:Holds (Value.int .i64) w pc off zs.toArray) (hblk:pc< w.heap.size) (mM:zs.length< 4611686018427387904):
  Calls cg 125 #[.slice (some ⟨pc,off,none⟩) zs.length cap] w λe w'=>
   e= .returned (.tuple #[])/\∃ n os,w'=grow (putRow (Value.int .i64) (Sort.ahead w n) pc off (zs.mergeSort λx y=>decide (x<=y)).toArray) os:=Any.slices_Sort_int Tryz.Ti pc off cap zs w hH hblk mM
open Go.RowKit Go.Sort in
theorem Tryz.slices_Sort_int_none (p:Option Addr) (cap:Nat) (w:World):
  Calls cg 125 #[.slice p 0 cap] w λe w'=>e= .returned (.tuple #[])/\w'=w:=Any.slices_Sort_int_none Tryz.Ti p cap w
end Go.Proofs

namespace Go.Lm
open Go
abbrev bN:Ty:=.pair .We (.pair (.int .i64) (.pair (.int .i64) .unit))
abbrev eA:Ty:=.pair (.int .i64) (.pair (.int .i64) (.pair (.int .i64) (.pair (.int .i64) (.pair (.int .i64) (.pair (.int .i64) (.pair (.int .i64) (.pair (.int .i64) (.pair (.int .i64) (.pair (.int .i64) (.pair .str .unit))))))))))
abbrev wR (F:List (Int×eA.den)):HO:=.map 3 .int eA F
structure Ea (mo ui gi lk xa:Int):Prop where
 q1:0<=mo/\mo<=511
 q2:0<=ui/\ui<=2047
 q3:0<=gi/\gi<=2047
 q4:1<=lk/\lk<=1024
 q5:0<=xa/\xa<=4294967295
structure UH (st sz:Int):Prop where
 r1:0<=st/\st<=4294967295
 r2:0<=sz/\sz<=1048576
structure zG (st sz fr off:Int):Prop where
 r1:0<=st/\st<=4294967295
 r2:0<=sz/\sz<=4096
 r3:0<=fr/\fr<=1024
 r4:0<=off/\off<=127
 tail:(0< fr↔0< sz % 128)/\(0< sz % 128\/off=0)
structure zF (z:ByteArray):Prop where
 len:0< z.size/\z.size<=200
 nul:∀ x∈z.data.toList,x≠0
def cmB (k mo ui gi lk xa:Int):List UInt8:=aH 1 k.toNat++(aH 2 mo.toNat++(aH 2 ui.toNat++(aH 2 gi.toNat++(aH 2 lk.toNat++aH 4 xa.toNat))))
theorem Ba (k mo ui gi lk xa:Int):(cmB k mo ui gi lk xa).length=13:=by rfl
def Y0 (mo ui gi xa st sz:Int):List UInt8:=cmB 1 mo ui gi 1 xa++(aH 4 st.toNat++aH 4 sz.toNat)
def YZ (mo ui gi lk xa st sz fr off:Int):List UInt8:=cmB 2 mo ui gi lk xa++(aH 4 st.toNat++(aH 2 sz.toNat++(aH 2 fr.toNat++aH 1 off.toNat)))
def VC (mo ui gi lk xa:Int) (z:ByteArray):List UInt8:=cmB 3 mo ui gi lk xa++(az z.size::z.data.toList)
theorem kF {x m:Int} {P R:Prop} (h0:0<=x) (h1:x<=m) (h:R):br (decide (x< 0)) P (br (decide (x>m)) P R):=
 by grind [ak]
theorem Qy (k a b c d e f g h i:Int) (z:ByteArray):(!(k==k&& (a==a&& (b==b&& (c==c&& (d==d&& (e==e&& (f==f&& (g==g&& (h==h&& (i==i&& (j9 z z&& true))))))))))))=false:=by
 simp [j9]
theorem ajq {l:List UInt8} (h:∀ x∈l,x≠0):decide (Lib.indexByte l 0< 0)=true:=by
 grind [um]
theorem L7 (n x:Nat):List.take n (aH n x)=aH n x:=by grind [aD]
theorem NY (n x:Nat):List.drop n (aH n x)= []:=by grind [aD]
theorem zq (z:ByteArray):fY z.data.toList=z:=rfl
structure o7 (i:eA.den):Prop where
 cm:Ea i.2.1 i.2.2.1 i.2.2.2.1 i.2.2.2.2.1 i.2.2.2.2.2.1
 or:(i.1=1/\UH i.2.2.2.2.2.2.1 i.2.2.2.2.2.2.2.1/\i.2.2.2.2.1=1/\i.2.2.2.2.2.2.2.2.1=0/\i.2.2.2.2.2.2.2.2.2.1=0/\i.2.2.2.2.2.2.2.2.2.2.1=⟨#[]⟩)\/
  (i.1=2/\zG i.2.2.2.2.2.2.1 i.2.2.2.2.2.2.2.1 i.2.2.2.2.2.2.2.2.1 i.2.2.2.2.2.2.2.2.2.1/\i.2.2.2.2.2.2.2.2.2.2.1=⟨#[]⟩)\/
  (i.1=3/\zF i.2.2.2.2.2.2.2.2.2.2.1/\i.2.2.2.2.2.2.1=0/\i.2.2.2.2.2.2.2.1=0/\i.2.2.2.2.2.2.2.2.1=0/\i.2.2.2.2.2.2.2.2.2.1=0)
def fO (i:eA.den):List UInt8:=
 if i.1=1 then Y0 i.2.1 i.2.2.1 i.2.2.2.1 i.2.2.2.2.2.1 i.2.2.2.2.2.2.1 i.2.2.2.2.2.2.2.1
 else if i.1=2 then YZ i.2.1 i.2.2.1 i.2.2.2.1 i.2.2.2.2.1 i.2.2.2.2.2.1 i.2.2.2.2.2.2.1 i.2.2.2.2.2.2.2.1 i.2.2.2.2.2.2.2.2.1 i.2.2.2.2.2.2.2.2.2.1
 else VC i.2.1 i.2.2.1 i.2.2.2.1 i.2.2.2.2.1 i.2.2.2.2.2.1 i.2.2.2.2.2.2.2.2.2.2.1
theorem pw.ok {fs:List (List UInt8)} {R:List UInt8} {o n:Nat} {z:List UInt8} {nx e:Int} (h:pw fs R o n z nx e) (hl:o+n<=R.length):z=(R.drop o).take n/\nx=(dS fs (o+n):Nat)/\e=0:=by
 rcases h.or with ⟨_,h1,h2,h3⟩| ⟨h1,_⟩
 .grind
 .omega
def vl:List bN.den->Int
 | []=>0
 | (_,n,_)::r=>n+vl r
theorem Ma:∀ (l:List bN.den) (x:bN.den),vl (l++ [x])=vl l+x.2.1
 | [],(_,n,_)=>Int.add_comm (n:Int) 0
 | (_,m,_)::l,x=>by
  have:=Ma l x;show m+vl (l++ [x])=m+vl l+x.2.1;rw [this];exact (Int.add_assoc m (vl l) x.2.1).symm
theorem Vc {l:List bN.den} {j:Int} (h0:0<=j) (h1:j< (l.length:Int)):vl (l.take (j+1).toNat)=vl (l.take j.toNat)+(aA bN l j).2.1:=by
 rw [ixT h0 h1,Ma]
theorem aom {n s:Int} {L:Nat} (h:0<=n/\n<=4) (k:0<=s/\s<=4*L):0<=n+s/\n+s<=4*((L+1:Nat):Int):=by omega
theorem Su:∀ {l:List bN.den} (j:Nat),(∀ x∈l,0<=(x.2.1:Int)/\(x.2.1:Int)<=4)->0<=vl (l.take j)/\vl (l.take j)<=4*l.length
 | [],j,_=>by simp [vl]
 | x::r,0,_=>by grind [vl]
 | (f,n,m)::r,j+1,h=>by
  have h2:=Su (l:=r) j (by grind)
  grind [vl, aN]
theorem SH {i:eA.den} (h:o7 i):(fO i).length=if i.1=1 then 21 else if i.1=2 then 22 else 14+i.2.2.2.2.2.2.2.2.2.2.1.size:=by
 unfold fO;rcases h.or with ⟨e,_⟩| ⟨e,_⟩| ⟨e,_⟩
 .grind [Y0, Ba, aD]
 .grind [YZ, Ba, aD]
 .grind [VC, Ba, j7]
theorem MK {i:eA.den} (h:o7 i):∃ t,fO i=az i.1.toNat::t:=by
 unfold fO;rcases h.or with ⟨e,_⟩| ⟨e,_⟩| ⟨e,_⟩;rw [if_pos e,e];exact ⟨_,rfl⟩;rw [if_neg (by rw [e];decide),if_pos e,e];exact ⟨_,rfl⟩;rw [if_neg (by rw [e];decide),if_neg (by rw [e];decide),e];exact ⟨_,rfl⟩
theorem aep {i:eA.den} (e:i.1=3):(fO i)[13]?=some (az i.2.2.2.2.2.2.2.2.2.2.1.size):=by
 grind [fO, VC, Ba]
end Go.Lm

