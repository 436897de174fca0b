/- Texts of mine, laid together: LmVy LmVyb LmVz LmWa LmVza LmYa LmZb LmVzf LmVzc LmZw I1 I2 LmZa I3 LmZ0 LmZc I4 I5 LmZd LmZx I6 LmZg Grow LmZy LmZe I7 I8 LmZh I9 Shelf LmZi. -/
import Derived.Test.YthjbdgokcljocaaGreatDoorQ2
import Derived.RangeFuncSeq
import Derived.RangeFuncRecord
import Derived.RangeFuncLeaves
import Derived.RangeFuncIn
import Derived.Lib.Bytealg
import Derived.Lib.Bytes
import Derived.Test.YthjbdgokcljocaaGreatDoorProg
import Derived.Test.YthjbdgokcljocaaGreatDoorChecked
import Derived.Test.YthjbdgokcljocaaGreatDoorQ1
import Derived.Shelf.Spec.SlicesGrow
import Derived.Shelf.Strings.Builder1
import Derived.Shelf.Strings.Builder2
import Derived.Shelf.Strings.OnBuilder
import Derived.Shelf.Small.Bits
import Derived.Shelf.Small.Strs
import Derived.Shelf.Strings.BuilderF
import Derived.Shelf.Strings.BuilderK
import Derived.Shelf.Strings.Builder2Cap
import Derived.Shelf.Strconv.Itoa0
import Derived.Shelf.Strings.Search1
import Derived.Shelf.Sort.Plain
import Derived.Shelf.Strings.BuilderCap
import Derived.Ground.Names2Prog
import Derived.Shelf.Slices.Clone
import Derived.Shelf.Slices.In.SortNone
import Derived.Shelf.Bytes.SlSearch0
import Derived.Ground.SlbCloneProg
import Derived.Shelf.Bytes.SlClone
import Derived.Ground.SlsfProg
import Derived.Shelf.SlSortCmp.Insertion
import Derived.Shelf.Bytes.SlEqualAll
import Derived.Shelf.Bytes.Small
set_option linter.unusedVariables false
open Array renaming getElem?_eq_some_iff → aN, getD_eq_getD_getElem? → j6
open Bool renaming and_eq_true → ak, not_eq_true' → dr, false_eq_true → dS, false_or → eZ, or_eq_true → lR
open Int renaming toNat → ax, le_refl → bB, toNat_natCast → bM, tdiv → gw, eq_ofNat_of_zero_le → od
open Go.IntKind renaming signed → il, bits → km, max → mJ
open List renaming flatten → ae, length_append → af, getElem?_eq_getElem → ao, replicate → au, length_cons → av, getElem?_eq_some_iff → aw, length_singleton → ay, mem_cons_of_mem → aF, length_take → aH, mem_cons_self → aK, append_assoc → aL, length_nil → aO, length_drop → aQ, take_of_length_le → aT, length_replicate → aY, append_nil → bd, all_eq_true → bn, mem_map → bq, mem_cons → bz, eq_nil_of_length_eq_zero → bA, getElem?_append_right → bD, take_succ_eq_append_getElem → bG, range → bL, getElem?_append_left → bN, drop_eq_getElem_cons → bO, length_map → bR, take_append_drop → bX, getElem?_map → dq, flatten_cons → dD, mem_range → dJ, cons_append → dV, getD_eq_getElem?_getD → ep, take_length → eK, drop_eq_nil_of_le → eL, drop_drop → eP, drop_append_of_le_length → eT, nodup_cons → gj, length_set → jd, map_congr_left → jv, flatten_append → jw, mem_of_getElem? → ka, filter_eq_self → k9, drop_take → lG, drop_left → lH, take_take → o9, drop_zero → pc
open Nat renaming eq_of_beq_eq_true → ai, le_refl → aG, zero_le → cY, zero_lt_succ → eS, lt_or_ge → eW, le_of_ble_eq_true → eX, zero_add → gC, blt → gP, min_eq_left → pB
open Option renaming getD → cA, isSome_iff_exists → gV, isSome → oc
open Option.some renaming inj → aj
open Go.Proofs.Tryz renaming prog → bQ
open UInt8 renaming ofNat → az, toNat → cK
noncomputable section
namespace Go.Lm
open Go Go.RowKit
def Ex.out:Ex->Exit
 | .normal=>.normal
 | .exit i=>.exit i
 | .ret=>.ret
def aor (n:Nat) (W:cX) (F:List Atom) (b:Bs) (E:Env) (g:World) (Q:Ex->Ov->Prop) (e:Exit) (a':Act) (w':World):Prop:=∃ E' g' s' ex,bu E E'/\bt g g'/\dm n W F b E' g' w' s' a'/\e=ex.out/\Q ex s'
section
variable {X:Vx} {n:Nat} {an:EH} {W:cX} {F:List Atom}
theorem Ov.force_eq {s:Ov} {K:Ov->Prop} (h:s.force K):K s:=by
 have:=fA _ (fA _ h);omega
theorem Bs.force_eq {b:Bs} {K:Bs->Prop} (h:b.force K):K b:=by
 have:=fA _ (fA _ h);omega
theorem vc {ks:List Nat} {b:Bs} {s:Ov} {t:Nat} (h:t∈ks):gh (pU ks b s).f t=none:=by
 show gh ((s.f++b.f).filter λp=> !iD p.1 ks) t=none;rw [jg (p:=λk=> !iD k ks),gB.2 h];rfl
theorem BP {ro:Option Nat} {m:Nat} (jV:js W X.P X.ct):∀ (c:Code) {b:Bs} {s:Ov} {E:Env} {g w:World} {a:Act} {Q:Ex->Ov->Prop},dm n W F b E g w s a->lK X n an c b s Q->c.wpIn (Ei ro) m X.P (aor n W F b E g Q) a w:=by
 intro c
 induction c with
 | skip=>
  intro b s E g w a Q S h;exact wpIn_skip ⟨E,g,s,.normal,bu.refl E,bt.refl g,S,rfl,h⟩
 | region id ops draw=>
  intro b s E g w a Q S h;exact O4 jV S (Ov.force_eq h) λa' w' ⟨E',g',s',l1,l2,S',k⟩=>⟨E',g',s',.normal,l1,l2,S',rfl,k⟩
 | seq x y ihx ihy=>
  intro b s E g w a Q S h;unfold lK at h;split at h
  .refine wpIn_seq (wpIn_mono (ihx S h) ?_);rintro e a1 w1 ⟨E1,g1,s1,ex,l1,l2,S1,rfl,hq⟩;cases ex with
   | normal=>exact wpIn_mono (ihy S1 hq) λe a2 w2 ⟨E2,g2,s2,ex,m1,m2,S2,he,hq⟩=>⟨E2,g2,s2,ex,l1.trans m1,l2.trans m2,S2,he,hq⟩
   | exit i=>exact ⟨E1,g1,s1,.exit i,l1,l2,S1,rfl,hq⟩
   | ret=>exact ⟨E1,g1,s1,.ret,l1,l2,S1,rfl,hq⟩
  .rename_i la _;have h:=fA _ (Ov.force_eq h);generalize hks:nD x++la.jE.map (·.1)=ks at h;have h:=Bs.force_eq h;obtain ⟨J,hA,hB⟩:=h;refine wpIn_seq (wpIn_mono (ihx (S.aji ks) hA) ?_);rintro e a1 w1 ⟨E1,g1,s1,ex,l1,l2,S1,rfl,hq⟩;cases ex with
   | normal=>
    obtain ⟨i,hi,E3,l3,S3⟩:=CZ S1 l1 S.len (S.xL ks) (by grind [vc]) hq;refine wpIn_mono (ihy S3 (hB i hi)) ?_;rintro e a2 w2 ⟨E2,g2,s2,ex,m1,m2,S2,he,hq⟩;exact ⟨E2,g2,_,ex,l3.trans m1,l2.trans m2,S2.out S.top,he,hq⟩
   | exit i=>exact ⟨E1,g1,_,.exit i,l1,l2,S1.out S.top,rfl,hq⟩
   | ret=>exact ⟨E1,g1,_,.ret,l1,l2,S1.out S.top,rfl,hq⟩
 | cond c x y ihx ihy=>
  intro b s E g w a Q S h;unfold lK at h;split at h
  .rename_i v hv;obtain ⟨hc,_⟩:=S.fm hv;have told:∀ q,a.eval c= .bool q->dm n W F b E g w (s.told c q) a:=λq hq=>by
    cases c with
    | tmp t=>exact S.told (d:=t) (by trivial)
    | const _=>exact S
    | global _=>exact S
    | func _=>exact S
   grind [tA, wpIn_cond_true, wpIn_cond_false]
  grind
 | block id c ih=>
  intro b s E g w a Q S h;refine wpIn_block (wpIn_mono (ih S h) ?_);rintro e a1 w1 ⟨E1,g1,s1,ex,l1,l2,S1,rfl,hq⟩;cases ex with
  | normal=>exact ⟨E1,g1,s1,.normal,l1,l2,S1,rfl,hq⟩
  | exit i=>
   show (if i=id then _ else _)
   simp only at hq;split
   .rename_i e;subst e;rw [if_pos (by simp)] at hq;exact ⟨E1,g1,s1,.normal,l1,l2,S1,rfl,hq⟩
   .rename_i e;rw [if_neg (by simpa using e)] at hq;exact ⟨E1,g1,s1,.exit i,l1,l2,S1,rfl,hq⟩
  | ret=>exact ⟨E1,g1,s1,.ret,l1,l2,S1,rfl,hq⟩
 | loop c ih=>
  intro b s E g w a Q S h;unfold lK at h;split at h
  .rename_i k0 _;refine uF (λk a' w'=>∃ s' E' g',bu E E'/\bt g g'/\dm n W F b E' g' w' s' a'/\aiY (λs q=>lK X n an c b s q) Q k s') (λk=>k) k0 (by grind [bu.refl, bt.refl]) ?_;rintro k a1 w1 ⟨s1,E1,g1,l1,l2,S1,hu⟩;cases k with
   | zero=>trivial
   | succ k=>
    refine wpIn_mono (ih S1 (Ov.force_eq hu)) ?_;rintro e a2 w2 ⟨E2,g2,s2,ex,m1,m2,S2,rfl,hq⟩;cases ex with
    | normal=>exact ⟨k,⟨s2,E2,g2,l1.trans m1,l2.trans m2,S2,hq⟩,Nat.lt_succ_self k⟩
    | exit i=>exact ⟨E2,g2,s2,.exit i,l1.trans m1,l2.trans m2,S2,rfl,hq⟩
    | ret=>exact ⟨E2,g2,s2,.ret,l1.trans m1,l2.trans m2,S2,rfl,hq⟩
  .grind
  .rename_i la _ _;have h:=fA _ (Ov.force_eq h);generalize hks:nD c++la.jE.map (·.1)=ks at h;have h:=Bs.force_eq h;have S:=He X.cloH S;generalize Dy X.cloH b s=s at h S;obtain ⟨i0,h0,E0,l0,S0⟩:=CZ (S.aji ks) (bu.refl E) S.len (S.xL ks) (by grind [vc]) h;obtain ⟨I,μ,hI0,hI⟩:=h0;refine uF (λi a' w'=>I i/\∃ E' g',bu E E'/\bt g g'/\dm n W F (pU ks b s) E' g' w' (lO la (CV la b s) s.n i) a') μ i0 (by grind [bt.refl]) ?_;rintro i a1 w1 ⟨hi,E1,g1,l1,l2,S1⟩;refine wpIn_mono (ih S1 (hI i hi)) ?_;rintro e a2 w2 ⟨E2,g2,s2,ex,m1,m2,S2,rfl,hq⟩;cases ex with
   | normal=>
    obtain ⟨i',⟨h1,h2⟩,E3,l3,S3⟩:=CZ S2 (l1.trans m1) S.len (S.xL ks) (by grind [vc]) hq;exact ⟨i',⟨h1,E3,g2,l3,l2.trans m2,S3⟩,h2⟩
   | exit i=>
    obtain ⟨g3,m3,S3⟩:=Hg X.sfh (S2.out S.top);exact ⟨E2,g3,_,.exit i,l1.trans m1,(l2.trans m2).trans m3,S3,rfl,hq⟩
   | ret=>
    obtain ⟨g3,m3,S3⟩:=Hg X.sfh (S2.out S.top);exact ⟨E2,g3,_,.ret,l1.trans m1,(l2.trans m2).trans m3,S3,rfl,hq⟩
 | exit id=>
  intro b s E g w a Q S h;exact wpIn_exit ⟨E,g,s,.exit id,bu.refl E,bt.refl g,S,rfl,h⟩
 | ret=>
  intro b s E g w a Q S h;exact wpIn_ret ⟨E,g,s,.ret,bu.refl E,bt.refl g,S,rfl,h⟩
 | rangeFunc f ps x y ih1 ih2=>intro b s E g w a Q S h;trivial
 | scope c ih=>intro b s E g w a Q S h;trivial
 | label l=>intro b s E g w a Q S h;trivial
 | goto l=>intro b s E g w a Q S h;trivial
 | refuse l=>intro b s E g w a Q S h;trivial
end
def Nb (D:Nat):Deferred:= {target:=.collected D,args:= #[]}
def ak0 (D:Nat):Atom:=obj D (.deferred (some []))
def cX.EK (W:cX) (Ds:List Nat):cX:= {W with ds:=Ds.map Nb++W.ds}
theorem SL.base {W W':cX} (hw:W'.w=W.w) (hg:W'.g=W.g) {g w:World} {l:List Atom} (h:SL W g w l):SL W' g w l:=by
 obtain ⟨h0,h1,h2,h3,h4⟩:=h;refine ⟨h0,?_,⟨h2.uy,?_⟩,?_,h4⟩
 .grind
 .rw [hw,hg];exact h2.agr
 grind
theorem Sat.base {W W':cX} (hw:W'.w=W.w) (hg:W'.g=W.g) {E:Env} {g w:World} {H:List HO} {F:List Atom} (h:Sat W E g w H F):Sat W' E g w H F:=⟨h.sl.base hw hg,h.len⟩
theorem WpW.base {W W':cX} (hw:W'.w=W.w) (hg:W'.g=W.g) {P:Program} {f:FuncId} {args:List SV} {H:List HO} {Q:SV->List HO->Prop} (h:WpW W P f args H Q):WpW W' P f args H Q:=λg w E F vs hs hv=>(h g w E F vs (hs.base hw.symm hg.symm) hv).mono λ_ _ ⟨E1,g1,sv,H1,a1,a2,a3,a4,a5⟩=>⟨E1,g1,sv,H1,a1,a2,a3.base hw hg,a4,a5⟩
theorem js.base {W W':cX} (hw:W'.w=W.w) (hg:W'.g=W.g) {P:Program} {L:List (Nat×Ct)} (h:js W P L):js W' P L:=λp hp args H Q hc=>(h p hp args H Q hc).base hw hg
theorem SL.anS {g:World} {a b:Atom} {A F:List Atom} {W:cX} {w:World} (H:SL W g w (A++a::b::F)):SL W g w (A++F):=((H.cJ λh x=>bh.po x).drop.cJ λh x=>bh.po x).drop
def UM (n:Nat) (W:cX) (F:List Atom) (b:Bs) (E:Env) (g:World) (Q:Ex->Ov->Prop) (e:Exit) (a':Act) (w':World):Prop:=∃ Ds E' g' s' ex,bu E E'/\bt g g'/\dm n (W.EK Ds) (Ds.map ak0++F) b E' g' w' s' a'/\e=ex.out/\Q ex s'
def F6 (sz:Nat):Value->Nat->Nat->Value
 | .slice a _ _,i,k=>jy sz (.slice a (i+k) (i+k)) (i:Int) ((i+k:Nat):Int)
 | v,_,_=>v
def uG:Value->Nat
 | .slice _ n _=>n
 | _=>0
def agm (P:Program) (f:Nat) (e:Ty):Prop:=∀ (l b1 b2:Nat) (v0:Value) (q:Int) (J:Nat->World->Prop) (w:World),1<=q->q<=1000000000->(∃ (p:Option Addr) (n c:Nat),v0= .slice p n c/\n<=1000000000000/\n<=c/\(p=none->n=0))->
 (∀ k w,J k w->w.cell? ⟨b1,0,none⟩=some v0/\w.cell? ⟨b2,0,none⟩=some (.int .i64 q))->(∀ k w,J k w->J k w.drew)->
 (∀ k w,J k w->k*q.toNat< uG v0->YieldAt (Ei none) 0 P l #[F6 e.size v0 (k*q.toNat) (min q.toNat (uG v0 - k*q.toNat))] w λx w'=>x= .returned (.bool true)/\J (k+1) w')->J 0 w->
 CallsIn (Ei none) 1 P f #[.func (.yield l) #[] #[],ptr b1 0,ptr b2 0] w λx w'=>(∃ v,x= .returned v)/\∃ k,J k w'/\uG v0<=k*q.toNat
def xJ (P:Program) (L:List (Nat×Ty)):Prop:=∀ p∈L,agm P p.1 p.2
theorem xJ.nil (P:Program):xJ P []:=λ_ h=>by cases h
section
variable {X:Vx} {n:Nat} {an:EH} {W:cX} {F:List Atom}
theorem GJ:∀ {l:List (Nat×Ty)} {f:Nat} {e:Ty},GK l f=some e->(f,e)∈l
 | (k,v)::s,f,e,h=>by
  unfold GK at h;cases hb:Nat.beq k f with
  | true=>
   rw [hb] at h;obtain rfl:=ai hb;obtain rfl:=aj h;exact aK
  | false=>rw [hb] at h;exact aF _ (GJ h)
theorem ae2 {e:Ty} {g:World} {v:Value} {xs:List e.den} {i k:Nat} (h:oa e g v xs) (hk:i+k<=xs.length):oa e g (F6 e.size v i k) ((xs.drop i).take k):=by
 obtain ⟨a,cp,rfl,h2⟩:=Tv h hk;have h3:=kR (l:=(i:Int)) (h:=((i+k:Nat):Int)) h2 (by omega) (by omega) (by rw [aH];omega);have e1:((xs.take (i+k)).drop (i:Int).toNat).take (((i+k:Nat):Int).toNat - (i:Int).toNat)=(xs.drop i).take k:=by
  grind
 rw [e1] at h3;exact h3
theorem Vd {m:Nat} {t p f:Nat} {ps:Array Tmp} {assign body:Code} (hps:ps.toList= [p]) {e:Ty} (hch:agm X.P f e) (jV:js W X.P X.ct) (hp:gP p n=true) (hf:rj X.P f=true)
  {b:Bs} {s:Ov} {E:Env} {g w:World} {a:Act} {Q:Ov->Prop} {xs:List e.den} {q:Int} {la:xH} (hla:la.jE= []) {b1 b2:Nat} {v0:Value} {t1 t2:TypeId}
  (hg:a.eval (.tmp t)= .func (.func f) #[] #[ptr b1 0,ptr b2 0]) (Aj:oa e g v0 xs)
  (S:dm n W (obj b2 (.cells #[.int .i64 q] t2 (0,0))::obj b1 (.cells #[v0] t1 (0,0))::F) b E g w s a) (h:YH X n an p assign body e xs q la b s Q):
  (Code.rangeFunc (.tmp t) ps assign body).wpIn (Ei none) m X.P (UM n W F b E g λe s'=>match e with| .normal=>Q s'| _=>False) a w:=by
 have hps:ps= #[p]:=by rw [<-Array.toArray_toList (xs:=ps),hps]
 subst hps;have h:=Ov.force_eq h;have h:=Bs.force_eq h;obtain ⟨⟨q1,q2⟩,akc,h⟩:=h;have top:=S.top;have hold:=S.xL [];have Sx:=S.aji [];have hn0:=S.len;generalize Xn:CV la b s=us0 at h;generalize hb1:pU [] b s=bb at h Sx hold;obtain ⟨i0,hL,E0,lE0,S0⟩:=CZ Sx (bu.refl E) hn0 hold (λt ht=>by cases ht) h;obtain ⟨I,μ,hI0,hI⟩:=hL;have hsx:(uH [] b s).f= []:=by unfold uH;simp [iD]
 refine wpIn_rangeFunc ?_;intro fn _;obtain ⟨rec,Qg⟩:∃ rec:LoopState->Option Code->Loop,rec=λst pe=> {state:=st,pending:=pe,fn,tmps:=a.tmps,params:= #[p],assign,body,defers:=w.heap.size}:=⟨_,rfl⟩;have vM:∀ st pe,(rec st pe).state=st:=λ_ _=>by rw [Qg]
 have AJ:∀ st pe,(rec st pe).pending=pe:=λ_ _=>by rw [Qg]
 have agQ:∀ st pe st',{rec st pe with state:=st'}=rec st' pe:=λ_ _ _=>by rw [Qg]
 have aae:∀ st pe st' pe',{rec st pe with state:=st',pending:=pe'}=rec st' pe':=λ_ _ _ _=>by rw [Qg]
 obtain ⟨W1,hW1⟩:∃ W1,(w.alloc (.deferred (some []))).alloc (.loop (rec .ready none))=W1:=⟨_,rfl⟩;obtain ⟨l,hl⟩:∃ l,w.heap.size+1=l:=⟨_,rfl⟩;obtain ⟨FF,hFF⟩:∃ FF,FF=λ(st:LoopState)=>obj l (.loop (rec st none))::obj w.heap.size (.deferred (some []))::obj b2 (.cells #[.int .i64 q] t2 (0,0))::obj b1 (.cells #[v0] t1 (0,0))::F:=⟨_,rfl⟩;have key:∀ {st st':LoopState} {W0:cX} {E':Env} {g' w':World} {H:List HO},Sat W0 E' g' w' H (FF st)->w'.heap[l]?=some (.loop (rec st none))/\Sat W0 E' g' (w'.putObj l (.loop (rec st' none))) H (FF st'):=λ{st st' W0 E' g' w' H} T=>by
  rw [hFF] at T ⊢;have H1:=T.sl.cJ λh x=>bh.po x;have u:qy w' l (.loop (rec st' none)) (w'.putObj l (.loop (rec st' none))):=⟨rfl,(aN.1 H1.EA.2.1).1⟩;exact ⟨H1.EA.2.1,(H1.zR u).cJ λh x=>bh.toEnd x,T.len⟩
 have cellsJ:∀ {st:LoopState} {W0:cX} {E':Env} {g' w':World} {H:List HO},Sat W0 E' g' w' H (FF st)->w'.cell? ⟨b1,0,none⟩=some v0/\w'.cell? ⟨b2,0,none⟩=some (.int .i64 q):=λ{st W0 E' g' w' H} T=>by
  rw [hFF] at T;have H1:=((T.sl.cJ λh x=>bh.po x).drop.cJ λh x=>bh.po x).drop.cJ λh x=>bh.po x;have c2:=H1.EA.2.1;have c1:=(H1.drop.cJ λh x=>bh.po x).EA.2.1;exact ⟨by simp [World.cell?,c1],by simp [World.cell?,c2]⟩
 have S1:Sat W E0 g W1 (bb.heap (lO la us0 s.n i0)) (FF .ready):=by
  rw [hFF];refine ⟨?_,S0.sat.len⟩;have H1:SL W g (w.alloc (.deferred (some []))) (obj w.heap.size (.deferred (some []))::(ba E0 0 (bb.heap (lO la us0 s.n i0))++_)):=S0.sat.sl.new ⟨rfl,rfl⟩;have H2:SL W g W1 (obj l (.loop (rec .ready none))::_):=H1.new ⟨hW1.symm,by rw [<-hl];simp⟩;refine H2.cJ λh x=>?_;obtain ⟨h1,h2,ap,e1,x1,x2⟩:=x;exact bh.toEnd ⟨h1,h2,ap,e1,x1,bh.toEnd x2⟩
 let J:Nat->World->Prop:=λk w'=>∃ i E' g',I (k,i)/\bu E E'/\bt g g'/\dm n W (FF .ready) bb E' g' w' (lO la us0 s.n i) a;have J0:J 0 W1:=⟨i0,E0,g,hI0,lE0,bt.refl g,S0.size,S0.defers,S0.fr,S1,S0.top⟩;obtain ⟨pa,cp,Tx,hcp,hpa,hlen⟩:∃ (pa:Option Addr) (cp:Nat),v0= .slice pa xs.length cp/\xs.length<=cp/\(pa=none->xs.length=0)/\xs.length<=9223372036854775807:=by
  have:=lA Aj;rcases (@dI e.den e.rep g _ _).1 Aj with ⟨rfl,rfl⟩| ⟨ad,cp,rfl,hc,Dh,h3⟩;exact ⟨none,0,rfl,aG _,λ_=>rfl,by simp⟩;exact ⟨some ad,cp,rfl,by omega,(λe=>by cases e),this⟩
 have Eg:uG v0=xs.length:=by rw [Tx];rfl
 have law:=hch l b1 b2 v0 q J W1 q1 q2 ⟨pa,_,cp,Tx,akc,hcp,hpa⟩ (λk w' ⟨i,E',g',_,_,_,S'⟩=>cellsJ S'.sat) (λk w' ⟨i,E',g',x1,x2,x3,S'⟩=>⟨i,E',g',x1,x2,x3,S'.le (Le.drew w')⟩) ?_ J0
 .refine ⟨l,[Nb w.heap.size],W1,{target:=.fn (.func f) #[ptr b1 0,ptr b2 0],args:= #[.func (.yield l) #[] #[]]},W1,f,#[.func (.yield l) #[] #[],ptr b1 0,ptr b2 0],W1,?_,?_,λ_ _=>trivial,?_,λq=>(by cases q),(callsIn_wide (n:=m - 1)).2 ((callsIn_wide (n:=1)).1 (law.mono ?_))⟩
  .rw [<-hW1,Qg,<-hl];exact run_enterLoop_outer _ _ _ _ _
  .simp only [resolve,hg];simp [go_sem]
  .unfold rj at hf;split at hf
   .rename_i fn hfn;simp only [ak,dr] at hf;have h1:¬fn.name= "runtime.NumGoroutine" :=by simpa using hf.1
    have h2:¬fn.body=none:=λe=>by rw [e] at hf;cases hf.2
    simp [invoke,callFunc,hfn,h1,h2,go_sem]
   .cases hf
  .rintro x w2 ⟨⟨v,rfl⟩,k,⟨i,E',g',hi,l1,l2,S'⟩,hk⟩;obtain ⟨hrl,hT⟩:=key (st':=.exhausted) S'.sat
   have ND:=run_endLoop (P:=X.P) hrl (by rw [vM];simp);rw [agQ,AJ] at ND;refine ⟨none,_,ND,?_⟩;rw [Eg] at hk;have hq0:=hI (k,i) hi;have hqq:Q (ph [] s (lO la us0 s.n i)):=by
    have hb:gP (k*q.toNat) xs.length=false:=by
     cases hx:gP (k*q.toNat) xs.length with
     | false=>rfl
     | true=>have:=eX hx;omega
    simp only [hb] at hq0;exact hq0
   clear hq0;have S3:dm n W (obj w.heap.size (.deferred (some []))::F) bb E' g' _ (lO la us0 s.n i) a:=⟨S'.size,S'.defers,S'.fr,⟨by
    rw [hFF] at hT;have H1:=(hT.sl.cJ λh x=>bh.po x).drop;have H2:SL W g' _ ((ba E' 0 (bb.heap (lO la us0 s.n i))++ [obj w.heap.size (.deferred (some []))])++obj b2 (.cells #[.int .i64 q] t2 (0,0))::obj b1 (.cells #[v0] t1 (0,0))::F):=H1.cast (by simp);exact H2.anS.cast (by simp),S'.sat.len⟩,S'.top⟩
   subst hb1;have S4:=S3.out top;exact ⟨[w.heap.size],E',g',_,.normal,l1,l2,⟨S4.size,by show [Nb w.heap.size]++a.defers=_;rw [S4.defers];rfl,S4.fr,Sat.base (W:=W) (W':=W.EK [w.heap.size]) rfl rfl S4.sat,S4.top⟩,rfl,hqq⟩
 .rintro k w' ⟨i,E',g',hi,l1,l2,S'⟩ fD;rw [Eg] at fD ⊢;have hq:=hI (k,i) hi;have hb:gP (k*q.toNat) xs.length=true:=Nat.ble_eq_true_of_le fD;simp only [hb] at hq;obtain ⟨vk,hvk⟩:∃ vk,F6 e.size v0 (k*q.toNat) (min q.toNat (xs.length - k*q.toNat))=vk:=⟨_,rfl⟩;have hd:oa e g' vk ((xs.drop (k*q.toNat)).take q.toNat):=by
   have:=ae2 (i:=k*q.toNat) (k:=min q.toNat (xs.length - k*q.toNat)) Aj (by omega);rw [hvk] at this;have e1:(xs.drop (k*q.toNat)).take (min q.toNat (xs.length - k*q.toNat))=(xs.drop (k*q.toNat)).take q.toNat:=by
    rw [<-aQ,<-o9,eK]
   rw [e1] at this;exact this.mono l2
  obtain ⟨hrl,_⟩:=key (st':=.ready) S'.sat
  have hy:=run_yield (P:=X.P) (args:= #[vk]) hrl (by rw [Qg];rfl);rw [hvk];rw [Qg] at hy;have Sp:=S'.put (d:=some p) (v:=.v (.c (.d e ((xs.drop (k*q.toNat)).take q.toNat)))) (u:=vk) hp hd;have Sr:dm n {W with ds:=[]} (FF .ready) bb E' g' w' ((lO la us0 s.n i).put (some p) (.c (.d e ((xs.drop (k*q.toNat)).take q.toNat)))) {tmps:=a.tmps.setIfInBounds p vk,defers:=[]}:=⟨Sp.size,rfl,Sp.fr,Sat.base (W:=W) (W':= {W with ds:=[]}) rfl rfl Sp.sat,Sp.top⟩;have anF:js {W with ds:=[]} X.P X.ct:=js.base (W:=W) (W':= {W with ds:=[]}) rfl rfl jV;refine ⟨fn,a.tmps.setIfInBounds p vk,assign,body,(by simpa using hy),roundIn_of_wpIn trivial ?_⟩;refine wpIn_mono (BP (ro:=some l) (m:=0) anF assign Sr hq) ?_;rintro ex a1 w1 ⟨E1,g1,s1,x1,m1,m2,T1,rfl,hq1⟩;cases x1 with
  | exit _=>exact hq1.elim
  | ret=>exact hq1.elim
  | normal=>
   obtain ⟨apJ,hT1⟩:=key (st':=.busy) T1.sat
   have anH:=run_beginRound (P:=X.P) apJ (vM _ _);rw [agQ] at anH;refine ⟨_,anH,?_⟩;have T2:dm n {W with ds:=[]} (FF .busy) bb E1 g1 (w1.putObj l (.loop (rec .busy none))) s1 a1:=⟨T1.size,T1.defers,T1.fr,hT1,T1.top⟩;refine wpIn_mono (BP (ro:=some l) (m:=0) anF body T2 hq1) ?_;rintro ex a3 w3 ⟨E3,g3,s3,x3,m3,m4,T3,rfl,hq3⟩;cases x3 with
   | exit _=>exact hq3.elim
   | ret=>exact hq3.elim
   | normal=>
    obtain ⟨apI,hT3⟩:=key (st':=.ready) T3.sat
    have ND:=run_endRound (P:=X.P) none apI;simp only [aae,Option.isNone_none,if_true] at ND;refine ⟨_,_,ND,rfl,?_⟩;have T4:dm n W (FF .ready) bb E3 g3 (w3.putObj l (.loop (rec .ready none))) {s3 with f:=[]} a:=⟨S'.size,S'.defers,λt sv ht=>(Sx.fr t sv (by unfold Bs.slot;rw [hsx];exact ht)).mono ((l1.trans m1).trans m3) ((l2.trans m2).trans m4),Sat.base (W:= {W with ds:=[]}) (W':=W) rfl rfl hT3,T3.top⟩;obtain ⟨i',⟨r9,_⟩,E4,lE4,T5⟩:=CZ T4 ((l1.trans m1).trans m3) hn0 hold (λt ht=>by cases ht) hq3;exact ⟨i',E4,g3,r9,lE4,(l2.trans m2).trans m4,T5⟩
theorem O5 {m:Nat} {t p:Nat} {ps:Array Tmp} {assign body:Code} (hps:ps.toList= [p]) (hch:xJ X.P X.chk) (jV:js W X.P X.ct) {b:Bs} {s:Ov} {E:Env} {g w:World} {a:Act} {Q:Ov->Prop} (S:dm n W F b E g w s a) (h:HU X n an t p assign body b s Q):
  (Code.rangeFunc (.tmp t) ps assign body).wpIn (Ei none) m X.P (UM n W F b E g λe s'=>match e with| .normal=>Q s'| _=>False) a w:=by
 unfold HU at h;split at h
 .rename_i f l1 l2 hv;split at h
  .rename_i e t1 e' xs' t2 q la he ho1 ho2 hl;split at h
   .rename_i xs hx hla;obtain ⟨hc,h⟩:=di h;simp only [ak,dr] at hc;obtain ⟨jb,_,hp,hf⟩:=hc;have jb:l1≠l2:=by grind
    obtain ⟨us,Xn,ha⟩:=S.fr t _ hv;obtain ⟨_,us1,rfl,⟨b1,hE1,rfl⟩,Xn⟩:=Xn;obtain ⟨_,us2,rfl,⟨b2,hE2,rfl⟩,Xn⟩:=Xn;obtain rfl:us2= []:=Xn;obtain ⟨ws1,r1,_,H1⟩:=o6 S hE1 ho1;obtain ⟨v0,ws1',rfl,Tx,hn1⟩:=r1;obtain rfl:ws1'= []:=hn1;have S1:=S.anO hE1 (bt.refl g) H1;have apV:b.obj (s.dU l1 .gone) l2= .cells t2 [.k (.int .i64 q)]:=by simp_all [jq]
    obtain ⟨ws2,r2,_,H2⟩:=o6 S1 hE2 apV;obtain ⟨vq,ws2',rfl,hvq,hn2⟩:=r2;obtain rfl:ws2'= []:=hn2;obtain ⟨rfl,_⟩:vq= .int .i64 q/\True:=⟨hvq.1,trivial⟩;have S2:=S1.anO hE2 (bt.refl g) H2;obtain ⟨qe,Aj⟩:=eB hx;subst qe;subst Aj;exact Vd hps (hch _ (GJ he)) jV hp hf hla ha Tx S2 h
   grind
  grind
 grind
theorem Vc {m:Nat} (hch:xJ X.P X.chk):∀ (c:Code) {W:cX} {F:List Atom} {b:Bs} {s:Ov} {E:Env} {g w:World} {a:Act} {Q:Ex->Ov->Prop},js W X.P X.ct->dm n W F b E g w s a->om X n an c b s Q->c.wpIn (Ei none) m X.P (UM n W F b E g Q) a w:=by
 intro c;have plain:∀ {c:Code} {W:cX} {F:List Atom} {b:Bs} {s:Ov} {E:Env} {g w:World} {a:Act} {Q:Ex->Ov->Prop},js W X.P X.ct->dm n W F b E g w s a->lK X n an c b s Q->c.wpIn (Ei none) m X.P (UM n W F b E g Q) a w:=λjV S h=>wpIn_mono (BP jV _ S h) λe a' w' ⟨E',g',s',ex,l1,l2,S',he,hq⟩=>⟨[],E',g',s',ex,l1,l2,S',he,hq⟩
 induction c with
 | seq x y ihx ihy=>
  intro W F b s E g w a Q jV S h;unfold om at h;split at h;exact plain jV S h
  .dsimp only at h;split at h
   .refine wpIn_seq (wpIn_mono (ihx jV S h) ?_);rintro e a1 w1 ⟨Ds,E1,g1,s1,ex,l1,l2,S1,rfl,hq⟩;cases ex with
    | normal=>
     refine wpIn_mono (ihy (js.base (W:=W) (W':=W.EK Ds) rfl rfl jV) S1 hq) ?_;rintro e a2 w2 ⟨Ds2,E2,g2,s2,ex,m1,m2,S2,he,hq⟩;refine ⟨Ds2++Ds,E2,g2,s2,ex,l1.trans m1,l2.trans m2,?_,he,hq⟩
     grind [cX.EK]
    | exit i=>exact ⟨Ds,E1,g1,s1,.exit i,l1,l2,S1,rfl,hq⟩
    | ret=>exact ⟨Ds,E1,g1,s1,.ret,l1,l2,S1,rfl,hq⟩
   .cases h
 | block id c ih=>
  intro W F b s E g w a Q jV S h;unfold om at h;split at h;exact plain jV S h
  .refine wpIn_block (wpIn_mono (ih jV S h) ?_);rintro e a1 w1 ⟨Ds,E1,g1,s1,ex,l1,l2,S1,rfl,hq⟩;cases ex with
   | normal=>exact ⟨Ds,E1,g1,s1,.normal,l1,l2,S1,rfl,hq⟩
   | exit i=>
    show (if i=id then _ else _)
    simp only at hq;split
    .rename_i e;subst e;rw [if_pos (by simp)] at hq;exact ⟨Ds,E1,g1,s1,.normal,l1,l2,S1,rfl,hq⟩
    .rename_i e;rw [if_neg (by simpa using e)] at hq;exact ⟨Ds,E1,g1,s1,.exit i,l1,l2,S1,rfl,hq⟩
   | ret=>exact ⟨Ds,E1,g1,s1,.ret,l1,l2,S1,rfl,hq⟩
 | rangeFunc f ps x y ih1 ih2=>
  intro W F b s E g w a Q jV S h;unfold om at h;split at h;exact plain jV S h
  .dsimp only at h;split at h
   .rename_i t p hps _;exact wpIn_mono (O5 hps hch jV S h) λe a' w' ⟨Ds,E',g',s',ex,l1,l2,S',he,hq⟩=>by
     cases ex with
     | normal=>exact ⟨Ds,E',g',s',.normal,l1,l2,S',he,hq⟩
     | exit i=>exact hq.elim
     | ret=>exact hq.elim
   .cases h
 | skip=>intro W F b s E g w a Q jV S h;exact plain jV S h
 | region id ops draw=>intro W F b s E g w a Q jV S h;exact plain jV S h
 | exit id=>intro W F b s E g w a Q jV S h;exact plain jV S h
 | ret=>intro W F b s E g w a Q jV S h;exact plain jV S h
 | cond c x y ihx ihy=>
  intro W F b s E g w a Q jV S h;unfold om at h
  grind
 | loop c ih=>
  intro W F b s E g w a Q jV S h;unfold om at h
  grind
 | scope c ih=>
  intro W F b s E g w a Q jV S h;unfold om at h
  grind
 | label l=>intro W F b s E g w a Q jV S h;exact plain jV S h
 | goto l=>intro W F b s E g w a Q jV S h;exact plain jV S h
 | refuse l=>intro W F b s E g w a Q jV S h;exact plain jV S h
theorem wX {P:Program} {fn:Func} {R:Ending->World->Prop} {tmps:Array Value}:∀ (Ds:List Nat) {g w:World} {l:List Atom},SL W g w (Ds.map ak0++l)->
  (∀ w',SL W g w' l->∃ v,(results fn tmps).run P w'= .ok v w'/\R (.returned v) w')->LeavesInM (Ei none) 0 P fn tmps R (Ds.map Nb) .returning w
 | [],g,w,l,H,h=>h w H
 | D::Ds,g,w,l,H,h=>by
  have hD:=H.EA.2.1;refine ⟨by grind,.inl ⟨D,_,rfl,run_takeDeferred hD,?_⟩⟩;have u:qy w D (.deferred none) (w.putObj D (.deferred none)):=⟨rfl,(aN.1 hD).1⟩;exact wX Ds (H.zR u).drop h
end
section
variable {P:Program} {X:Vx} {n:Nat} {W:cX} {F:List Atom} {b:Bs} {E:Env} {g w:World} {s:Ov} {a:Act}
theorem P5 {t:TypeId} {bb:Nat} {off:Nat} {u:Value} (h:(Instr.loadAt t (ptr bb off)).run P w= .ok u w):∃ q,ptr bb off= .pointer (some q)/\(loadVar t q).run P w= .ok u w:=by
 grind [Instr.loadAt, Instr.sureAddr]
def Po (tmps:Array Value):ResultVar->Sem Value
 | .tmp t=>pure (tmps.getD t undef)
 | .cell a t=>do loadVar t (<-asAddr (tmps.getD a undef))
theorem sx (S:dm n W F b E g w s a):∀ {rs:List ResultVar} {l:List S1},lg P b s rs=some l->
  ∃ us,iy E g l us/\(rs.mapM (Po a.tmps)).run P w= .ok us w
 | [],l,h=>by
  obtain rfl: []=l:=aj h;exact ⟨[],rfl,by simp⟩
 | .tmp t::r,l,h=>by
  unfold lg at h;split at h
  .rename_i v hv;split at h
   .rename_i q hq;obtain rfl:v::q=l:=aj h;obtain ⟨us,h1,h2⟩:=sx S hq;refine ⟨_::us,⟨_,us,rfl,S.fr t _ hv,h1⟩,?_⟩;simp [Po,h2]
   .cases h
  .cases h
 | .cell t ty::r,l,h=>by
  unfold lg at h;split at h
  .rename_i lb off hv;split at h
   .rename_i ht cs eE;split at h
    .rename_i v hp;split at h
     .rename_i q hq;obtain rfl:v::q=l:=aj h;obtain ⟨us,h1,h2⟩:=sx S hq;obtain ⟨bb,hE,hx⟩:=S.fr t _ hv;obtain ⟨wa,k1,k2,_⟩:=o6 S hE eE;obtain ⟨u,h3,h4⟩:=C8 k2 k1 hp;obtain ⟨qa,h5,h6⟩:=P5 h3;refine ⟨u::us,⟨u,us,rfl,h4,h1⟩,?_⟩;simp [Po,Sem.run_bind,h2,hx,h5,asAddr,h6]
     .cases h
    .cases h
   .cases h
  .cases h
theorem aeH {l:List S1} {us:List Value} (h:iy E g l us):df E g (pack l) (if h:us.toArray.size=1 then us.toArray[0] else .tuple us.toArray):=by
 unfold pack;split
 .obtain ⟨u,r,rfl,h1,h2⟩:=h;obtain rfl:r= []:=h2;exact h1
 .rename_i h0;have:¬us.toArray.size=1:=λe=>by
   have hl:=h.length;simp at e;rw [e] at hl
   match l,hl,h0 with
   | [v],_,h0=>grind
  rw [dif_neg this];exact ⟨us,h,rfl⟩
theorem Pn (S:dm n W F b E g w s a) {fn:Func} {l:List S1} (h:lg P b s fn.results.toList=some l):∃ v,(results fn a.tmps).run P w= .ok v w/\df E g (pack l) v:=by
 obtain ⟨us,h1,h2⟩:=sx S h;refine ⟨_,?_,aeH h1⟩;have e:results fn a.tmps=(do
   let vs <-fn.results.mapM (Po a.tmps)
   pure (if h:vs.size=1 then vs[0] else .tuple vs)):=by
  rfl
 simp_all [Array.mapM_eq_mapM_toList]
theorem afq (S:dm n W F b E g w s a) {fn:Func} {k:SV->Prop} (h:akl P b s fn.results.toList k):∃ r v,(results fn a.tmps).run P w= .ok v w/\df E g r v/\k r:=by
 have e:results fn a.tmps=(do
   let vs <-fn.results.mapM (Po a.tmps)
   pure (if h:vs.size=1 then vs[0] else .tuple vs)):=by
  rfl
 have xL:∀ {rs:List ResultVar},fn.results.toList=rs->(match lg P b s rs with| some l=>k (pack l)| none=>False)->∃ r v,(results fn a.tmps).run P w= .ok v w/\df E g r v/\k r:=by grind [Pn]
 unfold akl at h;split at h
 .rename_i t hr;split at h
  .rename_i q l hv;refine ⟨.arr q l,a.tmps.getD t undef,?_,S.fr t _ hv,h⟩;simp_all [Array.mapM_eq_mapM_toList, Po]
  grind
 .rename_i t ty hr;split at h
  .rename_i c hv;obtain ⟨u,sv,h1,h2,h3⟩:=yb S (S.fr t _ hv) h;refine ⟨sv,u,?_,h2,h3⟩;obtain ⟨q,hq,h5⟩:∃ q,a.tmps.getD t undef= .pointer (some q)/\(loadVar ty q).run P w= .ok u w:=by
    cases hx:a.tmps.getD t undef with
    | pointer p=>cases p with
     | some q=>simp_all [Instr.loadAt, Instr.sureAddr]
     | none=>simp_all [Instr.loadAt, Instr.sureAddr]
    | _=>simp_all [Instr.loadAt, Instr.sureAddr]
   simp_all [Array.mapM_eq_mapM_toList, Po, asAddr]
  grind
 grind
theorem aeh {E0:Env} {g0:World} {fn:Func} {Q:SV->List HO->Prop} (S:dm n W F b E g w s a) (he:bu E0 E) (m:bt g0 g) {c:Bool} (h:aei P c fn E0.length b s Q):
  ∃ v,(results fn a.tmps).run P w= .ok v w/\∃ E' g' sv H',bu E0 E'/\bt g0 g'/\Sat W E' g' w H' F/\df E' g' sv v/\Q sv H':=by
 unfold aei ags at h;have S:=He c S;generalize Dy c b s=s at h S;obtain ⟨l,v,hr,hv,h⟩:=afq S h;have h:=fA _ h;generalize hrl:(sB (b.obj s) 1000 (l.labels++(bL E0.length).flatMap λi=>(b.obj s i).labels) []).filter (λl=>Nat.ble E0.length l)=rl at h;generalize hls:bL E0.length++rl=ls at h;obtain ⟨hc,h⟩:=di h;rw [ak,jJ] at hc;obtain ⟨hn,fD⟩:=hc;have Di:∀ l∈ls,l< s.n:=λl hl=>by have:=bn.1 fD l hl;simpa using this
 have v7:mH (iG ls) E (ls.map λl=>(E[l]?).getD undef):=λl l' v h1 h2=>by
  have:=oR h1;rw [dq,this];simp [h2]
 have xd:Sat W (ls.map λl=>(E[l]?).getD undef) g w (ls.map λl=>(b.obj s l).fx (iG ls)) F:=by
  refine ⟨S.sat.sl.cJ λh0 x=>?_,by simp⟩;have x1:=bh.qC (ob:=b.obj s) hn (λl hl=>eN (Di l hl)) x;have x2:=bh.YV x1;exact bh.xY v7 (k:=0) (λi l hi=>by rw [gC];exact qm hn hi) x2
 refine ⟨v,hr,_,g,_,_,λk u hk=>?_,m,xd,hv.fx v7,h⟩;have hk0:k< E0.length:=tv hk;have:ls[k]?=some k:=by
  rw [<-hls,bN (by simpa using hk0)];simp [hk0]
 rw [dq,this];simp [he k u hk]
theorem BX:∀ {args:List SV} {k t:Nat} {v:SV},gh (ou k args) t=some v->k<=t/\args[t - k]?=some v
 | [],_,_,_,h=>by cases h
 | x::r,k,t,v,h=>by
  simp only [ou,gh] at h;by_cases e:k=t
  .simp_all
  .rw [jk e] at h;obtain ⟨h1,h2⟩:=BX h
   grind
theorem Gn:∀ {l:List SV} {us:List Value},bm E g l us->us.length=l.length
 | [],_,h=>by rw [show _= [] from h];rfl
 | _::_,_,⟨_,_,e,_,h⟩=>by rw [e,av,av,Gn h]
theorem Gp:∀ {l:List SV} {us:List Value} {i:Nat} {c:SV},bm E g l us->l[i]?=some c->∃ u,us[i]?=some u/\df E g c u
 | [],_,_,_,_,h=>by grind
 | x::l,_,0,c,⟨u,r,e,h1,_⟩,h=>by
  grind
 | x::l,_,i+1,c,⟨u,r,e,_,h2⟩,h=>by
  obtain ⟨v,h3,h4⟩:=Gp (i:=i) h2 (by simpa using h);exact ⟨v,by rw [e];simpa using h3,h4⟩
theorem Wp.S6 {I:cX->Prop} {f:FuncId} {args:List SV} {H:List HO} {Q:SV->List HO->Prop} {sv:SV} (h:∀ (E:Env) (g w:World) (vs:List Value),bt g w->bm E g args vs->HH P f vs.toArray w λv w'=>df E g sv v/\Le w w') (hq:Q sv H):Wp I P f args H Q:=by
 intro W _ g w E F vs hs hv;exact (h E g w vs hs.m hv).mono λv w' ⟨r,l⟩=>⟨E,g,sv,H,bu.refl E,bt.refl g,hs.le l,r,hq⟩
theorem Wp.said {I:cX->Prop} {f:FuncId} {args args':List SV} {H:List HO} {Q:SV->List HO->Prop} (h:∀ (E:Env) (g:World) (us:List Value),bm E g args us->bm E g args' us) (k:Wp I P f args' H Q):Wp I P f args H Q:=λW hW g w E F vs hs hv=>k W hW g w E F vs hs (by grind)
theorem bm.cr {g:World} {c c':SV} {l l':List SV} (h1:∀ u,df E g c u->df E g c' u) (h2:∀ us,bm E g l us->bm E g l' us):∀ us,bm E g (c::l) us->bm E g (c'::l') us:=λ_ ⟨u,r,e,a,b⟩=>⟨u,r,e,h1 u a,h2 r b⟩
theorem Jd {g:World} {e:Ty} {l:List Cl} {x:e.den} (h:e.of l=some (x,[])):∀ u,df E g (.v (.agg l)) u->df E g (.v (.agg (e.cells x))) u:=λu ⟨us,h1,h2⟩=>by
 obtain ⟨u1,u2,e1,h3,h4⟩:=of_cells e h h1;obtain rfl:u2= []:=h4;rw [bd] at e1;subst e1;exact ⟨us,(fz E g e h3).1,h2⟩
theorem dH {g:World} {e:Ty} {c:Cl} {x:List e.den} (h:(Ty.sl e).of [c]=some (x,[])):∀ u,df E g (.v (.c c)) u->df E g (.v (.c (.d e x))) u:=λu r=>by
 have r1:bp E g [c] [u]:=⟨u,[],rfl,r,rfl⟩;obtain ⟨u1,u2,e1,h3,h4⟩:=of_cells (.sl e) h r1;obtain rfl:u2= []:=h4;rw [bd] at e1;subst e1
 assumption
theorem aq {c:Bool} {p q:Prop} (h1:c=true->p) (h2:c=false->q):br c p q:=by
 cases c;exact h2 rfl;exact h1 rfl
theorem Wp.enter {I:cX->Prop} (jV:gO I X.P X.ct) {f:FuncId} {fn:Func} (an:EH) (hf:X.P.funcs[f]?=some fn) {args:List SV} {H:List HO} {Q:SV->List HO->Prop} (h:aeg X an fn args H Q) (hch:xJ X.P X.chk:=by exact xJ.nil _):Wp I X.P f args H Q:=by
 intro W0 hW;replace jV:js {W0 with ds:=[]} X.P X.ct:=js.base (W:=W0) (W':= {W0 with ds:=[]}) rfl rfl (jV.at hW);refine WpW.base (W:= {W0 with ds:=[]}) (W':=W0) rfl rfl ?_;have Wh:({W0 with ds:=[]}:cX).ds= []:=rfl;revert jV Wh;generalize ({W0 with ds:=[]}:cX)=W;intro jV Wh g w E F vs xd Ef;unfold aeg at h;split at h;cases h
 .rename_i c hb;obtain ⟨hl,h⟩:=di h;have Al:vs.length<=fn.ntmps:=by rw [Gn Ef];exact eX hl
  have apT:∀ l,({f:=ou 0 args,h:=H}:Bs).obj {f:=[],h:=[],n:=H.length} l=lr H l:=λl=>rfl;have S:dm fn.ntmps W F {f:=ou 0 args,h:=H} E g w {f:=[],h:=[],n:=H.length} {tmps:=vs.toArray++Array.replicate (fn.ntmps - vs.toArray.size) undef,defers:=[]}:=by
   refine ⟨by simp;omega,Wh.symm,λt v ht=>?_,?_,λl hl=>?_⟩
   .obtain ⟨_,h2⟩:=BX (k:=0) ht;obtain ⟨u,h3,h4⟩:=Gp Ef h2;simp only [Nat.sub_zero] at h3;have h5:t< vs.length:=(aw.1 h3).1;have:(vs.toArray++Array.replicate (fn.ntmps - vs.toArray.size) undef).getD t undef=u:=by
     simp [j6,Array.getElem?_append,h5];rw [ao h5] at h3;exact aj h3
    rw [this];exact h4
   .have:({f:=ou 0 args,h:=H}:Bs).heap {f:=[],h:=[],n:=H.length}=H:=by
     apply List.ext_getElem?
     grind [eN, mu, ef]
    rw [this];exact xd
   .exact nT hl
  have h:=G0 Ef h;refine (callsIn_wide (n:=0)).1 (callsIn_of_wp_marks hf hb trivial (wpIn_mono (Vc (m:=0) hch c jV S h) ?_));rintro e a' w' ⟨Ds,E',g',s',ex,l1,l2,S',rfl,hq⟩;have hlen:E.length=H.length:=xd.len;have fin:∀ {Q':SV->List HO->Prop},aei X.P X.clo fn E.length {f:=ou 0 args,h:=H} s' Q'->LeavesInM (Ei none) 0 X.P fn a'.tmps (λe w1=>∃ v,e= .returned v/\∃ E1 g1 sv H1,bu E E1/\bt g g1/\Sat W E1 g1 w1 H1 F/\df E1 g1 sv v/\Q' sv H1) a'.defers .returning w':=λ{Q'} hq=>by
   have hd:a'.defers=Ds.map Nb:=by rw [S'.defers];unfold cX.EK;simp [Wh]
   rw [hd];have H0:SL W g' w' (Ds.map ak0++(ba E' 0 (Bs.heap {f:=ou 0 args,h:=H} s')++F)):=(SL.base (W:=W.EK Ds) (W':=W) rfl rfl S'.sat.sl).cJ λh x=>bh.comm x;refine wX Ds H0 λw1 H1=>?_;have S1:dm fn.ntmps W F {f:=ou 0 args,h:=H} E' g' w1 s' {a' with defers:=W.ds}:=⟨S'.size,rfl,S'.fr,⟨H1,S'.sat.len⟩,S'.top⟩;obtain ⟨v,hr,hv⟩:=aeh S1 l1 l2 hq;exact ⟨v,hr,v,rfl,hv⟩
  cases ex with
  | normal=>
   rw [<-hlen] at hq;exact fin hq
  | exit i=>exact hq.elim
  | ret=>
   rw [<-hlen] at hq;exact fin hq
theorem Wp.JL {I:cX->Prop} (jV:gO I X.P X.ct) {f:FuncId} {fn:Func} (an:EH) (hf:X.P.funcs[f]?=some fn) {args:List SV} {H:List HO} {Q:SV->List HO->Prop} {V:(SV->List HO->Prop)->Prop} (e:∀ Q,aeg X an fn args H Q=V Q) (h:V Q) (hch:xJ X.P X.chk:=by exact xJ.nil _):Wp I X.P f args H Q:=by grind [Wp.enter]
end
def gW (x a b:Int):Bool:=decide (a<=x)&& decide (x<=b)
def Tb (s:ByteArray):Int:=Lib.indexByte s.data.toList 0
def oH (s:ByteArray) (m:Int):Bool:=gW (s.size:Int) 1 m&& decide (Tb s< 0)
theorem jP (s:ByteArray):s.size=s.data.toList.length:=by
 rfl
theorem Jy (l:List UInt8) (c:UInt8): -1<=Lib.indexByte l c/\Lib.indexByte l c< max 1 (l.length:Int):=by
 induction l with
 | nil=>grind [Lib.indexByte]
 | cons b r ih=>
  unfold Lib.indexByte;by_cases hb:(b==c)=true
  .grind
  .grind [Lib.indexByte]
def vF (s:ByteArray) (k:Nat):Bool:=(s.data.toList.drop k).any (· ==0)
theorem VP {s:ByteArray} {k:Int} (h0:0<=k) (h1:k< s.size):vF s k.toNat=(((jj s k).toNat:Int)==0|| vF s (k+1).toNat):=by
 have fD:k.toNat< s.data.toList.length:=by simp_all
 unfold vF;rw [bO fD,List.any_cons,show k.toNat+1=(k+1).toNat by omega];have e:s.data.toList[k.toNat]=jj s k:=by
  grind [jj, ByteArray.getElem_eq_getElem_data]
 congr 1;rw [Bool.eq_iff_iff];simp only [beq_iff_eq];constructor
 .simp_all
 .intro h;exact UInt8.toNat_inj.1 (by grind)
theorem ZF {s:ByteArray} {k:Int} (h:¬k< s.size) (h0:0<=k):vF s k.toNat=false:=by
 grind [vF, eL, jP]
abbrev uD:=ByteArray×List UInt8×Unit
def leB (a b:ByteArray):Bool:=rG a b|| kT a b
def vX (x:uD) (last:ByteArray):Bool:= !oH x.1 40|| leB x.1 last|| decide ((x.2.1.length:Int)>200)
def fH:List uD->ByteArray->Bool
 | [],_=>true
 | x::r,last=>if vX x last then false else fH r x.1
def dF (l:List uD):Bool:=fH l ⟨#[]⟩&& decide ((l.length:Int)<=8)
theorem dc {e:Ty} {l:List e.den} {k:Int} (h0:0<=k) (h1:k< l.length):l.drop k.toNat=aB e l k::l.drop (k+1).toNat:=by
 grind [bO, aB]
theorem dj {α:Type} {l:List α} {k:Int} (h:¬k< l.length):l.drop k.toNat= []:=eL (by omega)
theorem Bd (a b:UInt8) (x y:List UInt8):Op.bytesLess (a::x) (b::y)=(decide (a< b)|| (a==b&& Op.bytesLess x y)):=rfl
theorem QX:∀ x:List UInt8,Op.bytesLess x x=false
 | []=>rfl
 | a::x=>by rw [Bd,QX x];simp
theorem ai1 (a b:UInt8):a< b\/a=b\/b< a:=by
 grind
theorem QW:∀ x y:List UInt8,Op.bytesLess x y=true\/x=y\/Op.bytesLess y x=true
 | [],[]=>.inr (.inl rfl)
 | [],_::_=>.inl rfl
 | _::_,[]=>.inr (.inr rfl)
 | a::x,b::y=>by
  rw [Bd,Bd];rcases ai1 a b with h| h| h;exact .inl (by simp [h])
  .subst h;rcases QW x y with k| k| k
   .exact .inl (by simp [k])
   .exact .inr (.inl (by rw [k]))
   .exact .inr (.inr (by simp [k]))
  .exact .inr (.inr (by simp [h]))
theorem DR:∀ {x y z:List UInt8},Op.bytesLess x y=true->Op.bytesLess y z=true->Op.bytesLess x z=true
 | _,[],_,h,_=>by grind [Op.bytesLess]
 | _,_::_,[],_,k=>by trivial
 | [],_::_,_::_,_,_=>rfl
 | a::x,b::y,c::z,h,k=>by
  rw [Bd] at*;simp only [lR,ak,decide_eq_true_eq,beq_iff_eq] at*;rcases h with h| ⟨rfl,h⟩
  .grind
  .rcases k with k| ⟨rfl,k⟩
   .grind
   .exact .inr ⟨rfl,DR h k⟩
theorem DS {x y:List UInt8} (h:Op.bytesLess x y=true):Op.bytesLess y x=false:=by
 grind [DR, QX]
theorem Js (a b:ByteArray):leB a b= !rG b a:=by
 grind [leB, rG, kT, QW, DS]
theorem ajz {a:ByteArray} (h:1<=(a.size:Int)):rG ⟨#[]⟩ a=true:=by
 unfold rG;have h0:(⟨#[]⟩:ByteArray).toList= []:=by simp
 rw [h0];rw [jP] at h;rw [Lib.toList_data];cases h2:a.data.toList with
 | nil=>grind
 | cons x r=>rfl
theorem ud:∀ l:List UInt8,decide (Lib.indexByte l 0< 0)= !l.any (· ==0)
 | []=>rfl
 | b::r=>by
  have ih:=ud r;have ge:=Lib.indexByte_ge r 0;unfold Lib.indexByte;by_cases hb:b=0;subst hb;simp
  .have h1:(b==0)=false:=by simpa using hb
   simp only [dS,if_false,List.any_cons,h1,eZ];rw [<-ih];by_cases hm:Lib.indexByte r 0= -1;simp [hm]
   .have:(Lib.indexByte r 0== -1)=false:=by simpa using hm
    simp only [this,dS,if_false];have h2:¬Lib.indexByte r 0< 0:=by omega
    have h3:¬Lib.indexByte r 0+1< 0:=by omega
    simp [h2,h3]
theorem Ta (s:ByteArray):decide (Tb s< 0)= !vF s 0:=by
 grind [Tb, vF, ud]
theorem abH (x:uD) (last:ByteArray):vX x last=(decide ((x.1.size:Int)< 1)|| decide ((x.1.size:Int)>40)|| vF x.1 0|| decide ((x.2.1.length:Int)>200)|| !rG last x.1):=by
 grind [vX, oH, gW, Ta, Js]
def tb (l:List uD) (k:Int):ByteArray:=if k>0 then (@List.getD uD l (k - 1).toNat (⟨#[]⟩,[],())).1 else ⟨#[]⟩
def noB (s:ByteArray):Bool:=kT s ⟨#[]⟩
def AG (m u g:Int):Bool:=gW m 0 511&& gW u 0 65535&& gW g 0 65535
def gr (x:aZ):Bool:=
 if x.2.2.1=1 then ((x.2.2.2.2.1.length:Int)==0)&& noB x.2.2.2.2.2.1&& !x.2.2.2.2.2.2.2.1&& AG x.2.2.2.1.1 x.2.2.2.1.2.1 x.2.2.2.1.2.2.1&& dF x.2.2.2.2.2.2.1
 else if x.2.2.1=2 then decide ((x.2.2.2.2.1.length:Int)<=4096)&& noB x.2.2.2.2.2.1&& !x.2.2.2.2.2.2.2.1&& AG x.2.2.2.1.1 x.2.2.2.1.2.1 x.2.2.2.1.2.2.1&& dF x.2.2.2.2.2.2.1
 else if x.2.2.1=3 then ((x.2.2.2.2.1.length:Int)==0)&& oH x.2.2.2.2.2.1 200&& !x.2.2.2.2.2.2.2.1&& AG x.2.2.2.1.1 x.2.2.2.1.2.1 x.2.2.2.1.2.2.1&& dF x.2.2.2.2.2.2.1
 else false
def kj {α:Type} (p:α->Bool):List α->Int->Int
 | [],_=> -1
 | x::r,k=>if p x then k else kj p r (k+1)
theorem Nt {α:Type} {p:α->Bool}:∀ {l:List α} {k:Int},0<=k->decide (kj p l k≥0)=l.any p
 | [],_,_=>rfl
 | x::r,k,h=>by
  unfold kj;rw [List.any_cons];cases hp:p x with
  | true=>simp [h]
  | false=>simpa using Nt (l:=r) (p:=p) (k:=k+1) (by omega)
def ak1 (x:aZ):Bool:=x.2.2.1==4&& (!(x.2.2.2.1.1==0&& (x.2.2.2.1.2.1==0&& x.2.2.2.1.2.2.1==0))|| decide ((x.2.2.2.2.1.length:Int)>0)|| !kT x.2.2.2.2.2.1 ⟨#[]⟩|| decide ((x.2.2.2.2.2.2.1.length:Int)>0)|| x.2.2.2.2.2.2.2.1)
def P0 (x:aZ):Bool:=if x.2.2.1=4 then !ak1 x else gr (x.1,x.2.1,x.2.2.1,x.2.2.2.1,x.2.2.2.2.1,x.2.2.2.2.2.1,x.2.2.2.2.2.2.1,(if x.2.2.1=1 then false else x.2.2.2.2.2.2.2.1),())
def Pp (x:aZ):Bool:=
 if decide (x.2.2.1< 1)|| (decide (x.2.2.1>3)|| x.2.2.2.2.2.2.2.1) then false
 else if decide (x.2.2.2.1.1< 0)|| (decide (x.2.2.2.1.1>511)|| (decide (x.2.2.2.1.2.1< 0)|| (decide (x.2.2.2.1.2.1>65535)|| (decide (x.2.2.2.1.2.2.1< 0)|| decide (x.2.2.2.1.2.2.1>65535))))) then false
 else if (x.2.2.1 !=2&& decide ((x.2.2.2.2.1.length:Int)>0))|| decide ((x.2.2.2.2.1.length:Int)>4096) then false
 else if (x.2.2.1 !=3&& !kT x.2.2.2.2.2.1 ⟨#[]⟩)|| (x.2.2.1==3&& (kT x.2.2.2.2.2.1 ⟨#[]⟩|| (decide ((x.2.2.2.2.2.1.size:Int)>200)|| vF x.2.2.2.2.2.1 0))) then false
 else dF x.2.2.2.2.2.2.1
theorem ZH (s:ByteArray):kT s ⟨#[]⟩= !decide (1<=(s.size:Int)):=by
 unfold kT;have h1:(⟨#[]⟩:ByteArray).toList= []:=by simp
 rw [h1,Lib.toList_data,jP];cases s.data.toList with
 | nil=>rfl
 | cons x r=>
  grind
theorem ZP (m u g:Int):AG m u g= !(decide (m< 0)|| (decide (m>511)|| (decide (u< 0)|| (decide (u>65535)|| (decide (g< 0)|| decide (g>65535)))))):=by
 grind [AG, gW]
theorem VG (x:aZ):Pp x=gr x:=by
 grind [Pp, gr, noB, oH, Ta, ZH, ZP, gW, dF]
def TQ (x:aZ):aZ:=(x.1.take 18,x.2.1,x.2.2.1,x.2.2.2.1,x.2.2.2.2.1.take 1500,x.2.2.2.2.2.1,x.2.2.2.2.2.2.1.take 10,x.2.2.2.2.2.2.2.1,())
theorem mq {e:Ty} {l:List e.den} {k:Int} (h0:0<=k) (h1:k< l.length):l.take (k+1).toNat=l.take k.toNat++ [aB e l k]:=by
 have fD:k.toNat< l.length:=by omega
 rw [show (k+1).toNat=k.toNat+1 by omega,List.take_add_one,ao fD]
 grind [aB]
def kq (s:ByteArray) (k:Nat):Bool:=(s.data.toList.drop k).any λb=>b==0|| b==47
theorem Up {b:UInt8} {n:Nat} (h:n< 256):(b==az n)=((b.toNat:Int)==(n:Int)):=by
 rw [Bool.eq_iff_iff]
 grind [UInt8.toNat_ofNat_of_lt', UInt8.toNat_inj]
theorem drop_byte {s:ByteArray} {k:Int} (h0:0<=k) (h1:k< s.size):s.data.toList.drop k.toNat=jj s k::s.data.toList.drop (k+1).toNat:=by
 grind [jP, bO, jj, ByteArray.getElem_eq_getElem_data]
theorem Mf {s:ByteArray} {k:Int} (h0:0<=k) (h1:k< s.size):kq s k.toNat=(((jj s k).toNat:Int)==0|| (((jj s k).toNat:Int)==47|| kq s (k+1).toNat)):=by
 unfold kq;rw [drop_byte h0 h1,List.any_cons,show (0:UInt8)=az 0 from rfl,show (47:UInt8)=az 47 from rfl,Up (n:=0) (by omega),Up (n:=47) (by omega),Bool.or_assoc];rfl
theorem Pa {s:ByteArray} {k:Int} (h:¬k< s.size) (h0:0<=k):kq s k.toNat=false:=by
 grind [kq, eL, jP]
def TM (s:ByteArray):Bool:=kT s ⟨#[]⟩|| (kT s ⟨#[46]⟩|| kT s ⟨#[46,46]⟩)
def dh (s:ByteArray):Int:=if (s.size:Int)>255 then 23 else if kq s 0|| TM s then 22 else 0
def fZ:List ByteArray->List ByteArray->Bool
 | [],[]=>true
 | x::a,y::b=>kT x y&& fZ a b
 | _,_=>false
theorem xZ:∀ {a b:List ByteArray},a.length≠b.length->fZ a b=false
 | [],[],h=>absurd rfl h
 | _::a,_::b,h=>by
  unfold fZ;rw [xZ (a:=a) (b:=b) (by simpa using h),Bool.and_false]
 | [],_::_,_=>rfl
 | _::_,[],_=>rfl
theorem GR {α:Type} {p:α->Bool}:∀ {l:List α} {k:Int},(kj p l k= -1/\l.find? p=none)\/∃ j:Nat,kj p l k=k+j/\j< l.length/\l.find? p=l[j]?
 | [],_=>.inl ⟨rfl,rfl⟩
 | x::r,k=>by
  unfold kj;rw [List.find?_cons];cases hp:p x with
  | true=>exact .inr ⟨0,by simp,by simp,rfl⟩
  | false=>
   simp only [dS,if_false];rcases GR (l:=r) (p:=p) (k:=k+1) with ⟨h1,h2⟩| ⟨j,h1,h2,h3⟩
   .grind
   .exact .inr ⟨j+1,by omega,by grind,by grind⟩
def kG (names:List ByteArray) (x:aZ):Bool:=fZ x.1 names
def lz (l:List aZ) (names:List ByteArray):Bool:=match l.find? (kG names) with
 | some x=>x.2.2.1==1
 | none=>false
theorem SU {k:Kk} {α:Type} {l:List (k.den×α)} {x:k.den} {v:α}:(k.put l x v).length<=l.length+1:=by
 grind [Kk.put, qX, pf]
section
variable {P:Program} {I:cX->Prop} {f:FuncId} {args:List SV} {H:List HO} {Q Q':SV->List HO->Prop} {W:cX} {E:Env} {g w:World} {F:List Atom}
theorem Wp.fin (h:Wp I P f args H Q') (k:∀ (W:cX) (E:Env) (g w:World) (F:List Atom) (H':List HO) (sv:SV),Sat W E g w H' F->Q' sv H'->∃ g' H'',bt g g'/\Sat W E g' w H'' F/\Q sv H''):Wp I P f args H Q:=λW hW g w E F vs hs hv=>
 (h W hW g w E F vs hs hv).mono λv w' ⟨E1,g1,sv,H1,e1,m1,s1,r1,q1⟩=>by
  obtain ⟨g2,H2,m2,s2,q2⟩:=k W E1 g1 w' F H1 sv s1 q1;exact ⟨E1,g2,sv,H2,e1,m1.trans m2,s2,r1.mono (bu.refl _) m2,q2⟩
theorem Wp.mono (h:Wp I P f args H Q') (k:∀ sv H',Q' sv H'->Q sv H'):Wp I P f args H Q:=
 h.fin (by grind [bt.refl])
theorem Wp.beg {H0:List HO} (h:∀ (W:cX) (E:Env) (g w:World) (F:List Atom),Sat W E g w H0 F->∃ E' H1,bu E E'/\Sat W E' g w H1 F/\Wp I P f args H1 Q):Wp I P f args H0 Q:=λW hW g w E F vs hs hv=>by
 obtain ⟨E1,H1,e1,s1,k⟩:=h W E g w F hs;have hv1:bm E1 g args vs:=by
  have key:∀ {l:List SV} {us:List Value},bm E g l us->bm E1 g l us:=by
   intro l
   induction l with
   | nil=>intro us h;exact h
   | cons c l ih=>
    rintro us ⟨u,r,e,h1,h2⟩;exact ⟨u,r,e,h1.mono e1 (bt.refl g),ih h2⟩
  grind
 exact (k W hW g w E1 F vs s1 hv1).mono λv w' ⟨E2,g2,sv,H2,e2,m2,q⟩=>⟨E2,g2,sv,H2,e1.trans e2,m2,q⟩
theorem Wp.sel (h:Wp I P f args H λsv H'=>∃ ls:List Nat,ls.take H.length=bL H.length/\ls.Nodup/\(∀ l∈ls,l< H'.length)/\Q (sv.fx (iG ls)) (ls.map λl=>(lr H' l).fx (iG ls))):Wp I P f args H Q:=λW hW g w E F vs hs hv=>
 (h W hW g w E F vs hs hv).mono λv w' ⟨E1,g1,sv,H1,e1,m1,s1,r1,ls,h1,hn,fD,q⟩=>by
  have v7:mH (iG ls) E1 (ls.map λl=>(E1[l]?).getD undef):=λl l' v h1 h2=>by
   have:=oR h1
   grind
  have xd:Sat W (ls.map λl=>(E1[l]?).getD undef) g1 w' (ls.map λl=>(lr H1 l).fx (iG ls)) F:=by
   refine ⟨s1.sl.cJ λh0 x=>?_,by simp⟩;have x1:=bh.qC (ob:=lr H1) hn (λl hl=>by
    have Al:=fD l hl;rw [ao Al,mu (ao Al)]) x
   have x2:=bh.YV x1;exact bh.xY v7 (k:=0) (λi l hi=>by grind [qm]) x2
  refine ⟨_,g1,_,_,λk u hk=>?_,m1,xd,r1.fx v7,q⟩;have hk0:k< H.length:=by
   have:=(aw.1 hk).1;rw [hs.len] at this;omega
  have:ls[k]?=some k:=by
   have h2:(ls.take H.length)[k]?=some k:=by grind
   grind
  rw [dq,this];simp [e1 k u hk]
theorem Wp.yR {t:TypeId} {e:Ty} (h:Wp I P f args H λsv H'=>Q sv H'\/(sv= .c (.k (.slice none 0 0))/\Q (.c (.o H'.length)) (H'++ [.sl t e []]))):Wp I P f args H Q:=λW hW g w E F vs hs hv=>
 (h W hW g w E F vs hs hv).mono λv w' ⟨E1,g1,sv,H1,e1,m1,s1,r1,q⟩=>by
  rcases q with q| ⟨rfl,q⟩
  .grind
  .have Tx:v= .slice none 0 0:=r1.1;subst Tx;letI:=e.rep;have H2:=SL.zU e.den t s1.sl;refine ⟨E1++ [.slice none 0 0],g1,.c (.o H1.length),H1++ [.sl t e []],e1.trans (bu.app _ _),m1,Sat.push (o:=.sl t e []) (v:=.slice none 0 0) s1.len (H2.cJ λ_ ⟨k1,k2,ap,q,x1,x2⟩=>⟨k1,k2,ap,q,⟨_,by rw [<-s1.len];simp,x1⟩,x2⟩),⟨by rw [<-s1.len];simp,none,0,0,rfl⟩,q⟩
theorem Wp.aeJ {t:TypeId} {e:Ty} (h:Wp I P f args H λsv H'=>Q sv H'\/∃ x:Int,sv= .cH [.c (.k (.slice none 0 0)),.c (.k (.int .i64 x))]/\Q (.cH [.c (.o H'.length),.c (.k (.int .i64 x))]) (H'++ [.sl t e []])):Wp I P f args H Q:=λW hW g w E F vs hs hv=>
 (h W hW g w E F vs hs hv).mono λv w' ⟨E1,g1,sv,H1,e1,m1,s1,r1,q⟩=>by
  rcases q with q| ⟨x,rfl,q⟩
  .grind
  .obtain ⟨us,⟨u1,us1,rfl,⟨hu1,_⟩,u2,us2,rfl,hu2,ae9⟩,rfl⟩:=r1;obtain rfl:us2= []:=ae9;subst hu1;letI:=e.rep;have H2:=SL.zU e.den t s1.sl;refine ⟨E1++ [.slice none 0 0],g1,.cH [.c (.o H1.length),.c (.k (.int .i64 x))],H1++ [.sl t e []],e1.trans (bu.app _ _),m1,Sat.push (o:=.sl t e []) (v:=.slice none 0 0) s1.len (H2.cJ λ_ ⟨k1,k2,ap,q,x1,x2⟩=>⟨k1,k2,ap,q,⟨_,by rw [<-s1.len];simp,x1⟩,x2⟩),⟨_,⟨_,_,rfl,⟨by rw [<-s1.len];simp,none,0,0,rfl⟩,_,_,rfl,hu2,rfl⟩,rfl⟩,q⟩
end
abbrev AtD:=Int×Int×Int×Unit
abbrev XeD:=ByteArray×Int×Int×Unit
abbrev apd:Ty:=.pair .str (.pair (.int .i64) (.pair (.int .i64) .unit))
theorem gD {a b:ByteArray}:kT a b=true↔a=b:=by
 unfold kT;rw [beq_iff_eq,Lib.toList_data,Lib.toList_data];constructor
 .obtain ⟨x⟩:=a;simp_all
 grind
def aZ.xX (n:aZ) (a:AtD):aZ:=(n.1,n.2.1,n.2.2.1,a,n.2.2.2.2)
def aZ.ajg (n:aZ) (x:List uD):aZ:=(n.1,n.2.1,n.2.2.1,n.2.2.2.1,n.2.2.2.2.1,n.2.2.2.2.2.1,x,n.2.2.2.2.2.2.2)
def aZ.dU (n:aZ) (q:Bool):aZ:=(n.1,n.2.1,n.2.2.1,n.2.2.2.1,n.2.2.2.2.1,n.2.2.2.2.2.1,n.2.2.2.2.2.2.1,q,())
def pT (L:List aZ) (r:Int) (f:aZ->aZ):List aZ:=L.map λn=>bif vZ r n then f n else n
def wU (x:aZ):Bool:=if x.2.2.1=4 then !ak1 (x.dU false) else gr (x.dU false)
def aeT (a:AtD):Bool:=AG a.1 a.2.1 a.2.2.1
namespace UpY
variable (Y:UpY)
def lC (r:Int):Int:=match Y.at r with
 | none=>1
 | some n=>if n.2.2.1=1 then 0 else 24
def atE (r:Int):Int:=match Y.at r with
 | none=>1
 | some _=>0
def kindOf (r:Int):Int:=match Y.at r with
 | none=>0
 | some n=>n.2.2.1
def mz (d:Int) (s:ByteArray):Int:=if Y.lC d=0 then (match Y.k8 d s with
 | none=>20
 | some _=>0) else Y.lC d
def Ti (d:Int) (s:ByteArray):XeD:=if Y.lC d=0 then (match Y.k8 d s with
 | none=>(⟨#[]⟩,0,0,())
 | some e=>(s,Y.kindOf e.2.2.1,e.2.2.1,())) else (⟨#[]⟩,0,0,())
def rk (d:Int) (s:ByteArray):Int:=if Y.lC d=0 then (if dh s=0 then (match Y.k8 d s with
 | none=>0
 | some _=>21) else dh s) else Y.lC d
def B8 (r:Int) (a:AtD):Int:=match Y.at r with
 | none=>1
 | some n=>if n.2.2.1=4\/aeT a=false then 1 else 0
def gQ (r:Int) (a:AtD):UpY:=if Y.B8 r a=0 then {Y with L:=pT Y.L r (·.xX a)} else Y
def vb (r:Int) (x:List uD):Int:=match Y.at r with
 | none=>1
 | some n=>if n.2.2.1=4\/dF x=false then 1 else 0
def fw (r:Int) (x:List uD):UpY:=if Y.vb r x=0 then {Y with L:=pT Y.L r (·.ajg x)} else Y
def gm (r:Int) (q:Bool):UpY:=if Y.lC r=0 then {Y with L:=pT Y.L r (·.dU q)} else Y
def Nc (d:Int) (s:ByteArray) (n:aZ):Int:=if Y.rk d s=0 then (if wU n then 0 else 1) else Y.rk d s
def Th (d:Int) (s:ByteArray) (n:aZ):Int:=if Y.Nc d s n=0 then Y.nx else 0
def qZ (n:aZ):aZ:=([],Y.nx,n.2.2.1,n.2.2.2.1,n.2.2.2.2.1,n.2.2.2.2.2.1,n.2.2.2.2.2.2.1,false,())
def oL (d:Int) (s:ByteArray) (n:aZ):UpY:=if Y.Nc d s n=0 then {Y with L:=Y.L++ [Y.qZ n],E:=Y.E++ [(d,s,Y.nx,())],nx:=Y.nx+1} else Y
def Nj (d:Int) (s:ByteArray) (r:Int):Int:=match Y.at r,Y.at d with
 | some n,some _=>if Y.rk d s=0 then (if n.2.2.1=1 then 25 else 0) else Y.rk d s
 | _,_=>1
def rS (d:Int) (s:ByteArray) (r:Int):UpY:=if Y.Nj d s r=0 then {Y with E:=Y.E++ [(d,s,r,())]} else Y
end UpY
structure UpY.Wf (Y:UpY):Prop where
 nd:(Y.L.map (·.2.1)).Nodup
 lo:∀ n∈Y.L,1<=n.2.1/\n.2.1< Y.nx
 root:Y.lC 1=0
 nm:∀ n∈Y.L,n.1= []/\((n.2.2.1=1\/n.2.2.2.2.2.2.2.1=false)/\wU n=true)
 ne:(Y.E.map λe=>(e.1,e.2.1)).Nodup
 dir:∀ e∈Y.E,Y.lC e.1=0/\dh e.2.1=0
 ref:∀ e∈Y.E,e.2.2.1≠1/\Y.atE e.2.2.1=0
 has:∀ n∈Y.L,n.2.1≠1->Y.E.any (toR n.2.1)=true
 one:∀ e∈Y.E,Y.lC e.2.2.1=0->Y.E.countP (toR e.2.2.1)=1
 dep:∃ d:Int->Nat,∀ e∈Y.E,Y.lC e.2.2.1=0->d e.1< d e.2.2.1
section
variable {L:List (Int×rZ)} {Y:UpY}
theorem at_mem {r:Int} {y:aZ} (h:Y.at r=some y):y∈Y.L/\y.2.1=r:=by
 grind [UpY.at, vZ]
theorem agc {r:Int}:Y.at r=none↔∀ n∈Y.L,n.2.1≠r:=by
 grind [UpY.at, vZ]
theorem TJ {d:Int} {s:ByteArray} {e:UJ} (h:Y.k8 d s=some e):e∈Y.E/\e.1=d/\e.2.1=s:=by
 grind [UpY.k8, isE]
theorem xk {d:Int} {s:ByteArray}:Y.k8 d s=none↔∀ e∈Y.E,¬(e.1=d/\e.2.1=s):=by
 grind [UpY.k8, isE]
theorem iU {r:Int}:Y.lC r=0↔∃ y,Y.at r=some y/\y.2.2.1=1:=by
 grind [UpY.lC]
end
end Go.Lm

namespace Go.Lm
open Go Go.RowKit
def aaO (r:Int):Int:=dg .xor .u32 (kW .u32 r 1) (IntKind.wrap .u32 (dg .and .u32 r 1*3988292384))
def xo:Nat->Int->Int
 | 0,r=>r
 | n+1,r=>aaO (xo n r)
def Ha (i:Nat):Int:=xo 8 (IntKind.wrap .u32 i)
def dB:List Int:=(bL 256).map Ha
def rq (N n:Nat):List Int:=(bL N).map λj=>if j< n then Ha j else 0
theorem NX (N:Nat):au N (0:Int)=rq N 0:=by
 unfold rq;refine List.ext_getElem (by simp) (by grind)
theorem NY {N n:Nat} (_:n< N):(rq N n).set n (Ha n)=rq N (n+1):=by
 unfold rq;refine List.ext_getElem (by simp) λj h1 h2=>?_
 grind
theorem NZ (N:Nat):rq N N=(bL N).map Ha:=by
 simp_all [rq]
def xn (n:Nat):List Int:=rq 256 n
theorem QE:au 256 (0:Int)=xn 0:=NX 256
theorem G9 (n:Nat):(xn n).length=256:=by unfold xn rq;rw [bR,List.length_range]
theorem QF {n:Nat} (h:n< 256):(xn n).set n (Ha n)=xn (n+1):=NY h
theorem QG:xn 256=dB:=NZ 256
def afw (T:List Int) (r:Int) (c:UInt8):Int:=dg .xor .u32 (kW .u32 r 8) (T.getD (dg .xor .u8 (IntKind.wrap .u8 r) (c.toNat:Int)).toNat 0)
def aaN (T:List Int) (r:Int) (b:List UInt8):Int:=b.foldl (afw T) r
def JO (r:Int):Int:=dg .xor .u32 (mJ .u32) r
def cv (T:List Int) (s:Int) (b:List UInt8):Int:=JO (aaN T (JO s) b)
def nz (c e:Int):Int:=if c=0 then e else c
def bK:List UInt8->Int
 | []=>0
 | c::r=>(c.toNat:Int)+256*bK r
def aI:Nat->Nat->List UInt8
 | 0,_=>[]
 | n+1,x=>az (x % 256)::aI n (x / 256)
theorem C9:∀ l:List UInt8,0<=bK l
 | []=>bB _
 | c::r=>by
  have:=C9 r;show 0<=(c.toNat:Int)+256*bK r;omega
theorem ZV:∀ l:List UInt8,bK l< 256 ^ l.length
 | []=>by show (0:Int)< 256 ^ 0;omega
 | c::r=>by
  have h1:=ZV r;have h2:c.toNat< 256:=UInt8.toNat_lt c;show (c.toNat:Int)+256*bK r< 256 ^ (r.length+1);omega
theorem Tk:∀ (l:List UInt8) (c:UInt8),bK (l++ [c])=bK l+(c.toNat:Int)*256 ^ l.length
 | [],c=>by show (c.toNat:Int)+256*0=0+(c.toNat:Int)*256 ^ 0;omega
 | d::r,c=>by
  show (d.toNat:Int)+256*bK (r++ [c])=(d.toNat:Int)+256*bK r+(c.toNat:Int)*256 ^ (r.length+1);rw [Tk r c,Int.pow_succ,Int.mul_add,Int.add_assoc];rw [Int.mul_comm (256 ^ r.length) 256,<-Int.mul_assoc,<-Int.mul_assoc,Int.mul_comm 256 (c.toNat:Int)]
theorem wrap64 {z:Int} (h0:0<=z) (h1:z< 9223372036854775808):IntKind.wrap .i64 z=z:=by grind [wrap64_in]
theorem Zw {x:Int} {i:Int} {c:UInt8} (hi:0<=i) (Wg:i<=3) (h0:0<=x) (hx:x< 256 ^ i.toNat):dg .or .i64 x (AA .i64 (c.toNat:Int) (8*i))=x+(c.toNat:Int)*256 ^ i.toNat:=by
 have hc:c.toNat< 256:=UInt8.toNat_lt c;obtain ⟨x,rfl⟩:=od h0;obtain ⟨j,rfl⟩:=od hi;have hj:j<=3:=by omega
 have OT:x< 256 ^ j:=by grind
 have key:∀ k:Nat,k=8*j->2 ^ k=256 ^ j:=by grind [Nat.pow_mul]
 have hp:(256:Nat) ^ j<=16777216:=Nat.le_trans (Nat.pow_le_pow_right (by omega) hj) (by decide);have hcp:c.toNat*256 ^ j<=255*16777216:=Nat.mul_le_mul (by omega) hp;have hs:AA .i64 (c.toNat:Int) (8*(j:Int))=((c.toNat*256 ^ j:Nat):Int):=by
  unfold AA;have e1:min (8*(j:Int)).toNat IntKind.i64.bits=8*j:=by
   show min (8*(j:Int)).toNat 64=8*j;omega
  grind [wrap64]
 unfold dg;have e3:(BitVec.ofInt IntKind.i64.bits (x:Int)||| BitVec.ofInt IntKind.i64.bits ((c.toNat*256 ^ j:Nat):Int)).toNat=x||| (c.toNat*256 ^ j):=by
  have b1:(BitVec.ofInt IntKind.i64.bits (x:Int)).toNat=x:=by
   exact Nat.mod_eq_of_lt (by show x< 2 ^ 64;omega)
  have b2:(BitVec.ofInt IntKind.i64.bits ((c.toNat*256 ^ j:Nat):Int)).toNat=c.toNat*256 ^ j:=by
   rw [BitVec.ofInt_natCast,BitVec.toNat_ofNat];exact Nat.mod_eq_of_lt (by show c.toNat*256 ^ j< 2 ^ 64;omega)
  grind
 have e4:x||| (c.toNat*256 ^ j)=x+c.toNat*256 ^ j:=by
  have h9:=Nat.shiftLeft_add_eq_or_of_lt (b:=x) (i:=8*j) (by rw [key _ rfl];exact OT) c.toNat
  simp_all [Nat.shiftLeft_eq, Nat.or_comm, Nat.add_comm]
 grind [wrap64]
theorem aE:∀ n x:Nat,(aI n x).length=n
 | 0,_=>rfl
 | n+1,x=>by show (aI n (x / 256)).length+1=n+1;rw [aE n]
theorem GM:∀ n x:Nat,aI (n+1) x=aI n x++ [az (x / 256 ^ n % 256)]
 | 0,x=>by show [az (x % 256)]= [az (x / 256 ^ 0 % 256)];grind
 | n+1,x=>by
  show az (x % 256)::aI (n+1) (x / 256)=az (x % 256)::(aI n (x / 256)++_);rw [GM n (x / 256),Nat.div_div_eq_div_mul,Nat.pow_succ,Nat.mul_comm 256]
theorem Da:∀ n x:Nat,x< 256 ^ n->bK (aI n x)=x
 | 0,x,h=>by
  have:x=0:=by simpa using h
  subst this;rfl
 | n+1,x,h=>by
  show ((az (x % 256)).toNat:Int)+256*bK (aI n (x / 256))=x;rw [Da n (x / 256) (by omega),UInt8.toNat_ofNat',Nat.mod_eq_of_lt (by omega)];omega
theorem fdiv_pow (m j:Nat):Int.fdiv (m:Int) (2 ^ (8*j))=((m / 256 ^ j:Nat):Int):=by
 have e:(2:Int) ^ (8*j)=((256 ^ j:Nat):Int):=by
  rw [show (256:Nat) ^ j=2 ^ (8*j) by rw [Nat.pow_mul],Int.natCast_pow];rfl
 grind
theorem af8 {m:Int} {i:Int} (hm:0<=m) (hi:0<=i) (Wg:i<=3):az (IntKind.wrap .u8 (kW .i64 m (8*i))).toNat=az (m.toNat / 256 ^ i.toNat % 256):=by
 obtain ⟨m,rfl⟩:=od hm;obtain ⟨j,rfl⟩:=od hi;have e1:kW .i64 (m:Int) (8*(j:Int))=((m / 256 ^ j:Nat):Int):=by
  unfold kW;have e0:min (8*(j:Int)).toNat IntKind.i64.bits=8*j:=by
   show min (8*(j:Int)).toNat 64=8*j;omega
  grind [fdiv_pow]
 rw [e1];rfl
theorem YT {m n:Int} (hm:0<=m) (hn:1<=n) (hn4:n<=4) (h:m< 256 ^ n.toNat):kW .i64 m (8*n)=0:=by
 obtain ⟨m,rfl⟩:=od hm;obtain ⟨j,rfl⟩:=od (show 0<=n by omega);unfold kW;have e0:min (8*(j:Int)).toNat IntKind.i64.bits=8*j:=by
  show min (8*(j:Int)).toNat 64=8*j;omega
 rw [e0,fdiv_pow m j];have h':m< 256 ^ j:=by grind
 grind [Nat.div_eq_of_lt]
def jF (b:List UInt8) (n:Int):List UInt8:=if n>(b.length:Int) then [] else b.take n.toNat
def Kj (b:List UInt8) (n:Int):Int:=if n>(b.length:Int) then 2 else 0
def lU (b:List UInt8) (n:Int):List UInt8:=if n>(b.length:Int) then b else b.drop n.toNat
def ael (l:Nat) (d:Cl):Cl->Cl
 | .o k=>bif Nat.beq k l then d else .o k
 | c=>c
def Sz (l:Nat) (d:Cl):List Cl->List Cl
 | []=>[]
 | c::r=>ael l d c::Sz l d r
def ai7 (l:Nat) (d:Cl):S1->S1
 | .c x=>.c (ael l d x)
 | .agg cs=>.agg (Sz l d cs)
def YO (l:Nat) (d:Cl):List S1->List S1
 | []=>[]
 | c::r=>ai7 l d c::YO l d r
def ai6 (l:Nat) (d:Cl):SV->SV
 | .v x=>.v (ai7 l d x)
 | .cH xs=>.cH (YO l d xs)
 | .any=>.any
 | .arr k l=>.arr k l
section
variable {E:Env} {g:World} {l:Nat} {d:Cl}
theorem fa {c c':Cl} {r r':List Cl} {us:List Value} (h1:∀ u,cq E g c u->cq E g c' u) (h2:∀ us,bp E g r us->bp E g r' us) (h:bp E g (c::r) us):bp E g (c'::r') us:=by
 obtain ⟨u,q,e,a,b⟩:=h;exact ⟨u,q,e,h1 u a,h2 q b⟩
theorem MG (hd:∀ u,E[l]?=some u->cq E g d u) {c:Cl} {u:Value} (h:cq E g c u):cq E g (ael l d c) u:=by
 unfold ael;split
 .rename_i k;cases hb:Nat.beq k l with
  | true=>
   rw [ai hb] at h;exact hd u h.1
  | false=>exact h
 omega
theorem ye (hd:∀ u,E[l]?=some u->cq E g d u):∀ {cs:List Cl} {us:List Value},bp E g cs us->bp E g (Sz l d cs) us
 | [],_,h=>h
 | _::_,_,⟨u,r,e,h1,h2⟩=>⟨u,r,e,MG hd h1,ye hd h2⟩
theorem MF (hd:∀ u,E[l]?=some u->cq E g d u):∀ {x:S1} {u:Value},gv E g x u->gv E g (ai7 l d x) u
 | .c _,_,h=>MG hd h
 | .agg _,_,⟨us,h1,h2⟩=>⟨us,ye hd h1,h2⟩
theorem Gr (hd:∀ u,E[l]?=some u->cq E g d u):∀ {cs:List S1} {us:List Value},iy E g cs us->iy E g (YO l d cs) us
 | [],_,h=>h
 | _::_,_,⟨u,r,e,h1,h2⟩=>⟨u,r,e,MF hd h1,Gr hd h2⟩
theorem MD (hd:∀ u,E[l]?=some u->cq E g d u):∀ {x:SV} {u:Value},df E g x u->df E g (ai6 l d x) u
 | .v _,_,h=>MF hd h
 | .cH _,_,⟨us,h1,h2⟩=>⟨us,Gr hd h1,h2⟩
 | .any,_,h=>h
 | .arr _ _,_,h=>h
end
theorem oz {E:Env} {g:World} {e:Ty} {u:Value} (h:cq E g (.k (.slice none 0 0)) u):cq E g (.d e []) u:=by
 have hu:u= .slice none 0 0:=h.1;subst hu;letI:=e.rep;exact (dI (α:=e.den)).2 (.inl ⟨rfl,rfl⟩)
theorem yd {cs wa:List Cl} {c:S1} (h:∀ E g us,bp E g cs us->bp E g wa us):∀ E g v,df E g (.cH [.agg cs,c]) v->df E g (.cH [.agg wa,c]) v:=by
 rintro E g v ⟨us,⟨u,q,e,⟨ws,h1,e2⟩,h2⟩,e3⟩;exact ⟨us,⟨u,q,e,⟨ws,h E g ws h1,e2⟩,h2⟩,e3⟩
section
variable {P:Program} {I:cX->Prop} {f:FuncId} {args:List SV} {H:List HO} {Q Q':SV->List HO->Prop}
theorem Wp.res (h:Wp I P f args H λsv H'=>∃ OP,(∀ E g v,df E g sv v->df E g OP v)/\Q OP H'):Wp I P f args H Q:=λW hW g w E F vs hs hv=>
 (h W hW g w E F vs hs hv).mono (by grind)
end
section
variable {P:Program} {I:cX->Prop} {f:FuncId} {args:List SV} {H:List HO} {Q Q':SV->List HO->Prop} {W:cX} {E:Env} {g w:World} {F:List Atom}
theorem Wp.xt {p:Nat} {t tt:TypeId} {e:Ty} (h:Wp I P f args H λsv H'=>∃ cs1 cs2,H'[p]?=some (.cells t (cs1++ .k (.slice none 0 0)::cs2))/\Q sv ((H'.set p (.cells t (cs1++ .o H'.length::cs2)))++ [.sl tt e []])):Wp I P f args H Q:=λW hW g w E F vs hs hv=>
 (h W hW g w E F vs hs hv).mono λv w' ⟨E1,g1,sv,H1,e1,m1,s1,r1,cs1,cs2,hp,hq⟩=>by
  have JB:=(aw.1 hp).1;letI:=e.rep;have H2:=SL.zU e.den tt s1.sl;have hlen:E1.length=H1.length:=s1.len;have he:bu E1 (E1++ [Value.slice none 0 0]):=bu.app _ _;have S1:Sat W (E1++ [Value.slice none 0 0]) g1 w' (H1++ [.sl tt e []]) F:=Sat.push (o:=.sl tt e []) hlen (H2.cJ λ_ ⟨k1,k2,ap,q,x1,x2⟩=>⟨k1,k2,ap,q,⟨_,by rw [<-hlen];simp,x1⟩,x2⟩);refine ⟨E1++ [.slice none 0 0],g1,sv,_,e1.trans he,m1,⟨?_,by simp [hlen]⟩,r1.mono he (bt.refl _),hq⟩;have hp':(H1++ [HO.sl tt e []])[p]?=some (.cells t (cs1++ .k (.slice none 0 0)::cs2)):=by grind
  refine S1.sl.cJ λk s=>?_;obtain ⟨k1,k2,ap,e2,⟨bb,us,hE,hrel,hblk⟩,s2⟩:=bh.sk hp' s;obtain ⟨u1,u2,rfl,h1,⟨_,r,rfl,⟨rfl,_⟩,h3⟩⟩:=bp.split hrel;have hn:(E1++ [Value.slice none 0 0])[H1.length]?=some (.slice none 0 0):=by rw [<-hlen];simp
  have s3:bh g1 (cM (E1++ [Value.slice none 0 0]) p (.cells t (cs1++ .o H1.length::cs2))::(ba (E1++ [Value.slice none 0 0]) 0 ((H1++ [HO.sl tt e []]).set p .gone)++F)) k:=⟨k1,k2,ap,e2,⟨bb,_,hE,h1.app ⟨_,r,rfl,⟨hn,none,0,0,rfl⟩,h3⟩,hblk⟩,s2⟩;have s4:=bh.En (l:=p) (by simp;omega) s3;simp_all
end
theorem M7:∀ {H:List HO} {n l:Nat} {o:HO},l< n->lr (H.set n o) l=lr H l
 | [],_,_,_,_=>rfl
 | _::_,0,_,_,h=>by omega
 | _::_,_+1,0,_,_=>rfl
 | _::r,n+1,l+1,o,h=>M7 (H:=r) (by omega)
theorem ajn (n m:Nat) (h:m<=n):(bL n).take m=bL m:=by
 grind
section
variable {P:Program} {I:cX->Prop} {f:FuncId} {args:List SV} {H:List HO} {Q Q':SV->List HO->Prop}
abbrev LX (n:Nat) (H:List HO):List HO:=(bL n).map λl=>(lr H l).fx (iG (bL n))
theorem YX {W:cX} {E:Env} {g w:World} {F:List Atom} {n:Nat} (s:Sat W E g w H F) (hn:n<=H.length):Sat W ((bL n).map λl=>(E[l]?).getD undef) g w (LX n H) F:=by
 have v7:mH (iG (bL n)) E ((bL n).map λl=>(E[l]?).getD undef):=λl l' v h1 h2=>by
  have:=oR h1
  grind
 refine ⟨s.sl.cJ λh0 x=>?_,by simp⟩;have x1:=bh.qC (ob:=lr H) (ls:=bL n) List.nodup_range (λl hl=>by
  have Al:l< H.length:=by have:=dJ.1 hl;omega
  rw [ao Al,mu (ao Al)]) x
 have x2:=bh.YV x1;exact bh.xY v7 (k:=0) (λi l hi=>by grind [qm]) x2
theorem Wp.amS (h:Wp I P f args H λsv H'=>Q sv H'\/(∃ OP,(∀ E g v,df E g sv v->df E g OP v)/\Q OP H')\/∃ (n:Nat) (t:TypeId) (e:Ty) (xs:List e.den) (OP:SV),H.length<=n/\H'[n]?=some (.sl t e xs)/\(∀ E g v,(∀ u,E[n]?=some u->cq [] g (.d e xs) u)->df E g sv v->df [] g OP v)/\Q OP (LX n H')):Wp I P f args H Q:=λW hW g w E F vs hs hv=>
 (h W hW g w E F vs hs hv).mono λv w' ⟨E1,g1,sv,H1,e1,m1,s1,r1,q⟩=>by
  rcases q with q| ⟨OP,k,q⟩| ⟨n,t,e,xs,OP,hn,hl,k,q⟩;exact ⟨E1,g1,sv,H1,e1,m1,s1,r1,q⟩;exact ⟨E1,g1,OP,H1,e1,m1,s1,k _ _ _ r1,q⟩
  .have fD:=(aw.1 hl).1;obtain ⟨u,hE⟩:∃ u,E1[n]?=some u:=⟨E1[n]'(by rw [s1.len];exact fD),ao _⟩;letI:=e.rep;have H2:SL W g1 w' (pF e t u xs::dM (ba E1 0 H1++F) n):=(s1.pick hl).cJ λk ⟨h1,h2,ap,q,⟨u',x1,x2⟩,x3⟩=>⟨h1,h2,ap,q,by
    rw [hE] at x1;obtain rfl:=aj x1;exact x2,x3⟩
   obtain ⟨g2,m2,H3,hi⟩:=SL.qE (α:=e.den) H2;have S3:Sat W E1 g2 w' (H1.set n .gone) F:=Sat.back .gone s1.len hl (H3.cJ λk s2=>⟨λ_=>none,k,λ_=>.inl rfl,rfl,trivial,s2⟩);have S4:=YX (n:=n) S3 (by rw [jd];omega);have e4:LX n (H1.set n .gone)=LX n H1:=jv λl hl=>by rw [M7 (dJ.1 hl)]
   rw [e4] at S4;refine ⟨_,g2,OP,_,λk u hk=>?_,m1.trans m2,S4,(k E1 g2 _ (λu' hu=>by
    rw [hE] at hu;obtain rfl:=aj hu;exact hi) (r1.mono (bu.refl _) m2)).mono (λ_ _ h=>by simp at h) (bt.refl _),q⟩
   have hk0:k< H.length:=by
    have:=(aw.1 hk).1;rw [hs.len] at this;exact this
   rw [dq,List.getElem?_range (by omega)];simp [e1 k u hk]
theorem Wp.Jc {e:Ty} (h:Wp I P f args H λsv H'=>Q sv H'\/(sv= .c (.k (.slice none 0 0))/\Q (.c (.d e [])) H')\/∃ (n:Nat) (t:TypeId) (xs:List e.den),sv= .c (.o n)/\H.length<=n/\H'[n]?=some (.sl t e xs)/\Q (.c (.d e xs)) (LX n H')):Wp I P f args H Q:=
 Wp.amS (h.mono λsv H' q=>by
  rcases q with q| ⟨rfl,q⟩| ⟨n,t,xs,rfl,h1,h2,q⟩
  .grind
  .exact .inr (.inl ⟨.c (.d e []),λE g v h=>(oz h:cq E g (.d e []) v),q⟩)
  .exact .inr (.inr ⟨n,t,e,xs,.c (.d e xs),h1,h2,λE g v hu hr=>hu v (show cq E g (.o n) v from hr).1,q⟩))
theorem Gq {E E':Env} {g:World} {a b a' b':S1} (h1:∀ u,gv E g a u->gv E' g a' u) (h2:∀ u,gv E g b u->gv E' g b' u):∀ v,df E g (.cH [a,b]) v->df E' g (.cH [a',b']) v:=by
 rintro v ⟨us,⟨u,q,rfl,x1,⟨u2,q2,rfl,x2,x3⟩⟩,rfl⟩;exact ⟨_,⟨u,_,rfl,h1 u x1,u2,q2,rfl,h2 u2 x2,x3⟩,rfl⟩
theorem Wp.agD {e:Ty} (h:Wp I P f args H λsv H'=>Q sv H'\/(∃ x,sv= .cH [.c (.k (.slice none 0 0)),.c (.k x)]/\Q (.cH [.c (.d e []),.c (.k x)]) H')\/∃ (n:Nat) (t:TypeId) (xs:List e.den) (x:Value),sv= .cH [.c (.o n),.c (.k x)]/\H.length<=n/\H'[n]?=some (.sl t e xs)/\Q (.cH [.c (.d e xs),.c (.k x)]) (LX n H')):Wp I P f args H Q:=
 Wp.amS (h.mono λsv H' q=>by
  rcases q with q| ⟨x,rfl,q⟩| ⟨n,t,xs,x,rfl,h1,h2,q⟩
  .grind
  .exact .inr (.inl ⟨.cH [.c (.d e []),.c (.k x)],λE g=>Gq (λu h=>(oz h:cq E g (.d e []) u)) λ_ h=>h,q⟩)
  .exact .inr (.inr ⟨n,t,e,xs,.cH [.c (.d e xs),.c (.k x)],h1,h2,λE g v hu=>Gq (E:=E) (E':=[]) (g:=g) (a:=.c (.o n)) (a':=.c (.d e xs)) (b:=.c (.k x)) (b':=.c (.k x)) (λu hr=>hu u (show cq E g (.o n) u from hr).1) (λ_ h=>h) v,q⟩))
theorem Wp.abG {p:Nat} {t tt:TypeId} {e:Ty} {cs1 cs2:List Cl} (hp:H[p]?=some (.cells t (cs1++ .k (.slice none 0 0)::cs2))) (h:Wp I P f args ((H.set p (.cells t (cs1++ .o H.length::cs2)))++ [.sl tt e []]) Q):Wp I P f args H Q:=Wp.beg λW E1 g1 w' F s1=>by
 have JB:=(aw.1 hp).1;letI:=e.rep;have H2:=SL.zU e.den tt s1.sl;have hlen:E1.length=H.length:=s1.len;have he:bu E1 (E1++ [Value.slice none 0 0]):=bu.app _ _;have S1:Sat W (E1++ [Value.slice none 0 0]) g1 w' (H++ [.sl tt e []]) F:=Sat.push (o:=.sl tt e []) hlen (H2.cJ λ_ ⟨k1,k2,ap,q,x1,x2⟩=>⟨k1,k2,ap,q,⟨_,by grind,x1⟩,x2⟩);refine ⟨E1++ [.slice none 0 0],_,he,⟨?_,by grind⟩,h⟩;have hp':(H++ [HO.sl tt e []])[p]?=some (.cells t (cs1++ .k (.slice none 0 0)::cs2)):=by grind
 refine S1.sl.cJ λk s=>?_;obtain ⟨k1,k2,ap,e2,⟨bb,us,hE,hrel,hblk⟩,s2⟩:=bh.sk hp' s;obtain ⟨u1,u2,rfl,h1,⟨_,r,rfl,⟨rfl,_⟩,h3⟩⟩:=bp.split hrel;have hn:(E1++ [Value.slice none 0 0])[H.length]?=some (.slice none 0 0):=by grind
 have s3:bh g1 (cM (E1++ [Value.slice none 0 0]) p (.cells t (cs1++ .o H.length::cs2))::(ba (E1++ [Value.slice none 0 0]) 0 ((H++ [HO.sl tt e []]).set p .gone)++F)) k:=⟨k1,k2,ap,e2,⟨bb,_,hE,h1.app ⟨_,r,rfl,⟨hn,none,0,0,rfl⟩,h3⟩,hblk⟩,s2⟩;have s4:=bh.En (l:=p) (by simp;omega) s3;simp_all
end
end Go.Lm

namespace Go.Proofs
open Go Go.Lm Go.RowKit
set_option maxRecDepth 1000000
abbrev Inv (_:cX):Prop:=True
def ft:List (Nat×Ty):=[(38,noTy),(96,cZ),(9,.str),(5,.u8),(44,apd),(3,.int .i64),(35,.sl .u8),(107,.int .u32)]
abbrev cu (f:FuncId) (c:Ct):Prop:=∀ args H Q,c args H Q->Wp Inv bQ f args H Q
abbrev agi (l:List SV->List SV):Prop:=∀ (E:Env) (g:World) (a b:List SV),(∀ us,bm E g a us->bm E g b us)->∀ us,bm E g (l a) us->bm E g (l b) us
theorem agi.cons {l:List SV->List SV} (h:agi l) (x:SV):agi (λr=>l (x::r)):=λE g _ _ q=>h E g _ _ (bm.cr (by grind) q)
def OJ (f:FuncId) (l:List SV->List SV) (c:Ct):Prop:=agi l->∀ args H Q,c args H Q->Wp Inv bQ f (l args) H Q
theorem eQ {f:FuncId} {c:Ct} (h:OJ f (λr=>r) c):cu f c:=h (by grind)
def cI (k:Int->Ct):Ct
 | .v (.c (.k (.int .i64 x)))::r,H,Q=>k x r H Q
 | _,_,_=>False
theorem nG {f:FuncId} {l:List SV->List SV} {k:Int->Ct} (h:∀ x:Int,OJ f (λr=>l (.v (.c (.k (.int .i64 x)))::r)) (k x)):OJ f l (cI k):=λhl args H Q q=>by
 unfold cI at q;split at q;exact h _ (hl.cons _) _ _ _ q
 grind
def cB (k:Int->Ct):Ct
 | .v (.c (.k (.int .u8 x)))::r,H,Q=>k x r H Q
 | _,_,_=>False
theorem okB {f:FuncId} {l:List SV->List SV} {k:Int->Ct} (h:∀ x:Int,OJ f (λr=>l (.v (.c (.k (.int .u8 x)))::r)) (k x)):OJ f l (cB k):=λhl args H Q q=>by
 unfold cB at q;split at q;exact h _ (hl.cons _) _ _ _ q
 grind
def cS (k:ByteArray->Ct):Ct
 | .v (.c (.k (.string x)))::r,H,Q=>k x r H Q
 | _,_,_=>False
theorem ZA {f:FuncId} {l:List SV->List SV} {k:ByteArray->Ct} (h:∀ x:ByteArray,OJ f (λr=>l (.v (.c (.k (.string x)))::r)) (k x)):OJ f l (cS k):=λhl args H Q q=>by
 unfold cS at q;split at q;exact h _ (hl.cons _) _ _ _ q
 grind
def cT (k:List Int->Ct):Ct
 | .v (.c (.de (.int .u32) x 0 0))::r,H,Q=>k x r H Q
 | _,_,_=>False
theorem okT {f:FuncId} {l:List SV->List SV} {k:List Int->Ct} (h:∀ x:List Int,OJ f (λr=>l (.v (.c (.de (.int .u32) x 0 0))::r)) (k x)):OJ f l (cT k):=λhl args H Q q=>by
 unfold cT at q;split at q;exact h _ (hl.cons _) _ _ _ q
 grind
def cP (k:Ct):Ct
 | .v (.c (.p 0 0))::r,H,Q=>k r H Q
 | _,_,_=>False
theorem r5 {f:FuncId} {l:List SV->List SV} {k:Ct} (h:OJ f (λr=>l (.v (.c (.p 0 0))::r)) k):OJ f l (cP k):=λhl args H Q q=>by
 unfold cP at q;split at q;exact h (hl.cons _) _ _ _ q
 grind
def cD (e:Ty) (k:List e.den->Ct):Ct
 | .v (.c c)::r,H,Q=>match (Ty.sl e).of [c] with
  | some (x,[])=>k x r H Q
  | _=>False
 | _,_,_=>False
theorem jm {f:FuncId} {l:List SV->List SV} {e:Ty} {k:List e.den->Ct} (h:∀ x,OJ f (λr=>l (.c (.d e x)::r)) (k x)):OJ f l (cD e k):=λhl args H Q q=>by
 unfold cD at q;split at q;rotate_left
 .grind
 split at q;rotate_left
 .grind
 exact Wp.said (by grind [bm.cr, dH]) (h _ (hl.cons _) _ _ _ q)
def cN (e:Ty) (k:e.den->Ct):Ct
 | .v (.agg c)::r,H,Q=>match e.of c with
  | some (x,[])=>k x r H Q
  | _=>False
 | _,_,_=>False
theorem PT {f:FuncId} {l:List SV->List SV} {e:Ty} {k:e.den->Ct} (h:∀ x,OJ f (λr=>l (.v (.agg (Ty.cells e x))::r)) (k x)):OJ f l (cN e k):=λhl args H Q q=>by
 unfold cN at q;split at q;rotate_left
 .grind
 split at q;rotate_left
 .grind
 exact Wp.said (by grind [bm.cr, Jd]) (h _ (hl.cons _) _ _ _ q)
def c0 (k:(SV->List HO->Prop)->Prop):Ct
 | [],[],Q=>k Q
 | _,_,_=>False
theorem gM {f:FuncId} {l:List SV->List SV} {k:(SV->List HO->Prop)->Prop} (h:∀ Q,k Q->Wp Inv bQ f (l []) [] Q):OJ f l (c0 k):=λhl args H Q q=>by
 unfold c0 at q
 grind
def cO (k:List HO->(SV->List HO->Prop)->Prop):Ct
 | [],H,Q=>k H Q
 | _,_,_=>False
theorem r6 {f:FuncId} {l:List SV->List SV} {k:List HO->(SV->List HO->Prop)->Prop} (h:∀ H Q,k H Q->Wp Inv bQ f (l []) H Q):OJ f l (cO k):=λhl args H Q q=>by
 unfold cO at q
 grind
def abr:Ct:=c0 λQ=>Q (.arr .u32 dB) []
abbrev dx:=(SV->List HO->Prop)->Prop
structure XP where
 ct:List (Nat×Ct)
 ok:gO Inv bQ ct
def XP.nil:XP:=⟨[],gO.nil _ _⟩
def XP.add (x:XP) {f:FuncId} {c:Ct} (w:cu f c):XP:=⟨(f,c)::x.ct,gO.cons w x.ok⟩
abbrev XP.v (x:XP) (ty:List (Nat×Ty)) (hold:List Nat:=[]) (ro:List Nat:=[]) (unr:List (Nat×Nat):=[]) (clo:Bool:=false) (cloH:Bool:=false) (pmT:List (Nat×Nat×Ty):=[]) (chk:List (Nat×Ty):=[]) (sfh:Bool:=false) (mkd:Bool:=false):Vx:= {P:=bQ,ct:=x.ct,ty:=ty,hold:=hold,ro:=ro,unr:=unr,clo:=clo,cloH:=cloH,pmT:=pmT,chk:=chk,sfh:=sfh,mkd:=mkd}
theorem Wp.dC (x:XP) (ty:List (Nat×Ty)) {f:FuncId} (an:EH) (fn:Func) {args:List SV} {H:List HO} {Q:SV->List HO->Prop} (V:dx) (h:V Q) (hold:List Nat:=[]) (ro:List Nat:=[]) (unr:List (Nat×Nat):=[]) (clo:Bool:=false) (cloH:Bool:=false) (pmT:List (Nat×Nat×Ty):=[]) (sfh:Bool:=false) (mkd:Bool:=false) (hf:Tryz.prog.funcs[f]?=some fn:=by kernel_rfl) (e:∀ Q,aeg (x.v ty hold ro unr clo cloH pmT [] sfh mkd) an fn args H Q=V Q:=by intro _;kernel_rfl):Wp Inv bQ f args H Q:=Wp.JL (X:=x.v ty hold ro unr clo cloH pmT [] sfh mkd) x.ok an hf e h
def gJ:=XP.nil
abbrev aU (y0:Int):=ax y0
abbrev dQ (y0:List Int) (R:Prop):=List.length y0=bI/\R
abbrev cF (y0:Int) (R:Prop):=aD .i64 (y0+1)/\R
abbrev IF (y0):=IntKind.wrap .u32 (dg BinOp.and .u32 y0 aV*3988292384)
abbrev bj (R:Prop):=ah=ah/\R
abbrev oB:=(↑bI:Int)
def FN:dx:=
 λQ=>aM (λi ag=>br (decide (i.1.1< 256)) (aD .u32 (IntKind.wrap .u32 i.1.1)->aM (λbE ag_1=>br (decide (bE.1.2.1< 8)) (ah<=aV/\(aD .u32 (kW .u32 bE.1.1 aV)->aD .u32 (dg BinOp.and .u32 bE.1.1 
 aV)->aD .u32 (IF bE.1.1)->aD .u32 (dg BinOp.xor .u32 (kW .u32 bE.1.1 aV) (IF bE.1.1))->cF bE.1.2.1 (ag_1 ((dg BinOp.xor .u32 (kW .u32 bE.1.1 aV) (IF bE.1.1),bE.1.2.1+1,()),())))) (bj (0 
 <=i.1.1/\i.1.1< oB/\i.1.1< (aS i.2.1)/\0<=i.1.1/\i.1.1< (aS i.2.1)/\cF i.1.1 (ag ((i.1.1+1,()),List.set i.2.1 (aU i.1.1) bE.1.1,()))))) ((IntKind.wrap .u32 i.1.1,ah,()),())) (bj (dQ i.2.1 (bj 
 (bI=bI/\dQ i.2.1 (bj (dQ i.2.1 (Q (SV.arr .u32 i.2.1) [])))))))) ((ah,()),au bI (0:Ty.den (.int .u32)),())
theorem Bl:cu 46 abr:=eQ<| gM λQ h=>by
 refine Wp.dC gJ ft ⟨[(4,⟨[(4,.int .i64)],[(1,.sl 109 (.int .u32))]⟩),(8,⟨[(3,.int .u32),(9,.int .i64)],[]⟩)],[]⟩ Tryz.f46 FN ?_;unfold FN oB bj IF cF dQ aU ah aV aS bI;refine aM.intro (λi=>0<=i.1.1/\i.1.1<=256/\i.2.1=xn i.1.1.toNat) (λi=>256 - i.1.1.toNat) ⟨by simp,by simp,QE⟩ ?_;rintro ⟨⟨i,_⟩,L,_⟩ ⟨h0,h1,h2⟩;simp only at h0 h1 h2 ⊢;subst h2;refine aq (λhc=>λ_=>?_) (λhc=>?_)
 .have hc:i< 256:=of_decide_eq_true hc;refine aM.intro (λj=>0<=j.1.2.1/\j.1.2.1<=8/\j.1.1=xo j.1.2.1.toNat (IntKind.wrap .u32 i)) (λj=>8 - j.1.2.1.toNat) ⟨by simp,by simp,rfl⟩ ?_;rintro ⟨⟨r,k,_⟩,_⟩ ⟨g0,g1,g2⟩;simp only at g0 g1 g2 ⊢;subst g2;refine aq (λhd=>⟨by omega,λ_ _ _ _=>⟨by unfold aD;have hd:k< 8:=of_decide_eq_true hd;omega,⟨by omega,by have hd:k< 8:=of_decide_eq_true hd;omega,?_⟩,by have hd:k< 8:=of_decide_eq_true hd;show 8 - (k+1).toNat< 8 - k.toNat;omega⟩⟩) (λhd=>?_)
  .show aaO (xo k.toNat _)=xo (k+1).toNat _;rw [show (k+1).toNat=k.toNat+1 by omega];rfl
  .have hd:¬k< 8:=of_decide_eq_false hd;have hl:(xn i.toNat).length=256:=G9 _;refine ⟨trivial,h0,hc,by rw [hl];omega,h0,by rw [hl];omega,by unfold aD;omega,⟨by omega,by omega,?_⟩,by show 256 - (i+1).toNat< 256 - i.toNat;omega⟩;rw [show (i+1).toNat=i.toNat+1 by omega,show k.toNat=8 by omega];refine Eq.trans ?_ (QF (by omega));unfold Ha;rw [Int.toNat_of_nonneg h0]
 .have hc:¬i< 256:=of_decide_eq_false hc;have e:i.toNat=256:=by omega
  rw [e];have hl:(xn 256).length=256:=G9 _;refine ⟨trivial,hl,trivial,trivial,hl,trivial,hl,?_⟩;rw [QG];exact h
def Hv:Ct
 | [.v (.c (.de (.int .u32) T 0 0)),.v (.c (.k (.int .u32 s))),.v (.c cb)],[],Q=>(match (Ty.sl Ty.u8).of [cb] with
  | some (b,[])=>T.length=256/\Q (.k (.int .u32 (cv T s b))) []
  | _=>False)
 | _,_,_=>False
def aon:=gJ.add Bl
abbrev CO (y0) (y1:List (Ty.u8).den) (y2):=dg BinOp.xor .u8 (IntKind.wrap .u8 y0) (↑(cK (aB Ty.u8 y1 y2)):Int)
abbrev CN:=if il .u32=true then (-1:Int) else mJ .u32
abbrev dy (y0:List (Ty.u8).den):=List.length y0
abbrev yq (y0:List (Ty.u8).den) (y1):=(↑(cK (aB Ty.u8 y0 y1)):Int)
abbrev qK (y0:Int):=IntKind.wrap .u8 y0
def BM (T:List Int) (s:Int) (b:(List (Ty.u8).den)):dx:=λQ=>aD .u32 s->aJ (dy b)->aD .u32 (dg BinOp.xor .u32 CN s)->aJ (dy b)->aM (λi ag=>br (decide (i.1.1< (aA b))) (0<=i.1.1/\i.1.1< (aA b)/\(Ty.ok Ty.u8 (aB Ty.u8 b i.1.1)->ah<=iJ/\ 
 (aD .u32 (kW .u32 i.1.2.1 iJ)->aD .u8 (qK i.1.2.1)->aD .u8 (CO i.1.2.1 b i.1.1)->bj (0<=dg BinOp.xor .u8 (qK i.1.2.1) (yq b i.1.1)/\dg BinOp.xor .u8 (qK i.1.2.1) (yq b i.1.1)< oB/\dg 
 BinOp.xor .u8 (qK i.1.2.1) (yq b i.1.1)< (aA T)/\(Ty.ok (.int .u32) (aB (.int .u32) T (CO i.1.2.1 b i.1.1))->aD .u32 (dg BinOp.xor .u32 (kW .u32 i.1.2.1 iJ) (aB (.int .u32) T (CO i.1.2.1 b i.1.1)))->cF 
 i.1.1 (ag ((i.1.1+1,dg BinOp.xor .u32 (kW .u32 i.1.2.1 iJ) (aB (.int .u32) T (CO i.1.2.1 b i.1.1)),()),()))))))) (aD .u32 (dg BinOp.xor .u32 CN i.1.2.1)->Q (.v (.c (.k (.int .u32 (dg BinOp.xor .u32 CN 
 i.1.2.1))))) [])) ((ah,dg BinOp.xor .u32 CN s,()),())
theorem U6:cu 145 Hv:=by
 intro args H Q h;unfold Hv at h;split at h;rotate_left;cases h;rename_i T s cb;split at h;rotate_left;cases h;rename_i b hb;refine Wp.said (args':=[.v (.c (.de (.int .u32) T 0 0)),.k (.int .u32 s),.c (.d Ty.u8 b)]) (λE g=>bm.cr (λ_ h=>h) (bm.cr (λ_ h=>h) (bm.cr (dH hb) (λ_ h=>h)))) ?_;clear hb;refine Wp.dC aon ft ⟨[(4,⟨[(14,.int .i64),(7,.int .u32)],[]⟩)],[]⟩ Tryz.f145 (BM T s b) ?_;unfold BM oB qK yq bj dy CN CO cF ah iJ aA aJ bI;obtain ⟨hT,h⟩:=h;intro _ _ _ _;refine aM.intro (λi=>0<=i.1.1/\i.1.1<=b.length/\i.1.2.1=aaN T (JO s) (b.take i.1.1.toNat)) (λi=>b.length - i.1.1.toNat) ⟨by simp,by simp,by rfl⟩ ?_;rintro ⟨⟨i,r,_⟩,_⟩ ⟨h0,h1,h2⟩;simp only at h0 h1 h2 ⊢;subst h2;refine aq (λhc=>?_) (λhc=>?_)
 .have hc:i< (b.length:Int):=of_decide_eq_true hc;refine ⟨h0,hc,λ_=>⟨by omega,λ_ _ hx=>?_⟩⟩;obtain ⟨Ev,hx1⟩:=hx;refine ⟨trivial,Ev,by omega,by omega,λ_ _=>⟨by unfold aD;omega,⟨by omega,by omega,?_⟩,by omega⟩⟩;rw [show (i+1).toNat=i.toNat+1 by omega,bG (by omega)];unfold aaN;rw [List.foldl_append];have e:aB .u8 b i=b[i.toNat]'(by omega):=by
   unfold aB;rw [ep,ao (by omega)];rfl
  rw [e];rfl
 .have hc:¬i< (b.length:Int):=of_decide_eq_false hc;rw [aT (by omega)];exact λ_=>h
def abq:Ct:=cT λT=>cD .u8 λb=>c0 λQ=>T.length=256/\Q (.k (.int .u32 (cv T 0 b))) []
def aom:=aon.add U6
abbrev cU (y0:List (Ty.u8).den) (R:Prop):=List.length y0<=9223372036854775807->R
def FM (T:List Int) (b:(List (Ty.u8).den)):dx:=λQ=>cU b (dQ T (aD .u32 (cv T ah b)->Q (.v (.c (.k (.int .u32 (cv T ah b))))) []))
theorem Yb:cu 95 abq:=eQ<| okT λT=>jm λb=>gM λQ h=>by
 refine Wp.dC aom ft ⟨[],[]⟩ Tryz.f95 (FM T b) ?_;unfold FM dQ cU ah bI
 grind
def Uj:Ct:=cP<| cI λe=>cO λH Q=>match H with
 | [.cells 187 [.k (.int .i64 c),.d .u8 b]]=>Q .tO [.cells 187 [.k (.int .i64 (nz c e)),.d .u8 (b)]]
 | _=>False
def ald:=aom.add Yb
abbrev aC (y0:Int):Value:=.int .i64 y0
def LJ (e c:Int) (b:List UInt8):dx:=λQ=>aD .i64 e->br (c==0) (Q (SV.cH []) [.cells 187 [.k (aC e),Cl.d Ty.u8 b]]) (Q (SV.cH []) [.cells 187 [.k (aC c),Cl.d Ty.u8 b]])
theorem Rp:cu 138 Uj:=eQ<| r5<| nG λe=>r6 λH Q h=>by
 split at h;rotate_left;cases h;rename_i c b;refine Wp.dC ald ft ⟨[],[]⟩ Tryz.f138 (LJ e c b) ?_;unfold LJ aC;intro _;refine aq (λhc=>?_) (λhc=>?_)
 .grind [nz]
 grind [nz]
def Ui:Ct:=cP<| cI λe=>cO λH Q=>match H with
 | [.cells 174 [.k (.int .i64 c),.o 1],.sl 5 .u8 x]=>Q .tO [.cells 174 [.k (.int .i64 (nz c e)),.o 1],.sl 5 .u8 (x)]
 | _=>False
def aqN:=ald.add Rp
abbrev CH (y0:SV->List HO->Prop) (y1:Int) (y2:List UInt8):=y0 (SV.cH []) [.cells 174 [.k (aC y1),.o 1],.sl 5 Ty.u8 y2]
def LI (e c:Int) (x:List UInt8):dx:=λQ=>aD .i64 e->br (c==0) (CH Q e x) (CH Q c x)
theorem ad8:cu 138 Ui:=eQ<| r5<| nG λe=>r6 λH Q h=>by
 split at h;rotate_left;cases h;rename_i c x;refine Wp.dC aqN ft ⟨[],[]⟩ Tryz.f138 (LI e c x) ?_;unfold LI CH aC;intro _;refine aq (λhc=>?_) (λhc=>?_)
 .grind [nz]
 grind [nz]
def abk:Ct:=λargs H Q=>match H with
 | [.cells _ [_,.d _ _]]=>Uj args H Q
 | [.cells _ [_,.o _],_]=>Ui args H Q
 | _=>False
theorem aiP:cu 138 abk:=λargs H Q h=>by
 unfold abk at h
 grind [Rp, ad8]
def abm:Ct:=cP<| cO λH Q=>match H with
 | [.cells 187 [.k (.int .i64 c),.d .u8 b]]=>Q (.int c) [.cells 187 [.k (.int .i64 (c)),.d .u8 (b)]]
 | _=>False
def alc:=ald.add aiP
abbrev gF (y0:Int):SV:=.v (.c (.k (aC y0)))
def Sf (c:Int) (b:List UInt8):dx:=λQ=>Q (gF c) [.cells 187 [.k (aC c),Cl.d Ty.u8 b]]
theorem X9:cu 88 abm:=eQ<| r5<| r6 λH Q h=>by
 split at h;rotate_left;cases h;rename_i c b;refine Wp.dC alc ft ⟨[],[]⟩ Tryz.f88 (Sf c b) ?_;unfold Sf gF aC;exact h
def abl:Ct:=cP<| cO λH Q=>match H with
 | [.cells 174 [.k (.int .i64 c),.o 1],.sl 5 .u8 x]=>Q (.int c) [.cells 174 [.k (.int .i64 (c)),.o 1],.sl 5 .u8 (x)]
 | _=>False
def aoj:=alc.add X9
def Se (c:Int) (x:List UInt8):dx:=λQ=>Q (gF c) [.cells 174 [.k (aC c),.o 1],.sl 5 Ty.u8 x]
theorem X8:cu 88 abl:=eQ<| r5<| r6 λH Q h=>by
 split at h;rotate_left;cases h;rename_i c x;refine Wp.dC aoj ft ⟨[],[]⟩ Tryz.f88 (Se c x) ?_;unfold Se gF aC;exact h
def abn:Ct:=cP<| cO λH Q=>match H with
 | [.cells 174 [.k (.int .i64 c),.k (.slice none 0 0)]]=>Q (.int c) [.cells 174 [.k (.int .i64 c),.k (.slice none 0 0)]]
 | _=>False
def aqM:=aoj.add X8
abbrev bZ:Value:=.slice none 0 0
def Sg (c:Int):dx:=λQ=>Q (gF c) [.cells 174 [.k (aC c),.k bZ]]
theorem aiQ:cu 88 abn:=eQ<| r5<| r6 λH Q h=>by
 split at h;rotate_left;cases h;rename_i c;refine Wp.dC aqM ft ⟨[],[]⟩ Tryz.f88 (Sg c) ?_;unfold Sg gF bZ aC;exact h
def ahg:Ct:=λargs H Q=>match H with
 | [.cells _ [_,.d _ _]]=>abm args H Q
 | [.cells _ [_,.o _],_]=>abl args H Q
 | [.cells _ [_,.k _]]=>abn args H Q
 | _=>False
theorem amy:cu 88 ahg:=λargs H Q h=>by
 unfold ahg at h
 grind [X9, X8, aiQ]
def QU:Ct
 | [.v (.c (.o 0))],[.sl 5 .u8 x],Q=>x.length<=140737488355328/\Q (.c (.d .u8 x)) [.sl 5 .u8 x]
 | _,_,_=>False
def alb:=alc.add amy
abbrev ck:=(140737488355328:Nat)
abbrev fE:SV:=.v (.c (.k bZ))
abbrev j8 (y0:Bool):=if true=true then y0 else !y0
abbrev IL (y0:List UInt8) (y1:SV->List HO->Prop):=(0+List.length y0)*1<=ck/\0+List.length y0<=9223372036854775807/\y1 (SV.v (S1.c (.o 1))) [.sl 5 Ty.u8 y0,.sl 5 Ty.u8 ([]++y0)]
def Sk (x:List UInt8):dx:=λQ=>∀ (c:Bool),(c=true->x= [])->br (j8 c) (Q fE [.sl 5 Ty.u8 x]) (IL x Q)
theorem Yk:cu 38 QU:=by
 intro args H Q h;unfold QU at h;split at h;rotate_left;cases h;rename_i x;refine Wp.Jc (e:=.u8) ?_;refine Wp.dC alb ft ⟨[],[]⟩ Tryz.f38 (Sk x) ?_;unfold Sk IL j8 fE ck bZ;obtain ⟨hl,h⟩:=h;refine λc hc=>aq (λhb=>.inr (.inl ⟨rfl,?_⟩)) (λhb=>⟨by omega,by omega,.inr (.inr ⟨1,5,x,rfl,aG 1,rfl,h⟩)⟩)
 grind
def abz:Ct:=cD .u8 λx=>c0 λQ=>x.length<=140737488355328/\Q (.c (.d .u8 x)) []
def aol:=alb.add Yk
abbrev Aa (y0:List (Ty.u8).den) (y1:SV->List HO->Prop):=(∀ (c:Bool),(c=true->y0= [])->br (if true=true then c else !c) (y1 (.v (.c (.k bZ))) []) ((0+List.length y0)*1<=ck/\0+List.length y0<=9223372036854775807/\y1 (SV.v (S1.c (.o 0))) [.sl 5 Ty.u8 ([]++y0)]))
def Sm (x:(List (Ty.u8).den)):dx:=λQ=>cU x (Aa x Q)
theorem O1:cu 38 abz:=eQ<| jm λx=>gM λQ h=>by
 refine Wp.Jc (e:=.u8) ?_;refine Wp.dC aol ft ⟨[],[]⟩ Tryz.f38 (Sm x) ?_;unfold Sm Aa ck cU bZ;refine λ_ c hc=>aq (λhb=>.inr (.inl ⟨rfl,?_⟩)) (by grind)
 grind
def ahj:Ct:=λargs H Q=>match H with
 | []=>abz args H Q
 | [_]=>QU args H Q
 | _=>False
theorem amB:cu 38 ahj:=λargs H Q h=>by
 unfold ahj at h
 grind [O1, Yk]
def akC:Ct:=cD .u8 λb=>c0 λQ=>b.length<=140737488355328/\Q (.c (.p 0 0)) [.cells 187 [.k (.int .i64 (0)),.d .u8 (b)]]
def aia:=alb.add amB
abbrev aR:Value:=.int .i64 0
def RN (b:(List (Ty.u8).den)):dx:=λQ=>cU b (fc (dy b)/\(aJ (dy b)->Q (SV.v (S1.c (.p 0 0))) [.cells 187 [.k aR,Cl.d Ty.u8 b]]))
theorem aix:cu 97 akC:=eQ<| jm λb=>gM λQ h=>by
 refine Wp.dC aia ft ⟨[],[]⟩ Tryz.f97 (RN b) ?_;unfold RN dy cU aR fc aJ
 grind
def aa2:Ct:=cP<| cI λn=>cO λH Q=>match H with
 | [.cells 187 [.k (.int .i64 c),.d .u8 b]]=>c=0/\0<=n/\b.length<=140737488355328/\Q (.c (.d .u8 (jF b n))) [.cells 187 [.k (.int .i64 (Kj b n)),.d .u8 (lU b n)]]
 | _=>False
def ah9:=aia.add aix
abbrev cV (y0:Int):=decide (y0< 0)
abbrev db (y0:List UInt8) (R:Prop):=aJ (List.length y0)->R
abbrev lZ (y0:Int) (y1:List UInt8):=List.take (aU y0) y1
abbrev vl (y0:Int) (y1:List UInt8):=List.length (lZ y0 y1)
abbrev qL (y0:Int) (y1:List UInt8):=List.drop (aU y0) y1
def Fg (n c:Int) (b:List UInt8):dx:=λQ=>aD .i64 n->br (cV n) (br (nz c aV !=0) (Q fE [.cells 187 [.k (.int .i64 (nz c aV)),Cl.d Ty.u8 b]]) (0<=n/\n<=(aA b)/\fc (vl n b)/\(aJ (vl n b)->0<=n/\n<=(aA b)/\Q (SV.v (S1.c 
 (Cl.d Ty.u8 (lZ n b)))) [.cells 187 [.k (.int .i64 (nz c aV)),Cl.d Ty.u8 (qL n b)]]))) (db b (br (decide (n>(aA b))) (br (nz c dw !=0) (Q fE [.cells 187 [.k (.int .i64 (nz c dw)),Cl.d Ty.u8 b]]) (0<= 
 n/\n<=(aA b)/\fc (vl n b)/\(aJ (vl n b)->0<=n/\n<=(aA b)/\Q (SV.v (S1.c (Cl.d Ty.u8 (lZ n b)))) [.cells 187 [.k (.int .i64 (nz c dw)),Cl.d Ty.u8 (qL n b)]]))) (br (c !=0) (Q fE [.cells 187 [.k 
 (aC c),Cl.d Ty.u8 b]]) (0<=n/\n<=(aA b)/\fc (vl n b)/\(aJ (vl n b)->0<=n/\n<=(aA b)/\Q (SV.v (S1.c (Cl.d Ty.u8 (lZ n b)))) [.cells 187 [.k (aC c),Cl.d Ty.u8 (qL n b)]])))))
theorem XH:cu 98 aa2:=eQ<| r5<| nG λn=>r6 λH Q h=>by
 split at h;rotate_left;cases h;rename_i c b;refine Wp.Jc (e:=.u8) ?_;refine Wp.dC ah9 ft ⟨[],[]⟩ Tryz.f98 (Fg n c b) ?_;unfold Fg qL vl fE lZ db cV bZ aU aC aV dw aA fc aJ;obtain ⟨rfl,h0,hb,h⟩:=h;unfold jF Kj lU at h;refine λ_=>aq (λhc=>?_) (λ_=>λ_=>aq (λhc=>?_) (λhc=>?_))
 .have hc:n< 0:=of_decide_eq_true hc;omega
 .have hc:n>(b.length:Int):=of_decide_eq_true hc;rw [if_pos hc,if_pos hc,if_pos hc] at h;exact aq (λ_=>.inr (.inl ⟨rfl,h⟩)) (λhd=>nomatch hd)
 .have hc:¬n>(b.length:Int):=of_decide_eq_false hc
  grind [aq]
def akB:Ct:=cP<| cI λn=>cO λH Q=>match H with
 | [.cells 187 [.k (.int .i64 c),.d .u8 b]]=>c=0/\1<=n/\n<=4/\n<=b.length/\b.length<=140737488355328/\Q (.int (bK (b.take n.toNat))) [.cells 187 [.k (.int .i64 (0)),.d .u8 (b.drop n.toNat)]]
 | _=>False
def ah8:=ah9.add XH
abbrev bw {A0:Type} (y0:List A0):=List.length y0
abbrev IQ (y0) (y1:Int) (y2):=AA .i64 (↑(cK (aB Ty.u8 (jF y0 y1) y2)):Int) (iJ*y2)
abbrev sO (y0:_->Prop) (y1:Int) (y2:List UInt8):=y0 ((),(nz y1 aV,y2,()),())
abbrev Cw (y0:Int) (R:Prop):=aD .i64 (iJ*y0)/\ah<=iJ*y0/\R
def RM (n c:Int) (b:List UInt8):dx:=λQ=>aD .i64 n->cG (λk=>br (decide (n< 1)) (sO k c b) (br (decide (n>4)) (sO k c b) (k ((),(c,b,()),())))) λi=>i.2.1.1=ah/\0<=n/\fc (bw i.2.1.2.1)/\(aJ (List.length (jF i.2.1.2.1 
 n))->aJ (List.length (jF i.2.1.2.1 n))->aM (λbE ag=>br (decide (bE.1.1< (aS (jF i.2.1.2.1 n)))) (0<=bE.1.1/\bE.1.1< (aS (jF i.2.1.2.1 n))/\(Ty.ok Ty.u8 (aB Ty.u8 (jF i.2.1.2.1 n) bE.1.1)->Cw 
 bE.1.1 (aD .i64 (IQ i.2.1.2.1 n bE.1.1)->aD .i64 (dg BinOp.or .i64 bE.1.2.1 (IQ i.2.1.2.1 n bE.1.1))->cF bE.1.1 (ag ((bE.1.1+1,dg BinOp.or .i64 bE.1.2.1 (IQ i.2.1.2.1 n bE.1.1),()),()))))) (Q (gF 
 bE.1.2.1) [.cells 187 [.k (.int .i64 (Kj i.2.1.2.1 n)),Cl.d Ty.u8 (lU i.2.1.2.1 n)]])) ((ah,ah,()),()))
theorem aiw:cu 99 akB:=eQ<| r5<| nG λn=>r6 λH Q h=>by
 split at h;rotate_left;cases h;rename_i c b;refine Wp.dC ah8 ft ⟨[(6,⟨[(22,.int .i64),(5,.int .i64)],[]⟩)],[(4,⟨[],[(0,.cells 187 [.int .i64,.d .u8])]⟩)]⟩ Tryz.f99 (RM n c b) ?_;unfold RM Cw sO IQ gF cF bw aC ah aV iJ aS fc aJ;obtain ⟨rfl,h1,h4,hb,hl,h⟩:=h;intro _;refine cG.intro (λi=>i.2.1.1=0/\i.2.1.2.1=b) (aq (λhc=>?_) (λ_=>aq (λhc=>?_) (by grind))) ?_
 .grind
 .grind
 rintro ⟨_,⟨c,b',_⟩,_⟩ ⟨rfl,e⟩;simp only at e ⊢;subst e;have hn:¬n>(b'.length:Int):=by omega
 rw [show jF b' n=b'.take n.toNat by unfold jF;rw [if_neg hn],show Kj b' n=0 by unfold Kj;rw [if_neg hn],show lU b' n=b'.drop n.toNat by unfold lU;rw [if_neg hn]];have hlen:(b'.take n.toNat).length=n.toNat:=by grind
 refine ⟨trivial,by omega,hl,λ_ _=>?_⟩;generalize hz:b'.take n.toNat=z at h hlen ⊢;refine aM.intro (λj=>0<=j.1.1/\j.1.1<=z.length/\j.1.2.1=bK (z.take j.1.1.toNat)) (λj=>z.length - j.1.1.toNat) ⟨by simp,by simp,rfl⟩ ?_;rintro ⟨⟨i,r,_⟩,_⟩ ⟨g0,g1,g2⟩;simp only at g0 g1 g2 ⊢;subst g2;refine aq (λhc=>?_) (λhc=>?_)
 .have hc:i< (z.length:Int):=of_decide_eq_true hc;refine ⟨g0,hc,λ_=>⟨by grind [aD],by omega,λ_ _=>⟨by grind [aD],⟨by omega,by omega,?_⟩,by omega⟩⟩⟩;have fD:(z.take i.toNat).length=i.toNat:=by grind
  rw [Zw g0 (by omega) (C9 _) (by have:=ZV (z.take i.toNat);rw [fD] at this;exact this)];rw [show (i+1).toNat=i.toNat+1 by omega,bG (by omega),Tk,fD]
  grind [aB]
 grind
def afO:Ct:=cP<| cO λH Q=>match H with
 | [.cells 187 [.k (.int .i64 c),.d .u8 b]]=>c=0/\Q (.int b.length) [.cells 187 [.k (.int .i64 (0)),.d .u8 (b)]]
 | _=>False
def ah7:=ah8.add aiw
def La (c:Int) (b:List UInt8):dx:=λQ=>br (c !=0) (Q (.v (.c (.k aR))) [.cells 187 [.k (aC c),Cl.d Ty.u8 b]]) (db b (Q (.v (.c (.k (.int .i64 (aA b))))) [.cells 187 [.k (aC c),Cl.d Ty.u8 b]]))
theorem adK:cu 100 afO:=eQ<| r5<| r6 λH Q h=>by
 split at h;rotate_left;cases h;rename_i c b;refine Wp.dC ah7 ft ⟨[],[]⟩ Tryz.f100 (La c b) ?_;unfold La db aR aC aA aJ
 grind [aq]
def afN:Ct:=cP<| cO λH Q=>match H with
 | [.cells 187 [.k (.int .i64 c),.d .u8 b]]=>c=0/\(∃ z r,b=z::r/\z.toNat<=r.length/\b.length<=140737488355328/\Q (.str (gu (r.take z.toNat))) [.cells 187 [.k (.int .i64 (0)),.d .u8 (r.drop z.toNat)]])
 | _=>False
def ah6:=ah7.add adK
abbrev yn (y0:List UInt8):=bK (List.take bH y0)
def K9 (c:Int) (b:List UInt8):dx:=λQ=>c=ah/\aV<=aV/\aV<=cL/\aV<=(aA b)/\fc (List.length b)/\(aD .i64 (yn b)->bj (0<=bK (List.take bH b)/\fc (List.length (List.drop 1 b))/\(aJ (List.length (jF (List.drop 1 b) 
 (yn b)))->Q (.v (.c (.k (.string (gu (jF (List.drop 1 b) (yn b))))))) [.cells 187 [.k (.int .i64 (Kj (List.drop 1 b) (yn b))),Cl.d Ty.u8 (lU (List.drop 1 b) (yn b))]])))
theorem adJ:cu 199 afN:=eQ<| r5<| r6 λH Q h=>by
 split at h;rotate_left;cases h;rename_i c b;refine Wp.dC ah6 ft ⟨[],[]⟩ Tryz.f199 (K9 c b) ?_;unfold K9 yn bj ah aV cL aA fc aJ bH;obtain ⟨rfl,z,r,rfl,hz,hl,h⟩:=h;have e1:bK (List.take 1 (z::r))=(z.toNat:Int):=by rfl
 refine ⟨rfl,by omega,by omega,by grind,hl,λ_=>⟨rfl,by omega,?_,λ_=>?_⟩⟩
 .grind
 simp_all [jF, Kj, lU, if_neg]
def akD:Ct:=cP<| cO λH Q=>match H with
 | [.cells 187 [.k (.int .i64 c),.d .u8 b]]=>c=0/\b= []/\Q (.int 0) [.cells 187 [.k (.int .i64 (0)),.d .u8 ([])]]
 | _=>False
def ah5:=ah6.add adJ
def RO (c:Int) (b:List UInt8):dx:=λQ=>List.length b<=9223372036854775807->br (decide ((aA b)>ah)) (Q (.v (.c (.k (.int .i64 (nz c dw))))) [.cells 187 [.k (.int .i64 (nz c dw)),Cl.d Ty.u8 b]]) (Q (gF c) [.cells 187 [.k (aC c),Cl.d Ty.u8 
 b]])
theorem aiy:cu 227 akD:=eQ<| r5<| r6 λH Q h=>by
 split at h;rotate_left;cases h;rename_i c b;refine Wp.dC ah5 ft ⟨[],[]⟩ Tryz.f227 (RO c b) ?_;unfold RO gF aC ah dw aA
 grind [aq]
def JV:Ct:=cP<| cI λm=>cI λn=>cO λH Q=>match H with
 | [.cells 174 [.k (.int .i64 c),.o 1],.sl 5 .u8 x]=>c=0/\(1<=n/\n<=4)/\(0<=m/\m< 256 ^ n.toNat)/\x.length<=100000000000/\Q .tO [.cells 174 [.k (.int .i64 (0)),.o 2],.gone,.sl 5 .u8 (x++aI n.toNat m.toNat)]
 | _=>False
def ab9:=ah5.add aiy
abbrev cg (y0:Int) (y1:Int) (R:Prop):=aD .i64 y0->aD .i64 y1->R
abbrev CI (y0:Int) (y1):=IntKind.wrap .u8 (kW .i64 y0 (iJ*y1))
def KY (m n c:Int) (x:List UInt8):dx:=λQ=>cg m n (cG (λk=>br (decide (n< 1)) (sO k c x) (br (decide (n>4)) (sO k c x) (br (cV m) (sO k c x) (Cw n (aD .i64 (kW .i64 m (iJ*n))->br (kW .i64 m (iJ*n) !=0) (sO k c 
 x) (k ((),(c,x,()),()))))))) λi=>aM (λi ag=>br (decide (i.1.1< n)) (br (i.2.1.1==0) (Cw i.1.1 (aD .i64 (kW .i64 m (iJ*i.1.1))->aD .u8 (CI m i.1.1)->(List.length i.2.1.2.1+List.length [az 
 (ax (CI m i.1.1))])*1<=ck/\List.length i.2.1.2.1+List.length [az (ax (CI m i.1.1))]<=9223372036854775807/\cF i.1.1 (ag ((i.1.1+1,()),(i.2.1.1,i.2.1.2.1++ [az (ax (CI m 
 i.1.1))],()),())))) (Q (SV.cH []) [.cells 174 [.k (aC i.2.1.1),.o 2],.gone,.sl 5 Ty.u8 i.2.1.2.1])) (Q (SV.cH []) [.cells 174 [.k (aC i.2.1.1),.o 2],.gone,.sl 5 Ty.u8 i.2.1.2.1])) ((ah,()),i.2))
theorem HQ:cu 86 JV:=eQ<| r5<| nG λm=>nG λn=>r6 λH Q h=>by
 split at h;rotate_left;cases h;rename_i c x;refine Wp.dC ab9 ft ⟨[(4,⟨[(6,.int .i64)],[(0,.cells 174 [.int .i64,.own 5 .u8])]⟩)],[(3,⟨[],[(0,.cells 174 [.int .i64,.own 5 .u8])]⟩)]⟩ Tryz.f86 (KY m n c x) ?_;unfold KY Cw CI sO cg cV cF ck aC ah aV iJ;obtain ⟨rfl,⟨h1,h4⟩,⟨m0,m1⟩,hl,h⟩:=h;intro _ _;refine cG.intro (λi=>i.2.1.1=0/\i.2.1.2.1=x) (aq (λhc=>?_) (λ_=>aq (λhc=>?_) (λ_=>aq (λhc=>?_) (λ_=>⟨by unfold aD;omega,by omega,λ_=>aq (λhc=>?_) (λ_=>⟨rfl,rfl⟩)⟩)))) ?_
 .have hc:n< 1:=of_decide_eq_true hc;omega
 .have hc:n>4:=of_decide_eq_true hc;omega
 .have hc:m< 0:=of_decide_eq_true hc;omega
 .rw [YT m0 h1 h4 m1] at hc;cases hc
 rintro ⟨_,⟨c,x',_⟩,_⟩ ⟨rfl,e⟩;simp only at e ⊢;subst e;refine aM.intro (λj=>0<=j.1.1/\j.1.1<=n/\j.2.1.1=0/\j.2.1.2.1=x'++aI j.1.1.toNat m.toNat) (λj=>(n - j.1.1).toNat) (by simp [aI]; omega) ?_;rintro ⟨⟨i,_⟩,⟨c,y,_⟩,_⟩ ⟨g0,g1,rfl,g3⟩;simp only at g0 g1 g3 ⊢;subst g3;refine aq (λhc=>aq (λ_=>?_) (λhd=>nomatch hd)) (λhc=>?_)
 .have hc:i< n:=of_decide_eq_true hc;have hy:(x'++aI i.toNat m.toNat).length=x'.length+i.toNat:=by rw [af,aE]
  refine ⟨by unfold aD;omega,by omega,λ_ _=>⟨by rw [hy,ay];omega,by rw [hy,ay];omega,by unfold aD;omega,⟨by omega,by omega,trivial,?_⟩,by omega⟩⟩;rw [af8 m0 g0 (by omega),aL,<-GM,show (i+1).toNat=i.toNat+1 by omega]
 grind
def zm:Ct:=cP<| cD .u8 λb=>cO λH Q=>match H with
 | [.cells 174 [.k (.int .i64 c),.o 1],.sl 5 .u8 x]=>c=0/\x.length<=100000000000/\b.length<=100000000/\Q .tO [.cells 174 [.k (.int .i64 (0)),.o 2],.gone,.sl 5 .u8 (x++b)]
 | _=>False
def aok:=ab9.add HQ
abbrev yE (y0:List UInt8) (y1:List (Ty.u8).den) (R:Prop):=(List.length y0+List.length y1)*1<=ck/\List.length y0+List.length y1<=9223372036854775807/\R
def Bn (b:(List (Ty.u8).den)) (c:Int) (x:List UInt8):dx:=λQ=>cU b (br (c==0) (yE x b (Q (SV.cH []) [.cells 174 [.k (aC c),.o 2],.gone,.sl 5 Ty.u8 (x++b)])) (CH Q c x))
theorem EO:cu 92 zm:=eQ<| r5<| jm λb=>r6 λH Q h=>by
 split at h;rotate_left;cases h;rename_i c x;refine Wp.dC aok ft ⟨[],[]⟩ Tryz.f92 (Bn b c x) ?_;unfold Bn CH yE ck cU aC
 grind [aq]
def JW:Ct
 | [.v (.c (.p 0 0)),.v (.c (.k (.int .i64 m))),.v (.c (.k (.int .i64 n)))],[.cells 174 [.k (.int .i64 c),.k (.slice none 0 0)]],Q=>JV [.v (.c (.p 0 0)),.v (.c (.k (.int .i64 m))),.v (.c (.k (.int .i64 n)))] [.cells 174 [.k (.int .i64 c),.o 1],.sl 5 .u8 []] Q
 | _,_,_=>False
theorem ady:cu 86 JW:=λargs H Q h=>by
 unfold JW at h;split at h;exact Wp.abG (p:=0) (t:=174) (tt:=5) (e:=.u8) (cs1:=[.k (.int .i64 _)]) (cs2:=[]) rfl (HQ _ _ _ h)
 grind
def aaU:Ct:=λargs H Q=>match H with
 | [.cells _ [_,.k _]]=>JW args H Q
 | [.cells _ [_,.o _],_]=>JV args H Q
 | _=>False
theorem aip:cu 86 aaU:=λargs H Q h=>by
 unfold aaU at h
 grind [ady, HQ]
def zn:Ct
 | [.v (.c (.p 0 0)),b],[.cells 174 [.k (.int .i64 c),.k (.slice none 0 0)]],Q=>zm [.v (.c (.p 0 0)),b] [.cells 174 [.k (.int .i64 c),.o 1],.sl 5 .u8 []] Q
 | _,_,_=>False
theorem UN:cu 92 zn:=λargs H Q h=>by
 unfold zn at h;split at h;exact Wp.abG (p:=0) (t:=174) (tt:=5) (e:=.u8) (cs1:=[.k (.int .i64 _)]) (cs2:=[]) rfl (EO _ _ _ h)
 grind
def N6:Ct:=λargs H Q=>match H with
 | [.cells _ [_,.k _]]=>zn args H Q
 | [.cells _ [_,.o _],_]=>zm args H Q
 | _=>False
theorem XA:cu 92 N6:=λargs H Q h=>by
 unfold N6 at h
 grind [UN, EO]
def afE:Ct:=cP<| cO λH Q=>match H with
 | [.cells 174 [.k (.int .i64 c),.o 1],.sl 5 .u8 x]=>c=0/\x.length<=100000000000/\Q (.c (.d .u8 x)) [.cells 174 [.k (.int .i64 (0)),.o 1],.sl 5 .u8 (x)]
 | _=>False
def ah4:=(ab9.add aip).add XA
def KZ (c:Int) (x:List UInt8):dx:=λQ=>br (c !=0) (Q fE [.cells 174 [.k (aC c),.o 1],.sl 5 Ty.u8 x]) (fc (List.length x)/\(db x (Q (SV.v (S1.c (Cl.d Ty.u8 x))) [.cells 174 [.k (aC c),.o 1],.sl 5 Ty.u8 x])))
theorem adz:cu 87 afE:=eQ<| r5<| r6 λH Q h=>by
 split at h;rotate_left;cases h;rename_i c x;refine Wp.dC ah4 ft ⟨[],[]⟩ Tryz.f87 (KZ c x) ?_;unfold KZ fE db bZ aC fc aJ
 grind [aq]
def akx:Ct:=cP<| cO λH Q=>match H with
 | [.cells 174 [.k (.int .i64 c),.o 1],.sl 5 .u8 x]=>c=0/\x.length<=100000000000/\Q (.int x.length) [.cells 174 [.k (.int .i64 (0)),.o 1],.sl 5 .u8 (x)]
 | _=>False
def ah3:=ah4.add adz
def RC (c:Int) (x:List UInt8):dx:=λQ=>c=ah/\List.length x<=100000000000/\(db x (db x (Q (.v (.c (.k (.int .i64 (aA x))))) [.cells 174 [.k aR,.o 1],.sl 5 Ty.u8 x])))
theorem aiq:cu 96 akx:=eQ<| r5<| r6 λH Q h=>by
 split at h;rotate_left;cases h;rename_i c x;refine Wp.dC ah3 ft ⟨[],[]⟩ Tryz.f96 (RC c x) ?_;unfold RC db aR ah aA aJ
 grind
def afD:Ct:=cP<| cS λz=>cO λH Q=>match H with
 | [.cells 174 [.k (.int .i64 c),.o 1],.sl 5 .u8 x]=>c=0/\z.size<=255/\x.length<=1000000000/\Q .tO [.cells 174 [.k (.int .i64 (0)),.o 2],.gone,.sl 5 .u8 (x++az z.size::z.data.toList)]
 | _=>False
def ah2:=ah3.add aiq
abbrev gY (y0:ByteArray):=(↑(ByteArray.size y0):Int)
abbrev iR (y0:ByteArray) (R:Prop):=ByteArray.size y0<=9223372036854775807->R
abbrev je (y0:List UInt8) (R:Prop):=List.length y0<=100000000/\R
def KX (z:ByteArray) (c:Int) (x:List UInt8):dx:=λQ=>iR z (br (decide ((gY z)>(255:Int))) (Q (SV.cH []) [.cells 174 [.k (.int .i64 (nz c jY)),.o 1],.sl 5 Ty.u8 x]) (c=ah/\(aV<=aV/\aV<=cL)/\(ah<=(gY z)/\(gY z)< fe ^ 
 bH)/\List.length x<=100000000000/\bj (List.length (x++aI bH (ax (gY z)))<=100000000000/\je z.data.toList (Q (SV.cH []) [.cells 174 [.k aR,.o 2],.gone,.sl 5 Ty.u8 (x++aI bH (ax (gY z)) 
 ++z.data.toList)]))))
theorem adx:cu 137 afD:=eQ<| r5<| ZA λz=>r6 λH Q h=>by
 split at h;rotate_left;cases h;rename_i c x;refine Wp.dC ah2 ft ⟨[],[]⟩ Tryz.f137 (KX z c x) ?_;unfold KX je bj iR gY aR ah aV fe jY cL bH;obtain ⟨rfl,hz,hl,h⟩:=h;have e1:aI 1 ((z.size:Int)).toNat= [az z.size]:=by
  show [az (z.size % 256)]=_
  grind
 have e2:z.data.toList.length=z.size:=Array.length_toList;refine λ_=>aq (λhc=>?_) (λ_=>⟨rfl,⟨by omega,by omega⟩,⟨by omega,by omega⟩,by omega,rfl,?_,by omega,?_⟩)
 .grind
 .grind
 grind
end Go.Proofs

namespace Go.Lm
open Go
def mf:Nat->List UInt8->Nat->List UInt8
 | 0,out,_=>out
 | n+1,out,f=>mf n (out++ [out.getD f 0]) (f+1)
def Ej:Nat->List UInt8->List UInt8->Option (List UInt8)
 | _,[],out=>some out
 | 0,_::_,_=>none
 | k+1,t::r,out=>
  if t.toNat< 128 then (if r.length< t.toNat+1 then none else Ej k (r.drop (t.toNat+1)) (out++r.take (t.toNat+1)))
  else match r with
   | []=>none
   | c::q=>if out.length<=c.toNat then none else Ej k q (mf (t.toNat - 125) out (out.length - c.toNat - 1))
theorem LZ (n:Nat) (out:List UInt8):Ej n [] out=some out:=by cases n<;>rfl
theorem tL:∀ {n m:Nat} {b out:List UInt8},b.length<=n->b.length<=m->Ej n b out=Ej m b out
 | n,m,[],out,_,_=>by rw [LZ,LZ]
 | 0,_,_::_,_,h,_=>by simp at h
 | _,0,_::_,_,_,h=>by simp at h
 | n+1,m+1,t::r,out,h1,h2=>by
  rw [av] at h1 h2;unfold Ej;split
  .split
   .rfl
   .exact tL (by rw [aQ];omega) (by rw [aQ];omega)
  .cases r with
   | nil=>rfl
   | cons c q=>
    simp only;rw [av] at h1 h2;split;rfl;exact tL (by omega) (by omega)
def nE (b out:List UInt8):Option (List UInt8):=Ej b.length b out
theorem BT (out:List UInt8):nE [] out=some out:=rfl
theorem L0 {t:UInt8} {r out:List UInt8} (ht:t.toNat< 128):nE (t::r) out=if r.length< t.toNat+1 then none else nE (r.drop (t.toNat+1)) (out++r.take (t.toNat+1)):=by
 unfold nE;rw [av]
 conv=>lhs;unfold Ej
 rw [if_pos ht];split;rfl;exact tL (by grind) (aG _)
theorem F5 {t c:UInt8} {r out:List UInt8} (ht:¬t.toNat< 128):nE (t::c::r) out=if out.length<=c.toNat then none else nE r (mf (t.toNat - 125) out (out.length - c.toNat - 1)):=by
 unfold nE;rw [av]
 conv=>lhs;unfold Ej
 rw [if_neg ht];simp only;split;rfl;exact tL (by grind) (aG _)
theorem YK {t:UInt8} {out:List UInt8} (ht:¬t.toNat< 128):nE [t] out=none:=by
 grind [nE, Ej]
theorem vS:∀ (n:Nat) (out:List UInt8) (f:Nat),(mf n out f).length=out.length+n
 | 0,_,_=>rfl
 | n+1,out,f=>by
  show (mf n (out++ [out.getD f 0]) (f+1)).length=_;rw [vS n,af,ay];omega
theorem Su {t:UInt8} {r out z:List UInt8} (ht:t.toNat< 128) (h:nE (t::r) out=some z):t.toNat+1<=r.length/\nE (r.drop (t.toNat+1)) (out++r.take (t.toNat+1))=some z:=by
 grind [L0]
theorem LY {t:UInt8} {r out z:List UInt8} (ht:¬t.toNat< 128) (h:nE (t::r) out=some z):∃ c q,r=c::q/\c.toNat< out.length/\nE q (mf (t.toNat - 125) out (out.length - c.toNat - 1))=some z:=by
 cases r with
 | nil=>grind [YK]
 | cons c q=>
  grind [F5]
theorem wu:∀ {n:Nat} {b out z:List UInt8},b.length<=n->nE b out=some z->out.length<=z.length
 | _,[],out,z,_,h=>by
  grind [BT]
 | 0,_::_,_,_,h,_=>by grind
 | n+1,t::r,out,z,hn,h=>by
  rw [av] at hn;by_cases ht:t.toNat< 128
  .obtain ⟨h1,h2⟩:=Su ht h;have:=wu (n:=n) (by grind) h2
   grind
  .obtain ⟨c,q,rfl,h1,h2⟩:=LY ht h;rw [av] at hn;have:=wu (n:=n) (by omega) h2
   grind [vS]
structure Eb (x pre:List UInt8):Prop where
 go:∀ r,nE (x++r) []=nE r pre
theorem Eb.nil:Eb [] []:=⟨λ_=>rfl⟩
theorem Eb.done {x b:List UInt8} (h:Eb x b):nE x []=some b:=by
 have:=h.go []
 grind [BT]
theorem Eb.run {x pre l:List UInt8} (h:Eb x pre) (h0:0< l.length) (h1:l.length<=128):Eb (x++(az (l.length - 1)::l)) (pre++l):=⟨λr=>by
 have ht:(az (l.length - 1)).toNat=l.length - 1:=by simp;omega
 rw [aL,h.go,dV,L0 (by omega),ht,if_neg (by rw [af];omega)]
 grind⟩
theorem Hc {b:List UInt8}:∀ (n a f:Nat),f< a->a+n<=b.length->(∀ k,k< n->b[a+k]?=b[f+k]?)->mf n (b.take a) f=b.take (a+n)
 | 0,_,_,_,_,_=>rfl
 | n+1,a,f,hf,hl,hk=>by
  unfold mf;have h0:=hk 0 (by omega);rw [Nat.add_zero,Nat.add_zero] at h0;have e:(b.take a).getD f 0=b[a]'(by omega):=by
   rw [ep,List.getElem?_take,if_pos hf,<-h0,ao (by omega)];rfl
  rw [e];have e2:b.take a++ [b[a]'(by omega)]=b.take (a+1):=by rw [List.take_add_one,ao (by omega)];rfl
  rw [e2,Hc n (a+1) (f+1) (by omega) (by omega) λk AK=>by
   have:=hk (k+1) (by omega)
   rwa [show a+(k+1)=a+1+k by omega,show f+(k+1)=f+1+k by omega] at this]
  congr 1;omega
theorem Eb.copy {x b:List UInt8} {a n back:Nat} (h:Eb x (b.take a)) (hn:3<=n) (hn2:n<=130) (hb:1<=back) (hb2:back<=a) (hb3:back<=256) (hl:a+n<=b.length) (hk:∀ k,k< n->b[a+k]?=b[a - back+k]?):
  Eb (x++ [az (n+125),az (back - 1)]) (b.take (a+n)):=⟨λr=>by
 have ht:(az (n+125)).toNat=n+125:=by simp;omega
 have hc:(az (back - 1)).toNat=back - 1:=by simp;omega
 have hla:(b.take a).length=a:=by grind
 rw [aL,h.go];show nE (az (n+125)::az (back - 1)::r) _=_;rw [F5 (by omega),ht,hc,hla,if_neg (by omega),show n+125 - 125=n by omega,show a - (back - 1) - 1=a - back by omega]
 grind [Hc]⟩
end Go.Lm

namespace Go.Proofs
open Go Go.Lm Go.RowKit
set_option maxRecDepth 1000000
def aa0:Ct
 | [.v (.c (.o 0)),.v (.c cl)],[.sl 5 .u8 x],Q=>(match (Ty.sl Ty.u8).of [cl] with
  | some (l,[])=>∃ pre:List UInt8,Eb x pre/\x.length+2*l.length<=1000000000/\∀ y,Eb y (pre++l)->y.length<=x.length+2*l.length->Q (.c (.o 1)) [.gone,.sl 5 .u8 y]
  | _=>False)
 | _,_,_=>False
def ah1:=ah2.add adx
abbrev fC {A0:Type} (y0:List A0) (R:Prop):=List.length y0<=9223372036854775807->R
abbrev yI {A0:Type} (y0:List A0):=ax (IntKind.wrap .u8 (min (aS y0) 128 - 1))
abbrev CE {A0:Type} (y0:List A0):=ax (min (aS y0) bF)
abbrev Pt {A0:Type} (y0:List A0) (R:Prop):=0<=min (aS y0) bF/\min (aS y0) bF<=(aS y0)/\R
def RJ (l:(List (Ty.u8).den)) (x:List UInt8):dx:=λQ=>cU l (aM (λi ag=>fC i.1.2.1 (br (decide ((aS i.1.2.1)>ah)) (aJ (bw i.1.2.1)->aD .i64 (min (aS i.1.2.1) 128 - 1)/\(aD .u8 (IntKind.wrap .u8 (min (aS i.1.2.1) 128 - 1))->Pt i.1.2.1 
 ((List.length i.1.1+List.length [az (yI i.1.2.1)])*1<=ck/\List.length i.1.1+List.length [az (yI i.1.2.1)]<=9223372036854775807/\(List.length (i.1.1++ [az (yI i.1.2.1)])+List.length 
 (List.take (CE i.1.2.1) i.1.2.1))*1<=ck/\List.length (i.1.1++ [az (yI i.1.2.1)])+List.length (List.take (CE i.1.2.1) i.1.2.1)<=9223372036854775807/\Pt i.1.2.1 (ag ((i.1.1++ [az (yI 
 i.1.2.1)]++List.take (CE i.1.2.1) i.1.2.1,List.drop (CE i.1.2.1) i.1.2.1,()),()))))) (Q (SV.v (S1.c (.o 1))) [.gone,.sl 5 Ty.u8 i.1.1]))) ((x,l,()),()))
theorem aiv:cu 193 aa0:=by
 intro args H Q h;unfold aa0 at h;split at h;rotate_left;cases h;rename_i cl x;split at h;rotate_left;cases h;rename_i l hl;refine Wp.said (args':=[.v (.c (.o 0)),.c (.d Ty.u8 l)]) (λE g=>bm.cr (λ_ h=>h) (bm.cr (dH hl) (λ_ h=>h))) ?_;clear hl;refine Wp.dC ah1 ft ⟨[(2,⟨[(0,.own 5 .u8),(1,.d .u8)],[]⟩)],[]⟩ Tryz.f193 (RJ l x) ?_;unfold RJ Pt CE yI fC bw ck cU ah bF aS aJ;obtain ⟨pre,he,hl,h⟩:=h;intro _;refine aM.intro (λi=>∃ p,Eb i.1.1 p/\p++i.1.2.1=pre++l/\i.1.1.length+2*i.1.2.1.length<=x.length+2*l.length) (λi=>i.1.2.1.length) ⟨pre,he,rfl,aG _⟩ ?_;rintro ⟨⟨y,r,_⟩,_⟩ ⟨p,h1,h2,h3⟩;simp only at h1 h2 h3 ⊢;refine λ_=>aq (λhc=>λ_=>?_) (λhc=>?_)
 .have hc:(r.length:Int)>0:=of_decide_eq_true hc;have e1:az (IntKind.wrap .u8 (min (r.length:Int) 128 - 1)).toNat=az ((r.take (min (r.length:Int) 128).toNat).length - 1):=by
   grind [pg, Lit.wf, IntKind.min, mJ, km]
  have fD:(r.take (min (r.length:Int) 128).toNat).length=(min (r.length:Int) 128).toNat:=by rw [aH];omega
  rw [e1];refine ⟨by unfold aD;omega,λ_=>⟨by omega,by omega,?_,?_,?_,?_,by omega,by omega,⟨p++r.take (min (r.length:Int) 128).toNat,?_,?_,?_⟩,?_⟩⟩;rw [ay];omega;rw [ay];omega;rw [af,ay,fD];omega;rw [af,ay,fD];omega
  .have:=h1.run (l:=r.take (min (r.length:Int) 128).toNat) (by rw [fD];omega) (by rw [fD];omega);rw [aL];exact this
  .rw [aL,bX];exact h2
  .rw [af,af,ay,fD,aQ];omega
  .show (r.drop _).length< r.length;rw [aQ];omega
 simp_all
def aaV:Ct:=cD .u8 λb=>cI λm=>c0 λQ=>∃ z:List UInt8,nE b []=some z/\z.length<=m/\m<=1000000/\Q (.cH [.c (.d .u8 z),.c (.k (.int .i64 0))]) []
def ah0:=ah1.add aiv
abbrev fS (y0:List UInt8):=(↑(cK (aB Ty.u8 y0 ah)):Int)
abbrev kf:SV:=.cH [.c (.k bZ),.c (.k (.int .i64 1))]
abbrev sU:SV:=.cH [.c (.k bZ),.c (.k (.int .i64 2))]
abbrev ll:=SV.cH [S1.c (.o 0),.c (.k aR)]
abbrev II {A1:Type} (y0) (y1:List A1) (y2) (y3):=ax (↑(cK (aB Ty.u8 y0 ((aS y1) - (fS y2) - 1+y3))):Int)
abbrev sR (y0:SV->List HO->Prop):=y0 (.cH [.c (.k bZ),.c (.k (.int .i64 3))]) []
abbrev kx (y0:List UInt8) (R:Prop):=Ty.ok Ty.u8 (aB Ty.u8 y0 ah)->R
abbrev Pu {A0 A3:Type} (y0:List A0) (y1) (y2) (y3:List A3) (R:Prop):=ah<=(aS y0) - (fS y1) - 1+y2/\(aS y0) - (fS y1) - 1+y2< (aS y3)/\R
abbrev vg {A1:Type} (y0) (y1:List A1) (R:Prop):=0<=y0/\y0<=(aS y1)/\R
def Fb (b:(List (Ty.u8).den)) (m:Int):dx:=λQ=>cU b (aD .i64 m->br (cV m) (Q kf []) (aM (λi ag=>fC i.1.1 (br (decide ((aS i.1.1)>ah)) (ah<=ah/\ah< (aS i.1.1)/\(kx i.1.1 (ah<=aV/\aV<=(aS i.1.1)/\aD .i64 ((fS 
 i.1.1)+1)/\aD .i64 ((fS i.1.1)+1)/\cG (λk=>br (decide ((fS i.1.1)≥bF)) (aD .i64 ((fS i.1.1) - 125)/\k ((List.drop 1 i.1.1,(fS i.1.1),(fS i.1.1) - 125,aV,()),())) (k ((List.drop 1 i.1.1,(fS 
 i.1.1),(fS i.1.1)+1,(fS i.1.1)+1,()),()))) λbE=>cG (λk=>fC bE.1.1 (br (decide ((aS bE.1.1)< bE.1.2.2.2.1)) (Q sU []) (br (decide (bE.1.2.1≥128)) (ah<=ah/\ah< (aS bE.1.1)/\(kx 
 bE.1.1 (aJ (bw i.1.2.1)->br (decide ((fS bE.1.1)≥(aS i.1.2.1))) (Q sU []) (k ((),()))))) (k ((),()))))) λkH=>fC i.1.2.1 (aD .i64 (m - (aS i.1.2.1))/\br (decide (bE.1.2.2.1>m - (aS i.1.2.1))) (sR Q) 
 (cG (λk=>br (decide (bE.1.2.1< 128)) (vg bE.1.2.2.1 bE.1.1 ((List.length i.1.2.1+List.length (lZ bE.1.2.2.1 bE.1.1))*1<=ck/\List.length i.1.2.1+List.length (lZ bE.1.2.2.1 bE.1.1)<=9223372036854775807 
 /\k ((i.1.2.1++List.take (aU bE.1.2.2.1) bE.1.1,()),()))) (aJ (bw i.1.2.1)->ah<=ah/\ah< (aS bE.1.1)/\(kx bE.1.1 (aD .i64 ((aS i.1.2.1) - (fS bE.1.1))/\aD .i64 ((aS i.1.2.1) - (fS bE.1.1) - 
 1)/\aM (λjU ag=>br (decide (jU.1.1< bE.1.2.2.1)) (aD .i64 ((aS i.1.2.1) - (fS bE.1.1) - 1+jU.1.1)/\Pu i.1.2.1 bE.1.1 jU.1.1 jU.1.2.1 (Pu i.1.2.1 bE.1.1 jU.1.1 jU.1.2.1 (Ty.ok Ty.u8 (aB Ty.u8 jU.1.2.1 
 ((aS i.1.2.1) - (fS bE.1.1) - 1+jU.1.1))->(List.length jU.1.2.1+List.length [az (II jU.1.2.1 i.1.2.1 bE.1.1 jU.1.1)])*1<=ck/\List.length jU.1.2.1+List.length [az (II jU.1.2.1 i.1.2.1 
 bE.1.1 jU.1.1)]<=9223372036854775807/\cF jU.1.1 (ag ((jU.1.1+1,jU.1.2.1++ [az (II jU.1.2.1 i.1.2.1 bE.1.1 jU.1.1)],()),()))))) (k (jU.1.2,()))) ((ah,i.1.2),()))))) λi=>vg bE.1.2.2.2.1 bE.1.1 
 (ag ((List.drop (aU bE.1.2.2.2.1) bE.1.1,i.1),()))))))) (Q ll [.sl 5 Ty.u8 i.1.2.1]))) ((b,[],()),())))
theorem XB:cu 110 aaV:=eQ<| jm λb=>nG λm=>gM λQ h=>by
 refine Wp.agD (e:=.u8) ?_;refine Wp.dC ah0 ft ⟨[(5,⟨[(0,.d .u8),(6,.own 5 .u8)],[]⟩),(19,⟨[(70,.int .i64),(6,.own 5 .u8)],[]⟩)],[(11,⟨[(0,.d .u8),(7,.int .i64),(8,.int .i64),(9,.int .i64)],[]⟩),(13,⟨[],[]⟩),(23,⟨[(6,.own 5 .u8)],[]⟩)]⟩ Tryz.f110 (Fb b m) ?_;unfold Fb vg Pu kx sR II ll lZ sU cV cF fC kf bw ck cU bZ aU aR fS ah aV bF aS aJ;obtain ⟨z,hz,hm,hm2,h⟩:=h;refine λ_ _=>aq (λhc=>?_) (λ_=>?_)
 .have hc:m< 0:=of_decide_eq_true hc;omega
 refine aM.intro (λi=>nE i.1.1 i.1.2.1=some z) (λi=>i.1.1.length) hz ?_;rintro ⟨⟨r,out,_⟩,_⟩ h1;simp only at h1 ⊢;refine λ_=>aq (λhc=>?_) (λhc=>?_);rotate_left
 .have hc:¬(r.length:Int)>0:=of_decide_eq_false hc;have:r= []:=bA (by omega);subst this;rw [BT] at h1;obtain rfl:=aj h1;exact .inr (.inr ⟨0,5,out,.int .i64 0,rfl,cY _,rfl,h⟩)
 cases r with
 | nil=>simp at hc
 | cons t r=>
 have hlz:=wu (aG _) h1;have ht:=UInt8.toNat_lt t;have e0:aB .u8 (t::r) 0=t:=rfl;rw [e0];refine ⟨bB _,by simp only [av];omega,λ_=>⟨by omega,by simp only [av];omega,by unfold aD;omega,by unfold aD;omega,?_⟩⟩;simp only [List.drop_one,List.tail_cons];refine cG.intro (λi=>i.1.1=r/\i.1.2.1=(t.toNat:Int)/\(t.toNat< 128->i.1.2.2.1=(t.toNat:Int)+1/\i.1.2.2.2.1=(t.toNat:Int)+1)/\(¬t.toNat< 128->i.1.2.2.1=(t.toNat:Int) - 125/\i.1.2.2.2.1=1)) (aq (λhd=>⟨by unfold aD;omega,rfl,rfl,λhq=>?_,λ_=>⟨rfl,rfl⟩⟩) (λhd=>⟨rfl,rfl,λ_=>⟨rfl,rfl⟩,λhq=>?_⟩)) ?_
 .have hd:(t.toNat:Int)≥128:=of_decide_eq_true hd;omega
 .have hd:¬(t.toNat:Int)≥128:=of_decide_eq_false hd;omega
 rintro ⟨⟨r',t',n,nd,_⟩,_⟩ ⟨g1,g2,g3,g4⟩;simp only at g1 g2 g3 g4 ⊢;subst g1 g2;have key:(t.toNat< 128/\n=(t.toNat:Int)+1/\nd=(t.toNat:Int)+1/\t.toNat+1<=r'.length/\out.length+(t.toNat+1)<=z.length/\nE (r'.drop (t.toNat+1)) (out++r'.take (t.toNat+1))=some z)\/
   (¬t.toNat< 128/\n=(t.toNat:Int) - 125/\nd=1/\∃ c q,r'=c::q/\c.toNat< out.length/\out.length+(t.toNat - 125)<=z.length/\nE q (mf (t.toNat - 125) out (out.length - c.toNat - 1))=some z):=by
  by_cases hq:t.toNat< 128
  .obtain ⟨k1,k2⟩:=Su hq h1;have:=wu (aG _) k2;rw [af,aH] at this;exact .inl ⟨hq,(g3 hq).1,(g3 hq).2,k1,by omega,k2⟩
  .obtain ⟨c,q,k0,k1,k2⟩:=LY hq h1;have:=wu (aG _) k2;rw [vS] at this;exact .inr ⟨hq,(g4 hq).1,(g4 hq).2,c,q,k0,k1,this,k2⟩
 clear g3 g4 h1;refine cG.intro (λ_=>True) (λ_=>aq (λhd=>?_) (λ_=>aq (λhd=>⟨bB _,?_,λ_ _=>aq (λhf=>?_) (λ_=>trivial)⟩) (λ_=>trivial))) ?_
 .have hd:(r'.length:Int)< nd:=of_decide_eq_true hd;rcases key with ⟨_,_,k2,k3,_⟩| ⟨_,_,k2,c,q,k3,_⟩
  .omega
  .rw [k3,av] at hd;omega
 .have hd:(t.toNat:Int)≥128:=of_decide_eq_true hd;rcases key with ⟨k1,_⟩| ⟨_,_,_,c,q,k3,_⟩
  .omega
  .rw [k3,av];omega
 .have hd:(t.toNat:Int)≥128:=of_decide_eq_true hd;have hf:(cK (aB .u8 r' 0):Int)≥(out.length:Int):=of_decide_eq_true hf;rcases key with ⟨k1,_⟩| ⟨_,_,_,c,q,k3,k4,_⟩
  .omega
  .rw [k3] at hf;have e3:aB .u8 (c::q) 0=c:=rfl;rw [e3] at hf;omega
 rintro ⟨_,_⟩ _;refine λ_=>⟨by unfold aD;omega,aq (λhd=>?_) (λ_=>?_)⟩
 .have hd:n>m - (out.length:Int):=of_decide_eq_true hd;rcases key with ⟨_,_,_,_,k5,_⟩| ⟨_,_,_,_,_,_,_,k5,_⟩<;>omega
 refine cG.intro (λi=>0<=nd/\nd<=(r'.length:Int)/\nE (r'.drop nd.toNat) i.1.1=some z) (aq (λhd=>?_) (λhd=>?_)) ?_
 .have hd:(t.toNat:Int)< 128:=of_decide_eq_true hd;rcases key with ⟨_,k1,k2,k3,k4,k5⟩| ⟨k0,_⟩
  .have e4:n.toNat=t.toNat+1:=by omega
   have e5:nd.toNat=t.toNat+1:=by omega
   rw [e4,e5];exact ⟨by omega,by omega,by rw [aH];omega,by rw [aH];omega,by omega,by omega,k5⟩
  .omega
 .have hd:¬(t.toNat:Int)< 128:=of_decide_eq_false hd;rcases key with ⟨k0,_⟩| ⟨_,k1,k2,c,q,k3,k4,k5,k6⟩
  .omega
  subst k3 k2;have e3:aB .u8 (c::q) 0=c:=rfl;rw [e3];refine λ_=>⟨bB _,by simp only [av];omega,λ_=>⟨by unfold aD;omega,by unfold aD;omega,?_⟩⟩;refine aM.intro (λi=>0<=i.1.1/\i.1.1<=n/\i.1.2.1.length=out.length+i.1.1.toNat/\mf (n - i.1.1).toNat i.1.2.1 (out.length - c.toNat - 1+i.1.1.toNat)=mf (t.toNat - 125) out (out.length - c.toNat - 1)) (λi=>(n - i.1.1).toNat) ⟨by simp,by show (0:Int)<=n;omega,rfl,by show mf (n - 0).toNat out _=_;rw [show (n - 0).toNat=t.toNat - 125 by omega];rfl⟩ ?_;rintro ⟨⟨j,y,_⟩,_⟩ ⟨j0,j1,j2,j3⟩;simp only at j0 j1 j2 j3 ⊢;refine aq (λhf=>?_) (λhf=>?_)
  .have hf:j< n:=of_decide_eq_true hf;refine ⟨by unfold aD;omega,by omega,by rw [j2];omega,by omega,by rw [j2];omega,λ_=>⟨?_,?_,by unfold aD;omega,⟨by omega,by omega,?_,?_⟩,by omega⟩⟩
   .rw [ay];omega
   .rw [ay];omega
   .rw [af,ay];omega
   .rw [<-j3,show (n - j).toNat=(n - (j+1)).toNat+1 by omega];show _=mf _ (y++ [_]) _;have e6:az ((cK (aB .u8 y ((out.length:Int) - (c.toNat:Int) - 1+j)):Int)).toNat=y.getD (out.length - c.toNat - 1+j.toNat) 0:=by
     rw [bM,UInt8.ofNat_toNat];unfold aB;rw [show ((out.length:Int) - (c.toNat:Int) - 1+j).toNat=out.length - c.toNat - 1+j.toNat by omega];rfl
    rw [e6,show out.length - c.toNat - 1+(j+1).toNat=out.length - c.toNat - 1+j.toNat+1 by omega]
  .have hf:¬j< n:=of_decide_eq_false hf;rw [show (n - j).toNat=0 by omega] at j3;refine ⟨by omega,by simp only [av];omega,?_⟩;rw [<-j3] at k6;exact k6
 rintro ⟨⟨y,_⟩,_⟩ ⟨k1,k2,k3⟩;refine ⟨k1,k2,k3,?_⟩;show (r'.drop nd.toNat).length< (t::r').length;rw [aQ,av];omega
def akK:Ct:=cD .u8 λb=>cI λa=>cI λo=>c0 λQ=>(0<=a/\a<=b.length)/\(0<=o/\o< a)/\b.length<=1000000/\∀ n:Int,0<=n->n<=130->a+n<=b.length->(∀ k,k< n.toNat->b[a.toNat+k]?=b[o.toNat+k]?)->(n< 3->a+n< b.length->b[a.toNat+n.toNat]?≠b[o.toNat+n.toNat]?)->Q (.int n) []
def ahZ:=ah0.add XB
abbrev dP (y0) (y1:_->Prop):=aD .i64 (y0+1)/\y1 ((y0+1,()),())
abbrev dE:=((ah,()),())
def RY (b:(List (Ty.u8).den)) (a o:Int):dx:=λQ=>cU b (cg a o (aM (λi ag=>br (decide (i.1.1< 130)) (aD .i64 (a+i.1.1)/\(aJ (dy b)->br (decide (a+i.1.1< (aA b))) (aD .i64 (a+i.1.1)/\0<=a+i.1.1/\a+i.1.1< (aA b)/\(Ty.ok Ty.u8 (aB 
 Ty.u8 b (a+i.1.1))->aD .i64 (o+i.1.1)/\0<=o+i.1.1/\o+i.1.1< (aA b)/\(Ty.ok Ty.u8 (aB Ty.u8 b (o+i.1.1))->br ((↑(cK (aB Ty.u8 b (a+i.1.1))):Int)==(↑(cK (aB Ty.u8 b (o+i.1.1))):Int)) (dP 
 i.1.1 ag) (Q (gF i.1.1) [])))) (Q (gF i.1.1) []))) (Q (gF i.1.1) [])) dE))
theorem aiE:cu 226 akK:=eQ<| jm λb=>nG λa=>nG λo=>gM λQ h=>by
 refine Wp.dC ahZ ft ⟨[(3,⟨[(7,.int .i64)],[]⟩)],[]⟩ Tryz.f226 (RY b a o) ?_;unfold RY gF dy dE cg cU dP aC ah aA aJ;obtain ⟨⟨a0,a1⟩,⟨o0,o1⟩,hl,h⟩:=h;intro _ _ _;refine aM.intro (λi=>0<=i.1.1/\i.1.1<=130/\a+i.1.1<=b.length/\∀ k,k< i.1.1.toNat->b[a.toNat+k]?=b[o.toNat+k]?) (λi=>(130 - i.1.1).toNat) ⟨by simp,by simp,by simpa using a1,λk hk=>by simp at hk⟩ ?_;rintro ⟨⟨i,_⟩,_⟩ ⟨h0,h1,h2,h3⟩;simp only at h0 h1 h2 h3 ⊢;refine aq (λhc=>⟨by unfold aD;omega,λ_=>aq (λhd=>?_) (λhd=>?_)⟩) (λhc=>?_)
 .have hc:i< 130:=of_decide_eq_true hc;have hd:a+i< (b.length:Int):=of_decide_eq_true hd;have ea:b[a.toNat+i.toNat]?=some (aB .u8 b (a+i)):=by
   unfold aB;rw [show (a+i).toNat=a.toNat+i.toNat by omega,ep,ao (by omega)];rfl
  have eo:b[o.toNat+i.toNat]?=some (aB .u8 b (o+i)):=by
   unfold aB;rw [show (o+i).toNat=o.toNat+i.toNat by omega,ep,ao (by omega)];rfl
  refine ⟨by unfold aD;omega,by omega,hd,λ_=>⟨by unfold aD;omega,by omega,by omega,λ_=>aq (λhe=>?_) (λhe=>?_)⟩⟩
  .have he:=eq_of_beq he;refine ⟨by unfold aD;omega,⟨by omega,by omega,by omega,λk hk=>?_⟩,by omega⟩;by_cases hq:k=i.toNat
   .subst hq;rw [ea,eo,UInt8.toNat_inj.1 (Int.ofNat.inj he)]
   .exact h3 k (by omega)
  .refine h i h0 h1 h2 h3 λ_ _ e=>?_;rw [ea,eo] at e;rw [aj e] at he;simp at he
 .have hd:¬a+i< (b.length:Int):=of_decide_eq_false hd;exact h i h0 h1 h2 h3 λ_ hq=>absurd hq hd
 .have hc:¬i< 130:=of_decide_eq_false hc;exact h i h0 h1 h2 h3 λhq=>by omega
end Go.Proofs

namespace Go.Lm
open Go
theorem ixG {e:Ty} {l:List e.den} {i:Int} (h0:0<=i) (h:i< l.length):aB e l i=l[i.toNat]'(by omega):=by
 grind [aB]
theorem ixT {e:Ty} {l:List e.den} {i:Int} (h0:0<=i) (h:i< l.length):l.take (i+1).toNat=l.take i.toNat++ [aB e l i]:=by
 rw [ixG h0 h,show (i+1).toNat=i.toNat+1 by omega,bG (by omega)]
theorem tk {e:Ty} {l:List e.den} {i:Int} (h0:0<=i) (h:i< l.length):aB e l i∈l:=by
 grind [ixG]
theorem ixR {e:Ty} {l:List e.den} {i:Int} (h0:0<=i) (h:i< l.length):l.drop i.toNat=aB e l i::l.drop (i+1).toNat:=by
 grind [ixG, bO]
def Jv (b:List UInt8) (x:Int):K3:=(b.getD x.toNat 0,b.getD (x.toNat+1) 0,b.getD (x.toNat+2) 0)
structure pP (b:List UInt8) (t:Int) (M:uE):Prop where
 len:M.length<=t
 all:∀ p∈M,p.2.2.length<=t/\∀ x∈p.2.2,0<=x/\x< t/\x+3<=b.length/\Jv b x=p.1
theorem pP.nil (b:List UInt8):pP b 0 []:=⟨by simp,by grind⟩
theorem pP.later {b:List UInt8} {t u:Int} {M:uE} (h:pP b t M) (hu:t<=u):pP b u M:=⟨by have:=h.len;omega,λp hp=>⟨by have:=(h.all p hp).1;omega,λx hx=>by have:=(h.all p hp).2 x hx;grind⟩⟩
theorem pP.find {b:List UInt8} {t:Int} {M:uE} {k:K3} {o:Option (Nat×Value)} {xs:List Int} (h:pP b t M) (h0:0<=t) (f:FindM M k o xs):xs.length<=t/\∀ x∈xs,0<=x/\x< t/\x+3<=b.length/\Jv b x=k:=by
 cases f with
 | «at» i v xs hi=>exact h.all _ (ka hi)
 | no _=>grind
theorem pP.put {b:List UInt8} {t:Int} {M:uE} {o:Option (Nat×Value)} {xs:List Int} {v:Value} (h:pP b t M) (h0:0<=t) (hl:t+3<=b.length) (f:FindM M (Jv b t) o xs):pP b (t+1) ((Jv b t,v,xs++ [t])::(Option.rec M (λval=>List.eraseIdx M val.fst) o:uE)):=by
 have e0:(Option.rec M (λval=>List.eraseIdx M val.fst) o:uE)=Ik M o:=by cases o<;>rfl
 rw [e0];have hx:=h.find h0 f;have hm:(Ik M o).length<=t/\∀ p∈Ik M o,p∈M:=by
  cases o with
  | none=>exact ⟨h.len,λ_ q=>q⟩
  | some q=>
   refine ⟨?_,λp hp=>List.mem_of_mem_eraseIdx hp⟩;have:=h.len
   grind
 refine ⟨by grind,λp hp=>?_⟩;rcases bz.1 hp with rfl| hp
 .grind
 .have:=h.all p (hm.2 p hp)
  grind
theorem Tr (b:List UInt8) (i:Int):((az (ax (↑(cK (aB (ke (3:Nat)) [rowOf (List.drop (ax i) b) (3:Nat) (0:Nat)] (0:Int)).fst):Int)),az (ax (↑(cK (aB (ke (3:Nat)) [rowOf (List.drop (ax i) b) (3:Nat) (0:Nat)] (0:Int)).snd.fst):Int)),az (ax (↑(cK (aB (ke (3:Nat)) [rowOf (List.drop (ax i) b) (3:Nat) (0:Nat)] (0:Int)).snd.snd.fst):Int))):K3)=Jv b i:=by
 have e:∀ x:UInt8,az (ax (x.toNat:Int))=x:=by simp
 have g:∀ k,(List.drop (ax i) b).getD k 0=b.getD (i.toNat+k) 0:=by grind
 rw [e,e,e];unfold Jv;rw [<-g 1,<-g 2,<-Nat.add_zero i.toNat,<-g 0];rfl
theorem QZ {M:uE} {k:K3} {o:Option (Nat×Value)} {xs:List Int} (f:FindM M k o xs):(Option.rec M (λval=>List.set M val.fst (k,val.snd,xs)) o:uE)=M:=by
 cases f with
 | «at» i v xs hi=>exact wB hi
 | no _=>rfl
theorem V3 {b:List UInt8} {x y:Int} (h:Jv b x=Jv b y) (hx:x+3<=b.length) (hy:y+3<=b.length) (x0:0<=x) (y0:0<=y) {k:Nat} (hk:k< 3):b[x.toNat+k]?=b[y.toNat+k]?:=by
 unfold Jv at h;have g:∀ j,j< b.length->b[j]?=some (b.getD j 0):=by grind
 rw [g _ (by omega),g _ (by omega)];simp only [Prod.mk.injEq] at h;obtain ⟨h1,h2,h3⟩:=h
 match k,hk with
 | 0,_=>grind
 | 1,_=>rw [h2]
 | 2,_=>rw [h3]
structure alR (b:List UInt8) (a n back:Int):Prop where
 or:(n=0/\back=0)\/(3<=n/\n<=130/\1<=back/\back<=256/\back<=a/\a+n<=b.length/\∀ k,k< n.toNat->b[a.toNat+k]?=b[a.toNat - back.toNat+k]?)
end Go.Lm

namespace Go.Proofs
open Go Go.Lm Go.RowKit
set_option maxRecDepth 1000000
def aa3:Ct
 | [.v (.c (.m 0)),.v (.c cb),.v (.c (.k (.int .i64 a))),.v (.c (.k (.int .i64 t)))],[.ab (.ch 321 3 M)],Q=>(match (Ty.sl Ty.u8).of [cb] with
  | some (b,[])=>(0<=a/\a<=t/\t<=b.length)/\b.length<=1000000/\pP b a M/\∀ M',pP b t M'->Q .tO [.ab (.ch 321 3 M')]
  | _=>False)
 | _,_,_=>False
def ahY:=ahZ.add aiE
abbrev VL (y0:Int) (y1:List (Ty.u8).den):=(az (ax (↑(cK (aB (ke eI) [rowOf (List.drop (ax y0) y1) eI bx] ah).1):Int)),az (ax (↑(cK (aB (ke eI) [rowOf (List.drop (ax y0) y1) eI bx] ah).2.1):Int)),az (ax (↑(cK (aB (ke eI) [rowOf (List.drop (ax y0) y1) eI bx] ah).2.2.1):Int)))
abbrev lY {A0:Type} (y0:List A0) (R:Prop):=List.length y0< 9223372036854775807/\R
abbrev yw (y0:uE):=AbK.ch (321:TypeId) (3:TypeId) y0
abbrev qM (y0) (y1:List (Ty.u8).den):=List.drop (aU y0) y1
def RS (b:(List (Ty.u8).den)) (a t:Int) (M:uE):dx:=λQ=>cU b (cg a t (aM (λi ag=>br (decide (i.1.1< t)) (aD .i64 (i.1.1+3)/\(aJ (dy b)->br (decide (i.1.1+3<=(aA b))) (0<=i.1.1/\i.1.1<=(aA b)/\3<=List.length (qM i.1.1 b)/\(Ty.ok (ke 
 eI) (aB (ke eI) [rowOf (qM i.1.1 b) eI bx] ah)->lY i.2.1 (∀ (o:Option (Nat×Value)) (xs:List Int) (st:Nat),FindM i.2.1 (VL i.1.1 b) o xs->(List.length xs+List.length [i.1.1])*8<=ck/\ 
 List.length xs+List.length [i.1.1]<=9223372036854775807/\(↑st:Int)=(↑st:Int)/\∀ (v:Value),cF i.1.1 (ag ((i.1.1+1,()),((VL i.1.1 b),v,xs++ [i.1.1])::Option.rec i.2.1 (λval=>List.eraseIdx i.2.1 val.1) o, 
 ()))))) (Q (SV.cH []) [HO.ab (yw i.2.1)]))) (Q (SV.cH []) [HO.ab (yw i.2.1)])) ((a,()),M,())))
theorem aiA:cu 192 aa3:=by
 intro args H Q h;unfold aa3 at h;split at h;rotate_left;cases h;rename_i cb a t M;split at h;rotate_left;cases h;rename_i b hb;refine Wp.said (args':=[.v (.c (.m 0)),.c (.d Ty.u8 b),.int a,.int t]) (λE g=>bm.cr (λ_ h=>h) (bm.cr (dH hb) (bm.cr (λ_ h=>h) (bm.cr (λ_ h=>h) (λ_ h=>h))))) ?_;clear hb;refine Wp.dC ahY ft ⟨[(2,⟨[(8,.int .i64)],[(0,.ab (.ch 321 3))]⟩)],[]⟩ Tryz.f192 (RS b a t M) ?_;unfold RS qM yw dy lY cg cF ck cU aU VL ah aA aJ bx eI;obtain ⟨⟨a0,a1,a2⟩,hl,hM,h⟩:=h;intro _ _ _;refine aM.intro (λi=>0<=i.1.1/\i.1.1<=t/\pP b i.1.1 i.2.1) (λi=>(t - i.1.1).toNat) ⟨a0,a1,hM⟩ ?_;rintro ⟨⟨i,_⟩,M1,_⟩ ⟨h0,h1,h2⟩;simp only at h0 h1 h2 ⊢;refine aq (λhc=>⟨by unfold aD;omega,λ_=>aq (λhd=>?_) (λ_=>?_)⟩) (λ_=>?_)
 .have hc:i< t:=of_decide_eq_true hc;have hd:i+3<=(b.length:Int):=of_decide_eq_true hd;rw [Tr];refine ⟨h0,by omega,by rw [aQ];omega,λ_=>⟨by have:=h2.len;omega,λo xs st hf=>?_⟩⟩;have:=h2.find h0 hf;exact ⟨by simp only [ay];omega,by simp only [ay];omega,trivial,λv=>⟨by unfold aD;omega,⟨by omega,by omega,h2.put h0 hd hf⟩,by omega⟩⟩
 .exact h M1 (h2.later h1)
 .exact h M1 (h2.later h1)
def T8:Ct
 | [.v (.c (.m 0)),.v (.c cb),.v (.c (.k (.int .i64 a)))],[.ab (.ch 321 3 M)],Q=>(match (Ty.sl Ty.u8).of [cb] with
  | some (b,[])=>(0<=a/\a< b.length)/\b.length<=1000000/\pP b a M/\∀ n k,alR b a n k->Q (.cH [.c (.k (.int .i64 n)),.c (.k (.int .i64 k))]) [.ab (.ch 321 3 M)]
  | _=>False)
 | _,_,_=>False
def ahX:=ahY.add aiA
abbrev Py (y0:SV->List HO->Prop) (y1) (y2) (y3:uE) (y4:Int) (y5:List (Ty.u8).den) (y6:List Int) (y7:Option (Nat×Value)):=y0 (.cH [.c (.k (aC y1)),.c (.k (aC y2))]) [HO.ab (AbK.ch (321:TypeId) (3:TypeId) (Option.rec y3 (λval=>List.set y3 val.1 ((VL y4 y5),val.2,y6)) y7))]
abbrev oD (y0:Int) (y1:List (Ty.u8).den):=List.drop (aU y0) y1
abbrev yx:SV:=.cH [.c (.k aR),.c (.k aR)]
def Ll (b:(List (Ty.u8).den)) (a:Int) (M:uE):dx:=λQ=>cU b (aD .i64 a->br (cV a) (Q yx [HO.ab (yw M)]) (aD .i64 (a+3)/\(aJ (dy b)->br (decide (a+3>(aA b))) (Q yx [HO.ab (yw M)]) (0<=a/\a<=(aA b)/\3<=List.length (oD a b)/\ 
 (Ty.ok (ke eI) (aB (ke eI) [rowOf (oD a b) eI bx] ah)->∀ (o:Option (Nat×Value)) (xs:List Int),FindM M (VL a b) o xs->aJ (List.length xs)->aD .i64 ((aA xs) - 1)/\aM (λi ag=>br (decide 
 (i.1.1≥0)) (0<=i.1.1/\i.1.1< (aA xs)/\0<=i.1.1/\i.1.1< (aA xs)/\(Ty.ok bo (aB bo xs i.1.1)->aD .i64 (a - aB bo xs i.1.1)/\br (decide (a - aB bo xs i.1.1>256)) (Py Q i.1.2.1 i.1.2.2.1 M a b xs o) (0<=i.1.1 
 /\i.1.1< (aA xs)/\0<=i.1.1/\i.1.1< (aA xs)/\(Ty.ok bo (aB bo xs i.1.1)->(0<=a/\a<=(aA b))/\(0<=aB bo xs i.1.1/\aB bo xs i.1.1< a)/\List.length b<=1000000/\∀ (n:Int),0<=n->n<=130->a+n<=(aA b)-> 
 (∀ (k:Nat),k< ax n->b[ax a+k]?=b[ax (aB bo xs i.1.1)+k]?)->(n< 3->a+n< (aA b)->b[ax a+ax n]?≠b[ax (aB bo xs i.1.1)+ax n]?)->aD .i64 n->br (decide (n> 
 i.1.2.1)) (0<=i.1.1/\i.1.1< (aA xs)/\0<=i.1.1/\i.1.1< (aA xs)/\(Ty.ok bo (aB bo xs i.1.1)->aD .i64 (a - aB bo xs i.1.1)/\aD .i64 (i.1.1 - 1)/\ag ((i.1.1 - 1,n,a - aB bo xs i.1.1,()),()))) (aD .i64 (i.1.1 - 
 1)/\ag ((i.1.1 - 1,i.1.2),())))))) (Py Q i.1.2.1 i.1.2.2.1 M a b xs o)) (((aA xs) - 1,ah,ah,()),()))))))
theorem adW:cu 191 T8:=by
 intro args H Q h;unfold T8 at h;split at h;rotate_left;cases h;rename_i cb a M;split at h;rotate_left;cases h;rename_i b hb;refine Wp.said (args':=[.v (.c (.m 0)),.c (.d Ty.u8 b),.int a]) (λE g=>bm.cr (λ_ h=>h) (bm.cr (dH hb) (bm.cr (λ_ h=>h) (λ_ h=>h)))) ?_;clear hb;refine Wp.dC ahX ft ⟨[(6,⟨[(9,.int .i64),(6,.int .i64),(7,.int .i64)],[]⟩)],[]⟩ Tryz.f191 (Ll b a M) (clo:=true) ?_;unfold Ll yw yx oD Py dy cV cU aU aR VL aC ah aA aJ bx eI bo;obtain ⟨⟨a0,a1⟩,hl,hM,h⟩:=h;have hz:=h 0 0 ⟨.inl ⟨rfl,rfl⟩⟩;intro _ _;refine aq (λ_=>hz) (λ_=>⟨by unfold aD;omega,λ_=>aq (λ_=>hz) (λhc=>?_)⟩);have hc:¬a+3>(b.length:Int):=of_decide_eq_false hc;rw [Tr];refine ⟨a0,by omega,by rw [aQ];omega,λ_ o xs hf _=>?_⟩;have hb:=QZ hf;have hx:=hM.find a0 hf;refine ⟨by unfold aD;omega,?_⟩;simp only [hb];refine aM.intro (λi=> -1<=i.1.1/\i.1.1< xs.length/\alR b a i.1.2.1 i.1.2.2.1) (λi=>(i.1.1+1).toNat) ⟨by show -1<=(xs.length:Int) - 1;omega,by show (xs.length:Int) - 1< _;omega,⟨.inl ⟨rfl,rfl⟩⟩⟩ ?_;rintro ⟨⟨i,n,k,_⟩,_⟩ ⟨h0,h1,h2⟩;simp only at h0 h1 h2 ⊢;refine aq (λhc=>?_) (λ_=>h n k h2);have hc:i≥0:=of_decide_eq_true hc;have hm:=hx.2 _ (tk (e:=.int .i64) hc h1);generalize aB (Ty.int IntKind.i64) xs i=x at hm ⊢;refine ⟨hc,h1,hc,h1,λ_=>⟨by unfold aD;omega,aq (λ_=>h n k h2) (λhd=>?_)⟩⟩;have hd:¬a - x>256:=of_decide_eq_false hd;obtain ⟨x0,x1,x2,x3⟩:=hm;refine ⟨hc,h1,hc,h1,λ_=>⟨⟨a0,by omega⟩,⟨x0,x1⟩,by omega,λm m0 m1 m2 m3 m4 _=>aq (λhe=>?_) (λ_=>⟨by unfold aD;omega,⟨by omega,by omega,h2⟩,by omega⟩)⟩⟩;have m5:3<=m:=by
  rcases Int.lt_or_le m 3 with q| q;exact absurd (V3 x3.symm (by omega) x2 a0 x0 (by omega)) (m4 q (by omega));exact q
 exact ⟨hc,h1,hc,h1,λ_=>⟨by unfold aD;omega,by unfold aD;omega,⟨by omega,by omega,⟨.inr ⟨m5,m1,by omega,by omega,by omega,m2,λq hq=>by rw [m3 q hq,show x.toNat=a.toNat - (a - x).toNat by omega]⟩⟩⟩,by omega⟩⟩
def akF:Ct:=cD .u8 λb=>c0 λQ=>b.length<=4096/\∀ y:List UInt8,Eb y b->y.length<=2*b.length->Q (.cH [.c (.d .u8 y),.c (.k (.int .i64 0))]) []
def ahW:=ahX.add adW
abbrev It (y0:Int):=ax (IntKind.wrap .u8 (y0+125))
abbrev Iq (y0:Int):=ax (IntKind.wrap .u8 (y0 - 1))
def RQ (b:(List (Ty.u8).den)):dx:=λQ=>cU b (aJ (dy b)->br (decide ((aA b)>(4096:Int))) (sR Q) (aM (λi ag=>cU b (br (decide (i.1.1< (aA b))) ((0<=i.1.1/\i.1.1< (aA b))/\List.length b<=1000000/\pP b i.1.1 i.2.1/\∀ (n k: 
 Int),alR b i.1.1 n k->cg n k (br (n==0) (cF i.1.1 ((0<=i.1.1/\i.1.1<=i.1.1+1/\i.1.1+1<=(aA b))/\List.length b<=1000000/\pP b i.1.1 i.2.1/\∀ (M':uE),pP b (i.1.1+1) M'->cF i.1.1 (ag ((i.1.1+1, 
 i.1.2),M',())))) (0<=i.1.2.1/\i.1.2.1<=i.1.1/\i.1.1<=(aA b)/\∃ pre,Eb i.1.2.2.1 pre/\List.length i.1.2.2.1+2*List.length (List.take (ax i.1.1 - ax i.1.2.1) (qM i.1.2.1 b))<=1000000000/\∀ (y:List 
 UInt8),Eb y (pre++List.take (ax i.1.1 - ax i.1.2.1) (qM i.1.2.1 b))->List.length y<=List.length i.1.2.2.1+2*List.length (List.take (ax i.1.1 - ax i.1.2.1) (qM i.1.2.1 b))->aD .i64 (n+125)/\ 
 (aD .u8 (IntKind.wrap .u8 (n+125))->aD .i64 (k - 1)/\(aD .u8 (IntKind.wrap .u8 (k - 1))->(List.length y+List.length [az (It n),az (Iq k)])*1<=ck/\List.length y+List.length [az (It 
 n),az (Iq k)]<=9223372036854775807/\aD .i64 (i.1.1+n)/\(0<=i.1.1/\i.1.1<=i.1.1+n/\i.1.1+n<=(aA b))/\List.length b<=1000000/\pP b i.1.1 i.2.1/\∀ (M':uE),pP b (i.1.1+n) M'->aD .i64 (i.1.1+n)/\ 
 ag ((i.1.1+n,i.1.1+n,y++ [az (It n),az (Iq k)],()),M',())))))) (0<=i.1.2.1/\i.1.2.1<=(aA b)/\∃ pre,Eb i.1.2.2.1 pre/\List.length i.1.2.2.1+2*List.length (qM i.1.2.1 b)<=1000000000/\∀ 
 (y:List UInt8),Eb y (pre++List.drop (aU i.1.2.1) b)->List.length y<=List.length i.1.2.2.1+2*List.length (qM i.1.2.1 b)->Q ll [.sl 5 Ty.u8 y]))) ((ah,ah,[],()),[],())))
theorem aiz:cu 141 akF:=eQ<| jm λb=>gM λQ h=>by
 refine Wp.agD (e:=.u8) ?_;refine Wp.dC ahW ft ⟨[(8,⟨[(7,.int .i64),(6,.int .i64),(5,.own 5 .u8)],[(0,.ab (.ch 321 3))]⟩)],[]⟩ Tryz.f141 (RQ b) ?_;unfold RQ Iq It qM sR dy ll cg cF ck cU bZ aU aR ah aA aJ;obtain ⟨hl,h⟩:=h;refine λ_ _=>aq (λhc=>absurd (of_decide_eq_true hc) (by omega)) (λ_=>?_);refine aM.intro (λi=>0<=i.1.2.1/\i.1.2.1<=i.1.1/\i.1.1<=b.length/\pP b i.1.1 i.2.1/\Eb i.1.2.2.1 (b.take i.1.2.1.toNat)/\i.1.2.2.1.length<=2*i.1.2.1.toNat) (λi=>b.length - i.1.1.toNat) ⟨by simp,by simp,by simp,pP.nil b,Eb.nil,by simp⟩ ?_;rintro ⟨⟨a,f,x,_⟩,M,_⟩ ⟨h0,h1,h2,h3,h4,h5⟩;simp only at h0 h1 h2 h3 h4 h5 ⊢;refine λ_=>aq (λhc=>?_) (λhc=>?_)
 .have hc:a< (b.length:Int):=of_decide_eq_true hc;have ht:(b.drop f.toNat).take (a.toNat - f.toNat)=(b.take a.toNat).drop f.toNat:=by rw [lG]
  have fD:((b.drop f.toNat).take (a.toNat - f.toNat)).length=a.toNat - f.toNat:=by rw [aH,aQ];omega
  have hj:b.take f.toNat++(b.drop f.toNat).take (a.toNat - f.toNat)=b.take a.toNat:=by
   rw [ht];have:=bX f.toNat (b.take a.toNat);rw [o9,pB (by omega)] at this;exact this
  refine ⟨⟨by omega,hc⟩,by omega,h3,λn k hcp _ _=>aq (λhn=>?_) (λhn=>?_)⟩;exact ⟨by unfold aD;omega,⟨by omega,by omega,by omega⟩,by omega,h3,λM' hM=>⟨by unfold aD;omega,⟨by omega,by omega,by omega,hM,h4,h5⟩,by omega⟩⟩
  .have hn:¬n=0:=by simpa using hn
   rcases hcp.or with ⟨q,_⟩| ⟨n0,n1,k0,k1,k2,n2,hk⟩;exact absurd q hn;refine ⟨h0,h1,h2,b.take f.toNat,h4,by rw [fD];omega,λy hy hyl=>?_⟩;rw [hj] at hy;rw [fD] at hyl;have w1:IntKind.wrap .u8 (n+125)=n+125:=pg (by simp [Lit.wf,IntKind.min,mJ,il,km];omega);have w2:IntKind.wrap .u8 (k - 1)=k - 1:=pg (by simp [Lit.wf,IntKind.min,mJ,il,km];omega);have e:=hy.copy (n:=n.toNat) (back:=k.toNat) (by omega) (by omega) (by omega) (by omega) (by omega) (by omega) hk;rw [w1,w2,show (n+125).toNat=n.toNat+125 by omega,show (k - 1).toNat=k.toNat - 1 by omega];refine ⟨by unfold aD;omega,λ_=>⟨by unfold aD;omega,λ_=>⟨by simp only [av,aO];omega,by simp only [av,aO];omega,by unfold aD;omega,⟨by omega,by omega,n2⟩,by omega,h3,λM' hM=>⟨by unfold aD;omega,⟨by omega,by omega,n2,hM,?_,?_⟩,by omega⟩⟩⟩⟩;rw [show (a+n).toNat=a.toNat+n.toNat by omega];exact e;simp only [af,av,aO];omega
 .refine ⟨h0,by omega,b.take f.toNat,h4,by rw [aQ];omega,λy hy hyl=>?_⟩;rw [bX] at hy;rw [aQ] at hyl;exact .inr (.inr ⟨0,5,y,.int .i64 0,rfl,aG _,rfl,h y hy (by omega)⟩)
end Go.Proofs

namespace Go.Lm
open Go
def JF (n:Int):Int:=IntKind.wrap .u8 n
def GX (n:Int):Int:=IntKind.wrap .u8 (kW .i64 n 8)
def Eh (n:Int):Int:=dg .xor .u8 (mJ .u8) (dg .xor .u8 (JF n) (GX n))
def Wj (n:Int):List UInt8:=[az (JF n).toNat,az (GX n).toNat,az (Eh n).toNat]
theorem ri (n:Int):(Wj n).length=3:=rfl
theorem Kp {n:Int}:0<=IntKind.wrap .u8 n/\IntKind.wrap .u8 n< 256:=by
 grind [IntKind.wrap, km, il]
theorem ahl {op:BinOp} {x y:Int}:0<=dg op .u8 x y/\dg op .u8 x y< 256:=by simp [dg, Kp]
theorem PU {n:Int} (h0:0<=n) (h1:n< 256):((az n.toNat).toNat:Int)=n:=by
 simp; omega
theorem Dl (n:Int):((az (JF n).toNat).toNat:Int)=JF n/\((az (GX n).toNat).toNat:Int)=GX n/\((az (Eh n).toNat).toNat:Int)=Eh n:=
 ⟨PU Kp.1 Kp.2,PU Kp.1 Kp.2,PU ahl.1 ahl.2⟩
theorem aj9 {n:Int} (h0:0<=n) (h1:n< 65536):dg .or .i64 (JF n) (AA .i64 (GX n) 8)=n:=by
 have e:=(Dl n).2.1;have hw:JF n=n % 256:=by rfl
 have hs:kW .i64 n 8=n / 256:=by
  unfold kW;rw [Int.fdiv_eq_ediv_of_nonneg _ (by decide)];rfl
 have hb:GX n=n / 256:=by
  grind [GX, pg, Lit.wf, IntKind.min, mJ, il, km]
 have:=Zw (x:=JF n) (i:=1) (c:=az (GX n).toNat) (by decide) (by decide) (by omega) (by grind)
 grind
theorem aem:∀ l:Fin 256,dg .and .i64 (l.val:Int) 32768=0/\dg .andNot .i64 (l.val:Int) 32768=l.val/\dg .and .i64 ((l.val:Int)+32768) 32768=32768/\dg .andNot .i64 ((l.val:Int)+32768) 32768=l.val:=by decide+kernel
theorem ai9 {l:Nat} (h:l< 256):dg .and .i64 (l:Int) 32768=0/\dg .andNot .i64 (l:Int) 32768=l/\dg .and .i64 ((l:Int)+32768) 32768=32768/\dg .andNot .i64 ((l:Int)+32768) 32768=l:=aem ⟨l,h⟩
def CU (T:List Int) (x:List UInt8) (m:Int):List UInt8:=Wj (x.length+m)++if x= [] then [] else aI 4 (cv T 0 x).toNat++x
theorem amR (T:List Int):CU T [] 0=Wj 0:=by rfl
theorem Jb {T:List Int} {x:List UInt8} {m:Int} (h:x≠ []):CU T x m=Wj (x.length+m)++(aI 4 (cv T 0 x).toNat++x):=by grind [CU]
structure Ea (T:List Int) (b x:List UInt8):Prop where
 or:(b= []/\x=Wj 0)\/∃ (p:List UInt8) (m:Int),0< b.length/\b.length<=128/\0< p.length/\p.length<=b.length/\(m=0/\Eb p b\/m=32768/\p=b)/\x=Wj (p.length+m)++(aI 4 (cv T 0 p).toNat++p)
theorem Ea.len {T:List Int} {b x:List UInt8} (h:Ea T b x):3<=x.length/\x.length<=b.length+7:=by
 rcases h.or with ⟨rfl,rfl⟩| ⟨p,m,_,_,h3,h4,_,rfl⟩
 .decide
 grind [ri, aE]
theorem Im {x y:List UInt8} {n:Int} (h:n=x.length):jF (x++y) n=x/\Kj (x++y) n=0/\lU (x++y) n=y:=by
 have hn:¬n>((x++y).length:Int):=by grind
 simp_all [jF, Kj, lU, if_neg]
theorem TB (n:Int):(JF n==((az (JF n).toNat).toNat:Int)&& (GX n==((az (GX n).toNat).toNat:Int)&& (Eh n==((az (Eh n).toNat).toNat:Int)&& true)))=true:=by
 grind [Dl]
theorem aff {n:Int} (h0:0<=n) (h1:n< 65536):dg .or .i64 ((aB .u8 (Wj n) 0).toNat:Int) (AA .i64 ((aB .u8 (Wj n) 1).toNat:Int) 8)=n:=by
 show dg .or .i64 ((az (JF n).toNat).toNat:Int) (AA .i64 ((az (GX n).toNat).toNat:Int) 8)=n
 grind [Dl, aj9]
structure Cut (im:List UInt8) (a:Int) (p:List UInt8) (s:Int) (st:Bool) (nx:Int):Prop where
 at0:0<=a
 at1:a<=im.length
 or:(p= []/\s=0/\st=false/\nx=a+3/\∃ r,im.drop a.toNat=Wj 0++r)\/(0< p.length/\p.length<=128/\nx=a+7+p.length/\(0<=s/\s<=4294967295)/\∃ r,im.drop a.toNat=Wj (p.length+if st then 32768 else 0)++(aI 4 s.toNat++(p++r)))
structure EG (T:List Int) (im:List UInt8) (a:Int) (b:List UInt8) (nx:Int):Prop where
 at0:0<=a
 at1:a<=im.length
 ex:∃ x r,Ea T b x/\im.drop a.toNat=x++r/\nx=a+x.length
structure alQ (im:List UInt8) (a:Int) (p:List UInt8) (s:Int) (st:Bool) (nx e:Int):Prop where
 or:(a=im.length/\p= []/\s=0/\st=false/\nx=0/\e=2)\/(e=0/\Cut im a p s st nx)
structure FrE (T:List Int) (im:List UInt8) (a:Int) (b:List UInt8) (nx e:Int):Prop where
 or:(a=im.length/\b= []/\nx=0/\e=2)\/(e=0/\EG T im a b nx)
theorem Cut.head {im:List UInt8} {a:Int} {p:List UInt8} {s:Int} {st:Bool} {nx:Int} (h:Cut im a p s st nx):p.length<=128/\(st=true->0< p.length)/\∃ q,im.drop a.toNat=Wj (p.length+if st then 32768 else 0)++q/\((p= []/\s=0/\st=false/\nx=a+3)\/(0< p.length/\nx=a+7+p.length/\(0<=s/\s<=4294967295)/\∃ r,q=aI 4 s.toNat++(p++r))):=by
 rcases h.or with ⟨rfl,rfl,rfl,h4,r,h5⟩| ⟨h1,h2,h3,h4,r,h5⟩
 .grind
 grind
theorem ai8 {l:Nat} {st:Bool} (h:l< 256):(dg .and .i64 ((l:Int)+if st then 32768 else 0) 32768 !=0)=st/\dg .andNot .i64 ((l:Int)+if st then 32768 else 0) 32768=l:=by
 grind [ai9]
theorem agL {s:Int} (h0:0<=s) (h1:s<=4294967295):IntKind.wrap .u32 (bK (aI 4 s.toNat))=s:=by
 grind [Da, pg, Lit.wf, IntKind.min, mJ, il, km]
theorem EG.cut {T:List Int} {im:List UInt8} {a:Int} {b:List UInt8} {nx:Int} (h:EG T im a b nx) (hk:∀ p,0<=cv T 0 p/\cv T 0 p<=4294967295):∃ p s st,Cut im a p s st nx/\((p= []/\b= [])\/(0< p.length/\0< b.length/\b.length<=128/\s=cv T 0 p/\(st=true/\p=b\/st=false/\Eb p b))):=by
 obtain ⟨a0,a1,x,r,hx,hd,hn⟩:=h;rcases hx.or with ⟨rfl,rfl⟩| ⟨p,m,b0,b1,p0,p1,hm,rfl⟩;exact ⟨[],0,false,⟨a0,a1,.inl ⟨rfl,rfl,rfl,hn,r,hd⟩⟩,by grind⟩
 .have hl:((Wj (p.length+m)++(aI 4 (cv T 0 p).toNat++p)).length:Int)=7+p.length:=by grind [ri, aE]
  rcases hm with ⟨rfl,he⟩| ⟨rfl,rfl⟩;exact ⟨p,cv T 0 p,false,⟨a0,a1,by grind⟩,by grind⟩;exact ⟨p,cv T 0 p,true,⟨a0,a1,by grind⟩,by grind⟩
theorem aoc {op:BinOp} {x y:Int}:0<=dg op .u32 x y/\dg op .u32 x y<=4294967295:=by
 simp [dg, IntKind.wrap, km, il]; omega
theorem zi (T:List Int) (s:Int) (p:List UInt8):0<=cv T s p/\cv T s p<=4294967295:=by simp [cv, JO, aoc]
open Go Go.RowKit
def YP (l:Nat) (d:Cl):HO->HO
 | .cells t cs=>.cells t (Sz l d cs)
 | o=>o
def uL (n0:Nat):List Nat->SV->List HO->(SV->List HO->Prop)->Prop
 | [],sv,H',k=>k sv H'
 | l::r,sv,H',k=>match Nat.ble n0 l,lr H' l with
  | true,.sl _ e xs=>uL n0 r (ai6 l (.d e xs) sv) ((H'.set l .gone).map (YP l (.d e xs))) k
  | true,.held _ e xs=>uL n0 r (ai6 l (.d e xs) sv) (H'.map (YP l (.d e xs))) k
  | _,_=>uL n0 r sv H' k
def tyS:Option Ty->S1->S1
 | some e,.c c=>match e.of [c] with
  | some (x,[])=>(match e.cells x with
   | [c']=>.c c'
   | _=>.c c)
  | _=>.c c
 | some e,.agg cs=>match e.of cs with
  | some (x,[])=>.agg (e.cells x)
  | _=>.agg cs
 | none,x=>x
def ai2:List (Option Ty)->List S1->List S1
 | t::ts,x::r=>tyS t x::ai2 ts r
 | _,l=>l
def tyV:List (Option Ty)->SV->SV
 | [t],.v x=>.v (tyS t x)
 | ts,.cH l=>.cH (ai2 ts l)
 | _,x=>x
section
variable {E:Env} {g:World}
theorem SH {t:Option Ty} {x:S1} {u:Value} (h:gv E g x u):gv E g (tyS t x) u:=by
 unfold tyS;split
 .rename_i e c;split
  .rename_i x hx;split
   .rename_i c' hc;obtain ⟨u1,u2,e1,h1,h2⟩:=of_cells e hx (show bp E g [c] [u] from ⟨u,[],rfl,h,rfl⟩);obtain rfl:u2= []:=h2;rw [bd] at e1;subst e1;have h3:=(fz E g e h1).1;rw [hc] at h3;obtain ⟨u',r,e2,h4,h5⟩:=h3;obtain rfl:=(List.cons.inj e2).1;exact h4
   .exact h
  .exact h
 .rename_i e cs;split
  .rename_i x hx;obtain ⟨us,h1,rfl⟩:=h;obtain ⟨u1,u2,e1,h3,h2⟩:=of_cells e hx h1;obtain rfl:u2= []:=h2;rw [bd] at e1;subst e1;exact ⟨_,(fz E g e h3).1,rfl⟩
  .exact h
 .exact h
theorem ME:∀ {ts:List (Option Ty)} {l:List S1} {us:List Value},iy E g l us->iy E g (ai2 ts l) us
 | _::_,_::_,_,⟨u,r,e,h1,h2⟩=>⟨u,r,e,SH h1,ME h2⟩
 | [],[],_,h=>h
 | [],_::_,_,h=>h
 | _::_,[],_,h=>h
theorem aey {ts:List (Option Ty)} {x:SV} {u:Value} (h:df E g x u):df E g (tyV ts x) u:=by
 unfold tyV;split;exact SH h
 .obtain ⟨us,h1,h2⟩:=h;exact ⟨us,ME h1,h2⟩
 omega
theorem Cb {f:HO->HO} {F:List Atom} (hf:∀ (k:Nat) (o:HO) (h:Hp),(cM E k o).sat g h->(cM E k (f o)).sat g h):∀ {H:List HO} {k:Nat} {h:Hp},bh g (ba E k H++F) h->bh g (ba E k (H.map f)++F) h
 | [],_,_,s=>s
 | _::_,_,_,⟨h1,h2,ap,e,s1,s2⟩=>⟨h1,h2,ap,e,hf _ _ _ s1,Cb hf s2⟩
theorem Hz {l:Nat} {d:Cl} (hd:∀ u,E[l]?=some u->cq E g d u) {k:Nat} {o:HO} {h:Hp} (s:(cM E k o).sat g h):(cM E k (YP l d o)).sat g h:=by
 cases o with
 | cells t cs=>
  obtain ⟨b,us,h1,h2,h3⟩:=s;exact ⟨b,us,h1,ye hd h2,h3⟩
 | _=>exact s
end
section
variable {P:Program} {I:cX->Prop} {f:FuncId} {args:List SV} {H:List HO} {Q Q':SV->List HO->Prop}
theorem Wp.ank {n0:Nat} {ls:List Nat} (h:Wp I P f args H λsv H'=>uL n0 ls sv H' Q):Wp I P f args H Q:=λW hW g w E F vs hs hv=>
 (h W hW g w E F vs hs hv).mono λv w' ⟨E1,g1,sv,H1,e1,m1,s1,r1,q⟩=>by
  have key:∀ (ls:List Nat) (g1:World) (sv:SV) (H1:List HO),bt g g1->Sat W E1 g1 w' H1 F->df E1 g1 sv v->uL n0 ls sv H1 Q->∃ g2 sv2 H2,bt g g2/\Sat W E1 g2 w' H2 F/\df E1 g2 sv2 v/\Q sv2 H2:=by
   intro ls
   induction ls with
   | nil=>intro g1 sv H1 m1 s1 r1 q;exact ⟨g1,sv,H1,m1,s1,r1,q⟩
   | cons l ls ih=>
    intro g1 sv H1 m1 s1 r1 q;unfold uL at q;split at q
    .rename_i t e xs _ eE;have fD:l< H1.length:=by
      rcases eW l H1.length with z| z;exact z;rw [nT z] at eE;cases eE
     have hl:H1[l]?=some (.sl t e xs):=by
      rw [ao fD,<-eE,mu (ao fD)]
     obtain ⟨u,hE⟩:∃ u,E1[l]?=some u:=⟨E1[l]'(by rw [s1.len];exact fD),ao _⟩;letI:=e.rep;have H2:SL W g1 w' (pF e t u xs::dM (ba E1 0 H1++F) l):=(s1.pick hl).cJ λk ⟨h1,h2,ap,q,⟨u',x1,x2⟩,x3⟩=>⟨h1,h2,ap,q,by
      rw [hE] at x1;obtain rfl:=aj x1;exact x2,x3⟩
     obtain ⟨g2,m2,H3,hi⟩:=SL.qE (α:=e.den) H2;have S3:Sat W E1 g2 w' (H1.set l .gone) F:=Sat.back .gone s1.len hl (H3.cJ λk s2=>⟨λ_=>none,k,λ_=>.inl rfl,rfl,trivial,s2⟩);have hd:∀ u',E1[l]?=some u'->cq E1 g2 (.d e xs) u':=λu' hu=>by
      rw [hE] at hu;obtain rfl:=aj hu;exact hi
     have S4:Sat W E1 g2 w' ((H1.set l .gone).map (YP l (.d e xs))) F:=⟨S3.sl.cJ λ_ x=>Cb (λ_ _ _=>Hz hd) x,by rw [bR];exact S3.len⟩;exact ih g2 _ _ (m1.trans m2) S4 (MD hd (r1.mono (bu.refl _) m2)) q
    .rename_i t e xs _ eE;have fD:l< H1.length:=by
      rcases eW l H1.length with z| z;exact z;rw [nT z] at eE;cases eE
     have hl:H1[l]?=some (.held t e xs):=by
      rw [ao fD,<-eE,mu (ao fD)]
     obtain ⟨_,_,_,_,h1,h2,_,_,⟨u,hE,hi⟩,_⟩:=s1.pick hl;have hd:∀ u',E1[l]?=some u'->cq E1 g1 (.d e xs) u':=λu' hu=>by
      rw [hE] at hu;obtain rfl:=aj hu;exact hi
     have S4:Sat W E1 g1 w' (H1.map (YP l (.d e xs))) F:=⟨s1.sl.cJ λ_ x=>Cb (λ_ _ _=>Hz hd) x,by rw [bR];exact s1.len⟩;exact ih g1 _ _ m1 S4 (MD hd r1) q
    .exact ih g1 sv H1 m1 s1 r1 q
  obtain ⟨g2,sv2,H2,m2,s2,r2,q2⟩:=key ls g1 sv H1 m1 s1 r1 q;exact ⟨E1,g2,sv2,H2,e1,m2,s2,r2,q2⟩
theorem Wp.kC (ts:List (Option Ty)) (ls:List Nat) (h:Wp I P f args H λsv H'=>uL H.length ls sv H' λsv H'=>H.length<=H'.length/\Q ((tyV ts sv).fx (iG (bL H.length))) (LX H.length H')):Wp I P f args H Q:=
 Wp.sel (Wp.res (Wp.ank (n0:=H.length) (ls:=ls) (h.mono λsv H' q=>by
  have key:∀ (ls:List Nat) (sv:SV) (H':List HO),uL H.length ls sv H' (λsv H'=>H.length<=H'.length/\Q ((tyV ts sv).fx (iG (bL H.length))) (LX H.length H'))->uL H.length ls sv H' (λsv H'=>∃ OP,(∀ E g v,df E g sv v->df E g OP v)/\∃ ls:List Nat,ls.take H.length=bL H.length/\ls.Nodup/\(∀ l∈ls,l< H'.length)/\Q (OP.fx (iG ls)) (ls.map λl=>(lr H' l).fx (iG ls))):=by
   intro ls
   induction ls with
   | nil=>exact λsv H' ⟨hl,q⟩=>⟨tyV ts sv,by grind [aey],bL H.length,by grind,List.nodup_range,by grind,q⟩
   | cons l ls ih=>
    grind [uL]
  grind)))
theorem Wp.agK (h:Wp I P f args H λsv H'=>Q sv (H'.map λ_=>HO.gone)):Wp I P f args H Q:=
 h.fin λW E g w F H' sv s q=>⟨g,_,bt.refl g,⟨s.sl.cJ λ_ x=>by
  have key:∀ (H:List HO) (k:Nat) (h:Hp),bh g (ba E k H++F) h->bh g (ba E k (H.map λ_=>HO.gone)++F) h:=by
   intro H
   induction H with
   | nil=>grind
   | cons o H ih=>exact λk h ⟨h1,h2,ap,e,s1,s2⟩=>⟨h1,h2,ap,e,trivial,ih _ _ s2⟩
  grind,by rw [bR];exact s.len⟩,q⟩
end
end Go.Lm

namespace Go.Proofs
open Go Go.Lm Go.RowKit
set_option maxRecDepth 1000000
abbrev ag9:Ty:=.pair (.sl .u8) (.pair (.int .u32) (.pair .bool (.pair (.int .i64) .unit)))
def akQ:Ct:=cI λn=>c0 λQ=>Q (.v (.agg [.k (.int .u8 (JF n)),.k (.int .u8 (GX n)),.k (.int .u8 (Eh n))])) []
def ahV:=ahW.add aiz
abbrev PC (y0:Int):=dg BinOp.xor .u8 (if il .u8=true then (-1:Int) else mJ .u8) (dg BinOp.xor .u8 (IntKind.wrap .u8 y0) (IntKind.wrap .u8 (kW .i64 y0 iJ)))
abbrev jG:=(↑eI:Int)
abbrev Ip (y0:Int):=IntKind.wrap .u8 (kW .i64 y0 iJ)
def Sb (n:Int):dx:=λQ=>aD .i64 n->aD .u8 (qK n)->ah<=iJ/\(aD .i64 (kW .i64 n iJ)->aD .u8 (Ip n)->ah<=ah/\ah< jG/\ah<=aV/\aV< jG/\(aD .u8 (dg BinOp.xor .u8 (qK n) (Ip n))->aD 
 .u8 (PC n)->ah<=dw/\dw< jG/\Q (SV.v (S1.agg [.k (.int .u8 (qK n)),.k (.int .u8 (Ip n)),.k (.int .u8 (PC n))])) []))
theorem aiL:cu 140 akQ:=eQ<| nG λn=>gM λQ h=>by
 refine Wp.dC ahV ft ⟨[],[]⟩ Tryz.f140 (Sb n) (hold:=[92]) ?_;unfold Sb Ip qK jG PC ah aV dw iJ eI;exact λ_ _=>⟨by decide,λ_ _=>⟨by decide,by decide,by decide,by decide,λ_ _=>⟨by decide,by decide,h⟩⟩⟩
def Hj:Ct
 | [.v (.c cx),.v (.c (.k (.int .i64 m))),.v (.c (.p 0 0)),.v (.c (.p 1 0))],[.cells 174 [.k (.int .i64 0),.k (.slice none 0 0)],.cells 84 [.de (.int .u32) T 0 0]],Q=>(match (Ty.sl Ty.u8).of [cx] with
  | some (x,[])=>T.length=256/\x.length<=128/\(0<=m/\m<=32768)/\((0<=cv T 0 x/\cv T 0 x<=4294967295)->Q (.cH [.c (.d .u8 (CU T x m)),.c (.k (.int .i64 0))]) [.cells 174 [.k (.int .i64 0),.Ki],.cells 84 [.de (.int .u32) T 0 0]])
  | _=>False)
 | _,_,_=>False
def ahU:=ahV.add aiL
abbrev MS (y0:List (Ty.u8).den) (y1:Int) (y2:List Int):=[]++ [az (ax (JF ((aA y0)+y1))),az (ax (GX ((aA y0)+y1))),az (ax (Eh ((aA y0)+y1)))]++aI cW (ax (cv y2 ah y0))++y0
abbrev Gx (y0:List (Ty.u8).den) (y1:Int):=[]++ [az (ax (JF ((aA y0)+y1))),az (ax (GX ((aA y0)+y1))),az (ax (Eh ((aA y0)+y1)))]
abbrev eU:=(9223372036854775807:Nat)
abbrev IN (y0:List Int) (y1:List (Ty.u8).den) (R:Prop):=aD .u32 (cv y0 ah y1)->ah=ah/\(aV<=cL/\cL<=cL)/\(0<=cv y0 ah y1/\cv y0 ah y1< 256 ^ cW)/\R
abbrev j7:=(100000000000:Nat)
abbrev iA (y0:List (Ty.u8).den) (R:Prop):=List.length y0<=100000000/\R
def Bu (x:(List (Ty.u8).den)) (m:Int) (T:List Int):dx:=λQ=>cU x (aD .i64 m->aJ (dy x)->aD .i64 ((aA x)+m)/\(aD .u8 (JF ((aA x)+m))->aD .u8 (GX ((aA x)+m))->aD .u8 (Eh ((aA x)+m))->eI<=eU/\0<=cd none 0/\cd none 0< jG/\ 
 cd none 0<=cd none jG/\cd none jG<=jG/\bj (bx<=j7/\List.length [az (ax (JF ((aA x)+m))),az (ax (GX ((aA x)+m))),az (ax (Eh ((aA x)+ 
 m)))]<=100000000/\(aJ (dy x)->br (decide ((aA x)>ah)) (dQ T (IN T x (List.length (Gx x m)<=100000000000/\bj (List.length ([]++ [az (ax (JF ((aA x)+m))),az (ax (GX 
 ((aA x)+m))),az (ax (Eh ((aA x)+m)))]++aI cW (ax (cv T ah x)))<=100000000000/\iA x (bj (List.length (MS x m T)<=100000000000/\(List.length (MS x m T)<=9223372036854775807-> 
 aD .i64 0->Q (SV.cH [S1.c (Cl.d Ty.u8 (MS x m T)),.c (.k aR)]) [.cells 174 [.k aR,.o 2],.cells 84 [Cl.de (.int .u32) T ah bx],.sl 5 Ty.u8 (MS x m T)]))))))) (bj (List.length (Gx x m)<=100000000000/\ 
 (List.length (Gx x m)<=9223372036854775807->aD .i64 0->Q (SV.cH [S1.c (Cl.d Ty.u8 (Gx x m)),.c (.k aR)]) [.cells 174 [.k aR,.o 2],.cells 84 [Cl.de (.int .u32) T ah bx],.sl 5 Ty.u8 (Gx x m)])))))))
theorem US:cu 139 Hj:=by
 intro args H Q h;unfold Hj at h;split at h;rotate_left;cases h;rename_i cx m T;split at h;rotate_left;cases h;rename_i x hx;refine Wp.said (args':=[.c (.d Ty.u8 x),.int m,.v (.c (.p 0 0)),.v (.c (.p 1 0))]) (λE g=>bm.cr (dH hx) (bm.cr (λ_ h=>h) (bm.cr (λ_ h=>h) (bm.cr (λ_ h=>h) (λ_ h=>h))))) ?_;clear hx;refine Wp.kC [some (.sl .u8),none] [] ?_;refine Wp.dC ahU ft ⟨[],[]⟩ Tryz.f139 (Bu x m T) (hold:=[92]) ?_;unfold Bu jG iA j7 bj IN dy dQ eU Gx MS cU aR ah aV cL aA aJ bx bI eI cW;obtain ⟨hT,hx,⟨m0,m1⟩,h⟩:=h;intro _ _ _;refine ⟨by unfold aD;omega,λ_ _ _=>⟨by decide,by decide,by decide,by decide,by decide,rfl,by decide,by show 3<=100000000;omega,λ_=>aq (λhc=>⟨hT,λhk=>?_⟩) (λhc=>?_)⟩⟩
 .have jb:¬x= []:=λe=>by rw [e] at hc;simp at hc
  have hk:0<=cv T 0 x/\cv T 0 x<=4294967295:=hk;rw [Jb jb] at h;refine ⟨rfl,⟨by decide,by decide⟩,by omega,by grind,rfl,by grind [aE],by omega,rfl,by grind [aE],λ_ _=>⟨by simp,?_⟩⟩;have h2:=h hk;exact h2
 .have hc:¬(x.length:Int)>0:=of_decide_eq_false hc;have he:x= []:=bA (by omega);subst he;have h2:=h (zi T 0 []);unfold CU at h2;rw [if_pos rfl,bd] at h2;exact ⟨rfl,by grind,λ_ _=>⟨by simp,h2⟩⟩
def anY:Ct:=cT λT=>cD .u8 λb=>c0 λQ=>T.length=256/\b.length<=128/\∀ x,Ea T b x->Q (.cH [.c (.d .u8 x),.c (.k (.int .i64 0))]) []
def ahT:=ahU.add US
abbrev ku:=(32768:Int)
def Yp (T:List Int) (b:(List (Ty.u8).den)):dx:=λQ=>cU b (aJ (dy b)->br (decide ((aA b)>bF)) (sR Q) (aJ (dy b)->br ((aA b)==0) (dQ T (bx<=gd/\(ah<=ah/\ah<=ku)/\(0<=cv T ah []/\cv T ah []<= 
 4294967295->aJ (List.length (CU T [] ah))->aD .i64 0->Q (SV.cH [S1.c (Cl.d Ty.u8 (CU T [] ah)),.c (.k aR)]) []))) (List.length b<=4096/\∀ (y:List UInt8),Eb y b->List.length y<=2*List.length b->db y (aD 
 .i64 0->db y (aJ (dy b)->br (decide ((aA y)< (aA b))) (dQ T (List.length y<=128/\(ah<=ah/\ah<=ku)/\(0<=cv T ah y/\cv T ah y<=4294967295->aJ (List.length (CU T y ah))->aD 
 .i64 0->Q (SV.cH [S1.c (Cl.d Ty.u8 (CU T y ah)),.c (.k aR)]) []))) (dQ T (List.length b<=128/\(ah<=ku/\ku<=ku)/\(0<=cv T ah b/\cv T ah b<=4294967295->aJ (List.length (CU T b 
 ku))->aD .i64 0->Q (SV.cH [S1.c (Cl.d Ty.u8 (CU T b ku)),.c (.k aR)]) []))))))))
theorem aml:cu 89 anY:=eQ<| okT λT=>jm λb=>gM λQ h=>by
 refine Wp.kC [some (.sl .u8),none] [] ?_;refine Wp.dC ahT ft ⟨[],[]⟩ Tryz.f89 (Yp T b) (hold:=[92]) ?_;unfold Yp ku sR dy db dQ cU bZ aR ah bF aA aJ bx gd bI;obtain ⟨hT,hb,h⟩:=h;refine λ_ _=>aq (λhc=>absurd (of_decide_eq_true hc) (by omega)) (λ_=>λ_=>aq (λhc=>?_) (λhc=>?_))
 .have hc:(b.length:Int)=0:=eq_of_beq hc;have he:b= []:=bA (by omega);subst he;refine ⟨hT,by decide,by decide,λ_ _ _=>⟨aG _,?_⟩⟩;exact h _ ⟨.inl ⟨rfl,rfl⟩⟩
 .have hc:¬(b.length:Int)=0:=by simpa using hc
  refine ⟨by omega,λy hy hyl _ _ _ _=>aq (λhd=>?_) (λhd=>?_)⟩
  .have hd:(y.length:Int)< b.length:=of_decide_eq_true hd;have hy0:y≠ []:=λe=>by
    subst e;have:=hy.done;have:=aj this;subst this;simp at hd
   have:=List.length_pos_iff.2 hy0;refine ⟨hT,by omega,by decide,λ_ _ _=>⟨aG _,?_⟩⟩;rw [Jb hy0];exact h _ ⟨.inr ⟨y,0,by omega,hb,by omega,by omega,.inl ⟨rfl,hy⟩,rfl⟩⟩
  .have hb0:b≠ []:=λe=>by rw [e] at hc;simp at hc
   refine ⟨hT,hb,by decide,λ_ _ _=>⟨aG _,?_⟩⟩;rw [Jb hb0];exact h _ ⟨.inr ⟨b,32768,by omega,hb,by omega,aG _,.inr ⟨rfl,rfl⟩,rfl⟩⟩
def akS:Ct:=cD .u8 λb=>cI λa=>c0 λQ=>b.length<=100000000/\∃ p s st nx e,alQ b a p s st nx e/\Q (.cH [.agg (ag9.cells (p,s,st,nx,())),.c (.k (.int .i64 e))]) []
def ahS:=ahT.add aml
abbrev zY (y0:SV->List HO->Prop):=y0 (SV.cH [S1.agg [.k bZ,.k (.int .u32 ah),.k (.bool false),.k aR],.c (.k (.int .i64 2))]) []
abbrev rO (y0:Int) (y1:List (Ty.u8).den):=jF (List.drop (aU y0) y1) jY
abbrev Gu (y0:Int) (y1:List (Ty.u8).den):=aB (ke eI) [rowOf (rO y0 y1) eI bx] ah
abbrev vB (y0:Int) (y1:List (Ty.u8).den):=lU (List.drop (aU y0) y1) jY
abbrev PD (y0) (y1:Int) (y2:List (Ty.u8).den):=((JF y0==(↑(cK (Gu y1 y2).1):Int)&& (GX y0==(↑(cK (Gu y1 y2).2.1):Int)&& (Eh y0==(↑(cK (Gu y1 y2).2.2.1):Int)&& true)),()),())
abbrev IG (y0:Int) (y1:List (Ty.u8).den):=AA .i64 (↑(cK (aB Ty.u8 (rO y0 y1) aV)):Int) iJ
abbrev yh (y0:Int) (y1:List (Ty.u8).den):=List.drop 4 (vB y0 y1)
def Sd (b:(List (Ty.u8).den)) (a:Int):dx:=λQ=>cU b (aD .i64 a->br (cV a) (zY Q) (aJ (dy b)->br (decide (a>(aA b))) (zY Q) (0<=a/\a<=(aA b)/\fc (List.length (oD a b))/\bj (ah<=jY/\fc (List.length (oD a b))/\(aJ 
 (List.length (rO a b))->aD .i64 (Kj (oD a b) jY)->br (Kj (oD a b) jY !=0) (zY Q) (cG (λk=>ah<=ah/\ah< (aS (rO a b))/\(Ty.ok Ty.u8 (aB Ty.u8 (rO a b) ah)->ah<=aV/\aV< 
 (aS (rO a b))/\(Ty.ok Ty.u8 (aB Ty.u8 (rO a b) aV)->ah<=iJ/\(aD .i64 (IG a b)->aD .i64 (dg BinOp.or .i64 (↑(cK (aB Ty.u8 (rO a b) ah)):Int) (IG a b))->k ((dg BinOp.or .i64 
 (↑(cK (aB Ty.u8 (rO a b) ah)):Int) (IG a b),()),()))))) λi=>cG (λk=>(aD .u8 (JF i.1.1)->aD .u8 (GX i.1.1)->aD .u8 (Eh i.1.1)->3<=List.length (rO a b)/\(Ty.ok (ke eI) (Gu a b)->k 
 (PD i.1.1 a b)))/\3<=List.length (rO a b)/\(Ty.ok (ke eI) (Gu a b)->aD .u8 (JF i.1.1)->aD .u8 (GX i.1.1)->aD .u8 (Eh i.1.1)->k (PD i.1.1 a b))) λbE=>aD .i64 (dg BinOp.and .i64 i.1.1 ku)->aD 
 .i64 (a+3)/\cG (λk=>aD .i64 (dg BinOp.andNot .i64 i.1.1 ku)->k ((dg BinOp.andNot .i64 i.1.1 ku,()),())) λkH=>cG (λk=>br (!bE.1.1) (zY Q) (br (decide (kH.1.1>128)) (zY Q) (br (kH.1.1== 
 0) (br (dg BinOp.and .i64 i.1.1 ku !=0) (zY Q) (k ((),()))) (k ((),()))))) λjU=>cG (λk=>br (decide (kH.1.1>0)) (Kj (oD a b) jY=ah/\aV<=cL/\cL<=cL/\cL<=(aS (vB a b))/\ 
 fc (List.length (vB a b))/\(aD .i64 (bK (List.take cW (vB a b)))->aD .u32 (IntKind.wrap .u32 (bK (List.take cW (vB a b))))->bj (0<=kH.1.1/\fc (List.length (yh a b))/\(List.length (jF (yh a 
 b) kH.1.1)<=9223372036854775807->aD .i64 (cL+kH.1.1)/\aD .i64 (a+3+(cL+kH.1.1))/\k ((),(Kj (yh a b) kH.1.1,lU (yh a b) kH.1.1,()),(jF (yh a b) kH.1.1,IntKind.wrap .u32 (bK (List.take 
 cW (vB a b))),dg BinOp.and .i64 i.1.1 ku !=0,a+3+(cL+kH.1.1),()),()))))) (k ((),(Kj (oD a b) jY,lU (oD a b) jY,()),([],ah,dg BinOp.and .i64 i.1.1 ku !=0,a+3,()),()))) fun 
 i=>aD .i64 i.2.1.1->br (i.2.1.1 !=0) (zY Q) (Q (SV.cH [S1.agg [Cl.d Ty.u8 i.2.2.1.1,.k (.int .u32 i.2.2.1.2.1),.k (.bool i.2.2.1.2.2.1),.k (aC i.2.2.1.2.2.2.1)],.c (.k aR)]) [])))))))
theorem aiO:cu 109 akS:=eQ<| jm λb=>nG λa=>gM λQ h=>by
 refine Wp.kC [some ag9,none] [] ?_;refine Wp.dC ahS ft ⟨[],[(9,⟨[(8,.int .i64)],[]⟩),(10,⟨[(9,.bool)],[]⟩),(12,⟨[(8,.int .i64)],[]⟩),(14,⟨[],[]⟩),(18,⟨[],[(1,.cells 187 [.int .i64,.d .u8]),(2,.cells 197 [.d .u8,.int .u32,.bool,.int .i64])]⟩)]⟩ Tryz.f109 (Sd b a) (hold:=[92]) ?_;unfold Sd yh ku oD bj IG dy PD cV vB Gu rO zY cU bZ aU aR aC ah aV jY cL iJ aS aA fc aJ bx eI cW;obtain ⟨hl,p,s,st,nx,e,hE,h⟩:=h;have ha:0<=a/\a<=(b.length:Int):=by
  rcases hE.or with ⟨h1,_⟩| ⟨_,hC⟩;omega;exact ⟨hC.at0,hC.at1⟩
 refine λ_ _=>aq (λhc=>?_) (λhc=>λ_=>aq (λhd=>?_) (λhd=>?_))
 .have hc:a< 0:=of_decide_eq_true hc;omega
 .have hd:a>b.length:=of_decide_eq_true hd;omega
 have hz:(b.drop a.toNat).length=b.length - a.toNat:=aQ;rcases hE.or with ⟨h1,rfl,rfl,rfl,rfl,rfl⟩| ⟨rfl,hC⟩
 .have e1:b.drop a.toNat= []:=List.drop_of_length_le (by omega);rw [e1];exact ⟨by omega,by omega,by decide,rfl,by decide,by decide,λ_ _=>aq (λ_=>⟨aG _,h⟩) (λhq=>by cases hq)⟩
 obtain ⟨hp,vM,q,hdr,hq⟩:=hC.head;obtain ⟨n,hn⟩:∃ n:Int,n=p.length+if st then 32768 else 0:=⟨_,rfl⟩
 have hn0:0<=n/\n< 65536:=by cases st<;>simp at hn<;>omega
 have hsn:=ai8 (st:=st) (show p.length< 256 by omega);rw [<-hn] at hdr hsn;have hql:q.length+3<=b.length:=by
  have:=congrArg List.length hdr;rw [af,ri] at this;omega
 obtain ⟨r1,r2,r3⟩:=Im (x:=Wj n) (y:=q) (n:=3) rfl;rw [hdr,r1,r2,r3];refine ⟨by omega,by omega,by rw [af,ri];omega,rfl,by decide,by rw [af,ri];omega,λ_ _=>aq (λhq=>by cases hq) (λ_=>?_)⟩;refine cG.intro (λi=>i.1.1=n) ⟨by decide,by rw [ri];decide,λ_=>⟨by decide,by rw [ri];decide,λ_=>⟨by decide,λ_ _=>aff hn0.1 hn0.2⟩⟩⟩ ?_;rintro ⟨⟨n',_⟩,_⟩ e;obtain rfl:n'=n:=e;simp only;refine cG.intro (λi=>i.1.1=true) ⟨λ_ _ _=>⟨aG 3,λ_=>TB _⟩,aG 3,λ_ _ _ _=>TB _⟩ ?_;rintro ⟨⟨g,_⟩,_⟩ e;obtain rfl:g=true:=e;simp only;rw [hsn.1];refine λ_=>⟨by unfold aD;omega,cG.intro (λi=>i.1.1=p.length) (λ_=>hsn.2) ?_⟩;rintro ⟨⟨l,_⟩,_⟩ e;obtain rfl:l=p.length:=e;simp only;refine cG.intro (λ_=>True) (aq (λhq=>by cases hq) (λ_=>aq (λhq=>absurd (of_decide_eq_true hq) (by omega)) (λ_=>aq (λhz=>aq (λhs=>?_) (λ_=>trivial)) (λ_=>trivial)))) ?_
 .have hz:(p.length:Int)=0:=eq_of_beq hz;have:=vM hs;omega
 intro _ _;refine cG.intro (λi=>i.2.1.1=0/\i.2.2.1=(p,s,st,nx,())) (aq (λhz=>?_) (λhz=>?_)) ?_
 .have hz:(p.length:Int)>0:=of_decide_eq_true hz;rcases hq with ⟨rfl,_⟩| ⟨p0,rfl,hs,r,rfl⟩
  .simp at hz
  have e4:List.take 4 (aI 4 s.toNat++(p++r))=aI 4 s.toNat:=List.take_left' (aE _ _);have e5:List.drop 4 (aI 4 s.toNat++(p++r))=p++r:=List.drop_left' (aE _ _);obtain ⟨q1,q2,q3⟩:=Im (x:=p) (y:=r) (n:=p.length) rfl;rw [af,aE] at hql;rw [e4,e5,q1,q2,q3,agL hs.1 hs.2];have Xp:(p++r).length=p.length+r.length:=af;refine ⟨trivial,by decide,by decide,by rw [af,aE];omega,by rw [af,aE];omega,λ_ _=>⟨trivial,by omega,by omega,λ_=>⟨by unfold aD;omega,by unfold aD;omega,rfl,?_⟩⟩⟩;rw [show a+3+(4+(p.length:Int))=a+7+p.length by omega]
 .have hz:¬(p.length:Int)>0:=of_decide_eq_false hz;rcases hq with ⟨rfl,rfl,rfl,rfl⟩| ⟨p0,_⟩
  .exact ⟨rfl,rfl⟩
  .omega
 rintro ⟨_,⟨c,y,_⟩,cc,_⟩ ⟨e1,e2⟩;simp only at e1 e2;subst e1 e2;exact λ_=>aq (λhq=>by cases hq) (λ_=>⟨aG _,h⟩)
def akA:Ct:=cD .u8 λb=>cI λa=>c0 λQ=>∃ p s st nx,b.length<=100000000/\Cut b a p s st nx/\Q (.cH [.c (.k (.int .i64 nx)),.c (.k (.int .i64 0))]) []
def ahR:=ahS.add aiO
def RG (b:(List (Ty.u8).den)) (a:Int):dx:=λQ=>cU b (aD .i64 a->iA b (∃ p s st nx e,alQ b a p s st nx e/\(aJ (bw p)->aD .u32 s->cg nx e (Q (.cH [.c (.k (aC nx)),.c (.k (aC e))]) []))))
theorem aiu:cu 62 akA:=eQ<| jm λb=>nG λa=>gM λQ h=>by
 refine Wp.dC ahR ft ⟨[],[]⟩ Tryz.f62 (RG b a) (hold:=[92]) ?_;unfold RG iA cg bw cU aC aJ;obtain ⟨p,s,st,nx,hl,hC,h⟩:=h;exact λ_ _=>⟨hl,p,s,st,nx,0,⟨by grind⟩,by grind⟩
def akz:Ct:=cT λT=>cD .u8 λb=>cI λa=>c0 λQ=>T.length=256/\b.length<=100000000/\∃ z nx e,FrE T b a z nx e/\Q (.cH [.c (.d .u8 z),.c (.k (.int .i64 nx)),.c (.k (.int .i64 e))]) []
def ahQ:=ahR.add aiu
abbrev Pr (y0:SV->List HO->Prop):=y0 (.cH [.c (.k bZ),.c (.k aR),.c (.k (.int .i64 2))]) []
def RE (T:List Int) (b:(List (Ty.u8).den)) (a:Int):dx:=λQ=>cU b (aD .i64 a->iA b (∃ p s st nx e,alQ b a p s st nx e/\(aJ (bw p)->aD .u32 s->cg nx e (br (e !=0) (Q (.cH [.c (.k bZ),.c (.k aR),.c (.k (aC e))]) []) (aJ (bw p)->br ((aA p)==0) 
 (Q (.cH [.c (.k bZ),.c (.k (aC nx)),.c (.k aR)]) []) (dQ T (aD .u32 (cv T ah p)->br (cv T ah p !=s) (Pr Q) (br st (Q (SV.cH [S1.c (Cl.d Ty.u8 p),.c (.k (aC nx)),.c (.k aR)]) []) (∃ z,nE p []= 
 some z/\(aA z)<=bF/\bF<=(1000000:Int)/\(aJ (bw z)->aD .i64 0->aJ (bw z)->br ((aA z)==0) (Pr Q) (Q (SV.cH [S1.c (Cl.d Ty.u8 z),.c (.k (aC nx)),.c (.k aR)]) [])))))))))))
theorem ais:cu 63 akz:=eQ<| okT λT=>jm λb=>nG λa=>gM λQ h=>by
 refine Wp.kC [some (.sl .u8),none,none] [] ?_;refine Wp.dC ahQ ft ⟨[],[]⟩ Tryz.f63 (RE T b a) (hold:=[92]) ?_;unfold RE Pr iA cg dQ bw cU bZ aR aC ah bF aA aJ bI;obtain ⟨hT,hl,z,nx,e,hE,h⟩:=h;refine λ_ _=>⟨hl,?_⟩;rcases hE.or with ⟨h1,rfl,rfl,rfl⟩| ⟨rfl,hF⟩;exact ⟨[],0,false,0,2,⟨.inl ⟨h1,rfl,rfl,rfl,rfl,rfl⟩⟩,λ_ _ _ _=>aq (λ_=>⟨aG _,h⟩) (λq=>by cases q)⟩;obtain ⟨p,s,st,hC,hk⟩:=hF.cut (zi T 0);refine ⟨p,s,st,nx,0,⟨.inr ⟨rfl,hC⟩⟩,λ_ _ _ _=>aq (λq=>by cases q) (λ_=>λ_=>aq (λhq=>?_) (λhq=>⟨hT,λ_=>aq (λhs=>?_) (λ_=>aq (λht=>?_) (λht=>?_))⟩))⟩
 .have hq:(p.length:Int)=0:=eq_of_beq hq;rcases hk with ⟨rfl,rfl⟩| ⟨p0,_⟩
  .exact ⟨aG _,h⟩
  .omega
 all_goals
  have hq:¬(p.length:Int)=0:=by simpa using hq
  rcases hk with ⟨rfl,_⟩| ⟨p0,b0,b1,rfl,hk⟩;exact absurd rfl hq
 .simp at hs
 .rcases hk with ⟨_,rfl⟩| ⟨rfl,_⟩
  .exact ⟨aG _,h⟩
  .cases ht
 .rcases hk with ⟨rfl,_⟩| ⟨_,he⟩
  .cases ht
  .exact ⟨z,he.done,by omega,by decide,λ_ _ _=>aq (λhz=>by have:(z.length:Int)=0:=eq_of_beq hz;omega) (λ_=>⟨aG _,h⟩)⟩
end Go.Proofs

namespace Go.Lm
open Go Go.RowKit
section
variable {P:Program} {I:cX->Prop} {f:FuncId} {Q:SV->List HO->Prop} {tE:TypeId} {n:Int}
theorem Wp.akf (h0:∀ w,Calls P f #[.slice none 0 0,.int .i64 0] w λe w'=>e= .returned (.slice none 0 0)/\w'=w)
  (h1:∀ (n:Nat) (w:World),0< n->n<=1000000000->Calls P f #[.slice none 0 0,.int .i64 n] w λe w'=>∃ (G:Nat) (cs:Array Value),e= .returned (.slice (some ⟨w.heap.size,0,none⟩) 0 G)/\w'=w.drew.alloc (.cells cs tE)/\cs.size=G/\G<=maxLen)
  (hn:0<=n/\n<=1000000000) (hq:Q (.c (.o 0)) [.sl tE .u8 []]):Wp I P f [.v (.c (.k (.slice none 0 0))),.v (.c (.k (.int .i64 n)))] [] Q:=by
 intro W hW g w E F vs S Ef;obtain ⟨_,_,rfl,⟨rfl,_⟩,_,_,rfl,⟨rfl,_⟩,hz⟩:=Ef;rw [show _= [] from hz];have hE:E= []:=bA S.len;subst hE;letI:=Ty.u8.rep;by_cases e0:n=0
 .subst e0;refine Calls.mono (h0 w) ?_;rintro e w' ⟨rfl,rfl⟩;refine ⟨_,rfl,[.slice none 0 0],g,.c (.o 0),_,bu.app [] _,bt.refl g,⟨?_,rfl⟩,⟨rfl,none,0,0,rfl⟩,hq⟩;have H:=SL.zU Ty.u8.den tE S.sl;exact H.cJ λh ⟨k1,k2,ap,e,s1,s2⟩=>⟨k1,k2,ap,e,⟨_,rfl,s1⟩,s2⟩
 .obtain ⟨m,rfl⟩:∃ m:Nat,n=m:=⟨n.toNat,by omega⟩;refine Calls.mono (h1 m w (by omega) (by omega)) ?_;rintro e w' ⟨G,cs,rfl,rfl,hs,hG⟩;refine ⟨_,rfl,[.slice (some ⟨w.heap.size,0,none⟩) 0 G],g,.c (.o 0),_,bu.app [] _,bt.refl g,⟨?_,rfl⟩,⟨rfl,_,0,G,rfl⟩,hq⟩;have H:=SL.new (S.sl.le (Le.drew w)) (xG.mk' w.drew (.cells cs tE));have H2:=SL.wx (size:=1) (cap:=G) 0 H (cY _) hG (by rw [hs,Nat.mul_one]);have H3:SL W g (w.drew.alloc (.cells cs tE)) (B4 (α:=Ty.u8.den) tE (.slice (some ⟨w.heap.size,0,none⟩) 0 G) []::(ba [] 0 []++F)):=SL.YR (cs:=[]) trivial (by rw [Nat.zero_mul,List.take_zero] at H2;exact H2);exact H3.cJ λh ⟨k1,k2,ap,e,s1,s2⟩=>⟨k1,k2,ap,e,⟨_,rfl,s1⟩,s2⟩
end
end Go.Lm

namespace Go.Proofs
open Go Go.Shelf Go.Lm
set_option maxRecDepth 1000000
def Tryz.Wk:Go.Shelf.Ren:=⟨fun| 4=>142| n=>n,fun| 22=>35| 25=>5| 3=>3| 4=>4| 9=>9| 20=>20| 0=>0| n=>n,fun| n=>n⟩
theorem Tryz.ag5:Go.Proofs.Lays8.n4 bQ Tryz.Wk:= {
 mixed:=by kernel_rfl
 f4:=⟨"slices.Grow[[]byte,byte]",by kernel_rfl,Tryz.func142.trans (congrArg some (by kernel_rfl))⟩
 t0:=Tryz.underlying0
 a0:=Tryz.isAgg0
 z0:=Tryz.sizeOf0
 v0:=Tryz.zeroValue0
 t3:=Tryz.underlying3
 a3:=Tryz.isAgg3
 z3:=Tryz.sizeOf3
 v3:=Tryz.zeroValue3
 t4:=Tryz.underlying4
 a4:=Tryz.isAgg4
 z4:=Tryz.sizeOf4
 v4:=Tryz.zeroValue4
 t9:=Tryz.underlying9
 a9:=Tryz.isAgg9
 z9:=Tryz.sizeOf9
 v9:=Tryz.zeroValue9
 t20:=Tryz.underlying20
 a20:=Tryz.isAgg20
 z20:=Tryz.sizeOf20
 v20:=Tryz.zeroValue20
 t22:=Tryz.underlying35
 a22:=Tryz.isAgg35
 z22:=Tryz.sizeOf35
 v22:=Tryz.zeroValue35
}
theorem Tryz.anM (w:World):Calls bQ 142 #[.slice none 0 0,.int .i64 0] w λe w'=>e= .returned (.slice none 0 0)/\w'=w:=Any8.slices_Grow_room Tryz.ag5 none 0 0 0 w (aG _) (by decide) (by decide) (by decide)
theorem Tryz.anL (n:Nat) (w:World) (h0:0< n) (h1:n<=1000000000):Calls bQ 142 #[.slice none 0 0,.int .i64 n] w λe w'=>∃ (G:Nat) (cs:Array Value),e= .returned (.slice (some ⟨w.heap.size,0,none⟩) 0 G)/\w'=w.drew.alloc (.cells cs 5)/\cs.size=G/\G<=maxLen:=by
 obtain ⟨i0,Ez⟩:=gV.1 (show (Tryz.prog.info? 5).isSome=true by kernel_rfl);have GS:i0.zero=some (.int .u8 0):=by
  have:(Tryz.prog.info? 5).bind (·.zero)=some (.int .u8 0):=by kernel_rfl
  rw [Ez] at this;exact this
 have hs0:i0.size=1:=by
  have:(Tryz.prog.info? 5).map (·.size)=some 1:=by kernel_rfl
  rw [Ez] at this;exact aj this
 have hb0:i0.bytes=1:=by
  have:(Tryz.prog.info? 5).map (·.bytes)=some 1:=by kernel_rfl
  rw [Ez] at this;exact aj this
 refine Calls.mono (Any8.slices_Grow_grow Tryz.ag5 i0 _ Ez GS (by omega) none 0 0 n [] w (aG _) (by omega) (by rw [hb0];omega) (by omega) (by simp) (λ_=>rfl) (λa q=>by cases q)) ?_;rintro e w' ⟨rfl,rfl⟩;rw [gC];refine ⟨_,_,rfl,rfl,?_,?_⟩
 .have:=grownCap_ge w n 0 5;simp [Builtin.zeroCells,Value.cells];show n+(grownCap w n 0 5 - n)=grownCap w n 0 5;omega
 .exact grownCap_le_maxLen w n 0 5 (by unfold maxLen;omega)
end Go.Proofs

namespace Go.Lm
open Go Go.RowKit
def jM (L:List HO) (v:Value):Atom:=⟨λg h=>∃ E:Env,E.length=L.length/\E[0]?=some v/\bh g (ba E 0 L) h,λm ⟨E,h1,h2,h3⟩=>⟨E,h1,h2,bh.mono m h3⟩⟩
def ED (p n:Nat) (i:Nat):Option Nat:=some (if i=0 then p else n+(i - 1))
def MZ (p:Nat) (L H:List HO):List HO:=H.set p ((lr L 0).fx (ED p H.length))++L.tail.map (·.fx (ED p H.length))
def NJ (p:Nat) (r:List Nat) (H:List HO):List HO:=(iL H (p::r)).set p (.abs (jM ((p::r).map λl=>(lr H l).fx (iG (p::r)))))
section
variable {P:Program} {I:cX->Prop} {f:FuncId} {args:List SV} {H:List HO} {Q Q':SV->List HO->Prop}
theorem wC {E E':Env} {g:World} {r:Nat->Option Nat} (hr:mH r E E'):∀ {L:List HO} {k m:Nat} {h:Hp},(∀ i,r (k+i)=some (m+i))->bh g (ba E k L) h->bh g (ba E' m (L.map (·.fx r))) h
 | [],_,_,_,_,s=>s
 | o::L,k,m,_,hi,⟨h1,h2,ap,e,s1,s2⟩=>⟨h1,h2,ap,e,cM.fx hr (hi 0) s1,wC hr (k:=k+1) (m:=m+1) (λi=>by have:=hi (i+1);rw [show k+1+i=k+(i+1) by omega,show m+1+i=m+(i+1) by omega];exact this) s2⟩
theorem Wp.Zz {p:Nat} {L:List HO} (hp:H[p]?=some (.abs (jM L))) (hL:0< L.length) (h:Wp I P f args (MZ p L H) Q):Wp I P f args H Q:=Wp.beg λW E g w F s1=>by
 have JB:=(aw.1 hp).1;obtain ⟨E1,hE1⟩:∃ E1:List Value,(∃ v EL,E[p]?=some v/\EL.length=L.length/\EL[0]?=some v/\E1=E++EL.tail/\SL W g w (⟨λg h=>bh g (ba EL 0 L) h,λm=>bh.mono m⟩::(ba E 0 (H.set p .gone)++F))):=by
  obtain ⟨be,hs⟩:=s1.sl;have key:∀ h0,bh g (ba E 0 H++F) h0->∃ v EL,E[p]?=some v/\EL.length=L.length/\EL[0]?=some v/\bh g (⟨λg h=>bh g (ba EL 0 L) h,λm=>bh.mono m⟩::(ba E 0 (H.set p .gone)++F)) h0:=λh0 x=>by
   obtain ⟨h1,h2,ap,e,⟨v,hE,EL,a1,a2,a3⟩,x2⟩:=bh.sk hp x;exact ⟨v,EL,hE,a1,a2,h1,h2,ap,e,a3,x2⟩
  obtain ⟨se,hh,ow,x⟩:=hs;obtain ⟨v,EL,b1,b2,b3,b4⟩:=key _ x;exact ⟨_,v,EL,b1,b2,b3,rfl,be,se,hh,ow,b4⟩
 obtain ⟨v,EL,hE,hlen,h0,rfl,S⟩:=hE1;have hr:mH (ED p H.length) EL (E++EL.tail):=λi i' u hi hu=>by
  unfold ED at hi;have hi:=aj hi;by_cases e0:i=0
  .subst e0;rw [if_pos rfl] at hi;subst hi;rw [h0] at hu;obtain rfl:=aj hu;exact bu.app E _ _ _ hE
  .rw [if_neg e0] at hi;subst hi;rw [bD (by rw [s1.len];omega),s1.len,show H.length+(i - 1) - H.length=i - 1 by omega];cases EL with
   | nil=>simp at hu
   | cons x EL=>
    obtain ⟨j,rfl⟩:∃ j,i=j+1:=⟨i - 1,by omega⟩;simpa using hu
 refine ⟨E++EL.tail,MZ p L H,bu.app E _,⟨S.cJ λh0 x=>?_,?_⟩,h⟩
 .obtain ⟨h1,h2,ap,e,x1,x2⟩:=x;cases L with
  | nil=>simp at hL
  | cons o Lt=>
   obtain ⟨k1,k2,ap1,e1,y1,y2⟩:=x1;have y1:=cM.fx (E:=EL) hr (l:=0) (l':=p) rfl y1;have y2:=wC hr (k:=1) (m:=H.length) (λi=>by unfold ED;rw [if_neg (by omega),show 1+i - 1=i by omega]) y2;have x2:=ba.env (bu.app E EL.tail) x2;subst e1;rw [e];obtain ⟨ap2,ap3⟩:=Hp.eO.1 ap.symm;have z:bh g (cM (E++EL.tail) p (o.fx (ED p H.length))::(ba (E++EL.tail) H.length (Lt.map (·.fx (ED p H.length)))++(ba (E++EL.tail) 0 (H.set p .gone)++F))) ((k1.join k2).join h2):=⟨k1,k2.join h2,Hp.eO.2 ⟨ap1,ap2.symm⟩,Hp.join_assoc ..,y1,bh.app ap3.symm y2 x2⟩;obtain ⟨m1,m2,ap4,e4,z1,z2⟩:=z;rw [e4];unfold MZ;rw [oY,aL,gC,jd];refine bh.comm (B:=ba (E++EL.tail) 0 (H.set p (o.fx (ED p H.length)))) (A:=ba (E++EL.tail) H.length (Lt.map (·.fx (ED p H.length)))) ?_;refine bh.under (λh3 x3=>?_) (bh.toEnd (A:=ba (E++EL.tail) H.length (Lt.map (·.fx (ED p H.length)))) (F:=ba (E++EL.tail) 0 (H.set p .gone)++F) ⟨m1,m2,ap4,rfl,z1,z2⟩);have:=bh.En (by rw [jd];exact JB) x3;rw [List.set_set] at this;exact this
 .unfold MZ;simp [s1.len,hlen]
theorem Wp.aaz (h:Wp I P f args H λsv H'=>∃ (p:Nat) (r:List Nat),(p::r).Nodup/\(∀ l∈p::r,l< H'.length)/\Q sv (NJ p r H')):Wp I P f args H Q:=
 h.fin λW E g w F H' sv s ⟨p,r,hn,fD,q⟩=>by
  refine ⟨g,_,bt.refl g,⟨s.sl.cJ λh0 x=>?_,?_⟩,q⟩
  .have x1:=bh.qC (ob:=lr H') hn (λl hl=>by
    have Al:=fD l hl;rw [ao Al,mu (ao Al)]) x
   obtain ⟨h1,h2,ap,e,y1,y2⟩:=bh.YL (bh.comm x1);have v7:mH (iG (p::r)) E ((p::r).map λl=>(E[l]?).getD undef):=λl l' v h1 h2=>by
    have:=oR h1;rw [dq,this];simp [h2]
   have y3:=bh.xY (X:=[]) v7 (k:=0) (λi l hi=>by rw [gC];exact qm hn hi) (by rw [bd];exact y1);rw [bd] at y3;unfold NJ;refine bh.En (by rw [mE];exact fD p (by simp)) ?_;have hp:p< E.length:=by rw [s.len];exact fD p (by simp)
   exact ⟨h1,h2,ap,e,⟨E[p],ao hp,_,by simp,by simp [ao hp],y3⟩,y2⟩
  .unfold NJ;rw [jd,mE];exact s.len
def uC (p:Nat) (r ls:List Nat) (n0:Nat) (Q:SV->List HO->Prop):SV->List HO->Prop:=λsv H'=>
 if nt (p::r)&& (nt ls&& ((p::r).all (λl=>gP l H'.length)&& (ls.all (λl=>gP l H'.length)&& (ls.take n0==bL n0)))) then Q (sv.fx (iG ls)) (ls.map λl=>(lr (NJ p r H') l).fx (iG ls)) else False
theorem Wp.anQ {p:Nat} {r ls:List Nat} {H0:List HO} {n0:Nat} (hn:H0.length=n0) (k:(∀ Q,Wp I P f args H Q->Wp I P f args H0 Q)) (h:Wp I P f args H (uC p r ls n0 Q)):Wp I P f args H0 Q:=
 Wp.sel (k _ (Wp.aaz (h.mono λsv H' q=>by
  unfold uC at q;obtain ⟨hc,q⟩:=di q;simp only [ak,bn] at hc;obtain ⟨c1,c2,c3,c4,c5⟩:=hc;refine ⟨p,r,jJ.1 c1,λl hl=>by simpa using c3 l hl,ls,by rw [hn];exact eq_of_beq c5,jJ.1 c2,λl hl=>?_,q⟩;unfold NJ;rw [jd,mE];simpa using c4 l hl)))
theorem Wp.zt {q p:Nat} {r ls:List Nat} {L:List HO} (hp:H[q]?=some (.abs (jM L))) (hL:0< L.length) (h:Wp I P f args (MZ q L H) (uC p r ls H.length Q)):Wp I P f args H Q:=Wp.anQ rfl (λ_ k=>Wp.Zz hp hL k) h
theorem Wp.ZN {p:Nat} {r ls:List Nat} (h:Wp I P f args H (uC p r ls H.length Q)):Wp I P f args H Q:=Wp.anQ rfl (λ_ k=>k) h
end
end Go.Lm

namespace Go.Lm
open Go
structure Xu (T:List Int) (x y:List UInt8) (R:List UInt8) (fs:List (List UInt8)):Prop where
 flat:x=fs.flatten
 le:128*fs.length<=R.length
 rest:y=R.drop (128*fs.length)
 fr:∀ (i:Nat) z,fs[i]?=some z->Ea T ((R.drop (128*i)).take 128) z
structure MW (T:List Int) (x y:List UInt8) (R:List UInt8) (fs:List (List UInt8)):Prop where
 g:Xu T x y R fs
 lt:y.length< 128
theorem MW.nil (T:List Int):MW T [] [] [] []:=⟨⟨rfl,aG _,rfl,λi z h=>by simp at h⟩,by decide⟩
theorem Xu.row {T:List Int} {x y R:List UInt8} {fs:List (List UInt8)} (h:Xu T x y R fs):R.length=128*fs.length+y.length:=by
 rw [h.rest,aQ];have:=h.le;omega
theorem Xu.app {T:List Int} {x y R:List UInt8} {fs:List (List UInt8)} (h:Xu T x y R fs) (b:List UInt8):Xu T x (y++b) (R++b) fs:=by
 have hle:=h.le;refine ⟨h.flat,by rw [af];omega,?_,λi z hi=>?_⟩;rw [h.rest,eT hle]
 .have fD:=(aw.1 hi).1;have:=h.fr i z hi;rw [eT (by omega),List.take_append_of_le_length (by rw [aQ];omega)];exact this
theorem Xu.step {T:List Int} {x y R z:List UInt8} {fs:List (List UInt8)} (h:Xu T x y R fs) (hy:128<=y.length) (hz:Ea T (y.take 128) z):Xu T (x++z) (y.drop 128) R (fs++ [z]):=by
 have hr:=h.row;refine ⟨by rw [jw,<-h.flat,List.flatten_singleton],by rw [af,ay];omega,?_,λi q hi=>?_⟩;rw [h.rest,eP,af,ay,show 128*(fs.length+1)=128*fs.length+128 by omega]
 .rcases eW i fs.length with hl| hl
  .rw [bN hl] at hi;exact h.fr i q hi
  .rw [bD hl] at hi;have fD:=(aw.1 hi).1;rw [ay] at fD;obtain rfl:i=fs.length:=by omega
   rw [Nat.sub_self] at hi;obtain rfl:z=q:=by simpa using hi
   rw [<-h.rest];exact hz
theorem NK {T:List Int} {R:List UInt8}:∀ {fs:List (List UInt8)} {k:Nat},(∀ (i:Nat) z,fs[i]?=some z->Ea T ((R.drop (128*(k+i))).take 128) z)->fs.flatten.length<=135*fs.length
 | [],_,_=>aG _
 | z::fs,k,h=>by
  have h1:=(h 0 z rfl).len.2;have h2:=NK (fs:=fs) (k:=k+1) (λi z hz=>by rw [show k+1+i=k+(i+1) by omega];exact h (i+1) z (by simpa using hz));rw [aH] at h1;simp only [dD,af,av];omega
theorem Xu.adu {T:List Int} {x y R:List UInt8} {fs:List (List UInt8)} (h:Xu T x y R fs):x.length<=135*fs.length:=by
 rw [h.flat];exact NK (T:=T) (R:=R) (k:=0) (λi z hz=>by rw [gC];exact h.fr i z hz)
structure kM (T:List Int) (fs:List (List UInt8)) (R:List UInt8):Prop where
 len:fs.length=(R.length+127) / 128
 fr:∀ (i:Nat) z,fs[i]?=some z->Ea T ((R.drop (128*i)).take 128) z
def dX (fs:List (List UInt8)) (o:Nat):Nat:=256*(fs.take (o / 128)).flatten.length+o % 128
theorem MW.amN {T:List Int} {x y R:List UInt8} {fs:List (List UInt8)} (h:MW T x y R fs) (hy:y= []):kM T fs R/\x=fs.flatten:=by
 have hr:=h.g.row;subst hy;exact ⟨⟨by rw [hr,aO];omega,h.g.fr⟩,h.g.flat⟩
theorem MW.amM {T:List Int} {x y R z:List UInt8} {fs:List (List UInt8)} (h:MW T x y R fs) (hy:y≠ []) (hz:Ea T y z):kM T (fs++ [z]) R/\x++z=(fs++ [z]).flatten:=by
 have hr:=h.g.row;have hl:=h.lt;have h0:=List.length_pos_iff.2 hy;refine ⟨⟨by rw [af,ay];omega,λi q hi=>?_⟩,by rw [jw,<-h.g.flat,List.flatten_singleton]⟩;rcases eW i fs.length with v8| v8
 .rw [bN v8] at hi;exact h.g.fr i q hi
 .rw [bD v8] at hi;have fD:=(aw.1 hi).1;rw [ay] at fD;obtain rfl:i=fs.length:=by omega
  rw [Nat.sub_self] at hi;obtain rfl:z=q:=by simpa using hi
  rw [<-h.g.rest,aT (by omega)];exact hz
theorem MW.ref {T:List Int} {x y R:List UInt8} {fs:List (List UInt8)} (h:MW T x y R fs) (gs:List (List UInt8)):256*x.length+y.length=dX (fs++gs) R.length:=by
 have hr:=h.g.row;have hl:=h.lt;have e1:R.length / 128=fs.length:=by omega
 have e2:R.length % 128=y.length:=by omega
 unfold dX;rw [e1,e2,List.take_left,<-h.g.flat]
abbrev ee:Ty:=.pair (.sl .u8) (.pair (.int .i64) .unit)
def fB (fs:List (List UInt8)) (k:Nat):Nat:=(fs.take k).flatten.length
def k7 (R:List UInt8) (k:Nat):List UInt8:=(R.drop (128*k)).take 128
def uM (fs:List (List UInt8)) (R:List UInt8) (k:Nat):Int×ee.den:=((fB fs k:Int),k7 R k,(fB fs (k+1):Int),())
structure iY (T:List Int) (im:List UInt8) (a c:Int) (fs:List (List UInt8)) (R:List UInt8) (M:List (Int×ee.den)):Prop where
 a0:0<=a
 ac:c=a+fs.flatten.length
 ci:c<=im.length
 row:kM T fs R
 at':∃ r,im.drop a.toNat=fs.flatten++r
 nxt:c=im.length\/∃ b nx,EG T im c b nx
 all:∃ ks:List Nat,ks.Nodup/\(∀ k∈ks,k< fs.length)/\M=ks.map (uM fs R)
structure aih (fs:List (List UInt8)) (R:List UInt8) (k:Nat) (h:ee.den) (ok:Bool):Prop where
 or:(ok=true/\k< fs.length/\h=(k7 R k,(fB fs (k+1):Int),()))\/(ok=false/\k=fs.length/\h=([],0,()))
theorem pig:∀ {n:Nat} {l:List Nat},l.Nodup->(∀ x∈l,x< n)->l.length<=n
 | 0,l,_,h=>by
  cases l with
  | nil=>exact aG 0
  | cons x l=>exact absurd (h x aK) (Nat.not_lt_zero x)
 | n+1,l,hn,h=>by
  by_cases hm:n∈l
  .have h1:(l.erase n).Nodup:=hn.erase n;have h2:(l.erase n).length<=n:=pig h1 λx hx=>by
    have h3:=List.mem_of_mem_erase hx;have h4:x≠n:=λe=>by
     subst e;exact absurd hx (by rw [hn.mem_erase_iff];simp)
    have:=h x h3;omega
   rw [List.length_erase_of_mem hm] at h2;omega
  .have:=pig (n:=n) hn λx hx=>by
    have h4:x≠n:=λe=>hm (e▸hx);have:=h x hx;omega
   omega
theorem n9 {fs:List (List UInt8)} {k:Nat} (h:k< fs.length):fB fs (k+1)=fB fs k+fs[k].length:=by
 unfold fB;rw [bG h,jw,af,List.flatten_singleton]
theorem xy {T:List Int} {fs:List (List UInt8)} {R:List UInt8} (h:kM T fs R):∀ {j k:Nat},j< k->k<=fs.length->fB fs j+3<=fB fs k
 | j,0,h1,_=>by omega
 | j,k+1,h1,h2=>by
  have e:=n9 (fs:=fs) (k:=k) (by omega);have h3:=(h.fr k fs[k] (ao (by omega))).len.1;rcases eW j k with q| q
  .have:=xy h q (by omega);omega
  .obtain rfl:j=k:=by omega
   omega
theorem J3 {T:List Int} {fs:List (List UInt8)} {R:List UInt8} (h:kM T fs R):∀ {k:Nat},k<=fs.length->3*k<=fB fs k
 | 0,_=>by omega
 | k+1,hk=>by
  have:=J3 h (k:=k) (by omega);have:=xy h (j:=k) (k:=k+1) (by omega) hk;omega
theorem Oz {T:List Int} {fs:List (List UInt8)} {R:List UInt8} (h:kM T fs R) {j k:Nat} (hj:j<=fs.length) (hk:k<=fs.length) (e:fB fs j=fB fs k):j=k:=by
 rcases Nat.lt_trichotomy j k with q| q| q;have:=xy h q hk;omega;exact q;have:=xy h q hj;omega
theorem qx (fs:List (List UInt8)):fB fs fs.length=fs.flatten.length:=by unfold fB;rw [eK]
theorem xz {T:List Int} {fs:List (List UInt8)} {R:List UInt8} (h:kM T fs R) {k:Nat} (hk:k<=fs.length):fB fs k<=fs.flatten.length:=by
 rw [<-qx];rcases eW k fs.length with q| q;have:=xy h q (aG _);omega
 .obtain rfl:k=fs.length:=by omega
  exact aG _
theorem iY.get {T:List Int} {im:List UInt8} {a c:Int} {fs:List (List UInt8)} {R:List UInt8} {M:List (Int×ee.den)} (h:iY T im a c fs R M) {k:Nat} (hk:k<=fs.length):(Kk.get .int M (fB fs k:Int)=none/\(k< fs.length->iY T im a c fs R (Kk.put .int M (fB fs k:Int) (uM fs R k).2))/\M.length<=fs.length)\/(k< fs.length/\Kk.get .int M (fB fs k:Int)=some (uM fs R k).2):=by
 obtain ⟨ks,hn,hl,rfl⟩:=h.all;cases hg:Kk.get .int (ks.map (uM fs R)) (fB fs k:Int) with
 | none=>
  have kZ:∀ j∈ks,j≠k:=λj hj e=>by
   subst e;exact (nY (κ:=Int)).1 hg (uM fs R j) (bq.2 ⟨j,hj,rfl⟩) rfl
  refine .inl ⟨rfl,λr8=>⟨h.a0,h.ac,h.ci,h.row,h.at',h.nxt,k::ks,gj.2 ⟨λq=>kZ k q rfl,hn⟩,λj hj=>?_,?_⟩,by rw [bR];exact pig hn hl⟩
  .rcases bz.1 hj with rfl| hj
   .exact r8
   .exact hl j hj
  .show ((fB fs k:Int),(uM fs R k).2)::pf (ks.map (uM fs R)) (fB fs k:Int)=uM fs R k::ks.map (uM fs R);congr 1;unfold pf;refine k9.2 λp hp=>?_;obtain ⟨j,hj,rfl⟩:=bq.1 hp;have:(fB fs j:Int)≠fB fs k:=λe=>kZ j hj (Oz h.row (Nat.le_of_lt (hl j hj)) hk (by omega));show (!decide ((fB fs j:Int)=fB fs k))=true;simp [this]
 | some v=>
  have hm:=oT (κ:=Int) hg;obtain ⟨j,hj,hp⟩:=bq.1 hm;have hp1:(fB fs j:Int)=fB fs k:=congrArg Prod.fst hp;obtain rfl:j=k:=Oz h.row (Nat.le_of_lt (hl j hj)) hk (by omega);exact .inr ⟨hl j hj,congrArg some (congrArg Prod.snd hp).symm⟩
theorem iY.take {T:List Int} {im:List UInt8} {a c:Int} {fs:List (List UInt8)} {R:List UInt8} {M:List (Int×ee.den)} (h:iY T im a c fs R M) {k:Nat} (hk:k< fs.length):EG T im (a+fB fs k) (k7 R k) (a+fB fs (k+1))/\k7 R k≠ []:=by
 have ha:=h.a0;have hac:=h.ac;have hci:=h.ci;have hle:=xz h.row (Nat.le_of_lt hk);obtain ⟨r,hr⟩:=h.at';have Dg:fs.flatten=(fs.take k).flatten++(fs[k]++(fs.drop (k+1)).flatten):=by
  conv=>lhs;rw [<-bX k fs,jw,bO hk,dD]
 refine ⟨⟨by omega,by omega,fs[k],(fs.drop (k+1)).flatten++r,h.row.fr k _ (ao hk),?_,by rw [n9 hk];omega⟩,λe=>?_⟩
 .rw [show (a+(fB fs k:Int)).toNat=a.toNat+fB fs k by omega,<-eP,hr,Dg,aL,aL];exact lH
 .have:=h.row.len;have e2:=congrArg List.length e;unfold k7 at e2;rw [aH,aQ,aO] at e2;omega
structure py (fs:List (List UInt8)) (R:List UInt8) (o n:Nat) (z:List UInt8) (nx e:Int):Prop where
 or:(o+n<=R.length/\z=(R.drop o).take n/\nx=(dX fs (o+n):Int)/\e=0)\/(R.length< o+n/\z= []/\nx=0/\e=2)
theorem VF (fs:List (List UInt8)) (o:Nat):gw (dX fs o:Int) 256=(fB fs (o / 128):Int)/\Int.tmod (dX fs o:Int) 256=((o % 128:Nat):Int):=by
 unfold dX;have:∀ s m:Nat,m< 256->gw ((256*s+m:Nat):Int) 256=(s:Int)/\Int.tmod ((256*s+m:Nat):Int) 256=(m:Int):=λs m hm=>by
  rw [Int.tdiv_eq_ediv_of_nonneg (by omega),Int.tmod_eq_emod_of_nonneg (by omega)];omega
 exact this (fB fs (o / 128)) (o % 128) (by omega)
theorem MX (R:List UInt8) (o c m:Nat):(R.drop o).take c++(R.drop (o+c)).take m=(R.drop o).take (c+m):=by
 rw [List.take_add,eP]
theorem abC (R:List UInt8) (p h:Nat) (hh:h<=128):((k7 R (p / 128)).drop (p % 128)).take (h - p % 128)=(R.drop p).take (h - p % 128):=by
 unfold k7;rw [lG,eP,o9,show 128*(p / 128)+p % 128=p by omega,pB (by omega)]
theorem rB (R:List UInt8) (k:Nat):(k7 R k).length=min 128 (R.length - 128*k):=by
 unfold k7;rw [aH,aQ]
end Go.Lm

namespace Go.Proofs
open Go Go.Lm Go.RowKit
set_option maxRecDepth 1000000
def akV:Ct:=cD .u8 λx=>c0 λQ=>x.length<=140737488355328/\Q (.c (.o 0)) [.sl 5 .u8 x]
def ab8:=ahQ.add ais
def Sl (x:(List (Ty.u8).den)):dx:=λQ=>cU x (Aa x Q)
theorem aiT:cu 38 akV:=eQ<| jm λx=>gM λQ h=>by
 refine Wp.yR (t:=5) (e:=.u8) ?_;refine Wp.dC ab8 ft ⟨[],[]⟩ Tryz.f38 (Sl x) (hold:=[92]) ?_;unfold Sl Aa ck cU bZ;obtain ⟨hl,h⟩:=h;refine λ_ c hc=>aq (λhb=>.inr ⟨rfl,?_⟩) (λhb=>⟨by omega,by omega,.inl h⟩);have hb:c=true:=hb;rw [hc hb] at h;exact h
def Ba:Ct
 | [.v (.c (.p 0 0)),.v (.c cb)],[.cells 150 [.de (.int .u32) T 0 0,.o 1,.o 2],.sl 5 .u8 x,.sl 5 .u8 y],Q=>(match (Ty.sl Ty.u8).of [cb] with
  | some (b,[])=>∃ R fs,T.length=256/\MW T x y R fs/\R.length+b.length<=10000000/\∀ x' y' fs',MW T x' y' (R++b) (fs++fs')->Q (.int (256*x.length+y.length)) [.cells 150 [.de (.int .u32) T 0 0,.o 3,.o 4],.gone,.gone,.sl 5 .u8 x',.sl 5 .u8 y']
  | _=>False)
 | _,_,_=>False
def ahP:=ab8.add aiT
abbrev CP {A0:Type} (y0:List A0) (y1:List UInt8) (R:Prop):=aD .i64 0->(List.length y0+List.length y1)*1<=ck/\List.length y0+List.length y1<=9223372036854775807/\R
def Li (b:(List (Ty.u8).den)) (T:List Int) (x y:List UInt8):dx:=λQ=>cU b (db x (aD .i64 (fe*(aA x))/\(db y (aD .i64 (fe*(aA x)+(aA y))/\yE y b (aM (λi ag=>fC i.2.1.2.2.1 (br (decide ((aS i.2.1.2.2.1)≥bF)) (ah<=bF/\ 
 bF<=(aS i.2.1.2.2.1)/\ah<=ah/\ah<=bF/\bF<=(aS i.2.1.2.2.1)/\dQ i.2.1.1 (List.length (List.take gd (List.drop 0 i.2.1.2.2.1))<=128/\∀ (x:List UInt8),Ea i.2.1.1 (List.take gd (List.drop 0 
 i.2.1.2.2.1)) x->db x (CP i.2.1.2.1 x (ah<=bF/\bF<=(aS i.2.1.2.2.1)/\fc (List.length (List.drop 128 i.2.1.2.2.1))/\ag ((),(i.2.1.1,i.2.1.2.1++x,List.drop gd i.2.1.2.2.1,()),()))))) (Q (.v (.c (.k 
 (.int .i64 (fe*(aA x)+(aA y)))))) [.cells 150 [Cl.de (.int .u32) i.2.1.1 ah bx,.o 3,.o 4],.gone,.gone,.sl 5 Ty.u8 i.2.1.2.1,.sl 5 Ty.u8 i.2.1.2.2.1]))) ((),(T,x,y++b,()),()))))))
theorem HT:cu 54 Ba:=by
 intro args H Q h;unfold Ba at h;split at h;rotate_left;cases h;rename_i cb T x y;split at h;rotate_left;cases h;rename_i b hb;refine Wp.said (args':=[.v (.c (.p 0 0)),.c (.d Ty.u8 b)]) (λE g=>bm.cr (λ_ h=>h) (bm.cr (dH hb) (λ_ h=>h))) ?_;clear hb;refine Wp.dC ahP ft ⟨[(4,⟨[],[(0,.cells 150 [.dp (.int .u32),.own 5 .u8,.own 5 .u8])]⟩)],[]⟩ Tryz.f54 (Li b T x y) (hold:=[89,38]) ?_;unfold Li yE db CP dQ fC ck cU ah bF fe aS aA fc aJ bx gd bI;obtain ⟨R,fs,hT,hm,hl,h⟩:=h;have hr:=hm.g.row;have hx:=hm.g.adu;have fD:=hm.lt;refine λ_ _=>⟨by unfold aD;omega,λ_=>⟨by unfold aD;omega,by omega,by omega,?_⟩⟩;refine aM.intro (λi=>i.2.1.1=T/\∃ fs',Xu T i.2.1.2.1 i.2.1.2.2.1 (R++b) (fs++fs')) (λi=>i.2.1.2.2.1.length) ⟨rfl,[],by rw [bd];exact hm.g.app b⟩ ?_;rintro ⟨_,⟨T',x',y',_⟩,_⟩ ⟨rfl,fs',h1⟩;simp only at h1 ⊢;have h2:=h1.row;have h3:=h1.adu;rw [af] at h2;refine λ_=>aq (λhc=>?_) (λhc=>?_)
 .have hc:(y'.length:Int)≥128:=of_decide_eq_true hc;rw [pc];refine ⟨by decide,by omega,by decide,by decide,by omega,hT,by rw [aH];omega,λz hz _ _=>?_⟩;have hz2:=hz.len.2;rw [aH] at hz2;exact ⟨by omega,by omega,by decide,by omega,by rw [aQ];omega,⟨trivial,fs'++ [z],by rw [<-aL];exact h1.step (by omega) hz⟩,by rw [aQ];omega⟩
 .have hc:¬(y'.length:Int)≥128:=of_decide_eq_false hc;exact h x' y' fs' ⟨h1,by omega⟩
def Od:Ct
 | .v (.c (.p 0 0))::vs,[.abs a],Q=>∃ (T:List Int) (x:List UInt8) (y:List UInt8),a=jM [.cells 150 [.de (.int .u32) T 0 0,.o 1,.o 2],.sl 5 .u8 x,.sl 5 .u8 y]/\Ba (.v (.c (.p 0 0))::vs) [.cells 150 [.de (.int .u32) T 0 0,.o 1,.o 2],.sl 5 .u8 x,.sl 5 .u8 y] (uC 0 [3,4] [0] 1 Q)
 | _,_,_=>False
theorem Bi:cu 54 Od:=λargs H Q h=>by
 unfold Od at h;split at h
 .obtain ⟨T,x,y,rfl,h⟩:=h;exact Wp.zt (q:=0) (L:=[.cells 150 [.de (.int .u32) T 0 0,.o 1,.o 2],.sl 5 .u8 x,.sl 5 .u8 y]) rfl (eS _) (HT _ _ _ h)
 .cases h
def T6:Ct:=cT λT=>c0 λQ=>Q (.c (.p 0 0)) [.cells 150 [.de (.int .u32) T 0 0,.o 1,.o 2],.sl 5 .u8 [],.sl 5 .u8 []]
def aoi:=(ahP.add HT).add Bi
def Lh (T:List Int):dx:=λQ=>Q (SV.v (S1.c (.p 0 0))) [.cells 150 [Cl.de (.int .u32) T ah bx,.k bZ,.k bZ]]
theorem Rf:cu 47 T6:=eQ<| okT λT=>gM λQ h=>by
 refine (λhh=>Wp.xt (p:=0) (t:=150) (tt:=5) (e:=.u8) (Wp.xt (p:=0) (t:=150) (tt:=5) (e:=.u8) hh)) ?_;refine Wp.dC aoi ft ⟨[],[]⟩ Tryz.f47 (Lh T) (hold:=[89,38]) ?_;unfold Lh bZ ah bx;exact ⟨[_],[_],rfl,[_,_],[],rfl,h⟩
def aa6:Ct:=λargs H Q=>T6 args H (uC 0 [1,2] [0] H.length Q)
theorem Kx:cu 47 aa6:=λargs H Q h=>Wp.ZN (Rf _ _ _ h)
def abh:Ct
 | [.v (.c (.k (.slice none 0 0))),.v (.c (.k (.int .i64 n)))],[],Q=>(0<=n/\n<=1000000000)/\Q (.c (.o 0)) [.sl 5 .u8 []]
 | _,_,_=>False
theorem aiM:cu 142 abh:=λargs H Q h=>by
 unfold abh at h;split at h;exact Wp.akf Tryz.anM Tryz.anL h.1 h.2;cases h
def abt:Ct:=cD (Ty.sl Ty.u8) λl=>c0 λQ=>l.flatten.length<=100000000/\Q (.c (.d .u8 l.flatten)) []
def ahO:=((((ab8.add HT).add Bi).add Rf).add Kx).add aiM
abbrev fh:=SV.v (S1.c (.o 0))
def FO (l:(List ((Ty.sl Ty.u8)).den)):dx:=λQ=>List.length l<=9223372036854775807->aJ (List.length l)->aM (λi ag=>br (decide (i.1.1< (aA l))) (0<=i.1.1/\i.1.1< (aA l)/\(Ty.ok bC (aB bC l i.1.1)->aJ (List.length (aB bC l i.1.1))->aD .i64 
 (i.1.2.1+(aS (aB bC l i.1.1)))/\br (decide (i.1.2.1+(aS (aB bC l i.1.1))< ah)) False (cF i.1.1 (ag ((i.1.1+1,i.1.2.1+(aS (aB bC l i.1.1)),()),()))))) ((0<=i.1.2.1/\i.1.2.1<=1000000000)/\(aJ 
 (List.length l)->aM (λi ag=>br (decide (i.1.1< (aA l))) (0<=i.1.1/\i.1.1< (aA l)/\(Ty.ok bC (aB bC l i.1.1)->(List.length i.1.2.1+List.length (aB bC l i.1.1))*1<=ck/\List.length i.1.2.1+List.length (aB 
 bC l i.1.1)<=9223372036854775807/\cF i.1.1 (ag ((i.1.1+1,i.1.2.1++aB bC l i.1.1,()),())))) (Q fh [.sl 5 Ty.u8 i.1.2.1])) ((ah,[],()),())))) ((ah,ah,()),())
theorem Yc:cu 90 abt:=eQ<| jm λl=>gM λQ h=>by
 refine Wp.kC [some (.sl .u8)] [0] ?_;refine Wp.dC ahO ft ⟨[(4,⟨[(11,.int .i64),(3,.int .i64)],[]⟩),(12,⟨[(27,.int .i64),(6,.own 5 .u8)],[]⟩)],[]⟩ Tryz.f90 (FO l) (hold:=[89,38]) ?_;unfold FO fh cF ck ah aS aA aJ bC;obtain ⟨hl,h⟩:=h;have vM:∀ i:Int,0<=i->i< l.length->(l.take (i+1).toNat).flatten=(l.take i.toNat).flatten++aB (.sl .u8) l i:=λi h0 h1=>by
  rw [ixT (e:=.sl .u8) h0 h1,jw,List.flatten_singleton]
 have hle:∀ n:Nat,(l.take n).flatten.length<=l.flatten.length:=λn=>by
  conv=>rhs;rw [<-bX n l,jw,af]
  omega
 intro _ _;refine aM.intro (λi=>0<=i.1.1/\i.1.1<=l.length/\i.1.2.1=(l.take i.1.1.toNat).flatten.length) (λi=>l.length - i.1.1.toNat) ⟨by simp,by simp,by simp⟩ ?_;rintro ⟨⟨i,n,_⟩,_⟩ ⟨h0,h1,h2⟩;simp only at h0 h1 h2 ⊢;subst h2;have:=hle i.toNat
 refine aq (λhc=>?_) (λhc=>⟨by omega,λ_=>?_⟩)
 .have hc:i< (l.length:Int):=of_decide_eq_true hc;have e:=vM i h0 hc;have h3:=hle (i+1).toNat
  have e2:=congrArg List.length e;rw [af] at e2;generalize aB (.sl .u8) l i=z at*;exact ⟨h0,hc,λ_ _=>⟨by unfold aD;omega,aq (λhd=>by have hd:=of_decide_eq_true hd;omega) (λ_=>⟨by unfold aD;omega,⟨by omega,by omega,by omega⟩,by omega⟩)⟩⟩
 refine aM.intro (λi=>0<=i.1.1/\i.1.1<=l.length/\i.1.2.1=(l.take i.1.1.toNat).flatten) (λi=>l.length - i.1.1.toNat) ⟨by simp,by simp,by simp⟩ ?_;rintro ⟨⟨j,n,_⟩,_⟩ ⟨h0,h1,h2⟩;simp only at h0 h1 h2 ⊢;subst h2;refine aq (λhc=>?_) (λhc=>?_)
 .have hc:j< (l.length:Int):=of_decide_eq_true hc;have e:=vM j h0 hc;have h3:=hle (j+1).toNat
  have e2:=congrArg List.length e;rw [af] at e2;exact ⟨h0,hc,λ_=>⟨by omega,by omega,by unfold aD;omega,⟨by omega,by omega,e.symm⟩,by omega⟩⟩
 .have hc:¬j< (l.length:Int):=of_decide_eq_false hc;rw [aT (by omega)];exact ⟨cY _,h⟩
def DH:Ct
 | [.v (.c (.p 0 0))],[.cells 150 [.de (.int .u32) T 0 0,.o 1,.o 2],.sl 5 .u8 x,.sl 5 .u8 y],Q=>∃ R fs,T.length=256/\MW T x y R fs/\R.length<=10000000/\∀ fs',kM T (fs++fs') R->Q (.c (.d .u8 (fs++fs').flatten)) [.gone,.gone,.gone]
 | _,_,_=>False
def ahN:=ahO.add Yc
def Fj (T:List Int) (x y:List UInt8):dx:=λQ=>List.length y<=9223372036854775807->br ((aA y)==0) (fc (List.length x)/\(db x (Q (SV.v (S1.c (Cl.d Ty.u8 x))) [.cells 150 [Cl.de (.int .u32) T ah bx,.o 1,.o 2],HO.held (5:TypeId) Ty.u8 x,.sl 5 Ty.u8 
 y]))) (dQ T (List.length y<=128/\∀ (xK:List UInt8),Ea T y xK->db xK (aD .i64 0->List.length (ae [x,xK])<=100000000/\(aJ (List.length (ae [x,xK]))->Q (SV.v (S1.c (Cl.d Ty.u8 (ae [x, 
 xK])))) [.cells 150 [Cl.de (.int .u32) T ah bx,.o 1,.o 2],HO.held (5:TypeId) Ty.u8 x,HO.held (5:TypeId) Ty.u8 y]))))
theorem Ky:cu 55 DH:=by
 intro args H Q h;unfold DH at h;split at h;rotate_left;cases h;rename_i T x y;refine Wp.agK ?_;refine Wp.dC ahN ft ⟨[],[]⟩ Tryz.f55 (Fj T x y) (hold:=[89,38,90]) ?_;unfold Fj db dQ ah aA fc aJ bx bI;obtain ⟨R,fs,hT,hm,hl,h⟩:=h;have hr:=hm.g.row;have hx:=hm.g.adu;have fD:=hm.lt;refine λ_=>aq (λhc=>?_) (λhc=>?_)
 .have hc:(y.length:Int)=0:=eq_of_beq hc;obtain ⟨h1,h2⟩:=hm.amN (bA (by omega));have h3:=h [] (by rw [bd];exact h1);rw [bd,<-h2] at h3;exact ⟨by omega,λ_=>h3⟩
 .have hc:¬(y.length:Int)=0:=by simpa using hc
  refine ⟨hT,by omega,λz hz _ _=>?_⟩;obtain ⟨h1,h2⟩:=hm.amM (λe=>by rw [e] at hc;simp at hc) hz;have h3:=h [z] h1;rw [<-h2] at h3;have e:ae [x,z]=x++z:=by simp
  rw [e];have:=hz.len.2;exact ⟨by rw [af];omega,λ_=>h3⟩
def Hl:Ct
 | .v (.c (.p 0 0))::vs,[.abs a],Q=>∃ (T:List Int) (x:List UInt8) (y:List UInt8),a=jM [.cells 150 [.de (.int .u32) T 0 0,.o 1,.o 2],.sl 5 .u8 x,.sl 5 .u8 y]/\DH (.v (.c (.p 0 0))::vs) [.cells 150 [.de (.int .u32) T 0 0,.o 1,.o 2],.sl 5 .u8 x,.sl 5 .u8 y] (uC 0 [1,2] [0] 1 Q)
 | _,_,_=>False
theorem ET:cu 55 Hl:=λargs H Q h=>by
 unfold Hl at h;split at h
 .obtain ⟨T,x,y,rfl,h⟩:=h;exact Wp.zt (q:=0) (L:=[.cells 150 [.de (.int .u32) T 0 0,.o 1,.o 2],.sl 5 .u8 x,.sl 5 .u8 y]) rfl (eS _) (Ky _ _ _ h)
 .cases h
def jx:List (Nat×Ty):=(281,ee)::ft
def xw:Ct
 | [.v (.c (.de (.int .u32) T 0 0)),.v (.c cim),.v (.c (.k (.int .i64 a))),.v (.c (.k (.int .i64 c)))],[],Q=>(match (Ty.sl Ty.u8).of [cim] with
  | some (im,[])=>im.length<=100000000/\Q (.c (.p 0 0)) [.cells 245 [.de (.int .u32) T 0 0,.d .u8 im,.k (.int .i64 a),.k (.int .i64 c),.m 1],.map 3 .int ee []]
  | _=>False)
 | _,_,_=>False
def ahM:=(ahN.add Ky).add ET
def Fl (T:List Int) (im:(List (Ty.u8).den)) (a c:Int):dx:=λQ=>cU im (cg a c (fc (dy im)/\(aJ (dy im)->Q (SV.v (S1.c (.p 0 0))) [.cells 245 [Cl.de (.int .u32) T ah bx,Cl.d Ty.u8 im,.k (aC a),.k (aC c),Cl.m bH],HO.map eI Kk.int ee []])))
theorem KA:cu 103 xw:=by
 intro args H Q h;unfold xw at h;split at h;rotate_left;cases h;rename_i T cim a c;split at h;rotate_left;cases h;rename_i im Xq;refine Wp.said (args':=[.v (.c (.de (.int .u32) T 0 0)),.c (.d Ty.u8 im),.int a,.int c]) (λE g=>bm.cr (λ_ h=>h) (bm.cr (dH Xq) (bm.cr (λ_ h=>h) (bm.cr (λ_ h=>h) (λ_ h=>h))))) ?_;clear Xq;refine Wp.dC ahM jx ⟨[],[]⟩ Tryz.f103 (Fl T im a c) ?_;unfold Fl dy cg cU aC ah fc aJ bx bH eI;obtain ⟨hl,h⟩:=h;exact λ_ _ _=>⟨by omega,λ_=>h⟩
def afV:Ct:=cP<| cO λH Q=>match H with
 | [.cells 245 [.de (.int .u32) T 0 0,.d .u8 im,.k (.int .i64 a),.k (.int .i64 c),.m 1],.map 3 .int (.pair (.sl .u8) (.pair (.int .i64) .unit)) M]=>(0<=a/\a<=c/\c<=im.length)/\Q (.bool true) [.cells 245 [.de (.int .u32) T 0 0,.d .u8 im,.k (.int .i64 a),.k (.int .i64 c),.m 1],.map 3 .int ee M]
 | _=>False
def ahL:=ahM.add KA
def Lk (T:List Int) (im:List UInt8) (a c:Int) (M:(List (Int×ee.den))):dx:=λQ=>br (decide (a≥0)) (br (decide (a<=c)) (db im (Q (.v (.c (.k (.bool (decide (c<=(aA im))))))) [.cells 245 [Cl.de (.int .u32) T ah bx,Cl.d Ty.u8 im,.k (aC a),.k (aC c),Cl.m bH],HO.map (3: 
 TypeId) Kk.int ee M])) (Q iX [.cells 245 [Cl.de (.int .u32) T ah bx,Cl.d Ty.u8 im,.k (aC a),.k (aC c),Cl.m bH],HO.map (3:TypeId) Kk.int ee M])) (Q iX [.cells 245 [Cl.de (.int .u32) T ah bx,Cl.d Ty.u8 
 im,.k (aC a),.k (aC c),Cl.m bH],HO.map (3:TypeId) Kk.int ee M])
theorem adU:cu 194 afV:=eQ<| r5<| r6 λH Q h=>by
 split at h;rotate_left;cases h;rename_i T im a c M;refine Wp.dC ahL jx ⟨[],[]⟩ Tryz.f194 (Lk T im a c M) ?_;unfold Lk db aC iX ah aA aJ bx bH;obtain ⟨⟨h0,h1,h2⟩,h⟩:=h;refine aq (λ_=>aq (λ_=>λ_=>?_) (λhc=>absurd h1 (of_decide_eq_false hc))) (λhc=>absurd h0 (of_decide_eq_false hc));rw [decide_eq_true h2];exact h
def WH:Ct:=cP<| cI λr=>cO λH Q=>match H with
 | [.cells 245 [.de (.int .u32) T 0 0,.d .u8 im,.k (.int .i64 a),.k (.int .i64 c),.m 1],.map 3 .int (.pair (.sl .u8) (.pair (.int .i64) .unit)) M]=>∃ fs R,T.length=256/\im.length<=100000000/\iY T im a c fs R M/\∃ k:Nat,k<=fs.length/\r=(fB fs k:Int)/\∀ h ok M',iY T im a c fs R M'->aih fs R k h ok->Q (.cH [.agg (ee.cells h),.c (.k (.bool ok))]) [.cells 245 [.de (.int .u32) T 0 0,.d .u8 im,.k (.int .i64 a),.k (.int .i64 c),.m 1],.map 3 .int ee M']
 | _=>False
def ahK:=ahL.add adU
abbrev MR (y0:SV->List HO->Prop) (y1:List Int) (y2:List UInt8) (y3:Int) (y4:Int) (y5:List (Int×ee.den)):=y0 (SV.cH [S1.agg [.k bZ,.k aR],.c (.k (.bool false))]) [.cells 245 [Cl.de (.int .u32) y1 ah bx,Cl.d Ty.u8 y2,.k (aC y3),.k (aC y4),Cl.m bH],HO.map (3:TypeId) Kk.int ee y5]
abbrev Iv (y0:List (Int×ee.den)) (y1:Int):=cA (Kk.get Kk.int y0 y1) ([],ah,())
def Bw (r:Int) (T:List Int) (im:List UInt8) (a c:Int) (M:(List (Int×ee.den))):dx:=λQ=>aD .i64 r->Ty.ok ee (Iv M r)->br (oc (Kk.get Kk.int M r)) (Q (SV.cH [S1.agg [Cl.d Ty.u8 (Iv M r).1,.k (.int .i64 (Iv M r).2.1)],.c (.k (.bool true))]) [.cells 245 [Cl.de (.int .u32) T 
 ah bx,Cl.d Ty.u8 im,.k (aC a),.k (aC c),Cl.m bH],HO.map (3:TypeId) Kk.int ee M]) (aD .i64 (c - a)/\br (decide (r>c - a)) (MR Q T im a c M) (aD .i64 (a+r)/\dQ T (je im (∃ z nx e,FrE T im (a+r) z 
 nx e/\(aJ (bw z)->cg nx e (br (e !=0) (MR Q T im a c M) (br (decide (nx>c)) (MR Q T im a c M) (aJ (bw z)->br ((aA z)==0) (MR Q T im a c M) (aD .i64 (nx - a)/\List.length M< 9223372036854775807/\Q (SV.cH 
 [S1.agg [Cl.d Ty.u8 z,.k (.int .i64 (nx - a))],.c (.k (.bool true))]) [.cells 245 [Cl.de (.int .u32) T ah bx,Cl.d Ty.u8 im,.k (aC a),.k (aC c),Cl.m bH],HO.map (3:TypeId) Kk.int ee (Kk.put Kk.int M r (z,nx - a, 
 ()))])))))))))
theorem UT:cu 195 WH:=eQ<| r5<| nG λr=>r6 λH Q h=>by
 split at h;rotate_left;cases h;rename_i T im a c M;refine Wp.kC [some ee,none] [] ?_;refine Wp.dC ahK jx ⟨[],[]⟩ Tryz.f195 (Bw r T im a c M) ?_;unfold Bw Iv je cg dQ MR bw bZ aR aC ah aA aJ bx bH bI;obtain ⟨fs,R,hT,hl,hR,k,hk,rfl,h⟩:=h;have ha:=hR.a0;have hac:=hR.ac;have hci:=hR.ci;have hle:=xz hR.row hk;have jC:=qx fs;have hge:=J3 hR.row (aG _);refine λ_ _=>?_;rcases hR.get hk with ⟨hg,ajV,hM⟩| ⟨r8,hg⟩;rotate_left
 .rw [hg];exact aq (λ_=>⟨aG _,h _ true M hR ⟨.inl ⟨rfl,r8,rfl⟩⟩⟩) (λhc=>by cases hc)
 rw [hg];refine aq (λhc=>by cases hc) (λ_=>⟨by unfold aD;omega,aq (λhc=>by have hc:=of_decide_eq_true hc;omega) (λ_=>⟨by unfold aD;omega,hT,hl,?_⟩)⟩);rcases eW k fs.length with r8| r8
 .obtain ⟨hF,jb⟩:=hR.take r8;have ant:=xz hR.row (show k+1<=fs.length by omega);refine ⟨_,_,0,⟨.inr ⟨rfl,hF⟩⟩,λ_ _ _=>aq (λhc=>by cases hc) (λ_=>aq (λhc=>by have hc:=of_decide_eq_true hc;omega) (λ_=>λ_=>aq (λhc=>?_) (λ_=>⟨by unfold aD;omega,by omega,aG _,?_⟩)))⟩
  .have hc:((k7 R k).length:Int)=0:=eq_of_beq hc;exact absurd (bA (by omega)) jb
  .rw [show a+(fB fs (k+1):Int) - a=fB fs (k+1) by omega];exact h (uM fs R k).2 true _ (ajV r8) ⟨.inl ⟨rfl,r8,rfl⟩⟩
 .obtain rfl:k=fs.length:=by omega
  have kZ:=h ([],0,()) false M hR ⟨.inr ⟨rfl,rfl,rfl⟩⟩;have apB:a+(fB fs fs.length:Int)=c:=by omega
  rw [apB];rcases hR.nxt with hc| ⟨b,nx,hF⟩;exact ⟨[],0,2,⟨.inl ⟨hc,rfl,rfl,rfl⟩⟩,λ_ _ _=>aq (λ_=>⟨aG _,kZ⟩) (λhq=>by cases hq)⟩
  .obtain ⟨x,r,hx,_,hn⟩:=hF.ex;have:=hx.len.1;exact ⟨b,nx,0,⟨.inr ⟨rfl,hF⟩⟩,λ_ _ _=>aq (λhq=>by cases hq) (λ_=>aq (λ_=>⟨aG _,kZ⟩) (λhq=>by have hq:=of_decide_eq_false hq;omega))⟩
def DJ:Ct
 | [.v (.c (.p 0 0)),.v (.c (.k (.int .i64 r))),.v (.c (.k (.int .i64 n)))],[.cells 245 [.de (.int .u32) T 0 0,.d .u8 im,.k (.int .i64 a),.k (.int .i64 c),.m 1],.map 3 .int (.pair (.sl .u8) (.pair (.int .i64) .unit)) M],Q=>∃ fs R,T.length=256/\im.length<=100000000/\iY T im a c fs R M/\∃ o:Nat,o<=R.length/\R.length<=10000000/\r=(dX fs o:Int)/\(0<=n/\n<=10000000)/\∀ z nx e M',iY T im a c fs R M'->py fs R o n.toNat z nx e->Q (.cH [.c (.d .u8 z),.c (.k (.int .i64 nx)),.c (.k (.int .i64 e))]) [.cells 245 [.de (.int .u32) T 0 0,.d .u8 im,.k (.int .i64 a),.k (.int .i64 c),.m 1],.map 3 .int ee M']
 | _,_,_=>False
def ahJ:=ahK.add UT
abbrev Cu {A0 A3:Type} (y0:List A0) (y1) (y2:Int) (y3:List A3):=List.take (ax (min (aS y0) (y1+y2 - (aS y3))) - ax y1) (List.drop (aU y1) y0)
abbrev SP (y0:SV->List HO->Prop) (y1) (y2) (y3) (y4) (y5:List (Int×Ty.den ee)):=y0 (.cH [.c (.k bZ),.c (.k aR),.c (.k (.int .i64 2))]) [.cells 245 [Cl.de (.int .u32) y1 ah bx,Cl.d Ty.u8 y2,.k (aC y3),.k (aC y4),Cl.m bH],HO.map (3:TypeId) Kk.int ee y5]
abbrev PB (y0:SV->List HO->Prop) (y1:List Int) (y2:List UInt8) (y3:Int) (y4:Int) (y5:List (Int×ee.den)):=y0 (.cH [.c (.k bZ),.c (.k aR),.c (.k (.int .i64 1))]) [.cells 245 [Cl.de (.int .u32) y1 ah bx,Cl.d Ty.u8 y2,.k (aC y3),.k (aC y4),Cl.m bH],HO.map (3:TypeId) Kk.int ee y5]
abbrev CJ {A0 A3:Type} (y0:List A0) (y1) (y2:Int) (y3:List A3):=ax (min (aS y0) (y1+y2 - (aS y3))) - ax y1
def Fk (r n:Int) (T:List Int) (im:List UInt8) (a c:Int) (M:(List (Int×ee.den))):dx:=λQ=>cg r n (br (cV r) (PB Q T im a c M) (br (cV n) (PB Q T im a c M) ((0<=a/\a<=c/\c<=(aA im))/\fe≠ah/\aD .i64 (gw r fe)/\fe≠ah/\(aD .i64 (Int.tmod r 
 fe)->aM (λi ag=>fC i.1.2.2.1 (br (decide ((aS i.1.2.2.1)< n)) (∃ fs R,dQ i.2.1.1 (je i.2.1.2.1 (iY i.2.1.1 i.2.1.2.1 i.2.1.2.2.1 i.2.1.2.2.2.1 fs R i.2.2.1/\∃ k,k<=List.length fs/\i.1.1=(↑(fB fs k): 
 Int)/\∀ (h:Ty.den ee) (ok:Bool) (M':List (Int×Ty.den ee)),iY i.2.1.1 i.2.1.2.1 i.2.1.2.2.1 i.2.1.2.2.2.1 fs R M'->aih fs R k h ok->aJ (bw h.1)->aD .i64 h.2.1->br (!ok) (SP Q i.2.1.1 i.2.1.2.1 i.2.1.2.2.1 
 i.2.1.2.2.2.1 M') (aJ (bw h.1)->br (decide (i.1.2.1≥(aS h.1))) (SP Q i.2.1.1 i.2.1.2.1 i.2.1.2.2.1 i.2.1.2.2.2.1 M') (aJ (bw h.1)->aD .i64 (i.1.2.1+n)/\(aJ (bw i.1.2.2.1)->aD .i64 (i.1.2.1+n - (aS 
 i.1.2.2.1))/\0<=i.1.2.1/\i.1.2.1<=min (aS h.1) (i.1.2.1+n - (aS i.1.2.2.1))/\min (aS h.1) (i.1.2.1+n - (aS i.1.2.2.1))<=(aS h.1)/\(List.length i.1.2.2.1+List.length (Cu h.1 i.1.2.1 n i.1.2.2.1))*1<=ck/\ 
 List.length i.1.2.2.1+List.length (Cu h.1 i.1.2.1 n i.1.2.2.1)<=9223372036854775807/\(List.length (Cu h.1 i.1.2.1 n i.1.2.2.1)<=9223372036854775807->aD .i64 (i.1.2.1+(↑(List.length (Cu h.1 i.1.2.1 n i.1.2.2.1)):Int))/\ 
 br (i.1.2.1+(↑(List.length (Cu h.1 i.1.2.1 n i.1.2.2.1)):Int)==128) (ag ((h.2.1,ah,i.1.2.2.1++List.take (CJ h.1 i.1.2.1 n i.1.2.2.1) (qL i.1.2.1 h.1),()),(i.2.1.1,i.2.1.2.1,i.2.1.2.2.1,i.2.1.2.2.2.1,(),()), 
 M',())) (List.length (i.1.2.2.1++List.take (CJ h.1 i.1.2.1 n i.1.2.2.1) (qL i.1.2.1 h.1))<=9223372036854775807->br (decide ((↑(List.length (i.1.2.2.1++List.take (CJ h.1 i.1.2.1 n i.1.2.2.1) (qL i.1.2.1 h.1))):Int)< 
 n)) (SP Q i.2.1.1 i.2.1.2.1 i.2.1.2.2.1 i.2.1.2.2.2.1 M') (ag ((i.1.1,i.1.2.1+(↑(List.length (Cu h.1 i.1.2.1 n i.1.2.2.1)):Int),i.1.2.2.1++List.take (CJ h.1 i.1.2.1 n i.1.2.2.1) (qL i.1.2.1 h.1),()),(i.2.1.1, 
 i.2.1.2.1,i.2.1.2.2.1,i.2.1.2.2.2.1,(),()),M',())))))))))) (aD .i64 (fe*i.1.1)/\aD .i64 (fe*i.1.1+i.1.2.1)/\Q (SV.cH [S1.c (.o 2),.c (.k (.int .i64 (fe*i.1.1+i.1.2.1))),.c (.k aR)]) [.cells 245 
 [Cl.de (.int .u32) i.2.1.1 ah bx,Cl.d Ty.u8 i.2.1.2.1,.k (aC i.2.1.2.2.1),.k (aC i.2.1.2.2.2.1),Cl.m bH],HO.map (3:TypeId) Kk.int ee i.2.2.1,.sl 5 Ty.u8 i.1.2.2.1]))) ((gw r fe,Int.tmod r fe,[], 
 ()),(T,im,a,c,(),()),M,())))))
theorem Kz:cu 147 DJ:=by
 intro args H Q h;unfold DJ at h;split at h;rotate_left;cases h;rename_i r n T im a c M;refine Wp.kC [some (.sl .u8),none,none] [2] ?_;refine Wp.dC ahJ jx ⟨[(8,⟨[(10,.int .i64),(11,.int .i64),(9,.own 5 .u8)],[(0,.cells 245 [.dp (.int .u32),.d .u8,.int .i64,.int .i64,.Dv (.m 1)]),(1,.map 3 .int ee)]⟩)],[(16,⟨[(10,.int .i64),(11,.int .i64)],[]⟩)]⟩ Tryz.f147 (Fk r n T im a c M) ?_;unfold Fk qL je CJ PB cg cV dQ SP fC Cu bw ck bZ aU aR aC ah fe aS aA aJ bx bH bI;obtain ⟨fs,R,hT,hl,hR,o,ho,hRl,rfl,⟨n0,n1⟩,h⟩:=h;obtain ⟨n,rfl⟩:∃ k:Nat,n=k:=⟨n.toNat,by omega⟩;rw [bM] at h;have ha:=hR.a0;have hac:=hR.ac;have hci:=hR.ci;have jC:=qx fs;have hge:=J3 hR.row (aG _);have hfl:=hR.row.len;obtain ⟨s1,s2⟩:=VF fs o;rw [s1,s2];have rT:=xz hR.row (show o / 128<=fs.length by omega);refine λ_ _=>aq (λhc=>by have hc:=of_decide_eq_true hc;omega) (λ_=>aq (λhc=>by have hc:=of_decide_eq_true hc;omega) (λ_=>⟨⟨ha,by omega,hci⟩,by decide,by unfold aD;omega,by decide,λ_=>?_⟩));refine aM.intro (λi=>i.2.1=(T,im,a,c,(),())/\iY T im a c fs R i.2.2.1/\∃ m:Nat,m<=n/\o+m<=R.length/\i.1=((fB fs ((o+m) / 128):Int),(((o+m) % 128:Nat):Int),(R.drop o).take m,())) (λi=>n - i.1.2.2.1.length) ⟨rfl,hR,0,cY _,ho,rfl⟩ ?_;rintro ⟨⟨at',q,out,_⟩,⟨T',im',a',c',_,_⟩,M1,_⟩ ⟨e1,hR1,m,hm,hom,e2⟩;simp only [Prod.mk.injEq] at e1 e2;obtain ⟨rfl,rfl,rfl,rfl,_⟩:=e1;obtain ⟨rfl,rfl,rfl,_⟩:=e2;simp only at hR1 ⊢;have pQ:((R.drop o).take m).length=m:=by rw [aH,aQ];omega
 rw [pQ];have NA:(o+m) / 128<=fs.length:=by omega
 have asv:=xz hR.row NA;refine λ_=>aq (λhc=>?_) (λhc=>?_);rotate_left
 .have hc:¬(m:Int)< n:=of_decide_eq_false hc;obtain rfl:m=n:=by omega
  refine ⟨by unfold aD;omega,by unfold aD;omega,by simp,?_⟩;have:=h ((R.drop o).take m) (dX fs (o+m):Int) 0 M1 hR1 ⟨.inl ⟨hom,rfl,rfl,rfl⟩⟩;have e:(256*(fB fs ((o+m) / 128):Int)+(((o+m) % 128:Nat):Int))=(dX fs (o+m):Int):=by
   show _=((256*fB fs ((o+m) / 128)+(o+m) % 128:Nat):Int);omega
  rw [e];exact this
 have hc:(m:Int)< n:=of_decide_eq_true hc;refine ⟨fs,R,hT,hl,hR1,_,NA,rfl,λhh ok M2 hR2 hH _ _=>?_⟩;have aj6:R.length< o+n->Q (.cH [.c (.d .u8 []),.c (.k (.int .i64 0)),.c (.k (.int .i64 2))]) _:=λq=>h [] 0 2 M2 hR2 ⟨.inr ⟨q,rfl,rfl,rfl⟩⟩;rcases hH.or with ⟨rfl,hk,rfl⟩| ⟨rfl,hk,rfl⟩;rotate_left;exact aq (λ_=>⟨by simp,aj6 (by omega)⟩) (λhq=>by cases hq);refine aq (λhq=>by cases hq) (λ_=>λ_=>aq (λhq=>?_) (λhq=>?_))
 .have hq:=of_decide_eq_true hq;rw [rB] at hq;exact ⟨by simp,aj6 (by omega)⟩
 have hq:=of_decide_eq_false hq;have hbl:=rB R ((o+m) / 128);simp only at hq ⊢;generalize hz:(min ((k7 R ((o+m) / 128)).length:Int) ((((o+m) % 128:Nat):Int)+(n:Int) - (m:Int)))=z;obtain ⟨d,hd⟩:∃ d:Nat,z=(((o+m) % 128:Nat):Int)+d:=⟨(z - (((o+m) % 128:Nat):Int)).toNat,by omega⟩;have hp:List.take (z.toNat - (((o+m) % 128:Nat):Int).toNat) (List.drop (((o+m) % 128:Nat):Int).toNat (k7 R ((o+m) / 128)))=(R.drop (o+m)).take d:=by
  have:=abC R (o+m) ((o+m) % 128+d) (by omega);rw [bM,show z.toNat - (o+m) % 128=(o+m) % 128+d - (o+m) % 128 by omega,this,show (o+m) % 128+d - (o+m) % 128=d by omega]
 rw [hp];have hdl:((R.drop (o+m)).take d).length=d:=by rw [aH,aQ];omega
 rw [hdl,MX];have aj0:((R.drop o).take (m+d)).length=m+d:=by rw [aH,aQ];omega
 rw [aj0];refine λ_=>⟨by unfold aD;omega,λ_=>⟨by unfold aD;omega,by omega,by omega,by omega,by omega,by omega,λ_=>⟨by unfold aD;omega,aq (λhe=>?_) (λhe=>λ_=>aq (λhf=>?_) (λhf=>?_))⟩⟩⟩
 .have he:(((o+m) % 128:Nat):Int)+(d:Int)=128:=eq_of_beq he;refine ⟨⟨trivial,hR2,m+d,by omega,by omega,?_⟩,by omega⟩;rw [show (o+(m+d)) / 128=(o+m) / 128+1 by omega,show (o+(m+d)) % 128=0 by omega];rfl
 .have hf:=of_decide_eq_true hf;have he:¬(((o+m) % 128:Nat):Int)+(d:Int)=128:=by simpa using he
  exact ⟨by simp,aj6 (by omega)⟩
 .have he:¬(((o+m) % 128:Nat):Int)+(d:Int)=128:=by simpa using he
  refine ⟨⟨trivial,hR2,m+d,by omega,by omega,?_⟩,by omega⟩;rw [show (o+(m+d)) / 128=(o+m) / 128 by omega,show (o+(m+d)) % 128=(o+m) % 128+d by omega];rfl
def Hm:Ct
 | .v (.c (.p 0 0))::vs,[.abs a],Q=>∃ (T:List Int) (im:List UInt8) (a1:Int) (c:Int) (M:List (Int×ee.den)),a=jM [.cells 245 [.de (.int .u32) T 0 0,.d .u8 im,.k (.int .i64 a1),.k (.int .i64 c),.m 1],.map 3 .int ee M]/\DJ (.v (.c (.p 0 0))::vs) [.cells 245 [.de (.int .u32) T 0 0,.d .u8 im,.k (.int .i64 a1),.k (.int .i64 c),.m 1],.map 3 .int ee M] (uC 0 [1] [0] 1 Q)
 | _,_,_=>False
theorem EU:cu 147 Hm:=λargs H Q h=>by
 unfold Hm at h;split at h
 .obtain ⟨T,im,a1,c,M,rfl,h⟩:=h;exact Wp.zt (q:=0) (L:=[.cells 245 [.de (.int .u32) T 0 0,.d .u8 im,.k (.int .i64 a1),.k (.int .i64 c),.m 1],.map 3 .int ee M]) rfl (eS _) (Kz _ _ _ h)
 .cases h
def Hn:Ct:=λargs H Q=>xw args H (uC 0 [1] [0] H.length Q)
theorem EV:cu 103 Hn:=λargs H Q h=>Wp.ZN (KA _ _ _ h)
end Go.Proofs

namespace Go.Lm
open Go
structure UE (x:List Int):Prop where
 le:∀ i:Int,1<=i->i< x.length->aB (.int .i64) x (i - 1)<=aB (.int .i64) x i
abbrev ot:Ty:=.pair (.int .i64) (.pair (.int .i64) (.pair (.int .i64) (.pair (.int .i64) (.pair (.int .i64) (.pair (.int .i64) (.pair (.int .i64) (.pair (.int .i64) (.pair (.int .i64) (.pair (.int .i64) .unit)))))))))
structure rU (s:ot.den):Prop where
 p1:64<=s.2.2.1
 p2:s.2.2.1<=s.2.2.2.1
 p3:s.2.2.2.1<=s.2.2.2.2.1
 p4:s.2.2.2.2.1<=s.2.2.2.2.2.1
 p5:s.2.2.2.2.2.1<=s.2.2.2.2.2.2.1
 p6:s.2.2.2.2.2.2.1<=s.1
 p7:s.1<=1048576
 n1:1<=s.2.1/\s.2.1<=1024
 n2:1<=s.2.2.2.2.2.2.2.1/\s.2.2.2.2.2.2.2.1<=2048
 n3:0<=s.2.2.2.2.2.2.2.2.1/\s.2.2.2.2.2.2.2.2.1<=1024
 n4:0<=s.2.2.2.2.2.2.2.2.2.1/\s.2.2.2.2.2.2.2.2.2.1<=4294967295
theorem rU.ints {s:ot.den} (h:rU s):∃ s0 s1 s2 s3 s4 s5 s6 s7 s8 s9:Int,s=(s0,s1,s2,s3,s4,s5,s6,s7,s8,s9,())/\64<=s2/\s2<=s3/\s3<=s4/\s4<=s5/\s5<=s6/\s6<=s0/\s0<=1048576/\(1<=s1/\s1<=1024)/\(1<=s7/\s7<=2048)/\(0<=s8/\s8<=1024)/\(0<=s9/\s9<=4294967295):=by
 obtain ⟨s0,s1,s2,s3,s4,s5,s6,s7,s8,s9,_⟩:=s;exact ⟨s0,s1,s2,s3,s4,s5,s6,s7,s8,s9,rfl,h.p1,h.p2,h.p3,h.p4,h.p5,h.p6,h.p7,h.n1,h.n2,h.n3,h.n4⟩
theorem ajb {a b c d e f:Int} (h1:64<=a) (h2:a<=b) (h3:b<=c) (h4:c<=d) (h5:d<=e) (h6:e<=f) (h7:f<=1048576):UE [64,a,b,c,d,e,f,1048576]:=⟨λi i0 i1=>by
 have i1:i< 8:=i1;have:i=1\/i=2\/i=3\/i=4\/i=5\/i=6\/i=7:=by omega
 rcases this with rfl| rfl| rfl| rfl| rfl| rfl| rfl<;>assumption⟩
def fT (s:ot.den):List UInt8:=[76,77,76,65]++(aI 4 s.1.toNat++(aI 4 s.2.2.1.toNat++(aI 4 s.2.2.2.1.toNat++(aI 4 s.2.2.2.2.1.toNat++(aI 4 s.2.2.2.2.2.1.toNat++(aI 4 s.2.2.2.2.2.2.1.toNat++(aI 4 s.2.2.2.2.2.2.2.2.2.1.toNat++(aI 2 s.2.1.toNat++(aI 2 s.2.2.2.2.2.2.2.1.toNat++aI 2 s.2.2.2.2.2.2.2.2.1.toNat)))))))))
def fM (T:List Int) (s:ot.den):List UInt8:=fT s++(aI 4 (cv T 0 (fT s)).toNat++au 22 0)
theorem uZ (s:ot.den):(fT s).length=38:=by
 unfold fT;simp only [af,aE,av,aO]
theorem lT (T:List Int) (s:ot.den):(fM T s).length=64:=by
 unfold fM;simp only [af,aE,uZ,aY]
theorem iK (n x:Nat) (r:List UInt8):List.take n (aI n x++r)=aI n x:=List.take_left' (aE n x)
theorem iM (n x:Nat) (r:List UInt8):List.drop n (aI n x++r)=r:=List.drop_left' (aE n x)
theorem ez {n:Nat} {x:Int} (h0:0<=x) (h1:x< 256 ^ n):bK (aI n x.toNat)=x:=by
 have e:(x.toNat:Int)=x:=by omega
 rw [Da n x.toNat (by
  have:(x.toNat:Int)< ((256 ^ n:Nat):Int):=by rw [e];simpa using h1
  exact Int.ofNat_lt.1 this),e]
theorem ajl (z:List UInt8):jF z (z.length:Int)=z/\Kj z (z.length:Int)=0:=by
 have:=Im (x:=z) (y:=[]) (n:=z.length) rfl;rw [bd] at this;exact ⟨this.1,this.2.1⟩
theorem amV:kT (gu [76,77,76,65]) (ByteArray.mk #[(76:UInt8),(77:UInt8),(76:UInt8),(65:UInt8)])=true:=by decide+kernel
end Go.Lm

namespace Go.Proofs
open Go Go.Lm Go.RowKit
set_option maxRecDepth 1000000
def akI:Ct:=cI λx=>c0 λQ=>Q (.bool false) []
def ahI:=((ahJ.add Kz).add EU).add EV
def RV (x:Int):dx:=λQ=>aD .i64 x->Q (.v (.c (.k (.bool (x !=x))))) []
theorem XR:cu 179 akI:=eQ<| nG λx=>gM λQ h=>by
 refine Wp.dC ahI jx ⟨[],[]⟩ Tryz.f179 (RV x) (hold:=[92]) ?_;unfold RV;intro _;rw [show (x !=x)=false by simp];exact h
def afY:Ct:=cI λx=>cI λy=>c0 λQ=>Q (.bool (decide (x< y))) []
def ahH:=ahI.add XR
def Lq (x y:Int):dx:=λQ=>cg x y (Q (.v (.c (.k (.bool (decide (x< y)))))) [])
theorem Rh:cu 131 afY:=eQ<| nG λx=>nG λy=>gM λQ h=>by
 refine Wp.dC ahH jx ⟨[],[]⟩ Tryz.f131 (Lq x y) (hold:=[92]) ?_;unfold Lq cg;exact λ_ _=>h
def WD:Ct:=cD (Ty.int .i64) λx=>c0 λQ=>UE x/\Q (.bool true) []
def ahG:=ahH.add Rh
abbrev bc (y0:SV->List HO->Prop):=y0 iX []
abbrev iB (y0:List ((Ty.int .i64)).den) (R:Prop):=List.length y0<=9223372036854775807->R
abbrev yD (y0:List ((Ty.int .i64)).den) (y1) (R:Prop):=Ty.ok bo (aB bo y0 y1)->aD .i64 (y1 - 1)/\0<=y1 - 1/\y1 - 1< (aA y0)/\R
def Bq (x:(List ((Ty.int .i64)).den)):dx:=λQ=>iB x (aJ (List.length x)->aD .i64 ((aA x) - 1)/\aM (λi ag=>br (decide (i.1.1>0)) (0<=i.1.1/\i.1.1< (aA x)/\(yD x i.1.1 (Ty.ok bo (aB bo x (i.1.1 - 1))->br (decide (aB bo x i.1.1< aB bo 
 x (i.1.1 - 1))) (bc Q) (aD .i64 (i.1.1 - 1)/\ag ((i.1.1 - 1,()),()))))) (Q nF [])) (((aA x) - 1,()),()))
theorem EP:cu 105 WD:=eQ<| jm λx=>gM λQ h=>by
 refine Wp.dC ahG jx ⟨[(3,⟨[(3,.int .i64)],[]⟩)],[]⟩ Tryz.f105 (Bq x) (hold:=[92]) ?_;unfold Bq yD iB bc iX nF aA aJ bo;obtain ⟨hs,h⟩:=h;refine λ_ _=>⟨by unfold aD;omega,aM.intro (λi=>i.1.1< (x.length:Int)) (λi=>i.1.1.toNat) (by show (x.length:Int) - 1< x.length;omega) ?_⟩;rintro ⟨⟨i,_⟩,_⟩ h0;simp only at h0 ⊢;refine aq (λhc=>?_) (λ_=>h);have hc:i>0:=of_decide_eq_true hc;have:=hs.le i (by omega) h0;have h0:i< (x.length:Int):=h0;exact ⟨by omega,h0,λ_=>⟨by unfold aD;omega,by omega,by omega,λ_=>aq (λhd=>absurd (of_decide_eq_true hd) (Int.not_lt.2 this)) (λ_=>⟨by unfold aD;omega,by show i - 1< (x.length:Int);omega,by show (i - 1).toNat< i.toNat;omega⟩)⟩⟩
def WA:Ct:=cN ot λs=>c0 λQ=>Q (.v (.agg [.k (.int .i64 64),.k (.int .i64 s.2.2.1),.k (.int .i64 s.2.2.2.1),.k (.int .i64 s.2.2.2.2.1),.k (.int .i64 s.2.2.2.2.2.1),.k (.int .i64 s.2.2.2.2.2.2.1),.k (.int .i64 s.1),.k (.int .i64 1048576)])) []
def ahF:=ahG.add EP
abbrev cz (y0:Int) (y1:Int) (y2:Int) (R:Prop):=aD .i64 y0->aD .i64 y1->aD .i64 y2->R
def Bo:((ot).den)->dx:=
 λs Q=>cz s.1 s.2.1 s.2.2.1 (cz s.2.2.2.1 s.2.2.2.2.1 s.2.2.2.2.2.1 (cz s.2.2.2.2.2.2.1 s.2.2.2.2.2.2.2.1 s.2.2.2.2.2.2.2.2.1 (aD .i64 s.2.2.2.2.2.2.2.2.2.1->Q (SV.v (S1.agg [.k (.int .i64 64),.k (aC s.2.2.1),.k (aC 
 s.2.2.2.1),.k (aC s.2.2.2.2.1),.k (aC s.2.2.2.2.2.1),.k (aC s.2.2.2.2.2.2.1),.k (aC s.1),.k (.int .i64 1048576)])) [])))
theorem UP:cu 143 WA:=eQ<| PT λs=>gM λQ h=>by
 refine Wp.dC ahF jx ⟨[],[]⟩ Tryz.f143 (Bo s) (hold:=[92]) ?_;unfold Bo cz aC;exact λ_ _ _ _ _ _ _ _ _ _=>h
def WC:Ct:=cI λx=>cI λy=>cI λz=>c0 λQ=>(y<=x/\x<=z)/\Q (.bool true) []
def ahE:=ahF.add UP
def Bp (x y z:Int):dx:=λQ=>cz x y z (br (decide (y<=x)) (Q (.v (.c (.k (.bool (decide (x<=z)))))) []) (bc Q))
theorem UQ:cu 144 WC:=eQ<| nG λx=>nG λy=>nG λz=>gM λQ h=>by
 refine Wp.dC ahE jx ⟨[],[]⟩ Tryz.f144 (Bp x y z) (hold:=[92]) ?_;unfold Bp bc cz iX;obtain ⟨⟨h1,h2⟩,h⟩:=h;refine λ_ _ _=>aq (λ_=>?_) (λhc=>absurd h1 (of_decide_eq_false hc));rw [decide_eq_true h2];exact h
def QR:Ct:=cN ot λs=>c0 λQ=>rU s/\Q (.bool true) []
def ahD:=ahE.add UQ
def zN:((ot).den)->dx:=
 λs Q=>cz s.1 s.2.1 s.2.2.1 (cz s.2.2.2.1 s.2.2.2.2.1 s.2.2.2.2.2.1 (cz s.2.2.2.2.2.2.1 s.2.2.2.2.2.2.2.1 s.2.2.2.2.2.2.2.2.1 (aD .i64 s.2.2.2.2.2.2.2.2.2.1->aD .i64 64->cz s.2.2.1 s.2.2.2.1 s.2.2.2.2.1 (cz 
 s.2.2.2.2.2.1 s.2.2.2.2.2.2.1 s.1 (aD .i64 1048576->Gz<=eU/\0<=cd none 0/\cd none 0< (↑Gz:Int)/\cd none 0<=cd none (↑Gz:Int)/\cd none (↑Gz:Int)<=(↑Gz:Int)/\UE [gn,s.2.2.1, 
 s.2.2.2.1,s.2.2.2.2.1,s.2.2.2.2.2.1,s.2.2.2.2.2.2.1,s.1,(1048576:Int)]/\(1<=s.2.1/\s.2.1<=1024)/\(1<=s.2.2.2.2.2.2.2.1/\s.2.2.2.2.2.2.2.1<=2048)/\(0<=s.2.2.2.2.2.2.2.2.1/\s.2.2.2.2.2.2.2.2.1<=1024)/\(0<= 
 s.2.2.2.2.2.2.2.2.2.1/\s.2.2.2.2.2.2.2.2.2.1<=4294967295)/\Q nF [])))))
theorem OX:cu 91 QR:=eQ<| PT λs=>gM λQ h=>by
 refine Wp.dC ahD jx ⟨[],[]⟩ Tryz.f91 (zN s) (hold:=[92,105]) ?_;unfold zN eU cz nF gn Gz;obtain ⟨hs,h⟩:=h;exact λ_ _ _ _ _ _ _ _ _ _ _ _ _ _ _ _ _ _=>⟨by decide,by decide,by decide,by decide,by decide,ajb hs.p1 hs.p2 hs.p3 hs.p4 hs.p5 hs.p6 hs.p7,hs.n1,hs.n2,hs.n3,hs.n4,h⟩
def akv:Ct:=cP<| cO λH Q=>match H with
 | [.cells 86 [.k (.int .i64 s0),.k (.int .i64 s1),.k (.int .i64 s2),.k (.int .i64 s3),.k (.int .i64 s4),.k (.int .i64 s5),.k (.int .i64 s6),.k (.int .i64 s7),.k (.int .i64 s8),.k (.int .i64 s9)]]=>Q (.c (.sc 1 0 7)) [.cells 86 [.k (.int .i64 s0),.k (.int .i64 s1),.k (.int .i64 s2),.k (.int .i64 s3),.k (.int .i64 s4),.k (.int .i64 s5),.k (.int .i64 s6),.k (.int .i64 s7),.k (.int .i64 s8),.k (.int .i64 s9)],.cells 130 [.p 0 0,.p 0 2,.p 0 3,.p 0 4,.p 0 5,.p 0 6,.p 0 9]]
 | _=>False
def ahC:=ahD.add OX
def Rz (s0 s1 s2 s3 s4 s5 s6 s7 s8 s9:Int):dx:=λQ=>Q (SV.v (S1.c (Cl.sc bH bx jW))) [.cells 86 [.k (aC s0),.k (aC s1),.k (aC s2),.k (aC s3),.k (aC s4),.k (aC s5),.k (aC s6),.k (aC s7),.k (aC s8),.k (aC s9)],.cells 
 130 [.p 0 0,.p 0 2,.p 0 3,.p 0 4,.p 0 5,.p 0 6,.p 0 9]]
theorem aio:cu 93 akv:=eQ<| r5<| r6 λH Q h=>by
 split at h;rotate_left;cases h;rename_i s0 s1 s2 s3 s4 s5 s6 s7 s8 s9;refine Wp.dC ahC jx ⟨[],[]⟩ Tryz.f93 (Rz s0 s1 s2 s3 s4 s5 s6 s7 s8 s9) (hold:=[92,105]) ?_;unfold Rz aC bx bH jW;exact h
def aa4:Ct:=cP<| cO λH Q=>match H with
 | [.cells 86 [.k (.int .i64 s0),.k (.int .i64 s1),.k (.int .i64 s2),.k (.int .i64 s3),.k (.int .i64 s4),.k (.int .i64 s5),.k (.int .i64 s6),.k (.int .i64 s7),.k (.int .i64 s8),.k (.int .i64 s9)]]=>Q (.c (.sc 1 0 3)) [.cells 86 [.k (.int .i64 s0),.k (.int .i64 s1),.k (.int .i64 s2),.k (.int .i64 s3),.k (.int .i64 s4),.k (.int .i64 s5),.k (.int .i64 s6),.k (.int .i64 s7),.k (.int .i64 s8),.k (.int .i64 s9)],.cells 130 [.p 0 1,.p 0 7,.p 0 8]]
 | _=>False
def ahB:=ahC.add aio
def Fi (s0 s1 s2 s3 s4 s5 s6 s7 s8 s9:Int):dx:=λQ=>Q (SV.v (S1.c (Cl.sc bH bx eI))) [.cells 86 [.k (aC s0),.k (aC s1),.k (aC s2),.k (aC s3),.k (aC s4),.k (aC s5),.k (aC s6),.k (aC s7),.k (aC s8),.k (aC s9)],.cells 
 130 [.p 0 1,.p 0 7,.p 0 8]]
theorem XO:cu 94 aa4:=eQ<| r5<| r6 λH Q h=>by
 split at h;rotate_left;cases h;rename_i s0 s1 s2 s3 s4 s5 s6 s7 s8 s9;refine Wp.dC ahB jx ⟨[],[]⟩ Tryz.f94 (Fi s0 s1 s2 s3 s4 s5 s6 s7 s8 s9) (hold:=[92,105]) ?_;unfold Fi aC bx bH eI;exact h
def QQ:Ct:=cT λT=>cN ot λs=>c0 λQ=>T.length=256/\rU s/\Q (.cH [.c (.d .u8 (fM T s)),.c (.k (.int .i64 0))]) []
def ahA:=ahB.add XO
abbrev eV:=ah+1+1+1+1
abbrev fV:=ah+1+1+1+1+1
abbrev eu:=ah+1+1+1
abbrev kU:=ah+1+1+1+1+1+1
abbrev dR:=ah+1+1
abbrev eD:=(0:Ty.den Ty.u8)
abbrev qc (R:Prop):=ah<=ah+1+1+1+1+1+1/\ah+1+1+1+1+1+1< (↑jW:Int)/\R
abbrev sC (y0) (y1:List Int):=y0++aI cW (ax (cv y1 ah y0))
abbrev Zj {A2:Type} (y0:Int) (y1:Int) (y2:List A2) (R:Prop):=y0=ah/\(aV<=cL/\cL<=cL)/\(0<=y1/\y1< 256 ^ cW)/\List.length y2<=100000000000/\R
abbrev qb (R:Prop):=ah<=ah+1+1+1+1+1/\ah+1+1+1+1+1< (↑jW:Int)/\R
abbrev fU (R:Prop):=ah<=ah+1+1+1+1/\R
abbrev pY (R:Prop):=ah<=ah+1+1+1/\ah+1+1+1< (↑jW:Int)/\R
abbrev dK:=ah+1
abbrev lh (y0:Int):=0<=y0/\y0< 256 ^ a8
abbrev pW (R:Prop):=ah<=ah+1+1/\ah+1+1< (↑jW:Int)/\R
abbrev IY (y0) (y1:List Int):=y0++aI cW (ax (cv y1 ah y0))++au (ax (gn - (aS (sC y0 y1)))) eD
abbrev l7 (R:Prop):=ah<=ah+1/\ah+1< (↑jW:Int)/\R
abbrev yO (y0) (y1) (y2) (y3:_->Prop):=Zj y0 y1 y2 (y3 ((),(ah,y2++aI cW (aU y1),()),()))
abbrev l5 (R:Prop):=ah<=ah/\ah< (↑jW:Int)/\R
abbrev IP {A2:Type} (y0) (y1) (y2:List A2) (R:Prop):=y0=ah/\(aV<=dw/\dw<=cL)/\(lh y1)/\List.length y2<=100000000000/\R
abbrev pI (R:Prop):=aD .i64 (ah+1+1+1+1+1+1+1)/\R
abbrev lV (R:Prop):=ah+1+1+1+1< (↑jW:Int)/\R
abbrev oC (y0:Int):=0<=y0/\y0< 256 ^ cW
abbrev Iu (y0) (y1):=((),(ah,y0++aI a8 (aU y1),()),())
def zM:(List Int)->((ot).den)->dx:=
 λT s Q=>cz s.1 s.2.1 s.2.2.1 (cz s.2.2.2.1 s.2.2.2.2.1 s.2.2.2.2.2.1 (cz s.2.2.2.2.2.2.1 s.2.2.2.2.2.2.2.1 s.2.2.2.2.2.2.2.2.1 (aD .i64 s.2.2.2.2.2.2.2.2.2.1->rU s/\ [az 76,az 77,az 76, 
 az 65]≠ []/\bj (bx<=j7/\cW<=(100000000:Nat)/\jW<=eU/\cG (λk=>l5 (bj ((aV<=cL/\cL<=cL)/\(oC s.1)/\cW<=j7/\k ((),(ah,[]++ [az 76,az 
 77,az 76,az 65]++aI cW (aU s.1),()),())))) λi=>aD .i64 dK/\cG (λk=>l7 (yO i.2.1.1 s.2.2.1 i.2.1.2.1 k)) λi=>aD .i64 dR/\cG (λk=>pW (yO i.2.1.1 s.2.2.2.1 
 i.2.1.2.1 k)) λi=>aD .i64 eu/\cG (λk=>pY (yO i.2.1.1 s.2.2.2.2.1 i.2.1.2.1 k)) λi=>aD .i64 eV/\cG (λk=>fU (lV (Zj i.2.1.1 s.2.2.2.2.2.1 i.2.1.2.1 (k ((),(ah,i.2.1.2.1++aI cW 
 (aU s.2.2.2.2.2.1),()),()))))) λi=>aD .i64 fV/\cG (λk=>qb (yO i.2.1.1 s.2.2.2.2.2.2.1 i.2.1.2.1 k)) λi=>aD .i64 kU/\cG (λk=>qc (yO i.2.1.1 s.2.2.2.2.2.2.2.2.2.1 i.2.1.2.1 k)) λi=> 
 pI (eI<=eU/\cG (λk=>ah<=ah/\ah< jG/\IP i.2.1.1 s.2.1 i.2.1.2.1 (k (Iu i.2.1.2.1 s.2.1))) λi=>aD .i64 dK/\cG (λk=>ah<=ah+1/\ah+1< jG/\IP i.2.1.1 
 s.2.2.2.2.2.2.2.1 i.2.1.2.1 (k (Iu i.2.1.2.1 s.2.2.2.2.2.2.2.1))) λi=>aD .i64 dR/\cG (λk=>ah<=ah+1+1/\ah+1+1< jG/\IP i.2.1.1 s.2.2.2.2.2.2.2.2.1 i.2.1.2.1 (k (Iu i.2.1.2.1 
 s.2.2.2.2.2.2.2.2.1))) λi=>aD .i64 eu/\i.2.1.1=ah/\List.length i.2.1.2.1<=100000000000/\(aJ (bw i.2.1.2.1)->dQ T (IN T i.2.1.2.1 (List.length i.2.1.2.1<=100000000000/\bj (List.length (sC i.2.1.2.1 T) 
 <=100000000000/\(aD .i64 (aS (sC i.2.1.2.1 T))->aD .i64 (gn - (aS (sC i.2.1.2.1 T)))/\gn - (aS (sC i.2.1.2.1 T))=gn - (aS (sC i.2.1.2.1 T))/\ah<=gn - (aS (sC i.2.1.2.1 T))/\gn - 
 (aS (sC i.2.1.2.1 T))<=(140737488355328:Int)/\bj (List.length (sC i.2.1.2.1 T)<=100000000000/\List.length (au (ax (gn - (aS (sC i.2.1.2.1 T)))) eD)<=100000000/\bj (List.length (IY 
 i.2.1.2.1 T)<=100000000000/\(List.length (IY i.2.1.2.1 T)<=9223372036854775807->aD .i64 0->Q (SV.cH [S1.c (Cl.d Ty.u8 (IY i.2.1.2.1 T)),.c (.k aR)]) [])))))))))))))
theorem Bh:cu 57 QQ:=eQ<| okT λT=>PT λs=>gM λQ h=>by
 refine Wp.kC [some (.sl .u8),none] [] ?_;refine Wp.dC ahA jx ⟨[],[(10,⟨[],[(1,.cells 174 [.int .i64,.own 5 .u8])]⟩),(15,⟨[],[(1,.cells 174 [.int .i64,.own 5 .u8])]⟩)]⟩ Tryz.f57 (zM T s) (hold:=[92,105]) (unr:=[(7,9),(12,5)]) ?_;unfold zM Iu jG oC lV j7 bj IN pI IP l5 yO l7 IY pW dQ lh dK pY fU qb Zj eU sC qc eD bw dR kU eu fV eV aU aR cz ah aV dw cL gn aS aJ bx a8 bI eI cW jW;obtain ⟨hT,hs,h⟩:=h;obtain ⟨s0,s1,s2,s3,s4,s5,s6,s7,s8,s9,rfl,p1,p2,p3,p4,p5,p6,p7,n1,n2,n3,n4⟩:=hs.ints;have b0:0<=s0/\s0< 256 ^ 4:=⟨by have:=hs.p1;have:=hs.p2;have:=hs.p3;have:=hs.p4;have:=hs.p5;have:=hs.p6;have:=hs.p7;have:=hs.n1;have:=hs.n2;have:=hs.n3;have:=hs.n4;omega,by have:=hs.p1;have:=hs.p2;have:=hs.p3;have:=hs.p4;have:=hs.p5;have:=hs.p6;have:=hs.p7;have:=hs.n1;have:=hs.n2;have:=hs.n3;have:=hs.n4;show _< (4294967296:Int);omega⟩;have b2:0<=s2/\s2< 256 ^ 4:=⟨by have:=hs.p1;have:=hs.p2;have:=hs.p3;have:=hs.p4;have:=hs.p5;have:=hs.p6;have:=hs.p7;have:=hs.n1;have:=hs.n2;have:=hs.n3;have:=hs.n4;omega,by have:=hs.p1;have:=hs.p2;have:=hs.p3;have:=hs.p4;have:=hs.p5;have:=hs.p6;have:=hs.p7;have:=hs.n1;have:=hs.n2;have:=hs.n3;have:=hs.n4;show _< (4294967296:Int);omega⟩;have b3:0<=s3/\s3< 256 ^ 4:=⟨by have:=hs.p1;have:=hs.p2;have:=hs.p3;have:=hs.p4;have:=hs.p5;have:=hs.p6;have:=hs.p7;have:=hs.n1;have:=hs.n2;have:=hs.n3;have:=hs.n4;omega,by have:=hs.p1;have:=hs.p2;have:=hs.p3;have:=hs.p4;have:=hs.p5;have:=hs.p6;have:=hs.p7;have:=hs.n1;have:=hs.n2;have:=hs.n3;have:=hs.n4;show _< (4294967296:Int);omega⟩;have b4:0<=s4/\s4< 256 ^ 4:=⟨by have:=hs.p1;have:=hs.p2;have:=hs.p3;have:=hs.p4;have:=hs.p5;have:=hs.p6;have:=hs.p7;have:=hs.n1;have:=hs.n2;have:=hs.n3;have:=hs.n4;omega,by have:=hs.p1;have:=hs.p2;have:=hs.p3;have:=hs.p4;have:=hs.p5;have:=hs.p6;have:=hs.p7;have:=hs.n1;have:=hs.n2;have:=hs.n3;have:=hs.n4;show _< (4294967296:Int);omega⟩;have b5:0<=s5/\s5< 256 ^ 4:=⟨by have:=hs.p1;have:=hs.p2;have:=hs.p3;have:=hs.p4;have:=hs.p5;have:=hs.p6;have:=hs.p7;have:=hs.n1;have:=hs.n2;have:=hs.n3;have:=hs.n4;omega,by have:=hs.p1;have:=hs.p2;have:=hs.p3;have:=hs.p4;have:=hs.p5;have:=hs.p6;have:=hs.p7;have:=hs.n1;have:=hs.n2;have:=hs.n3;have:=hs.n4;show _< (4294967296:Int);omega⟩;have b6:0<=s6/\s6< 256 ^ 4:=⟨by have:=hs.p1;have:=hs.p2;have:=hs.p3;have:=hs.p4;have:=hs.p5;have:=hs.p6;have:=hs.p7;have:=hs.n1;have:=hs.n2;have:=hs.n3;have:=hs.n4;omega,by have:=hs.p1;have:=hs.p2;have:=hs.p3;have:=hs.p4;have:=hs.p5;have:=hs.p6;have:=hs.p7;have:=hs.n1;have:=hs.n2;have:=hs.n3;have:=hs.n4;show _< (4294967296:Int);omega⟩;have b9:0<=s9/\s9< 256 ^ 4:=⟨by have:=hs.p1;have:=hs.p2;have:=hs.p3;have:=hs.p4;have:=hs.p5;have:=hs.p6;have:=hs.p7;have:=hs.n1;have:=hs.n2;have:=hs.n3;have:=hs.n4;omega,by have:=hs.p1;have:=hs.p2;have:=hs.p3;have:=hs.p4;have:=hs.p5;have:=hs.p6;have:=hs.p7;have:=hs.n1;have:=hs.n2;have:=hs.n3;have:=hs.n4;show _< (4294967296:Int);omega⟩;have b1:0<=s1/\s1< 256 ^ 2:=⟨by have:=hs.p1;have:=hs.p2;have:=hs.p3;have:=hs.p4;have:=hs.p5;have:=hs.p6;have:=hs.p7;have:=hs.n1;have:=hs.n2;have:=hs.n3;have:=hs.n4;omega,by have:=hs.p1;have:=hs.p2;have:=hs.p3;have:=hs.p4;have:=hs.p5;have:=hs.p6;have:=hs.p7;have:=hs.n1;have:=hs.n2;have:=hs.n3;have:=hs.n4;show _< (65536:Int);omega⟩;have b7:0<=s7/\s7< 256 ^ 2:=⟨by have:=hs.p1;have:=hs.p2;have:=hs.p3;have:=hs.p4;have:=hs.p5;have:=hs.p6;have:=hs.p7;have:=hs.n1;have:=hs.n2;have:=hs.n3;have:=hs.n4;omega,by have:=hs.p1;have:=hs.p2;have:=hs.p3;have:=hs.p4;have:=hs.p5;have:=hs.p6;have:=hs.p7;have:=hs.n1;have:=hs.n2;have:=hs.n3;have:=hs.n4;show _< (65536:Int);omega⟩;have b8:0<=s8/\s8< 256 ^ 2:=⟨by have:=hs.p1;have:=hs.p2;have:=hs.p3;have:=hs.p4;have:=hs.p5;have:=hs.p6;have:=hs.p7;have:=hs.n1;have:=hs.n2;have:=hs.n3;have:=hs.n4;omega,by have:=hs.p1;have:=hs.p2;have:=hs.p3;have:=hs.p4;have:=hs.p5;have:=hs.p6;have:=hs.p7;have:=hs.n1;have:=hs.n2;have:=hs.n3;have:=hs.n4;show _< (65536:Int);omega⟩;refine λ_ _ _ _ _ _ _ _ _ _=>⟨hs,by simp,rfl,by decide,by decide,by decide,?_⟩;refine cG.intro (λi=>i.2.1.1=0/\i.2.1.2.1=([76,77,76,65]:List UInt8)++aI 4 s0.toNat) ⟨by decide,by decide,rfl,⟨by decide,by decide⟩,b0,by decide,rfl,rfl⟩ ?_;rintro ⟨_,⟨c,x,_⟩,_⟩ ⟨e1,e2⟩;dsimp only at e1 e2 ⊢;subst e1 e2;refine ⟨by unfold aD;decide,?_⟩;refine cG.intro (λi=>i.2.1.1=0/\i.2.1.2.1=([76,77,76,65]:List UInt8)++aI 4 s0.toNat++aI 4 s2.toNat) ⟨by decide,by decide,rfl,⟨by decide,by decide⟩,b2,by simp only [af,aE,av,aO];decide,rfl,rfl⟩ ?_;rintro ⟨_,⟨c,x,_⟩,_⟩ ⟨e1,e2⟩;dsimp only at e1 e2 ⊢;subst e1 e2;refine ⟨by unfold aD;decide,?_⟩;refine cG.intro (λi=>i.2.1.1=0/\i.2.1.2.1=([76,77,76,65]:List UInt8)++aI 4 s0.toNat++aI 4 s2.toNat++aI 4 s3.toNat) ⟨by decide,by decide,rfl,⟨by decide,by decide⟩,b3,by simp only [af,aE,av,aO];decide,rfl,rfl⟩ ?_;rintro ⟨_,⟨c,x,_⟩,_⟩ ⟨e1,e2⟩;dsimp only at e1 e2 ⊢;subst e1 e2;refine ⟨by unfold aD;decide,?_⟩;refine cG.intro (λi=>i.2.1.1=0/\i.2.1.2.1=([76,77,76,65]:List UInt8)++aI 4 s0.toNat++aI 4 s2.toNat++aI 4 s3.toNat++aI 4 s4.toNat) ⟨by decide,by decide,rfl,⟨by decide,by decide⟩,b4,by simp only [af,aE,av,aO];decide,rfl,rfl⟩ ?_;rintro ⟨_,⟨c,x,_⟩,_⟩ ⟨e1,e2⟩;dsimp only at e1 e2 ⊢;subst e1 e2;refine ⟨by unfold aD;decide,?_⟩;refine cG.intro (λi=>i.2.1.1=0/\i.2.1.2.1=([76,77,76,65]:List UInt8)++aI 4 s0.toNat++aI 4 s2.toNat++aI 4 s3.toNat++aI 4 s4.toNat++aI 4 s5.toNat) ⟨by decide,by decide,rfl,⟨by decide,by decide⟩,b5,by simp only [af,aE,av,aO];decide,rfl,rfl⟩ ?_;rintro ⟨_,⟨c,x,_⟩,_⟩ ⟨e1,e2⟩;dsimp only at e1 e2 ⊢;subst e1 e2;refine ⟨by unfold aD;decide,?_⟩;refine cG.intro (λi=>i.2.1.1=0/\i.2.1.2.1=([76,77,76,65]:List UInt8)++aI 4 s0.toNat++aI 4 s2.toNat++aI 4 s3.toNat++aI 4 s4.toNat++aI 4 s5.toNat++aI 4 s6.toNat) ⟨by decide,by decide,rfl,⟨by decide,by decide⟩,b6,by simp only [af,aE,av,aO];decide,rfl,rfl⟩ ?_;rintro ⟨_,⟨c,x,_⟩,_⟩ ⟨e1,e2⟩;dsimp only at e1 e2 ⊢;subst e1 e2;refine ⟨by unfold aD;decide,?_⟩;refine cG.intro (λi=>i.2.1.1=0/\i.2.1.2.1=([76,77,76,65]:List UInt8)++aI 4 s0.toNat++aI 4 s2.toNat++aI 4 s3.toNat++aI 4 s4.toNat++aI 4 s5.toNat++aI 4 s6.toNat++aI 4 s9.toNat) ⟨by decide,by decide,rfl,⟨by decide,by decide⟩,b9,by simp only [af,aE,av,aO];decide,rfl,rfl⟩ ?_;rintro ⟨_,⟨c,x,_⟩,_⟩ ⟨e1,e2⟩;dsimp only at e1 e2 ⊢;subst e1 e2;refine ⟨by unfold aD;decide,by decide,?_⟩;refine cG.intro (λi=>i.2.1.1=0/\i.2.1.2.1=([76,77,76,65]:List UInt8)++aI 4 s0.toNat++aI 4 s2.toNat++aI 4 s3.toNat++aI 4 s4.toNat++aI 4 s5.toNat++aI 4 s6.toNat++aI 4 s9.toNat++aI 2 s1.toNat) ⟨by decide,by decide,rfl,⟨by decide,by decide⟩,b1,by simp only [af,aE,av,aO];decide,rfl,rfl⟩ ?_;rintro ⟨_,⟨c,x,_⟩,_⟩ ⟨e1,e2⟩;dsimp only at e1 e2 ⊢;subst e1 e2;refine ⟨by unfold aD;decide,?_⟩;refine cG.intro (λi=>i.2.1.1=0/\i.2.1.2.1=([76,77,76,65]:List UInt8)++aI 4 s0.toNat++aI 4 s2.toNat++aI 4 s3.toNat++aI 4 s4.toNat++aI 4 s5.toNat++aI 4 s6.toNat++aI 4 s9.toNat++aI 2 s1.toNat++aI 2 s7.toNat) ⟨by decide,by decide,rfl,⟨by decide,by decide⟩,b7,by simp only [af,aE,av,aO];decide,rfl,rfl⟩ ?_;rintro ⟨_,⟨c,x,_⟩,_⟩ ⟨e1,e2⟩;dsimp only at e1 e2 ⊢;subst e1 e2;refine ⟨by unfold aD;decide,?_⟩;refine cG.intro (λi=>i.2.1.1=0/\i.2.1.2.1=fT (s0,s1,s2,s3,s4,s5,s6,s7,s8,s9,())) ⟨by decide,by decide,rfl,⟨by decide,by decide⟩,b8,by simp only [af,aE,av,aO];decide,rfl,by unfold fT;simp only [aL]⟩ ?_;rintro ⟨_,⟨c,x,_⟩,_⟩ ⟨e1,e2⟩;dsimp only at e1 e2 ⊢;subst e1 e2;refine ⟨by unfold aD;decide,?_⟩;have hl:=uZ (s0,s1,s2,s3,s4,s5,s6,s7,s8,s9,());have v8:(fT (s0,s1,s2,s3,s4,s5,s6,s7,s8,s9,())++aI 4 (cv T 0 (fT (s0,s1,s2,s3,s4,s5,s6,s7,s8,s9,()))).toNat).length=42:=by rw [af,aE,hl]
 have hc:=zi T 0 (fT (s0,s1,s2,s3,s4,s5,s6,s7,s8,s9,()));have hr:(au 22 (0:UInt8)).length=22:=aY;rw [v8];refine ⟨rfl,by omega,λ_=>⟨hT,λ_=>⟨rfl,⟨by decide,by decide⟩,⟨hc.1,by have:=hc.2;show _< (4294967296:Int);omega⟩,by omega,rfl,by omega,λ_=>⟨by unfold aD;decide,rfl,by decide,by decide,rfl,by omega,by show (au 22 (0:UInt8)).length<=_;omega,rfl,by show (_++au 22 (0:UInt8)).length<=_;rw [af,v8,hr];decide,λ_ _=>⟨aG _,?_⟩⟩⟩⟩⟩;have e:fM T (s0,s1,s2,s3,s4,s5,s6,s7,s8,s9,())=fT (s0,s1,s2,s3,s4,s5,s6,s7,s8,s9,())++aI 4 (cv T 0 (fT (s0,s1,s2,s3,s4,s5,s6,s7,s8,s9,()))).toNat++au 22 0:=by unfold fM;rw [aL]
 rw [e] at h;exact h
def akH:Ct:=cB λx=>c0 λQ=>Q (.bool (x !=0)) []
def ahz:=ahA.add Bh
def RT (x:Int):dx:=λQ=>aD .u8 x->Q (.v (.c (.k (.bool (x !=0))))) []
theorem aiB:cu 102 akH:=eQ<| okB λx=>gM λQ h=>by
 refine Wp.dC ahz jx ⟨[],[]⟩ Tryz.f102 (RT x) (hold:=[92,105]) ?_;unfold RT;exact λ_=>h
def abB:Ct
 | [.v (.c cx),.v (.c (.fn 102 []))],[],Q=>(match (Ty.sl Ty.u8).of [cx] with
  | some (x,[])=>(∀ z∈x,z=0)/\Q (.int (-1)) []
  | _=>False)
 | _,_,_=>False
def ahy:=ahz.add aiB
abbrev oF (y0:SV->List HO->Prop):=y0 (.v (.c (.k (.int .i64 (-1:Int))))) []
def Sq (x:(List (Ty.u8).den)):dx:=λQ=>cU x (aJ (dy x)->aM (λi ag=>br (decide (i.1.1< (aA x))) (0<=i.1.1/\i.1.1< (aA x)/\(Ty.ok Ty.u8 (aB Ty.u8 x i.1.1)->br ((yq x i.1.1) !=0) (Q (gF i.1.1) []) (dP i.1.1 ag))) (oF Q)) 
 dE)
theorem aiU:cu 146 abB:=by
 intro args H Q h;unfold abB at h;split at h;rotate_left;cases h;rename_i cx;split at h;rotate_left;cases h;rename_i x hx;refine Wp.said (args':=[.c (.d Ty.u8 x),.v (.c (.fn 102 []))]) (λE g=>bm.cr (dH hx) (bm.cr (λ_ h=>h) (λ_ h=>h))) ?_;clear hx;refine Wp.dC ahy jx ⟨[(3,⟨[(8,.int .i64)],[]⟩)],[]⟩ Tryz.f146 (Sq x) (hold:=[92,105]) ?_;unfold Sq yq gF dy oF dE cU dP aC ah aA aJ;obtain ⟨hx,h⟩:=h;refine λ_ _=>aM.intro (λi=>0<=i.1.1) (λi=>x.length - i.1.1.toNat) (bB _) ?_;rintro ⟨⟨i,_⟩,_⟩ h0;have h0:0<=i:=h0;refine aq (λhc=>?_) (λ_=>h);have hc:i< (x.length:Int):=of_decide_eq_true hc;have e:aB .u8 x i=0:=hx _ (tk (e:=.u8) h0 hc);dsimp only;rw [e];exact ⟨h0,hc,λ_=>aq (λhd=>by cases hd) (λ_=>⟨by unfold aD;omega,by show 0<=i+1;omega,by show x.length - (i+1).toNat< x.length - i.toNat;omega⟩)⟩
def Aw:Ct
 | [.v (.c cx),.v (.c (.fn 102 []))],[],Q=>(match (Ty.sl Ty.u8).of [cx] with
  | some (x,[])=>(∀ z∈x,z=0)/\Q (.bool false) []
  | _=>False)
 | _,_,_=>False
def ahx:=ahy.add aiU
def wo (x:(List (Ty.u8).den)):dx:=λQ=>cU x ((∀ (z:Ty.den Ty.u8),z∈x->z=eD)/\(aD .i64 (-1:Int)->Q (.v (.c (.k (.bool (decide ((-1:Int)≥ah)))))) []))
theorem KV:cu 101 Aw:=by
 intro args H Q h;unfold Aw at h;split at h;rotate_left;cases h;rename_i cx;split at h;rotate_left;cases h;rename_i x hx;refine Wp.said (args':=[.c (.d Ty.u8 x),.v (.c (.fn 102 []))]) (λE g=>bm.cr (dH hx) (bm.cr (λ_ h=>h) (λ_ h=>h))) ?_;clear hx;refine Wp.dC ahx jx ⟨[],[]⟩ Tryz.f101 (wo x) (hold:=[92,105]) ?_;unfold wo eD cU ah;obtain ⟨hx,h⟩:=h;exact λ_=>⟨hx,λ_=>h⟩
def N7:Ct:=cT λT=>cD .u8 λim=>c0 λQ=>T.length=256/\im.length<=100000000/\∃ s r,rU s/\im=fM T s++r/\s.1=im.length/\Q (.cH [.agg (ot.cells s),.c (.k (.int .i64 0))]) []
def ahw:=ahx.add KV
abbrev Gy (y0:SV->List HO->Prop):=y0 (SV.cH [S1.agg [.k aR,.k aR,.k aR,.k aR,.k aR,.k aR,.k aR,.k aR,.k aR,.k aR],.c (.k (.int .i64 2))]) []
abbrev zX {A0:Type} (y0:List A0) (R:Prop):=aV<=cL/\cL<=cL/\cL<=(aS y0)/\fc (bw y0)/\R
abbrev Cs (y0:List (Ty.u8).den):=List.take (ax (min (aA y0) gn)) y0
abbrev pK {A0:Type} (y0:List A0):=List.take cW y0
abbrev IV {A1:Type} (y0) (y1:List A1) (R:Prop):=y0=ah/\aV<=dw/\dw<=cL/\dw<=(aS y1)/\fc (bw y1)/\R
abbrev vr {A0:Type} (y0:List A0):=(ah,List.drop cW y0,())
abbrev sK (y0) (R:Prop):=aD .i64 (bK (pK y0))->R
abbrev mL {A0:Type} (y0:List A0):=List.drop 4 y0
abbrev yi (y0:List (Ty.u8).den):=lU (Cs y0) cL
def wk (T:List Int) (im:(List (Ty.u8).den)):dx:=λQ=>cU im (aJ (dy im)->0<=min (aA im) gn/\min (aA im) gn<=(aA im)/\fc (List.length (Cs im))/\bj (ah<=cL/\fc (List.length (Cs im))/\(List.length (jF (Cs im) cL)<= 
 9223372036854775807->jW<=eU/\cG (λk=>l5 (Kj (Cs im) cL=ah/\aV<=cL/\cL<=cL/\cL<=(↑(List.length (yi im)):Int)/\List.length (yi im)<=140737488355328/\(aD .i64 (bK (List.take 
 cW (yi im)))->k ((),(ah,List.drop cW (yi im),()),(bK (List.take cW (yi im)),ah,ah,ah,ah,ah,ah,ah,ah,ah,()),())))) λi=>aD .i64 dK/\cG (λk=>l7 (i.2.1.1 
 =ah/\zX i.2.1.2.1 (sK i.2.1.2.1 (k ((),(vr i.2.1.2.1),(i.2.2.1.1,i.2.2.1.2.1,bK (pK i.2.1.2.1),i.2.2.1.2.2.2),()))))) λi=>aD .i64 dR/\cG (λk=>pW (i.2.1.1=ah/\zX i.2.1.2.1 (sK 
 i.2.1.2.1 (k ((),(vr i.2.1.2.1),(i.2.2.1.1,i.2.2.1.2.1,i.2.2.1.2.2.1,bK (pK i.2.1.2.1),i.2.2.1.2.2.2.2),()))))) λi=>aD .i64 eu/\cG (λk=>pY (i.2.1.1=ah/\zX i.2.1.2.1 (sK i.2.1.2.1 (k ((), 
 (vr i.2.1.2.1),(i.2.2.1.1,i.2.2.1.2.1,i.2.2.1.2.2.1,i.2.2.1.2.2.2.1,bK (pK i.2.1.2.1),i.2.2.1.2.2.2.2.2),()))))) λi=>aD .i64 eV/\cG (λk=>fU (lV (i.2.1.1=ah/\zX i.2.1.2.1 (sK i.2.1.2.1 
 (k ((),(vr i.2.1.2.1),(i.2.2.1.1,i.2.2.1.2.1,i.2.2.1.2.2.1,i.2.2.1.2.2.2.1,i.2.2.1.2.2.2.2.1,bK (pK i.2.1.2.1),i.2.2.1.2.2.2.2.2.2),())))))) λi=>aD .i64 fV/\cG (λk=>qb (i.2.1.1=ah/\zX 
 i.2.1.2.1 (sK i.2.1.2.1 (k ((),(vr i.2.1.2.1),(i.2.2.1.1,i.2.2.1.2.1,i.2.2.1.2.2.1,i.2.2.1.2.2.2.1,i.2.2.1.2.2.2.2.1,i.2.2.1.2.2.2.2.2.1,bK (pK i.2.1.2.1),i.2.2.1.2.2.2.2.2.2.2),()))))) λi=>aD .i64 kU/\ 
 cG (λk=>qc (i.2.1.1=ah/\zX i.2.1.2.1 (sK i.2.1.2.1 (k ((),(vr i.2.1.2.1),(i.2.2.1.1,i.2.2.1.2.1,i.2.2.1.2.2.1,i.2.2.1.2.2.2.1,i.2.2.1.2.2.2.2.1,i.2.2.1.2.2.2.2.2.1,i.2.2.1.2.2.2.2.2.2.1, 
 i.2.2.1.2.2.2.2.2.2.2.1,i.2.2.1.2.2.2.2.2.2.2.2.1,bK (pK i.2.1.2.1),()),()))))) λi=>pI (eI<=eU/\cG (λk=>ah<=ah/\ah< jG/\IV i.2.1.1 i.2.1.2.1 (aD .i64 (bK (List.take a8 
 i.2.1.2.1))->k ((),(ah,List.drop a8 i.2.1.2.1,()),(i.2.2.1.1,bK (List.take a8 i.2.1.2.1),i.2.2.1.2.2),()))) λi=>aD .i64 dK/\cG (λk=>ah<=ah+1/\ah+1< jG/\IV i.2.1.1 i.2.1.2.1 (aD 
 .i64 (bK (List.take a8 i.2.1.2.1))->k ((),(ah,List.drop a8 i.2.1.2.1,()),(i.2.2.1.1,i.2.2.1.2.1,i.2.2.1.2.2.1,i.2.2.1.2.2.2.1,i.2.2.1.2.2.2.2.1,i.2.2.1.2.2.2.2.2.1,i.2.2.1.2.2.2.2.2.2.1,bK (List.take a8 
 i.2.1.2.1),i.2.2.1.2.2.2.2.2.2.2.2),()))) λi=>aD .i64 dR/\cG (λk=>ah<=ah+1+1/\ah+1+1< jG/\IV i.2.1.1 i.2.1.2.1 (aD .i64 (bK (List.take a8 i.2.1.2.1))->k ((),(ah,List.drop a8 
 i.2.1.2.1,()),(i.2.2.1.1,i.2.2.1.2.1,i.2.2.1.2.2.1,i.2.2.1.2.2.2.1,i.2.2.1.2.2.2.2.1,i.2.2.1.2.2.2.2.2.1,i.2.2.1.2.2.2.2.2.2.1,i.2.2.1.2.2.2.2.2.2.2.1,bK (List.take a8 i.2.1.2.1),i.2.2.1.2.2.2.2.2.2.2.2.2),()))) λi=> 
 aD .i64 eu/\i.2.1.1=ah/\(aD .i64 (aS i.2.1.2.1)->bj (zX i.2.1.2.1 (sK i.2.1.2.1 (aD .u32 (IntKind.wrap .u32 (bK (pK i.2.1.2.1)))->bj (aD .i64 (aS (mL i.2.1.2.1))->bj (ah<=(aS (mL 
 i.2.1.2.1))/\fc (List.length (mL i.2.1.2.1))/\(aJ (List.length (jF (mL i.2.1.2.1) (aS (mL i.2.1.2.1))))->aD .i64 (Kj (mL i.2.1.2.1) (aS (mL i.2.1.2.1)))->br (Kj (mL i.2.1.2.1) (aS (mL 
 i.2.1.2.1)) !=0) (Gy Q) (aJ (dy im)->br (decide ((aA im)< gn)) (Gy Q) (br (kT (gu (jF (Cs im) cL)) (ByteArray.mk #[(76:UInt8),(77:UInt8),(76:UInt8),(65:UInt8)])) (aD .i64 (gn - (aS 
 i.2.1.2.1))/\ah<=gn - (aS i.2.1.2.1)/\gn - (aS i.2.1.2.1)<=(aA im)/\dQ T (aD .u32 (cv T ah (List.take (ax (gn - (aS i.2.1.2.1))) im))->br (IntKind.wrap .u32 (bK (pK i.2.1.2.1))== 
 cv T ah (List.take (ax (gn - (aS i.2.1.2.1))) im)) (aJ (dy im)->br (i.2.2.1.1==(aA im)) (rU i.2.2.1/\(∀ (z:Ty.den Ty.u8),List.Mem z (jF (mL i.2.1.2.1) (aS (mL i.2.1.2.1)))->z=eD)/\Q 
 (SV.cH [S1.agg [.k (aC i.2.2.1.1),.k (aC i.2.2.1.2.1),.k (aC i.2.2.1.2.2.1),.k (aC i.2.2.1.2.2.2.1),.k (aC i.2.2.1.2.2.2.2.1),.k (aC i.2.2.1.2.2.2.2.2.1),.k (aC i.2.2.1.2.2.2.2.2.2.1),.k (aC i.2.2.1.2.2.2.2.2.2.2.1), 
 .k (aC i.2.2.1.2.2.2.2.2.2.2.2.1),.k (aC i.2.2.1.2.2.2.2.2.2.2.2.2.1)],.c (.k aR)]) []) (Gy Q)) (Gy Q))) (Gy Q))))))))))))))
theorem zK:cu 58 N7:=eQ<| okT λT=>jm λim=>gM λQ h=>by
 refine Wp.dC ahw jx ⟨[],[(9,⟨[],[(1,.cells 187 [.int .i64,.d .u8]),(2,.cells 86 [.int .i64,.int .i64,.int .i64,.int .i64,.int .i64,.int .i64,.int .i64,.int .i64,.int .i64,.int .i64])]⟩),(14,⟨[],[(1,.cells 187 [.int .i64,.d .u8]),(2,.cells 86 [.int .i64,.int .i64,.int .i64,.int .i64,.int .i64,.int .i64,.int .i64,.int .i64,.int .i64,.int .i64])]⟩)]⟩ Tryz.f58 (wk T im) (hold:=[92,105]) (unr:=[(6,9),(11,5)]) ?_;unfold wk yi mL jG sK lV bj vr pI dy IV pK l5 l7 pW dQ dK Cs pY zX fU qb eU qc eD bw dR Gy kU eu fV cU eV aR aC ah aV dw cL gn aS aA fc aJ a8 bI eI cW jW;obtain ⟨hT,hl,s,r,hs,rfl,mC,h⟩:=h;obtain ⟨s0,s1,s2,s3,s4,s5,s6,s7,s8,s9,rfl,p1,p2,p3,p4,p5,p6,p7,n1,n2,n3,n4⟩:=hs.ints;have b0:0<=s0/\s0< 256 ^ 4:=⟨by have:=hs.p1;have:=hs.p2;have:=hs.p3;have:=hs.p4;have:=hs.p5;have:=hs.p6;have:=hs.p7;have:=hs.n1;have:=hs.n2;have:=hs.n3;have:=hs.n4;omega,by have:=hs.p1;have:=hs.p2;have:=hs.p3;have:=hs.p4;have:=hs.p5;have:=hs.p6;have:=hs.p7;have:=hs.n1;have:=hs.n2;have:=hs.n3;have:=hs.n4;show _< (4294967296:Int);omega⟩;have b2:0<=s2/\s2< 256 ^ 4:=⟨by have:=hs.p1;have:=hs.p2;have:=hs.p3;have:=hs.p4;have:=hs.p5;have:=hs.p6;have:=hs.p7;have:=hs.n1;have:=hs.n2;have:=hs.n3;have:=hs.n4;omega,by have:=hs.p1;have:=hs.p2;have:=hs.p3;have:=hs.p4;have:=hs.p5;have:=hs.p6;have:=hs.p7;have:=hs.n1;have:=hs.n2;have:=hs.n3;have:=hs.n4;show _< (4294967296:Int);omega⟩;have b3:0<=s3/\s3< 256 ^ 4:=⟨by have:=hs.p1;have:=hs.p2;have:=hs.p3;have:=hs.p4;have:=hs.p5;have:=hs.p6;have:=hs.p7;have:=hs.n1;have:=hs.n2;have:=hs.n3;have:=hs.n4;omega,by have:=hs.p1;have:=hs.p2;have:=hs.p3;have:=hs.p4;have:=hs.p5;have:=hs.p6;have:=hs.p7;have:=hs.n1;have:=hs.n2;have:=hs.n3;have:=hs.n4;show _< (4294967296:Int);omega⟩;have b4:0<=s4/\s4< 256 ^ 4:=⟨by have:=hs.p1;have:=hs.p2;have:=hs.p3;have:=hs.p4;have:=hs.p5;have:=hs.p6;have:=hs.p7;have:=hs.n1;have:=hs.n2;have:=hs.n3;have:=hs.n4;omega,by have:=hs.p1;have:=hs.p2;have:=hs.p3;have:=hs.p4;have:=hs.p5;have:=hs.p6;have:=hs.p7;have:=hs.n1;have:=hs.n2;have:=hs.n3;have:=hs.n4;show _< (4294967296:Int);omega⟩;have b5:0<=s5/\s5< 256 ^ 4:=⟨by have:=hs.p1;have:=hs.p2;have:=hs.p3;have:=hs.p4;have:=hs.p5;have:=hs.p6;have:=hs.p7;have:=hs.n1;have:=hs.n2;have:=hs.n3;have:=hs.n4;omega,by have:=hs.p1;have:=hs.p2;have:=hs.p3;have:=hs.p4;have:=hs.p5;have:=hs.p6;have:=hs.p7;have:=hs.n1;have:=hs.n2;have:=hs.n3;have:=hs.n4;show _< (4294967296:Int);omega⟩;have b6:0<=s6/\s6< 256 ^ 4:=⟨by have:=hs.p1;have:=hs.p2;have:=hs.p3;have:=hs.p4;have:=hs.p5;have:=hs.p6;have:=hs.p7;have:=hs.n1;have:=hs.n2;have:=hs.n3;have:=hs.n4;omega,by have:=hs.p1;have:=hs.p2;have:=hs.p3;have:=hs.p4;have:=hs.p5;have:=hs.p6;have:=hs.p7;have:=hs.n1;have:=hs.n2;have:=hs.n3;have:=hs.n4;show _< (4294967296:Int);omega⟩;have b9:0<=s9/\s9< 256 ^ 4:=⟨by have:=hs.p1;have:=hs.p2;have:=hs.p3;have:=hs.p4;have:=hs.p5;have:=hs.p6;have:=hs.p7;have:=hs.n1;have:=hs.n2;have:=hs.n3;have:=hs.n4;omega,by have:=hs.p1;have:=hs.p2;have:=hs.p3;have:=hs.p4;have:=hs.p5;have:=hs.p6;have:=hs.p7;have:=hs.n1;have:=hs.n2;have:=hs.n3;have:=hs.n4;show _< (4294967296:Int);omega⟩;have b1:0<=s1/\s1< 256 ^ 2:=⟨by have:=hs.p1;have:=hs.p2;have:=hs.p3;have:=hs.p4;have:=hs.p5;have:=hs.p6;have:=hs.p7;have:=hs.n1;have:=hs.n2;have:=hs.n3;have:=hs.n4;omega,by have:=hs.p1;have:=hs.p2;have:=hs.p3;have:=hs.p4;have:=hs.p5;have:=hs.p6;have:=hs.p7;have:=hs.n1;have:=hs.n2;have:=hs.n3;have:=hs.n4;show _< (65536:Int);omega⟩;have b7:0<=s7/\s7< 256 ^ 2:=⟨by have:=hs.p1;have:=hs.p2;have:=hs.p3;have:=hs.p4;have:=hs.p5;have:=hs.p6;have:=hs.p7;have:=hs.n1;have:=hs.n2;have:=hs.n3;have:=hs.n4;omega,by have:=hs.p1;have:=hs.p2;have:=hs.p3;have:=hs.p4;have:=hs.p5;have:=hs.p6;have:=hs.p7;have:=hs.n1;have:=hs.n2;have:=hs.n3;have:=hs.n4;show _< (65536:Int);omega⟩;have b8:0<=s8/\s8< 256 ^ 2:=⟨by have:=hs.p1;have:=hs.p2;have:=hs.p3;have:=hs.p4;have:=hs.p5;have:=hs.p6;have:=hs.p7;have:=hs.n1;have:=hs.n2;have:=hs.n3;have:=hs.n4;omega,by have:=hs.p1;have:=hs.p2;have:=hs.p3;have:=hs.p4;have:=hs.p5;have:=hs.p6;have:=hs.p7;have:=hs.n1;have:=hs.n2;have:=hs.n3;have:=hs.n4;show _< (65536:Int);omega⟩;have hE:=lT T (s0,s1,s2,s3,s4,s5,s6,s7,s8,s9,());have Xq:(fM T (s0,s1,s2,s3,s4,s5,s6,s7,s8,s9,())++r).length=64+r.length:=by rw [af,hE]
 obtain ⟨r0,Nx⟩:∃ r0,r0=aI 4 s0.toNat++(aI 4 s2.toNat++(aI 4 s3.toNat++(aI 4 s4.toNat++(aI 4 s5.toNat++(aI 4 s6.toNat++(aI 4 s9.toNat++(aI 2 s1.toNat++(aI 2 s7.toNat++(aI 2 s8.toNat++(aI 4 (cv T 0 (fT (s0,s1,s2,s3,s4,s5,s6,s7,s8,s9,()))).toNat++au 22 0)))))))))):=⟨_,rfl⟩;have Dg:fM T (s0,s1,s2,s3,s4,s5,s6,s7,s8,s9,())=([76,77,76,65]:List UInt8)++r0:=by rw [Nx];unfold fM fT;simp only [aL]
 have arY:r0.length=60:=by have:=congrArg List.length Dg;rw [hE,af] at this;simp only [av,aO] at this;omega
 obtain ⟨d1,d2,d3⟩:=Im (x:=([76,77,76,65]:List UInt8)) (y:=r0) (n:=4) rfl;have Qk:min ((fM T (s0,s1,s2,s3,s4,s5,s6,s7,s8,s9,())++r).length:Int) 64=64:=by rw [Xq];omega
 have htk:List.take (ax 64) (fM T (s0,s1,s2,s3,s4,s5,s6,s7,s8,s9,())++r)=fM T (s0,s1,s2,s3,s4,s5,s6,s7,s8,s9,()):=List.take_left' hE;rw [Qk,htk,Xq];rw [Dg,d1,d2,d3];refine λ_ _=>⟨by decide,by omega,by rw [<-Dg,hE];decide,rfl,by decide,by rw [<-Dg,hE];decide,λ_=>⟨by decide,?_⟩⟩;subst Nx;have hz:(au 22 (0:UInt8)).length=22:=aY;rw [iK,iM,ez b0.1 b0.2];refine cG.intro (λi=>i.2.1.1=0/\i.2.1.2.1=aI 4 s2.toNat++(aI 4 s3.toNat++(aI 4 s4.toNat++(aI 4 s5.toNat++(aI 4 s6.toNat++(aI 4 s9.toNat++(aI 2 s1.toNat++(aI 2 s7.toNat++(aI 2 s8.toNat++(aI 4 (cv T 0 (fT (s0,s1,s2,s3,s4,s5,s6,s7,s8,s9,()))).toNat++au 22 0)))))))))/\i.2.2.1=(s0,0,0,0,0,0,0,0,0,0,())) ⟨by decide,by decide,by trivial,by decide,by decide,by simp only [af,aE,hz];decide,by simp only [af,aE,hz];decide,λ_=>⟨rfl,rfl,rfl⟩⟩ ?_;rintro ⟨_,⟨c,x,_⟩,y,_⟩ ⟨e1,e2,e3⟩;dsimp only at e1 e2 e3;subst e1 e2 e3;dsimp only;refine ⟨by unfold aD;decide,?_⟩;simp only [iK,iM,ez b2.1 b2.2];refine cG.intro (λi=>i.2.1.1=0/\i.2.1.2.1=aI 4 s3.toNat++(aI 4 s4.toNat++(aI 4 s5.toNat++(aI 4 s6.toNat++(aI 4 s9.toNat++(aI 2 s1.toNat++(aI 2 s7.toNat++(aI 2 s8.toNat++(aI 4 (cv T 0 (fT (s0,s1,s2,s3,s4,s5,s6,s7,s8,s9,()))).toNat++au 22 0))))))))/\i.2.2.1=(s0,0,s2,0,0,0,0,0,0,0,())) ⟨by decide,by decide,by trivial,by decide,by decide,by simp only [af,aE,hz];decide,by simp only [af,aE,hz];decide,λ_=>⟨rfl,rfl,rfl⟩⟩ ?_;rintro ⟨_,⟨c,x,_⟩,y,_⟩ ⟨e1,e2,e3⟩;dsimp only at e1 e2 e3;subst e1 e2 e3;dsimp only;refine ⟨by unfold aD;decide,?_⟩;simp only [iK,iM,ez b3.1 b3.2];refine cG.intro (λi=>i.2.1.1=0/\i.2.1.2.1=aI 4 s4.toNat++(aI 4 s5.toNat++(aI 4 s6.toNat++(aI 4 s9.toNat++(aI 2 s1.toNat++(aI 2 s7.toNat++(aI 2 s8.toNat++(aI 4 (cv T 0 (fT (s0,s1,s2,s3,s4,s5,s6,s7,s8,s9,()))).toNat++au 22 0)))))))/\i.2.2.1=(s0,0,s2,s3,0,0,0,0,0,0,())) ⟨by decide,by decide,by trivial,by decide,by decide,by simp only [af,aE,hz];decide,by simp only [af,aE,hz];decide,λ_=>⟨rfl,rfl,rfl⟩⟩ ?_;rintro ⟨_,⟨c,x,_⟩,y,_⟩ ⟨e1,e2,e3⟩;dsimp only at e1 e2 e3;subst e1 e2 e3;dsimp only;refine ⟨by unfold aD;decide,?_⟩;simp only [iK,iM,ez b4.1 b4.2];refine cG.intro (λi=>i.2.1.1=0/\i.2.1.2.1=aI 4 s5.toNat++(aI 4 s6.toNat++(aI 4 s9.toNat++(aI 2 s1.toNat++(aI 2 s7.toNat++(aI 2 s8.toNat++(aI 4 (cv T 0 (fT (s0,s1,s2,s3,s4,s5,s6,s7,s8,s9,()))).toNat++au 22 0))))))/\i.2.2.1=(s0,0,s2,s3,s4,0,0,0,0,0,())) ⟨by decide,by decide,by trivial,by decide,by decide,by simp only [af,aE,hz];decide,by simp only [af,aE,hz];decide,λ_=>⟨rfl,rfl,rfl⟩⟩ ?_;rintro ⟨_,⟨c,x,_⟩,y,_⟩ ⟨e1,e2,e3⟩;dsimp only at e1 e2 e3;subst e1 e2 e3;dsimp only;refine ⟨by unfold aD;decide,?_⟩;simp only [iK,iM,ez b5.1 b5.2];refine cG.intro (λi=>i.2.1.1=0/\i.2.1.2.1=aI 4 s6.toNat++(aI 4 s9.toNat++(aI 2 s1.toNat++(aI 2 s7.toNat++(aI 2 s8.toNat++(aI 4 (cv T 0 (fT (s0,s1,s2,s3,s4,s5,s6,s7,s8,s9,()))).toNat++au 22 0)))))/\i.2.2.1=(s0,0,s2,s3,s4,s5,0,0,0,0,())) ⟨by decide,by decide,by trivial,by decide,by decide,by simp only [af,aE,hz];decide,by simp only [af,aE,hz];decide,λ_=>⟨rfl,rfl,rfl⟩⟩ ?_;rintro ⟨_,⟨c,x,_⟩,y,_⟩ ⟨e1,e2,e3⟩;dsimp only at e1 e2 e3;subst e1 e2 e3;dsimp only;refine ⟨by unfold aD;decide,?_⟩;simp only [iK,iM,ez b6.1 b6.2];refine cG.intro (λi=>i.2.1.1=0/\i.2.1.2.1=aI 4 s9.toNat++(aI 2 s1.toNat++(aI 2 s7.toNat++(aI 2 s8.toNat++(aI 4 (cv T 0 (fT (s0,s1,s2,s3,s4,s5,s6,s7,s8,s9,()))).toNat++au 22 0))))/\i.2.2.1=(s0,0,s2,s3,s4,s5,s6,0,0,0,())) ⟨by decide,by decide,by trivial,by decide,by decide,by simp only [af,aE,hz];decide,by simp only [af,aE,hz];decide,λ_=>⟨rfl,rfl,rfl⟩⟩ ?_;rintro ⟨_,⟨c,x,_⟩,y,_⟩ ⟨e1,e2,e3⟩;dsimp only at e1 e2 e3;subst e1 e2 e3;dsimp only;refine ⟨by unfold aD;decide,?_⟩;simp only [iK,iM,ez b9.1 b9.2];refine cG.intro (λi=>i.2.1.1=0/\i.2.1.2.1=aI 2 s1.toNat++(aI 2 s7.toNat++(aI 2 s8.toNat++(aI 4 (cv T 0 (fT (s0,s1,s2,s3,s4,s5,s6,s7,s8,s9,()))).toNat++au 22 0)))/\i.2.2.1=(s0,0,s2,s3,s4,s5,s6,0,0,s9,())) ⟨by decide,by decide,by trivial,by decide,by decide,by simp only [af,aE,hz];decide,by simp only [af,aE,hz];decide,λ_=>⟨rfl,rfl,rfl⟩⟩ ?_;rintro ⟨_,⟨c,x,_⟩,y,_⟩ ⟨e1,e2,e3⟩;dsimp only at e1 e2 e3;subst e1 e2 e3;dsimp only;refine ⟨by unfold aD;decide,by decide,?_⟩;simp only [iK,iM,ez b1.1 b1.2];refine cG.intro (λi=>i.2.1.1=0/\i.2.1.2.1=aI 2 s7.toNat++(aI 2 s8.toNat++(aI 4 (cv T 0 (fT (s0,s1,s2,s3,s4,s5,s6,s7,s8,s9,()))).toNat++au 22 0))/\i.2.2.1=(s0,s1,s2,s3,s4,s5,s6,0,0,s9,())) ⟨by decide,by decide,by trivial,by decide,by decide,by simp only [af,aE,hz];decide,by simp only [af,aE,hz];decide,λ_=>⟨rfl,rfl,rfl⟩⟩ ?_;rintro ⟨_,⟨c,x,_⟩,y,_⟩ ⟨e1,e2,e3⟩;dsimp only at e1 e2 e3;subst e1 e2 e3;dsimp only;refine ⟨by unfold aD;decide,?_⟩;simp only [iK,iM,ez b7.1 b7.2];refine cG.intro (λi=>i.2.1.1=0/\i.2.1.2.1=aI 2 s8.toNat++(aI 4 (cv T 0 (fT (s0,s1,s2,s3,s4,s5,s6,s7,s8,s9,()))).toNat++au 22 0)/\i.2.2.1=(s0,s1,s2,s3,s4,s5,s6,s7,0,s9,())) ⟨by decide,by decide,by trivial,by decide,by decide,by simp only [af,aE,hz];decide,by simp only [af,aE,hz];decide,λ_=>⟨rfl,rfl,rfl⟩⟩ ?_;rintro ⟨_,⟨c,x,_⟩,y,_⟩ ⟨e1,e2,e3⟩;dsimp only at e1 e2 e3;subst e1 e2 e3;dsimp only;refine ⟨by unfold aD;decide,?_⟩;simp only [iK,iM,ez b8.1 b8.2];refine cG.intro (λi=>i.2.1.1=0/\i.2.1.2.1=aI 4 (cv T 0 (fT (s0,s1,s2,s3,s4,s5,s6,s7,s8,s9,()))).toNat++au 22 0/\i.2.2.1=(s0,s1,s2,s3,s4,s5,s6,s7,s8,s9,())) ⟨by decide,by decide,by trivial,by decide,by decide,by simp only [af,aE,hz];decide,by simp only [af,aE,hz];decide,λ_=>⟨rfl,rfl,rfl⟩⟩ ?_;rintro ⟨_,⟨c,x,_⟩,y,_⟩ ⟨e1,e2,e3⟩;dsimp only at e1 e2 e3;subst e1 e2 e3;dsimp only;refine ⟨by unfold aD;decide,?_⟩;have hc:=zi T 0 (fT (s0,s1,s2,s3,s4,s5,s6,s7,s8,s9,()));have hl4:(aI 4 (cv T 0 (fT (s0,s1,s2,s3,s4,s5,s6,s7,s8,s9,()))).toNat++au 22 (0:UInt8)).length=26:=by rw [af,aE,hz]
 have hB:=uZ (s0,s1,s2,s3,s4,s5,s6,s7,s8,s9,());have htB:List.take (ax (64 - ((26:Nat):Int))) (fM T (s0,s1,s2,s3,s4,s5,s6,s7,s8,s9,())++r)=fT (s0,s1,s2,s3,s4,s5,s6,s7,s8,s9,()):=by
  unfold fM;rw [aL];exact List.take_left' hB
 obtain ⟨z1,z2⟩:=ajl (au 22 (0:UInt8));simp only [iK,iM,hl4,<-Dg,htB,agL hc.1 hc.2,z1,z2,amV,beq_self_eq_true];refine ⟨by trivial,λ_=>⟨by trivial,by decide,by decide,by decide,by decide,λ_ _=>⟨by trivial,λ_=>⟨by trivial,by omega,by rw [hz];decide,λ_ _=>aq (λhq=>by cases hq) (λ_=>λ_=>aq (λhq=>by have hq:=of_decide_eq_true hq;omega) (λ_=>aq (λ_=>⟨by unfold aD;decide,by decide,by omega,hT,λ_=>aq (λ_=>λ_=>aq (λ_=>⟨hs,λz hz=>List.eq_of_mem_replicate hz,h⟩) (λhq=>?_)) (λhq=>by cases hq)⟩) (λhq=>by cases hq)))⟩⟩⟩⟩;rw [Xq] at mC;exact absurd mC (by simpa using hq)
end Go.Proofs

namespace Go.Proofs
open Go.Shelf
def Tryz.Nl:Go.Shelf.Ren:=⟨fun| 137=>181| 217=>225| 266=>241| n=>n,fun| 9=>9| 5=>5| 3=>3| n=>n,fun| n=>n⟩
theorem Tryz.aeX:Go.Proofs.Lays.n137 bQ Tryz.Nl:= {
 mixed:=by kernel_rfl
 f137:=Tryz.func181.trans (congrArg some (by kernel_rfl))
 f217:=Tryz.func225.trans (congrArg some (by kernel_rfl))
 f266:=Tryz.func241.trans (congrArg some (by kernel_rfl))
 t3:=Tryz.underlying3
 a3:=Tryz.isAgg3
 z3:=Tryz.sizeOf3
 v3:=Tryz.zeroValue3
 t5:=Tryz.underlying5
 a5:=Tryz.isAgg5
 z5:=Tryz.sizeOf5
 v5:=Tryz.zeroValue5
 t9:=Tryz.underlying9
 a9:=Tryz.isAgg9
 z9:=Tryz.sizeOf9
 v9:=Tryz.zeroValue9}
open Go.RowKit in
theorem Tryz.strings_IndexByte (s:ByteArray) (c:Int) (w:World):
  Calls bQ 181 #[.string s,.int .u8 c] w λe w'=>e= .returned (.int .i64 (Lib.indexByte s.data.toList c.toNat.toUInt8))/\w'=w:=Any.strings_IndexByte Tryz.aeX s c w
def Tryz.Nk:Go.Shelf.Ren:=⟨fun| 189=>125| 125=>122| 257=>172| 128=>168| 129=>169| 294=>211| 295=>212| 296=>213| 297=>214| 298=>215| 299=>216| 216=>131| 300=>217| 301=>218| 328=>232| 329=>207| 330=>208| 331=>233| 332=>234| 215=>179| 343=>244| n=>n,fun| 28=>29| 3=>3| 46=>148| 0=>0| 51=>107| 53=>267| 4=>4| 183=>260| 182=>259| 131=>104| 5=>5| 9=>9| 218=>303| 222=>130| 228=>325| 229=>163| n=>n,fun| n=>n⟩
theorem Tryz.Tl:Go.Proofs.Lays.n189 bQ Tryz.Nk:= {
 mixed:=by kernel_rfl
 f125:=Tryz.func122.trans (congrArg some (by kernel_rfl))
 f128:=Tryz.func168.trans (congrArg some (by kernel_rfl))
 f129:=Tryz.func169.trans (congrArg some (by kernel_rfl))
 f189:=Tryz.func125.trans (congrArg some (by kernel_rfl))
 f215:=Tryz.func179.trans (congrArg some (by kernel_rfl))
 f216:=Tryz.func131.trans (congrArg some (by kernel_rfl))
 f257:=Tryz.func172.trans (congrArg some (by kernel_rfl))
 f294:=Tryz.func211.trans (congrArg some (by kernel_rfl))
 f295:=Tryz.func212.trans (congrArg some (by kernel_rfl))
 f296:=Tryz.func213.trans (congrArg some (by kernel_rfl))
 f297:=Tryz.func214.trans (congrArg some (by kernel_rfl))
 f298:=Tryz.func215.trans (congrArg some (by kernel_rfl))
 f299:=Tryz.func216.trans (congrArg some (by kernel_rfl))
 f300:=Tryz.func217.trans (congrArg some (by kernel_rfl))
 f301:=Tryz.func218.trans (congrArg some (by kernel_rfl))
 f328:=Tryz.func232.trans (congrArg some (by kernel_rfl))
 f329:=Tryz.func207.trans (congrArg some (by kernel_rfl))
 f330:=Tryz.func208.trans (congrArg some (by kernel_rfl))
 f331:=Tryz.func233.trans (congrArg some (by kernel_rfl))
 f332:=Tryz.func234.trans (congrArg some (by kernel_rfl))
 f343:=Tryz.func244.trans (congrArg some (by kernel_rfl))
 t0:=Tryz.underlying0
 a0:=Tryz.isAgg0
 z0:=Tryz.sizeOf0
 v0:=Tryz.zeroValue0
 t3:=Tryz.underlying3
 a3:=Tryz.isAgg3
 z3:=Tryz.sizeOf3
 v3:=Tryz.zeroValue3
 t4:=Tryz.underlying4
 a4:=Tryz.isAgg4
 z4:=Tryz.sizeOf4
 v4:=Tryz.zeroValue4
 t5:=Tryz.underlying5
 a5:=Tryz.isAgg5
 z5:=Tryz.sizeOf5
 v5:=Tryz.zeroValue5
 t9:=Tryz.underlying9
 a9:=Tryz.isAgg9
 z9:=Tryz.sizeOf9
 v9:=Tryz.zeroValue9
 t28:=Tryz.underlying29
 a28:=Tryz.isAgg29
 z28:=Tryz.sizeOf29
 v28:=Tryz.zeroValue29
 t46:=Tryz.underlying148
 a46:=Tryz.isAgg148
 z46:=Tryz.sizeOf148
 v46:=Tryz.zeroValue148
 t51:=Tryz.underlying107
 a51:=Tryz.isAgg107
 z51:=Tryz.sizeOf107
 v51:=Tryz.zeroValue107
 t53:=Tryz.underlying267
 a53:=Tryz.isAgg267
 z53:=Tryz.sizeOf267
 v53:=Tryz.zeroValue267
 t131:=Tryz.underlying104
 a131:=Tryz.isAgg104
 z131:=Tryz.sizeOf104
 v131:=Tryz.zeroValue104
 t182:=Tryz.underlying259
 a182:=Tryz.isAgg259
 z182:=Tryz.sizeOf259
 v182:=Tryz.zeroValue259
 t183:=Tryz.underlying260
 a183:=Tryz.isAgg260
 z183:=Tryz.sizeOf260
 v183:=Tryz.zeroValue260
 t218:=Tryz.underlying303
 a218:=Tryz.isAgg303
 z218:=Tryz.sizeOf303
 v218:=Tryz.zeroValue303
 t222:=Tryz.underlying130
 a222:=Tryz.isAgg130
 z222:=Tryz.sizeOf130
 v222:=Tryz.zeroValue130
 t228:=Tryz.underlying325
 a228:=Tryz.isAgg325
 z228:=Tryz.sizeOf325
 v228:=Tryz.zeroValue325
 t229:=Tryz.underlying163
 a229:=Tryz.isAgg163
 z229:=Tryz.sizeOf163
 v229:=Tryz.zeroValue163}
open Go.Sort Go.RowKit in
theorem Tryz.slices_Sort_int (pd off cap:Nat) (zs:List Int) (w:World) (hH:Holds (Value.int .i64) w pd off zs.toArray) (hblk:pd< w.heap.size) (mC:zs.length< 4611686018427387904):
  Calls bQ 125 #[.slice (some ⟨pd,off,none⟩) zs.length cap] w λe w'=>
   e= .returned (.tuple #[])/\∃ n os,w'=grow (putRow (Value.int .i64) (Sort.ahead w n) pd off (zs.mergeSort λx y=>decide (x<=y)).toArray) os:=Any.slices_Sort_int Tryz.Tl pd off cap zs w hH hblk mC
open Go.RowKit Go.Sort in
theorem Tryz.slices_Sort_int_none (p:Option Addr) (cap:Nat) (w:World):
  Calls bQ 125 #[.slice p 0 cap] w λe w'=>e= .returned (.tuple #[])/\w'=w:=Any.slices_Sort_int_none Tryz.Tl p cap w
end Go.Proofs

namespace Go.Lm
open Go
abbrev bP:Ty:=.pair .Wl (.pair (.int .i64) (.pair (.int .i64) .unit))
abbrev eC:Ty:=.pair (.int .i64) (.pair (.int .i64) (.pair (.int .i64) (.pair (.int .i64) (.pair (.int .i64) (.pair (.int .i64) (.pair (.int .i64) (.pair (.int .i64) (.pair (.int .i64) (.pair (.int .i64) (.pair .str .unit))))))))))
abbrev wL (F:List (Int×eC.den)):HO:=.map 3 .int eC F
structure Ec (mo ui gi lk xa:Int):Prop where
 q1:0<=mo/\mo<=511
 q2:0<=ui/\ui<=2047
 q3:0<=gi/\gi<=2047
 q4:1<=lk/\lk<=1024
 q5:0<=xa/\xa<=4294967295
structure UL (st sz:Int):Prop where
 r1:0<=st/\st<=4294967295
 r2:0<=sz/\sz<=1048576
structure zI (st sz fr off:Int):Prop where
 r1:0<=st/\st<=4294967295
 r2:0<=sz/\sz<=4096
 r3:0<=fr/\fr<=1024
 r4:0<=off/\off<=127
 tail:(0< fr↔0< sz % 128)/\(0< sz % 128\/off=0)
structure zH (z:ByteArray):Prop where
 len:0< z.size/\z.size<=200
 nul:∀ x∈z.data.toList,x≠0
def cmB (k mo ui gi lk xa:Int):List UInt8:=aI 1 k.toNat++(aI 2 mo.toNat++(aI 2 ui.toNat++(aI 2 gi.toNat++(aI 2 lk.toNat++aI 4 xa.toNat))))
theorem A8 (k mo ui gi lk xa:Int):(cmB k mo ui gi lk xa).length=13:=by rfl
def Zb (mo ui gi xa st sz:Int):List UInt8:=cmB 1 mo ui gi 1 xa++(aI 4 st.toNat++aI 4 sz.toNat)
def Za (mo ui gi lk xa st sz fr off:Int):List UInt8:=cmB 2 mo ui gi lk xa++(aI 4 st.toNat++(aI 2 sz.toNat++(aI 2 fr.toNat++aI 1 off.toNat)))
def VH (mo ui gi lk xa:Int) (z:ByteArray):List UInt8:=cmB 3 mo ui gi lk xa++(az z.size::z.data.toList)
theorem kg {x m:Int} {P R:Prop} (h0:0<=x) (h1:x<=m) (h:R):br (decide (x< 0)) P (br (decide (x>m)) P R):=
 by grind [aq]
theorem Qx (k a b c d e f g h i:Int) (z:ByteArray):(!(k==k&& (a==a&& (b==b&& (c==c&& (d==d&& (e==e&& (f==f&& (g==g&& (h==h&& (i==i&& (kT z z&& true))))))))))))=false:=by
 simp [kT]
theorem ajy {l:List UInt8} (h:∀ x∈l,x≠0):decide (Lib.indexByte l 0< 0)=true:=by
 grind [ud]
theorem L6 (n x:Nat):List.take n (aI n x)=aI n x:=by grind [aE]
theorem NU (n x:Nat):List.drop n (aI n x)= []:=by grind [aE]
theorem zr (z:ByteArray):gu z.data.toList=z:=rfl
structure o8 (i:eC.den):Prop where
 cm:Ec i.2.1 i.2.2.1 i.2.2.2.1 i.2.2.2.2.1 i.2.2.2.2.2.1
 or:(i.1=1/\UL i.2.2.2.2.2.2.1 i.2.2.2.2.2.2.2.1/\i.2.2.2.2.1=1/\i.2.2.2.2.2.2.2.2.1=0/\i.2.2.2.2.2.2.2.2.2.1=0/\i.2.2.2.2.2.2.2.2.2.2.1=⟨#[]⟩)\/
  (i.1=2/\zI i.2.2.2.2.2.2.1 i.2.2.2.2.2.2.2.1 i.2.2.2.2.2.2.2.2.1 i.2.2.2.2.2.2.2.2.2.1/\i.2.2.2.2.2.2.2.2.2.2.1=⟨#[]⟩)\/
  (i.1=3/\zH i.2.2.2.2.2.2.2.2.2.2.1/\i.2.2.2.2.2.2.1=0/\i.2.2.2.2.2.2.2.1=0/\i.2.2.2.2.2.2.2.2.1=0/\i.2.2.2.2.2.2.2.2.2.1=0)
def fR (i:eC.den):List UInt8:=
 if i.1=1 then Zb i.2.1 i.2.2.1 i.2.2.2.1 i.2.2.2.2.2.1 i.2.2.2.2.2.2.1 i.2.2.2.2.2.2.2.1
 else if i.1=2 then Za i.2.1 i.2.2.1 i.2.2.2.1 i.2.2.2.2.1 i.2.2.2.2.2.1 i.2.2.2.2.2.2.1 i.2.2.2.2.2.2.2.1 i.2.2.2.2.2.2.2.2.1 i.2.2.2.2.2.2.2.2.2.1
 else VH i.2.1 i.2.2.1 i.2.2.2.1 i.2.2.2.2.1 i.2.2.2.2.2.1 i.2.2.2.2.2.2.2.2.2.2.1
theorem py.ok {fs:List (List UInt8)} {R:List UInt8} {o n:Nat} {z:List UInt8} {nx e:Int} (h:py fs R o n z nx e) (hl:o+n<=R.length):z=(R.drop o).take n/\nx=(dX fs (o+n):Nat)/\e=0:=by
 rcases h.or with ⟨_,h1,h2,h3⟩| ⟨h1,_⟩
 .grind
 .omega
def u9:List bP.den->Int
 | []=>0
 | (_,n,_)::r=>n+u9 r
theorem L9:∀ (l:List bP.den) (x:bP.den),u9 (l++ [x])=u9 l+x.2.1
 | [],(_,n,_)=>Int.add_comm (n:Int) 0
 | (_,m,_)::l,x=>by
  have:=L9 l x;show m+u9 (l++ [x])=m+u9 l+x.2.1;rw [this];exact (Int.add_assoc m (u9 l) x.2.1).symm
theorem Vg {l:List bP.den} {j:Int} (h0:0<=j) (h1:j< (l.length:Int)):u9 (l.take (j+1).toNat)=u9 (l.take j.toNat)+(aB bP l j).2.1:=by
 rw [ixT h0 h1,L9]
theorem aox {n s:Int} {L:Nat} (h:0<=n/\n<=4) (k:0<=s/\s<=4*L):0<=n+s/\n+s<=4*((L+1:Nat):Int):=by omega
theorem Sy:∀ {l:List bP.den} (j:Nat),(∀ x∈l,0<=(x.2.1:Int)/\(x.2.1:Int)<=4)->0<=u9 (l.take j)/\u9 (l.take j)<=4*l.length
 | [],j,_=>by simp [u9]
 | x::r,0,_=>by grind [u9]
 | (f,n,m)::r,j+1,h=>by
  have h2:=Sy (l:=r) j (by grind)
  grind [u9, aK]
theorem SK {i:eC.den} (h:o8 i):(fR i).length=if i.1=1 then 21 else if i.1=2 then 22 else 14+i.2.2.2.2.2.2.2.2.2.2.1.size:=by
 unfold fR;rcases h.or with ⟨e,_⟩| ⟨e,_⟩| ⟨e,_⟩
 .grind [Zb, A8, aE]
 .grind [Za, A8, aE]
 .grind [VH, A8, jP]
theorem MH {i:eC.den} (h:o8 i):∃ t,fR i=az i.1.toNat::t:=by
 unfold fR;rcases h.or with ⟨e,_⟩| ⟨e,_⟩| ⟨e,_⟩;rw [if_pos e,e];exact ⟨_,rfl⟩;rw [if_neg (by rw [e];decide),if_pos e,e];exact ⟨_,rfl⟩;rw [if_neg (by rw [e];decide),if_neg (by rw [e];decide),e];exact ⟨_,rfl⟩
theorem aeA {i:eC.den} (e:i.1=3):(fR i)[13]?=some (az i.2.2.2.2.2.2.2.2.2.2.1.size):=by
 grind [fR, VH, A8]
end Go.Lm

