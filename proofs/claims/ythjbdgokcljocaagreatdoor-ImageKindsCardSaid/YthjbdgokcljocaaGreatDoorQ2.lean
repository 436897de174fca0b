/- Texts of mine, laid together: LmVi LmVj LmVk LmVl LmVlz LmVka LmVm LmVn LmVnb LmVnc LmVnd LmVne LmVo LmVp LmVq LmVr LmVs LmVt LmVu. -/
import Derived.Test.YthjbdgokcljocaaGreatDoorQ1
import Derived.Lib.AppendStr
import Derived.Great.BuildSlice
import Derived.OrdersIn
import Derived.TacticsIn
import Derived.RangeFuncCalls
set_option linter.unusedVariables false
open Array renaming getElem?_eq_some_iff → aQ, getD_eq_getD_getElem? → bZ, getElem?_eq_getElem → cK, length_toList → dq, getElem?_toList → eS, getElem?_eq_none → il, getElem?_append_left → jW, getElem?_setIfInBounds_ne → ke
open Bool renaming and_eq_true → ao, not_eq_true' → bY, false_eq_true → eR, or_eq_true → lp, false_and → mI
open Int renaming toNat → ax, le_refl → bz
open List renaming length_append → af, getElem?_eq_getElem → ak, length_cons → aq, getElem?_eq_some_iff → au, replicate → av, length_take → aA, length_singleton → aD, append_assoc → aG, mem_cons_of_mem → aH, eq_nil_of_length_eq_zero → aJ, length_nil → aM, length_drop → aN, mem_map → aP, mem_singleton → aR, length_replicate → aS, take_of_length_le → aT, getElem?_append_left → aV, append_nil → aW, mem_cons_self → aX, mem_append → aY, getElem?_append_right → a8, getD_eq_getElem?_getD → ba, mem_cons → bm, all_eq_true → bo, length_map → bH, flatten_cons → bI, mem_append_left → bM, range → bN, map_cons → bX, drop_eq_getElem_cons → cg, getElem?_map → ck, take_append_drop → cv, drop_append_of_le_length → da, mem_range → dd, getElem_mem → dw, getElem?_eq_none → dx, nil_append → dQ, getElem?_take → ez, nodup_cons → eB, take_take → eF, cons_append → eO, map_append → eQ, flatten_append → eU, mem_of_getElem? → fc, nodup_append → fh, mem_filter → fO, map_congr_left → gD, length_set → gE, drop_eq_nil_of_le → ik, mem_append_right → iK, drop_take → jk, flatMap_cons → j9, filter_eq_self → ka, take_append_of_le_length → lT, filter_cons → lU, getElem?_range → nD, drop_zero → pD
open Nat renaming eq_of_beq_eq_true → ai, le_refl → ay, zero_add → bW, zero_le → cq, le_of_ble_eq_true → cH, min_eq_left → dK, lt_or_ge → dZ, add_mul → fg, blt → gn, mul_le_mul_right → gR, add_zero → jP, mod_eq_of_lt → lS, lt_trichotomy → mK
open Option renaming isSome_iff_exists → lR, bind_some → oU
open Option.some renaming inj → aj, injEq → j8
open UInt8 renaming ofNat → az
noncomputable section
namespace Go.Lm
open Go Go.RowKit
def ER (P:Program) (o:Oper) (a:Act) (w:World) (E:Env) (g:World) (K:SV->Prop):Prop:=∃ v sv,(execOp a.eval o).run P w= .ok (.value v) w/\df E g sv v/\K sv
section
variable {P:Program} {n:Nat} {W:cQ} {F:List Atom} {b:Bs} {E:Env} {g w:World} {s:Ov} {a:Act} {K:SV->Prop} {o:Oper}
theorem ER.of {m:Sem Value} (h:execOp a.eval o=(do pure (.value (<-m)))) (k:PR P m w E g K):ER P o a w E g K:=by
 obtain ⟨v,sv,h1,h2,h3⟩:=k;exact ⟨v,sv,by rw [h,Sem.run_bind,h1];rfl,h2,h3⟩
theorem Jc {e:Ty} {v:Value} {xs:List e.den} {x:Operand} {t et:TypeId} (h:nY e w v xs) (ho:o.op= .call {callee:=.builtin .len,args:= #[x],argTypes:= #[t]}) (ht:P.underlying t=some (.slice et)) (hx:a.eval x=v):(execOp a.eval o).run P w= .ok (.value (.int .i64 xs.length)) w:=by
 letI:=e.rep;exact ama (α:=e.den) h ho ht hx
theorem px {e:Ty} {t:TypeId} {v:Value} {xs:List e.den} {l:List Atom} (H:SL W g w (pj e t v xs::l)):nY e w v xs:=by
 letI:=e.rep;exact SL.aeP (α:=e.den) H
theorem rG.length {k:Kk} {e:Ty}:∀ {l:List (k.den×Value)} {xs:List (k.den×e.den)},rG g k e l xs->l.length=xs.length
 | [],_,h=>by rw [show _= [] from h];rfl
 | _::_,_,⟨x,r,q,_,h2⟩=>by rw [q,aq,aq,h2.length]
theorem Qz {P:Program} (S:dg n W F b E g w s a) {l bb:Nat} (h:E[l]?=some (ptr bb 0)) {t:TypeId} {k:Kk} {e:Ty} {xs:List (k.den×e.den)} (ho:b.obj s l= .map t k e xs) (hk:jT P t k=true):
  ∃ m,rG g k e m xs/\SL W g w (@mapA k.den k.key P t bb m::dC (bj E 0 (b.heap s)++F) l):=by
 have H:=S.pick h;rw [ho] at H;obtain ⟨k1,be,se,ow,h1,h2,ap,q,⟨b',m,s1,s2,P',vS,s3⟩,s4⟩:=H;rw [h] at s1;have:bb=b':=by
  have:=aj s1;simp [ptr] at this;exact this
 subst this;exact ⟨m,s2,k1,be,se,ow,h1,h2,ap,q,Ja vS hk s3,s4⟩
theorem LQ (S:dg n W F b E g w s a) {x:Operand} {t:TypeId} {c:Cl} (ho:o.op= .call {callee:=.builtin .len,args:= #[x],argTypes:= #[t]}) (r:cr E g c (a.eval x)) (h:Ea P b s t c K):ER P o a w E g K:=by
 have ii:∀ {m:Nat},m<=9223372036854775807->aF .i64 (m:Int):=λ{m} h=>by
  show (-9223372036854775808:Int)<=m/\(m:Int)<=9223372036854775807;omega
 unfold Ea at h;split at h
 .rename_i z ht;obtain ⟨hx,hz⟩:=r;exact ⟨_,_,VY ho ht hx,dB (ii hz),h⟩
 .rename_i et ht;obtain ⟨hx,_⟩:=r;have:nY .unit w (.slice none 0 0) []:=(@dv Unit Ty.unit.rep w _ _).2 (.inl ⟨rfl,rfl⟩);exact ⟨_,_,Jc this ho ht hx,dB (ii (by simp)),h⟩
 .rename_i kt et ht;obtain ⟨hx,_⟩:=r;exact ⟨_,_,JS ho ht hx,dB (ii (m:=0) (by simp)),h⟩
 .rename_i et e x ht;have hl:=lM (show nY e g _ x from r);exact ⟨_,_,Jc (nY.mono S.m r) ho ht rfl,dB (ii hl),h hl⟩
 .rename_i et l off m ht;obtain ⟨bb,c,hE,hc,hx⟩:=r;obtain ⟨hm,h⟩:=h;refine ⟨.int .i64 m,_,?_,dB (ii hm),h⟩;simp [execOp,ho,resolve,invoke,builtin,Builtin.len_,hx,run_underlying ht,goInt]
 .rename_i et l ht;obtain ⟨hE,_⟩:=r;split at h
  .rename_i eh;have hi:=px (jN S hE eh);have hl:=lM hi;exact ⟨_,_,Jc hi ho ht rfl,dB (ii hl),h hl⟩
  .rename_i eh;have hi:=lP S hE eh;have hl:=lM hi;exact ⟨_,_,Jc (hi.mono S.m) ho ht rfl,dB (ii hl),h hl⟩
  .cases h
 .rename_i kt et l ht;obtain ⟨bb,hE,hx⟩:=r;split at h
  .rename_i k' kk e xs eh;obtain ⟨hk,h9⟩:=cZ h;rw [ao] at hk;obtain ⟨tV,qP⟩:=hk;obtain rfl:=ai tV;obtain ⟨m,h1,H⟩:=Qz S hE eh qP;letI:=kk.key;have hl:xs.length<=9223372036854775807:=by
    rw [<-h1.length];exact H.Gn
   refine ⟨.int .i64 xs.length,_,?_,dB (ii hl),h9 hl⟩;have:=H.Yy ht o.type;rw [h1.length] at this;simp [execOp,ho,resolve,invoke,builtin,hx,this]
  .rename_i kt2 tR e M eh;obtain ⟨hk,h9⟩:=cZ h;rw [ao] at hk;obtain ⟨tV,qP⟩:=hk;obtain rfl:=ai tV;have H:=S.pick hE;rw [eh] at H;have H1:SL W g w (pmA kt tR e M (ptr bb 0)::dC (bj E 0 (b.heap s)++F) l):=H.cz λ_ ⟨k1,k2,ap,q,⟨v,h1,h2⟩,h3⟩=>⟨k1,k2,ap,q,by
    rw [hE] at h1;obtain rfl:=aj h1;exact h2,h3⟩
   obtain ⟨⟨mb,P'⟩,H2⟩:=SL.CB H1;obtain ⟨⟨hv,hu⟩,H3⟩:=SL.pure H2;have hbb:bb=mb:=by simpa [ptr] using hv
   subst hbb;have hP':jT P' kt .int=true:=by unfold jT;rw [hu]
   have H4:SL W g w (mapA P kt bb (sD M)::(M.map (sY tR e)++dC (bj E 0 (b.heap s)++F) l)):=H3.cz λ_ ⟨k1,k2,ap,q,h1,h2⟩=>⟨k1,k2,ap,q,wN (λv=>wS hP' qP v) h1,h2⟩;have Au:(sD M).length=M.length:=by unfold sD;rw [bH]
   have hl:M.length<=9223372036854775807:=by
    rw [<-Au];exact H4.Gn
   refine ⟨.int .i64 M.length,_,?_,dB (ii hl),h9 hl⟩;have:=H4.Yy ht o.type;rw [Au] at this;simp [execOp,ho,resolve,invoke,builtin,hx,this]
  .cases h
 .cases h
theorem FU {t:TypeId} {x:Operand} {j:Nat} {c c':Cl} {f:Field} {ie:TypeInfo} (ho:o.op= .fieldAddr t x j) (r:cr E g c (a.eval x)) (hf:tY P t j=some f) (hi:P.info? f.type=some ie) (hs:gn 0 ie.size=true) (hc:aas c f.offset=some c')
  :∃ v,(execOp a.eval o).run P w= .ok (.value v) w/\cr E g c' v:=by
 have sO:¬ie.size=0:=by
  have:0< ie.size:=by simpa using hs
  omega
 unfold tY at hf;split at hf
 .rename_i fs ht;have key:∀ q:Addr,a.eval x= .pointer (some q)->(execOp a.eval o).run P w= .ok (.value (.pointer (some (q.add f.offset)))) w:=λq hq=>by
   simp [execOp,ho,hq,Instr.fieldAt,Instr.sureAddr,run_underlying ht,hf,fieldPlace,sizeOf,typeInfo,hi,sO]
  unfold aas at hc;split at hc
  .obtain rfl:=aj hc;obtain ⟨bb,hE,hx⟩:=r;refine ⟨_,key _ hx,bb,hE,?_⟩;unfold Addr.add;split
   .rename_i h0;simp [h0]
   .rfl
  .split at hc
   .rename_i hle;obtain rfl:=aj hc;obtain ⟨h0,v,h1,hx⟩:=r;obtain ⟨cs,h3,_⟩:=Ab h1 h0.1 h0.2.1;obtain ⟨q,hq,_⟩:=h3 g (bx.refl g);rw [hq] at hx;refine ⟨_,key _ hx,⟨h0.1,h0.2.1,cH hle⟩,v,h1,?_⟩;rw [hq];simp [ny,Go.Deep.add_add]
   .cases hc
  .obtain rfl:=aj hc;obtain ⟨v,hE,hx,q,hq⟩:=r;refine ⟨_,key _ hq,v,hE,?_,_,rfl⟩;rw [<-aat,<-hx,hq];rfl
  .obtain rfl:=aj hc;obtain ⟨hE,hx,_⟩:=r;refine ⟨_,key _ hx,hE,?_,rfl⟩;unfold Addr.add;split
   .rename_i h0;simp [h0]
   .rfl
  .cases hc
 .cases hf
theorem HV {x i:Operand} {t et:TypeId} {e:Ty} {v:Value} {xs:List e.den} {k:Int} {ki:IntKind} {ie:TypeInfo} (h:nY e w v xs) (h0:0<=k) (h1:k< xs.length) (ho:o.op= .indexAddr t x i) (ht:P.underlying t=some (.slice et)) (hi:P.info? et=some ie) (hs:Nat.beq e.size ie.size=true)
  (hx:a.eval x=v) (hk:a.eval i= .int ki k):(execOp a.eval o).run P w= .ok (.value (jJ e.size v k)) w:=by
 letI:=e.rep;have kr:aO.size e.den=e.size:=Ty.gp e;have:=N5 (α:=e.den) (P:=P) (o:=o) (ρ:=a.eval) h h0 h1 ho ht (by rw [hi,kr];exact congrArg some (ai hs).symm) hx hk;rw [kr] at this;exact this
theorem yQ {e:Ty} {v:Value} {xs:List e.den} {k:Int} (h:nY e w v xs) (h0:0<=k) (h1:k< xs.length):ny (jJ e.size v k) 0=jJ e.size v k/\∃ q,jJ e.size v k= .pointer (some q):=by
 obtain ⟨cs,h3,_⟩:=Ab h h0 h1;obtain ⟨q,hq,_⟩:=h3 w (bx.refl w);rw [hq];exact ⟨by simp [ny,Addr.add],_,rfl⟩
theorem C4 {e:Ty} {v:Value} {xs:List e.den} {k:Int} {sz:Nat} (h:nY e w v xs) (h0:0<=k) (h1:k< xs.length):∃ q:Addr,ny (jJ sz v 0) 0= .pointer (some q)/\ny (jJ sz v k) 0= .pointer (some (q.add (k.toNat*sz))):=by
 letI:=e.rep;rcases (dv (α:=e.den)).1 h with ⟨_,rfl⟩| ⟨a,cap,rfl,_⟩;simp at h1;omega
 .refine ⟨(a.add (ax 0*sz)).add 0,rfl,?_⟩;show Value.pointer (some ((a.add (k.toNat*sz)).add 0))=_;rw [Go.Deep.add_add,Go.Deep.add_add,Go.Deep.add_add];congr 3;simp
theorem r6 (S:dg n W F b E g w s a) {x i:Operand} {t:TypeId} {c:Cl} {k:Int} {ki:IntKind} (ho:o.op= .indexAddr t x i) (r:cr E g c (a.eval x)) (hk:a.eval i= .int ki k) (h:ia P b s t c k K):ER P o a w E g K:=by
 unfold ia at h;split at h
 .rename_i m et ht;split at h
  .rename_i ie l off ku;obtain ⟨h0,h1,h⟩:=h;obtain ⟨bb,hE,hx⟩:=r;refine ⟨.pointer (some ((⟨bb,off,none⟩:Addr).add (k.toNat*ie.size))),.c (.p l (off+k.toNat*ie.size)),?_,⟨bb,hE,?_⟩,h⟩
   .simp [execOp,ho,hx,hk,Instr.indexAt,asIntOf,Instr.sureAddr,run_underlying ht,h0,h1,sizeOf,typeInfo,ku]
   .unfold Addr.add;split
    .rename_i hz;simp [hz]
    .rfl
  .rename_i ie l sz j ku;obtain ⟨v,hE,hx,_⟩:=r;split at h
   .rename_i eh;obtain ⟨hc,hj,h0,h1,h2,h⟩:=cZ h;simp only [ao] at hc;obtain ⟨q,e1,e2⟩:=C4 (sz:=ie.size) (px (jN S hE eh)) h0 h2;rw [ai hc.2,hj,e1] at hx;refine ⟨.pointer (some (q.add (k.toNat*ie.size))),.c (.oe l _ k 0),?_,⟨v,hE,by rw [ai hc.1,e2],_,rfl⟩,h⟩;simp [execOp,ho,hx,hk,Instr.indexAt,asIntOf,Instr.sureAddr,run_underlying ht,h0,h1,sizeOf,typeInfo,ku]
   .rename_i eh;obtain ⟨hc,hj,h0,h1,h2,h⟩:=cZ h;simp only [ao] at hc;have hi:=lP S hE eh;obtain ⟨q,e1,e2⟩:=C4 (sz:=ie.size) hi h0 h2;rw [ai hc.2,hj,e1] at hx;refine ⟨.pointer (some (q.add (k.toNat*ie.size))),.c (.de _ _ k 0),?_,(show cr E g (.de _ _ k 0) _ from ⟨⟨h0,h2,cq _⟩,v,hi,by rw [ai hc.1,e2]⟩),h⟩;simp [execOp,ho,hx,hk,Instr.indexAt,asIntOf,Instr.sureAddr,run_underlying ht,h0,h1,sizeOf,typeInfo,ku]
   .cases h
  .rename_i ie e xs j ku;obtain ⟨_,v,hi,hx⟩:=r;obtain ⟨hc,hj,h0,h1,h2,h⟩:=cZ h;obtain ⟨q,e1,e2⟩:=C4 (sz:=ie.size) hi h0 h2;rw [ai hc,hj,e1] at hx;refine ⟨.pointer (some (q.add (k.toNat*ie.size))),.c (.de _ _ k 0),?_,(show cr E g (.de _ _ k 0) _ from ⟨⟨h0,h2,cq _⟩,v,hi,by rw [ai hc,e2]⟩),h⟩;simp [execOp,ho,hx,hk,Instr.indexAt,asIntOf,Instr.sureAddr,run_underlying ht,h0,h1,sizeOf,typeInfo,ku]
  .cases h
 .rename_i et ht;split at h
  .cases h
  .rename_i ie ku;split at h
   .rename_i e xs;split at h
    .rename_i hs;obtain ⟨h0,h1,h⟩:=h;have r':nY e g (a.eval x) xs:=r;exact ⟨_,.c (.de e xs k 0),HV (r'.mono S.m) h0 h1 ho ht ku hs rfl hk,(show cr E g (.de e xs k 0) _ from ⟨⟨h0,h1,cq _⟩,_,r',(yQ r' h0 h1).1.symm⟩),h⟩
    .cases h
   .rename_i l off m;obtain ⟨bb,c,hE,hc,hx⟩:=r;obtain ⟨h0,h1,h⟩:=h;refine ⟨.pointer (some ((⟨bb,off,none⟩:Addr).add (k.toNat*ie.size))),.c (.p l (off+k.toNat*ie.size)),?_,⟨bb,hE,?_⟩,h⟩
    .simp [execOp,ho,hx,hk,Instr.indexAt,asIntOf,run_underlying ht,h0,h1,sizeOf,typeInfo,ku]
    .unfold Addr.add;split
     .rename_i hz;simp [hz]
     .rfl
   .obtain ⟨hE,_⟩:=r;split at h
    .rename_i eh;split at h
     .rename_i hs;obtain ⟨h0,h1,h⟩:=h;have hi:=px (jN S hE eh);obtain ⟨q1,q2⟩:=yQ hi h0 h1;exact ⟨_,.c (.oe _ _ k 0),HV hi h0 h1 ho ht ku hs rfl hk,(show cr E g (.oe _ _ k 0) _ from ⟨_,hE,q1.symm,q2⟩),h⟩
     .cases h
    .rename_i eh;split at h
     .rename_i hs;obtain ⟨h0,h1,h⟩:=h;have hi:=lP S hE eh;exact ⟨_,.c (.de _ _ k 0),HV (hi.mono S.m) h0 h1 ho ht ku hs rfl hk,(show cr E g (.de _ _ k 0) _ from ⟨⟨h0,h1,cq _⟩,_,hi,(yQ hi h0 h1).1.symm⟩),h⟩
     .cases h
    .cases h
   .cases h
 .cases h
theorem XR {f:Field} {us:List Value} {cs:List Cl} {r:S1} (hc:bA E g cs us) (hp:pT P f.type cs f.offset=some r):∃ u,(part f.type us.toArray f.offset).run P w= .ok u w/\gm E g r u:=by
 unfold pT at hp;split at hp;cases hp
 .rename_i d hd;split at hp
  .rename_i hr;split at hp
   .rename_i ie ku;split at hp
    .rename_i hle;obtain rfl:=aj hp;refine ⟨.agg ((us.drop f.offset).take ie.size).toArray,?_,_,(hc.drop _).take _,rfl⟩;have Jr:(isAgg f.type).run P w= .ok true w:=by
      unfold isAgg;rw [Sem.run_bind,run_underlying hd w];cases d<;>simp_all
     have:(us.toArray.extract f.offset (f.offset+ie.size))=((us.drop f.offset).take ie.size).toArray:=by rw [List.extract_toArray,List.extract_eq_take_drop,Nat.add_sub_cancel_left]
     unfold part;rw [Sem.run_bind,Jr];simp only [Result.andThen_ok,if_true];simp [sizeOf,typeInfo,ku,go_sem]
    .cases hp
   .cases hp
  .rename_i hr;split at hp
   .rename_i c Jp;obtain rfl:=aj hp;obtain ⟨u,h1,h2⟩:=hc.get Jp;refine ⟨u,?_,h2⟩;have Jr:(isAgg f.type).run P w= .ok false w:=by
     unfold isAgg;rw [Sem.run_bind,run_underlying hd w];cases d<;>simp_all
    have h1':us.toArray[f.offset]?=some u:=by simpa using h1
    unfold part;rw [Sem.run_bind,Jr];simp [h1',go_sem]
   .cases hp
theorem FQ {t:TypeId} {x:Operand} {j:Nat} {cs:List Cl} {f:Field} {r:S1} (ho:o.op= .field t x j) (hx:df E g (.v (.agg cs)) (a.eval x)) (hf:tY P t j=some f) (hp:pT P f.type cs f.offset=some r) (h:K (.v r)):ER P o a w E g K:=by
 obtain ⟨us,hc,hx⟩:=hx;obtain ⟨u,h1,h2⟩:=XR (w:=w) hc hp;unfold tY at hf;split at hf
 .rename_i fs ht;refine ⟨u,.v r,?_,h2,h⟩;simp [execOp,ho,hx,Instr.field,run_underlying ht,hf,asAgg,h1]
 .cases hf
theorem lf {e:Ty} {v:Value} {xs:List e.den} {l h:Int} (hx:nY e w v xs) (hl:0<=l) (GD:l<=h) (hh:h<=xs.length):nY e w (jg e.size v l h) ((xs.drop l.toNat).take (h.toNat - l.toNat)):=by
 letI:=e.rep;have kr:aO.size e.den=e.size:=Ty.gp e;have:=Is.slice (α:=e.den) hx hl GD hh;rw [kr] at this;exact this
theorem xI {e:Ty} {x:Operand} {lo hi:Option Operand} {t et:TypeId} {v:Value} {xs:List e.den} {l h:Int} {ie:TypeInfo} (Gz:nY e w v xs) (hl:0<=l) (GD:l<=h) (hh:h<=xs.length) (ho:o.op= .slice t x lo hi none)
  (ht:P.underlying t=some (.slice et)) (pB:P.info? et=some ie) (hs:Nat.beq e.size ie.size=true) (hx:a.eval x=v) (h1:(lo=none/\l=0)\/∃ y,lo=some y/\a.eval y= .int .i64 l) (h2:(hi=none/\h=xs.length)\/∃ y,hi=some y/\a.eval y= .int .i64 h):
  (execOp a.eval o).run P w= .ok (.value (jg e.size v l h)) w:=by
 letI:=e.rep;have kr:aO.size e.den=e.size:=Ty.gp e;have:=aeB (α:=e.den) (P:=P) (ρ:=a.eval) Gz hl GD hh ho ht (by rw [pB,kr];exact congrArg some (ai hs).symm) hx h1 h2;rw [kr] at this;exact this
def rk (a:Act) (q:Option Operand) (l:Option Int):Prop:=(q=none/\l=none)\/∃ y n,q=some y/\l=some n/\a.eval y= .int .i64 n
theorem rk.get {q:Option Operand} {l:Option Int} {m:Int} (h:rk a q l):(q=none/\cn l m=m)\/∃ y,q=some y/\a.eval y= .int .i64 (cn l m):=by
 rcases h with ⟨rfl,rfl⟩| ⟨y,n,rfl,rfl,h⟩;exact .inl ⟨rfl,rfl⟩;exact .inr ⟨y,rfl,h⟩
theorem BU (S:dg n W F b E g w s a) {x:Operand} {t:TypeId} {c:Cl} {qlo qhi:Option Operand} {lo hi:Option Int} (ho:o.op= .slice t x qlo qhi none) (r:cr E g c (a.eval x)) (h1:rk a qlo lo) (h2:rk a qhi hi) (h:ph P b s t c lo hi K):ER P o a w E g K:=by
 unfold ph at h;split at h
 .rename_i ht;split at h
  .rename_i z;obtain ⟨hl,GD,hh,h⟩:=h;obtain ⟨hx,hz⟩:=r;refine ⟨_,.str _,N2 hl GD hh ho ht hx h1.get h2.get,⟨rfl,?_⟩,h⟩;have SH:z.size<=maxLen:=hz;show (z.extract _ _).size<=maxLen;rw [ByteArray.size_extract];omega
  .cases h
 .rename_i et ht;split at h
  .cases h
  .rename_i ie ku;split at h
   .rename_i e xs;split at h
    .rename_i hs;obtain ⟨hl,GD,hh,h⟩:=Mt h;have r':nY e g (a.eval x) xs:=r;exact ⟨_,.c (.d e _),xI (r'.mono S.m) hl GD hh ho ht ku hs rfl h1.get h2.get,lf r' hl GD hh,h⟩
    .cases h
   .obtain ⟨hE,_⟩:=r;split at h
    .rename_i eh;split at h
     .rename_i hs;obtain ⟨hl,GD,hh,h⟩:=Yc h;have hi:=px (jN S hE eh);obtain ⟨q,m,cc,hq,_⟩:=nR (lf hi hl GD hh);exact ⟨_,.c (.os _ _ _ _),xI hi hl GD hh ho ht ku hs rfl h1.get h2.get,(show cr E g (.os _ _ _ _) _ from ⟨_,hE,rfl,q,m,cc,hq⟩),h⟩
     .cases h
    .rename_i eh;split at h
     .rename_i hs;obtain ⟨hl,GD,hh,h⟩:=Mt h;have hi:=lP S hE eh;exact ⟨_,.c (.d _ _),xI (hi.mono S.m) hl GD hh ho ht ku hs rfl h1.get h2.get,lf hi hl GD hh,h⟩
     .cases h
    .cases h
   .cases h
 .rename_i m et ht;split at h
  .cases h
  .rename_i ie ku;split at h
   .rename_i l off;obtain ⟨hmx,hl,hlm,GD,hh,h⟩:=h;obtain ⟨bb,hE,hx⟩:=r;have hb:(Instr.sliceBounds false m m (qlo.map a.eval) (qhi.map a.eval) none).run P w= .ok ((cn lo 0).toNat,(cn hi m).toNat,m) w:=by
     have g1:=h1.get (m:=0);have g2:=h2.get (m:=(m:Int));have e0:0<=cn hi m:=by omega
     rcases g1 with ⟨rfl,e1⟩| ⟨y,rfl,hy⟩<;>rcases g2 with ⟨rfl,e2⟩| ⟨z,rfl,hz⟩<;>
      simp_all [Instr.sliceBounds,Instr.sliceBound,asIntOf]<;>omega
    have gx:¬m=(cn lo 0).toNat:=by omega
    refine ⟨.slice (some ((⟨bb,off,none⟩:Addr).add ((cn lo 0).toNat*ie.size))) ((cn hi m).toNat - (cn lo 0).toNat) (m - (cn lo 0).toNat),.c (.sc l _ _),?_,⟨bb,m - (cn lo 0).toNat,hE,⟨by omega,by unfold maxLen;omega⟩,?_⟩,h⟩;simp [execOp,ho,hx,Instr.sliceAt,Instr.sureAddr,run_underlying ht,hb,sizeOf,typeInfo,ku,gx]
    .congr 2;unfold Addr.add;split
     .rename_i hz;simp
     .rfl
   .cases h
 .cases h
theorem FP {x i:Operand} {t:TypeId} {z:ByteArray} {k:IntKind} {m:Int} (ho:o.op= .index t x i) (ht:P.underlying t=some .string) (hx:a.eval x= .string z) (hi:a.eval i= .int k m) (h0:0<=m) (h1:m< z.size) (h:K (.k (.int .u8 ((ra z m).toNat:Int)))):ER P o a w E g K:=by
 have eK:m.toNat< z.size:=by omega
 have hb:z[m.toNat]?=some z[m.toNat]:=by simp [eK]
 refine ⟨.int .u8 (ra z m).toNat,_,?_,dB ?_,h⟩;simp [execOp,ho,Instr.index,hx,hi,asIntOf,run_underlying ht,h0,ra,hb]
 .have h2:(ra z m).toNat< 256:=UInt8.toNat_lt _;show (0:Int)<=((ra z m).toNat:Int)/\((ra z m).toNat:Int)<=255;omega
theorem xL {l:List Cl} {vs:List Value} {cs:List Cl} {us:List Value} {off:Nat} (hc:bA E g cs us) (hv:bA E g l vs):bA E g (LK cs off l) (us.take off++(vs++us.drop (off+vs.length))):=by
 unfold LK;rw [hv.length];exact (hc.take off).app (hv.app (hc.drop _))
theorem FV {w0:World} {ys:List UInt8}:∀ (n i:Nat),i+n<=ys.length->(kh n).rep.rel w0 (((ys.drop i).take n).map λb=>Value.int .u8 (b.toNat:Int)) (rowOf ys n i)
 | 0,i,_=>rfl
 | n+1,i,h=>by
  have hi:i< ys.length:=by omega
  rw [cg hi,List.take_succ_cons,bX];refine ⟨[_],_,rfl,?_,FV n (i+1) (by omega)⟩;show _= [Value.int .u8 ((ys.getD i 0).toNat:Int)];rw [ba,ak hi];rfl
theorem LY {x:Operand} {t:TypeId} {c:Cl} {K:SV->Prop} (ho:o.op= .sliceToArrayPointer t x) (r:cr E g c (a.eval x)) (h:JN P t c K):ER P o a w E g K:=by
 unfold JN at h;split at h
 .rename_i n e2 e xs0 ht;split at h
  .rename_i ys hy;obtain ⟨q,e1⟩:=ev hy;subst q;obtain rfl:ys=xs0:=e1;have h9:=cZ h;obtain ⟨hn,hlen,hk⟩:=h9;simp only [ao] at hn;have hn0:0< n:=by simpa using hn.1
   have hi:nY .u8 g (a.eval x) ys:=r;have Y1:n<=ys.length:=hlen;rcases (@dv UInt8 Ty.u8.rep g _ _).1 hi with ⟨_,e0⟩| ⟨ad,cp,hx,hc,hm,h3⟩
   .exfalso
    have:ys.length=0:=by rw [show ys= [] from e0];rfl
    omega
   .have hnl:¬(ys.length< n):=by omega
    refine ⟨.pointer (some ad),.c (.de (kh n) [rowOf ys n 0] 0 0),?_,?_,hk⟩
    .simp [execOp,ho,Instr.arrayAt,run_underlying ht,hx];omega
    .refine (show cr E g (.de (kh n) [rowOf ys n 0] 0 0) _ from ⟨⟨by omega,by simp,cq _⟩,.slice (some ad) 1 1,?_,by simp [jJ,ny,Addr.add]⟩);refine (@dv (kh n).den (kh n).rep g _ _).2 (.inr ⟨ad,1,rfl,ay _,by unfold maxLen;omega,λi y hi=>?_⟩);have DU:i=0:=by
      have:=(au.1 hi).1;simpa using this
     subst DU;obtain rfl:rowOf ys n 0=y:=by simpa using hi
     refine ⟨((ys.drop 0).take n).map λb=>Value.int .u8 (b.toNat:Int),λj v hj=>?_,FV n 0 (by omega)⟩;rw [pD,ck,ez] at hj;split at hj
     .rename_i hjn;rw [ak (by omega)] at hj;have CX:=aj hj;obtain ⟨cs,h4,h5⟩:=h3 j (ys[j]'(by omega)) (ak (by omega));have h6:cs= [Value.int .u8 ((ys[j]'(by omega)).toNat:Int)]:=h5;subst h6;have h7:=h4 0 _ rfl;rw [<-CX];rw [<-h7];simp [Addr.add,aO.size]
     .simp at hj
  .cases h
 .cases h
theorem SF {e:Ty} {v:Value} {xs:List e.den} {m:Nat} (hx:nY e g v xs) (hm:m<=xs.length):∃ a cp,v= .slice a xs.length cp/\nY e g (.slice a m m) (xs.take m):=by
 rcases (@dv e.den e.rep g _ _).1 hx with ⟨rfl,rfl⟩| ⟨ad,cp,rfl,hc,J1,h3⟩
 .obtain rfl:m=0:=by simpa using hm
  exact ⟨none,0,rfl,(@dv e.den e.rep g _ _).2 (.inl ⟨rfl,rfl⟩)⟩
 .refine ⟨some ad,cp,rfl,(@dv e.den e.rep g _ _).2 (.inr ⟨ad,m,by rw [aA,dK hm],by rw [aA];omega,by omega,λi x hi=>?_⟩)⟩;rw [ez] at hi;split at hi
  .exact h3 i x hi
  .cases hi
theorem LN {x y:Operand} {t:TypeId} {c:Cl} {qlo qhi:Option Operand} {lo hi:Option Int} {m:Int} {K:SV->Prop} (ho:o.op= .slice t x qlo qhi (some y)) (r:cr E g c (a.eval x)) (h1:rk a qlo lo) (h2:rk a qhi hi) (hy:a.eval y= .int .i64 m) (mw:bx g w) (h:HJ P t c lo hi m K):ER P o a w E g K:=by
 unfold HJ at h;split at h
 .rename_i et e xs hv ht;split at h
  .rename_i ie ku;have h9:=cZ h;obtain ⟨hs,hl,GD,hhm,hmx,hk⟩:=h9;have hs:=ai hs;have r':nY e g (a.eval x) xs:=r;obtain ⟨ad,cp,hx,pB⟩:=SF (m:=m.toNat) r' (by omega);have uG:(xs.take m.toNat).length=m.toNat:=by rw [aA];omega
   have h3:=lf (l:=cn lo 0) (h:=hv) pB hl GD (by rw [uG];omega);have e2:((xs.take m.toNat).drop (cn lo 0).toNat).take (hv.toNat - (cn lo 0).toNat)=(xs.drop (cn lo 0).toNat).take (hv.toNat - (cn lo 0).toNat):=by
    rw [jk,eF];congr 1;omega
   rw [e2] at h3;refine ⟨_,.c (.d e _),?_,h3,hk⟩;have M6:xs.length<=cp:=by
    rcases (@dv e.den e.rep g _ _).1 r' with ⟨e5,e6⟩| ⟨ad2,cp2,e5,hc,_,_⟩;rw [e6];exact cq _
    .rw [hx] at e5;cases e5;exact hc
   obtain ⟨z,rfl,hz⟩:∃ z,qhi=some z/\a.eval z= .int .i64 hv:=by
    rcases h2 with ⟨_,e0⟩| ⟨z,n,e1,e0,hz⟩;cases e0
    .cases e0;exact ⟨z,e1,hz⟩
   have c1:(Instr.sliceBound (.int .i64 m) cp .slice3Acap).run P w= .ok m.toNat w:=by
    simp [Instr.sliceBound,asIntOf];omega
   have c2:(Instr.sliceBound (.int .i64 hv) m.toNat .slice3B).run P w= .ok hv.toNat w:=by
    simp [Instr.sliceBound,asIntOf];omega
   have hb:(Instr.sliceBounds true xs.length cp (qlo.map a.eval) (some (.int .i64 hv)) (some (.int .i64 m))).run P w= .ok ((cn lo 0).toNat,hv.toNat,m.toNat) w:=by
    have g1:=h1.get (m:=0);rcases g1 with ⟨rfl,e1⟩| ⟨y,rfl,hy1⟩;simp [Instr.sliceBounds,c1,c2,e1]
    .have c3:(Instr.sliceBound (.int .i64 (cn lo 0)) hv.toNat .slice3C).run P w= .ok (cn lo 0).toNat w:=by
      simp [Instr.sliceBound,asIntOf];omega
     simp [Instr.sliceBounds,c1,c2,c3,hy1]
   simp [execOp,ho,Instr.sliceAt,hx,hy,hz,run_underlying ht,Instr.slice,hb,sizeOf,typeInfo,ku,jg,hs]
  .cases h
 .cases h
end
section
variable {X:Vx} {n:Nat} {W:cQ} {F:List Atom} {b:Bs} {E:Env} {g w:World} {s:Ov} {a:Act} {o:Oper}
theorem Xz {α:Type} {L vs:List α} {p m:Nat} (h1:p+vs.length<=m) (h2:m<=L.length):(L.take p++vs++L.drop (p+vs.length)).take m=(L.take m).take p++vs++(L.take m).drop (p+vs.length):=by
 have e1:(L.take p).length=p:=by rw [aA];omega
 rw [List.take_append,aT (by rw [af,e1];omega),af,e1,eF,dK (by omega),jk]
theorem w8 {size:Nat} {vs:List Value}:∀ (cs:List (List Value)) (i off:Nat),(∀ x∈cs,x.length=size)->off+vs.length<=size->∀ (hi:i< cs.length),(cs.set i ((cs[i]).take off++vs++(cs[i]).drop (off+vs.length))).flatten=cs.flatten.take (i*size+off)++vs++cs.flatten.drop (i*size+off+vs.length)
 | [],_,_,_,_,hi=>by simp at hi
 | c::cs,0,off,hl,ho,_=>by
  have h1:c.length=size:=hl c (by simp);simp only [List.set_cons_zero,bI,List.getElem_cons_zero,Nat.zero_mul,bW];rw [lT (by omega),da (by omega)];simp
 | c::cs,i+1,off,hl,ho,hi=>by
  have h1:c.length=size:=hl c (by simp);have ih:=w8 cs i off (λx hx=>hl x (aH _ hx)) ho (by simpa using hi);simp only [List.set_cons_succ,bI,List.getElem_cons_succ];rw [ih];have e1:(i+1)*size+off=c.length+(i*size+off):=by rw [fg];omega
  rw [e1,List.take_length_add_append,show c.length+(i*size+off)+vs.length=c.length+(i*size+off+vs.length) by omega,List.drop_length_add_append];simp
theorem SL.ahx {α:Type} [aO α] {P:Program} {e t:TypeId} {v c:Value} {xs:List α} {i:Int} {off:Nat} {x':α} {l:List Atom} (H:SL W g w (BK e v xs::l)) (h0:0<=i) (h1:i< xs.length) (PK:off+c.cells.size<=aO.size α) (oS:c.cells.toList.all (·.oneCell')=true) (CU:(P.info? t).map (·.size)=some c.cells.size)
  (hx:∀ cs,aO.rel g cs (xs[i.toNat]'(by omega))->aO.rel g (cs.take off++c.cells.toList++cs.drop (off+c.cells.toList.length)) x'):
  ∃ w',(Instr.storeAt t (ny (jJ (aO.size α) v i) off) c).run P w= .ok () w'/\SL W g w' (BK e v (xs.set i.toNat x')::l):=by
 obtain ⟨cs,r,H1⟩:=H.pj;have hlen:=eC.length r;rcases H1.ofRow with ⟨rfl,hn,_,_⟩| ⟨k,cap,cur,rfl,q1,q2,q3,q4,H2⟩;omega;have hi:i.toNat< xs.length:=by omega
 have Y4:i.toNat< cs.length:=by omega
 have Y6:i.toNat*aO.size α+off+c.cells.size<=xs.length*aO.size α:=by
  have:(i.toNat+1)*aO.size α<=xs.length*aO.size α:=gR _ hi;rw [fg] at this;omega
 have Jq:xs.length*aO.size α<=cap*aO.size α:=gR _ q1;have gG:=kg (P:=P) (t:=t) (off:=i.toNat*aO.size α+off) (v:=c) (H2.oP 0) CU oS (by omega);refine ⟨w.setRow k (cur.toList.take (i.toNat*aO.size α+off)++c.cells.toList++cur.toList.drop (i.toNat*aO.size α+off+c.cells.size)).toArray,?_,?_⟩
 .have hp:ny (jJ (aO.size α) (.slice (some ⟨k,0,none⟩) xs.length cap) i) off=ptr k (i.toNat*aO.size α+off):=by
   show Value.pointer (some (((⟨k,0,none⟩:Addr).add (i.toNat*aO.size α)).add off))=_;rw [Go.Deep.add_add,Addr.add_mid,bW]
  rw [hp];exact gG
 .have kr:c.cells.size=c.cells.toList.length:=by simp
  have u:Wg w k (cur.toList.take (i.toNat*aO.size α+off)++c.cells.toList++cur.toList.drop (i.toNat*aO.size α+off+c.cells.size)).toArray (w.setRow k (cur.toList.take (i.toNat*aO.size α+off)++c.cells.toList++cur.toList.drop (i.toNat*aO.size α+off+c.cells.size)).toArray):=⟨rfl,(H2.oP 0).lt⟩;have H3:=H2.upd 0 u;have H4:=SL.wc (size:=aO.size α) (cap:=cap) xs.length H3 q1 q2 (by simp;omega);have e2:((cur.toList.take (i.toNat*aO.size α+off)++c.cells.toList++cur.toList.drop (i.toNat*aO.size α+off+c.cells.size)).toArray.toList.take (xs.length*aO.size α))=(cs.set i.toNat ((cs[i.toNat]).take off++c.cells.toList++(cs[i.toNat]).drop (off+c.cells.toList.length))).flatten:=by
   rw [w8 (size:=aO.size α) cs i.toNat off (λx hx=>eC.lens r x hx) (by rw [<-kr];exact PK) Y4,<-q4,kr,List.toList_toArray];have M6:cur.toList.length=cap*aO.size α:=by simpa using q3
   exact Xz (by omega) (by omega)
  rw [e2] at H4;have hlx:(xs.set i.toNat x').length=xs.length:=by simp
  refine SL.XE (cs:=cs.set i.toNat ((cs[i.toNat]).take off++c.cells.toList++(cs[i.toNat]).drop (off+c.cells.toList.length))) (r.set i.toNat _ (hx _ (r.at i.toNat hi Y4))) ?_;rw [hlx];exact H4
theorem BT (S:dg n W F b E g w s a) {t:TypeId} {x y:Operand} {c:Cl} {v:S1} {K:Ov->Prop} (ho:o.op= .store t x y) (r:cr E g c (a.eval x)) (rv:df E g (.v v) (a.eval y)) (h:BF X.P b s t c v K):
  ∃ w' s',(execOp a.eval o).run X.P w= .ok .skip w'/\dg n W F b E g w' s' a/\K s':=by
 have hv:bA E g v.cells (a.eval y).cells.toList:=gm.cells rv;have oS:(a.eval y).cells.toList.all (·.oneCell')=true:=bo.2 hv.one;unfold BF at h;split at h;cases h
 .rename_i ie ku;split at h
  .rename_i kr;have hlen:(a.eval y).cells.size=ie.size:=by
    have:=hv.length;rw [dq] at this;rw [this];exact ai kr
   split at h
   .rename_i l off;obtain ⟨bb,hE,hx⟩:=r;split at h
    .rename_i ut cs eh;split at h
     .rename_i hle;obtain ⟨us,h1,h2,H⟩:=oM S hE eh;have hl:off+(a.eval y).cells.size<=us.toArray.size:=by
       rw [hlen,List.size_toArray,h1.length];exact cH hle
      have hr:=kg (P:=X.P) (t:=t) h2 (by rw [ku,hlen];rfl) oS hl;refine ⟨_,_,by simp [execOp,ho,hx];rw [hr];rfl,S.back hE _ (bx.refl g) ?_,h⟩;have H2:=SL.zA H ((⟨rfl,h2.lt⟩:Wg w bb (us.toArray.toList.take off++(a.eval y).cells.toList++us.toArray.toList.drop (off+(a.eval y).cells.size)).toArray _).BB h2);refine H2.cz λk ⟨k1,k2,ap,q,s1,s2⟩=>⟨k1,k2,ap,q,⟨bb,_,hE,xL h1 hv,?_⟩,s2⟩;have s1':k1 bb=some (.cells (us.toArray.toList.take off++(a.eval y).cells.toList++us.toArray.toList.drop (off+(a.eval y).cells.size)).toArray ut (0,0)):=s1;rw [s1'];simp
     .cases h
    .cases h
   .rename_i l sz i off;obtain ⟨u,hE,hx,_⟩:=r;split at h
    .rename_i ut e xs cc eh;split at h
     .rename_i hs;obtain ⟨h0,h1,h⟩:=h;rw [ao] at hs;split at h
      .rename_i x' hof;letI:=e.rep;have Jo:aO.size e.den=e.size:=Ty.gp e;have hcv:cr E g cc (a.eval y):=rv;have eK:off< e.size:=by have:=hs.2;simpa using this
       have H:=jN S hE eh;obtain ⟨w',h2,H2⟩:=SL.akE (α:=e.den) (P:=X.P) (t:=t) (x':=x') H h0 h1 (off:=off) (by rw [Jo];exact eK) hcv.one (nM hcv.one) (by rw [ku];exact congrArg some (ai kr).symm) λvs DR=>by
        have e1:aK e xs i=xs[i.toNat]'(by omega):=by
         unfold aK;rw [ba,ak (by omega)];rfl
        rw [<-e1] at DR;obtain ⟨h4,_⟩:=eY E g e DR;obtain ⟨u1,u2,e2,h5,h6⟩:=of_cells e hof (h4.set off hcv);rw [e2,show u2= [] from h6,aW];exact h5
       rw [Jo,ai hs.1] at h2;refine ⟨w',_,by simp [execOp,ho,hx,h2],S.back hE _ (bx.refl g) ?_,h⟩;exact H2.cz λk ⟨k1,k2,ap,q,s1,s2⟩=>⟨k1,k2,ap,q,⟨u,hE,s1⟩,s2⟩
      .cases h
     .cases h
    .rename_i ut e xs lc eh;split at h
     .rename_i hs;obtain ⟨h0,h1,h⟩:=h;rw [ao] at hs;split at h
      .rename_i x' hof;letI:=e.rep;have Jo:aO.size e.den=e.size:=Ty.gp e;have M6:(a.eval y).cells.size=lc.length:=by
        have h3:bA E g lc (a.eval y).cells.toList:=hv;have:=h3.length;rw [dq] at this;exact this
       have eK:off+lc.length<=e.size:=cH hs.2;have H:=jN S hE eh;obtain ⟨w',h2,H2⟩:=SL.ahx (α:=e.den) (P:=X.P) (t:=t) (x':=x') (c:=a.eval y) H h0 h1 (off:=off) (by rw [Jo,M6];exact eK) oS (by rw [ku,hlen];rfl) λvs DR=>by
        have e1:aK e xs i=xs[i.toNat]'(by omega):=by
         unfold aK;rw [ba,ak (by omega)];rfl
        rw [<-e1] at DR;obtain ⟨h4,_⟩:=eY E g e DR;have h5:=xL (off:=off) h4 hv;obtain ⟨u1,u2,e2,h5,h6⟩:=of_cells e hof h5;rw [show u2= [] from h6,aW] at e2;rw [aG,e2];exact h5
       rw [Jo,ai hs.1] at h2;refine ⟨w',_,by simp [execOp,ho,hx,h2],S.back hE _ (bx.refl g) ?_,h⟩;exact H2.cz λk ⟨k1,k2,ap,q,s1,s2⟩=>⟨k1,k2,ap,q,⟨u,hE,s1⟩,s2⟩
      .cases h
     .cases h
    .cases h
   .cases h
  .cases h
theorem acI {P:Program} {e:Ty} {te t:TypeId} {v c:Value} {xs:List e.den} {i:Int} {off:Nat} {l:List Atom} (H:SL W g w (pj e te v xs::l)) (h0:0<=i) (h1:i< xs.length) (PK:off< e.size) (um:c.oneCell'=true) (Jp:c.cells= #[c]) (DS:∃ a n c',c= .slice a n c') (CU:(P.info? t).map (·.size)=some 1):
  ∃ w',(Instr.storeAt t (ny (jJ e.size v i) off) c).run P w= .ok () w'/\SL W g w' (sfA te e xs i off v c::l):=by
 letI:=e.rep;obtain ⟨cs,r,H1⟩:=SL.pj (α:=e.den) H;have hs:aO.size e.den=e.size:=Ty.gp e;rw [hs] at H1;have hlen:=eC.length r;have hz:∀ x∈cs,x.length=e.size:=λx hx=>by rw [<-hs];exact eC.lens r x hx
 rcases H1.ofRow with ⟨rfl,hn,_,_⟩| ⟨k,cap,cur,rfl,q1,q2,q3,q4,H2⟩;omega;have hi:i.toNat< xs.length:=by omega
 have Y4:i.toNat< cs.length:=by omega
 have Y6:i.toNat*e.size+off< xs.length*e.size:=by
  have:(i.toNat+1)*e.size<=xs.length*e.size:=gR _ hi;rw [fg] at this;omega
 have Jq:xs.length*e.size<=cap*e.size:=gR _ q1;have gG:=kg (P:=P) (t:=t) (off:=i.toNat*e.size+off) (v:=c) (H2.oP 0) (by rw [Jp];exact CU) (by rw [Jp];simp [um]) (by rw [Jp];simp;omega);refine ⟨w.setRow k (cur.toList.take (i.toNat*e.size+off)++c.cells.toList++cur.toList.drop (i.toNat*e.size+off+c.cells.size)).toArray,?_,?_⟩
 .have hp:ny (jJ e.size (.slice (some ⟨k,0,none⟩) xs.length cap) i) off=ptr k (i.toNat*e.size+off):=by
   show Value.pointer (some (((⟨k,0,none⟩:Addr).add (i.toNat*e.size)).add off))=_;rw [Go.Deep.add_add,Addr.add_mid,bW]
  rw [hp];exact gG
 .have e1:(cur.toList.take (i.toNat*e.size+off)++c.cells.toList++cur.toList.drop (i.toNat*e.size+off+c.cells.size))=cur.toList.set (i.toNat*e.size+off) c:=by
   rw [Jp];rw [List.set_eq_take_append_cons_drop,if_pos (by simp;omega)];simp
  have u:Wg w k (cur.toList.set (i.toNat*e.size+off) c).toArray (w.setRow k (cur.toList.take (i.toNat*e.size+off)++c.cells.toList++cur.toList.drop (i.toNat*e.size+off+c.cells.size)).toArray):=⟨by rw [e1],(H2.oP 0).lt⟩;have H3:=H2.upd 0 u;have H4:=SL.wc (size:=e.size) (cap:=cap) xs.length H3 q1 q2 (by simp;omega);have e2:((cur.toList.set (i.toNat*e.size+off) c).toArray.toList.take (xs.length*e.size))=(cs.set i.toNat ((cs[i.toNat]).set off c)).flatten:=by
   rw [sR (size:=e.size) cs i.toNat off hz PK Y4,<-q4];simp only [List.take_set]
  rw [e2] at H4;refine H4.cz λhh ⟨k1,k2,ap,q,s1,s2⟩=>⟨k1,k2,ap,q,⟨_,s1,⟨λx hx=>?_,by rw [gE];exact hlen.1,h0,h1,PK⟩,⟨DS,(cs[i.toNat]).set off c,by rw [List.getElem?_set_self Y4],by rw [List.getElem?_set_self (by rw [hz _ (dw Y4)];exact PK)]⟩,λg' m E cl M6 x' hof=>?_⟩,s2⟩
  .rcases List.mem_or_eq_of_mem_set hx with hx| rfl
   .exact hz x hx
   .rw [gE];exact hz _ (dw Y4)
  .refine (eC.mono m r).set i.toNat _ ?_;have DR:=(eC.mono m r).at i.toNat hi Y4;have e3:aK e xs i=xs[i.toNat]:=by
    unfold aK;rw [ba,ak hi];rfl
   rw [<-e3] at DR;obtain ⟨h4,_⟩:=eY E g' e DR;obtain ⟨u1,u2,e4,h5,h6⟩:=of_cells e hof (h4.set off M6);rw [e4,show u2= [] from h6,aW];exact h5
theorem LO (S:dg n W F b E g w s a) {t:TypeId} {x y:Operand} {l sz off q:Nat} {i:Int} {K:Ov->Prop} (ho:o.op= .store t x y) (r:cr E g (.oe l sz i off) (a.eval x)) (rv:df E g (.c (.o q)) (a.eval y)) (h:BL X.P b s t l sz i off q K):
  ∃ w' s',(execOp a.eval o).run X.P w= .ok .skip w'/\dg n W F b E g w' s' a/\K s':=by
 unfold BL at h;split at h
 .rename_i ie u e xs _ _ _ ku eh hoq;obtain ⟨hc,h0,h1,h⟩:=cZ h;simp only [ao] at hc;obtain ⟨c1,c2,c3,c4⟩:=hc;obtain ⟨uv,hE,hx,_⟩:=r;have hcv:cr E g (.o q) (a.eval y):=rv;obtain ⟨w',h2,H2⟩:=acI (P:=X.P) (t:=t) (c:=a.eval y) (off:=off) (jN S hE eh) h0 h1 (by simpa using c3) hcv.one (nM hcv.one) hcv.2 (by rw [ku];exact congrArg some (ai c1));rw [ai c2] at h2;refine ⟨w',_,by simp [execOp,ho,hx,h2],S.back hE _ (bx.refl g) ?_,h⟩;exact H2.cz λk ⟨k1,k2,ap,q,s1,s2⟩=>⟨k1,k2,ap,q,⟨uv,_,hE,hcv.1,s1⟩,s2⟩
 .cases h
theorem dX (S:dg n W F b E g w s a) (v:Value):(E++ [v])[s.n]?=some v:=by rw [<-S.len];simp
theorem UO (S:dg n W F b E g w s a) {t:TypeId} {z:List Cl} {K:SV->Ov->Prop} (ho:o.op= .alloc t) (hz:nZ X.P t=some z) (h:K (.c (.p s.n 0)) (s.new (.cells t z))):
  ∃ v w',(execOp a.eval o).run X.P w= .ok (.value v) w'/\Out n W F b E g a K v w':=by
 unfold nZ at hz;split at hz
 .rename_i i hi;split at hz
  .rename_i z0 As;have hr:(execOp a.eval o).run X.P w= .ok (.value (ptr w.heap.size 0)) (w.alloc (.cells z0.cells t)):=TK ho hi As;have hc:bA (E++ [ptr w.heap.size 0]) g z z0.cells.toList:=kY hz;refine ⟨_,_,hr,_,g,_,_,bw.app E [ptr w.heap.size 0],bx.refl g,S.new (v:=ptr w.heap.size 0) (bx.refl g) ?_,(show df _ g (.c (.p s.n 0)) _ from ⟨w.heap.size,dX S _,rfl⟩),h⟩;have H:=S.sat.sl.new (xy.mk' w (.cells z0.cells t));exact H.cz λk ⟨k1,k2,ap,q,s1,s2⟩=>⟨k1,k2,ap,q,⟨w.heap.size,z0.cells.toList,dX S _,hc,by have s1':k1 w.heap.size=some (.cells z0.cells t (0,0)):=s1;rw [s1']⟩,s2⟩
  .cases hz
 .cases hz
theorem acR (S:dg n W F b E g w s a) {t:TypeId} {x:Operand} {v:S1} {K:SV->Ov->Prop} (ho:o.op= .box t x) (r:df E g (.v v) (a.eval x)) (h:K (.c (.p s.n 0)) (s.new (.cells t v.cells))):
  ∃ v w',(execOp a.eval o).run X.P w= .ok (.value v) w'/\Out n W F b E g a K v w':=by
 have hr:(execOp a.eval o).run X.P w= .ok (.value (ptr w.heap.size 0)) (w.alloc (.cells (a.eval x).cells t)):=afJ ho rfl;have hc:bA (E++ [ptr w.heap.size 0]) g v.cells (a.eval x).cells.toList:=(gm.cells r).mono (bw.app E _) (bx.refl g);refine ⟨_,_,hr,_,g,_,_,bw.app E [ptr w.heap.size 0],bx.refl g,S.new (v:=ptr w.heap.size 0) (bx.refl g) ?_,(show df _ g (.c (.p s.n 0)) _ from ⟨w.heap.size,dX S _,rfl⟩),h⟩;have H:=S.sat.sl.new (xy.mk' w (.cells (a.eval x).cells t));exact H.cz λk ⟨k1,k2,ap,q,s1,s2⟩=>⟨k1,k2,ap,q,⟨w.heap.size,(a.eval x).cells.toList,dX S _,hc,by have s1':k1 w.heap.size=some (.cells (a.eval x).cells t (0,0)):=s1;rw [s1']⟩,s2⟩
theorem CR {g:World} {k:IntKind}:∀ {xs:List Int},(∀ n∈xs,aF k n)-> @eC Int (Ty.int k).rep g (xs.map λn=>[Value.int k n]) xs/\(xs.map λn=>[Value.int k n]).flatten=xs.map (Value.int k ·)
 | [],_=>⟨trivial,rfl⟩
 | x::xs,h=>by
  obtain ⟨h1,h2⟩:=CR (g:=g) (xs:=xs) λn hn=>h n (aH _ hn);exact ⟨⟨⟨rfl,inK_wf.1 (h x aX)⟩,h1⟩,by rw [bX,bI,h2];rfl⟩
theorem aaq {bb:Nat} {k:IntKind} {t:TypeId} {xs:List (Ty.int k).den} {l:List Atom} (hx:∀ n∈xs,aF k n) (hn:xs.length<=maxLen) (H:SL W g w (Lm.oP bb (xs.map (Value.int k ·)).toArray t::l)):SL W g w (pj (.int k) t (.slice (some ⟨bb,0,none⟩) xs.length xs.length) xs::l):=by
 letI:=(Ty.int k).rep;obtain ⟨r,e⟩:=CR (g:=g) hx;have H1:=SL.wc (size:=1) (cap:=xs.length) xs.length H (ay _) hn (by simp);have e2:List.take (xs.length*1) (xs.map (Value.int k ·)).toArray.toList=(xs.map λn=>[Value.int k n]).flatten:=by
  rw [e,aT (by simp)]
 rw [e2] at H1;exact SL.XE r H1
theorem zr {k:IntKind}:∀ {n:Nat} {z:List Cl},pE k n z=true->z=av n (.k (.int k 0))
 | 0,[],_=>rfl
 | n+1,z,h=>by
  unfold pE at h;split at h
  .rename_i e;cases e
  .rename_i m k' r e;cases e;rw [ao] at h;rw [IntKind.eq_of_beq h.1,zr h.2];rfl
  .cases h
 | 0,_::_,h=>by simp [pE] at h
theorem B0 {E:Env} {v:Value}:∀ {n:Nat} {us:List Value},bA E g (av n (.k v)) us->us=av n v
 | 0,_,h=>h
 | n+1,_,⟨u,q,e,⟨h1,_⟩,h2⟩=>by rw [e,h1,B0 h2];rfl
theorem L1 (S:dg n W F b E g w s a) {t:TypeId} {z:List Cl} {m:Nat} {k:IntKind} {K:SV->Ov->Prop} (ho:o.op= .alloc t) (hz:nZ X.P t=some z) (ha:L4 X.P t=some (m,k)) (DU:pE k m z=true) (h:K (.c (.oe s.n 1 0 0)) (s.new (.sl t (.int k) (av m 0)))):
  ∃ v w',(execOp a.eval o).run X.P w= .ok (.value v) w'/\Out n W F b E g a K v w':=by
 obtain rfl:=zr DU;obtain ⟨_,_,_,_,hm⟩:=AF ha;unfold nZ at hz;split at hz
 .rename_i i hi;split at hz
  .rename_i z0 As;have hr:(execOp a.eval o).run X.P w= .ok (.value (ptr w.heap.size 0)) (w.alloc (.cells z0.cells t)):=TK ho hi As;have hc:z0.cells.toList=av m (.int k 0):=B0 (E:=E) (g:=g) (kY hz);have CZ:z0.cells=((av m (0:Int)).map (Value.int k ·)).toArray:=by
    refine Array.toList_inj.1 ?_;rw [hc,List.map_replicate]
   have H:=S.sat.sl.new (xy.mk' w (.cells z0.cells t));rw [CZ] at hr H;have H2:=aaq (k:=k) (xs:=av m (0:Int)) (λn hn=>by rw [List.eq_of_mem_replicate hn];cases k<;>(unfold aF;decide)) (by rw [aS];unfold maxLen;omega) H;refine ⟨_,_,hr,_,g,_,_,bw.app E [.slice (some ⟨w.heap.size,0,none⟩) (av m (0:Int)).length (av m (0:Int)).length],bx.refl g,S.new (bx.refl g) ?_,(show df _ g (.c (.oe s.n 1 0 0)) _ from ⟨_,dX S _,S6.symm,_,rfl⟩),h⟩;exact H2.cz λk ⟨k1,k2,ap,q,s1,s2⟩=>⟨k1,k2,ap,q,⟨_,dX S _,s1⟩,s2⟩
  .cases hz
 .cases hz
theorem UN (S:dg n W F b E g w s a) {t:TypeId} {x:Operand} {m:Nat} {k:IntKind} {l:List Int} {K:SV->Ov->Prop} (ho:o.op= .box t x) (r:df E g (.arr k l) (a.eval x)) (ha:L4 X.P t=some (m,k)) (hl:l.length=m) (h:K (.c (.oe s.n 1 0 0)) (s.new (.sl t (.int k) l))):
  ∃ v w',(execOp a.eval o).run X.P w= .ok (.value v) w'/\Out n W F b E g a K v w':=by
 obtain ⟨hx,yM⟩:=r;obtain ⟨_,_,_,_,hm⟩:=AF ha;have hr:(execOp a.eval o).run X.P w= .ok (.value (ptr w.heap.size 0)) (w.alloc (.cells (a.eval x).cells t)):=afJ ho rfl;have H:=S.sat.sl.new (xy.mk' w (.cells (a.eval x).cells t));have hc:(a.eval x).cells=(l.map (Value.int k ·)).toArray:=by rw [hx];rfl
 rw [hc] at hr H;have H2:=aaq (k:=k) (xs:=l) yM (by rw [hl];unfold maxLen;omega) H;refine ⟨_,_,hr,_,g,_,_,bw.app E [.slice (some ⟨w.heap.size,0,none⟩) l.length l.length],bx.refl g,S.new (bx.refl g) ?_,(show df _ g (.c (.oe s.n 1 0 0)) _ from ⟨_,dX S _,S6.symm,_,rfl⟩),h⟩;exact H2.cz λk ⟨k1,k2,ap,q,s1,s2⟩=>⟨k1,k2,ap,q,⟨_,dX S _,s1⟩,s2⟩
theorem HX (S:dg n W F b E g w s a) {t:TypeId} {x y:Operand} {c:Cl} {k:IntKind} {l:List Int} {K:Ov->Prop} (ho:o.op= .store t x y) (r:cr E g c (a.eval x)) (rv:df E g (.arr k l) (a.eval y)) (h:zg X.P b s t c k l K):
  ∃ w' s',(execOp a.eval o).run X.P w= .ok .skip w'/\dg n W F b E g w' s' a/\K s':=by
 unfold zg at h;split at h
 .rename_i m k' lb sz i ha;obtain ⟨v,hE,hx,_⟩:=r;split at h
  .rename_i u e xs eh;have h9:=cZ h;clear h;obtain ⟨hc,h⟩:=h9;simp only [ao] at hc;split at h
   .rename_i ys Jl;obtain ⟨q,hy⟩:=ev Jl;subst q;subst hy;obtain ⟨DU,hlen,Og,h⟩:=h;have hlen:_=m:=hlen;obtain ⟨e',hu,kr,hn,hm⟩:=AF ha;obtain ⟨bb,cap,cur,rfl,q1,q2,q3,q4,q5,H2⟩:=TI (jN S hE eh) (by rw [hlen];omega);rw [ai hc.2.1,DU,S6] at hx;have Vm:(a.eval y).cells=(l.map (Value.int k ·)).toArray:=by rw [rv.1];rfl
    have wY:(a.eval y).cells.size=m:=by rw [Vm];simp [Og]
    have hr:=kg (P:=X.P) (t:=t) (off:=0) (v:=a.eval y) (H2.oP 0) (by rw [kr,wY]) (by rw [Vm];simp [Value.oneCell']) (by rw [wY,q3];omega);rw [<-hx] at hr;have hle:m<=cap:=by omega
    have M6:cur.toList.length=cap:=by simpa using q3
    have SN:(a.eval y).cells.toList=l.map (Value.int k ·):=by rw [Vm]
    rw [wY,SN,List.take_zero,dQ,bW] at hr;have up:Wg w bb (l.map (Value.int k ·)++cur.toList.drop m).toArray (w.setRow bb (l.map (Value.int k ·)++cur.toList.drop m).toArray):=⟨rfl,(H2.oP 0).lt⟩;have H3:=H2.upd 0 up;have H4:=SL.wc (size:=1) (cap:=cap) m H3 hle q2 (by simp [Og];omega);letI:=(Ty.int k).rep;obtain ⟨r,e2⟩:=CR (g:=g) rv.2;have e3:List.take (m*1) (l.map (Value.int k ·)++cur.toList.drop m).toArray.toList=(l.map λn=>[Value.int k n]).flatten:=by
     rw [e2,Nat.mul_one,List.toList_toArray,lT (by simp [Og]),aT (by simp [Og])]
    rw [e3] at H4;have H5:SL W g _ (pj (.int k) u (.slice (some ⟨bb,0,none⟩) m cap) l::_):=SL.XE (xs:=l) r (by rw [Og];exact H4);rw [hlen] at hE;have hr':(execOp a.eval o).run X.P w= .ok .skip (w.setRow bb (l.map (Value.int k ·)++cur.toList.drop m).toArray):=by simp [execOp,ho,hr]
    refine ⟨_,_,hr',S.back hE _ (bx.refl g) ?_,h⟩;exact H5.cz λq ⟨k1,k2,ap,q',s1,s2⟩=>⟨k1,k2,ap,q',⟨_,hE,s1⟩,s2⟩
   .cases h
  .cases h
 .cases h
instance oneCellsTy (e:Ty): @iF e.den e.rep:= @iF.mk e.den e.rep λ{g _ _} h=>((eY ([]:Env) g e h).1).one
theorem X0 {e:Ty} {v:Value} {xs:List e.den} (h:nY e g v xs) (m:bx g w): @Rd e.den e.rep g w v xs:= @Is.rd e.den e.rep g w v xs h m
theorem XZ {e:Ty} {t:TypeId} {v:Value} {xs:List e.den} {l:List Atom} (H:SL W g w (pj e t v xs::l)): @Rd e.den e.rep g w v xs:=by
 letI:=e.rep;exact SL.akF (α:=e.den) H
theorem tO (S:dg n W F b E g w s a) {e:Ty} {x:Cl} {u:Value} {ys:List e.den} (r:cr E g x u) (h:sK b s e x=some ys): @Rd e.den e.rep g w u ys/\nY e w u ys:=by
 unfold sK at h;split at h
 .cases h;obtain ⟨rfl,_⟩:=r;exact ⟨.inl ⟨rfl,rfl⟩,(@dv e.den e.rep w _ _).2 (.inl ⟨rfl,rfl⟩)⟩
 .obtain ⟨q,hy⟩:=ev h;subst q;subst hy;exact ⟨X0 r S.m,nY.mono S.m r⟩
 .obtain ⟨hE,_⟩:=r;split at h
  .rename_i eh;obtain ⟨q,hy⟩:=ev h;subst q;subst hy;exact ⟨XZ (jN S hE eh),px (jN S hE eh)⟩
  .rename_i eh;obtain ⟨q,hy⟩:=ev h;subst q;subst hy;exact ⟨X0 (lP S hE eh) S.m,(lP S hE eh).mono S.m⟩
  .cases h
 .cases h
theorem HI (S:dg n W F b E g w s a) {e:Ty} {x:Cl} {u:Value} {K:List e.den->Prop} (r:cr E g x u) (h:XC b s e x K):∃ ys,@Rd e.den e.rep g w u ys/\nY e w u ys/\K ys:=by
 unfold XC at h;split at h
 .rename_i q sz lo hi;obtain ⟨v,hE,hu,_⟩:=r;split at h
  .rename_i t e' xs eh;have h9:=cZ h;clear h;obtain ⟨kr,h1,h2,h3,h4⟩:=h9;split at h4
   .rename_i ys Jl;obtain ⟨q',hy⟩:=ev Jl;subst q';have CT:ys=(xs.drop lo.toNat).take (hi.toNat - lo.toNat):=hy;subst CT;have H:=jN S hE eh;obtain rfl:=ai kr;have k1:= @Rd.slice e'.den e'.rep g w v xs lo hi (XZ H) h1 h2 h3;rw [show @aO.size e'.den e'.rep=e'.size from Ty.gp e'] at k1;subst hu;exact ⟨_,k1,lf (px H) h1 h2 h3,h4⟩
   .exact h4.elim
  .cases h
 .split at h
  .rename_i ys Jl;obtain ⟨h1,h2⟩:=tO S r Jl;exact ⟨ys,h1,h2,h⟩
  .cases h
theorem zh {P:Program} {w:World} (base:Nat) (t u ty e:TypeId) (i:TypeInfo) (ht:P.underlying t=some (.slice e)) (hu:P.underlying u=some .string) (hi:P.info? e=some i) (hz:i.zero=some (.int .u8 0))
  (MV:i.size=1) (hby:i.bytes=1) (v:Value) (m:Nat) (xs:List Value) (Jn:w.ownsRow base e 1 v m xs) (z:ByteArray)
  (h63:m+z.size<=maxLen) (PS:m+z.size<=140737488355328) {v':Value} {w':World} (hr:(Builtin.append_ #[t,u] ty #[v,.string z]).run P w= .ok v' w'):
  ∀ k,v'.ownBlock=some k->v.ownBlock=some k\/w.heap.size<=k:=by
 have hxl:xs.length=m:=by simpa using Jn.1
 have ah4:m+z.size<=9223372036854775807:=by simp only [maxLen] at h63;omega
 rcases Jn.2 with ⟨rfl,rfl⟩| ⟨gb,cap,cur,rfl,hbg,hg,hnc,ff,wY,GA⟩
 .by_cases hm:z.size=0
  .have hf:=Go.Lib.run_firstCells_string (P:=P) w 1 z;rw [hm] at hf;have gG:(Builtin.append_ #[t,u] ty #[.slice none 0 0,.string z]).run P w= .ok (.slice none 0 0) w:=by
    simp [Builtin.append_,run_underlying ht,run_underlying hu,sizeOf,typeInfo,hi,MV,Builtin.lenOf,hm,hf]
   rw [gG] at hr;cases hr;intro k hk;simp [Value.ownBlock] at hk
  .rw [run_append_nil_string (P:=P) w t u ty e i (.int .u8 0) ht hu hi hz z (by omega) (by omega) (by rw [hby];omega)] at hr;cases hr;intro k hk;have:w.heap.size=k:=by simpa [Value.ownBlock] using hk
   exact .inr (by omega)
 .by_cases SJ:m+z.size<=cap
  .have aly:cur.size=cap:=by simpa using wY
   rw [Go.Lib.run_append_room_string (P:=P) w t u ty e i ht hu hi MV gb m cap cur hg z SJ (by omega)] at hr;cases hr;exact λk hk=>.inl hk
  .have holds:∀ j u,xs[j]?=some u->w.cell? ((⟨gb,0,none⟩:Addr).add j)=some u:=Jn.cells (g:=gb) rfl;rw [Go.Lib.run_append_grow_string (P:=P) w t u ty e i (.int .u8 0) ht hu hi hz ⟨gb,0,none⟩ m cap xs (by rw [MV];simpa using hxl) holds z (by omega) (by omega) (by rw [hby];exact growslice_fits (by omega) (by omega))] at hr;cases hr;intro k hk;have:w.heap.size=k:=by simpa [Value.ownBlock] using hk
   exact .inr (by omega)
theorem wh (g:World):∀ l:List UInt8,eC g (l.map λc=>[Value.int .u8 (c.toNat:Int)]) l/\(l.map λc=>[Value.int .u8 (c.toNat:Int)]).flatten=l.map λc=>Value.int .u8 (c.toNat:Int)
 | []=>⟨trivial,rfl⟩
 | c::l=>⟨⟨rfl,(wh g l).1⟩,by rw [bX,bI,(wh g l).2];rfl⟩
theorem L0 (S:dg n W F b E g w s a) {t t2:TypeId} {x y:Operand} {cx cy:Cl} {K:SV->Ov->Prop} (ho:o.op= .call {callee:=.builtin .append,args:= #[x,y],argTypes:= #[t,t2]}) (rx:cr E g cx (a.eval x)) (ry:cr E g cy (a.eval y)) (h:JP X b s t t2 cx cy K):
  ∃ v w',(execOp a.eval o).run X.P w= .ok (.value v) w'/\Out n W F b E g a K v w':=by
 unfold JP at h;split at h
 .rename_i et z ht hu;obtain ⟨hy,hz⟩:=ry;obtain ⟨hu8,h⟩:=cZ h;obtain ⟨ie,ku,hs1,As,hb1⟩:∃ ie,X.P.info? et=some ie/\ie.size=1/\ie.zero=some (.int .u8 0)/\ie.bytes=1:=by
   unfold MS at hu8;split at hu8
   .rename_i ie ku;rw [ao] at hu8;obtain ⟨h1,h2⟩:=hu8;split at h2
    .rename_i As;exact ⟨ie,ku,ai h1,As,ai h2⟩
    .cases h2
   .cases hu8
  have Of:z.data.toList.length=z.size:=by rw [dq];rfl
  have app:∀ {xs:List UInt8} {v:Value} {L:List Atom},SL W g w (pj .u8 et v xs::L)->a.eval x=v->xs.length+z.size<=140737488355328->
    ∃ v' w',(execOp a.eval o).run X.P w= .ok (.value v') w'/\SL W g w' (pj .u8 et v' (xs++z.data.toList)::L)/\∃ q m c,v'= .slice q m c:=λ{xs v L} H hx hb=>by
   obtain ⟨cs,hrel,H1⟩:=SL.pj (α:=UInt8) H;have rO:=H1.row;obtain ⟨v',w',gG,YX,M3,_⟩:=Go.Lib.run_append_own_string (P:=X.P) (w:=w) W.n t t2 o.type et ie ht hu ku As hs1 hb1 v xs.length cs.flatten rO z (by unfold maxLen;omega) hb H.size;have PG:=zh (P:=X.P) W.n t t2 o.type et ie ht hu ku As hs1 hb1 v xs.length cs.flatten rO z (by unfold maxLen;omega) hb gG;have H2:=H1.grown YX M3 PG;have ano:Go.Lib.strCells z=z.data.toList.map λc=>Value.int .u8 (c.toNat:Int):=by
    simp [Go.Lib.strCells]
   have H3:SL W g w' (pj .u8 et v' (xs++z.data.toList)::L):=by
    refine SL.XE (α:=UInt8) (cs:=cs++(z.data.toList.map λc=>[Value.int .u8 (c.toNat:Int)])) (hrel.append (wh g _).1) ?_;rw [eU,(wh g _).2,af,Of,<-ano];exact H2
   obtain ⟨q,m,c,hv,_⟩:=HM H3;exact ⟨v',w',by simp [execOp,ho,resolve,invoke,builtin,hx,hy,gG],H3,q,m,c,hv⟩
  split at h
  .obtain ⟨hb,h⟩:=h;obtain ⟨hx,_⟩:=rx;have H:=SL.zD UInt8 et S.sat.sl;obtain ⟨v',w',hr,H',hv⟩:=app (xs:=[]) H hx (by simpa using hb);refine ⟨v',w',hr,E++ [v'],g,_,_,bw.app E _,bx.refl g,S.new (v:=v') (bx.refl g) ?_,(show df _ g (.c (.o s.n)) v' from ⟨dX S _,hv⟩),h⟩;exact H'.cz λk ⟨k1,k2,ap,q,s1,s2⟩=>⟨k1,k2,ap,q,⟨v',dX S _,by simpa using s1⟩,s2⟩
  .obtain ⟨hE,_⟩:=rx;split at h
   .rename_i l _ Ol e' xs0 eh;obtain ⟨hte,h⟩:=cZ h;obtain rfl:=ai hte;split at h
    .rename_i xs yL;obtain ⟨hb,hK⟩:=h;obtain ⟨q,hq⟩:=ev yL;subst q;subst hq;obtain ⟨v',w',hr,H',hv⟩:=app (jN S hE eh) rfl hb;refine ⟨v',w',hr,E++ [v'],g,_,_,bw.app E _,bx.refl g,S.move (v:=v') hE (bx.refl g) ?_,(show df _ g (.c (.o s.n)) v' from ⟨dX S _,hv⟩),hK⟩;exact H'.cz λk ⟨k1,k2,ap,q,s1,s2⟩=>⟨k1,k2,ap,q,⟨v',dX S _,s1⟩,s2⟩
    .cases h
   .cases h
  .cases h
 .cases h
theorem LZ (S:dg n W F b E g w s a) {t t2:TypeId} {x y:Operand} {cx cy:Cl} {K:SV->Ov->Prop} (ho:o.op= .call {callee:=.builtin .append,args:= #[x,y],argTypes:= #[t,t2]}) (rx:cr E g cx (a.eval x)) (ry:cr E g cy (a.eval y)) (h:JO X b s t t2 cx cy K):
  ∃ v w',(execOp a.eval o).run X.P w= .ok (.value v) w'/\Out n W F b E g a K v w':=by
 unfold JO at h;split at h;cases h
 .rename_i et e ie SO;have aob:X.P.underlying t=some (.slice et)/\X.P.info? et=some ie/\e.size=ie.size:=by
   unfold No at SO;split at SO
   .rename_i Ol ht;split at SO
    .rename_i ie' e' ku hty;split at SO
     .rename_i hs;cases SO;exact ⟨ht,ku,ai hs⟩
     .cases SO
    .cases SO
   .cases SO
  obtain ⟨ht,ku,kr⟩:=aob;split at h
  .rename_i htt;obtain rfl:=ai htt
   .obtain ⟨ys,MX,an2,h⟩:=HI S ry h;letI:=e.rep;have Jo:aO.size e.den=e.size:=Ty.gp e
    -- the append itself
    have app:∀ {xs:List e.den} {v:Value} {L:List Atom},SL W g w (pj e et v xs::L)->a.eval x=v->TJ X et e=true->(xs.length+ys.length)*ie.bytes<=140737488355328->xs.length+ys.length<=9223372036854775807->
      ∃ v' w',(execOp a.eval o).run X.P w= .ok (.value v') w'/\SL W g w' (pj e et v' (xs++ys)::L)/\∃ q m c,v'= .slice q m c:=λ{xs v L} H hx tU hb hm=>by
     unfold TJ at tU;rw [ku] at tU;simp only [ao] at tU;obtain ⟨h1,h2⟩:=tU;cases hz:ie.zero with
     | none=>rw [hz] at h2;cases h2
     | some z=>
      rw [hz] at h2;obtain ⟨v',w',hr,H',_⟩:=SL.append (α:=e.den) (P:=X.P) (t:=t) (ty:=o.type) (bytes:=ie.bytes) H MX ht (by rw [ku,Jo,kr];simp [hz]) (by rw [ku];simp [hz];rw [Jo];exact ai h2) (by rw [Jo];simpa using h1) hb hm;obtain ⟨q,m,c,hv,_⟩:=HM H';exact ⟨v',w',by simp [execOp,ho,resolve,invoke,builtin,hx,hr],H',q,m,c,hv⟩
    split at h
    .obtain ⟨tU,hb,h⟩:=cZ h;obtain ⟨hx,_⟩:=rx;have H:=SL.zD e.den et S.sat.sl;have hlen:=lM an2;obtain ⟨v',w',hr,H',hv⟩:=app (xs:=[]) H hx tU (by simpa using hb) (by simpa using hlen);refine ⟨v',w',hr,E++ [v'],g,_,_,bw.app E _,bx.refl g,S.new (v:=v') (bx.refl g) ?_,(show df _ g (.c (.o s.n)) v' from ⟨dX S _,hv⟩),h⟩;exact H'.cz λk ⟨k1,k2,ap,q,s1,s2⟩=>⟨k1,k2,ap,q,⟨v',dX S _,by simpa using s1⟩,s2⟩
    .obtain ⟨hE,_⟩:=rx;split at h
     .rename_i l _ Ol e' xs0 eh;split at h
      .rename_i hte;obtain rfl:=ai hte;split at h
       .rename_i xs yL;obtain ⟨tU,hb,hm,h⟩:=cZ h;obtain ⟨q,hy⟩:=ev yL;subst q;subst hy;obtain ⟨v',w',hr,H',hv⟩:=app (jN S hE eh) rfl tU hb hm;refine ⟨v',w',hr,E++ [v'],g,_,_,bw.app E _,bx.refl g,S.move (v:=v') hE (bx.refl g) ?_,(show df _ g (.c (.o s.n)) v' from ⟨dX S _,hv⟩),h⟩;exact H'.cz λk ⟨k1,k2,ap,q,s1,s2⟩=>⟨k1,k2,ap,q,⟨v',dX S _,s1⟩,s2⟩
       .cases h
      .cases h
     .cases h
    .cases h
  .exact L0 S ho rx ry h
end
section
variable {X:Vx} {n:Nat} {W:cQ} {F:List Atom} {b:Bs} {E:Env} {g w:World} {s:Ov} {a:Act} {o:Oper}
theorem Na:∀ (vs:List Value) (k:Nat) (us:List Value) (off:Nat),off+k+vs.length<=us.length->
  (vs.zipIdx k).foldl (λ(q:Array Value) (p:Value×Nat)=>q.setIfInBounds (off+p.2) p.1) us.toArray=(us.take (off+k)++(vs++us.drop (off+k+vs.length))).toArray
 | [],k,us,off,_=>by simp
 | v::r,k,us,off,h=>by
  have h':off+k< us.length:=by simp at h;omega
  rw [List.zipIdx_cons,List.foldl_cons];have e:us.toArray.setIfInBounds (off+k) v=(us.set (off+k) v).toArray:=by simp
  show (r.zipIdx (k+1)).foldl _ (us.toArray.setIfInBounds (off+k) v)=_;rw [e,Na r (k+1) (us.set (off+k) v) off (by simp at h ⊢;omega)];congr 1;have h1:(us.set (off+k) v).take (off+(k+1))=us.take (off+k)++ [v]:=by
   rw [show off+(k+1)=off+k+1 by omega,List.take_add_one,List.getElem?_set_self (by simpa using h'),List.take_set_of_le (by omega)];simp
  have h2:(us.set (off+k) v).drop (off+(k+1)+r.length)=us.drop (off+k+(v::r).length):=by
   rw [List.drop_set_of_lt (by omega)];congr 1;simp;omega
  rw [h1,h2];simp
inductive tk (E:Env) (g:World) (a:Act):List (Nat×S1)->List (Nat×Operand)->Prop
 | nil:tk E g a [] []
 | cons {i:Nat} {v:S1} {x:Operand} {ps:List (Nat×S1)} {l:List (Nat×Operand)} (h:gm E g v (a.eval x)) (k:tk E g a ps l):tk E g a ((i,v)::ps) ((i,x)::l)
theorem tF (S:dg n W F b E g w s a):∀ {l:List (Nat×Operand)} {ps:List (Nat×S1)},sH b s l=some ps->tk E g a ps l
 | [],ps,h=>by
  obtain rfl: []=ps:=aj h;exact .nil
 | (i,x)::r,ps,h=>by
  unfold sH at h;split at h
  .rename_i v hv;split at h
   .rename_i l hl;obtain rfl:(i,v)::l=ps:=aj h;exact .cons (S.fe hv) (tF S hl)
   .cases h
  .cases h
theorem xb {place:Nat->Option (Nat×Nat)}:∀ {ps:List (Nat×S1)} {l:List (Nat×Operand)} {cs xC:List Cl} {us:List Value},zX place cs ps=some xC->tk E g a ps l->bA E g cs us->
  ∃ tu,Instr.fill place us.toArray (l.map λq=>(q.1,a.eval q.2))=some tu.toArray/\bA E g xC tu
 | [],_,cs,xC,us,h,.nil,hc=>by
  obtain rfl:cs=xC:=aj h;exact ⟨us,rfl,hc⟩
 | (i,v)::r,_,cs,xC,us,h,.cons (x:=x) h2 h3,hc=>by
  unfold zX at h;split at h;cases h
  .rename_i off size hp;split at h
   .rename_i kr;split at h
    .rename_i hle;have hv:=gm.cells h2;have hl:(a.eval x).cells.size=size:=by
      have:=hv.length;rw [dq] at this;rw [this];exact ai kr
     have aqe:off+size<=us.length:=by rw [hc.length];exact cH hle
     obtain ⟨tu,h4,h5⟩:=xb h h3 (xL (off:=off) hc hv);refine ⟨tu,?_,h5⟩;show Instr.fill place us.toArray ((i,a.eval x)::_)=_;unfold Instr.fill;simp only [hp];have um:((a.eval x).cells.size !=size|| decide (off+(a.eval x).cells.size>us.toArray.size))=false:=by
      rw [hl];simp;omega
     rw [if_neg (by simpa using um)];have e:=Na (a.eval x).cells.toList 0 us off (by rw [dq,hl];omega);have e2:(a.eval x).cells.zipIdx.foldl (λ(q:Array Value) (p:Value×Nat)=>q.setIfInBounds (off+p.2) p.1) us.toArray=((a.eval x).cells.toList.zipIdx 0).foldl (λ(q:Array Value) (p:Value×Nat)=>q.setIfInBounds (off+p.2) p.1) us.toArray:=by
      rw [<-Array.foldl_toList,Array.toList_zipIdx]
     have e3:(a.eval x).cells.zipIdx.foldl (λcs (x:Value×Nat)=>match x with| (c,j)=>cs.setIfInBounds (off+j) c) us.toArray=(us.take off++((a.eval x).cells.toList++us.drop (off+(a.eval x).cells.toList.length))).toArray:=by
      rw [jP] at e;exact e2.trans e
     rw [e3];exact h4
    .cases h
   .cases h
theorem BY {t:TypeId} {parts:Array (Nat×Operand)} {ps:List (Nat×S1)} {K:SV->Prop} (ho:o.op= .build t parts) (hp:tk E g a ps parts.toList) (h:vP X.P t ps K):ER X.P o a w E g K:=by
 unfold vP nZ at h;split at h;cases h
 .rename_i z hz;split at hz
  .rename_i it hit;split at hz
   .rename_i z0 As;have hzc:bA E g z z0.cells.toList:=kY hz;have key:∀ {place:Nat->Option (Nat×Nat)} {cs:List Cl},zX place z ps=some cs->∃ tu,Instr.fill place z0.cells (parts.toList.map λq=>(q.1,a.eval q.2))=some tu.toArray/\bA E g cs tu:=λ{place cs} hf=>by
     have:=xb hf hp hzc;simpa using this
    have Ef:(parts.map λ(i,x)=>(i,a.eval x)).toList=parts.toList.map λq=>(q.1,a.eval q.2):=by rw [Array.toList_map]
    split at h
    .rename_i fs hu;split at h
     .rename_i places Au;split at h
      .rename_i cs hf;obtain ⟨tu,h1,h2⟩:=key hf;refine ⟨.agg tu.toArray,.v (.agg cs),?_,⟨tu,h2,rfl⟩,h⟩;have hb:X.P.built t (parts.map λ(i,x)=>(i,a.eval x)).toList=some tu.toArray:=by
        rw [Ef];unfold Program.built;simp only [hit,hu,As,Au];exact h1
       simp only [execOp,ho,Sem.run_bind,run_build w t _ _ hb,Result.andThen_ok];rfl
      .cases h
     .cases h
    .rename_i m e hu;split at h
     .rename_i ie ku;split at h
      .rename_i cs hf;obtain ⟨tu,h1,h2⟩:=key hf;refine ⟨.agg tu.toArray,.v (.agg cs),?_,⟨tu,h2,rfl⟩,h⟩;have hb:X.P.built t (parts.map λ(i,x)=>(i,a.eval x)).toList=some tu.toArray:=by
        rw [Ef];unfold Program.built;simp only [hit,hu,As,ku];exact h1
       simp only [execOp,ho,Sem.run_bind,run_build w t _ _ hb,Result.andThen_ok];rfl
      .cases h
     .cases h
    .cases h
   .cases hz
  .cases hz
theorem HP {e:Ty}:∀ {off m:Nat} {cs:List Cl} {zs:List e.den} {us:List Value},UD e off m cs=some zs->bA E g cs us->zs.length=m/\∀ (i:Nat) z,zs[i]?=some z->∃ u,us[off+i]?=some u/\e.rep.rel g [u] z
 | 0,0,_,zs,_,h,_=>by
  simp only [UD,j8] at h;subst h;exact ⟨rfl,λi z h=>by simp at h⟩
 | 0,m+1,c::r,zs,us,h,⟨u,q,e,h1,h2⟩=>by
  subst e;unfold UD at h;split at h
  .rename_i z hz;split at h
   .rename_i l hl;obtain rfl:z::l=zs:=aj h;obtain ⟨h3,h4⟩:=HP hl h2;refine ⟨by simp [h3],λi y hy=>?_⟩;cases i with
    | zero=>
     obtain rfl:z=y:=by simpa using hy
     obtain ⟨u1,u2,e1,h5,h6⟩:=of_cells _ hz (bA.cons h1 bA.nil);obtain rfl:u2= []:=h6;rw [aW] at e1;subst e1;exact ⟨u,rfl,h5⟩
    | succ i=>
     obtain ⟨u2,h5,h6⟩:=h4 i y (by simpa using hy);refine ⟨u2,?_,h6⟩;rw [show 0+(i+1)=(0+i)+1 by omega,List.getElem?_cons_succ];exact h5
   .cases h
  .cases h
 | off+1,m,c::r,zs,us,h,⟨u,q,e,_,h2⟩=>by
  subst e;obtain ⟨h3,h4⟩:=HP (off:=off) h h2;refine ⟨h3,λi y hy=>?_⟩;rw [show off+1+i=(off+i)+1 by omega,List.getElem?_cons_succ];exact h4 i y hy
 | 0,m+1,[],_,_,h,_=>by cases h
 | off+1,m,[],_,_,h,_=>by cases h
theorem gH:∀ {cs:List Cl} {us:List Value} {s:Ov} {g:World} {k:List Cl->Ov->Prop},dg n W F b E g w s a->bA E g cs us->kW b cs s k->∃ g' s' xC,bx g g'/\dg n W F b E g' w s' a/\bA E g' xC us/\k xC s'
 | [],us,s,g,k,S,hc,h=>⟨g,s,[],bx.refl g,S,hc,h⟩
 | c::r,us,s,g,k,S,⟨u,q,e,h1,h2⟩,h=>by
  subst e;unfold kW at h;split at h
  .rename_i l;have hE:=h1.1;split at h
   .rename_i t e xs eh;letI:=e.rep;obtain ⟨g1,m1,H1,hi⟩:=SL.qt (α:=e.den) (jN S hE eh);have S1:dg n W F b E g1 w (s.dS l (.held t e xs)) a:=S.back hE _ m1 (H1.cz λk s2=>⟨λ_=>none,k,λ_=>.inl rfl,rfl,(show (cF E l (.held t e xs)).sat g1 _ from ⟨u,hE,hi⟩),s2⟩);obtain ⟨g2,s2,cs2,m2,S2,h3,h4⟩:=gH S1 (h2.mono (bw.refl E) m1) h;exact ⟨g2,s2,_,m1.trans m2,S2,bA.cons (show cr E g2 (.d e xs) u from nY.mono m2 hi) h3,h4⟩
   .rename_i t e xs eh;have hi:=lP S hE eh;obtain ⟨g2,s2,cs2,m2,S2,h3,h4⟩:=gH S h2 h;exact ⟨g2,s2,_,m2,S2,bA.cons (show cr E g2 (.d e xs) u from nY.mono m2 hi) h3,h4⟩
   .cases h
  .rename_i l off m;obtain ⟨bb,c,hE,hmc,hu⟩:=h1;split at h
   .rename_i t cs0 eh;have h9:=cZ h;clear h;obtain ⟨kr,h⟩:=h9;have kr:=ai kr;split at h
    .rename_i zs hzs;obtain ⟨us0,hr,_,H⟩:=oM S hE eh;obtain ⟨hlen,o7⟩:=HP hzs hr;obtain ⟨g1,m1,H1,hg⟩:=SL.afj H;have S1:dg n W F b E g1 w (s.dS l .gone) a:=S.back hE .gone m1 (H1.cz λk s2=>⟨λ_=>none,k,λ_=>.inl rfl,rfl,trivial,s2⟩);have hi:nY (HH off cs0) g1 u zs:=by
      letI:=(HH off cs0).rep;refine (dv (α:=(HH off cs0).den)).2 ?_;refine .inr ⟨⟨bb,off,none⟩,c,by rw [hu,hlen],by rw [hlen];exact hmc.1,hmc.2,λi x hx=>?_⟩;obtain ⟨ux,hux,hrx⟩:=o7 i x hx;refine ⟨[ux],λj v hj=>?_,aO.mono m1 hrx⟩
      match j,hj with
      | 0,hj=>
       obtain rfl:v=ux:=by simpa using hj.symm
       have oS:aO.size (HH off cs0).den=1:=(Ty.gp _).trans kr;have e1:(Addr.mk bb off none).add (i*aO.size (HH off cs0).den+0)=⟨bb,off+i,none⟩:=by simp [Addr.add,oS]
       rw [e1,hg];simpa using hux
      | j+1,hj=>simp at hj
     obtain ⟨g2,s2,cs2,m2,S2,h3,h4⟩:=gH S1 (h2.mono (bw.refl E) m1) h;exact ⟨g2,s2,_,m1.trans m2,S2,bA.cons (show cr E g2 (.d (HH off cs0) zs) u from nY.mono m2 hi) h3,h4⟩
    .cases h
   .cases h
  .rename_i l sz i off;obtain ⟨v,hE,hu,_⟩:=h1;split at h
   .rename_i t e xs eh;have h9:=cZ h;clear h;obtain ⟨hc,h0,h8,h⟩:=h9;simp only [ao] at hc;letI:=e.rep;obtain ⟨g1,m1,H1,hi⟩:=SL.qt (α:=e.den) (jN S hE eh);have S1:dg n W F b E g1 w (s.dS l (.held t e xs)) a:=S.back hE _ m1 (H1.cz λk s2=>⟨λ_=>none,k,λ_=>.inl rfl,rfl,(show (cF E l (.held t e xs)).sat g1 _ from ⟨v,hE,hi⟩),s2⟩);obtain ⟨g2,s2,cs2,m2,S2,h3,h4⟩:=gH S1 (h2.mono (bw.refl E) m1) h;exact ⟨g2,s2,_,m1.trans m2,S2,bA.cons (show cr E g2 (.de e xs i off) u from ⟨⟨h0,h8,cH hc.2⟩,v,nY.mono m2 hi,by rw [ai hc.1];exact hu⟩) h3,h4⟩
   .rename_i t e xs eh;have h9:=cZ h;clear h;obtain ⟨hc,h0,h8,h⟩:=h9;simp only [ao] at hc;have hi:=lP S hE eh;obtain ⟨g2,s2,cs2,m2,S2,h3,h4⟩:=gH S h2 h;exact ⟨g2,s2,_,m2,S2,bA.cons (show cr E g2 (.de e xs i off) u from ⟨⟨h0,h8,cH hc.2⟩,v,nY.mono m2 hi,by rw [ai hc.1];exact hu⟩) h3,h4⟩
   .cases h
  .rename_i l sz lo hi;obtain ⟨v,hE,hu,_⟩:=h1;split at h
   .rename_i t e xs eh;have h9:=cZ h;clear h;obtain ⟨hc,h0,h8,h7,h⟩:=h9;obtain rfl:=ai hc;letI:=e.rep;obtain ⟨g1,m1,H1,hi⟩:=SL.qt (α:=e.den) (jN S hE eh);have S1:dg n W F b E g1 w (s.dS l (.held t e xs)) a:=S.back hE _ m1 (H1.cz λk s2=>⟨λ_=>none,k,λ_=>.inl rfl,rfl,(show (cF E l (.held t e xs)).sat g1 _ from ⟨v,hE,hi⟩),s2⟩);obtain ⟨g2,s2,cs2,m2,S2,h3,h4⟩:=gH S1 (h2.mono (bw.refl E) m1) h;exact ⟨g2,s2,_,m1.trans m2,S2,bA.cons (show cr E g2 (.d e _) u from hu▸lf (nY.mono m2 hi) h0 h8 h7) h3,h4⟩
   .rename_i t e xs eh;have h9:=cZ h;clear h;obtain ⟨hc,h0,h8,h7,h⟩:=h9;obtain rfl:=ai hc;have hi:=lP S hE eh;obtain ⟨g2,s2,cs2,m2,S2,h3,h4⟩:=gH S h2 h;exact ⟨g2,s2,_,m2,S2,bA.cons (show cr E g2 (.d e _) u from hu▸lf (nY.mono m2 hi) h0 h8 h7) h3,h4⟩
   .cases h
  .obtain ⟨g2,s2,cs2,m2,S2,h3,h4⟩:=gH S h2 h;exact ⟨g2,s2,_,m2,S2,bA.cons (h1.mono (bw.refl E) m2) h3,h4⟩
theorem Mz {e:Ty}:∀ (m:Nat) {cs:List Cl} {us:List Value} {xs:List e.den},MA e m cs=some xs->bA E g cs us->∃ css:List (List Value),css.flatten=us/\ @eC e.den e.rep g css xs/\xs.length=m
 | 0,[],us,xs,h,hc=>by
  obtain rfl: []=xs:=aj h;exact ⟨[],(show us= [] from hc).symm,trivial,rfl⟩
 | 0,_::_,us,xs,h,hc=>by cases h
 | m+1,cs,us,xs,h,hc=>by
  unfold MA at h;split at h
  .rename_i x r hx;split at h
   .rename_i ys Jl;obtain rfl:x::ys=xs:=aj h;obtain ⟨u1,u2,e1,h1,h2⟩:=of_cells e hx hc;obtain ⟨css,h3,h4,h5⟩:=Mz m Jl h2;exact ⟨u1::css,by rw [bI,h3,e1],⟨h1,h4⟩,by simp [h5]⟩
   .cases h
  .cases h
theorem FW {α:Type}:∀ (m:Nat) (z:List α) (i:Nat),i< m*z.length->(av m z).flatten[i]?=z[i % z.length]?
 | 0,z,i,h=>by simp at h
 | m+1,z,i,h=>by
  rw [List.replicate_succ,bI];by_cases hi:i< z.length;rw [aV hi,lS hi]
  .rw [a8 (by omega),FW m z (i - z.length) (by rw [fg] at h;omega)];congr 1;exact (Nat.mod_eq_sub_mod (by omega)).symm
theorem FX (m:Nat) (z:Array Value) (hz:0< z.size):(Array.range (m*z.size)).map (λi=>z[i % z.size]!)=((av m z.toList).flatten).toArray:=by
 apply Array.ext_getElem?;intro i;by_cases hi:i< m*z.size
 .have:=FW m z.toList i (by simpa using hi);have eK:i % z.size< z.size:=Nat.mod_lt _ hz;simp only [dq,eS] at this;simp only [List.getElem?_toArray,this];simp [hi,eK]
 .rw [il (by simp;omega),il (by simp;omega)]
theorem xR {z:List Cl} {us:List Value} (h:bA E g z us):∀ m:Nat,bA E g (av m z).flatten (av m us).flatten
 | 0=>bA.nil
 | m+1=>by
  rw [List.replicate_succ,List.replicate_succ,bI,bI];exact h.app (xR h m)
theorem ai8 {e:Ty} {et:TypeId} {bb m:Nat} {us:List Value} {xs:List e.den} {css:List (List Value)} {L:List Atom} (H:SL W g w (oP bb us.toArray et::L)) (h1:css.flatten=us) (h2: @eC e.den e.rep g css xs) (h3:xs.length=m) (hm:m<=maxLen):
  SL W g w (pj e et (.slice (some ⟨bb,0,none⟩) m m) xs::L):=by
 letI:=e.rep;have hlen:=(eC.length h2).2;rw [h1] at hlen;have H2:=SL.wc (size:=aO.size e.den) (cap:=m) m H (ay _) hm (by rw [<-h3];simpa using hlen);subst h3;refine SL.XE (α:=e.den) (cs:=css) h2 ?_;have e1:us.toArray.toList.take (xs.length*aO.size e.den)=css.flatten:=by
  rw [h1,<-hlen];simp
 rw [e1] at H2;exact H2
end
section
variable {X:Vx} {n:Nat} {W:cQ} {F:List Atom} {b:Bs} {E:Env} {g w:World} {s:Ov} {a:Act} {o:Oper}
theorem Zm {t et:TypeId} {e:Ty} {ie:TypeInfo} (h:No X t=some (et,e,ie)):X.P.underlying t=some (.slice et)/\X.P.info? et=some ie/\e.size=ie.size:=by
 unfold No at h;split at h
 .rename_i Ol ht;split at h
  .rename_i ie' e' ku hty;split at h
   .rename_i hs;cases h;exact ⟨ht,ku,ai hs⟩
   .cases h
  .cases h
 .cases h
theorem Ep {P:Program} {t:TypeId} {z:List Cl} (h:nZ P t=some z):∃ i z0,P.info? t=some i/\i.zero=some z0/\bA E g z z0.cells.toList:=by
 unfold nZ at h;split at h
 .rename_i i hi;split at h
  .rename_i z0 As;exact ⟨i,z0,hi,As,kY h⟩
  .cases h
 .cases h
theorem HW (S:dg n W F b E g w s a) {t:TypeId} {m:Nat} {parts:Array (Nat×Operand)} {ps:List (Nat×S1)} {K:SV->Ov->Prop} (ho:o.op= .buildSlice t m parts) (hp:tk E g a ps parts.toList) (h:Dy X s t m ps K):
  ∃ v w',(execOp a.eval o).run X.P w= .ok (.value v) w'/\Out n W F b E g a K v w':=by
 unfold Dy at h;split at h
 .rename_i et ht;split at h
  .rename_i ie z ku hz;obtain ⟨i',z0,Y3,As,hzc⟩:=Ep (E:=E) (g:=g) hz;rw [ku] at Y3;obtain rfl:=aj Y3;obtain ⟨CY,h⟩:=cZ h;rw [ao,ao,ao] at CY;obtain ⟨⟨um,CZ,hc4⟩,hc3⟩:=CY;have hsm:m*ie.size<=16777216:=cH um;have sO:0< ie.size:=by simpa using CZ
   have hm0:0< m:=by simpa using hc4
   have hzs:z0.cells.size=ie.size:=by
    have:=hzc.length;rw [dq] at this;rw [this];exact ai hc3
   split at h;cases h
   .rename_i cs hf;obtain ⟨tu,h1,h2⟩:=xb hf hp (xR hzc m);have Ef:(parts.map λ(i,x)=>(i,a.eval x)).toList=parts.toList.map λq=>(q.1,a.eval q.2):=by rw [Array.toList_map]
    have hr:(Instr.buildSlice t m (parts.map λ(i,x)=>(i,a.eval x))).run X.P w= .ok (.slice (some ⟨w.heap.size,0,none⟩) m m) (w.alloc (.cells tu.toArray et)):=by
     refine run_buildSlice w t et m _ tu.toArray ie z0 ht ku As (by omega) (by have:=Nat.mul_pos hm0 sO;omega) ?_;rw [Ef];have:=FX m z0.cells (by omega);rw [hzs] at this;rw [hzs,this];exact h1
    have gG:(execOp a.eval o).run X.P w= .ok (.value (.slice (some ⟨w.heap.size,0,none⟩) m m)) (w.alloc (.cells tu.toArray et)):=by
     simp only [execOp,ho,Sem.run_bind,hr,Result.andThen_ok];rfl
    have H:=S.sat.sl.new (xy.mk' w (.cells tu.toArray et));have J1:m<=maxLen:=by
     unfold maxLen;have:=Nat.le_mul_of_pos_right m sO;omega
    refine ⟨_,_,gG,E++ [ptr w.heap.size 0],g,_,_,bw.app E _,bx.refl g,S.new (v:=ptr w.heap.size 0) (bx.refl g) ?_,(show df _ g (.c (.sc s.n 0 m)) _ from ⟨_,m,dX S _,⟨ay _,J1⟩,rfl⟩),h⟩;exact H.cz λk ⟨k1,k2,ap,q,s1,s2⟩=>⟨k1,k2,ap,q,⟨_,tu,dX S _,h2.mono (bw.app E _) (bx.refl g),s1⟩,s2⟩
  .cases h
 .cases h
theorem Al (S:dg n W F b E g w s a) {t:TypeId} {m:Nat} {parts:Array (Nat×Operand)} {ps:List (Nat×S1)} {K:SV->Ov->Prop} (ho:o.op= .buildSlice t m parts) (hp:tk E g a ps parts.toList) (h:ta X b s t m ps K):
  ∃ v w',(execOp a.eval o).run X.P w= .ok (.value v) w'/\Out n W F b E g a K v w':=by
 unfold ta at h;split at h;exact HW S ho hp h
 .rename_i et e ie SO;obtain ⟨ht,ku,kr⟩:=Zm SO;split at h
  .cases h
  .rename_i z hz;obtain ⟨i',z0,Y3,As,hzc⟩:=Ep (E:=E) (g:=g) hz;rw [ku] at Y3;obtain rfl:=aj Y3;obtain ⟨CY,h⟩:=cZ h;rw [ao,ao] at CY;obtain ⟨⟨um,CZ⟩,hc3⟩:=CY;have hsm:m*ie.size<=16777216:=cH um;have hzs:z0.cells.size=ie.size:=by
    have:=hzc.length;rw [dq] at this;rw [this];exact ai hc3
   have hm0:m*ie.size=0->m=0:=λh0=>by
    rcases Nat.mul_eq_zero.1 h0 with h| h;exact h
    .rw [h] at CZ;simpa using CZ
   split at h;cases h
   .rename_i cs hf;obtain ⟨tu,h1,h2⟩:=xb hf hp (xR hzc m);have Ef:(parts.map λ(i,x)=>(i,a.eval x)).toList=parts.toList.map λq=>(q.1,a.eval q.2):=by rw [Array.toList_map]
    have hr:(Instr.buildSlice t m (parts.map λ(i,x)=>(i,a.eval x))).run X.P w= .ok (.slice (some ⟨w.heap.size,0,none⟩) m m) (w.alloc (.cells tu.toArray et)):=by
     by_cases h0:m*ie.size=0
     .obtain rfl:=hm0 h0;have h1':Instr.fill (λi=>some (i*ie.size,ie.size)) #[] (parts.toList.map λq=>(q.1,a.eval q.2))=some tu.toArray:=h1;have As:(Array.map (λ(_:Nat)=>(default:Value)) (Array.range 0))= #[]:=by simp
      simp [Instr.buildSlice,run_underlying ht,sizeOf,typeInfo,ku,newRow,As,h1']
     .refine run_buildSlice w t et m _ tu.toArray ie z0 ht ku As (by omega) h0 ?_;rw [Ef];have sO:0< z0.cells.size:=by
       rw [hzs];rcases Nat.eq_zero_or_pos ie.size with h| h;rw [h] at h0;simp at h0;exact h
      have:=FX m z0.cells sO;rw [hzs] at this;rw [hzs,this];exact h1
    have gG:(execOp a.eval o).run X.P w= .ok (.value (.slice (some ⟨w.heap.size,0,none⟩) m m)) (w.alloc (.cells tu.toArray et)):=by
     simp only [execOp,ho,Sem.run_bind,hr,Result.andThen_ok];rfl
    obtain ⟨g',s',xC,m',S',h3,h⟩:=gH S h2 h;cases yL:MA e m xC with
    | none=>rw [yL] at h;exact h.elim
    | some xs=>
    rw [yL] at h;obtain ⟨css,h4,h5,h6⟩:=Mz m yL h3;have H:=S'.sat.sl.new (xy.mk' w (.cells tu.toArray et));have J1:m<=maxLen:=by
     unfold maxLen;rcases Nat.eq_zero_or_pos ie.size with h| h;have:=hm0 (by rw [h];rfl);omega;have:=Nat.le_mul_of_pos_right m h;omega
    have H2:=ai8 H h4 h5 h6 J1;refine ⟨_,_,gG,E++ [.slice (some ⟨w.heap.size,0,none⟩) m m],g',_,_,bw.app E _,m',S'.new (v:=.slice (some ⟨w.heap.size,0,none⟩) m m) (bx.refl g') ?_,(show df _ g' (.c (.o s'.n)) _ from ⟨dX S' _,_,_,_,rfl⟩),h⟩;exact H2.cz λk ⟨k1,k2,ap,q,s1,s2⟩=>⟨k1,k2,ap,q,⟨_,dX S' _,s1⟩,s2⟩
theorem BX {P:Program} {src dst e:TypeId} {z:ByteArray} (hs:P.underlying src=some .string) (hd:P.underlying dst=some (.slice e)) (he:P.underlying e=some (.int .u8)) (hz:z.size<=maxLen):
  ∃ v w',(convert src dst (.string z)).run P w= .ok v w'/\Le w w'/\nY .u8 (oE g w w') v z.data.toList:=by
 have hr:=run_bytes_of_string (P:=P) w src dst e z hs hd he;generalize hW:w.drew.alloc (.cells (bytesRow z (grownCap w z.size 0 e)) e ((bytesRow z (grownCap w z.size 0 e)).size,(bytesRow z (grownCap w z.size 0 e)).size+1))=w1 at hr;have hle:Le w w1:=by rw [<-hW];exact (Le.drew w).trans (xy.mk' w.drew _).le
 refine ⟨_,w1,hr,hle,?_⟩;have hlen:z.data.toList.length=z.size:=by rw [dq];rfl
 refine (dv (α:=UInt8)).2 (.inr ⟨⟨w.heap.size,0,none⟩,grownCap w z.size 0 e,by rw [hlen],by rw [hlen];exact grownCap_ge w z.size 0 e,grownCap_le_maxLen w z.size 0 e (by unfold maxLen at hz ⊢;omega),λi x hx=>⟨[.int .u8 x.toNat],λj c hj=>?_,rfl⟩⟩);rw [Addr.add_mid,GK _ (ay _)]
 match j,hj with
 | 0,hj=>
  obtain rfl:c= .int .u8 x.toNat:=by simpa using hj.symm
  have hi:i< z.data.toList.length:=(au.1 hx).1;have hc:(bytesRow z (grownCap w z.size 0 e))[i]?=some (.int .u8 x.toNat):=by
   unfold bytesRow;have hi2:i< z.data.size:=by simpa using hi
   rw [jW (by simpa using hi2),Array.getElem?_map];have:z.data[i]?=some x:=by simpa using hx
   rw [this];rfl
  simp only [aO.size,Nat.mul_one,jP];have hh:w1.heap[w.heap.size]?=some (.cells (bytesRow z (grownCap w z.size 0 e)) e ((bytesRow z (grownCap w z.size 0 e)).size,(bytesRow z (grownCap w z.size 0 e)).size+1)):=by rw [<-hW];exact heap_alloc_new w.drew _
  unfold World.cell?;simp only [hh];rw [bW];exact hc
end
section
variable {P:Program} {W:cQ} {g w w':World} {l:List Atom}
theorem SL.aia {b:Nat} {cs:Array Value} {t:TypeId} {r:Nat×Nat} (H:SL W g w (obj b (.cells cs t r)::l)):∃ g',bx g g'/\SL W g' w l/\(∀ i,g'.cell? ⟨b,i,none⟩=cs[i]?):=by
 obtain ⟨hW,hw,hn⟩:=H.Eg;obtain ⟨h,be,s,o,h1,h2,ap,rfl,s1,s2⟩:=H;have eK:b< w.heap.size:=(aQ.1 hw).1;have m:bx g (rm g w.heap.size b (.cells cs t r)):=λa v hv=>by
  have gx:a.block≠b:=λe=>by rw [hn a e] at hv;cases hv
  rw [jz s.size a gx];exact hv
 have hc:∀ (i:Nat) (sp),(rm g w.heap.size b (.cells cs t r)).cell? ⟨b,i,sp⟩=w.cell? ⟨b,i,sp⟩:=λi sp=>by
  unfold World.cell? rm;rw [hw];simp [eK]
 refine ⟨rm g w.heap.size b (.cells cs t r),m,⟨h2,be,⟨⟨by simp [rm],λa v hv=>?_⟩,λa ha=>?_⟩,λk x hx=>?_,s2.mono m⟩,λi=>?_⟩
 .by_cases e:a.block=b
  .have:a=⟨b,a.off,a.spot⟩:=by cases a;simp_all
   rw [this] at hv ⊢;rw [hc] at hv;exact hv
  .rw [jz s.size a e] at hv;exact s.mono a v hv
 .have gx:a.block≠b:=λe=>by
   have h1:W.n<=b:=hW;unfold cQ.n at h1;omega
  rw [jz s.size a gx];exact s.agr a ha
 .have h1k:h1 k=none:=by
   rcases ap k with e| e;exact e;rw [e] at hx;cases hx
  obtain ⟨o1,o2,o3⟩:=o k x (by rw [Hp.mj h1k];exact hx);refine ⟨o1,o2,λa ha=>?_⟩;have hkb:k≠b:=λe=>by
   subst e;rw [show h1 k=some _ from s1] at h1k;cases h1k
  rw [jz s.size a (by rw [ha];exact hkb)];exact o3 a ha
 .rw [hc];unfold World.cell?;rw [hw];simp
theorem Ak {b n c:Nat} {cs:Array Value} {t e:TypeId} (hb:Ht w b cs e) (ht:P.underlying t=some (.slice e)) (he:P.underlying e=some (.int .u8)):
  ∃ w',(convert t t (.slice (some ⟨b,0,none⟩) n c)).run P w= .ok (.slice (some ⟨b,0,none⟩) n c) w'/\qh w b (.cells cs e (cs.size,cs.size+1)) w':=by
 have eK:b< w.heap.size:=(aQ.1 hb).1;have hg:w.heap[b]= .cells cs e (0,0):=(aQ.1 hb).2;have hsh:w.shape? b=some (e,cs.size):=by
  unfold World.shape?;rw [show w.heap[b]?=some (.cells cs e (0,0)) from hb]
 refine ⟨w.freeze ⟨b,cs.size,none⟩ 1,?_,?_,eK⟩;simp [convert,run_underlying ht,run_underlying he,markStringish,hsh]
 .unfold World.freeze;rw [if_neg (by decide)];congr 1;apply Array.ext
  .simp
  .intro i h1 h2;rw [Array.getElem_modify];by_cases h:b=i
   .subst h;simp [hg]
   .rw [if_neg h,Array.getElem_setIfInBounds_ne _ h]
end
section
variable {X:Vx} {n:Nat} {W:cQ} {F:List Atom} {b:Bs} {E:Env} {g w:World} {s:Ov} {a:Act} {o:Oper}
theorem acJ {α:Type} [aO α] {P:Program} {W:cQ} {g w:World} {l:List Atom} {t e:TypeId} {v:Value} {xs:List α} (H:SL W g w (BK e v xs::l)) (hx:xs≠ []) (ht:P.underlying t=some (.slice e)) (he:P.underlying e=some (.int .u8)):
  ∃ w' g',(convert t t v).run P w= .ok v w'/\bx g g'/\SL W g' w' l/\Is g' v xs:=by
 obtain ⟨cs,r,H1⟩:=H.pj;rcases H1.ofRow with ⟨rfl,hn,_,H2⟩| ⟨k,cap,cur,rfl,h1,h2,h3,h4,H2⟩;exact absurd (aJ hn) hx
 .obtain ⟨w',hr,u⟩:=Ak (n:=xs.length) (c:=cap) (H2.oP 0) ht he;obtain ⟨g',m,H3,hc⟩:=(H2.BB 0 u).aia;refine ⟨w',g',hr,m,H3,dv.2 (.inr ⟨⟨k,0,none⟩,cap,rfl,h1,h2,λi x hx=>?_⟩)⟩;obtain ⟨c,hr2,Jp⟩:=r.get i x hx;refine ⟨c,λj v hj=>?_,aO.mono m hr2⟩;rw [Addr.add_mid,hc];have h5:=Jp j v hj;rw [<-h4,ez] at h5;split at h5
  .simpa using h5
  .cases h5
theorem XS (S:dg n W F b E g w s a) {src dst e e0:TypeId} {l:Nat} {x:Operand} {K:SV->Ov->Prop} (ho:o.op= .convert src dst x) (hs:X.P.underlying src=some (.slice e0)) (hd:X.P.underlying dst=some (.slice e)) (r:cr E g (.o l) (a.eval x)) (h:adj X b s src dst e l K):
  ∃ v w',(execOp a.eval o).run X.P w= .ok (.value v) w'/\Out n W F b E g a K v w':=by
 unfold adj at h;obtain ⟨hsd,h1⟩:=cZ h;clear h;have hsd:=ai hsd;subst hsd;cases he:X.P.underlying e with
 | none=>rw [he] at h1;exact h1.elim
 | some d=>
  rw [he] at h1;split at h1
  .rename_i hde;have hde:=aj hde;subst hde;cases eh:b.obj s l with
   | sl et ety xs=>
    rw [eh] at h1;simp only at h1;obtain ⟨het,h2⟩:=cZ h1;clear h1;have het:=ai het;subst het;cases hy:zf .u8 xs with
    | none=>rw [hy] at h2;exact h2.elim
    | some ys=>
     rw [hy] at h2;obtain ⟨q,e1⟩:=ev hy;subst q;subst e1;obtain ⟨hx,hk⟩:=h2;letI:=Ty.u8.rep;obtain ⟨w',g',hr,m,H1,hi⟩:=acJ (α:=Ty.u8.den) (jN S r.1 eh) hx hd he;exact ⟨_,w',by simp [execOp,ho,hr],E,g',s.dS l .gone,_,bw.refl E,m,S.back r.1 .gone m (H1.cz λk s2=>⟨λ_=>none,k,λ_=>.inl rfl,rfl,trivial,s2⟩),(show df E g' (.c (.d .u8 _)) _ from hi),hk⟩
   | _=>rw [eh] at h1;exact h1.elim
  .exact h1.elim
theorem UJ (S:dg n W F b E g w s a) {src dst:TypeId} {x:Operand} {c:SV} {K:SV->Ov->Prop} (ho:o.op= .convert src dst x) (r:df E g c (a.eval x)) (h:oH X b s src dst c K):
  ∃ v w',(execOp a.eval o).run X.P w= .ok (.value v) w'/\Out n W F b E g a K v w':=by
 have same:∀ {v:Value} {sv:SV},(convert src dst (a.eval x)).run X.P w= .ok v w->df E g sv v->K sv s->∃ v w',(execOp a.eval o).run X.P w= .ok (.value v) w'/\Out n W F b E g a K v w':=λ{v sv} h1 h2 h3=>
  ⟨v,w,by simp [execOp,ho,h1],E,g,s,sv,bw.refl E,bx.refl g,S,h2,h3⟩
 unfold oH at h;split at h
 .rename_i k1 k k' m hs hd;obtain ⟨hx,hm⟩:=gS r;have hr:(convert src dst (a.eval x)).run X.P w= .ok (.int k (k.wrap m)) w:=by
   simp [convert,hx,run_underlying hs,run_underlying hd,Conv.intToInt]
  split at h
  .rename_i hk;obtain rfl:=IntKind.eq_of_beq hk;rw [pF hm] at hr;exact same hr (dB hm) h
  .split at h
   .rename_i hw;have hn:=Es hw hm;rw [pF hn] at hr;exact same hr (dB hn) h
   .exact same hr (dB (eu _ _)) (h (eu _ _))
 .rename_i z hs hd;obtain ⟨hx,hz⟩:=r;refine same (v:=.string z) (sv:=.str z) (by simp [convert,hx,run_underlying hs,run_underlying hd]) ⟨rfl,hz⟩ h
 .rename_i k k1 m hs hd;obtain ⟨hx,_⟩:=gS r;obtain ⟨hl,h⟩:=h;refine same (v:=.string (Utf8.encode m)) (sv:=.str (Utf8.encode m)) ?_ ⟨rfl,hl⟩ h;simp [convert,hx,run_underlying hs,run_underlying hd,Conv.intToString]
 .rename_i e z hs hd;obtain ⟨hx,hz⟩:=r;split at h
  .rename_i he;obtain ⟨v,w',h1,h2,h3⟩:=BX (P:=X.P) (g:=g) (w:=w) hs hd he hz;have m:=C0 S.sat.sl.uf h2;refine ⟨v,w',by simp [execOp,ho,hx,h1],E,oE g w w',s,_,bw.refl E,m,⟨S.size,S.defers,λt u hu=>(S.fr t u hu).mono (bw.refl E) m,⟨S.sat.sl.acU h2,S.sat.len⟩,S.top⟩,(show df E _ (.c (.d .u8 z.data.toList)) v from h3),h⟩
  .cases h
 .rename_i e y hs hd;split at h
  .rename_i he;split at h
   .rename_i l hl;obtain ⟨_,hi⟩:=tO S r hl;have hr:=BR (l:=l) hi hs he hd;refine same hr (sv:=.str (fD l)) ⟨rfl,?_⟩ h;have:=lM hi;show (fD l).size<=maxLen;have e2:(fD l).size=l.length:=by simp [fD,ByteArray.size]
    rw [e2];exact this
   .cases h
  .cases h
 .rename_i hs hd;exact XS S ho hs hd r h
 .cases h
theorem RQ {mn:Bool} {x y:Operand} {t u:TypeId} {c d:SV} {K:SV->Prop} (ho:o.op= .call {callee:=.builtin (if mn then .min else .max),args:= #[x,y],argTypes:= #[t,u]}) (rx:df E g c (a.eval x)) (ry:df E g d (a.eval y)) (h:mmV mn c d K):ER X.P o a w E g K:=by
 unfold mmV at h;split at h
 .rename_i k m k' m';obtain ⟨hx,h1⟩:=gS rx;obtain ⟨hy,h2⟩:=gS ry;obtain ⟨hk,h0⟩:=cZ h;obtain rfl:=IntKind.eq_of_beq hk;have h3:∀ q,q=m\/q=m'->aF k q:=λq hq=>by rcases hq with rfl| rfl<;>assumption
  cases mn;exact ⟨_,_,al9 ho hx hy,dB (h3 _ (by omega)),h0⟩;exact ⟨_,_,al8 ho hx hy,dB (h3 _ (by omega)),h0⟩
 .cases h
end
section
variable {X:Vx} {n:Nat} {W:cQ} {F F':List Atom} {b:Bs} {E:Env} {g g' w w':World} {s:Ov} {a:Act} {o:Oper}
theorem yR:∀ {A B:List Atom} {l:Nat},l< A.length->dC (A++B) l=dC A l++B
 | _::_,_,0,_=>rfl
 | x::A,B,l+1,h=>by
  show x::dC (A++B) l=x::(dC A l++B);rw [yR (by simpa using h)]
theorem GG (S:dg n W F b E g w s a) {l:Nat} {v:Value} (h:E[l]?=some v):l< (bj E 0 (b.heap s)).length:=by
 rw [uN,dN];exact S.lt h
theorem dg.alH (S:dg n W F b E g w s a) {l:Nat} {v:Value} (h:E[l]?=some v) {A:Atom} (m:bx g g') (H:SL W g' w' (A::dC (bj E 0 (b.heap s)++F) l)):dg n W (A::F) b E g' w' (s.dS l .gone) a:=by
 have hl:=S.lt h;refine ⟨S.size,S.defers,λt v hv=>(S.fr t v hv).mono (bw.refl E) m,⟨?_,by rw [S.len,dN];rfl⟩,λk hk=>?_⟩
 .rw [je hl];refine H.cz λk s1=>?_;rw [yR (GG S h)] at s1;have s2:=bq.toEnd s1;have hn:wI (bj E 0 (b.heap s)++(A::F)) l=some (cF E l (b.obj s l)):=by
   have:=jG (E:=E) (F:=A::F) (k:=0) (eM (b:=b) hl)
   rwa [bW] at this
  have s3:bq g' (sE True::dC (bj E 0 (b.heap s)++(A::F)) l) k:=by
   rw [yR (GG S h)];exact ⟨λ_=>none,k,λ_=>.inl rfl,rfl,trivial,s2⟩
  have h3:=kE (E:=E) (F:=A::F) (k:=0) (o':=.gone) (l:=l) (H:=b.heap s) (by rw [dN];exact hl);rw [bW] at h3;rw [<-h3];exact bq.oc hn s3
 .rw [ja,if_neg (by have:s.n<=k:=hk;omega)];exact S.top k hk
end
section
variable {X:Vx} {n:Nat} {W:cQ} {F:List Atom} {b:Bs} {E:Env} {g w:World} {s:Ov} {a:Act} {o:Oper}
theorem AK {P:Program} {t:TypeId} {k:Kk} (h:jT P t k=true): @xA P t k.den k.key:=by
 unfold jT at h;split at h
 .rename_i hu;exact wR hu
 rename_i hu;exact YG hu;cases h
theorem adm {P:Program} {t:TypeId} {k:Kk} (h:ahR P t=some k):jT P t k=true:=by
 unfold ahR at h;unfold jT;split at h
 .rename_i hu;cases h;rw [hu]
 rename_i hu;cases h;rw [hu];cases h
theorem CO:∀ {k:Kk} {c:Cl} {x:k.den} {u:Value},wT k c=some x->cr E g c u->u= @dF.val k.den k.key x/\ @dF.ok k.den k.key x
 | .int,c,x,u,h,r=>by
  dsimp only [wT] at h;split at h
  .cases h;obtain ⟨rfl,h2⟩:=r;exact ⟨rfl,inK_wf.1 h2⟩
  .cases h
 | .str,c,x,u,h,r=>by
  dsimp only [wT] at h;split at h
  .cases h;obtain ⟨rfl,h2⟩:=r;exact ⟨rfl,h2⟩
  .cases h
theorem acQ {e:Ty} {v:S1} {x:e.den} {u:Value} (h:akH e v=true) (hu:bA E g v.cells u.cells.toList) (r:gm E g v u) {cs:List Cl} (wY:bA E g cs u.cells.toList) (ho:e.of cs=some (x,[])):IsV g e u x:=by
 obtain ⟨u1,u2,e1,h1,h2⟩:=of_cells e ho wY;obtain rfl:u2= []:=h2;rw [aW] at e1;subst e1;cases v with
 | agg l=>
  have h:e.row=true:=h;obtain ⟨us,_,rfl⟩:=r;refine ⟨_,h1,?_⟩;rw [if_pos h];rfl
 | c c=>
  have h:(!e.row)=true:=h;have hr:cr E g c u:=r;refine ⟨_,h1,?_⟩;rw [if_neg (by simpa using h),nM hr.one]
theorem acP {e:Ty} {x:e.den} {r:S1} {u:Value} (h:ahB e x=some r) (hv:IsV g e u x):gm E g r u/\e.ok x:=by
 obtain ⟨cs,h1,h2⟩:=hv;obtain ⟨h3,h4⟩:=eY E g e h1;refine ⟨?_,h4⟩;unfold ahB at h;split at h
 .rename_i hr;rw [if_pos hr] at h2;cases h;exact ⟨cs,h3,h2⟩
 .rename_i hr;rw [if_neg hr] at h2;split at h
  .rename_i c hc;cases h;rw [hc,h2] at h3;obtain ⟨u',r',e1,h5,h6⟩:=h3;obtain rfl:u=u':=by simpa using (List.cons.inj e1).1
   exact h5
  .cases h
theorem adU {P:Program} {t:TypeId} {e:Ty} {x:e.den} (h:aiC P t e=some x):∃ z,(zeroValue t).run P w= .ok z w/\IsV g e z x:=by
 unfold aiC at h;split at h
 .rename_i i hi;split at h
  .rename_i z hz;split at h
   .rename_i hzo;split at h
    .rename_i zl Of;split at h
     .rename_i y hy;cases h;have hc:bA ([]:Env) g zl z.cells.toList:=kY Of;obtain ⟨u1,u2,e1,h1,h2⟩:=of_cells e hy hc;obtain rfl:u2= []:=h2;rw [aW] at e1;refine ⟨z,?_,u1,h1,?_⟩
      .simp [zeroValue,typeInfo,hi,hz,go_sem]
      .unfold zOk at hzo;split at hzo
       .rename_i cs;rw [if_pos hzo,<-e1];show Value.agg cs= .agg cs.toList.toArray;simp
       .simp only [ao,bY] at hzo;rw [if_neg (by rw [hzo.1];simp),<-e1,nM hzo.2]
     .cases h
    .cases h
   .cases h
  .cases h
 .cases h
theorem CH {k:Kk} {e:Ty} (x:k.den):∀ {l:List (k.den×Value)} {xs:List (k.den×e.den)},rG g k e l xs->match @iC k.den k.key _ l x,k.get xs x with
  | some u,some y=>IsV g e u y
  | none,none=>True
  | _,_=>False
 | [],xs,h=>by
  rw [show xs= [] from h];trivial
 | p::l,xs,⟨y,r,q,h1,h2⟩=>by
  letI:=k.key;subst q;have ih:=CH x h2;have e1: @iC k.den k.key _ (p::l) x=if p.1=x then some p.2 else @iC k.den k.key _ l x:=by
   unfold iC;rw [List.find?_cons];by_cases e:p.1=x<;>simp [e]
  have e2:k.get ((p.1,y)::r) x=if p.1=x then some y else k.get r x:=by
   unfold Kk.get iC;rw [List.find?_cons];by_cases e:p.1=x<;>simp [e]
  rw [e1,e2];by_cases e:p.1=x;rw [if_pos e,if_pos e];exact h1;rw [if_neg e,if_neg e];exact ih
theorem Gl {k:Kk} {e:Ty} (x:k.den):∀ {l:List (k.den×Value)} {xs:List (k.den×e.den)},rG g k e l xs->rG g k e (@mF k.den k.key _ l x) (k.del xs x)
 | [],xs,h=>by
  rw [show xs= [] from h];rfl
 | p::l,xs,⟨y,r,q,h1,h2⟩=>by
  letI:=k.key;subst q;have ih:=Gl x h2;unfold Kk.del mF at ih ⊢;rw [lU,lU];by_cases e:p.1=x
  .simp only [e,decide_true,Bool.not_true,eR,if_false];exact ih
  .simp only [e,decide_false,Bool.not_false,if_true];exact ⟨y,_,rfl,h1,ih⟩
theorem OM {t:TypeId} {x:Operand} {c:Cl} {K:SV->Prop} (ho:o.op= .makeInterface t x) (rx:cr E g c (a.eval x)) (h:PF X.P t c K):ER X.P o a w E g K:=by
 unfold PF at h;split at h;cases h
 .rename_i d gx hd;refine ⟨.iface t (a.eval x),.c (.AM t c),?_,⟨a.eval x,rx,rfl⟩,h⟩;have:(Instr.makeInterface t (a.eval x)).run X.P w= .ok (.iface t (a.eval x)) w:=by
   cases d<;>first| (exact (gx _ rfl).elim)| simp [Instr.makeInterface,run_underlying hd]
  simp [execOp,ho,this]
 .cases h
theorem J4 {t:TypeId} {z:SV} (h:zeroV X.P t=some z):∃ v,(zeroValue t).run X.P w= .ok v w/\df E g z v:=by
 unfold zeroV at h;split at h
 .rename_i i hi;split at h
  .rename_i z0 hz;exact ⟨z0,by simp [zeroValue,typeInfo,hi,hz,go_sem],GY h⟩
  .cases h
 .cases h
theorem LW {t t0:TypeId} {x:Operand} {c:Cl} {K:SV->Prop} (ho:o.op= .typeAssert x t0 t true) (rx:cr E g c (a.eval x)) (h:JL X.P t c K):ER X.P o a w E g K:=by
 unfold JL at h;split at h;cases h
 .rename_i d gx hd;have two:∀ {z:S1} {v:Value} {q:Bool},gm E g z v->df E g (.cJ [z,.c (.k (.bool q))]) (.tuple #[v,.bool q]):=λ{z v q} r=>⟨[v,.bool q],⟨_,_,rfl,r,_,[],rfl,⟨rfl,rfl⟩,rfl⟩,rfl⟩;split at h
  .rename_i t' c';obtain ⟨v,h1,h2⟩:=rx;split at h
   .rename_i ht;obtain rfl:=ai ht;refine ⟨.tuple #[v,.bool true],_,?_,two (z:=.c c') h1,h⟩;have:(Instr.typeAssert (.iface t' v) t0 t' true).run X.P w= .ok (.tuple #[v,.bool true]) w:=by
     cases d<;>first| (exact (gx _ rfl).elim)| simp [Instr.typeAssert,run_underlying hd]
    simp [execOp,ho,h2,this]
   .rename_i ht;have anN:¬t'=t:=λe=>ht (by subst e;simp);split at h
    .rename_i z hz;obtain ⟨u,hu,hr⟩:=J4 (w:=w) (E:=E) (g:=g) hz;refine ⟨.tuple #[u,.bool false],_,?_,two hr,h⟩;have:(Instr.typeAssert (.iface t' v) t0 t true).run X.P w= .ok (.tuple #[u,.bool false]) w:=by
      cases d<;>first| (exact (gx _ rfl).elim)| simp [Instr.typeAssert,run_underlying hd,anN,hu]
     simp [execOp,ho,h2,this]
    .cases h
  .obtain ⟨hx,_⟩:=rx;split at h
   .rename_i z hz;obtain ⟨u,hu,hr⟩:=J4 (w:=w) (E:=E) (g:=g) hz;refine ⟨.tuple #[u,.bool false],_,?_,two hr,h⟩;have:(Instr.typeAssert .nilIface t0 t true).run X.P w= .ok (.tuple #[u,.bool false]) w:=by
     cases d<;>first| (exact (gx _ rfl).elim)| simp [Instr.typeAssert,run_underlying hd,hu]
    simp [execOp,ho,hx,this]
   .cases h
  .cases h
 .cases h
theorem LX {t t0:TypeId} {x:Operand} {c:Cl} {K:SV->Prop} (ho:o.op= .typeAssert x t0 t false) (rx:cr E g c (a.eval x)) (h:JM X.P t c K):ER X.P o a w E g K:=by
 unfold JM at h;split at h;cases h
 .rename_i d gx hd;split at h
  .rename_i t' c';obtain ⟨v,h1,h2⟩:=rx;split at h
   .rename_i ht;obtain rfl:=ai ht;refine ⟨v,.c c',?_,h1,h⟩;have:(Instr.typeAssert (.iface t' v) t0 t' false).run X.P w= .ok v w:=by
     cases d<;>first| (exact (gx _ rfl).elim)| simp [Instr.typeAssert,run_underlying hd]
    simp [execOp,ho,h2,this]
   .cases h
  .cases h
 .cases h
theorem HT (S:dg n W F b E g w s a) {t:TypeId} {K:SV->Ov->Prop} (ho:o.op= .makeMap t none) (h:CI X s t K):∃ v w',(execOp a.eval o).run X.P w= .ok (.value v) w'/\Out n W F b E g a K v w':=by
 unfold CI at h;split at h
 .rename_i k et ht;split at h
  .rename_i kk e hk he;letI:=kk.key;refine ⟨_,_,zj ho,_,g,_,_,bw.app E [ptr w.heap.size 0],bx.refl g,S.new (v:=ptr w.heap.size 0) (bx.refl g) ?_,(show df _ g (.c (.m s.n)) _ from ⟨w.heap.size,dX S _,rfl⟩),h⟩;have H:=S.sat.sl.Pv (P:=X.P) (k:=k) (κ:=kk.den) (xy.mk' w (.map #[] 0));exact H.cz λq ⟨k1,k2,ap,q2,s1,s2⟩=>⟨k1,k2,ap,q2,⟨w.heap.size,[],dX S _,rfl,X.P,adm hk,s1⟩,s2⟩
  .split at h
   .rename_i q hk3 _;refine ⟨_,_,zj ho,_,g,_,_,bw.app E [ptr w.heap.size 0],bx.refl g,S.new (v:=ptr w.heap.size 0) (bx.refl g) ?_,(show df _ g (.c (.m s.n)) _ from ⟨w.heap.size,dX S _,rfl⟩),h⟩;have H:=S.sat.sl.Pv (P:=X.P) (k:=k) (κ:=K3) (xy.mk' w (.map #[] 0));exact H.cz λq ⟨k1,k2,ap,q2,s1,s2⟩=>⟨k1,k2,ap,q2,⟨_,dX S _,(w.heap.size,X.P),λ_=>none,k1,λ_=>.inl rfl,rfl,⟨rfl,hk3⟩,k1,λ_=>none,λ_=>.inr rfl,by funext z;unfold Hp.join;cases k1 z<;>rfl,s1,trivial⟩,s2⟩
   .split at h
    .rename_i tR e _;have hQ:=cZ h;obtain ⟨hk,h⟩:=hQ;refine ⟨_,_,zj ho,_,g,_,_,bw.app E [ptr w.heap.size 0],bx.refl g,S.new (v:=ptr w.heap.size 0) (bx.refl g) ?_,(show df _ g (.c (.m s.n)) _ from ⟨w.heap.size,dX S _,rfl⟩),h⟩;have H:=S.sat.sl.Pv (P:=X.P) (k:=k) (κ:=Int) (xy.mk' w (.map #[] 0));exact H.cz λq ⟨k1,k2,ap,q2,s1,s2⟩=>⟨k1,k2,ap,q2,⟨_,dX S _,(w.heap.size,X.P),λ_=>none,k1,λ_=>.inl rfl,rfl,⟨rfl,lK hk⟩,k1,λ_=>none,λ_=>.inr rfl,by funext z;unfold Hp.join;cases k1 z<;>rfl,s1,trivial⟩,s2⟩
    .cases h
 .cases h
theorem Po {t:TypeId} (h:I0 X.P t=true):(zeroValue t).run X.P w= .ok (.pointer none) w:=by
 unfold I0 at h;split at h
 .rename_i i hi;split at h
  .rename_i hz;simp [zeroValue,typeInfo,hi,hz,go_sem]
  .cases h
 .cases h
theorem LP (S:dg n W F b E g w s a) {t:TypeId} {x y:Operand} {c:Bool} {mx ky:Cl} {K:SV->Prop} (ho:o.op= .lookup t x y c) (rx:cr E g mx (a.eval x)) (ry:cr E g ky (a.eval y)) (h:Jb X b s t mx ky c K):ER X.P o a w E g K:=by
 unfold Jb at h;split at h
 .rename_i k et ht;split at h
  .rename_i l;obtain ⟨bb,hE,hx⟩:=rx;split at h
   .rename_i k' kk e xs eh;obtain ⟨hk,h5⟩:=cZ h;rw [ao] at hk;obtain ⟨tV,qP⟩:=hk;obtain rfl:=ai tV;split at h5
    .rename_i z q hz hq;have h6:=h5;split at h6
     .rename_i r hr;obtain ⟨m,h1,H⟩:=Qz S hE eh qP;letI:=kk.key;obtain ⟨hy,tU⟩:=CO hq ry;obtain ⟨zv,hzr,hzi⟩:=adU (w:=w) (g:=g) hz;have hl:=H.adi c (AK qP) ht hzr q tU;have hf:=CH (e:=e) q h1;have hv:IsV g e ((iC m q).getD zv) ((kk.get xs q).getD z)/\(iC m q).isSome=(kk.get xs q).isSome:=by
       revert hf;cases iC m q<;>cases kk.get xs q<;>intro hf;exact ⟨hzi,rfl⟩;exact hf.elim;exact hf.elim;exact ⟨hf,rfl⟩
      obtain ⟨h2,h3⟩:=acP (E:=E) hr hv.1;have hK:=h6 h3;refine ⟨_,_,xu ho hx hy hl,?_,hK⟩;cases c with
      | true=>
       refine ⟨[_,_],⟨_,_,rfl,h2,_,[],rfl,?_,rfl⟩,rfl⟩;rw [hv.2];exact (show gm E g (.c (.k (.bool _))) _ from ⟨rfl,rfl⟩)
      | false=>exact h2
     .exact h6.elim
    .exact h5.elim
   .cases h
  .cases h
 .cases h
theorem zF (S:dg n W F b E g w s a) {t:TypeId} {x y z:Operand} {mx ky:Cl} {v:S1} {K:Ov->Prop} (ho:o.op= .mapUpdate t x y z) (rx:cr E g mx (a.eval x)) (ry:cr E g ky (a.eval y)) (rz:gm E g v (a.eval z)) (h:wM X b s t mx ky v K):
  ∃ w',(execOp a.eval o).run X.P w= .ok .skip w'/\∃ g' s',bx g g'/\dg n W F b E g' w' s' a/\K s':=by
 unfold wM at h;split at h
 .rename_i k et ht;split at h
  .rename_i l;obtain ⟨bb,hE,hx⟩:=rx;obtain ⟨g1,s1,cs,m1,S1,wY,h⟩:=gH S rz.cells h;split at h
   .rename_i k' kk e xs eh;obtain ⟨hk,h5⟩:=cZ h;simp only [ao] at hk;obtain ⟨⟨tV,qP⟩,hk3⟩:=hk;obtain rfl:=ai tV;split at h5
    .rename_i q x' hq hof;obtain ⟨hlen,h6⟩:=h5;obtain ⟨m,h1,H⟩:=Qz S1 hE eh qP;letI:=kk.key;obtain ⟨hy,tU⟩:=CO hq ry;obtain ⟨w',hr,H2⟩:=H.Pu (AK qP) ht (by rw [h1.length];exact hlen) q tU (a.eval z);have hiv:IsV g1 e (a.eval z) x':=acQ (E:=E) hk3 (rz.cells.mono (bw.refl E) m1) (rz.mono (bw.refl E) m1) wY hof;have S2:dg n W F b E g1 w' (s1.dS l (.map k kk e (kk.put xs q x'))) a:=S1.back hE _ (bx.refl g1) (H2.cz λq0 ⟨k1,k2,ap,q2,s1',s2⟩=>⟨k1,k2,ap,q2,(show (cF E l (.map k kk e (kk.put xs q x'))).sat g1 k1 from ⟨bb,qL m q (a.eval z),hE,⟨x',kk.del xs q,rfl,hiv,Gl q h1⟩,X.P,qP,s1'⟩),s2⟩);exact ⟨w',N4 ho hx hy rfl hr,g1,_,m1,S2,h6⟩
    .exact h5.elim
   .cases h
  .cases h
 .cases h
theorem LU (S:dg n W F b E g w s a) {t:TypeId} {x y z:Operand} {mx ky:Cl} {v:S1} {K:Ov->Prop} (ho:o.op= .insert t x y z) (rx:cr E g mx (a.eval x)) (ry:cr E g ky (a.eval y)) (rz:gm E g v (a.eval z)) (h:wM X b s t mx ky v K):
  ∃ w',(execOp a.eval o).run X.P w= .ok .skip w'/\∃ g' s',bx g g'/\dg n W F b E g' w' s' a/\K s':=by
 obtain ⟨w',h1,h2⟩:=zF (o:= {o with op:=.mapUpdate t x y z}) S rfl rx ry rz h;exact ⟨w',by rw [<-h1];simp [execOp,ho],h2⟩
end
def bC (E:Env) (g:World):List SV->List Value->Prop
 | [],us=>us= []
 | c::l,us=>∃ u r,us=u::r/\df E g c u/\bC E g l r
def WpW (W:cQ) (P:Program) (f:FuncId) (args:List SV) (H:List HO) (Q:SV->List HO->Prop):Prop:=
 ∀ (g w:World) (E:Env) (F:List Atom) (vs:List Value),Sat W E g w H F->bC E g args vs->
  Hs P f vs.toArray w λv w'=>∃ E' g' sv H',bw E E'/\bx g g'/\Sat W E' g' w' H' F/\df E' g' sv v/\Q sv H'
def Wp (I:cQ->Prop) (P:Program) (f:FuncId) (args:List SV) (H:List HO) (Q:SV->List HO->Prop):Prop:=∀ W,I W->WpW W P f args H Q
section
variable {W:cQ} {F:List Atom} {E E':Env} {g w:World}
def mH (r:Nat->Option Nat) (E E':Env):Prop:=∀ l l' v,r l=some l'->E[l]?=some v->E'[l']?=some v
mutual
theorem cr.fp {r:Nat->Option Nat} (hr:mH r E E'):∀ {c:Cl} {u:Value},cr E g c u->cr E' g (c.fp r) u
 | .k _,_,h=>h
 | .d _ _,_,h=>h
 | .de _ _ _ _,_,h=>h
 | .JX,_,h=>h
 | .p l off,u,h=>by
  have h1:=cr.one h;obtain ⟨b,h2,h3⟩:=h;unfold Cl.fp;cases hl:r l with
  | none=>exact h1
  | some l'=>exact ⟨b,hr _ _ _ hl h2,h3⟩
 | .o l,u,h=>by
  have h1:=cr.one h;obtain ⟨h2,h3⟩:=h;unfold Cl.fp;cases hl:r l with
  | none=>exact h1
  | some l'=>exact ⟨hr _ _ _ hl h2,h3⟩
 | .os l sz lo hi,u,h=>by
  have h1:=cr.one h;obtain ⟨v,h2,h3⟩:=h;unfold Cl.fp;cases hl:r l with
  | none=>exact h1
  | some l'=>exact ⟨v,hr _ _ _ hl h2,h3⟩
 | .oe l sz i off,u,h=>by
  have h1:=cr.one h;obtain ⟨v,h2,h3⟩:=h;unfold Cl.fp;cases hl:r l with
  | none=>exact h1
  | some l'=>exact ⟨v,hr _ _ _ hl h2,h3⟩
 | .m l,u,h=>by
  have h1:=cr.one h;obtain ⟨b,h2,h3⟩:=h;unfold Cl.fp;cases hl:r l with
  | none=>exact h1
  | some l'=>exact ⟨b,hr _ _ _ hl h2,h3⟩
 | .sc l off n,u,h=>by
  have h1:=cr.one h;obtain ⟨b,c,h2,h3⟩:=h;unfold Cl.fp;cases hl:r l with
  | none=>exact h1
  | some l'=>exact ⟨b,c,hr _ _ _ hl h2,h3⟩
 | .kl l v,u,h=>by
  have h1:=cr.one h;obtain ⟨⟨x,h2⟩,h3⟩:=h;unfold Cl.fp;cases hl:r l with
  | none=>exact h1
  | some l'=>exact ⟨⟨x,hr _ _ _ hl h2⟩,h3⟩
 | .fn f caps,_,⟨us,h1,h2⟩=>⟨us,bA.fp hr h1,h2⟩
 | .AM t c,_,⟨v,h1,h2⟩=>⟨v,cr.fp hr h1,h2⟩
theorem bA.fp {r:Nat->Option Nat} (hr:mH r E E'):∀ {l:List Cl} {us:List Value},bA E g l us->bA E' g (Cl.wq r l) us
 | [],_,h=>h
 | _::_,_,⟨u,q,e,h1,h2⟩=>⟨u,q,e,cr.fp hr h1,bA.fp hr h2⟩
end
theorem gm.fp {r:Nat->Option Nat} (hr:mH r E E'):∀ {x:S1} {u:Value},gm E g x u->gm E' g (x.fp r) u
 | .c _,_,h=>cr.fp hr h
 | .agg _,_,⟨us,h1,h2⟩=>⟨us,bA.fp hr h1,h2⟩
theorem gW.fp {r:Nat->Option Nat} (hr:mH r E E'):∀ {l:List S1} {us:List Value},gW E g l us->gW E' g (S1.wq r l) us
 | [],_,h=>h
 | _::_,_,⟨u,q,e,h1,h2⟩=>⟨u,q,e,gm.fp hr h1,gW.fp hr h2⟩
theorem df.fp {r:Nat->Option Nat} (hr:mH r E E'):∀ {x:SV} {u:Value},df E g x u->df E' g (x.fp r) u
 | .v _,_,h=>gm.fp hr h
 | .cJ _,_,⟨us,h1,h2⟩=>⟨us,gW.fp hr h1,h2⟩
 | .any,_,_=>trivial
 | .arr _ _,_,h=>h
theorem bC.fp {r:Nat->Option Nat} (hr:mH r E E'):∀ {l:List SV} {us:List Value},bC E g l us->bC E' g (l.map (·.fp r)) us
 | [],_,h=>h
 | _::_,_,⟨u,q,e,h1,h2⟩=>⟨u,q,e,df.fp hr h1,bC.fp hr h2⟩
theorem cF.fp {r:Nat->Option Nat} (hr:mH r E E') {l l':Nat} (hl:r l=some l'):∀ {o:HO} {h:Hp},(cF E l o).sat g h->(cF E' l' (o.fp r)).sat g h
 | .cells _ _,_,⟨b,us,h1,h2,h3⟩=>⟨b,us,hr _ _ _ hl h1,bA.fp hr h2,h3⟩
 | .sl _ _ _,_,⟨v,h1,h2⟩=>⟨v,hr _ _ _ hl h1,h2⟩
 | .held _ _ _,_,⟨v,h1,h2⟩=>⟨v,hr _ _ _ hl h1,h2⟩
 | .map ..,_,⟨b,m,h1,h2⟩=>⟨b,m,hr _ _ _ hl h1,h2⟩
 | .abs _,_,⟨v,h1,h2⟩=>⟨v,hr _ _ _ hl h1,h2⟩
 | .ab _,_,⟨v,h1,h2⟩=>⟨v,hr _ _ _ hl h1,h2⟩
 | .gone,_,h=>h
 | .qk k n,_,⟨v,vn,h1,h2,h3⟩=>by
  cases hn:r n with
  | none=>
   have e:(HO.qk k n).fp r= .gone:=by simp only [HO.fp,hn]
   rw [e];trivial
  | some n'=>
   have e:(HO.qk k n).fp r= .qk k n':=by simp only [HO.fp,hn]
   rw [e];exact ⟨v,vn,hr _ _ _ hl h1,hr _ _ _ hn h2,h3⟩
theorem bq.under {A:List Atom} {X Y:List Atom} (k:∀ h,bq g X h->bq g Y h):∀ {h:Hp},bq g (A++X) h->bq g (A++Y) h:=by
 induction A with
 | nil=>exact λs=>k _ s
 | cons a A ih=>exact λ⟨h1,h2,ap,e,s1,s2⟩=>⟨h1,h2,ap,e,s1,ih s2⟩
theorem bq.comm:∀ {A B:List Atom} {h:Hp},bq g (A++(B++F)) h->bq g (B++(A++F)) h
 | _,[],_,s=>s
 | A,b::B,_,s=>by
  obtain ⟨h1,h2,ap,e,s1,s2⟩:=bq.oZ (A:=A) (F:=B++F) s;exact ⟨h1,h2,ap,e,s1,bq.comm s2⟩
theorem bq.rV {H:List HO} {l:Nat} {o:HO} (ho:H[l]?=some o) {h:Hp} (s:bq g (bj E 0 H++F) h):bq g (cF E l o::(bj E 0 (H.set l .gone)++F)) h:=by
 have hn:=jG (E:=E) (F:=F) (k:=0) ho;rw [bW] at hn;obtain ⟨h1,h2,ap,e,s1,s2⟩:=bq.pick hn s;refine ⟨h1,h2,ap,e,s1,?_⟩;have h3:=kE (E:=E) (F:=F) (k:=0) (o':=.gone) (au.1 ho).1;rw [bW] at h3;rw [<-h3];exact bq.oc hn ⟨λ_=>none,h2,λ_=>.inl rfl,by funext b;rfl,trivial,s2⟩
theorem bq.D6 {H:List HO} {l:Nat} {o:HO} (hl:l< H.length) {h:Hp} (s:bq g (cF E l o::(bj E 0 H++F)) h):bq g (bj E 0 (H.set l o)++F) h:=by
 obtain ⟨h1,h2,ap,e,s1,s2⟩:=s;have hn:=jG (E:=E) (F:=F) (k:=0) (ak hl);rw [bW] at hn;have h3:=kE (E:=E) (F:=F) (k:=0) (o':=o) hl;rw [bW] at h3;rw [<-h3];obtain ⟨k1,k2,ap2,e2,_,s3⟩:=bq.pick hn s2
 -- what stood there is let go
 have:bq g (dC (bj E 0 H++F) l) h2:=by
  rw [e2];have key:∀ {L:List Atom} {k1 k2:Hp},Hp.apart k1 k2->bq g L k2->bq g L (k1.join k2):=by
   intro L
   induction L with
   | nil=>intros;trivial
   | cons a L ih=>
    rintro k1 k2 ap ⟨m1,m2,ap3,e3,s4,s5⟩;subst e3;obtain ⟨a1,a2⟩:=Hp.eP.1 ap;refine ⟨m1,k1.join m2,Hp.eP.2 ⟨a1.symm,ap3⟩,?_,s4,ih a2 s5⟩;rw [<-Hp.join_assoc,Hp.join_comm a1,Hp.join_assoc]
  exact key ap2 s3
 exact bq.oc hn ⟨h1,h2,ap,e,s1,this⟩
def iw (H:List HO):List Nat->List HO
 | []=>H
 | l::r=>(iw H r).set l .gone
theorem mE (H:List HO):∀ ls,(iw H ls).length=H.length
 | []=>rfl
 | _::r=>by unfold iw;rw [gE,mE H r]
theorem gw {l:Nat}:∀ {ls:List Nat},hZ l ls=true↔l∈ls
 | []=>by simp [hZ]
 | m::r=>by
  unfold hZ;by_cases e:l=m;subst e;simp
  .rw [ij e];simp [gw (ls:=r),e]
theorem jH:∀ {ls:List Nat},nt ls=true↔ls.Nodup
 | []=>by simp [nt]
 | l::r=>by
  unfold nt;rw [ao,jH (ls:=r),eB];constructor
  .rintro ⟨h1,h2⟩;refine ⟨λhm=>?_,h2⟩;rw [gw.2 hm] at h1;cases h1
  .rintro ⟨h1,h2⟩;refine ⟨?_,h2⟩;cases hm:hZ l r with
   | false=>rfl
   | true=>exact absurd (gw.1 hm) h1
theorem zV {H:List HO} {l:Nat}:∀ {ls:List Nat},l ∉ ls->(iw H ls)[l]?=H[l]?
 | [],_=>rfl
 | m::r,h=>by
  unfold iw;have h1:m≠l:=λe=>h (by simp [e]);rw [List.getElem?_set_ne h1,zV (λq=>h (aH _ q))]
def XJ (E:Env) (H:Nat->HO) (ls:List Nat):List Atom:=ls.map λl=>cF E l (H l)
theorem bq.qm {H:List HO} {ob:Nat->HO}:∀ {ls:List Nat} {h:Hp},ls.Nodup->(∀ l∈ls,H[l]?=some (ob l))->bq g (bj E 0 H++F) h->bq g (bj E 0 (iw H ls)++(XJ E ob ls++F)) h
 | [],_,_,_,s=>s
 | l::r,_,hn,ho,s=>by
  rw [eB] at hn;have s1:=bq.qm hn.2 (λq hq=>ho q (aH _ hq)) s;have s2:=bq.rV (F:=XJ E ob r++F) (o:=ob l) (by rw [zV hn.1];exact ho l (by simp)) s1;exact bq.toEnd s2
theorem bq.xM {ob:Nat->HO} {r:Nat->Option Nat} (hr:mH r E E') {X:List Atom}:∀ {ls:List Nat} {k:Nat} {h:Hp},(∀ i l,ls[i]?=some l->r l=some (k+i))->bq g (XJ E ob ls++X) h->bq g (bj E' k (ls.map λl=>(ob l).fp r)++X) h
 | [],_,_,_,s=>s
 | l::ls,k,_,hi,⟨h1,h2,ap,e,s1,s2⟩=>⟨h1,h2,ap,e,cF.fp hr (by have:=hi 0 l rfl;simpa using this) s1,bq.xM hr (k:=k+1) (λi m hm=>by
   have:=hi (i+1) m (by simpa using hm);rw [this];congr 1;omega) s2⟩
end
section
variable {W:cQ} {F:List Atom} {b:Bs} {E E' E2:Env} {g w:World} {n:Nat} {a:Act} {s:Ov}
theorem LJ {H:List HO} {l:Nat} {o:HO}:∀ {ls:List Nat},l ∉ ls->(iw H ls).set l o=iw (H.set l o) ls
 | [],_=>rfl
 | m::r,h=>by
  unfold iw;have h1:m≠l:=λe=>h (by simp [e]);rw [<-LJ (λq=>h (aH _ q)),List.set_comm _ _ h1]
theorem vD {ls0:List Nat} {n0:Nat} (hr:mH (jZ ls0 n0) E2 E'):∀ {ls:List Nat} {H:List HO} {s:Ov} {k:Nat} {h:Hp},ls.Nodup->ls.length<=H.length->(∀ i l,ls[i]?=some l->jZ ls0 n0 (k+i)=some l/\l< s.n)->(∀ i,jZ ls0 n0 (k+ls.length+i)=some (s.n+i))->
  bq g (bj E2 k H++(bj E' 0 (iw (b.heap s) ls)++F)) h->bq g (bj E' 0 (b.heap (fq ls0 n0 ls H s))++F) h
 | [],[],s,k,_,_,_,_,_,x=>x
 | l::ls,[],_,_,_,_,hl,_,_,_=>by simp at hl
 | l::ls,o::H,s,k,_,hn,hl,h1,h2,x=>by
  rw [eB] at hn;obtain ⟨q1,q2⟩:=h1 0 l rfl;obtain ⟨k1,k2,ap,e,s1,s2⟩:=x;have s3:=bq.toEnd (A:=bj E2 (k+1) H) (F:=bj E' 0 (iw (b.heap s) (l::ls))++F) ⟨k1,k2,ap,e,cF.fp hr q1 s1,s2⟩;have s4:=bq.under (A:=bj E2 (k+1) H) (λh=>bq.D6 (by rw [mE,dN];exact q2)) s3;have e1:(iw (b.heap s) (l::ls)).set l (o.fp (jZ ls0 n0))=iw (b.heap (s.dS l (o.fp (jZ ls0 n0)))) ls:=by
   rw [je q2,<-LJ hn.1];show ((iw (b.heap s) ls).set l HO.gone).set l _=_;rw [List.set_set]
  rw [e1] at s4;exact vD hr (s:=s.dS l (o.fp (jZ ls0 n0))) hn.2 (by simpa using hl) (λi m hm=>by
   have:=h1 (i+1) m (by simpa using hm);rw [show k+(i+1)=k+1+i by omega] at this;exact this) (λi=>by
   have:=h2 i;rw [aq] at this;rw [show k+1+ls.length+i=k+(ls.length+1)+i by omega];exact this) s4
 | [],o::H,s,k,_,hn,hl,h1,h2,x=>by
  obtain ⟨k1,k2,ap,e,s1,s2⟩:=x;have q:=h2 0;simp only [aM,jP] at q;have s3:=bq.toEnd (A:=bj E2 (k+1) H) (F:=bj E' 0 (b.heap s)++F) ⟨k1,k2,ap,e,cF.fp hr q s1,s2⟩;have s4:=bq.under (A:=bj E2 (k+1) H) (λh (y:bq g (cF E' s.n (o.fp (jZ ls0 n0))::(bj E' 0 (b.heap s)++F)) h)=>by
   have:=bq.toEnd y;show bq g (bj E' 0 (b.heap s++ [o.fp (jZ ls0 n0)])++F) h;rw [oJ,bW,dN,aG];exact this) s3
  refine vD hr (ls:=[]) (k:=k+1) (s:=s.new (o.fp (jZ ls0 n0))) hn (cq _) (λi l h=>by simp at h) (λi=>?_) ?_
  .have:=h2 (i+1);simp only [aM,jP] at this ⊢;rw [show k+1+i=k+(i+1) by omega,this];congr 1;show s.n+(i+1)=s.n+1+i;omega
  .show bq g (bj E2 (k+1) H++(bj E' 0 (b.heap (s.new (o.fp (jZ ls0 n0))))++F)) _;rw [sQ];exact s4
theorem tQ {ls0:List Nat} {n0:Nat}:∀ {ls:List Nat} {H:List HO} {s:Ov},(fq ls0 n0 ls H s).f=s.f
 | [],[],_=>rfl
 | _::_,[],_=>rfl
 | l::ls,o::H,s=>by
  show (fq ls0 n0 ls H (s.dS l _)).f=_;rw [tQ];rfl
 | [],o::H,s=>by
  show (fq ls0 n0 [] H (s.new _)).f=_;rw [tQ];rfl
theorem tP {ls0:List Nat} {n0:Nat}:∀ {ls:List Nat} {H:List HO} {s:Ov},ls.length<=H.length->(fq ls0 n0 ls H s).n=s.n+(H.length - ls.length)
 | [],[],s,_=>by simp [fq]
 | _::_,[],_,h=>by simp at h
 | l::ls,o::H,s,h=>by
  show (fq ls0 n0 ls H (s.dS l _)).n=_;rw [tP (by simpa using h)];show s.n+_=s.n+_;simp
 | [],o::H,s,_=>by
  show (fq ls0 n0 [] H (s.new _)).n=_;rw [tP (cq _)];show s.n+1+_=s.n+_;simp;omega
theorem sM {ls0:List Nat} {n0:Nat}:∀ {ls:List Nat} {H:List HO} {s:Ov},(∀ l∈ls,l< s.n)->(∀ l,s.n<=l->b.obj s l= .gone)->∀ l,(fq ls0 n0 ls H s).n<=l->b.obj (fq ls0 n0 ls H s) l= .gone
 | [],[],_,_,h=>h
 | _::_,[],_,_,h=>h
 | l::ls,o::H,s,hl,h=>by
  show ∀ q,(fq ls0 n0 ls H (s.dS l _)).n<=q->b.obj (fq ls0 n0 ls H (s.dS l _)) q= .gone;refine sM (λm hm=>hl m (by simp [hm])) λq hq=>?_;have SK:s.n<=q:=hq;rw [ja,if_neg (by have:=hl l (by simp);omega)];exact h q SK
 | [],o::H,s,hl,h=>by
  show ∀ q,(fq ls0 n0 [] H (s.new _)).n<=q->b.obj (fq ls0 n0 [] H (s.new _)) q= .gone;refine sM (λm hm=>by simp at hm) λq hq=>?_;have SK:s.n+1<=q:=hq;rw [tJ,if_neg (by omega)];exact h q (by omega)
theorem oD:∀ {ls:List Nat} {l i:Nat},ic ls l=some i->ls[i]?=some l
 | [],_,_,h=>by cases h
 | m::r,l,i,h=>by
  unfold ic at h;by_cases e:m=l
  .subst e;have:i=0:=by simpa using h.symm
   subst this;rfl
  .rw [ij e] at h;simp only [cond_false] at h;split at h
   .rename_i j hj;obtain rfl:=aj h;simpa using oD hj
   .cases h
theorem qb:∀ {ls:List Nat},ls.Nodup->∀ {i l:Nat},ls[i]?=some l->ic ls l=some i
 | [],_,_,_,h=>by simp at h
 | m::r,hn,0,l,h=>by
  have:m=l:=by simpa using h
  subst this;simp [ic]
 | m::r,hn,i+1,l,h=>by
  rw [eB] at hn;have h':r[i]?=some l:=by simpa using h
  have gx:m≠l:=λe=>hn.1 (by rw [e];exact fc h');unfold ic;rw [ij gx];simp only [cond_false];rw [qb hn.2 h']
theorem Nj {p:Prop}:∀ {c:Cl} {u:Value},cr E g c u->GP c p->p:=by
 intro c u r h;unfold GP at h;split at h;exact h r.2;exact h r.2;exact h (lM r);exact h
theorem GO {p:Prop}:∀ {l:List Cl} {us:List Value},bA E g l us->C8 l p->p
 | [],_,_,h=>h
 | _::_,_,⟨_,_,_,h1,h2⟩,h=>GO h2 (Nj h1 h)
theorem Nh {p:Prop}:∀ {x:S1} {u:Value},gm E g x u->Ni x p->p
 | .c _,_,r,h=>Nj r h
 | .agg _,_,⟨_,r,_⟩,h=>GO r h
theorem GN {p:Prop}:∀ {l:List S1} {us:List Value},gW E g l us->C6 l p->p
 | [],_,_,h=>h
 | _::_,_,⟨_,_,_,h1,h2⟩,h=>GN h2 (Nh h1 h)
theorem Ng {p:Prop}:∀ {x:SV} {u:Value},df E g x u->GM x p->p
 | .v _,_,r,h=>Nh r h
 | .cJ _,_,⟨_,r,_⟩,h=>GN r h
 | .any,_,_,h=>h
 | .arr _ _,_,_,h=>h
theorem GL {p:Prop}:∀ {l:List SV} {us:List Value},bC E g l us->PW l p->p
 | [],_,_,h=>h
 | _::_,_,⟨_,_,_,h1,h2⟩,h=>GL h2 (Ng h1 h)
theorem tB {P:Program} {ct:FuncId->Ct} (jx:∀ f args H Q,ct f args H Q->WpW W P f args H Q) (S:dg n W F b E g w s a) {f:FuncId} {args:List SV} {vs:List Value} {K:SV->Ov->Prop} (hv:bC E g args vs) (h:Dk ct b s f args K):Hs P f vs.toArray w (Out n W F b E g a K):=by
 unfold Dk at h;simp only at h;generalize hls:sb (b.obj s) 1000 (pW args) []=ls at h;obtain ⟨CY,h⟩:=cZ h;rw [ao,jH] at CY;obtain ⟨hn,eK⟩:=CY;have CV:∀ l∈ls,l< s.n:=λl hl=>by have:=bo.1 eK l hl;simpa using this
 have hEl:∀ l∈ls,∃ v,E[l]?=some v:=λl hl=>⟨_,ak (by rw [S.len];exact CV l hl)⟩
 -- the callee's labels
 have vR:mH (ic ls) E (ls.map λl=>(E[l]?).getD undef):=λl l' v h1 h2=>by
  have:=oD h1;rw [ck,this];simp [h2]
 have wV:Sat W (ls.map λl=>(E[l]?).getD undef) g w (ls.map λl=>(b.obj s l).fp (ic ls)) (bj E 0 (iw (b.heap s) ls)++F):=by
  refine ⟨S.sat.sl.cz λh0 x=>?_,by simp⟩;have x1:=bq.qm (ob:=b.obj s) hn (λl hl=>eM (CV l hl)) x;have x2:=bq.comm x1;exact bq.xM vR (k:=0) (λi l hi=>by rw [bW];exact qb hn hi) x2
 refine Hs.mono (jx _ _ _ _ h g w _ _ vs wV (bC.fp vR hv)) ?_;rintro v w' ⟨E2,g',sv,H',hle,hm,hs,hsv,h⟩;obtain ⟨hlen,h⟩:=cZ h;have Y1:ls.length<=H'.length:=cH hlen;have hE2:E2.length=H'.length:=hs.len
 -- the caller's labels
 have kx:∀ l,jZ ls s.n l=if l< ls.length then ls[l]? else some (s.n+(l - ls.length)):=λl=>by
  unfold jZ;by_cases hl:l< ls.length;rw [if_pos hl,ak hl];rw [if_neg hl,dx (by omega)]
 have hr2:mH (jZ ls s.n) E2 (E++E2.drop ls.length):=λl l' v h1 h2=>by
  rw [kx] at h1;by_cases hl:l< ls.length
  .rw [if_pos hl] at h1;have h3:l'< s.n:=CV l' (fc h1);obtain ⟨u,hu⟩:=hEl l' (fc h1);rw [aV (by rw [S.len];exact h3)];have:=hle l u (by rw [ck,h1];simp [hu]);rw [h2] at this;rw [hu,<-this]
  .rw [if_neg hl] at h1;obtain rfl:=aj h1;rw [a8 (by rw [S.len];omega),S.len,List.getElem?_drop,<-h2];congr 1;omega
 have SO:(E++E2.drop ls.length).length=s.n+(H'.length - ls.length):=by
  rw [af,S.len,aN,hE2]
 refine ⟨E++E2.drop ls.length,g',fq ls s.n ls H' s,sv.fp (jZ ls s.n),bw.app E _,hm,⟨S.size,S.defers,λt u hu=>?_,⟨?_,?_⟩,?_⟩,df.fp hr2 hsv,Ng hsv h⟩
 .have:b.slot (fq ls s.n ls H' s) t=b.slot s t:=by unfold Bs.slot;rw [tQ]
  rw [this] at hu;exact (S.fr t u hu).mono (bw.app E _) hm
 .refine hs.sl.cz λh0 x=>?_;refine vD hr2 (k:=0) hn Y1 (λi l hi=>⟨?_,CV l (fc hi)⟩) (λi=>?_) (bq.under (A:=bj E2 0 H') (λh=>bj.env (bw.app E _)) x)
  .rw [kx,bW,if_pos (au.1 hi).1,hi]
  .rw [kx,if_neg (by omega)];congr 1;omega
 .rw [SO,dN,tP Y1]
 .exact sM CV S.top
theorem C9 {p q:Prop} (k:p->q):∀ {c:Cl},GP c p->GP c q:=by
 intro c h;cases c with
 | k v=>cases v<;>first| exact k h| exact λe=>k (h e)
 | d e x=>exact λe=>k (h e)
 | _=>exact k h
theorem Aa {p q:Prop} (k:p->q):∀ {l:List Cl},C8 l p->C8 l q
 | [],h=>k h
 | _::_,h=>C9 (Aa k) h
theorem C7 {p q:Prop} (k:p->q):∀ {x:S1},Ni x p->Ni x q
 | .c _,h=>C9 k h
 | .agg _,h=>Aa k h
theorem zZ {p q:Prop} (k:p->q):∀ {l:List S1},C6 l p->C6 l q
 | [],h=>k h
 | _::_,h=>C7 (zZ k) h
theorem PX {p q:Prop} (k:p->q):∀ {x:SV},GM x p->GM x q
 | .v _,h=>C7 k h
 | .cJ _,h=>zZ k h
 | .any,h=>k h
 | .arr _ _,h=>k h
theorem XW {ls:List Nat} {n0 l:Nat} (h:l∈ls):∃ i,ic ls l=some i/\jZ ls n0 i=some l:=by
 have key:∀ {ls:List Nat},l∈ls->∃ i,ic ls l=some i:=λ{ls}=>by
  induction ls with
  | nil=>intro h;cases h
  | cons m r ih=>
   intro h;unfold ic;by_cases e:m=l;subst e;exact ⟨0,by simp⟩
   .rw [ij e];obtain ⟨i,hi⟩:=ih ((bm.1 h).resolve_left (Ne.symm e));exact ⟨i+1,by simp only [cond_false,hi]⟩
 obtain ⟨i,hi⟩:=key h;refine ⟨i,hi,?_⟩;unfold jZ;rw [oD hi]
mutual
theorem Cl.wu {r1 r2:Nat->Option Nat}:∀ {c:Cl},(∀ l∈c.labels,∃ i,r1 l=some i/\r2 i=some l)->(c.fp r1).fp r2=c
 | .k _,_=>rfl
 | .d _ _,_=>rfl
 | .de _ _ _ _,_=>rfl
 | .JX,_=>rfl
 | .p l off,h=>by obtain ⟨i,h1,h2⟩:=h l (by simp [Cl.labels]);simp only [Cl.fp,h1,h2]
 | .o l,h=>by obtain ⟨i,h1,h2⟩:=h l (by simp [Cl.labels]);simp only [Cl.fp,h1,h2]
 | .os l _ _ _,h=>by obtain ⟨i,h1,h2⟩:=h l (by simp [Cl.labels]);simp only [Cl.fp,h1,h2]
 | .oe l _ _ _,h=>by obtain ⟨i,h1,h2⟩:=h l (by simp [Cl.labels]);simp only [Cl.fp,h1,h2]
 | .m l,h=>by obtain ⟨i,h1,h2⟩:=h l (by simp [Cl.labels]);simp only [Cl.fp,h1,h2]
 | .sc l _ _,h=>by obtain ⟨i,h1,h2⟩:=h l (by simp [Cl.labels]);simp only [Cl.fp,h1,h2]
 | .kl l _,h=>by obtain ⟨i,h1,h2⟩:=h l (by simp [Cl.labels]);simp only [Cl.fp,h1,h2]
 | .fn f caps,h=>by simp only [Cl.fp];rw [Cl.xP (l:=caps) λl hl=>h l (by simpa [Cl.labels] using hl)]
 | .AM t c,h=>by simp only [Cl.fp];rw [Cl.wu (c:=c) λl hl=>h l (by simpa [Cl.labels] using hl)]
theorem Cl.xP {r1 r2:Nat->Option Nat}:∀ {l:List Cl},(∀ x∈Cl.nH l,∃ i,r1 x=some i/\r2 i=some x)->Cl.wq r2 (Cl.wq r1 l)=l
 | [],_=>rfl
 | c::l,h=>by
  simp only [Cl.wq];rw [Cl.wu (c:=c) λx hx=>h x (by simp [Cl.nH,hx]),Cl.xP (l:=l) λx hx=>h x (by simp [Cl.nH,hx])]
end
theorem HO.wu {r1 r2:Nat->Option Nat}:∀ {o:HO},(∀ l∈o.labels,∃ i,r1 l=some i/\r2 i=some l)->(o.fp r1).fp r2=o
 | .cells t cs,h=>by
  show HO.cells t (Cl.wq r2 (Cl.wq r1 cs))=_;rw [Cl.xP (l:=cs) h]
 | .sl ..,_=>rfl
 | .held ..,_=>rfl
 | .map ..,_=>rfl
 | .abs _,_=>rfl
 | .ab _,_=>rfl
 | .gone,_=>rfl
 | .qk k n,h=>by
  obtain ⟨i,h1,h2⟩:=h n (aR.2 rfl);simp only [HO.fp,h1,h2]
theorem wP {ls0:List Nat} {n0:Nat} {g:Nat->HO} {s0:Ov}:∀ {ls:List Nat} {s:Ov},(∀ l,b.obj s l=b.obj s0 l)->(∀ l∈ls,(g l).fp (jZ ls0 n0)=b.obj s0 l)->∀ l,b.obj (fq ls0 n0 ls (ls.map g) s) l=b.obj s0 l
 | [],_,h,_=>h
 | l::ls,s,h,hg=>wP (ls:=ls) (s:=s.dS l ((g l).fp (jZ ls0 n0))) (λk=>by
   rw [ja];by_cases e:l=k;subst e;rw [if_pos rfl];exact hg l (by simp)
   .rw [if_neg e];exact h k) λk hk=>hg k (by simp [hk])
theorem XN {p:Prop}:∀ {c d:Cl},XO c d p->c=d/\p:=by
 intro c d h;unfold XO at h;split at h;exact ⟨by rw [h.1],h.2⟩
 .obtain ⟨e,h⟩:=cZ h;exact ⟨by rw [ai e],h⟩
 .obtain ⟨e,h⟩:=cZ h;rw [ao] at e;exact ⟨by rw [ai e.1,ai e.2],h⟩
 .obtain ⟨e,h⟩:=cZ h;exact ⟨by rw [ai e,h.1],h.2⟩
 .split at h
  .rename_i y' hy;obtain ⟨q,e1⟩:=ev hy;subst q;exact ⟨by rw [h.1,e1];rfl,h.2⟩
  .cases h
 .cases h
theorem FO {p:Prop}:∀ {l r:List Cl},OH l r p->l=r/\p
 | [],[],h=>⟨rfl,h⟩
 | c::l,d::r,h=>by
  obtain ⟨e1,h1⟩:=XN h;obtain ⟨e2,h2⟩:=FO h1;exact ⟨by rw [e1,e2],h2⟩
 | [],_::_,h=>h.elim
 | _::_,[],h=>h.elim
theorem XL {p:Prop}:∀ {a b:HO},XM a b p->a=b/\p:=by
 intro a b h;unfold XM at h;split at h
 .obtain ⟨e,h⟩:=cZ h;obtain ⟨e2,h⟩:=FO h;exact ⟨by rw [ai e,e2],h⟩
 .obtain ⟨e,h⟩:=cZ h;split at h
  .rename_i y hy;obtain ⟨q,hq⟩:=ev hy;subst q;refine ⟨?_,h.2⟩;rw [ai e,h.1,hq];rfl
  .cases h
 exact ⟨rfl,h⟩;cases h
theorem FM {p:Prop}:∀ {l r:List HO},OG l r p->l=r/\p
 | [],[],h=>⟨rfl,h⟩
 | c::l,d::r,h=>by
  obtain ⟨e1,h1⟩:=XL h;obtain ⟨e2,h2⟩:=FM h1;exact ⟨by rw [e1,e2],h2⟩
 | [],_::_,h=>h.elim
 | _::_,[],h=>h.elim
theorem FT {P:Program} {ct:FuncId->Ct} (jx:∀ f args H Q,ct f args H Q->WpW W P f args H Q) (S:dg n W F b E g w s a) {f:FuncId} {args:List SV} {vs:List Value} {K:SV->Ov->Prop} (hv:bC E g args vs) (h:Tc ct b s f args K):Hs P f vs.toArray w (Out n W F b E g a K):=by
 unfold Tc at h;simp only at h;generalize hls:sb (b.obj s) 1000 (pW args) []=ls at h;obtain ⟨CY,h⟩:=cZ h;rw [ao] at CY;obtain ⟨hn,jy⟩:=CY;have eK:∀ l∈ls,l< s.n/\∀ q∈(b.obj s l).labels,q∈ls:=λl hl=>by
  have:=bo.1 jy l hl;rw [ao] at this;exact ⟨by simpa using this.1,λq hq=>gw.1 (bo.1 this.2 q hq)⟩
 have h1:=jx _ _ _ _ h;have h2:Dk (λf args H Q=>WpW W P f args H Q) b s f args (λr s'=>s'=fq ls s.n ls (ls.map λl=>(b.obj s l).fp (ic ls)) s/\K r s):=by
  unfold Dk;simp only;rw [hls,if_pos (by rw [ao];exact ⟨hn,bo.2 λl hl=>by simpa using (eK l hl).1⟩)];intro g0 w0 E0 F0 vs0 S0 SI;refine (h1 g0 w0 E0 F0 vs0 S0 SI).mono λv w' ⟨E',g',sv,H',a1,a2,a3,a4,q⟩=>⟨E',g',sv,H',a1,a2,a3,a4,?_⟩;obtain ⟨e,q2⟩:=FM q;subst e;rw [if_pos (by simp)];exact PX (λhk=>⟨rfl,hk⟩) q2
 refine (tB (ct:=λf args H Q=>WpW W P f args H Q) (λ_ _ _ _ h=>h) S hv h2).mono λv w' ⟨E',g',s',sv,a1,a2,S',a4,e,hk⟩=>⟨E',g',s,sv,a1,a2,?_,a4,hk⟩;subst e;have adz:=wP (b:=b) (ls0:=ls) (n0:=s.n) (g:=λl=>(b.obj s l).fp (ic ls)) (s0:=s) (ls:=ls) (s:=s) (λ_=>rfl) λl hl=>HO.wu λq hq=>XW ((eK l hl).2 q hq);have hnn:(fq ls s.n ls (ls.map λl=>(b.obj s l).fp (ic ls)) s).n=s.n:=by rw [tP (by simp)];simp
 have alo:b.heap (fq ls s.n ls (ls.map λl=>(b.obj s l).fp (ic ls)) s)=b.heap s:=by
  unfold Bs.heap;rw [hnn];exact gD λl _=>adz l
 refine ⟨S'.size,S'.defers,λt u hu=>S'.fr t u ?_,by rw [<-alo];exact S'.sat,S.top⟩;rw [<-hu];unfold Bs.slot;rw [tQ]
theorem bC.app:∀ {l k:List SV} {us vs:List Value},bC E g l us->bC E g k vs->bC E g (l++k) (us++vs)
 | [],_,_,_,h,hk=>by rw [show _=_ from h];exact hk
 | _::_,_,_,_,⟨u,r,e,h1,h2⟩,hk=>by rw [e];exact ⟨u,r++_,rfl,h1,bC.app h2 hk⟩
theorem BZ:∀ {l:List Cl} {us:List Value},bA E g l us->bC E g (l.map .c) us
 | [],_,h=>h
 | _::_,_,⟨u,r,e,h1,h2⟩=>⟨u,r,e,h1,BZ h2⟩
theorem tH (S:dg n W F b E g w s a):∀ {l:List Operand} {vs:List SV},Ap b s l=some vs->bC E g vs (l.map a.eval)
 | [],vs,h=>by
  obtain rfl: []=vs:=aj h;rfl
 | x::r,vs,h=>by
  unfold Ap at h;split at h
  .rename_i v hv;split at h
   .rename_i l hl;obtain rfl:v::l=vs:=aj h;exact ⟨_,_,rfl,S.fe hv,tH S hl⟩
   .cases h
  .cases h
theorem XT {P:Program} {o:Oper} {c:Call} {fo:Operand} {f:FuncId} {us:Array Value} (ho:o.op= .call c) (hc:c.callee= .value fo) (hf:a.eval fo= .func (.func f) #[] us) (hk:qS P f=true):
  (execOp a.eval o).run P w= .ok (.enter f (c.args.map a.eval++us)) w:=by
 unfold qS at hk;split at hk
 .rename_i fn hfn;simp only [ao,bY] at hk;have h1:¬fn.name= "runtime.NumGoroutine" :=by simpa using hk.1
  have h2:¬fn.body=none:=λe=>by rw [e] at hk;cases hk.2
  simp only [execOp,ho,resolve,hc,hf,Deferred.ofValue,Array.empty_append];simp [invoke,callFunc,hfn,h1,h2,go_sem]
 .cases hk
end
theorem OK {P:Program} {t:TypeId} {name:String} {f:FuncId} {v:Value} {w:World} (k:Nat) (h:Sk P t name=some f):(method (k+1) t v name).run P w= .ok (f,v) w:=by
 unfold Sk at h;split at h
 .rename_i ti hti;split at h
  .rename_i m hm;split at h
   .rename_i hp;split at h
    .rename_i f' e hf hu;obtain rfl:=aj h;have hl:m.path.toList= []:=by
      have:m.path= #[]:=by simpa using hp
      rw [this]
     unfold method;simp [typeInfo,hti,hm,hl,hf,follow,receiverAt,Place.get,underlying,hu,go_sem]
    .cases h
   .cases h
  .cases h
 .cases h
theorem OL {P:Program} {a:Act} {w:World} {o:Oper} {c:Call} {ro:Operand} {name:String} {f:FuncId} {t:TypeId} {v:Value} (ho:o.op= .call c) (hc:c.callee= .invoke ro name) (hf:a.eval ro= .iface t v) (hm:Sk P t name=some f) (hk:qS P f=true):
  (execOp a.eval o).run P w= .ok (.enter f (#[v]++c.args.map a.eval)) w:=by
 unfold qS at hk;split at hk
 .rename_i fn hfn;simp only [ao,bY] at hk;have h1:¬fn.name= "runtime.NumGoroutine" :=by simpa using hk.1
  have h2:¬fn.body=none:=λe=>by rw [e] at hk;cases hk.2
  have hinv:∀ A:Array Value,A[0]?=some (.iface t v)->invoke (.fn (.method name) #[]) A=callMethod (.iface t v) name (A.extract 1 A.size):=λA hA=>by
   simp only [invoke,hA]
  have hx:(#[Value.iface t v]++c.args.map a.eval)[0]?=some (.iface t v):=by rw [jW (by simp)];rfl
  have hy:(#[Value.iface t v]++c.args.map a.eval).extract 1 (#[Value.iface t v]++c.args.map a.eval).size=c.args.map a.eval:=by apply Array.ext';simp [aT]
  have anA:resolve a.eval c o.type=pure {target:=.fn (.method name) #[],args:= #[Value.iface t v]++c.args.map a.eval}:=by simp only [resolve,hc,hf]
  have hmm:=OK (w:=w) (v:=v) (P.types.size+99) hm;have ff:(callMethod (.iface t v) name (c.args.map a.eval)).run P w= .ok (.enter f (#[v]++c.args.map a.eval)) w:=by
   simp only [callMethod];show (do let p <-program;let z <-method (p.types.size+99+1) t v name;callFunc z.1 (#[z.2]++c.args.map a.eval):Sem Next).run P w=_
   simp [callFunc,hfn,h1,h2,go_sem,hmm]
  have he:execOp a.eval o=(do let d <-resolve a.eval c o.type;invoke d.target d.args):=by simp only [execOp,ho]
  rw [he,anA];show (invoke (.fn (.method name) #[]) (#[Value.iface t v]++c.args.map a.eval)).run P w=_;rw [hinv _ hx,hy];exact ff
 .cases hk
section
variable {X:Vx} {n:Nat} {W:cQ} {F:List Atom} {b:Bs} {E:Env} {g w:World} {s:Ov} {a:Act} {o:Oper}
theorem ai7 {c:Bool} {p q:Prop} (h:br c p q):(c=true/\p)\/(c=false/\q):=by
 cases c;exact .inr ⟨rfl,h⟩;exact .inl ⟨rfl,h⟩
theorem UG (S:dg n W F b E g w s a) {x:Operand} {c:Cl} {K:SV->Ov->Prop} (ho:o.op= .next x true) (r:cr E g c (a.eval x)) (h:Yt b s c K):
  ∃ v w',(execOp a.eval o).run X.P w= .ok (.value v) w'/\Out n W F b E g a K v w':=by
 unfold Yt at h;split at h
 .rename_i l;obtain ⟨bb,hE,hx⟩:=r;split at h
  .rename_i z p eh;have H0:=S.pick hE;rw [eh] at H0;obtain ⟨hz,H⟩:z.size<=maxLen/\SL W g w (obj bb (.stringIter z p)::dC (bj E 0 (b.heap s)++F) l):=by
    obtain ⟨k,be,se,ow,h1,h2,ap,q,⟨u,s1,hz,b',e1,s2⟩,s3⟩:=H0;refine ⟨hz,k,be,se,ow,h1,h2,ap,q,?_,s3⟩;rw [hE] at s1;obtain rfl:=aj s1;have:bb=b':=by simpa [ptr] using e1
    rw [this];exact s2
   have hk:=H.has 0;have Av:∀ {m:Nat},m<=9223372036854775807->aF .i64 (m:Int):=λ{m} h=>by
    show (-9223372036854775808:Int)<=m/\(m:Int)<=9223372036854775807;omega
   have h:(decide (p< z.size)=true/\_)\/(decide (p< z.size)=false/\_):=ai7 h;rcases h with ⟨e,h⟩| ⟨e,h⟩
   .have eK:p< z.size:=by simpa using e
    have hr:=Qw (P:=X.P) hk eK ho hx;have hd:=decode_le z p;have H2:=SL.zA H (⟨rfl,(aQ.1 hk).1⟩:qh w bb (.stringIter z (p+(Utf8.decode z p).2)) _);refine ⟨_,_,hr,E,g,_,_,bw.refl E,bx.refl g,S.back hE (.ab (.iter z (p+(Utf8.decode z p).2))) (bx.refl g) (H2.cz λk ⟨k1,k2,ap,q,s1,s2⟩=>⟨k1,k2,ap,q,⟨_,hE,hz,_,rfl,s1⟩,s2⟩),?_,h⟩;refine ⟨_,⟨_,_,rfl,⟨rfl,rfl⟩,_,_,rfl,⟨rfl,Av ?_⟩,_,_,rfl,⟨rfl,?_⟩,rfl⟩,rfl⟩
    .unfold maxLen at hz;omega
    .show (-2147483648:Int)<=((Utf8.decode z p).1:Int)/\((Utf8.decode z p).1:Int)<=2147483647;omega
   .have hge:¬p< z.size:=by simpa using e
    exact ⟨_,_,VX (P:=X.P) hk hge ho hx,E,g,s,.cJ [.c (.k (.bool false))],bw.refl E,bx.refl g,S,⟨_,⟨_,_,rfl,⟨rfl,rfl⟩,rfl⟩,rfl⟩,h⟩
  .cases h
 .cases h
theorem yT:∀ {off m j:Nat} {cs xC:List Cl} {ys:List ByteArray} {us:List Value},vM off m j cs ys=some xC->(∀ y∈ys,y.size<=maxLen)->bA E g cs us->
  off+m<=us.length/\bA E g xC (us.take off++(((ys.drop j).take m).map Value.string++us.drop (off+((ys.drop j).take m).length)))
 | 0,0,j,cs,xC,ys,us,h,_,hc=>by
  simp only [vM,j8] at h;subst h;simpa using hc
 | 0,m+1,j,c::r,xC,ys,us,h,hy,⟨u,q,e,h1,h2⟩=>by
  subst e;unfold vM at h;split at h
  .rename_i z;split at h
   .rename_i l hl;obtain rfl:=aj h;obtain ⟨h3,h4⟩:=yT hl hy h2;refine ⟨by simp only [aq];omega,?_⟩;cases hj:ys[j]? with
    | some y=>
     have hd:ys.drop j=y::ys.drop (j+1):=by
      obtain ⟨eK,e⟩:=au.1 hj;rw [cg eK,e]
     rw [hd,List.take_succ_cons];simp only [List.take_zero,dQ,bX,aq,Option.getD_some,eO,bW] at h4 ⊢;rw [List.drop_succ_cons];exact ⟨_,_,rfl,⟨rfl,hy y (fc hj)⟩,h4⟩
    | none=>
     have hlen:ys.length<=j:=by simpa using hj
     rw [ik (by omega:ys.length<=j+1)] at h4;rw [ik hlen];simp only [List.take_nil,List.map_nil,aM,List.take_zero,dQ,jP,pD,Option.getD_none] at h4 ⊢;obtain ⟨rfl,hz⟩:=h1;exact ⟨_,_,rfl,⟨rfl,hz⟩,h4⟩
   .cases h
  .cases h
 | off+1,m,j,c::r,xC,ys,us,h,hy,⟨u,q,e,h1,h2⟩=>by
  subst e;unfold vM at h;split at h
  .rename_i l hl;obtain rfl:=aj h;obtain ⟨h3,h4⟩:=yT hl hy h2;refine ⟨by simp only [aq];omega,?_⟩;rw [List.take_succ_cons,show off+1+((ys.drop j).take m).length=(off+((ys.drop j).take m).length)+1 by omega,List.drop_succ_cons];exact ⟨_,_,rfl,h1,h4⟩
  .cases h
 | 0,m+1,j,[],_,_,_,h,_,_=>by cases h
 | off+1,m,j,[],_,_,_,h,_,_=>by cases h
theorem Ut {ds:List (List Value)}:∀ {ys:List ByteArray},eC g ds ys->ds.flatten=ys.map Value.string/\∀ y∈ys,y.size<=maxLen:=by
 induction ds with
 | nil=>
  intro ys h;cases ys with
  | nil=>exact ⟨rfl,λ_ h=>by cases h⟩
  | cons _ _=>exact h.elim
 | cons d ds ih=>
  intro ys h;cases ys with
  | nil=>exact h.elim
  | cons y ys=>
   obtain ⟨h1,h2⟩:=h;obtain ⟨h3,h4⟩:=ih h2;obtain ⟨e,hs⟩:d= [.string y]/\y.size<=maxLen:=h1;refine ⟨by rw [bI,e,h3];rfl,λz hz=>?_⟩;rcases bm.1 hz with rfl| hz;exact hs;exact h4 z hz
theorem GW {t t2 et:TypeId} {x y:Operand} {v:Value} {xs ys:List UInt8} {off:Int} {R:List Atom} (ho:o.op= .call {callee:=.builtin .copy,args:= #[x,y],argTypes:= #[t,t2]}) (ht:X.P.underlying t=some (.slice et)) (hu:MS X et=true) (H:SL W g w (pj .u8 et v xs::R)) (hy:Rd g w (a.eval y) ys) (h0:0<=off) (h1:off<=xs.length) (hx:a.eval x=jg 1 v off xs.length):
  ∃ w',(execOp a.eval o).run X.P w= .ok (.value (.int .i64 (min ys.length (xs.length - off.toNat):Nat))) w'/\SL W g w' (pj .u8 et v (lW xs off.toNat ys)::R):=by
 have hs:(X.P.info? et).map (·.size)=some 1:=by
  unfold MS at hu;split at hu
  .rename_i ie ku;rw [ao] at hu;rw [ku];exact congrArg some (ai hu.1)
  .cases hu
 have H0:SL W g w (BK et v xs::R):=H;have H1:=H0.ahy;rcases H1.ofRow with ⟨hv,hl,_,_⟩| ⟨k',Zy,cur,hv,_⟩
 .have yL:xs= []:=aJ hl;subst yL hv;have ho0:off=0:=by simp at h1;omega
  subst ho0;have Gz:a.eval x= .slice none 0 0:=hx;have hlen:(Builtin.lenOf (a.eval y)).run X.P w= .ok ys.length w:=by
   rcases hy with ⟨e,rfl⟩| ⟨ad,c,e,_⟩<;>rw [e]<;>simp [Builtin.lenOf]
  have hfc:(Builtin.firstCells 1 0 (a.eval y)).run X.P w= .ok #[] w:=by
   rcases hy with ⟨e,rfl⟩| ⟨ad,c,e,h3,h4,ds,h5,h6⟩;rw [e];simp [Builtin.firstCells]
   .rw [e];exact run_firstCells_some (P:=X.P) w 1 0 ad ys.length c [] (by simp) λj v hj=>by simp at hj
  cases ku:X.P.info? et with
  | none=>rw [ku] at hs;cases hs
  | some ie=>
   have hs1:ie.size=1:=by rw [ku] at hs;simpa using hs
   refine ⟨w,?_,by simpa [lW] using H⟩;simp [execOp,ho,resolve,invoke,builtin,Builtin.copy_,run_underlying ht,Gz,hlen,hfc,sizeOf,typeInfo,ku,hs1,goInt,Result.andThen]
 .subst hv;obtain ⟨w',hr,H'⟩:=SL.alN (P:=X.P) (dT:=t) (sT:=t2) (ty:=o.type) H0 hy h0 h1 ht hs;rw [<-hx] at hr;exact ⟨w',by simp [execOp,ho,resolve,invoke,builtin,hr],H'⟩
theorem UI (S:dg n W F b E g w s a) {t t2:TypeId} {x y:Operand} {cx cy:Cl} {K:SV->Ov->Prop} (ho:o.op= .call {callee:=.builtin .copy,args:= #[x,y],argTypes:= #[t,t2]}) (rx:cr E g cx (a.eval x)) (ry:cr E g cy (a.eval y)) (h:copyV X b s t t2 cx cy K):
  ∃ v w',(execOp a.eval o).run X.P w= .ok (.value v) w'/\Out n W F b E g a K v w':=by
 unfold copyV at h;split at h
 .rename_i et l off m ht;obtain ⟨bb,c,hE,hmc,hx⟩:=rx;obtain ⟨_,h⟩:=cZ h;split at h
  .rename_i ie ys u cs ku Jl eh;obtain ⟨hs1,h⟩:=cZ h;have hs1:ie.size=1:=ai hs1;split at h
   .rename_i xC wY;obtain ⟨hm,h⟩:=h;obtain ⟨MX,_⟩:=tO S ry Jl;obtain ⟨us,hr,hB,H⟩:=oM S hE eh
    -- what is laid
    have key:∃ vs:List Value,vs=(ys.take m).map Value.string/\(∀ z∈ys,z.size<=maxLen)/\(Builtin.lenOf (a.eval y)).run X.P w= .ok ys.length w/\(Builtin.firstCells 1 (min ys.length m) (a.eval y)).run X.P w= .ok vs.toArray w:=by
     rcases MX with ⟨e,rfl⟩| ⟨ad,cap,e,Jq,ff,ds,Vo,o7⟩
     .rw [e];exact ⟨[],by simp,(λ_ h=>nomatch h),by simp [Builtin.lenOf],by simp [Builtin.firstCells]⟩
     .obtain ⟨hfl,kr⟩:=Ut (ds:=ds) Vo;rw [e];refine ⟨_,rfl,kr,by simp [Builtin.lenOf],?_⟩;refine run_firstCells_some (P:=X.P) w 1 (min ys.length m) ad ys.length cap ((ys.take m).map Value.string) (by simp [Nat.min_comm]) λj v hj=>?_;refine o7 j v ?_;rw [hfl];rw [ck] at hj ⊢;rw [ez] at hj;split at hj
      .exact hj
      .cases hj
    obtain ⟨vs,DR,kr,hlen,hfc⟩:=key;obtain ⟨hle,hrel⟩:=yT wY kr hr;rw [pD,<-DR] at hrel;have hvl:vs.length=(ys.take m).length:=by rw [DR,bH]
    rw [<-hvl] at hrel;have hvm:vs.length=min ys.length m:=by rw [hvl,aA,Nat.min_comm]
    have oS:∀ v∈vs,v.oneCell'=true:=λv hv=>by
     rw [DR] at hv;obtain ⟨z,_,rfl⟩:=aP.1 hv;rfl
    have CU:=run_storeCells_at X.P bb off u vs 0 us.toArray w hB (by rw [List.size_toArray];omega) oS;simp only [jP] at CU;have gG:(execOp a.eval o).run X.P w= .ok (.value (.int .i64 (min ys.length m:Nat))) (w.setRow bb (us.toArray.toList.take off++vs++us.toArray.toList.drop (off+vs.length)).toArray):=by
     have PM:Nat.min ys.length m=min ys.length m:=rfl;simp [execOp,ho,resolve,invoke,builtin,Builtin.copy_,run_underlying ht,hx,hlen,sizeOf,typeInfo,ku,hs1,hfc,CU,goInt,PM]
    refine ⟨_,_,gG,E,g,_,.int (min ys.length m:Nat),bw.refl E,bx.refl g,S.back hE (.cells u xC) (bx.refl g) ?_,dB ?_,h⟩
    .have H2:=SL.zA H ((⟨rfl,hB.lt⟩:Wg w bb (us.toArray.toList.take off++vs++us.toArray.toList.drop (off+vs.length)).toArray _).BB hB);refine H2.cz λk ⟨k1,k2,ap,q,s1,s2⟩=>⟨k1,k2,ap,q,⟨bb,_,hE,hrel,?_⟩,s2⟩;have s1':k1 bb=some (.cells (us.toArray.toList.take off++vs++us.toArray.toList.drop (off+vs.length)).toArray u (0,0)):=s1;rw [s1'];simp
    .show (-9223372036854775808:Int)<=(min ys.length m:Nat)/\((min ys.length m:Nat):Int)<=9223372036854775807;omega
   .cases h
  .cases h
 .rename_i et l ht;obtain ⟨hE,DS⟩:=rx;have hQ:=cZ h;clear h;obtain ⟨hc,h⟩:=hQ;rw [ao] at hc;split at h
  .rename_i Ol e xs0 eh;have hQ:=cZ h;clear h;obtain ⟨he,h⟩:=hQ;obtain rfl:=ai he;split at h
   .rename_i xs yL;obtain ⟨q,hq⟩:=ev yL;subst q;have hq:xs=xs0:=hq;subst hq;obtain ⟨ys,MX,_,hK⟩:=HI S ry h;have H:=jN S hE eh;have hx:a.eval x=jg 1 (a.eval x) 0 xs.length:=by
     have H0:SL W g w (BK Ol (a.eval x) xs::_):=H;rcases H0.ahy.ofRow with ⟨hv,hl,_,_⟩| ⟨k',Zy,cur,hv,_⟩;rw [hv,hl];rfl;exact (OE _ _ _ _ hv).symm
    obtain ⟨w',hr,H'⟩:=GW ho ht hc.2 H MX (bz 0) (by omega) hx;refine ⟨_,w',hr,E,g,_,.int (min ys.length xs.length:Nat),bw.refl E,bx.refl g,S.back hE (.sl Ol .u8 (lW xs 0 ys)) (bx.refl g) ?_,?_,hK⟩;exact H'.cz λk ⟨k1,k2,ap,q,s1,s2⟩=>⟨k1,k2,ap,q,⟨_,hE,s1⟩,s2⟩
    .have:=lM (px H);refine dB (m:=(min ys.length (xs.length - (0:Int).toNat):Nat)) ?_;show (-9223372036854775808:Int)<=(min ys.length (xs.length - 0):Nat)/\((min ys.length (xs.length - 0):Nat):Int)<=9223372036854775807;omega
   .cases h
  .cases h
 .rename_i et l sz lo hi ht;obtain ⟨v,hE,hx,DS⟩:=rx;have hQ:=cZ h;clear h;obtain ⟨hc,h⟩:=hQ;simp only [ao] at hc;split at h
  .rename_i Ol e xs0 eh;have hQ:=cZ h;clear h;obtain ⟨he,h⟩:=hQ;obtain rfl:=ai he;split at h
   .rename_i xs yL;obtain ⟨q,hq⟩:=ev yL;subst q;have hq:xs=xs0:=hq;subst hq;obtain ⟨h0,h1,rfl,h⟩:=h;obtain ⟨ys,MX,_,hK⟩:=HI S ry h;have H:=jN S hE eh;obtain rfl:=ai hc.2.2;obtain ⟨w',hr,H'⟩:=GW ho ht hc.2.1 H MX h0 h1 hx;refine ⟨_,w',hr,E,g,_,.int (min ys.length (xs.length - lo.toNat):Nat),bw.refl E,bx.refl g,S.back hE (.sl Ol .u8 (lW xs lo.toNat ys)) (bx.refl g) ?_,?_,hK⟩
    .exact H'.cz λk ⟨k1,k2,ap,q,s1,s2⟩=>⟨k1,k2,ap,q,⟨_,hE,s1⟩,s2⟩
    .have:=lM (px H);refine dB (m:=(min ys.length (xs.length - lo.toNat):Nat)) ?_;show (-9223372036854775808:Int)<=(min ys.length (xs.length - lo.toNat):Nat)/\((min ys.length (xs.length - lo.toNat):Nat):Int)<=9223372036854775807;omega
   .cases h
  .cases h
 .cases h
end
def uQ {κ:Type} [dF κ] (P:Program) (k:TypeId) (hz:Hp) (v:Value) (m:List (κ×Value)):Prop:=
 (v= .map none/\m= [])\/∃ b es clock,v= .map (some b)/\hz b=some (.map es clock)/\lQ P k es clock m
theorem uQ.sub {κ:Type} [dF κ] {P:Program} {k:TypeId} {hz hk:Hp} {v:Value} {m:List (κ×Value)} (h:uQ P k hz v m) (i:hz.sub hk):uQ P k hk v m:=by
 rcases h with h| ⟨b,es,c,h1,h2,h3⟩;exact .inl h;exact .inr ⟨b,es,c,h1,i _ _ h2,h3⟩
theorem uQ.o {κ:Type} [dF κ] {P:Program} {k:TypeId} {hz:Hp} {w:World} {v:Value} {m:List (κ×Value)} {ob:Array MapEntry×Nat} (h:uQ P k hz v m) (i:∀ b o,hz b=some o->w.heap[b]?=some o) (ho:QB hz v ob):V4 P k w v ob m:=by
 rcases h with h| ⟨b,es,c,h1,h2,h3⟩;exact .inl h
 .rcases ho with ho| ⟨b',ho,h4⟩
  .rw [h1] at ho;cases ho
  .rw [h1] at ho;obtain rfl:b=b':=by cases ho;rfl
   rw [h2] at h4;obtain ⟨o1,o2⟩:=ob;have:es=o1/\c=o2:=by
    have:=aj h4;cases this;exact ⟨rfl,rfl⟩
   obtain ⟨rfl,rfl⟩:=this;exact .inr ⟨b,h1,i _ _ h2,h3⟩
theorem uQ.ob {κ:Type} [dF κ] {P:Program} {k:TypeId} {hz:Hp} {v:Value} {m:List (κ×Value)} (h:uQ P k hz v m):∃ ob,QB hz v ob:=by
 rcases h with h| ⟨b,es,c,h1,h2,h3⟩;exact ⟨(#[],0),.inl h.1⟩;exact ⟨(es,c),.inr ⟨b,h1,h2⟩⟩
section
variable {X:Vx} {n:Nat} {W:cQ} {F:List Atom} {b:Bs} {E:Env} {g w:World} {s:Ov} {a:Act} {o:Oper}
variable {P:Program} {T:UTy} {u mb:Nat} {q1 q2 nx:Int} {L:List (Int×rH)} {z:Option rH} {hz h:Hp} {R:List Atom}
theorem YN {P P':Program} {t:TypeId} {k:Kk} (h1:jT P t k=true) (h2:jT P' t k=true) {v:Value} {ob:Array MapEntry×Nat} {r:Nat} {left:List (k.den×Value)} {cur:Option (k.den×Value)} {hh:Hp} (s:(@mD k.den k.key P t v ob r left cur).sat g hh):(@mD k.den k.key P' t v ob r left cur).sat g hh:=by
 letI:=k.key;have wW:WideElems.rg P' t eL=WideElems.rg P t eL:=funext λx=>by unfold WideElems.rg WideElems.rd;rw [wS h2 h1]
 refine ⟨?_,s.2⟩;rcases s.1 with h| ⟨b,since,seen,c0,h3,h4,h5,h6,h7,h8⟩;exact .inl h;exact .inr ⟨b,since,seen,c0,h3,h4,h5,h6,h7,by rw [wW];exact h8⟩
theorem ae8 {t:TypeId} {k:Kk} (h:P.underlying t=some k.tx):jT P t k=true:=by
 unfold jT;rw [h];cases k<;>rfl
theorem Pa {kt tR:TypeId} {e:Ty} {M:List (Int×Nat×e.den)} (H:SL W g w (⟨λg h=>h=hz/\(pmA kt tR e M (ptr mb 0)).sat g h,λm ⟨h1,h2⟩=>⟨h1,Atom.mono _ m h2⟩⟩::R)) (hk:jT P kt .int=true): @uQ Int Kk.int.key P kt hz (.map (some mb)) (sD M)/\∀ b o,hz b=some o->w.heap[b]?=some o:=by
 obtain ⟨k,be,se,ow,h1,h2,ap,rfl,⟨rfl,x,k1,k2,ap2,e2,⟨hv,hu⟩,s3⟩,s4⟩:=H;refine ⟨?_,λb o q=>(ow b o (Hp.fJ q)).2.1⟩;obtain ⟨h',i,s5⟩:=BP (A:=mapA x.2 kt x.1 (sD M)) (by simp) s3;have hx:mb=x.1:=by simpa [ptr] using hv
 obtain ⟨es,c,j1,j2⟩:=Ja (k:=.int) (ae8 (k:=.int) hu) hk s5;rw [hx];exact uQ.sub (hz:=h') (.inr ⟨x.1,es,c,rfl,j1,j2⟩) λb o q=>by rw [e2];exact Hp.sub.right ap2 b o (i b o q)
theorem ajO (S:dg n W F b E g w s a) {l:Nat} {b0:Nat} (h:E[l]?=some (ptr b0 0)) {kt tR:TypeId} {e:Ty} {M:List (Int×Nat×e.den)} (ho:b.obj s l= .ab (.pm kt tR e M)):∃ hz,SL W g w (⟨λg h=>h=hz/\(pmA kt tR e M (ptr b0 0)).sat g h,λm ⟨h1,h2⟩=>⟨h1,Atom.mono _ m h2⟩⟩::dC (bj E 0 (b.heap s)++F) l):=by
 have H:=S.pick h;rw [ho] at H;obtain ⟨k,be,se,ow,h1,h2,ap,q,⟨v',s1,s3⟩,s4⟩:=H;rw [h] at s1;obtain rfl:=aj s1;exact ⟨h1,k,be,se,ow,h1,h2,ap,q,⟨rfl,s3⟩,s4⟩
theorem UT (S:dg n W F b E g w s a) {kt t et:TypeId} {e:Ty} {x:Operand} {l:Nat} {M:List (Int×Nat×e.den)} {K:SV->Ov->Prop} (ho:o.op= .range t x) (hx:a.eval x= .map (some mb)) (ht:X.P.underlying t=some (.map kt et)) (hkt:X.P.underlying kt=some (.int .i64)) (hm: @uQ Int Kk.int.key X.P kt hz (.map (some mb)) (sD M)) (hi:∀ b o,hz b=some o->w.heap[b]?=some o)
  (h:K (.c (.p s.n 0)) (s.new (.ab (.Pd kt l e hz mb M none)))):∃ v w',(execOp a.eval o).run X.P w= .ok (.value v) w'/\Out n W F b E g a K v w':=by
 letI:=Kk.int.key;obtain ⟨ob,eh⟩:=hm.ob;obtain ⟨oo,gG,DS⟩:=UE (hm.o hi eh) ht;refine ⟨ptr w.heap.size 0,w.alloc oo,by simp [execOp,ho,hx,gG],E++ [ptr w.heap.size 0],g,_,.c (.p s.n 0),bw.app E _,bx.refl g,S.new (v:=ptr w.heap.size 0) (bx.refl g) ?_,(show df _ g (.c (.p s.n 0)) _ from ⟨w.heap.size,dX S _,rfl⟩),h⟩;have H1:=(DS S.sat.sl).ahT;have H2:SL W g (w.alloc oo) (ac1 kt hz mb M none (ptr w.heap.size 0)::(bj E 0 (b.heap s)++F)):=
  SL.zE (f:=λx:Nat×Program×(Array MapEntry×Nat)=>[sE (ptr w.heap.size 0=ptr x.1 0/\x.2.1.underlying kt=some (.int .i64)/\QB hz (.map (some mb)) x.2.2),mD x.2.1 kt (.map (some mb)) x.2.2 x.1 (sD M) ((none:Option (Int×Nat×e.den)).map λp=>(p.1,ptr p.2.1 0))]) (w.heap.size,X.P,ob) (H1.o8 ⟨rfl,hkt,eh⟩)
 exact H2.cz λ_ ⟨k1,k2,ap,e,s1,s2⟩=>⟨k1,k2,ap,e,⟨_,dX S _,s1⟩,s2⟩
theorem OI (S:dg n W F b E g w s a) {t:TypeId} {x:Operand} {c:Cl} {K:SV->Ov->Prop} (ho:o.op= .range t x) (r:cr E g c (a.eval x)) (h:OU X b s t c K):
  ∃ v w',(execOp a.eval o).run X.P w= .ok (.value v) w'/\Out n W F b E g a K v w':=by
 unfold OU at h;split at h
 .rename_i z ht;obtain ⟨hx,hz⟩:=r;have H:=S.sat.sl.new (xy.mk' w (.stringIter z 0));refine ⟨_,_,N3 ho ht hx,E++ [ptr w.heap.size 0],g,_,_,bw.app E _,bx.refl g,S.new (v:=ptr w.heap.size 0) (bx.refl g) ?_,(show df _ g (.c (.p s.n 0)) _ from ⟨_,dX S _,rfl⟩),h⟩;exact H.cz λk ⟨k1,k2,ap,q,s1,s2⟩=>⟨k1,k2,ap,q,⟨_,dX S _,hz,_,rfl,s1⟩,s2⟩
 .rename_i kt et l ht;obtain ⟨b0,hE,hx⟩:=r;split at h
  .rename_i kt' tR e M eh;have hQ:=cZ h;clear h;obtain ⟨hc,h⟩:=hQ;rw [ao] at hc;obtain rfl:=ai hc.1;obtain ⟨hz,H⟩:=ajO S hE eh;have hu:=lK hc.2;have S1:dg n W F b E g w (s.dS l (.ab (.pz kt tR e M hz b0))) a:=S.back hE _ (bx.refl g) (H.cz λ_ ⟨k1,k2,ap,q,s1,s2⟩=>⟨k1,k2,ap,q,⟨_,hE,rfl,s1⟩,s2⟩);obtain ⟨_,H2⟩:=TR S1 hE (by rw [ja,if_pos rfl]);obtain ⟨hm,hi⟩:=Pa H2 hc.2;exact UT S1 ho hx ht hu hm hi (h hz b0)
  .cases h
 .cases h
theorem IS (S:dg n W F b E g w s a) {l:Nat} (h:b.obj s l≠ .gone):∃ v,E[l]?=some v:=by
 by_cases hl:l< s.n;exact ⟨E[l]'(by rw [S.len];exact hl),ak _⟩;exact absurd (S.top l (by omega)) h
theorem abv (S:dg n W F b E g w s a) {li bb:Nat} (hE:E[li]?=some (ptr bb 0)) {kt:TypeId} {l:Nat} {e:Ty} {left:List (Int×Nat×e.den)} {cur:Option (Int×Nat×e.den)} (eh:b.obj s li= .ab (.Pd kt l e hz mb left cur)) (hP:jT P kt .int=true):
  ∃ ob,QB hz (.map (some mb)) ob/\SL W g w (@mD Int Kk.int.key P kt (.map (some mb)) ob bb (sD left) (cur.map λp=>(p.1,ptr p.2.1 0))::dC (bj E 0 (b.heap s)++F) li):=by
 have H:=S.pick hE;rw [eh] at H;have H1:SL W g w (ac1 kt hz mb left cur (ptr bb 0)::dC (bj E 0 (b.heap s)++F) li):=H.cz λ_ ⟨k1,k2,ap,e,⟨v',s1,s2⟩,s3⟩=>by
  rw [hE] at s1;obtain rfl:=aj s1;exact ⟨k1,k2,ap,e,s2,s3⟩
 obtain ⟨⟨r,P',ob⟩,H2⟩:=SL.CB H1;obtain ⟨⟨hr,hu,ho⟩,H3⟩:=SL.pure H2;obtain rfl:bb=r:=by simp [ptr] at hr;exact hr
 exact ⟨ob,ho,H3.cz λ_ ⟨k1,k2,ap,e,s1,s2⟩=>⟨k1,k2,ap,e,YN (k:=.int) (ae8 (k:=.int) hu) hP s1,s2⟩⟩
theorem Ya {li bb:Nat} (hE:E[li]?=some (ptr bb 0)) {kt:TypeId} {l:Nat} {e:Ty} {left:List (Int×Nat×e.den)} {cur:Option (Int×Nat×e.den)} {ob:Array MapEntry×Nat} {w':World} (hP:P.underlying kt=some (.int .i64)) (ho:QB hz (.map (some mb)) ob) (H:SL W g w' (@mD Int Kk.int.key P kt (.map (some mb)) ob bb (sD left) (cur.map λp=>(p.1,ptr p.2.1 0))::R)):SL W g w' (cF E li (.ab (.Pd kt l e hz mb left cur))::R):=by
 letI:=Kk.int.key;have H2:SL W g w' (ac1 kt hz mb left cur (ptr bb 0)::R):=
  SL.zE (f:=λx:Nat×Program×(Array MapEntry×Nat)=>[sE (ptr bb 0=ptr x.1 0/\x.2.1.underlying kt=some (.int .i64)/\QB hz (.map (some mb)) x.2.2),mD x.2.1 kt (.map (some mb)) x.2.2 x.1 (sD left) (cur.map λp=>(p.1,ptr p.2.1 0))]) (bb,P,ob) (H.o8 ⟨rfl,hP,ho⟩)
 exact H2.cz λ_ ⟨k1,k2,ap,e,s1,s2⟩=>⟨k1,k2,ap,e,⟨_,hE,s1⟩,s2⟩
theorem UH (S:dg n W F b E g w s a) {x:Operand} {c:Cl} {K:SV->Ov->Prop} (ho:o.op= .next x false) (r:cr E g c (a.eval x)) (h:Yu X.P b s c K):
  ∃ v w',(execOp a.eval o).run X.P w= .ok (.value v) w'/\Out n W F b E g a K v w':=by
 unfold Yu at h;split at h
 .rename_i li;obtain ⟨bb,hE,hx⟩:=r;split at h
  .rename_i kt l e hz mb left cur eh;letI:=Kk.int.key;split at h
   .rename_i kt' tR e' M SH Oe YY;have hQ:=cZ h;clear h;obtain ⟨hc,rfl,rfl,h1,h2⟩:=hQ;rw [ao] at hc;obtain rfl:=ai hc.1;obtain ⟨lv,hEl⟩:=IS S (l:=l) (by rw [YY];exact λe=>by cases e);obtain ⟨rfl,H⟩:=TR S hEl YY;obtain ⟨hmi,hi⟩:=Pa H hc.2;obtain ⟨ob,adA,H1⟩:=abv S hE eh hc.2;have hmo:=hmi.o hi adA;rcases H1.Vf hmo (AK hc.2) o.type with ⟨hl,gG⟩| ⟨x',y',mC,w',hp,hkx,Y2,gG,H2⟩
    .have wX:left= []:=by
      unfold sD at hl;simpa using hl
     exact ⟨_,w,by simp [execOp,ho,hx,ptr,gG],E,g,s,.cJ [.c (.k (.bool false))],bw.refl E,bx.refl g,S,⟨_,⟨_,_,rfl,⟨rfl,rfl⟩,rfl⟩,rfl⟩,h1 wX⟩
    .have uk:(x',y')∈sD left:=hp.mem_iff.2 (by simp);obtain ⟨p,hp1,hp2⟩:=aP.1 uk;obtain ⟨aa,cc,hac⟩:=List.append_of_mem hp1;cases hp2;have hlp:left.Perm (p::(aa++cc)):=by rw [hac];exact List.perm_middle
     have anS:(sD (aa++cc)).Perm mC:=by
      have e1:(sD left).Perm ((p.1,ptr p.2.1 0)::sD (aa++cc)):=hlp.map λp:Int×Nat×e.den=>(p.1,ptr p.2.1 0);exact List.Perm.cons_inv (e1.symm.trans hp)
     have hk:aF .i64 p.1:=inK_wf.2 hkx;have H3:SL W g w' (mD X.P kt (.map (some Oe)) ob bb (sD (aa++cc)) (some (p.1,ptr p.2.1 0))::dC (bj E 0 (b.heap s)++F) li):=H2.cz λ_ ⟨k1,k2,ap,e,s1,s2⟩=>⟨k1,k2,ap,e,PD anS.symm s1,s2⟩;refine ⟨.tuple #[.bool true,dF.val p.1,ptr p.2.1 0],w',by simp [execOp,ho,hx,ptr,gG],E,g,_,.cJ [.c (.k (.bool true)),.c (.k (.int .i64 p.1)),.c (.kl l (ptr p.2.1 0))],bw.refl E,bx.refl g,S.back hE _ (bx.refl g) (Ya (cur:=some p) hE (lK hc.2) adA H3),?_,h2 p.1 p.2.1 p.2.2 (aa++cc) hlp hk⟩;exact ⟨_,⟨_,_,rfl,⟨rfl,rfl⟩,_,_,rfl,⟨rfl,hk⟩,_,_,rfl,⟨⟨_,hEl⟩,rfl,rfl⟩,rfl⟩,rfl⟩
   .cases h
  .cases h
 .cases h
theorem ahk {k:Kk} {x y:k.den} (h: @dF.val k.den k.key x= @dF.val k.den k.key y):x=y:=by
 cases k
 .have:Value.int .i64 x= .int .i64 y:=h;cases this;rfl
 .have:Value.string x= .string y:=h;cases this;rfl
theorem ON (S:dg n W F b E g w s a) {x:Operand} {c:Cl} {K:SV->Prop} (ho:o.op= .entry x) (r:cr E g c (a.eval x)) (h:P0 X.P b s c K):ER X.P o a w E g K:=by
 unfold P0 at h;split at h
 .rename_i li;obtain ⟨bb,hE,hx⟩:=r;split at h
  .rename_i kt l e hz mb left cur eh;letI:=Kk.int.key;split at h
   .rename_i kt' tR e' M SH Oe YY;have hQ:=cZ h;clear h;obtain ⟨hc,x',b',y',rfl,rfl,rfl,h1⟩:=hQ;rw [ao] at hc;obtain rfl:=ai hc.1;obtain ⟨lv,hEl⟩:=IS S (l:=l) (by rw [YY];exact λe=>by cases e);obtain ⟨rfl,H⟩:=TR S hEl YY;obtain ⟨hmi,hi⟩:=Pa H hc.2;obtain ⟨ob,adA,H1⟩:=abv S hE eh hc.2;have hmo:=hmi.o hi adA;have H2:SL W g w (mD X.P kt (.map (some Oe)) ob bb (sD left) (some (x',ptr b' 0))::dC (bj E 0 (b.heap s)++F) li):=H1;have gG:=H2.Vg hmo;obtain ⟨hkx,Y2⟩:=H2.PC hmo (AK hc.2) λ_ _ e=>ahk (k:=.int) e;have hk:aF .i64 x':=inK_wf.2 hkx;refine ⟨_,.cJ [.c (.k (.int .i64 x')),.c (.kl l (ptr b' 0))],by simp [execOp,ho,hx,ptr];rw [gG];rfl,?_,h1 hk⟩;exact ⟨_,⟨_,_,rfl,⟨rfl,hk⟩,_,_,rfl,⟨⟨_,hEl⟩,rfl,rfl⟩,rfl⟩,rfl⟩
   .cases h
  .cases h
 .cases h
end
section
variable {X:Vx} {n:Nat} {W:cQ} {F:List Atom} {b:Bs} {E:Env} {g w:World} {s:Ov} {a:Act} {o:Oper}
variable {P:Program} {T:UTy} {u mb:Nat} {q1 q2 nx:Int} {L:List (Int×rH)} {R:List Atom}
theorem BV (S:dg n W F b E g w s a) {t:TypeId} {x y:Operand} {cx cy:Cl} {K:SV->Ov->Prop} (ho:o.op= .makeSlice t x y) (rx:cr E g cx (a.eval x)) (ry:cr E g cy (a.eval y)) (h:vA X s t cx cy K):
  ∃ v w',(execOp a.eval o).run X.P w= .ok (.value v) w'/\Out n W F b E g a K v w':=by
 unfold vA at h;split at h
 .rename_i et c d ht;have hQ:=cZ h;clear h;obtain ⟨hu,rfl,h0,h1,h⟩:=hQ;obtain ⟨hx,_⟩:=rx;obtain ⟨hy,_⟩:=ry;unfold MS at hu;split at hu
  .rename_i i hq;rw [ao] at hu;obtain ⟨hs,hu⟩:=hu;have hs:=ai hs;split at hu
   .rename_i As;have hb:=ai hu;have hr:=run_make (P:=X.P) w t et i (.int .u8 0) ht hq As .i64 .i64 c c h0 (bz _) (by rw [hb];omega) (by omega);have PQ:madeCells (Value.int .u8 0).cells (c.toNat*i.size)=(bV (av c.toNat 0)).toArray:=by
     rw [hs,Nat.mul_one];apply Array.ext_getElem?;intro j;simp only [madeCells,bV,Value.cells,List.map_replicate];by_cases hj:j< c.toNat
     .simp [hj,Nat.mod_one]
     .simp [hj]
    rw [PQ] at hr;have H1:=S.sat.sl.new (xy.mk' w (.cells (bV (av c.toNat (0:UInt8))).toArray et (0,0)));have H2:=SL.wc (size:=1) (cap:=c.toNat) c.toNat H1 (ay _) (by unfold maxLen;omega) (by simp [bV]);have e1:(bV (av c.toNat (0:UInt8))).toArray.toList.take (c.toNat*1)=bV (av c.toNat 0):=by
     rw [aT (by simp [bV])]
    rw [e1] at H2;have e2:c.toNat=(av c.toNat (0:UInt8)).length:=by simp
    have H3:SL W g _ (pj .u8 et (.slice (some ⟨w.heap.size,0,none⟩) c.toNat c.toNat) (av c.toNat (0:UInt8))::(bj E 0 (b.heap s)++F)):=SL.slB (by rw [aS];exact H2);split at h
    .obtain ⟨g1,m1,H4,hi⟩:= @SL.qt Ty.u8.den Ty.u8.rep _ _ _ _ _ _ _ H3;refine ⟨.slice (some ⟨w.heap.size,0,none⟩) c.toNat c.toNat,_,by simp [execOp,ho,hx,hy,hr];rfl,E++ [_],g1,_,_,bw.app E _,m1,S.new (v:=.slice (some ⟨w.heap.size,0,none⟩) c.toNat c.toNat) m1 ?_,(show df _ g1 (.c (.o s.n)) _ from ⟨dX S _,_,_,_,rfl⟩),h⟩;exact H4.cz λk s2=>⟨λ_=>none,k,λ_=>.inl rfl,rfl,⟨_,dX S _,hi⟩,s2⟩
    refine ⟨.slice (some ⟨w.heap.size,0,none⟩) c.toNat c.toNat,_,by simp [execOp,ho,hx,hy,hr];rfl,E++ [_],g,_,_,bw.app E _,bx.refl g,S.new (v:=.slice (some ⟨w.heap.size,0,none⟩) c.toNat c.toNat) (bx.refl g) ?_,(show df _ g (.c (.o s.n)) _ from ⟨dX S _,_,_,_,rfl⟩),h⟩;exact H3.cz λk ⟨k1,k2,ap,q,s1,s2⟩=>⟨k1,k2,ap,q,⟨_,dX S _,s1⟩,s2⟩
   .cases hu
  .cases hu
 .cases h
end
section
variable {X:Vx} {n:Nat} {W:cQ} {F:List Atom} {b:Bs} {E:Env} {g g' w w':World} {s:Ov} {a:Act} {o:Oper}
theorem dg.split (S:dg n W F b E g w s a) {l:Nat} {u v:Value} {o1 o2:HO} (h:E[l]?=some u) (m:bx g g') (H:SL W g' w' (cF (E++ [v]) l o1::cF (E++ [v]) s.n o2::dC (bj E 0 (b.heap s)++F) l)):dg n W F b (E++ [v]) g' w' ((s.dS l o1).new o2) a:=by
 have hl:=S.lt h;have hln:s.n=(b.heap s).length:=dN.symm;refine ⟨S.size,S.defers,λt u hu=>(S.fr t u hu).mono (bw.app E [v]) m,⟨?_,?_⟩,λk hk=>?_⟩
 .rw [sQ,je hl];refine H.cz λh0 ⟨h1,h2,ap,e,s1,h3,h4,ap2,e2,s2,s3⟩=>?_;have N:=jG (E:=E) (F:=F) (k:=0) (eM (b:=b) hl);rw [bW] at N;have eK:l< (b.heap s).length:=by rw [dN];exact hl
  have h5:=kE (E:=E) (F:=F) (k:=0) (o':=.gone) eK;rw [bW] at h5;have s4:bq g' (bj E 0 ((b.heap s).set l .gone)++F) h4:=by
   rw [<-h5];exact bq.oc N ⟨λ_=>none,h4,λ_=>.inl rfl,by funext b;rfl,trivial,s3⟩
  have s5:=bj.env (bw.app E [v]) s4;have s6:bq g' (bj (E++ [v]) 0 ((b.heap s).set l .gone++ [o2])++F) h2:=by
   rw [oJ,aG,bW,gE,<-hln];exact bq.toEnd ⟨h3,h4,ap2,e2,s2,s5⟩
  have s7:=bq.D6 (E:=E++ [v]) (F:=F) (H:=(b.heap s).set l .gone++ [o2]) (l:=l) (o:=o1) (by simp;omega) ⟨h1,h2,ap,e,s1,s6⟩;have e9:((b.heap s).set l .gone++ [o2]).set l o1=(b.heap s).set l o1++ [o2]:=by
   rw [List.set_append_left _ _ (by rw [gE];exact eK),List.set_set]
  rw [e9] at s7;exact s7
 .rw [sQ,je hl];simp [S.sat.len]
 .have vS:s.n+1<=k:=hk;rw [tJ,if_neg (by show ¬s.n=k;omega),ja,if_neg (by omega)];exact S.top k (by omega)
theorem dg.join (S:dg n W F b E g w s a) {l q:Nat} {u v:Value} {o1:HO} (hl:E[l]?=some u) (hq:E[q]?=some v) (gx:q≠l) (m:bx g g') (k:∀ R,SL W g w (cF E l (b.obj s l)::cF E q (b.obj s q)::R)->SL W g' w' (cF E l o1::R)):dg n W F b E g' w' ((s.dS q .gone).dS l o1) a:=by
 have wX:=S.lt hl;have SK:=S.lt hq;refine ⟨S.size,S.defers,λt u hu=>(S.fr t u hu).mono (bw.refl E) m,⟨?_,?_⟩,λk hk=>?_⟩
 .rw [je (s:=s.dS q .gone) (show l< s.n from wX),je SK];have H1:SL W g w (cF E l (b.obj s l)::cF E q (b.obj s q)::(bj E 0 (((b.heap s).set q .gone).set l .gone)++F)):=S.sat.sl.cz λh0 x=>by
   obtain ⟨h1,h2,ap,e,s1,s2⟩:=bq.rV (eM (b:=b) SK) x;have M4:((b.heap s).set q .gone)[l]?=some (b.obj s l):=by
    rw [List.getElem?_set_ne gx];exact eM wX
   have s3:=bq.rV M4 s2;exact bq.swap ⟨h1,h2,ap,e,s1,s3⟩
  exact (k _ H1).cz λh0 x=>by
   have:=bq.D6 (l:=l) (by simp [dN];exact wX) x;rw [List.set_set] at this;exact this
 .rw [je (s:=s.dS q .gone) (show l< s.n from wX),je SK];simp [S.sat.len]
 .rw [ja,if_neg (by have:s.n<=k:=hk;omega),ja,if_neg (by have:s.n<=k:=hk;omega)];exact S.top k hk
theorem bq.wider:∀ {L:List Atom} {k1 k2:Hp},Hp.apart k1 k2->bq g L k2->bq g L (k1.join k2)
 | [],_,_,_,_=>trivial
 | a::L,k1,k2,ap,⟨m1,m2,ap3,e3,s4,s5⟩=>by
  subst e3;obtain ⟨a1,a2⟩:=Hp.eP.1 ap;refine ⟨m1,k1.join m2,Hp.eP.2 ⟨a1.symm,ap3⟩,?_,s4,bq.wider a2 s5⟩;rw [<-Hp.join_assoc,Hp.join_comm a1,Hp.join_assoc]
theorem bq.XI:∀ {A B:List Atom} {h:Hp},bq g (A++B) h->bq g B h
 | [],_,_,s=>s
 | a::A,B,h,⟨h1,h2,ap,e,_,s2⟩=>by rw [e];exact bq.wider ap (bq.XI s2)
theorem wj {α:Type}:∀ {l:List α} {i:Nat} {x:α},l[i]?=some x->l.set i x=l
 | [],_,_,h=>by simp at h
 | y::l,0,x,h=>by
  obtain rfl:y=x:=by simpa using h
  rfl
 | y::l,i+1,x,h=>by
  rw [List.set_cons_succ,wj (by simpa using h)]
theorem Db {A R:List Atom}:∀ {i:Nat},i< A.length->dC (A++R) i=dC A i++R:=by
 induction A with
 | nil=>intro i h;simp at h
 | cons x A ih=>
  intro i h;cases i with
  | zero=>rfl
  | succ i=>
   show x::dC (A++R) i=x::(dC A i++R);rw [ih (by simpa using h)]
theorem CC {α:Type} {f:α->Atom} {R:List Atom}:∀ {l:List α} {i:Nat} {x:α},l[i]?=some x->wI (l.map f++R) i=some (f x)
 | [],_,_,h=>by simp at h
 | y::l,0,x,h=>by
  obtain rfl:y=x:=by simpa using h
  rfl
 | y::l,i+1,x,h=>CC (l:=l) (i:=i) (by simpa using h)
theorem LL {α:Type} {f:α->Atom} {R:List Atom} {x:α}:∀ {l:List α} {i:Nat},i< l.length->wk (l.map f++R) i (f x)=(l.set i x).map f++R
 | [],_,h=>by simp at h
 | y::l,0,h=>rfl
 | y::l,i+1,h=>by
  show f y::wk (l.map f++R) i (f x)=f y::((l.set i x).map f++R);rw [LL (l:=l) (by simpa using h)]
theorem GS {α:Type} {f:α->Atom}:∀ {l:List α} {i:Nat},dC (l.map f) i=(l.eraseIdx i).map f
 | [],_=>rfl
 | _::l,0=>rfl
 | y::l,i+1=>by
  show f y::dC (l.map f) i=f y::(l.eraseIdx i).map f;rw [GS (l:=l)]
theorem SL.RG {α:Type} {f:α->Atom} {l:List α} {i:Nat} {x:α} {A:Atom} {R:List Atom} (hi:l[i]?=some x) (H:SL W g w (A::(l.map f++R))):SL W g w (f x::A::(dC (l.map f) i++R)):=by
 have eK:=(au.1 hi).1;refine H.cz λh0 ⟨h1,h2,ap,e,s1,s2⟩=>?_;have s3:=bq.pick (CC (f:=f) (R:=R) hi) s2;rw [Db (by rw [bH];exact eK)] at s3;exact bq.swap ⟨h1,h2,ap,e,s1,s3⟩
theorem SL.akK {α:Type} {f:α->Atom} {l:List α} {i:Nat} {x y:α} {A:Atom} {R:List Atom} (hi:l[i]?=some x) (H:SL W g w (f y::A::(dC (l.map f) i++R))):SL W g w (A::((l.set i y).map f++R)):=by
 have eK:=(au.1 hi).1;refine H.cz λh0 s=>?_;obtain ⟨h1,h2,ap,e,s1,s2⟩:=s.swap;refine ⟨h1,h2,ap,e,s1,?_⟩;rw [<-Db (R:=R) (by rw [bH];exact eK)] at s2;have s3:=bq.oc (CC (f:=f) (R:=R) hi) s2;rw [LL eK] at s3;exact s3
theorem agA (S:dg n W F b E g w s a) {l bb:Nat} (hE:E[l]?=some (ptr bb 0)) {kt tI:TypeId} {M:ur} (eh:b.obj s l= .ab (.ch kt tI M)) {P:Program} (hk:wU P kt=true):SL W g w (mapA P kt bb (vE M)::(M.map (Od tI)++dC (bj E 0 (b.heap s)++F) l)):=by
 have H:=S.pick hE;rw [eh] at H;have H1:SL W g w (chA kt tI M (ptr bb 0)::dC (bj E 0 (b.heap s)++F) l):=H.cz λ_ ⟨k1,k2,ap,q,⟨v,h1,h2⟩,h3⟩=>⟨k1,k2,ap,q,by
  rw [hE] at h1;obtain rfl:=aj h1;exact h2,h3⟩
 obtain ⟨⟨mb,P'⟩,H2⟩:=SL.CB H1;obtain ⟨⟨hv,hu⟩,H3⟩:=SL.pure H2;have hbb:bb=mb:=by simpa [ptr] using hv
 subst hbb;exact H3.cz λ_ ⟨k1,k2,ap,q,h1,h2⟩=>⟨k1,k2,ap,q,wN (λv=>zS hu hk v) h1,h2⟩
theorem FJ {t tI:TypeId} {P:Program} (h:HL P t tI=true):(zeroValue t).run P w= .ok (.slice none 0 0) w:=by
 unfold HL at h;split at h
 .rename_i q i hu hi;rw [ao] at h;obtain ⟨_,h⟩:=h;split at h
  .rename_i hz;simp [zeroValue,typeInfo,hi,hz,go_sem]
  .cases h
 .cases h
theorem wZ {M:ur} {key:K3}:(∃ (i:Nat) (v:Value) (xs:List Int),M[i]?=some (key,v,xs)/\iC (vE M) key=some v)\/((∀ p∈M,p.1≠key)/\iC (vE M) key=none):=by
 cases hg:iC (vE M) key with
 | none=>
  right;refine ⟨λp hp e=>?_,rfl⟩;exact (nS.1 hg) (p.1,p.2.1) (aP.2 ⟨p,hp,rfl⟩) e
 | some v=>
  left;have:=oF hg;obtain ⟨p,hp,hq⟩:=aP.1 this;obtain ⟨i,hi⟩:=List.getElem?_of_mem hp;obtain ⟨p1,p2,p3⟩:=p;cases hq;exact ⟨i,_,_,hi,rfl⟩
theorem SA {cs:List Cl} {key:K3} {u:Value} (h:ado cs=some key) (r:gm E g (.agg cs) u):u=dF.val key:=by
 unfold ado at h;split at h
 .rename_i x y z;obtain rfl:=aj h;obtain ⟨us,h1,rfl⟩:=r;obtain ⟨_,_,rfl,⟨rfl,hx⟩,_,_,rfl,⟨rfl,hy⟩,_,_,rfl,⟨rfl,hz⟩,h4⟩:=h1;rw [show _= [] from h4];have key:∀ n:Int,aF .u8 n->((az n.toNat).toNat:Int)=n:=λn hn=>by
   obtain ⟨h0,h1⟩:=hn;rw [UInt8.toNat_ofNat',lS (by omega)];omega
  show _=K3.v _;unfold K3.v;simp only [key x hx,key y hy,key z hz]
 .cases h
theorem Zx (S:dg n W F b E g w s a) {l bb:Nat} (hE:E[l]?=some (ptr bb 0)) {kt tI:TypeId} {M:ur} {P:Program} (hk:wU P kt=true) {key:K3} {val:Value} {st:Option Nat} {R:List Atom} (hR:R=dC (bj E 0 (b.heap s)++F) l) (hnd:((vE M).map (·.1)).Nodup)
  (hv:val=(iC (vE M) key).getD (.slice none 0 0)) (H:SL W g w' (Pt P kt bb M key val st::(M.map (Od tI)++R))):
  ∃ o xs,FindM M key o xs/\dg n W F b (E++ [val]) g w' ((s.dS l (.qk (.ch kt tI M o key st) s.n)).new (.sl tI (.int .i64) xs)) a:=by
 have fin:∀ (o:Option (Nat×Value)) (xs:List Int),aeD M o key st val->SL W g w' (pj (.int .i64) tI val xs::Pt P kt bb M key val st::(Yg (M.map (Od tI)) o++R))->dg n W F b (E++ [val]) g w' ((s.dS l (.qk (.ch kt tI M o key st) s.n)).new (.sl tI (.int .i64) xs)) a:=λo xs ho H2=>by
  subst hR;refine S.split hE (bx.refl g) ?_;have hn:(E++ [val])[s.n]?=some val:=dX S _;have hl:(E++ [val])[l]?=some (ptr bb 0):=bw.app E [val] _ _ hE;have H3:SL W g w' ((HK.ch kt tI M o key st).atom (ptr bb 0) val::pj (.int .i64) tI val xs::dC (bj E 0 (b.heap s)++F) l):=by
   refine SL.zE (bb,P,val) (SL.o8 ⟨rfl,hk,ho,hnd⟩ ?_);refine H2.cz λh0 s0=>?_;obtain ⟨h1,h2,ap,e,s1,s2⟩:=s0.swap;refine ⟨h1,h2,ap,e,s1,?_⟩;obtain ⟨h3,h4,ap2,e2,s3,s4⟩:=s2;have:=bq.toEnd (A:=Yg (M.map (Od tI)) o) ⟨h3,h4,ap2,e2,s3,s4⟩;exact this
  exact H3.cz λh0 ⟨h1,h2,ap,e,s1,h3,h4,ap2,e2,s2,s3⟩=>⟨h1,h2,ap,e,⟨_,_,hl,hn,s1⟩,h3,h4,ap2,e2,⟨_,hn,s2⟩,s3⟩
 rcases wZ (M:=M) (key:=key) with ⟨i,v,xs,hi,hg⟩| ⟨kB,hg⟩
 .rw [hg] at hv;have hv:val=v:=hv;subst hv;exact ⟨some (i,val),xs,.at i val xs hi,fin _ _ ⟨⟨xs,hi⟩,λ_=>rfl⟩ (SL.RG (f:=Od tI) hi H)⟩
 .rw [hg] at hv;have hv:val= .slice none 0 0:=hv;subst hv;letI:=(Ty.int .i64).rep;exact ⟨none,[],.no kB,fin _ _ kB (SL.zD (Ty.int .i64).den tI H)⟩
theorem OO (S:dg n W F b E g w s a) {t:TypeId} {x y:Operand} {mx:Cl} {cs:List Cl} {K:SV->Ov->Prop} (ho:o.op= .lookup t x y false) (rx:cr E g mx (a.eval x)) (ry:gm E g (.agg cs) (a.eval y)) (h:JD X b s t mx cs K):
  ∃ v w',(execOp a.eval o).run X.P w= .ok (.value v) w'/\Out n W F b E g a K v w':=by
 unfold JD at h;split at h
 .rename_i k et l ht;obtain ⟨bb,hE,hx⟩:=rx;split at h
  .rename_i kt tI M key eh CW;have hQ:=cZ h;clear h;obtain ⟨hc,h⟩:=hQ;simp only [ao] at hc;obtain ⟨h1,h2,h3⟩:=hc;obtain rfl:=ai h1;have H:=agA S hE eh h2;have KT:=Je h2;have hy:=SA CW ry;have hl:=(SL.adh H).look false KT ht (FJ h3) key trivial;obtain ⟨oo,xs,hf,S1⟩:=Zx S hE (tI:=tI) h2 (key:=key) (st:=none) rfl ((SL.adh H).nodup KT) rfl H;exact ⟨_,w,xu ho hx hy hl,_,g,_,.c (.o s.n),bw.app E _,bx.refl g,S1,⟨dX S _,by
    cases hf with
    | «at» i v xs hi=>
     rcases wZ (M:=M) (key:=key) with ⟨i',v',xs',pB,hg⟩| ⟨kB,hg⟩
     .rw [hg];letI:=(Ty.int .i64).rep;have H5:=SL.RG (f:=Od tI) pB H;obtain ⟨q,m,cc,hq,_⟩:=nR (e:=.int .i64) (px H5);exact ⟨q,m,cc,hq⟩
     .rw [hg];exact ⟨none,0,0,rfl⟩
    | no kB=>
     rcases wZ (M:=M) (key:=key) with ⟨i',v',xs',pB,hg⟩| ⟨_,hg⟩;exact absurd rfl (kB _ (fc pB))
     .rw [hg];exact ⟨none,0,0,rfl⟩⟩,h oo xs hf⟩
  .cases h
 .cases h
theorem UM (S:dg n W F b E g w s a) {t:TypeId} {x y:Operand} {mx:Cl} {cs:List Cl} {K:SV->Ov->Prop} (ho:o.op= .mapEntry t x y) (rx:cr E g mx (a.eval x)) (ry:gm E g (.agg cs) (a.eval y)) (h:Qe X b s t mx cs K):
  ∃ v w',(execOp a.eval o).run X.P w= .ok (.value v) w'/\Out n W F b E g a K v w':=by
 unfold Qe at h;split at h
 .rename_i k et l ht;obtain ⟨bb,hE,hx⟩:=rx;split at h
  .rename_i kt tI M key eh CW;have hQ:=cZ h;clear h;obtain ⟨hc,hlen,h⟩:=hQ;simp only [ao] at hc;obtain ⟨h1,h2,h3⟩:=hc;obtain rfl:=ai h1;have H:=agA S hE eh h2;have KT:=Je h2;have hy:=SA CW ry;obtain ⟨val,st,w',gG,H1,_,hval⟩:=SL.U8 H KT ht (FJ h3) (by unfold vE;rw [bH];exact hlen) key trivial;obtain ⟨oo,xs,hf,S1⟩:=Zx S hE (tI:=tI) h2 (key:=key) (val:=val) (st:=some st) rfl ((SL.adh H).nodup KT) hval H1;have DS:∃ q m c,val= .slice q m c:=by
    rcases wZ (M:=M) (key:=key) with ⟨i',v',xs',pB,hg⟩| ⟨_,hg⟩
    .rw [hval,hg];letI:=(Ty.int .i64).rep;have H5:=SL.RG (f:=Od tI) pB H;obtain ⟨q,m,cc,hq,_⟩:=nR (e:=.int .i64) (px H5);exact ⟨q,m,cc,hq⟩
    .rw [hval,hg];exact ⟨none,0,0,rfl⟩
   refine ⟨.tuple #[val,goInt st],w',by simp [execOp,ho,hx,hy,gG],_,g,_,.cJ [.c (.o s.n),.c (.kl l (.int .i64 st))],bw.app E _,bx.refl g,S1,?_,h oo xs st hf⟩;exact ⟨_,⟨_,_,rfl,(show cr _ g (.o s.n) val from ⟨dX S _,DS⟩),_,_,rfl,⟨⟨_,bw.app E [val] _ _ hE⟩,rfl,rfl⟩,rfl⟩,rfl⟩
  .cases h
 .cases h
theorem adW {M:ur} {i:Nat} {key:K3} {v:Value} {xs:List Int} (hn:((vE M).map (·.1)).Nodup) (hi:M[i]?=some (key,v,xs)):mF (vE M) key=vE (M.eraseIdx i):=by
 have eK:=(au.1 hi).1;have e0:M=M.take i++(key,v,xs)::M.drop (i+1):=by
  have e1:M.drop i=(key,v,xs)::M.drop (i+1):=by
   rw [cg eK,(au.1 hi).2]
  rw [<-e1,cv]
 have e2:M.eraseIdx i=M.take i++M.drop (i+1):=List.eraseIdx_eq_take_drop_succ M i;rw [e2];unfold vE at hn ⊢;rw [e0,eQ,bX,eQ,bX,fh] at hn;obtain ⟨_,h2,h3⟩:=hn;have h2':=eB.1 h2
 conv=>lhs;rw [e0]
 rw [eQ,bX,eQ];unfold mF;rw [List.filter_append,lU];simp only [decide_true,Bool.not_true,eR,if_false];congr 1
 .refine ka.2 λp hp=>?_;have:p.1≠key:=λe=>h3 p.1 (aP.2 ⟨p,hp,rfl⟩) key (by simp) e;simp [this]
 .refine ka.2 λp hp=>?_;have:p.1≠key:=λe=>h2'.1 (aP.2 ⟨p,hp,e⟩);simp [this]
theorem Zq {M:ur} {key:K3} (h:∀ p∈M,p.1≠key):mF (vE M) key=vE M:=by
 unfold mF;refine ka.2 λp hp=>?_;obtain ⟨q,hq,rfl⟩:=aP.1 hp;have:=h q hq;simp [this]
theorem U6 {κ:Type} [dF κ] {P P':Program} {t:TypeId} (hk:∀ v,keyOf P t v=keyOf P' t v) {bb:Nat} {m:List (κ×Value)} {x:κ} {st:Nat} {g:World} {hh:Hp}:(Gm P t bb m x st).sat g hh->(Gm P' t bb m x st).sat g hh:=by
 rintro ⟨es,clock,h1,h2,h3⟩;obtain ⟨Om,sW,h1',h2'⟩:=wN (g:=g) hk (hh:=hh) ⟨es,clock,h1,h2⟩;rw [h1] at h1';cases h1';exact ⟨es,clock,h1,h2',h3⟩
theorem dg.two (S:dg n W F b E g w s a) {l q:Nat} {u v:Value} (hl:E[l]?=some u) (hq:E[q]?=some v) (gx:q≠l):∃ R,SL W g w (cF E l (b.obj s l)::cF E q (b.obj s q)::R):=by
 refine ⟨bj E 0 (((b.heap s).set q .gone).set l .gone)++F,S.sat.sl.cz λh0 x=>?_⟩;obtain ⟨h1,h2,ap,e,s1,s2⟩:=bq.rV (eM (b:=b) (S.lt hq)) x;have M4:((b.heap s).set q .gone)[l]?=some (b.obj s l):=by
  rw [List.getElem?_set_ne gx];exact eM (S.lt hl)
 exact bq.swap ⟨h1,h2,ap,e,s1,bq.rV M4 s2⟩
theorem acS {tI:TypeId} {M:ur} {o:Option (Nat×Value)}:Yg (M.map (Od tI)) o=(HZ M o).map (Od tI):=by
 cases o with
 | none=>rfl
 | some p=>exact GS
theorem adV {M:ur} {o:Option (Nat×Value)} {key:K3} {st:Option Nat} {vn:Value} (hn:((vE M).map (·.1)).Nodup) (h:aeD M o key st vn):mF (vE M) key=vE (HZ M o):=by
 cases o with
 | none=>exact Zq h
 | some p=>
  obtain ⟨⟨xs,hi⟩,_⟩:=h;exact adW hn hi
theorem UL (S:dg n W F b E g w s a) {t:TypeId} {x y z:Operand} {l:Nat} {st:Cl} {u:S1} {K:Ov->Prop} (ho:o.op= .entryStore t x y z) (rx:cr E g (.m l) (a.eval x)) (ry:cr E g st (a.eval y)) (rz:gm E g u (a.eval z)) (h:Qd X.P b s t l st u K):
  ∃ w',(execOp a.eval o).run X.P w= .ok .skip w'/\∃ g' s',bx g g'/\dg n W F b E g' w' s' a/\K s':=by
 unfold Qd at h;split at h
 .rename_i kt tI M oo key m nn l2 x0 q eh;obtain ⟨bb,hE,hx⟩:=rx;obtain ⟨_,hy,_⟩:=ry;split at h
  .rename_i tq eq xs k et PL ht;have hQ:=cZ h;clear h;obtain ⟨hc,h⟩:=hQ;simp only [ao,bY] at hc;obtain ⟨c1,c2,c3,c4⟩:=hc;obtain rfl:=ai c1;obtain rfl:=ai c3;have gx:q≠l:=λe=>by subst e;simp at c2
   split at h
   .rename_i ys Jl;obtain ⟨qe,e1⟩:=ev Jl;subst qe;obtain ⟨rfl,h⟩:=h;have hEq:E[q]?=some (a.eval z):=(show cr E g (.o q) (a.eval z) from rz).1;have H1:∀ R,SL W g w (cF E l (b.obj s l)::cF E q (b.obj s q)::R)->∃ val,(∃ vn,aeD M oo key (some m) vn)/\((vE M).map (·.1)).Nodup/\SL W g w (Gm X.P k bb (qL (vE M) key val) key m::(Yg (M.map (Od tq)) oo++pj (.int .i64) tq (a.eval z) ys::R)):=λR HR=>by
     rw [eh,PL] at HR;have H2:SL W g w (HK.atom (.ch k tq M oo key (some m)) (ptr bb 0) ((E[nn]?).getD undef)::pj (.int .i64) tq (a.eval z) ys::R):=HR.cz λh0 ⟨h1,h2,ap,e,⟨v,vn,k1,k2,k3⟩,h3,h4,ap2,e2,⟨vz,k4,k5⟩,s3⟩=>⟨h1,h2,ap,e,by
      rw [hE] at k1;obtain rfl:=aj k1;rw [k2];exact k3,h3,h4,ap2,e2,by
      rw [hEq] at k4;obtain rfl:=aj k4;rw [e1];exact k5,s3⟩
     obtain ⟨⟨mb,P,val⟩,H3⟩:=SL.CB H2;obtain ⟨⟨hv,hk,PJ,hnd⟩,H4⟩:=SL.pure H3;have hbb:bb=mb:=by simpa [ptr] using hv
     subst hbb;exact ⟨val,⟨_,PJ⟩,hnd,H4.cz λ_ ⟨k1,k2,ap,q,h1,h2⟩=>⟨k1,k2,ap,q,U6 (λv=>zS hk c4 v) h1,h2⟩⟩
    have KT:=Je c4;obtain ⟨R0,HR0⟩:=S.two hE hEq gx;obtain ⟨val0,_,_,HA⟩:=H1 R0 HR0;obtain ⟨w',gG,_,_⟩:=SL.entryStore HA KT trivial t (a.eval z);refine ⟨w',?_,g,_,bx.refl g,S.join hE hEq gx (o1:=.ab (.ch k tq ((key,a.eval z,ys)::HZ M oo))) (bx.refl g) (λR HR=>?_),h (a.eval z)⟩
    .have YU:(Instr.entryStore t (.map (some bb)) (.int .i64 m) (a.eval z)).run X.P w= .ok () w':=gG;simp [execOp,ho,hx,hy,YU]
    obtain ⟨val,⟨vn,PJ⟩,hnd,HB⟩:=H1 R HR;obtain ⟨w2,aff,HC,_⟩:=SL.entryStore HB KT trivial t (a.eval z);rw [gG] at aff;cases aff;rw [acS] at HC;have e3:qL (vE M) key (a.eval z)=vE ((key,a.eval z,ys)::HZ M oo):=by
     show (key,a.eval z)::mF (vE M) key=_;rw [adV hnd PJ];rfl
    rw [e3] at HC;have HD:SL W g w' (chA k tq ((key,a.eval z,ys)::HZ M oo) (ptr bb 0)::R):=by
     refine SL.zE (bb,X.P) (SL.o8 ⟨rfl,c4⟩ ?_);refine HC.cz λh0 ⟨h1,h2,ap,e,s1,s2⟩=>⟨h1,h2,ap,e,s1,?_⟩;exact bq.oZ s2
    exact HD.cz λh0 ⟨h1,h2,ap,e,s1,s2⟩=>⟨h1,h2,ap,e,⟨_,hE,s1⟩,s2⟩
   .cases h
  .cases h
 .cases h
theorem agz (S:dg n W F b E g w s a) {l bb:Nat} (hE:E[l]?=some (ptr bb 0)) {kt tR:TypeId} {e:Ty} {M:List (Int×Nat×e.den)} (eh:b.obj s l= .ab (.pm kt tR e M)) {P:Program} (hk:jT P kt .int=true):SL W g w (mapA P kt bb (sD M)::(M.map (sY tR e)++dC (bj E 0 (b.heap s)++F) l)):=by
 have H:=S.pick hE;rw [eh] at H;have H1:SL W g w (pmA kt tR e M (ptr bb 0)::dC (bj E 0 (b.heap s)++F) l):=H.cz λ_ ⟨k1,k2,ap,q,⟨v,h1,h2⟩,h3⟩=>⟨k1,k2,ap,q,by
  rw [hE] at h1;obtain rfl:=aj h1;exact h2,h3⟩
 obtain ⟨⟨mb,P'⟩,H2⟩:=SL.CB H1;obtain ⟨⟨hv,hu⟩,H3⟩:=SL.pure H2;have hbb:bb=mb:=by simpa [ptr] using hv
 subst hbb;have hP':jT P' kt .int=true:=by unfold jT;rw [hu]
 exact H3.cz λ_ ⟨k1,k2,ap,q,h1,h2⟩=>⟨k1,k2,ap,q,wN (λv=>wS hP' hk v) h1,h2⟩
theorem Zc {α:Type} {M:List (Int×Nat×α)} {r:Int}:(∃ (i:Nat) (bb:Nat) (x:α),M[i]?=some (r,bb,x)/\iC (sD M) r=some (ptr bb 0))\/((∀ p∈M,p.1≠r)/\iC (sD M) r=none):=by
 cases hg:iC (sD M) r with
 | none=>
  right;exact ⟨λp hp e=>(nS.1 hg) (p.1,ptr p.2.1 0) (aP.2 ⟨p,hp,rfl⟩) e,rfl⟩
 | some v=>
  left;obtain ⟨p,hp,hq⟩:=aP.1 (oF hg);obtain ⟨i,hi⟩:=List.getElem?_of_mem hp;obtain ⟨p1,p2,p3⟩:=p;cases hq;exact ⟨i,_,_,hi,rfl⟩
theorem OJ (S:dg n W F b E g w s a) {t:TypeId} {x y:Operand} {l:Nat} {ky:Cl} {kt tR:TypeId} {e:Ty} {M:List (Int×Nat×e.den)} {K:SV->Ov->Prop} (ho:o.op= .lookup t x y true) (rx:cr E g (.m l) (a.eval x)) (ry:cr E g ky (a.eval y)) (eh:b.obj s l= .ab (.pm kt tR e M)) (h:IK X s t l kt tR e M ky K):
  ∃ v w',(execOp a.eval o).run X.P w= .ok (.value v) w'/\Out n W F b E g a K v w':=by
 unfold IK at h;split at h
 .rename_i k et q ht;obtain ⟨bb,hE,hx⟩:=rx;obtain ⟨hy,hq⟩:=ry;have hQ:=cZ h;clear h;obtain ⟨hc,h1,h2⟩:=hQ;simp only [ao] at hc;obtain ⟨c1,c2,c3⟩:=hc;obtain rfl:=ai c1;have H:=agz S hE eh c2;have KT:=wR (lK c2);have hl:=(SL.adh H).look true KT ht (Po c3) q (inK_wf.1 hq);rcases Zc (M:=M) (r:=q) with ⟨i,pb,xx,hi,hg⟩| ⟨kB,hg⟩
  .rw [hg] at hl;have wX:(Instr.lookup t (.map (some bb)) (.int .i64 q) true).run X.P w= .ok (.tuple #[ptr pb 0,.bool true]) w:=hl;have H5:=SL.RG (f:=sY tR e) hi H;obtain ⟨us,hrel,H6⟩:∃ us,e.rep.rel g us xx/\SL W g w (oP pb us.toArray tR::mapA X.P k bb (sD M)::(dC (M.map (sY tR e)) i++dC (bj E 0 (b.heap s)++F) l)):=by
    obtain ⟨k1,be,se,ow,k2,k3,ap,eq,⟨us,s1,s2⟩,s3⟩:=H5;exact ⟨us,s1,k1,be,se,ow,k2,k3,ap,eq,s2,s3⟩
   obtain ⟨p1,p2⟩:=eY (E++ [ptr pb 0]) g e hrel;have hn:(E++ [ptr pb 0])[s.n]?=some (ptr pb 0):=dX S _;have uG:(E++ [ptr pb 0])[l]?=some (ptr bb 0):=bw.app E _ _ _ hE;have S1:dg n W F b (E++ [ptr pb 0]) g w ((s.dS l (.qk (.pm k tR e M i q pb) s.n)).new (.cells tR (e.cells xx))) a:=by
    refine S.split hE (bx.refl g) ?_;have H7:SL W g w ((HK.pm k tR e M i q pb).atom (ptr bb 0) (ptr pb 0)::oP pb us.toArray tR::dC (bj E 0 (b.heap s)++F) l):=by
     refine SL.zE (bb,X.P) (SL.o8 ⟨rfl,lK c2,⟨xx,hi⟩,rfl⟩ ?_);refine H6.cz λh0 s0=>?_;obtain ⟨k1,k2,ap,e9,s1,s2⟩:=s0.swap;refine ⟨k1,k2,ap,e9,s1,?_⟩;obtain ⟨k3,k4,ap2,e2,s3,s4⟩:=s2;exact bq.toEnd (A:=dC (M.map (sY tR e)) i) ⟨k3,k4,ap2,e2,s3,s4⟩
    exact H7.cz λh0 ⟨k1,k2,ap,e9,s1,k3,k4,ap2,e2,s2,s3⟩=>⟨k1,k2,ap,e9,⟨_,_,uG,hn,s1⟩,k3,k4,ap2,e2,⟨pb,us,hn,p1,s2⟩,s3⟩
   exact ⟨_,w,xu ho hx hy wX,_,g,_,.cJ [.c (.p s.n 0),.c (.k (.bool true))],bw.app E _,bx.refl g,S1,⟨_,⟨_,_,rfl,(show cr (E++ [ptr pb 0]) g (.p s.n 0) _ from ⟨pb,hn,rfl⟩),_,_,rfl,(show cr (E++ [ptr pb 0]) g (.k (.bool true)) _ from ⟨rfl,rfl⟩),rfl⟩,rfl⟩,h2 i pb xx hi p2⟩
  .rw [hg] at hl;have wX:(Instr.lookup t (.map (some bb)) (.int .i64 q) true).run X.P w= .ok (.tuple #[.pointer none,.bool false]) w:=hl;exact ⟨_,w,xu ho hx hy wX,E,g,s,.cJ [.c (.k (.pointer none)),.c (.k (.bool false))],bw.refl E,bx.refl g,S,⟨_,⟨_,_,rfl,(show cr E g (.k (.pointer none)) _ from ⟨rfl,rfl⟩),_,_,rfl,(show cr E g (.k (.bool false)) _ from ⟨rfl,rfl⟩),rfl⟩,rfl⟩,h1 kB⟩
 .cases h
theorem UF (S:dg n W F b E g w s a) {t:TypeId} {x y z:Operand} {l:Nat} {ky:Cl} {u:S1} {kt tR:TypeId} {e:Ty} {M:List (Int×Nat×e.den)} {K:Ov->Prop} (ak3:∀ mv kv vv w',a.eval x=mv->a.eval y=kv->a.eval z=vv->(Instr.mapUpdate t mv kv vv).run X.P w= .ok () w'->(execOp a.eval o).run X.P w= .ok .skip w') (rx:cr E g (.m l) (a.eval x)) (ry:cr E g ky (a.eval y)) (rz:gm E g u (a.eval z)) (eh:b.obj s l= .ab (.pm kt tR e M)) (h:Pb X b s t l kt tR e M ky u K):
  ∃ w',(execOp a.eval o).run X.P w= .ok .skip w'/\∃ g' s',bx g g'/\dg n W F b E g' w' s' a/\K s':=by
 unfold Pb at h;split at h
 .rename_i k et q nn ht;obtain ⟨bb,hE,hx⟩:=rx;obtain ⟨hy,hq⟩:=ry;obtain ⟨pb,hEn,hz⟩:=(show cr E g (.p nn 0) (a.eval z) from rz);split at h
  .rename_i tR' cs apR;have hQ:=cZ h;clear h;obtain ⟨hc,kB,hlen,h⟩:=hQ;simp only [ao,bY] at hc;obtain ⟨c1,c2,c3,c4⟩:=hc;obtain rfl:=ai c1;have H:=agz S hE eh c2;have KT:=wR (lK c2);obtain ⟨w',gG,H1⟩:=H.Pu KT ht (by unfold sD;rw [bH];exact hlen) q (inK_wf.1 hq) (ptr pb 0);have YU:(Instr.mapUpdate t (.map (some bb)) (.int .i64 q) (ptr pb 0)).run X.P w= .ok () w':=gG;have aog:mF (sD M) q=sD M:=by
    unfold mF;refine ka.2 λp hp=>?_;obtain ⟨p0,hp0,rfl⟩:=aP.1 hp;have:=kB p0 hp0;simp [this]
   have e3:qL (sD M) q (ptr pb 0)=sD ((q,pb,e.Nr)::M):=by
    show (q,ptr pb 0)::mF (sD M) q=_;rw [aog];rfl
   rw [e3] at H1;refine ⟨w',ak3 _ _ _ _ hx hy hz YU,g,_,bx.refl g,S.back hE (.qk (.pm k tR e ((q,pb,e.Nr)::M) 0 q pb) nn) (bx.refl g) ?_,h pb⟩;have H2:SL W g w' ((HK.pm k tR e ((q,pb,e.Nr)::M) 0 q pb).atom (ptr bb 0) (ptr pb 0)::dC (bj E 0 (b.heap s)++F) l):=by
    refine SL.zE (bb,X.P) (SL.o8 ⟨rfl,lK c2,⟨_,rfl⟩,rfl⟩ ?_);exact H1
   exact H2.cz λh0 ⟨k1,k2,ap,e9,s1,s2⟩=>⟨k1,k2,ap,e9,⟨_,_,hE,hEn,s1⟩,s2⟩
  .cases h
 .cases h
theorem Vy (S:dg n W F b E g w s a) (l:Nat):dg n W F b E g w (Qa b s l) a:=by
 unfold Qa;split
 .rename_i k q eh;split
  .exact S
  .rename_i gx;have gx:q≠l:=λe=>by subst e;simp at gx
   split
   .rename_i o' kx;have hl:l< s.n:=by
     rcases dZ l s.n with h| h;exact h;rw [S.top l h] at eh;cases eh
    have hq:q< s.n:=by
     rcases dZ q s.n with h| h;exact h
     .rw [S.top q h] at kx;unfold aak at kx;split at kx<;>first| (cases kx;done)| (rename_i heq;cases heq)
    obtain ⟨u,hE⟩:∃ u,E[l]?=some u:=⟨E[l]'(by rw [S.len];exact hl),ak _⟩;obtain ⟨v,hEq⟩:∃ v,E[q]?=some v:=⟨E[q]'(by rw [S.len];exact hq),ak _⟩;refine S.join hE hEq gx (bx.refl g) λR HR=>?_;rw [eh] at HR;unfold aak at kx;split at kx
    .rename_i kt tI M oo key t' e' xs PL;split at kx
     .rename_i ht;obtain rfl:=ai ht;split at kx
      .rename_i ys Jl;obtain ⟨qe,e1⟩:=ev Jl;subst qe;obtain rfl:=aj kx;rw [PL] at HR;have H2:SL W g w (HK.atom (.ch kt t' M oo key none) u v::pj (.int .i64) t' v ys::R):=HR.cz λh0 ⟨h1,h2,ap,e,⟨v1,vn,k1,k2,k3⟩,h3,h4,ap2,e2,⟨vz,k4,k5⟩,s3⟩=>⟨h1,h2,ap,e,by
        rw [hE] at k1;rw [hEq] at k2;obtain rfl:=aj k1;obtain rfl:=aj k2;exact k3,h3,h4,ap2,e2,by
        rw [hEq] at k4;obtain rfl:=aj k4;rw [e1];exact k5,s3⟩
       obtain ⟨⟨mb,P,val⟩,H3⟩:=SL.CB H2;obtain ⟨⟨hv,hk,PJ,hnd⟩,H4⟩:=SL.pure H3;subst hv;have H5:SL W g w (mapA P kt mb (vE (TF M oo key ys))::((TF M oo key ys).map (Od t')++R)):=by
        cases oo with
        | none=>
         refine H4.cz λh0 ⟨k1,k2,ap,q,s1,s2⟩=>⟨k1,k2,ap,q,s1,?_⟩;obtain ⟨k3,k4,ap2,e2,_,s4⟩:=bq.oZ s2;rw [e2];exact bq.wider ap2 s4
        | some p=>
         obtain ⟨i,u2⟩:=p;obtain ⟨⟨xs0,hi⟩,he⟩:=PJ;obtain rfl:=he rfl;have H6:SL W g w (Od t' (key,u2,ys)::mapA P kt mb (vE M)::(dC (M.map (Od t')) i++R)):=H4.cz λh0 ⟨k1,k2,ap,q,s1,s2⟩=>by
          obtain ⟨k3,k4,ap2,e2,s3,s4⟩:=bq.oZ s2;exact bq.swap ⟨k1,k2,ap,q,s1,k3,k4,ap2,e2,s3,s4⟩
         have H7:=SL.akK (f:=Od t') hi H6;have e5:vE (M.set i (key,u2,ys))=vE M:=by
          unfold vE;rw [List.map_set];refine wj ?_;rw [ck,hi];rfl
         show SL W g w (mapA P kt mb (vE (M.set i (key,u2,ys)))::_);rw [e5];exact H7
       have HD:SL W g w (chA kt t' (TF M oo key ys) (ptr mb 0)::R):=SL.zE (mb,P) (SL.o8 ⟨rfl,hk⟩ H5);exact HD.cz λh0 ⟨h1,h2,ap,e,s1,s2⟩=>⟨h1,h2,ap,e,⟨_,hE,s1⟩,s2⟩
      .cases kx
     .cases kx
    .rename_i kt tR e M i key pb t' cs PL;split at kx
     .rename_i ht;obtain rfl:=ai ht;split at kx
      .rename_i x hx;obtain rfl:=aj kx;rw [PL] at HR;have H2:SL W g w (HK.atom (.pm kt t' e M i key pb) u v::cF E q (.cells t' cs)::R):=HR.cz λh0 ⟨h1,h2,ap,e9,⟨v1,vn,k1,k2,k3⟩,s3⟩=>⟨h1,h2,ap,e9,by
        rw [hE] at k1;rw [hEq] at k2;obtain rfl:=aj k1;obtain rfl:=aj k2;exact k3,s3⟩
       obtain ⟨⟨mb,P⟩,H3⟩:=SL.CB H2;obtain ⟨⟨hv,hk,⟨y,hi⟩,hvn⟩,H4⟩:=SL.pure H3;subst hv hvn;have H6:SL W g w (sY t' e (key,pb,x)::mapA P kt mb (sD M)::(dC (M.map (sY t' e)) i++R)):=H4.cz λh0 ⟨k1,k2,ap,q9,s1,s2⟩=>by
        obtain ⟨k3,k4,ap2,e2,⟨b9,us,g1,g2,g3⟩,s4⟩:=bq.oZ s2;refine bq.swap ⟨k1,k2,ap,q9,s1,k3,k4,ap2,e2,?_,s4⟩;rw [hEq] at g1;have hb9:b9=pb:=by
         have:=aj g1;simpa [ptr] using this.symm
        subst hb9;obtain ⟨u1,u2,e5,h5,h6⟩:=of_cells e hx g2;obtain rfl:u2= []:=h6;rw [aW] at e5;subst e5;exact ⟨us,h5,g3⟩
       have H7:=SL.akK (f:=sY t' e) hi H6;have e5:sD (M.set i (key,pb,x))=sD M:=by
        unfold sD;rw [List.map_set];refine wj ?_;rw [ck,hi];rfl
       have HD:SL W g w (pmA kt t' e (M.set i (key,pb,x)) (ptr mb 0)::R):=SL.zE (mb,P) (SL.o8 ⟨rfl,hk⟩ (by rw [e5];exact H7));exact HD.cz λh0 ⟨h1,h2,ap,e,s1,s2⟩=>⟨h1,h2,ap,e,⟨_,hE,s1⟩,s2⟩
      .cases kx
     .cases kx
    .cases kx
   .exact S
 .exact S
theorem Vz (S:dg n W F b E g w s a) (l:Nat):∃ g',bx g g'/\dg n W F b E g' w (Qc b s l) a:=by
 unfold Qc;split
 .rename_i t e xs i off q eh;split
  .exact ⟨g,bx.refl g,S⟩
  .rename_i gx;have gx:q≠l:=λe=>by subst e;simp at gx
   split
   .rename_i t' e' ys PL;split
    .rename_i x' hof;obtain ⟨u,hE⟩:=IS S (l:=l) (by rw [eh];exact λe=>by cases e);obtain ⟨v,hEq,_⟩:=abu S hE eh;letI:=e'.rep;obtain ⟨g1,m1,H1,hi⟩:=SL.qt (α:=e'.den) (jN S hEq PL);have S1:dg n W F b E g1 w (s.dS q (.held t' e' ys)) a:=S.back hEq _ m1 (H1.cz λk s2=>⟨λ_=>none,k,λ_=>.inl rfl,rfl,(show (cF E q (.held t' e' ys)).sat g1 _ from ⟨v,hEq,hi⟩),s2⟩);have anI:b.obj (s.dS q (.held t' e' ys)) l= .qk (.sf t e xs i off) q:=by rw [ja,if_neg gx];exact eh
     obtain ⟨v2,hE2,H2⟩:=abu S1 hE anI;rw [hEq] at hE2;obtain rfl:=aj hE2;refine ⟨g1,m1,S1.back hE _ (bx.refl g1) (H2.cz λk ⟨k1,k2,ap,e1,⟨cs,s1,⟨q1,q2,q3,q4,q5⟩,_,s3⟩,s4⟩=>⟨k1,k2,ap,e1,⟨u,hE,cs,s3 g1 (bx.refl g1) E (.d e' ys) hi x' hof,?_⟩,s4⟩)⟩;rw [gE,Ty.gp e];exact s1
    .exact ⟨g,bx.refl g,S⟩
   .exact ⟨g,bx.refl g,S⟩
 .exact ⟨g,bx.refl g,S⟩
theorem Dh:∀ (ls:List Nat) {s:Ov} {g:World},dg n W F b E g w s a->∃ g',bx g g'/\dg n W F b E g' w (JC b ls s) a
 | [],_,g,S=>⟨g,bx.refl g,S⟩
 | l::r,_,_,S=>by
  obtain ⟨g1,m1,S1⟩:=Vz S l;obtain ⟨g2,m2,S2⟩:=Dh r S1;exact ⟨g2,m1.trans m2,S2⟩
theorem G5 (c:Bool) (S:dg n W F b E g w s a):∃ g',bx g g'/\dg n W F b E g' w (Zw c b s) a:=by
 cases c;exact ⟨g,bx.refl g,S⟩;exact Dh _ S
theorem G0:∀ (ls:List Nat) {s:Ov},dg n W F b E g w s a->dg n W F b E g w (Qb b ls s) a
 | [],_,S=>S
 | l::r,_,S=>G0 r (Vy S l)
theorem GZ (c:Bool) (S:dg n W F b E g w s a):dg n W F b E g w (Df c b s) a:=by
 cases c;exact S;exact G0 _ S
end
def jb (W:cQ) (P:Program) (L:List (Nat×Ct)):Prop:=∀ p∈L,∀ args H Q,p.2 args H Q->WpW W P p.1 args H Q
def ir (I:cQ->Prop) (P:Program) (L:List (Nat×Ct)):Prop:=∀ p∈L,∀ args H Q,p.2 args H Q->Wp I P p.1 args H Q
theorem ir.nil (I:cQ->Prop) (P:Program):ir I P []:=λ_ h=>by cases h
theorem ir.at {I:cQ->Prop} {P:Program} {L:List (Nat×Ct)} (h:ir I P L) {W:cQ} (hW:I W):jb W P L:=λp hp args H Q hc=>h p hp args H Q hc W hW
theorem ir.cons {I:cQ->Prop} {P:Program} {L:List (Nat×Ct)} {f:Nat} {c:Ct} (h:∀ args H Q,c args H Q->Wp I P f args H Q) (k:ir I P L):ir I P ((f,c)::L):=λp hp=>by
 rcases bm.1 hp with rfl| hp;exact h;exact k p hp
theorem jb.look {W:cQ} {P:Program}:∀ {L:List (Nat×Ct)},jb W P L->∀ f args H Q,zP L f args H Q->WpW W P f args H Q
 | [],_,_,_,_,_,h=>h.elim
 | (k,c)::r,hL,f,args,H,Q,h=>by
  unfold zP at h;by_cases e:k=f
  .subst e;have hb:Nat.beq k k=true:=by simp
   rw [hb] at h;exact hL _ (aX ..) _ _ _ h
  .rw [ij e] at h;exact jb.look (λp hp=>hL p (aH _ hp)) f args H Q h
section
variable {X:Vx} {n:Nat} {W:cQ} {F:List Atom} {b:Bs} {E:Env} {g w:World} {s:Ov} {a:Act} {o:Oper} {K:SV->Ov->Prop}
theorem fC {x:Operand} {k:SV->Prop} (h:qj b s x k):∃ v,fe b s x=some v/\k v:=by
 unfold qj at h;split at h
 rename_i v hv;exact ⟨v,hv,h⟩;cases h
theorem dM {x:Operand} {k:Cl->Prop} (h:nJ b s x k):∃ c,fe b s x=some (.v (.c c))/\k c:=by
 unfold nJ at h;split at h
 rename_i c hc;exact ⟨c,hc,h⟩;cases h
theorem Out.here (S:dg n W F b E g w s a) {v:Value} {sv:SV} (r:df E g sv v) (h:K sv s):Out n W F b E g a K v w:=⟨E,g,s,sv,bw.refl E,bx.refl g,S,r,h⟩
theorem k8.val {v:Value} {w':World} {R:Value->World->Prop} {P:Program} (h:(execOp a.eval o).run P w= .ok (.value v) w') (k:R v w'):k8 P o a w R:=.inl ⟨v,w',h,k⟩
theorem k8.er (S:dg n W F b E g w s a) (h:ER X.P o a w E g λr=>K r s):k8 X.P o a w (Out n W F b E g a K):=by
 obtain ⟨v,sv,h1,h2,h3⟩:=h;exact k8.val h1 (Out.here S h2 h3)
theorem k8.ex (h:∃ v w',(execOp a.eval o).run X.P w= .ok (.value v) w'/\Out n W F b E g a K v w'):k8 X.P o a w (Out n W F b E g a K):=.inl h
theorem tc {q:Bool} {p r:Prop} (h:br q p r):(q=true/\p)\/(q=false/\r):=by
 cases q;exact .inr ⟨rfl,h⟩;exact .inl ⟨rfl,h⟩
theorem tG (S:dg n W F b E g w s a) {q:Option Operand} {k:Option SV->Prop} (h:wE b s q k):∃ l,k l/\∀ i,intOf l=some i->rk a q i:=by
 unfold wE at h;split at h;exact ⟨none,h,λi hi=>.inl ⟨rfl,(aj hi).symm⟩⟩
 .rename_i y;obtain ⟨v,hv,h⟩:=fC h;refine ⟨some v,h,λi hi=>?_⟩;unfold intOf at hi;split at hi
  .rename_i heq;cases heq
  .rename_i m heq;cases heq;exact .inr ⟨y,m,rfl,(aj hi).symm,(gS (S.fe hv)).1⟩
  .cases hi
theorem G6:∀ {l:List SV} {cs:List Cl} {us:List Value},JE l=some cs->bC E g l us->bA E g cs us
 | [],cs,us,h,r=>by
  obtain rfl: []=cs:=aj h;exact r
 | v::r,cs,us,h,⟨u,q,e,h1,h2⟩=>by
  subst e;unfold JE at h;split at h
  .rename_i heq;cases heq
  .rename_i c r' heq;cases heq;split at h
   .rename_i l hl;obtain rfl:c::l=cs:=aj h;exact bA.cons h1 (G6 hl h2)
   .cases h
  .cases h
theorem tD {c:SV} {us:List Value} (h:bC E g [c] us):∃ u,us= [u]/\df E g c u:=by
 obtain ⟨u,r,e,h1,h2⟩:=h;exact ⟨u,by rw [e,show r= [] from h2],h1⟩
theorem nK {c d:SV} {us:List Value} (h:bC E g [c,d] us):∃ u v,us= [u,v]/\df E g c u/\df E g d v:=by
 obtain ⟨u,r,e,h1,h2⟩:=h;obtain ⟨v,e2,h3⟩:=tD h2;exact ⟨u,v,by rw [e,e2],h1,h3⟩
theorem al7 {α β:Type} {f:α->β} {l:Array α} {u:β} (h:l.toList.map f= [u]):∃ x,l= #[x]/\f x=u:=by
 obtain ⟨l⟩:=l;simp only at h
 match l,h with
 | [x],h=>exact ⟨x,rfl,by simpa using h⟩
theorem aeA {α β:Type} {f:α->β} {l:Array α} {u v:β} (h:l.toList.map f= [u,v]):∃ x y,l= #[x,y]/\f x=u/\f y=v:=by
 obtain ⟨l⟩:=l;simp only at h
 match l,h with
 | [x,y],h=>
  simp at h;exact ⟨x,y,rfl,h.1,h.2⟩
theorem VT {α:Type} {l:Array α} {t:List α} (h:l.toList=t):l=t.toArray:=by
 subst h;simp
theorem Lr (S:dg n W F b E g w s a) {c:Call} {bi:Builtin} {args:List SV} (ho:o.op= .call c) (hc:c.callee= .builtin bi) (ha:Ap b s c.args.toList=some args) (h:pG X b s bi args c.argTypes.toList K):k8 X.P o a w (Out n W F b E g a K):=by
 have hv:=tH S ha;obtain ⟨callee,cargs,ctys⟩:=c;simp only at hc ha hv h;subst hc;unfold pG at h;split at h
 .split at h
  .rename_i x t YR;obtain ⟨u,e,hu⟩:=tD hv;obtain ⟨ox,rfl,rfl⟩:=al7 e;obtain rfl:=VT YR;exact k8.er S (LQ S ho hu h)
  .cases h
 .split at h
  .rename_i x y t t2 YR;obtain ⟨u,v,e,hu,Wa⟩:=nK hv;obtain ⟨ox,oy,rfl,rfl,rfl⟩:=aeA e;obtain rfl:=VT YR;exact k8.ex (LZ S ho hu Wa h)
  .cases h
 .split at h
  .rename_i x y t t2 YR;obtain ⟨u,v,e,hu,Wa⟩:=nK hv;obtain ⟨ox,oy,rfl,rfl,rfl⟩:=aeA e;obtain rfl:=VT YR;exact k8.ex (UI S ho hu Wa h)
  .cases h
 .split at h
  .rename_i x y t t2 YR;obtain ⟨u,v,e,hu,Wa⟩:=nK hv;obtain ⟨ox,oy,rfl,rfl,rfl⟩:=aeA e;obtain rfl:=VT YR;exact k8.er S (RQ (mn:=true) ho hu Wa h)
  .cases h
 .split at h
  .rename_i x y t t2 YR;obtain ⟨u,v,e,hu,Wa⟩:=nK hv;obtain ⟨ox,oy,rfl,rfl,rfl⟩:=aeA e;obtain rfl:=VT YR;exact k8.er S (RQ (mn:=false) ho hu Wa h)
  .cases h
 .cases h
theorem GC:∀ {args:List SV} {us:List Value} {s:Ov} {g:World} {k:List SV->Ov->Prop},dg n W F b E g w s a->bC E g args us->vF b args s k->∃ g' s' args',bx g g'/\dg n W F b E g' w s' a/\bC E g' args' us/\k args' s'
 | [],us,s,g,k,S,hv,h=>⟨g,s,[],bx.refl g,S,hv,h⟩
 | v::r,us,s,g,k,S,⟨u,q,e,h1,h2⟩,h=>by
  subst e;have more:∀ {v':SV} {g1:World} {s1:Ov},bx g g1->dg n W F b E g1 w s1 a->df E g1 v' u->(vF b r s1 λr' s'=>k (v'::r') s')->∃ g' s' args',bx g g'/\dg n W F b E g' w s' a/\bC E g' args' (u::q)/\k args' s':=λ{v' g1 s1} m1 S1 hu h=>by
   have h2':bC E g1 r q:=by
    have key:∀ {l:List SV} {us:List Value},bC E g l us->bC E g1 l us:=by
     intro l
     induction l with
     | nil=>intro us h;exact h
     | cons c l ih=>
      rintro us ⟨u,r,e,h1,h2⟩;exact ⟨u,r,e,h1.mono (bw.refl E) m1,ih h2⟩
    exact key h2
   obtain ⟨g2,s2,r',m2,S2,hr,hk⟩:=GC S1 h2' h;exact ⟨g2,s2,v'::r',m1.trans m2,S2,⟨u,q,rfl,hu.mono (bw.refl E) m2,hr⟩,hk⟩
  unfold vF at h;split at h
  .rename_i c;have hc:bA E g [c] [u]:=⟨u,[],rfl,h1,rfl⟩;obtain ⟨g1,s1,cs,m1,S1,wY,h⟩:=gH S hc h;split at h
   .rename_i c';obtain ⟨u',q',e',h3,h4⟩:=wY;obtain rfl:u=u':=(List.cons.inj e').1;exact more m1 S1 (v':=.v (.c c')) h3 h
   .cases h
  .rename_i l;obtain ⟨us,hu,rfl⟩:=h1;obtain ⟨g1,s1,cs,m1,S1,wY,h⟩:=gH S hu h;exact more m1 S1 (v':=.v (.agg cs)) ⟨us,wY,rfl⟩ h
  .exact more (bx.refl g) S h1 h
theorem Xv (jx:jb W X.P X.ct) (S:dg n W F b E g w s a) {c:Call} (ho:o.op= .call c) (h:BA X b s c K):k8 X.P o a w (Out n W F b E g a K):=by
 unfold BA at h;split at h;cases h
 .rename_i args ha;split at h
  .rename_i fo hc;obtain ⟨q,hq,h⟩:=dM h;split at h
   .rename_i f caps;obtain ⟨hk,h⟩:=cZ h;obtain ⟨us,h1,h2⟩:=S.fe hq;refine .inr (.inr ⟨f,_,XT ho hc h2 hk,?_⟩);have hv:=bC.app (tH S ha) (BZ h1);have e:(c.args.map a.eval++us.toArray)=(List.map a.eval c.args.toList++us).toArray:=by simp
    rw [e];split at h
    .obtain ⟨g1,s1,args',m1,S1,hv1,h⟩:=GC S hv h;have:=tB (P:=X.P) jx.look S1 hv1 h;exact this.mono λv w' ⟨E',g',s',sv,q1,q2,q3⟩=>⟨E',g',s',sv,q1,m1.trans q2,q3⟩
    .split at h
     .exact FT (P:=X.P) jx.look S hv h
     .exact tB (P:=X.P) jx.look S hv h
   .cases h
  .rename_i bi hc;exact Lr S ho hc ha h
  .rename_i ro name hc;obtain ⟨q,hq,h⟩:=dM h;split at h
   .rename_i t r;split at h
    .rename_i f hf;obtain ⟨hk,h⟩:=cZ h;obtain ⟨u,h1,h2⟩:=S.fe hq;refine .inr (.inr ⟨f,_,OL ho hc h2 hf hk,?_⟩);have hv:bC E g (.v (.c r)::args) (u::List.map a.eval c.args.toList):=⟨u,_,rfl,h1,tH S ha⟩;have e:(#[u]++c.args.map a.eval)=(u::List.map a.eval c.args.toList).toArray:=by simp
     rw [e];split at h;exact FT (P:=X.P) jx.look S hv h;exact tB (P:=X.P) jx.look S hv h
    .cases h
   .cases h
theorem US {g':World} {u:S1} {cs:List Cl} {v:Value} (r:gm E g u v) (h:bA E g' cs v.cells.toList):gm E g' (XX u cs) v:=by
 cases u with
 | c x=>
  have hr:cr E g x v:=r;rw [nM hr.one] at h
  match cs,h with
  | [d],⟨u',q,e1,h1,h2⟩=>
   obtain ⟨rfl,_⟩:=List.cons.inj e1;exact h1
  | [],h=>cases (show [v]= [] from h)
  | _::_::_,⟨_,_,e1,_,_,_,e2,_⟩=>
   obtain ⟨_,rfl⟩:=List.cons.inj e1;cases e2
 | agg l=>
  obtain ⟨us,h1,rfl⟩:=r;have hc:(Value.agg us.toArray).cells.toList=us:=by simp [Value.cells]
  rw [hc] at h;have:XX (.agg l) cs= .agg cs:=rfl;rw [this];exact ⟨us,h,rfl⟩
theorem Sa {c:Cl} {l:Nat} {kt tR:TypeId} {e:Ty} {M:List (Int×Nat×e.den)} (h:ac0 b s c=some (l,⟨kt,tR,e,M⟩)):c= .m l/\b.obj s l= .ab (.pm kt tR e M):=by
 unfold ac0 at h;split at h
 .split at h
  .rename_i eh;cases h;exact ⟨rfl,eh⟩
  .cases h
 .cases h
theorem Xu (jx:jb W X.P X.ct) (S:dg n W F b E g w s a) (h:Lq X b s o K):k8 X.P o a w (Out n W F b E g a K):=by
 unfold Lq at h;split at h
 .rename_i x ho;obtain ⟨v,hv,h⟩:=fC h;exact k8.val (by simp [execOp,ho]) (Out.here S (S.fe hv) h)
 .rename_i x ho;obtain ⟨v,hv,h⟩:=fC h;exact k8.val (by simp [execOp,ho]) (Out.here S (S.fe hv) h)
 .rename_i c x y ho;obtain ⟨q,hq,h⟩:=dM h;obtain ⟨v,hv,h⟩:=fC h;obtain ⟨u,hu,h⟩:=fC h;split at h
  .rename_i z;obtain ⟨hz,_⟩:=S.fe hq;rcases tc h with ⟨e,h⟩| ⟨e,h⟩<;>subst e
   .exact k8.val (v:=a.eval x) (by simp [execOp,ho,hz,asBool]) (Out.here S (S.fe hv) h)
   .exact k8.val (v:=a.eval y) (by simp [execOp,ho,hz,asBool]) (Out.here S (S.fe hu) h)
  .cases h
 .rename_i op t x y yt ho;obtain ⟨v,hv,h⟩:=fC h;obtain ⟨u,hu,h⟩:=fC h;exact k8.er S (ER.of (m:=(do eqGuard op t x y (a.eval x) (a.eval y);binOp op t (a.eval x) (a.eval y))) (by simp [execOp,ho]) (LV S (S.fe hv) (S.fe hu) h))
 .rename_i op t x ho;obtain ⟨v,hv,h⟩:=fC h;exact k8.er S (ER.of (m:=Op.unary op (a.eval x)) (by simp [execOp,ho]) (RP (S.fe hv) h))
 .rename_i x i ho;obtain ⟨v,hv,h⟩:=fC h;split at h
  .split at h
   .rename_i l c hc;obtain ⟨us,h1,h2⟩:=S.fe hv;obtain ⟨u,h3,h4⟩:=h1.get hc;exact k8.val (v:=u) (by simp [execOp,ho,h2,Instr.extract,h3]) (Out.here S (sv:=.v c) h4 h)
   .cases h
  .cases h
 .rename_i t x j ho;obtain ⟨v,hv,h⟩:=fC h;split at h
  .split at h
   .rename_i f hf;split at h
    .rename_i r hr;exact k8.er S (FQ ho (S.fe hv) hf hr h)
    .cases h
   .cases h
  .cases h
 .rename_i t x ho;obtain ⟨c,hc,h⟩:=dM h;exact k8.er S (ER.of (m:=Instr.loadAt t (a.eval x)) (by simp [execOp,ho]) (xO S (S.fe hc) h))
 .rename_i t x y ho;obtain ⟨c,hc,h⟩:=dM h;obtain ⟨u,hu,h⟩:=fC h;split at h
  .rename_i uu;have vQ:BF X.P b s t c uu (λs'=>K .tx s')->k8 X.P o a w (Out n W F b E g a K):=λh=>by
    obtain ⟨w',s',h1,h2,h3⟩:=BT S ho (S.fe hc) (S.fe hu) h;exact .inr (.inl ⟨w',h1,E,g,s',.tx,bw.refl E,bx.refl g,h2,iY,h3⟩)
   split at h
   .split at h
    .obtain ⟨w',s',h1,h2,h3⟩:=LO S ho (S.fe hc) (S.fe hu) h;exact .inr (.inl ⟨w',h1,E,g,s',.tx,bw.refl E,bx.refl g,h2,iY,h3⟩)
    obtain ⟨g1,s1,cs,m1,S2,wY,h9⟩:=gH S (gm.cells (S.fe hu)) h;obtain ⟨w',s',h1,h2,h3⟩:=BT S2 ho (cr.mono (bw.refl E) m1 (S.fe hc)) (US (S.fe hu) wY) h9;exact .inr (.inl ⟨w',h1,E,g1,s',.tx,bw.refl E,m1,h2,iY,h3⟩)
   .exact vQ h
  .obtain ⟨w',s',h1,h2,h3⟩:=HX S ho (S.fe hc) (S.fe hu) h;exact .inr (.inl ⟨w',h1,E,g,s',.tx,bw.refl E,bx.refl g,h2,iY,h3⟩)
  .cases h
 .rename_i t ho;split at h
  .rename_i z hz;split at h
   .rename_i ha;obtain ⟨hz2,h⟩:=cZ h;exact k8.ex (L1 S ho hz ha hz2 h)
   .exact k8.ex (UO S ho hz h)
  .cases h
 .rename_i t x ho;obtain ⟨v,hv,h⟩:=fC h;split at h
  .exact k8.ex (acR S ho (S.fe hv) h)
  .split at h
   .rename_i ha;have h9:=cZ h;clear h;obtain ⟨hk,hl,h⟩:=h9;have hk:=IntKind.eq_of_beq hk;subst hk;exact k8.ex (UN S ho (S.fe hv) ha hl h)
   .cases h
  .cases h
 .rename_i x ho;obtain ⟨c,hc,h⟩:=dM h;have r:=S.fe hc;have key:∀ q:Addr,a.eval x= .pointer (some q)->(execOp a.eval o).run X.P w= .ok (.value (a.eval x)) w:=λq hq=>by simp [execOp,ho,hq]
  split at h
  .obtain ⟨bb,h1,h2⟩:=r;exact k8.val (key _ h2) (Out.here S (S.fe hc) h)
  .obtain ⟨h0,v,h1,h2⟩:=r;obtain ⟨cs,h3,_⟩:=Ab h1 h0.1 h0.2.1;obtain ⟨q,hq,_⟩:=h3 g (bx.refl g);rw [hq] at h2;exact k8.val (key _ h2) (Out.here S (S.fe hc) h)
  .obtain ⟨v,h1,h2,q,hq⟩:=r;exact k8.val (key _ hq) (Out.here S (S.fe hc) h)
  exact k8.val (key _ r.2.1) (Out.here S (S.fe hc) h);cases h
 .rename_i t x j ho;obtain ⟨c,hc,h⟩:=dM h;split at h
  .rename_i f hf;split at h
   .rename_i ie ku;obtain ⟨hs,h⟩:=cZ h;split at h
    .rename_i c' M7;obtain ⟨v,h1,h2⟩:=FU (w:=w) ho (S.fe hc) hf ku hs M7;exact k8.val h1 (Out.here S (sv:=.c c') h2 h)
    .cases h
   .cases h
  .cases h
 .rename_i t x i ho;obtain ⟨c,hc,h⟩:=dM h;obtain ⟨q,hq,h⟩:=dM h;split at h
  exact k8.er S (r6 S ho (S.fe hc) (gS (S.fe hq)).1 h);cases h
 .rename_i t x i ho;obtain ⟨c,hc,h⟩:=dM h;obtain ⟨q,hq,h⟩:=dM h;split at h
  .obtain ⟨h0,h1,h⟩:=h;exact k8.er S (FP ho (by assumption) (S.fe hc).1 (S.fe hq).1 h0 h1 h)
  .cases h
 .rename_i t x lo hi ho;obtain ⟨c,hc,h⟩:=dM h;obtain ⟨l,h,hl⟩:=tG S h;obtain ⟨m,h,hm⟩:=tG S h;split at h
  .rename_i i j pB CX;exact k8.er S (BU S ho (S.fe hc) (hl _ pB) (hm _ CX) h)
  .cases h
 .rename_i t x lo hi y ho;obtain ⟨c,hc,h⟩:=dM h;obtain ⟨l,h,hl⟩:=tG S h;obtain ⟨m,h,hm⟩:=tG S h;obtain ⟨q,hq,h⟩:=dM h;split at h
  .rename_i i j m pB CX;exact k8.er S (LN ho (S.fe hc) (hl _ pB) (hm _ CX) (gS (S.fe hq)).1 S.m h)
  .cases h
 .rename_i t x ho;obtain ⟨c,hc,h⟩:=dM h;exact k8.er S (LY ho (S.fe hc) h)
 .rename_i t ps ho;split at h
  .rename_i l hl;exact k8.er S (BY ho (tF S hl) h)
  .cases h
 .rename_i t m ps ho;split at h
  .rename_i l hl;exact k8.ex (Al S ho (tF S hl) h)
  .cases h
 .rename_i src dst x ho;obtain ⟨v,hv,h⟩:=fC h;exact k8.ex (UJ S ho (S.fe hv) h)
 .rename_i f first captured ho
  obtain ⟨hf,h⟩:=cZ h;split at h
  .rename_i l hl;split at h
   .rename_i cs wY;have r:=G6 wY (tH S hl);have hf':first= #[]:=Array.isEmpty_iff.1 hf
    refine k8.val (v:=.func (.func f) #[] (captured.toList.map a.eval).toArray) ?_ (Out.here S (sv:=.c (.fn f cs)) ⟨_,r,rfl⟩ h);subst hf';have e:captured.map a.eval=(captured.toList.map a.eval).toArray:=by
     apply Array.ext';simp
    simp [execOp,ho,Instr.makeFunc,e]
   .cases h
  .cases h
 .rename_i t x ho;obtain ⟨c,hc,h⟩:=dM h;exact k8.er S (OM ho (S.fe hc) h)
 .rename_i x t0 t ho;obtain ⟨c,hc,h⟩:=dM h;exact k8.er S (LW ho (S.fe hc) h)
 .rename_i x t0 t ho;obtain ⟨c,hc,h⟩:=dM h;exact k8.er S (LX ho (S.fe hc) h)
 .rename_i t ho;exact k8.ex (HT S ho h)
 .rename_i t x y c ho;have h':=dM h;clear h;obtain ⟨mx,hx,h'⟩:=h';have h:=fC h';clear h';obtain ⟨ky,hy,h⟩:=h;split at h
  .split at h
   .rename_i l kt tR e M hpm;obtain ⟨rfl,eh⟩:=Sa hpm;split at h
    .rename_i hc;subst hc;exact k8.ex (OJ S ho (S.fe hx) (S.fe hy) eh h)
    .cases h
   .exact k8.er S (LP S ho (S.fe hx) (S.fe hy) h)
  .split at h
   .cases h
   .rename_i hc;have hc:c=false:=by simpa using hc
    subst hc;exact k8.ex (OO S ho (S.fe hx) (S.fe hy) h)
  .cases h
 .rename_i t x y z ho;have h':=dM h;clear h;obtain ⟨mx,hx,h'⟩:=h';have h:=dM h';clear h';obtain ⟨ky,hy,h⟩:=h;have h':=fC h;clear h;obtain ⟨u,hu,h⟩:=h';split at h
  .split at h
   .rename_i l kt tR e M hpm;obtain ⟨rfl,eh⟩:=Sa hpm;obtain ⟨w',h1,g',s',h2,h3,h4⟩:=UF (o:=o) S (λmv kv vv w' e1 e2 e3 hr=>by simp [execOp,ho,e1,e2,e3,hr]) (S.fe hx) (S.fe hy) (S.fe hu) eh h;exact .inr (.inl ⟨w',h1,E,g',s',.tx,bw.refl E,h2,h3,iY,h4⟩)
   .obtain ⟨w',h1,g',s',h2,h3,h4⟩:=zF S ho (S.fe hx) (S.fe hy) (S.fe hu) h;exact .inr (.inl ⟨w',h1,E,g',s',.tx,bw.refl E,h2,h3,iY,h4⟩)
  .cases h
 .rename_i t x ho;obtain ⟨c,hc,h⟩:=dM h;exact k8.ex (OI S ho (S.fe hc) h)
 .rename_i x ho;obtain ⟨c,hc,h⟩:=dM h;exact k8.ex (UG S ho (S.fe hc) h)
 .rename_i x ho;obtain ⟨c,hc,h⟩:=dM h;exact k8.ex (UH S ho (S.fe hc) h)
 .rename_i x ho;obtain ⟨c,hc,h⟩:=dM h;exact k8.er S (ON S ho (S.fe hc) h)
 .rename_i t x y ho;obtain ⟨c,hc,h⟩:=dM h;obtain ⟨d,hd,h⟩:=dM h;exact k8.ex (BV S ho (S.fe hc) (S.fe hd) h)
 .rename_i t x y ho;obtain ⟨c,hc,h⟩:=dM h;obtain ⟨d,hd,h⟩:=fC h;split at h
  exact k8.ex (UM S ho (S.fe hc) (S.fe hd) h);cases h
 .rename_i t x y z ho;obtain ⟨mx,hx,h⟩:=dM h;obtain ⟨ky,hy,h⟩:=dM h;obtain ⟨u,hu,h⟩:=fC h;split at h
  .split at h
   .obtain ⟨w',h1,g',s',h2,h3,h4⟩:=UL S ho (S.fe hx) (S.fe hy) (S.fe hu) h;exact .inr (.inl ⟨w',h1,E,g',s',.tx,bw.refl E,h2,h3,iY,h4⟩)
   .cases h
  .cases h
 .rename_i t x y z ho;obtain ⟨mx,hx,h⟩:=dM h;obtain ⟨ky,hy,h⟩:=dM h;obtain ⟨u,hu,h⟩:=fC h;split at h
  .obtain ⟨w',h1,g',s',h2,h3,h4⟩:=LU S ho (S.fe hx) (S.fe hy) (S.fe hu) h;exact .inr (.inl ⟨w',h1,E,g',s',.tx,bw.refl E,h2,h3,iY,h4⟩)
  .cases h
 .rename_i c ho;exact Xv jx S ho h
 .cases h
end
abbrev DX (ro:Option Nat):Fence:= {fn:=λ_=>True,depth:=none,alive:=false,round:=ro}
theorem Qf {ro:Option Nat} {m:Nat} {P:Program} {f:FuncId} {args:Array Value} {w:World} {R:Ending->World->Prop} (h:Calls P f args w R):CallsIn (DX ro) m P f args w R:=(callsIn_wide (n:=m)).2 h
theorem wJ {ρ:Operand->Value} {o:Oper} {P:Program} {w w':World} {nx:Next} (h:(execOp ρ o).run P w= .ok nx w') (hn:∀ d,nx≠ .defer d):∀ c,o.op≠ .defer c:=λc hc=>by
 unfold execOp at h;rw [hc] at h;simp only [Sem.run_bind] at h;cases hr:(resolve ρ c o.type).run P w with
 | ok d w1=>
  rw [hr] at h;have h:Result.ok (Next.defer d) w1= .ok nx w':=h;cases h;exact hn d rfl
 | halt=>rw [hr] at h;cases h
theorem Wl {F:Fence} {m:Nat} {P:Program} {ops:Array Oper} {Q:Exit->Act->World->Prop} {o:Oper} {rest:List Oper} {a:Act} {w:World} (hw:Region.wanted o (yielded ops a.tmps)=true) (h:∀ K:Act->World->Prop,(∀ a w,wpListIn F m P ops Q rest a w->K a w)->o.wpIn F m P a w K Q):wpListIn F m P ops Q (o::rest) a w:=by
 unfold wpListIn;rw [if_pos hw];exact h _ λ_ _ h=>h
theorem Wk {ro:Option Nat} {m:Nat} {P:Program} {ops:Array Oper} {Q:Exit->Act->World->Prop} {o:Oper} {rest:List Oper} {a:Act} {w:World} (hw:Region.wanted o (yielded ops a.tmps)=false) (h:wpListIn (DX ro) m P ops Q rest (a.put o.dst undef) w):wpListIn (DX ro) m P ops Q (o::rest) a w:=by
 unfold wpListIn;rw [if_neg (by rw [hw];simp)];exact ⟨λ_ _=>trivial,h⟩
section
variable {X:Vx} {n:Nat} {W:cQ} {F:List Atom} {b:Bs} {E:Env} {g w:World} {s:Ov} {a:Act} {o:Oper}
theorem mu {t d:Nat} {v:SV}:b.slot (s.put (some d) v) t=if d=t then some v else b.slot s t:=by
 unfold Bs.slot Ov.put;simp only [fV];by_cases e:d=t;subst e;simp;rw [ij e,if_neg e];rfl
theorem dg.told (S:dg n W F b E g w s a) {d:Nat} {v:SV} (h:df E g v (a.tmps.getD d undef)):dg n W F b E g w (s.put (some d) v) a:=by
 refine ⟨S.size,S.defers,λt u hu=>?_,S.sat,S.top⟩;rw [mu] at hu;by_cases e:d=t
 .subst e;rw [if_pos rfl] at hu;obtain rfl:=aj hu;exact h
 .rw [if_neg e] at hu;exact S.fr t u hu
theorem dg.put (S:dg n W F b E g w s a) {d:Option Nat} {v:SV} {u:Value} (hd:(match d with| some d=>gn d n| none=>true)=true) (h:df E g v u):dg n W F b E g w (s.put d v) (a.put d u):=by
 cases d with
 | none=>exact S
 | some d=>
  have hd':d< n:=by simpa using hd
  refine ⟨by simp [Act.put,S.size],S.defers,λt x hx=>?_,S.sat,S.top⟩;rw [mu] at hx;by_cases e:d=t
  .subst e;rw [if_pos rfl] at hx;obtain rfl:=aj hx;simpa [Act.put,S.size,hd'] using h
  .rw [if_neg e] at hx;have:=S.fr t x hx;simpa only [Act.put,bZ,ke e] using this
theorem Wm {ops:Array Oper} {K:Bool->Ov->Prop} (S:dg n W F b E g w s a) (h:Et ops b s o K):∃ q s',Region.wanted o (yielded ops a.tmps)=q/\dg n W F b E g w s' a/\K q s':=by
 unfold Et at h;split at h
 .rename_i hg;exact ⟨true,s,by unfold Region.wanted;rw [hg],S,h⟩
 .rename_i j wt hg;split at h
  .cases h
  .rename_i d hd;split at h
   .rename_i v hv;obtain ⟨hx,_⟩:=S.fr d _ hv;have hw:Region.wanted o (yielded ops a.tmps)=(v==wt):=by
     unfold Region.wanted;rw [hg];simp only;unfold yielded;rw [hd];have:(a.tmps[d]?).getD undef= .bool v:=by rw [<-bZ];exact hx
     cases hq:a.tmps[d]? with
     | none=>rw [hq] at this;simp [undef] at this
     | some y=>rw [hq] at this;simp at this;subst this;cases v<;>cases wt<;>simp [hq]
    rcases tc h with ⟨e,h⟩| ⟨e,h⟩<;>subst e;exact ⟨_,_,hw,S.told (by rw [hx];exact gf _),h⟩;exact ⟨_,_,hw,S.told (by rw [hx];exact gf _),h⟩
   .rename_i l hv;obtain ⟨us,_,hx⟩:=S.fr d _ hv;have hw:Region.wanted o (yielded ops a.tmps)=false:=by
     unfold Region.wanted;rw [hg];simp only;unfold yielded;rw [hd];have:(a.tmps[d]?).getD undef= .tuple us.toArray:=by rw [<-bZ];exact hx
     cases hq:a.tmps[d]? with
     | none=>simp [hq]
     | some y=>rw [hq] at this;simp at this;subst this;simp [hq]
    exact ⟨false,s,hw,S,h⟩
   .cases h
def Step (n:Nat) (W:cQ) (F:List Atom) (b:Bs) (E:Env) (g:World) (K:Ov->Prop) (a':Act) (w':World):Prop:=∃ E' g' s',bw E E'/\bx g g'/\dg n W F b E' g' w' s' a'/\K s'
theorem k8.wpIn {P:Program} {R:Value->World->Prop} {K:Act->World->Prop} {Q:Exit->Act->World->Prop} (h:k8 P o a w R) (k:∀ v w',R v w'->K (a.put o.dst v) w') {ro:Option Nat} {m:Nat}:o.wpIn (DX ro) m P a w K Q:=by
 refine ⟨λ_ _=>trivial,?_⟩;rcases h with ⟨v,w',hr,h⟩| ⟨w',hr,h⟩| ⟨f,args,hr,h⟩;rw [Oper.semAt_eq _ _ _ (wJ hr λd e=>by cases e),hr];exact k v w' h;rw [Oper.semAt_eq _ _ _ (wJ hr λd e=>by cases e),hr];exact k undef w' h
 .rw [Oper.semAt_eq _ _ _ (wJ hr λd e=>by cases e),hr];refine ⟨λq=>(by cases q),Qf (Calls.mono h ?_)⟩;rintro e w' ⟨v,rfl,hv⟩;exact k v w' hv
theorem acx (jx:jb W X.P X.ct) {ops:Array Oper} {K:Ov->Prop} (S:dg n W F b E g w s a) (h:OA X n ops b s o K):
  (Region.wanted o (yielded ops a.tmps)=true/\k8 X.P o a w λv w'=>Step n W F b E g K (a.put o.dst v) w')\/(Region.wanted o (yielded ops a.tmps)=false/\Step n W F b E g K (a.put o.dst undef) w):=by
 unfold OA at h;obtain ⟨hd,h⟩:=cZ h;obtain ⟨q,s',hq,S',h⟩:=Wm S h;cases q with
 | true=>
  refine .inl ⟨hq,?_⟩;have hr:=Xu jx S' h;have key:∀ v w',Out n W F b E g a (λv s'=>K (s'.put o.dst v)) v w'->Step n W F b E g K (a.put o.dst v) w':=λv w' ⟨E',g',s2,sv,he,hm,S2,r,hk⟩=>⟨E',g',_,he,hm,S2.put hd r,hk⟩;rcases hr with ⟨v,w',hr,h⟩| ⟨w',hr,h⟩| ⟨f,args,hr,h⟩;exact .inl ⟨v,w',hr,key v w' h⟩;exact .inr (.inl ⟨w',hr,key undef w' h⟩);exact .inr (.inr ⟨f,args,hr,h.mono key⟩)
 | false=>exact .inr ⟨hq,E,g,_,bw.refl E,bx.refl g,S'.put hd iY,h⟩
theorem HG (jx:jb W X.P X.ct) {ro:Option Nat} {m:Nat} {ops:Array Oper} {Q:Exit->Act->World->Prop}:∀ {rest:List Oper} {s:Ov} {E:Env} {g w:World} {a:Act} {K:Ov->Prop},dg n W F b E g w s a->ahg X n ops b rest s K->
  (∀ a' w',Step n W F b E g K a' w'->Q .normal a' w')->wpListIn (DX ro) m X.P ops Q rest a w
 | [],s,E,g,w,a,K,S,h,k=>wpListIn_nil (k a w ⟨E,g,s,bw.refl E,bx.refl g,S,h⟩)
 | o::rest,s,E,g,w,a,K,S,h,k=>by
  rcases acx jx S h with ⟨hq,hr⟩| ⟨hq,hr⟩;refine Wl hq λK' hK=>hr.wpIn λv w' ⟨E',g',s',he,hm,S',h'⟩=>hK _ _ (HG jx S' h' λa2 w2 ⟨E2,g2,s2,he2,hm2,S2,h2⟩=>k _ _ ⟨E2,g2,s2,he.trans he2,hm.trans hm2,S2,h2⟩)
  .obtain ⟨E',g',s',he,hm,S',h'⟩:=hr;exact Wk hq (HG jx S' h' λa2 w2 ⟨E2,g2,s2,he2,hm2,S2,h2⟩=>k _ _ ⟨E2,g2,s2,he.trans he2,hm.trans hm2,S2,h2⟩)
end
def tj (ops:Array Oper) (i j:Nat):Prop:=∃ f,reach ops f i j=true
def amo (ops:Array Oper) (dn:List Nat) (listed:Array Bool) (a c:Act):Prop:=∀ t,(∀ (i:Nat) (o:Oper),i∈dn->ops[i]?=some o->o.dst=some t->listed.getD i false=true)->a.tmps.getD t undef=c.tmps.getD t undef
structure DI (D:List Deferred) (ops:Array Oper) (n:Nat) (Ord:List Nat->Prop) (pu:Nat->Bool) (T:List Nat->List Nat->Act->World->Prop) (listed:Array Bool) (a:Act) (w:World) (dn rest:List Nat) (c:Act):Prop where
 eq:Ord (dn++rest)
 MH:listed.size=ops.size
 closed:∀ (j:Nat) (o:Oper),ops[j]?=some o->listed.getD j false=true->∀ e∈o.after,Region.binds .any e=true->listed.getD e.on false=true
 size:a.tmps.size=n
 defers:a.defers=D
 t:T dn rest c w
 agree:amo ops dn listed a c
 kept:∀ i∈dn,pu i=false->listed.getD i false=true
 vQ:∀ i,listed.getD i false=true->i∈dn
section
variable {P:Program} {ops:Array Oper} {n:Nat} {Q:Exit->Act->World->Prop}
theorem th {a:Act} {d:Option Nat} {v:Value} {t:Nat} (h:d≠some t):(a.put d v).tmps.getD t undef=a.tmps.getD t undef:=by
 cases d with
 | none=>rfl
 | some d=>
  have:d≠t:=λe=>h (by rw [e]);simp [Act.put,bZ,ke this]
theorem DG {a:Act} {d:Nat} {v:Value} (h:d< a.tmps.size):(a.put (some d) v).tmps.getD d undef=v:=by simp [Act.put,h]
theorem Eh {listed:Array Bool} {i:Nat} (h:i< listed.size):(listed.setIfInBounds i true).getD i false=true:=by simp [bZ,h]
theorem N1 {o:Oper} {a c:Act} (hs:Sg o=true) (h:∀ t∈slotsOf ops o,a.tmps.getD t undef=c.tmps.getD t undef) (ha:a.tmps.size=n) (hc:c.tmps.size=n):
  execOp a.eval o=execOp c.eval o/\Region.wanted o (yielded ops a.tmps)=Region.wanted o (yielded ops c.tmps):=by
 refine ⟨execOp_congr o (λcs b hb=>by simp [Sg,hb] at hs) λx hx=>?_,?_⟩
 .cases x with
  | tmp t=>exact h t (bM _ (List.mem_filterMap.2 ⟨.tmp t,by simpa using hx,rfl⟩))
  | const _=>rfl
  | global _=>rfl
  | func _=>rfl
 .unfold Region.wanted;cases hg:o.guard with
  | none=>rfl
  | some gq=>
   obtain ⟨gi,want⟩:=gq;have:yielded ops a.tmps gi=yielded ops c.tmps gi:=by
    unfold yielded;cases hgo:(ops[gi]?).bind (·.dst) with
    | none=>rfl
    | some d=>
     have hm:d∈slotsOf ops o:=by
      unfold slotsOf;refine iK _ ?_;rw [hg];simp [hgo]
     have:=h d hm;by_cases hd:d< n
     .have h1:d< a.tmps.size:=by rw [ha];exact hd
      have h2:d< c.tmps.size:=by rw [hc];exact hd
      simp only [bZ,cK h1,cK h2,Option.getD_some] at this;simp only [oU,cK h1,cK h2,this]
     .have h1:a.tmps.size<=d:=by rw [ha];exact Nat.le_of_not_lt hd
      have h2:c.tmps.size<=d:=by rw [hc];exact Nat.le_of_not_lt hd
      simp only [oU,il h1,il h2]
   simp only [this]
set_option maxHeartbeats 1000000 in
theorem afI {ro:Option Nat} {m:Nat} {D:List Deferred} {Ord:List Nat->Prop} {pu:Nat->Bool} {T:List Nat->List Nat->Act->World->Prop} (hE:Jv ops=true) (hD:P3 ops n=true) (hnd:∀ ord,Ord ord->ord.Nodup) (Ee:∀ ord,Ord ord->∀ i,i∈ord↔i< ops.size)
  (h5:∀ dn rest c w i,T dn rest c w->Ord (dn++rest)->i∈rest->(∀ j,tj ops i j->pu j=false->j∈dn)->∃ r1 r2,Ord (dn++(r1++i::r2))/\T dn (r1++i::r2) c w/\∀ j∈r1,pu j=true)
  (hB:∀ (i k:Nat) (oi ok:Oper) (d:Nat),ops[i]?=some oi->ops[k]?=some ok->ok.dst=some d->d∈slotsOf ops oi->tj ops i k\/pu k=false)
  (kr:∀ dn rest c w,T dn rest c w->c.tmps.size=n/\c.defers=D)
  (h1:∀ dn rest c w i o,T dn rest c w->i∈dn->pu i=true->ops[i]?=some o->(∀ j∈dn,pu j=false->¬tj ops j i)->∃ v,(Region.wanted o (yielded ops c.tmps)=true->(execOp c.eval o).run P w= .ok (.value v) w)/\(Region.wanted o (yielded ops c.tmps)=false->v=undef)/\T dn rest (c.put o.dst v) w)
  (h2:∀ dn i rest c w o,T dn (i::rest) c w->pu i=true->ops[i]?=some o->∃ v,T (dn++ [i]) rest (c.put o.dst v) w)
  (h3:∀ dn i rest c w o,T dn (i::rest) c w->pu i=false->ops[i]?=some o->(Region.wanted o (yielded ops c.tmps)=true/\k8 P o c w λv w'=>T (dn++ [i]) rest (c.put o.dst v) w')\/(Region.wanted o (yielded ops c.tmps)=false/\T (dn++ [i]) rest (c.put o.dst undef) w))
  (h4:∀ dn c w,T dn [] c w->Q .normal c w):
  ∀ (fuel:Nat) (listed:Array Bool) (a:Act) (w:World) (dn rest:List Nat) (c:Act),DI D ops n Ord pu T listed a w dn rest c->((bN ops.size).filter λi=> !listed.getD i true).length<=fuel->wpAnyIn (DX ro) m P .any ops Q fuel listed a w:=by
 have edges:∀ (i:Nat) (o:Oper),ops[i]?=some o->∀ e∈o.after,Region.binds .any e=true->e.on< i:=λi o ho e he hb=>by
  have hi:i< ops.size:=(aQ.1 ho).1;have h1:=bo.1 hE i (dd.2 hi);simp only [ho,ao] at h1;have h2:=(Array.all_eq_true_iff_forall_mem.1 h1.1) e he;simpa [hb] using h2
 have sel:∀ (i:Nat) (o:Oper),ops[i]?=some o->Sg o=true:=λi o ho=>by
  have hi:i< ops.size:=(aQ.1 ho).1;have h1:=bo.1 hE i (dd.2 hi);simp only [ho,ao] at h1;exact h1.2
 have dlt:∀ (i:Nat) (o:Oper) (d:Tmp),ops[i]?=some o->o.dst=some d->d< n:=λi o d ho hd=>by
  have hi:i< ops.size:=(aQ.1 ho).1;have h1:=bo.1 hD i (dd.2 hi);simp only [ho,oU,hd,ao] at h1;simpa using h1.1
 have Nq:∀ (i j:Nat) (oi oj:Oper) (d:Tmp),j< i->ops[i]?=some oi->ops[j]?=some oj->oi.dst=some d->oj.dst=some d->False:=λi j oi oj d J2 hi hj J3 Oi=>by
  have pB:i< ops.size:=(aQ.1 hi).1;have h1:=bo.1 hD i (dd.2 pB);simp only [hi,oU,J3,ao] at h1;have h2:=bo.1 h1.2 j (dd.2 J2);simp [hj,Oi] at h2
 have dne:∀ (i j:Nat) (oi oj:Oper) (d:Tmp),ops[i]?=some oi->ops[j]?=some oj->oi.dst=some d->oj.dst=some d->i=j:=λi j oi oj d hi hj J3 Oi=>by
  rcases mK i j with h| h| h;exact (Nq j i oj oi d h hj hi Oi J3).elim;exact h;exact (Nq i j oi oj d h hi hj J3 Oi).elim
 have unl:∀ (listed:Array Bool) i,i< listed.size->(listed.getD i true=false↔listed.getD i false=false):=λlisted i hi=>by
  simp [bZ,hi]
 have lstlt:∀ (listed:Array Bool) i,listed.getD i false=true->i< listed.size:=λlisted i hi=>by
  rcases dZ i listed.size with h| h;exact h;simp [bZ,il h] at hi
 have done:∀ {listed:Array Bool} {a:Act} {w:World} {dn rest:List Nat} {c:Act},DI D ops n Ord pu T listed a w dn rest c->Region.ready .any ops listed= []->∀ i,i< ops.size->listed.getD i false=true:=by
  intro listed a w dn rest c inv hr i
  induction i using Nat.strongRecOn with
  | _ i ih=>
   intro hi;cases hl:listed.getD i false with
   | true=>rfl
   | false=>
    exfalso
    have hu:listed.getD i true=false:=(unl listed i (by rw [inv.MH];exact hi)).2 hl;have uk:i∈Region.ready .any ops listed:=mem_ready.2 ⟨hu,ops[i],by simp [hi],λe he hb=>by
     have eK:=edges i ops[i] (by simp [hi]) e he hb;exact ih e.on eK (by omega)⟩
    rw [hr] at uk;cases uk
 have fin:∀ {listed:Array Bool} {a:Act} {w:World} {dn rest:List Nat} {c:Act},DI D ops n Ord pu T listed a w dn rest c->Region.ready .any ops listed= []->Q .normal a w:=λ{listed a w dn rest c} inv hr=>by
  have jy:=done inv hr;have ak4:rest= []:=by
   cases rest with
   | nil=>rfl
   | cons i r=>
    exfalso
    have hi:i∈dn++i::r:=by simp
    have h5:=inv.vQ i (jy i ((Ee _ inv.eq i).1 hi));have:=hnd _ inv.eq;rw [fh] at this;exact this.2.2 i h5 i (by simp) rfl
  have ht:=inv.t;rw [ak4] at ht;have hs:=kr _ _ _ _ ht;have e:a=c:=Act.ext' (λt=>by
   have:=inv.agree t λi o _ ho _=>jy i (aQ.1 ho).1;by_cases hd:t< n
   .have h1:t< a.tmps.size:=by rw [inv.size];exact hd
    have h2:t< c.tmps.size:=by rw [hs.1];exact hd
    simp only [bZ,cK h1,cK h2,Option.getD_some] at this;rw [cK h1,cK h2,this]
   .rw [il (by rw [inv.size];omega),il (by rw [hs.1];omega)]) (by rw [inv.defers,hs.2])
  rw [e];exact h4 _ _ _ ht
 -- the frame that is told runs ahead
 have adv:∀ {listed:Array Bool} {a:Act} {w:World} (r1:List Nat) {dn r2:List Nat} {c:Act},DI D ops n Ord pu T listed a w dn (r1++r2) c->(∀ j∈r1,pu j=true/\listed.getD j false=false)->∃ c',DI D ops n Ord pu T listed a w (dn++r1) r2 c':=by
  intro listed a w r1
  induction r1 with
  | nil=>intro dn r2 c inv _;exact ⟨c,by rw [aW];exact inv⟩
  | cons i r1 ih=>
   intro dn r2 c inv hp;obtain ⟨tT,hli⟩:=hp i (by simp);have hi:i< ops.size:=(Ee _ inv.eq i).1 (by simp);obtain ⟨v,hv⟩:=h2 dn i (r1++r2) c w ops[i] inv.t tT (by simp [hi]);have lV:DI D ops n Ord pu T listed a w (dn++ [i]) (r1++r2) (c.put ops[i].dst v):=by
    refine ⟨by have:=inv.eq;simpa using this,inv.MH,inv.closed,inv.size,inv.defers,hv,λt ht=>?_,λj hj Jm=>?_,λj hj=>bM _ (inv.vQ j hj)⟩
    .have gx:ops[i].dst≠some t:=λe=>by
      have:=ht i ops[i] (by simp) (by simp [hi]) e;rw [hli] at this;cases this
     rw [th gx];exact inv.agree t λk o hk=>ht k o (bM _ hk)
    .rcases aY.1 hj with hj| hj
     .exact inv.kept j hj Jm
     .have:j=i:=by simpa using hj
      subst this;rw [tT] at Jm;cases Jm
   obtain ⟨c',M7⟩:=ih lV λj hj=>hp j (aH _ hj);refine ⟨c',?_⟩;rw [aG] at M7;exact M7
 intro fuel
 induction fuel with
 | zero=>
  intro listed a w dn rest c inv hc;have hr:Region.ready .any ops listed= []:=by
   cases hr:Region.ready .any ops listed with
   | nil=>rfl
   | cons i r=>
    exfalso
    have uk:i∈Region.ready .any ops listed:=by rw [hr];simp
    obtain ⟨hu,o,ho,_⟩:=mem_ready.1 uk;have:i∈(bN ops.size).filter λi=> !listed.getD i true:=fO.2 ⟨dd.2 (aQ.1 ho).1,by simp [hu]⟩;have:=List.length_pos_of_mem this;omega
  exact ⟨hr,fin inv hr⟩
 | succ fuel ih=>
  intro listed a w dn rest c inv hc;refine ⟨fin inv,λi hi=>?_⟩;obtain ⟨hu,o,ho,afp⟩:=mem_ready.1 hi;have eK:i< ops.size:=(aQ.1 ho).1;have CV:i< listed.size:=by rw [inv.MH];exact eK
  have hul:listed.getD i false=false:=(unl listed i CV).1 hu;have Y7:((bN ops.size).filter λk=> !(listed.setIfInBounds i true).getD k true).length<=fuel:=by
   have:=filter_lt (p:=λk=> !listed.getD k true) (q:=λk=> !(listed.setIfInBounds i true).getD k true) (bN ops.size) (λx _ hx=>by
     by_cases hxi:i=x;subst hxi;simpa using hu
     .simpa [getD_set_ne true hxi] using hx) i (dd.2 eK) (by simp [hu]) (by simp [bZ,CV])
   omega
  have set_get:∀ k,(listed.setIfInBounds i true).getD k false=true->k≠i->listed.getD k false=true:=λk hk gx=>by
   rwa [getD_set_ne false (Ne.symm gx)] at hk
  have ad1:∀ (j:Nat) (oj:Oper),ops[j]?=some oj->(listed.setIfInBounds i true).getD j false=true->∀ e∈oj.after,Region.binds .any e=true->(listed.setIfInBounds i true).getD e.on false=true:=λj oj hj hlj e he hb=>by
   by_cases J2:j=i
   .subst J2;rw [ho] at hj;obtain rfl:=aj hj;exact getD_set_true (afp e he hb)
   .exact getD_set_true (inv.closed j oj hj (set_get j hlj J2) e he hb)
  have waited:∀ k,tj ops i k->listed.getD k false=true:=λk ⟨f,hr⟩=>by
   cases f with
   | zero=>simp [reach] at hr
   | succ f=>
    unfold reach at hr;simp only [ho] at hr;obtain ⟨q,hq,hb⟩:=Array.any_eq_true.1 hr;simp only [ao,lp] at hb;have hl:=afp _ (Array.getElem_mem hq) hb.1;rcases hb.2 with he| he;rw [<-ai he];exact hl;exact qu inv.closed f _ _ he hl
  -- what it reads stands in both frames
  have same:∀ {S7 r9:List Nat} {c':Act},DI D ops n Ord pu T listed a w S7 r9 c'->execOp a.eval o=execOp c'.eval o/\Region.wanted o (yielded ops a.tmps)=Region.wanted o (yielded ops c'.tmps):=λ{S7 r9 c'} lV=>
   N1 (n:=n) (sel i o ho) (λt ht=>lV.agree t λk ok GF hk hdk=>(hB i k o ok t ho hk hdk ht).elim (waited k) (lV.kept k GF)) lV.size (kr _ _ _ _ lV.t).1
  have next:∀ {S7 r9:List Nat} {c':Act} {v:Value} {w':World},DI D ops n Ord pu T listed a w S7 r9 c'->∀ (dn'' rest'':List Nat),Ord (dn''++rest'')->i∈dn''->(∀ j,j∈dn''->j∈S7\/j=i)->(∀ j∈S7,j∈dn'')->T dn'' rest'' (c'.put o.dst v) w'->DI D ops n Ord pu T (listed.setIfInBounds i true) (a.put o.dst v) w' dn'' rest'' (c'.put o.dst v):=λ{S7 r9 c' v w'} lV dn'' rest'' he yM ann akX ht=>by
   have wY:=(kr _ _ _ _ lV.t).1;refine ⟨he,by simp [lV.MH],ad1,?_,?_,ht,λt aif=>?_,λj hj Jm=>?_,λj hj=>?_⟩;cases hod:o.dst<;>simp [Act.put,lV.size];cases hod:o.dst<;>simp [Act.put,lV.defers]
   .by_cases hod:o.dst=some t
    .have hdn:=dlt i o t ho hod;rw [hod,DG (by rw [lV.size];exact hdn),DG (by rw [wY];exact hdn)]
    .rw [th hod,th hod];refine lV.agree t λk ok hk tU hdk=>?_;have hki:k≠i:=λe=>by subst e;rw [ho] at tU;obtain rfl:=aj tU;exact hod hdk
     exact set_get k (aif k ok (akX k hk) tU hdk) hki
   .by_cases J2:j=i
    .subst J2;exact Eh CV
    .rcases ann j hj with h| h
     .exact getD_set_true (lV.kept j h Jm)
     .exact absurd h J2
   .by_cases J2:j=i
    .rw [J2];exact yM
    .exact akX j (lV.vQ j (set_get j hj J2))
  have again:pu i=true->∀ {S7 r9:List Nat} {c':Act},DI D ops n Ord pu T listed a w S7 r9 c'->i∈S7->wpOpIn (DX ro) m P ops Q i (wpAnyIn (DX ro) m P .any ops Q fuel (listed.setIfInBounds i true)) a w:=λtT {S7 r9 c'} lV yM=>by
   obtain ⟨v,hv1,Wa,hv3⟩:=h1 S7 r9 c' w i o lV.t yM tT ho λj hj Jm hw=>by
    have hlj:=lV.kept j hj Jm;obtain ⟨f,hf⟩:=hw;have:=qu lV.closed f _ _ hf hlj;rw [hul] at this;cases this
   obtain ⟨e1,e2⟩:=same lV;have go:wpAnyIn (DX ro) m P .any ops Q fuel (listed.setIfInBounds i true) (a.put o.dst v) w:=
    ih _ _ _ S7 r9 _ (next lV S7 r9 lV.eq yM (λj hj=>.inl hj) (λj hj=>hj) hv3) Y7
   unfold wpOpIn;simp only [ho];split
   .rename_i hw;refine ⟨λ_ _=>trivial,?_⟩;have hr:=hv1 (by rw [<-e2];exact hw);rw [<-e1] at hr;rw [Oper.semAt_eq _ _ _ (wJ hr λd e=>by cases e),hr];exact go
   .rename_i hw;have:=Wa (by rw [<-e2];simpa using hw);rw [<-this];exact ⟨λ_ _=>trivial,go⟩
  by_cases yM:i∈dn
  .have tT:pu i=true:=by
    cases hp:pu i with
    | true=>rfl
    | false=>
     have:=inv.kept i yM hp;rw [hul] at this;cases this
   exact again tT inv yM
  .have hir:i∈rest:=by
    have:i∈dn++rest:=(Ee _ inv.eq i).2 eK;rcases aY.1 this with h| h;exact absurd h yM;exact h
   obtain ⟨r1,r2,he,hT,MZ⟩:=h5 dn rest c w i inv.t inv.eq hir λj hw _=>inv.vQ j (waited j hw);have inv:DI D ops n Ord pu T listed a w dn (r1++i::r2) c:=⟨he,inv.MH,inv.closed,inv.size,inv.defers,hT,inv.agree,inv.kept,inv.vQ⟩;have ale:=hnd _ inv.eq;rw [fh] at ale;have vR:∀ j∈r1,pu j=true/\listed.getD j false=false:=λj hj=>by
    have hjd:j ∉ dn:=λh=>ale.2.2 j h j (by simp [hj]) rfl;have hlj:listed.getD j false=false:=by
     cases hl:listed.getD j false with
     | false=>rfl
     | true=>exact absurd (inv.vQ j hl) hjd
    exact ⟨MZ j hj,hlj⟩
   cases tT:pu i with
   | true=>
    obtain ⟨c',lV⟩:=adv (r1++ [i]) (dn:=dn) (r2:=r2) (c:=c) (by simpa using inv) λj hj=>by
     rcases aY.1 hj with h| h;exact vR j h
     .have:j=i:=by simpa using h
      subst this;exact ⟨tT,hul⟩
    exact again tT lV (by simp)
   | false=>
    obtain ⟨c',lV⟩:=adv r1 (dn:=dn) (r2:=i::r2) (c:=c) inv vR;obtain ⟨e1,e2⟩:=same lV;have go:∀ v w',T (dn++r1++ [i]) r2 (c'.put o.dst v) w'->wpAnyIn (DX ro) m P .any ops Q fuel (listed.setIfInBounds i true) (a.put o.dst v) w':=λv w' ht=>
     ih _ _ _ (dn++r1++ [i]) r2 _ (next lV (dn++r1++ [i]) r2 (by have:=inv.eq;simpa using this) (by simp) (λj hj=>by simpa [or_assoc] using hj) (λj hj=>bM _ hj) ht) Y7
    unfold wpOpIn;simp only [ho];rcases h3 (dn++r1) i r2 c' w o lV.t tT ho with ⟨hw,hr⟩| ⟨hw,ht⟩
    .rw [if_pos (by rw [e2];exact hw)];have hr':k8 P o a w λv w'=>T (dn++r1++ [i]) r2 (c'.put o.dst v) w':=by
      unfold k8 at hr ⊢;rw [e1];exact hr
     exact hr'.wpIn go
    .rw [if_neg (by rw [e2,hw];simp)];exact ⟨λ_ _=>trivial,go undef w ht⟩
end
structure DT (f:(SV->Prop)->Prop):Prop where
 mono:∀ {K K':SV->Prop},(∀ v,K v->K' v)->f K->f K'
 det:∀ {K:SV->Prop},f K->f λv=>K v/\f λv'=>v'=v
namespace DT
variable {f g:(SV->Prop)->Prop}
theorem leaf (v:SV):DT λK=>K v:=⟨λh k=>h v k,λk=>⟨k,rfl⟩⟩
theorem no:DT λ_=>False:=⟨λ_ h=>h,λh=>h.elim⟩
theorem imp {p:Prop} (h:DT f):DT λK=>p->f K:=⟨λm k hp=>h.mono m (k hp),λk hp=>h.mono (λ_ q=>⟨q.1,λ_=>q.2⟩) (h.det (k hp))⟩
theorem and {p:Prop} (h:DT f):DT λK=>p/\f K:=⟨λm k=>⟨k.1,h.mono m k.2⟩,λk=>⟨k.1,h.mono (λ_ q=>⟨q.1,k.1,q.2⟩) (h.det k.2)⟩⟩
theorem ex {α:Type} {f:α->(SV->Prop)->Prop} (h:∀ x,DT (f x)):DT λK=>∃ x,f x K:=⟨λm ⟨x,k⟩=>⟨x,(h x).mono m k⟩,λ⟨x,k⟩=>⟨x,(h x).mono (λ_ q=>⟨q.1,x,q.2⟩) ((h x).det k)⟩⟩
theorem gB {c:Bool} (h:DT f) (h':DT g):DT λK=>br c (f K) (g K):=by cases c<;>assumption
theorem ite {p:Prop} [Decidable p] (h:DT f) (h':DT g):DT λK=>if p then f K else g K:=by
 by_cases hp:p;simp only [if_pos hp];exact h;simp only [if_neg hp];exact h'
end DT
section
variable {X:Vx} {P:Program} {b:Bs} {s:Ov}
theorem DT.arith (k:IntKind) (z:Int):DT (arith k z):=by unfold Lm.arith;repeat' (first| exact DT.leaf _| exact DT.no| refine DT.and ?_| refine DT.imp ?_| refine DT.ite ?_ ?_| refine DT.gB ?_ ?_| split)
theorem DT.PE (op:BinOp) (k:IntKind) (x y:Int):DT (PE op k x y):=by
 unfold Lm.PE
 repeat' (first| exact DT.arith _ _| exact DT.leaf _| exact DT.no| refine DT.and ?_| refine DT.imp ?_| refine DT.ite ?_ ?_| refine DT.gB ?_ ?_| split)
theorem DT.Uv (op:BinOp) (x y:ByteArray):DT (Uv op x y):=by unfold Lm.Uv;repeat' (first| exact DT.leaf _| exact DT.no| refine DT.and ?_| refine DT.imp ?_| refine DT.ite ?_ ?_| refine DT.gB ?_ ?_| split)
theorem zO {t:TypeId} {y:Cl} (h:Cz P t=true):Gk (P.underlying t) y=false:=by
 unfold Cz at h;unfold Gk;cases hu:P.underlying t with
 | none=>rfl
 | some d=>rw [hu] at h;cases d<;>first| rfl| cases h
theorem DT.Jh (wr:Bool) (op:BinOp) (k:IntKind) (x y:Int):DT (Jh wr op k x y):=by
 unfold Lm.Jh
 repeat' (first| exact DT.PE _ _ _ _| exact DT.leaf _| exact DT.no| refine DT.and ?_| refine DT.imp ?_| refine DT.ite ?_ ?_| refine DT.gB ?_ ?_| split)
theorem DT.El {wr:Bool} {Jx:Bool} {op:BinOp} {t:TypeId} {x y:SV} (h:Cz P t=true):DT (El wr P b s Jx op t x y):=by
 unfold Lm.El;split
 .split
  .repeat' (first| exact DT.leaf _| exact DT.no| refine DT.and ?_| refine DT.imp ?_| refine DT.ite ?_ ?_| refine DT.gB ?_ ?_| split)
  .repeat' (first| exact DT.leaf _| exact DT.no| refine DT.and ?_| refine DT.imp ?_| refine DT.ite ?_ ?_| refine DT.gB ?_ ?_| split)
  .refine DT.ite (DT.Jh _ _ _ _ _) DT.no
 .exact DT.Uv _ _ _
 .repeat' (first| exact DT.leaf _| exact DT.no| refine DT.and ?_| refine DT.imp ?_| refine DT.ite ?_ ?_| refine DT.gB ?_ ?_| split)
 .repeat' (first| exact DT.leaf _| exact DT.no| refine DT.and ?_| refine DT.imp ?_| refine DT.ite ?_ ?_| refine DT.gB ?_ ?_| split)
 .simp only [zO h,mI,eR,if_false]
  repeat' (first| exact DT.leaf _| exact DT.no| refine DT.and ?_| refine DT.imp ?_| refine DT.ite ?_ ?_| refine DT.gB ?_ ?_| split)
 .exact DT.no
theorem DT.unV {wr:Bool} {op:UnOp} {x:SV}:DT (unV wr op x):=by
 unfold Lm.unV
 repeat' (first| exact DT.Jh _ _ _ _ _| exact DT.arith _ _| exact DT.leaf _| exact DT.no| refine DT.and ?_| refine DT.imp ?_| refine DT.ite ?_ ?_| refine DT.gB ?_ ?_| split)
theorem DT.sJ {t:TypeId} {x:Cl}:DT (sJ P b s t x):=by
 unfold Lm.sJ
 repeat' (first| exact DT.leaf _| (refine DT.ex λ_=>?_)| exact DT.no| refine DT.and ?_| refine DT.imp ?_| refine DT.ite ?_ ?_| refine DT.gB ?_ ?_| split)
theorem DT.Ea {t:TypeId} {x:Cl}:DT (Ea P b s t x):=by
 unfold Lm.Ea
 repeat' (first| exact DT.leaf _| (refine DT.ex λ_=>?_)| exact DT.no| refine DT.and ?_| refine DT.imp ?_| refine DT.ite ?_ ?_| refine DT.gB ?_ ?_| split)
theorem DT.ia {t:TypeId} {x:Cl} {i:Int}:DT (ia P b s t x i):=by
 unfold Lm.ia
 repeat' (first| exact DT.leaf _| exact DT.no| refine DT.and ?_| refine DT.imp ?_| refine DT.ite ?_ ?_| refine DT.gB ?_ ?_| split)
theorem DT.ph {t:TypeId} {x:Cl} {l h:Option Int}:DT (ph P b s t x l h):=by
 unfold Lm.ph Sb Yd
 repeat' (first| exact DT.leaf _| exact DT.no| refine DT.and ?_| refine DT.imp ?_| refine DT.ite ?_ ?_| refine DT.gB ?_ ?_| split)
theorem DT.vP {t:TypeId} {ps:List (Nat×S1)}:DT (vP P t ps):=by
 unfold Lm.vP
 repeat' (first| exact DT.leaf _| exact DT.no| refine DT.and ?_| refine DT.imp ?_| refine DT.ite ?_ ?_| refine DT.gB ?_ ?_| split)
theorem DT.qj {x:Operand} {f:SV->(SV->Prop)->Prop} (h:∀ v,DT (f v)):DT λK=>qj b s x λv=>f v K:=by
 unfold Lm.qj;cases Lm.fe b s x with
 | none=>exact DT.no
 | some v=>exact h v
theorem DT.nJ {x:Operand} {f:Cl->(SV->Prop)->Prop} (h:∀ v,DT (f v)):DT λK=>nJ b s x λv=>f v K:=by
 unfold Lm.nJ;split;exact h _;exact DT.no
theorem DT.wE {x:Option Operand} {f:Option SV->(SV->Prop)->Prop} (h:∀ v,DT (f v)):DT λK=>wE b s x λv=>f v K:=by
 unfold Lm.wE;cases x with
 | none=>exact h _
 | some x=>exact DT.qj λv=>h (some v)
end
section
variable {X:Vx} {P:Program} {n:Nat} {W:cQ} {F:List Atom} {b:Bs} {E:Env} {g w:World} {s s':Ov} {a:Act} {o:Oper}
structure Oa (b:Bs) (s s':Ov) (o:Oper):Prop where
 fe:∀ x∈o.op.operands.toList,fe b s x=fe b s' x
 obj:∀ x∈o.op.operands.toList,∀ v,Lm.fe b s x=some v->∀ l∈v.labels,b.obj s l=b.obj s' l
theorem jD {x:Operand} {k k':SV->Prop} (N:Oa b s s' o) (hx:x∈o.op.operands.toList) (hk:∀ v,(∀ l∈v.labels,b.obj s l=b.obj s' l)->k v->k' v) (h:qj b s x k):qj b s' x k':=by
 unfold qj at h ⊢;rw [<-N.fe x hx];cases hv:Lm.fe b s x with
 | none=>rw [hv] at h;exact h
 | some v=>rw [hv] at h;exact hk v (N.obj x hx v hv) h
theorem lN {x:Operand} {k k':Cl->Prop} (N:Oa b s s' o) (hx:x∈o.op.operands.toList) (hk:∀ v,(∀ l∈v.labels,b.obj s l=b.obj s' l)->k v->k' v) (h:nJ b s x k):nJ b s' x k':=by
 unfold nJ at h ⊢;rw [<-N.fe x hx];cases hv:Lm.fe b s x with
 | none=>rw [hv] at h;exact h
 | some v=>
  rw [hv] at h
  match v,hv,h with
  | .v (.c c),hv,h=>exact hk c (λl hl=>N.obj x hx _ hv l hl) h
  | .v (.agg _),_,h=>exact h
  | .cJ _,_,h=>exact h
  | .any,_,h=>exact h
  | .arr _ _,_,h=>exact h
theorem Gi {x:Option Operand} {k k':Option SV->Prop} (N:Oa b s s' o) (hx:∀ y,x=some y->y∈o.op.operands.toList) (hk:∀ v,k v->k' v) (h:wE b s x k):wE b s' x k':=by
 unfold wE at h ⊢;cases x with
 | none=>exact hk _ h
 | some y=>exact jD N (hx y rfl) (λv _ h=>hk _ h) h
theorem Px {t:TypeId} {c:Cl} {K:SV->Prop} (N:∀ l∈c.labels,b.obj s l=b.obj s' l):sJ P b s t c K=sJ P b s' t c K:=by
 unfold sJ
 repeat' (first| rfl| (rw [N _ (by simp [Cl.labels])];done)| split)
theorem Va {t:TypeId} {c:Cl} {K:SV->Prop} (N:∀ l∈c.labels,b.obj s l=b.obj s' l):Ea P b s t c K=Ea P b s' t c K:=by
 unfold Ea
 repeat' (first| rfl| (rw [N _ (by simp [Cl.labels])];done)| split)
theorem Ar {t:TypeId} {c:Cl} {i:Int} {K:SV->Prop} (N:∀ l∈c.labels,b.obj s l=b.obj s' l):ia P b s t c i K=ia P b s' t c i K:=by
 unfold ia
 repeat' (first| rfl| (rw [N _ (by simp [Cl.labels])];done)| split)
theorem LI {t:TypeId} {c:Cl} {i j:Option Int} {K:SV->Prop} (N:∀ l∈c.labels,b.obj s l=b.obj s' l):ph P b s t c i j K=ph P b s' t c i j K:=by
 unfold ph
 repeat' (first| rfl| (rw [N _ (by simp [Cl.labels])];done)| split)
theorem ML {e:Ty} {c:Cl} (N:∀ l∈c.labels,b.obj s l=b.obj s' l):sK b s e c=sK b s' e c:=by
 unfold sK
 repeat' (first| rfl| (rw [N _ (by simp [Cl.labels])];done)| split)
theorem VQ {wr:Bool} {Jx:Bool} {op:BinOp} {t:TypeId} {x y:SV} {K:SV->Prop} (h:Cz P t=true):El wr P b s Jx op t x y K=El wr P b s' Jx op t x y K:=by
 unfold El;split;rfl;rfl;rfl;rfl;simp only [zO h,mI,eR,if_false];rfl
theorem zM:∀ {l:List (Nat×Operand)},(∀ x∈l.map (·.2),Lm.fe b s x=Lm.fe b s' x)->sH b s l=sH b s' l
 | [],_=>rfl
 | (i,x)::r,h=>by
  unfold sH;rw [h x (by simp),zM (l:=r) λy hy=>h y (by simpa using .inr (by simpa using hy))]
theorem P9 {src dst:TypeId} {c:SV} {K:SV->Prop} (hd:(match X.P.underlying dst with| some .string| some (.int _)=>true| _=>false)=true) (N:∀ l∈c.labels,b.obj s l=b.obj s' l):oH X b s src dst c (λv _=>K v)=oH X b s' src dst c λv _=>K v:=by
 unfold oH;split;rfl;rfl;rfl
 .rename_i h1 h2;simp [h2] at hd
 .split
  .rw [ML N]
  .rfl
 .rename_i h1 h2;simp [h2] at hd
 .rfl
theorem DT.oH {src dst:TypeId} {c:SV}:DT λK=>oH X b s src dst c λv _=>K v:=by
 unfold Lm.oH adj
 repeat' (first| exact DT.leaf _| exact DT.no| refine DT.and ?_| refine DT.imp ?_| refine DT.ite ?_ ?_| refine DT.gB ?_ ?_| split)
theorem Zs {src dst:TypeId} {c:SV} {K:SV->Ov->Prop} (hd:(match X.P.underlying dst with| some .string| some (.int _)=>true| _=>false)=true):oH X b s src dst c K=oH X b s src dst c λv _=>K v s:=by
 unfold oH;split<;>try rfl
 rename_i h1 h2;simp [h2] at hd
theorem ahh {K:SV->Ov->Prop} (hp:lG X.P o=true):Lq X b s o K=Lq X b s o λv _=>K v s:=by
 unfold lG at hp;simp only [ao] at hp;obtain ⟨_,hp⟩:=hp;unfold Lq;split at hp<;>first| (cases hp;done)| skip
 all_goals rename_i heq
 all_goals simp only [heq]
 all_goals first| rfl| skip
 .unfold qj;split
  .exact Zs hp
  .rfl
 .split at hp
  .rename_i hc;unfold BA;simp only [hc];rfl
  .cases hp
theorem acw (hp:lG X.P o=true):DT λK=>Lq X b s o λv _=>K v:=by
 unfold lG at hp;simp only [ao] at hp;obtain ⟨_,hp⟩:=hp;unfold Lq;split at hp<;>first| (cases hp;done)| skip
 all_goals rename_i heq
 all_goals simp only [heq]
 .exact DT.qj λv=>DT.leaf v
 .exact DT.qj λv=>DT.leaf v
 .exact DT.nJ λv=>DT.qj λu=>DT.qj λu'=>by repeat' (first| exact DT.leaf _| exact DT.no| refine DT.and ?_| refine DT.imp ?_| refine DT.ite ?_ ?_| refine DT.gB ?_ ?_| split)
 .exact DT.qj λv=>DT.unV
 .exact DT.qj λv=>by repeat' (first| exact DT.leaf _| exact DT.no| refine DT.and ?_| refine DT.imp ?_| refine DT.ite ?_ ?_| refine DT.gB ?_ ?_| split)
 .exact DT.qj λv=>by repeat' (first| exact DT.leaf _| exact DT.no| refine DT.and ?_| refine DT.imp ?_| refine DT.ite ?_ ?_| refine DT.gB ?_ ?_| split)
 .exact DT.nJ λv=>DT.sJ
 .exact DT.nJ λv=>by repeat' (first| exact DT.leaf _| exact DT.no| refine DT.and ?_| refine DT.imp ?_| refine DT.ite ?_ ?_| refine DT.gB ?_ ?_| split)
 .exact DT.nJ λv=>by repeat' (first| exact DT.leaf _| exact DT.no| refine DT.and ?_| refine DT.imp ?_| refine DT.ite ?_ ?_| refine DT.gB ?_ ?_| split)
 .exact DT.nJ λv=>DT.nJ λq=>by
   repeat' (first| exact DT.ia| exact DT.leaf _| exact DT.no| refine DT.and ?_| refine DT.imp ?_| refine DT.ite ?_ ?_| refine DT.gB ?_ ?_| split)
 .exact DT.nJ λv=>DT.nJ λq=>by repeat' (first| exact DT.leaf _| exact DT.no| refine DT.and ?_| refine DT.imp ?_| refine DT.ite ?_ ?_| refine DT.gB ?_ ?_| split)
 .split
  .exact DT.vP
  .exact DT.no
 .exact DT.nJ λv=>DT.wE λl=>DT.wE λh=>by
   repeat' (first| exact DT.ph| exact DT.leaf _| exact DT.no| refine DT.and ?_| refine DT.imp ?_| refine DT.ite ?_ ?_| refine DT.gB ?_ ?_| split)
 .exact DT.qj λv=>DT.qj λu=>DT.El hp
 .exact DT.qj λv=>DT.oH
 .split at hp
  .rename_i hc;unfold BA;simp only [hc];split
   .exact DT.no
   .unfold pG;simp only;split
    .exact DT.Ea
    .exact DT.no
  .cases hp
end
end Go.Lm

namespace Go.Lm
open Go Go.RowKit
section
variable {X:Vx} {n:Nat} {W:cQ} {F:List Atom} {b:Bs} {E:Env} {g w:World} {s s':Ov} {a:Act} {o:Oper}
theorem Lp {K:SV->Prop} (hp:lG X.P o=true) (N:Oa b s s' o) (h:Lq X b s o λv _=>K v):Lq X b s' o λv _=>K v:=by
 have hp0:=hp;unfold lG at hp;simp only [ao] at hp;obtain ⟨_,hp⟩:=hp;unfold Lq at h ⊢;split at hp<;>first| (cases hp;done)| skip
 all_goals rename_i heq
 all_goals simp only [heq] at h ⊢
 .exact jD N (by simp [heq,Op.operands]) (λv _ h=>h) h
 .exact jD N (by simp [heq,Op.operands]) (λv _ h=>h) h
 .exact lN N (by simp [heq,Op.operands]) (λv _ h=>jD N (by simp [heq,Op.operands]) (λv _ h=>jD N (by simp [heq,Op.operands]) (λv _ h=>h) h) h) h
 .exact jD N (by simp [heq,Op.operands]) (λv _ h=>h) h
 .exact jD N (by simp [heq,Op.operands]) (λv _ h=>h) h
 .exact jD N (by simp [heq,Op.operands]) (λv _ h=>h) h
 .exact lN N (by simp [heq,Op.operands]) (λv hl h=>by rw [<-Px hl];exact h) h
 .exact lN N (by simp [heq,Op.operands]) (λv _ h=>h) h
 .exact lN N (by simp [heq,Op.operands]) (λv _ h=>h) h
 .refine lN N (by simp [heq,Op.operands]) (λv hl h=>lN N (by simp [heq,Op.operands]) (λq _ h=>?_) h) h;split at h
  rw [<-Ar hl];exact h;cases h
 .exact lN N (by simp [heq,Op.operands]) (λv _ h=>lN N (by simp [heq,Op.operands]) (λq _ h=>h) h) h
 .rename_i t ps;rw [<-zM λx hx=>N.fe x (by simpa [heq,Op.operands] using hx)];exact h
 .refine lN N (by simp [heq,Op.operands]) (λv hl h=>Gi N (λy hy=>by simp [heq,Op.operands,hy]) (λl h=>Gi N (λy hy=>by simp [heq,Op.operands,hy]) (λm h=>?_) h) h) h;split at h
  rw [<-LI hl];exact h;cases h
 .exact jD N (by simp [heq,Op.operands]) (λv _ h=>jD N (by simp [heq,Op.operands]) (λu _ h=>by rw [<-VQ hp];exact h) h) h
 .exact jD N (by simp [heq,Op.operands]) (λv hl h=>by rw [<-P9 hp hl];exact h) h
 .rename_i c;split at hp
  .rename_i hc;have alb:∀ x∈c.args.toList,x∈o.op.operands.toList:=λx hx=>by
    rw [heq];have Gz:x∈c.args:=by simpa using hx
    simp [Op.operands,Call.operands,Gz]
   unfold BA at h ⊢;simp only [hc] at h ⊢;have alc:∀ (l:List Operand),(∀ x∈l,x∈o.op.operands.toList)->Ap b s l=Ap b s' l:=by
    intro l
    induction l with
    | nil=>intro _;rfl
    | cons x r ih=>
     intro hl;unfold Ap;rw [N.fe x (hl x (by simp)),ih λy hy=>hl y (aH _ hy)]
   have anW:∀ (l:List Operand) (vs:List SV),(∀ x∈l,x∈o.op.operands.toList)->Ap b s l=some vs->∀ v∈vs,∀ k∈v.labels,b.obj s k=b.obj s' k:=by
    intro l
    induction l with
    | nil=>intro vs _ hv v hm;obtain rfl: []=vs:=aj hv;cases hm
    | cons x r ih=>
     intro vs hl hv v hm;unfold Ap at hv;split at hv
     .rename_i u hu;split at hv
      .rename_i q hq;obtain rfl:u::q=vs:=aj hv;rcases bm.1 hm with rfl| hm
       .exact N.obj x (hl x (by simp)) v hu
       .exact ih q (λy hy=>hl y (aH _ hy)) hq v hm
      .cases hv
     .cases hv
   rw [<-alc c.args.toList alb];cases hv:Ap b s c.args.toList with
   | none=>rw [hv] at h;exact h
   | some vs=>
    rw [hv] at h;simp only at h ⊢;unfold pG at h ⊢;simp only at h ⊢;split at h
    .rename_i x t _;rw [<-Va λk hk=>anW c.args.toList _ alb hv (.v (.c x)) (by simp) k hk];exact h
    .exact h
  .cases hp
theorem UK (S:dg n W F b E g w s a) {src dst:TypeId} {x:Operand} {c:SV} {K:SV->Prop} (ho:o.op= .convert src dst x) (r:df E g c (a.eval x)) (hd:(match X.P.underlying dst with| some .string| some (.int _)=>true| _=>false)=true) (h:oH X b s src dst c λv _=>K v):ER X.P o a w E g K:=by
 have same:∀ {v:Value} {sv:SV},(convert src dst (a.eval x)).run X.P w= .ok v w->df E g sv v->K sv->ER X.P o a w E g K:=λ{v sv} h1 h2 h3=>
  ⟨v,sv,by simp [execOp,ho,h1],h2,h3⟩
 unfold oH at h;split at h
 .rename_i k1 k k' m hs hd;obtain ⟨hx,hm⟩:=gS r;have hr:(convert src dst (a.eval x)).run X.P w= .ok (.int k (k.wrap m)) w:=by
   simp [convert,hx,run_underlying hs,run_underlying hd,Conv.intToInt]
  split at h
  .rename_i hk;obtain rfl:=IntKind.eq_of_beq hk;rw [pF hm] at hr;exact same hr (dB hm) h
  .split at h
   .rename_i hw;have hn:=Es hw hm;rw [pF hn] at hr;exact same hr (dB hn) h
   .exact same hr (dB (eu _ _)) (h (eu _ _))
 .rename_i z hs hd;obtain ⟨hx,hz⟩:=r;refine same (v:=.string z) (sv:=.str z) (by simp [convert,hx,run_underlying hs,run_underlying hd]) ⟨rfl,hz⟩ h
 .rename_i k k1 m hs hd;obtain ⟨hx,_⟩:=gS r;obtain ⟨hl,h⟩:=h;refine same (v:=.string (Utf8.encode m)) (sv:=.str (Utf8.encode m)) ?_ ⟨rfl,hl⟩ h;simp [convert,hx,run_underlying hs,run_underlying hd,Conv.intToString]
 .rename_i h2;simp [h2] at hd
 .rename_i e y hs hd;split at h
  .rename_i he;split at h
   .rename_i l hl;obtain ⟨_,hi⟩:=tO S r hl;have hr:=BR (l:=l) hi hs he hd;refine same hr (sv:=.str (fD l)) ⟨rfl,?_⟩ h;have:=lM hi;show (fD l).size<=maxLen;have e2:(fD l).size=l.length:=by simp [fD,ByteArray.size]
    rw [e2];exact this
   .cases h
  .cases h
 .rename_i h1 h2;simp [h2] at hd
 .cases h
theorem RD {K:SV->Prop} (hp:lG X.P o=true) (S:dg n W F b E g w s a) (h:Lq X b s o λv _=>K v):ER X.P o a w E g K:=by
 unfold lG at hp;simp only [ao] at hp;obtain ⟨_,hp⟩:=hp;unfold Lq at h;split at hp<;>first| (cases hp;done)| skip
 all_goals rename_i ho
 all_goals simp only [ho] at h
 .obtain ⟨v,hv,h⟩:=fC h;exact ⟨_,_,by simp [execOp,ho],S.fe hv,h⟩
 .obtain ⟨v,hv,h⟩:=fC h;exact ⟨_,_,by simp [execOp,ho],S.fe hv,h⟩
 .rename_i c x y;obtain ⟨q,hq,h⟩:=dM h;obtain ⟨v,hv,h⟩:=fC h;obtain ⟨u,hu,h⟩:=fC h;split at h
  .rename_i z;obtain ⟨hz,_⟩:=S.fe hq;rcases tc h with ⟨e,h⟩| ⟨e,h⟩<;>subst e
   .exact ⟨a.eval x,_,by simp [execOp,ho,hz,asBool],S.fe hv,h⟩
   .exact ⟨a.eval y,_,by simp [execOp,ho,hz,asBool],S.fe hu,h⟩
  .cases h
 .rename_i op t x;obtain ⟨v,hv,h⟩:=fC h;exact ER.of (m:=Op.unary op (a.eval x)) (by simp [execOp,ho]) (RP (S.fe hv) h)
 .obtain ⟨v,hv,h⟩:=fC h;split at h
  .split at h
   .rename_i l _ c hc;obtain ⟨us,h1,h2⟩:=S.fe hv;obtain ⟨u,h3,h4⟩:=h1.get hc;exact ⟨u,.v c,by simp [execOp,ho,h2,Instr.extract,h3],h4,h⟩
   .cases h
  .cases h
 .obtain ⟨v,hv,h⟩:=fC h;split at h
  .split at h
   .rename_i f hf;split at h
    .rename_i r hr;exact FQ ho (S.fe hv) hf hr h
    .cases h
   .cases h
  .cases h
 .rename_i t x;obtain ⟨c,hc,h⟩:=dM h;exact ER.of (m:=Instr.loadAt t (a.eval x)) (by simp [execOp,ho]) (xO S (S.fe hc) h)
 .rename_i x;obtain ⟨c,hc,h⟩:=dM h;have r:=S.fe hc;have key:∀ q:Addr,a.eval x= .pointer (some q)->(execOp a.eval o).run X.P w= .ok (.value (a.eval x)) w:=λq hq=>by simp [execOp,ho,hq]
  split at h
  .obtain ⟨bb,h1,h2⟩:=r;exact ⟨_,_,key _ h2,S.fe hc,h⟩
  .obtain ⟨h0,v,h1,h2⟩:=r;obtain ⟨cs,h3,_⟩:=Ab h1 h0.1 h0.2.1;obtain ⟨q,hq,_⟩:=h3 g (bx.refl g);rw [hq] at h2;exact ⟨_,_,key _ h2,S.fe hc,h⟩
  .obtain ⟨v,h1,h2,q,hq⟩:=r;exact ⟨_,_,key _ hq,S.fe hc,h⟩
  exact ⟨_,_,key _ r.2.1,S.fe hc,h⟩;cases h
 .obtain ⟨c,hc,h⟩:=dM h;split at h
  .rename_i f hf;split at h
   .rename_i ie ku;obtain ⟨hs,h⟩:=cZ h;split at h
    .rename_i c' M7;obtain ⟨v,h1,h2⟩:=FU (w:=w) ho (S.fe hc) hf ku hs M7;exact ⟨v,.c c',h1,h2,h⟩
    .cases h
   .cases h
  .cases h
 .obtain ⟨c,hc,h⟩:=dM h;obtain ⟨q,hq,h⟩:=dM h;split at h
  exact r6 S ho (S.fe hc) (gS (S.fe hq)).1 h;cases h
 .obtain ⟨c,hc,h⟩:=dM h;obtain ⟨q,hq,h⟩:=dM h;split at h
  .obtain ⟨h0,h1,h⟩:=h;exact FP ho (by assumption) (S.fe hc).1 (S.fe hq).1 h0 h1 h
  .cases h
 .split at h
  .rename_i l hl;exact BY ho (tF S hl) h
  .cases h
 .obtain ⟨c,hc,h⟩:=dM h;obtain ⟨l,h,hl⟩:=tG S h;obtain ⟨m,h,hm⟩:=tG S h;split at h
  .rename_i i j pB CX;exact BU S ho (S.fe hc) (hl _ pB) (hm _ CX) h
  .cases h
 .rename_i op t x y yt;obtain ⟨v,hv,h⟩:=fC h;obtain ⟨u,hu,h⟩:=fC h;exact ER.of (m:=(do eqGuard op t x y (a.eval x) (a.eval y);binOp op t (a.eval x) (a.eval y))) (by simp [execOp,ho]) (LV S (S.fe hv) (S.fe hu) h)
 .obtain ⟨v,hv,h⟩:=fC h;exact UK S ho (S.fe hv) hp h
 .rename_i c;split at hp
  .rename_i hc;unfold BA at h;split at h
   .cases h
   .rename_i args ha;simp only [hc] at h;have hv:=tH S ha;obtain ⟨callee,cargs,ctys⟩:=c;simp only at hc ha hv h;subst hc;unfold pG at h;simp only at h;split at h
    .rename_i x t YR;obtain ⟨u,e,hu⟩:=tD hv;obtain ⟨ox,rfl,rfl⟩:=al7 e;obtain rfl:=VT YR;exact LQ S ho hu h
    .cases h
  .cases hp
end
theorem fw {α:Type}:∀ (l:List α) {k:List α->Prop},iU l k->k l
 | [],_,h=>h
 | _::l,_,h=>fw l h
theorem tX:∀ (l:List Bool) {k:List Bool->Prop},Js l k->k l
 | [],_,h=>h
 | true::l,_,h=>tX l h
 | false::l,_,h=>tX l h
section
variable {ops:Array Oper}
theorem HN:∀ {k:Nat} {l:List Bool} {j:Nat},dV (UB k l) j=true->j=k\/dV l j=true
 | 0,[],0,_=>.inl rfl
 | 0,[],j+1,h=>by simp [UB,dV] at h
 | 0,_::r,0,_=>.inl rfl
 | 0,_::r,j+1,h=>.inr h
 | k+1,[],0,h=>by simp [UB,dV] at h
 | k+1,[],j+1,h=>by
  rcases HN (k:=k) (l:=[]) h with e| e;exact .inl (by rw [e]);simp [dV] at e
 | k+1,a::r,0,h=>.inr h
 | k+1,a::r,j+1,h=>by
  rcases HN (k:=k) (l:=r) h with e| e;exact .inl (by rw [e]);exact .inr e
theorem Yj:∀ {a b:List Bool} {j:Nat},dV (orB a b) j=true->dV a j=true\/dV b j=true
 | [],_,_,h=>.inr h
 | _::_,[],_,h=>.inl h
 | a::r,b::q,0,h=>by simpa [orB,dV] using h
 | a::r,b::q,j+1,h=>Yj (a:=r) (b:=q) h
theorem HY {acc:List (List Bool)} {i:Nat}:∀ {l:List Edge},dV (UP acc l) i=true->∃ e∈l,Region.binds .any e=true/\(e.on=i\/dV (lr acc e.on) i=true)
 | [],h=>by simp [UP,dV] at h
 | e::r,h=>by
  unfold UP at h;split at h
  .rename_i hb;rcases Yj h with h| h
   .rcases HN h with h| h
    .exact ⟨e,aX ..,hb,.inl h.symm⟩
    .exact ⟨e,aX ..,hb,.inr h⟩
   .obtain ⟨e',h1,h2⟩:=HY h;exact ⟨e',aH _ h1,h2⟩
  .obtain ⟨e',h1,h2⟩:=HY h;exact ⟨e',aH _ h1,h2⟩
theorem IW:∀ {l:List (List Bool)} {i:Nat},lr l i=(l[i]?).getD []
 | [],_=>by simp [lr]
 | _::_,0=>rfl
 | _::r,i+1=>by simp [lr,IW (l:=r)]
theorem IX:∀ {l:List Bool} {i:Nat},dV l i=(l[i]?).getD false
 | [],_=>by simp [dV]
 | _::_,0=>rfl
 | _::r,i+1=>by simp [dV,IX (l:=r)]
theorem L3:∀ {r:List Oper} {acc:List (List Bool)} {k:List (List Bool)->Prop},XU r acc k->(∀ j,r[j]?=ops[acc.length+j]?)->(∀ j i,dV (lr acc j) i=true->tj ops j i)->∃ ms,k ms/\∀ j i,dV (lr ms j) i=true->tj ops j i
 | [],acc,k,h,_,hw=>⟨acc,h,hw⟩
 | o::r,acc,k,h,hr,hw=>by
  have h1:=fw _ (tX _ h);refine L3 h1 (λj=>?_) λj i hj=>?_
  .have:=hr (j+1);simp only [List.getElem?_cons_succ] at this;rw [this,af,aD];congr 1;omega
  .rw [IW] at hj;by_cases eK:j< acc.length
   .rw [aV eK,<-IW] at hj;exact hw j i hj
   .by_cases he:j=acc.length
    .subst he;rw [a8 (ay _)] at hj;simp only [Nat.sub_self,List.getElem?_cons_zero,Option.getD_some] at hj;obtain ⟨e,h2,h3,h4⟩:=HY hj;have ho:ops[acc.length]?=some o:=by have:=hr 0;simpa using this.symm
     have key:∀ f,(e.on=i\/reach ops f e.on i=true)->reach ops (f+1) acc.length i=true:=λf hf=>by
      unfold reach;rw [ho];simp only [Array.any_eq_true'];refine ⟨e,by simpa using h2,?_⟩;simp only [ao,lp];exact ⟨h3,hf.imp (λh=>by simpa using h) id⟩
     rcases h4 with h4| h4;exact ⟨1,key 0 (.inl h4)⟩
     .obtain ⟨f,hf⟩:=hw _ _ h4;exact ⟨f+1,key f (.inr hf)⟩
    .rw [dx (by simp;omega)] at hj;simp [dV] at hj
theorem DF {pu:List Bool} {ms:List (List Bool)}:∀ {l dn:List Nat},AV pu ms dn l=true->∀ (d:List Nat) (i:Nat) (r:List Nat),d++i::r=l->∀ j,j∈dn\/j∈d->dV pu j=false->dV (lr ms i) j=true
 | [],dn,_,d,i,r,he,_,_,_=>by simp at he
 | x::l,dn,h,d,i,r,he,j,hj,hp=>by
  unfold AV at h;simp only [ao] at h;cases d with
  | nil=>
   simp only [dQ,List.cons.injEq] at he;obtain ⟨rfl,rfl⟩:=he;rcases hj with hj| hj
   .have:=bo.1 h.1 j hj;rw [hp] at this;simpa using this
   .cases hj
  | cons y d=>
   simp only [eO,List.cons.injEq] at he;obtain ⟨rfl,he⟩:=he;refine DF h.2 d i r he j ?_ hp;rcases hj with hj| hj;exact .inl (aH _ hj)
   .rcases bm.1 hj with rfl| hj
    .exact .inl (aX ..)
    .exact .inr hj
theorem CQ {k t:Nat} {o:Oper} (ho:ops[k]?=some o):isDst ops k t=true↔o.dst=some t:=by
 unfold isDst Zn;rw [ho];simp only [oU];cases hd:o.dst with
 | none=>simp
 | some d=>simp
theorem zC {pu:List Bool} {ms:List (List Bool)} (h:BJ ops pu ms=true) {i k:Nat} {oi ok:Oper} {d:Nat} (hi:ops[i]?=some oi) (hk:ops[k]?=some ok) (hd:ok.dst=some d) (hm:d∈slotsOf ops oi):dV (lr ms i) k=true\/dV pu k=false:=by
 have h1:=bo.1 h i (dd.2 (aQ.1 hi).1);simp only [hi] at h1;have h2:=bo.1 (bo.1 h1 d hm) k (dd.2 (aQ.1 hk).1);rw [(CQ hk).2 hd] at h2;simpa using h2
theorem oA {pu:List Bool} {ms:List (List Bool)}:∀ {l:List Nat},tS ops pu ms l=true->∀ (d:List Nat) (i:Nat) (r:List Nat),d++i::r=l->dV pu i=true->∀ (o:Oper),ops[i]?=some o->∀ t∈slotsOf ops o,o.dst≠some t/\∀ k∈r,∀ ok,ops[k]?=some ok->(dV pu k=true\/dV (lr ms k) i=false)->ok.dst≠some t
 | [],_,d,i,r,he,_,_,_,_,_=>by simp at he
 | x::l,h,d,i,r,he,hp,o,ho,t,ht=>by
  unfold tS at h;simp only [ao] at h;cases d with
  | nil=>
   simp only [dQ,List.cons.injEq] at he;obtain ⟨rfl,rfl⟩:=he;have h1:=h.1;rw [hp,ho] at h1;simp only [Bool.not_true,Bool.false_or] at h1;have h2:=bo.1 h1 t ht;simp only [ao,bY] at h2;refine ⟨λe=>?_,λk hk ok tU hor e=>?_⟩;rw [(CQ ho).2 e] at h2;cases h2.1
   .have h3:=bo.1 h2.2 k hk;rw [(CQ tU).2 e] at h3;rcases hor with hor| hor<;>rw [hor] at h3<;>simp at h3
  | cons y d=>
   simp only [eO,List.cons.injEq] at he;obtain ⟨rfl,he⟩:=he;exact oA h.2 d i r he hp o ho t ht
end
section
variable {X:Vx} {n:Nat} {W:cQ} {F:List Atom} {b:Bs} {E:Env} {g w:World} {s s':Ov} {a:Act} {o:Oper} {ops:Array Oper}
structure Eqv (b:Bs) (s s':Ov):Prop where
 slot:∀ t,b.slot s' t=b.slot s t
 h:s'.h=s.h
 n:s'.n=s.n
theorem Eqv.refl:Eqv b s s:=⟨λ_=>rfl,rfl,rfl⟩
theorem Eqv.obj (e:Eqv b s s') (l:Nat):b.obj s' l=b.obj s l:=by unfold Bs.obj;rw [e.h]
theorem dg.eqv (S:dg n W F b E g w s a) (e:Eqv b s s'):dg n W F b E g w s' a:=by
 refine ⟨S.size,S.defers,λt v hv=>S.fr t v (by rw [<-e.slot];exact hv),?_,λl hl=>by rw [e.obj];exact S.top l (by rw [<-e.n];exact hl)⟩;have:b.heap s'=b.heap s:=by
  unfold Bs.heap;rw [e.n];exact gD λl _=>e.obj l
 rw [this];exact S.sat
theorem SR {d:Nat} {v:SV} (h:b.slot s d=some v):Eqv b s (s.put (some d) v):=by
 refine ⟨λt=>?_,rfl,rfl⟩;rw [mu];split
 .rename_i e;subst e;exact h.symm
 .rfl
def oK (ops:Array Oper) (b:Bs) (s:Ov) (o:Oper) (q:Bool):Prop:=match o.guard with
 | none=>q=true
 | some (j,wt)=>∃ d,(ops[j]?).bind (·.dst)=some d/\((∃ v,b.slot s d=some (.v (.c (.k (.bool v))))/\q=(v==wt))\/((∃ l,b.slot s d=some (.cJ l))/\q=false))
theorem J7 {K:Bool->Ov->Prop} (h:Et ops b s o K):∃ q s',oK ops b s o q/\Eqv b s s'/\K q s':=by
 unfold Et at h;unfold oK;split at h
 .rename_i hg;exact ⟨true,s,by rw [hg],Eqv.refl,h⟩
 .rename_i j wt hg;split at h
  .cases h
  .rename_i d hd;split at h
   .rename_i v hv;rcases tc h with ⟨e,h⟩| ⟨e,h⟩<;>subst e
    .exact ⟨_,_,by rw [hg];exact ⟨d,hd,.inl ⟨_,hv,rfl⟩⟩,SR hv,h⟩
    .exact ⟨_,_,by rw [hg];exact ⟨d,hd,.inl ⟨_,hv,rfl⟩⟩,SR hv,h⟩
   .rename_i l hv;exact ⟨_,_,by rw [hg];exact ⟨d,hd,.inr ⟨⟨l,hv⟩,rfl⟩⟩,Eqv.refl,h⟩
   .cases h
theorem oK.sem {q:Bool} (S:dg n W F b E g w s a) (h:oK ops b s o q):Region.wanted o (yielded ops a.tmps)=q:=by
 unfold oK at h;split at h
 .rename_i hg;unfold Region.wanted;rw [hg,h]
 .rename_i j wt hg;obtain ⟨d,hd,h⟩:=h;unfold Region.wanted;rw [hg];simp only;unfold yielded;rw [hd];rcases h with ⟨v,hv,e⟩| ⟨⟨l,hv⟩,e⟩
  .obtain ⟨hx,_⟩:=S.fr d _ hv;subst e;have:(a.tmps[d]?).getD undef= .bool v:=by rw [<-bZ];exact hx
   cases hq:a.tmps[d]? with
   | none=>rw [hq] at this;simp [undef] at this
   | some y=>rw [hq] at this;simp at this;subst this;cases v<;>cases wt<;>simp [hq]
  .obtain ⟨us,_,hx⟩:=S.fr d _ hv;subst e;have:(a.tmps[d]?).getD undef= .tuple us.toArray:=by rw [<-bZ];exact hx
   cases hq:a.tmps[d]? with
   | none=>simp [hq]
   | some y=>rw [hq] at this;simp at this;subst this;simp [hq]
theorem oK.congr {q:Bool} (hs:∀ t∈slotsOf ops o,b.slot s t=b.slot s' t) (h:oK ops b s o q):oK ops b s' o q:=by
 unfold oK at h ⊢;split at h;exact h
 .rename_i j wt hg;obtain ⟨d,hd,h⟩:=h;have:=hs d (iK _ (by rw [hg];simp [hd]));rw [this] at h;exact ⟨d,hd,h⟩
theorem yD (hs:∀ t∈slotsOf ops o,b.slot s t=b.slot s' t) {x:Operand} (hx:x∈o.op.operands.toList):fe b s x=fe b s' x:=by
 cases x with
 | tmp t=>exact hs t (bM _ (List.mem_filterMap.2 ⟨.tmp t,hx,rfl⟩))
 | const _=>rfl
 | func _=>rfl
 | global _=>rfl
theorem Oa.of (hs:∀ t∈slotsOf ops o,b.slot s t=b.slot s' t) (hr:∀ l∈Me b s o,b.obj s l=b.obj s' l):Oa b s s' o:=
 ⟨λx hx=>yD hs hx,λx hx v hv l hl=>hr l (List.mem_flatMap.2 ⟨x,hx,by rw [hv];exact hl⟩)⟩
theorem Md (hs:∀ t∈slotsOf ops o,b.slot s t=b.slot s' t):Me b s o=Me b s' o:=by
 unfold Me;have:∀ l:List Operand,(∀ x∈l,x∈o.op.operands.toList)->l.flatMap (λx=>match fe b s x with
   | some v=>v.labels
   | none=>[])=l.flatMap (λx=>match fe b s' x with
   | some v=>v.labels
   | none=>[]):=by
  intro l
  induction l with
  | nil=>intro _;rfl
  | cons x r ih=>
   intro h;rw [j9,j9,ih λy hy=>h y (aH _ hy),yD hs (h x (by simp))]
 exact this _ λx hx=>hx
theorem qv (hs:∀ t∈slotsOf ops o,b.slot s t=b.slot s' t):va b s o=va b s' o:=by
 unfold va;split;rfl;rfl;exact Md hs
structure Az (X:Vx) (n:Nat) (ops:Array Oper) (b:Bs) (s:Ov) (o:Oper) (d:Nat) (sv:SV):Prop where
 dst:o.dst=some d
 lt:d< n
 slot:b.slot s d=some sv
 pure:lG X.P o=true
 run:(oK ops b s o true/\Lq X b s o λv _=>v=sv)\/(oK ops b s o false/\sv= .tx)
theorem Az.jw {d:Nat} {sv:SV} (h:Az X n ops b s o d sv) (hs:∀ t∈slotsOf ops o,b.slot s t=b.slot s' t) (hd:b.slot s' d=b.slot s d) (hr:∀ l∈va b s o,b.obj s l=b.obj s' l):Az X n ops b s' o d sv:=by
 refine ⟨h.dst,h.lt,by rw [hd];exact h.slot,h.pure,?_⟩;rcases h.run with ⟨h1,h2⟩| ⟨h1,h2⟩
 .refine .inl ⟨h1.congr hs,?_⟩;have mv:∀ {x:Operand},x∈o.op.operands.toList->qj b s x (λv=>v=sv)->qj b s' x (λv=>v=sv):=λ{x} hx q=>by
   unfold qj at q ⊢;rw [<-yD hs hx];exact q
  unfold va at hr;split at hr
  .rename_i x e;unfold Lq at h2 ⊢;rw [e] at h2 ⊢;exact mv (by rw [e];simp [Op.operands]) h2
  .rename_i x e;unfold Lq at h2 ⊢;rw [e] at h2 ⊢;exact mv (by rw [e];simp [Op.operands]) h2
  .exact Lp h.pure (Oa.of hs hr) h2
 .exact .inr ⟨h1.congr hs,h2⟩
theorem Az.again {d:Nat} {sv:SV} (h:Az X n ops b s o d sv) (S:dg n W F b E g w s a):
  ∃ v,(Region.wanted o (yielded ops a.tmps)=true->(execOp a.eval o).run X.P w= .ok (.value v) w)/\(Region.wanted o (yielded ops a.tmps)=false->v=undef)/\dg n W F b E g w s (a.put o.dst v):=by
 have back:∀ {v:Value},df E g sv v->dg n W F b E g w s (a.put o.dst v):=λ{v} r=>by
  have:=S.put (d:=some d) (by simpa using h.lt) r;rw [h.dst];refine this.eqv ⟨λt=>?_,rfl,rfl⟩;rw [mu];split
  .rename_i e;subst e;exact h.slot
  .rfl
 rcases h.run with ⟨h1,h2⟩| ⟨h1,h2⟩
 .obtain ⟨v,JY,r1,r2,rfl⟩:=RD h.pure S h2;exact ⟨v,λ_=>r1,λq=>absurd q (by rw [h1.sem S];simp),back r2⟩
 .subst h2;exact ⟨undef,λq=>absurd q (by rw [h1.sem S];simp),λ_=>rfl,back iY⟩
theorem Gg {K:Ov->Prop} (S:dg n W F b E g w s a) (hp:lG X.P o=true) (ak0:∀ t∈slotsOf ops o,o.dst≠some t) (h:OA X n ops b s o K):
  ∃ d v sv s',dg n W F b E g w s' (a.put o.dst v)/\K s'/\Az X n ops b s' o d sv/\va b s' o=va b s o/\(∀ t,o.dst≠some t->b.slot s' t=b.slot s t)/\∀ l,b.obj s' l=b.obj s l:=by
 unfold OA at h;obtain ⟨hd0,h⟩:=cZ h;obtain ⟨d,hd⟩:∃ d,o.dst=some d:=by
  unfold lG at hp;simp only [ao] at hp;exact lR.1 hp.1
 have hdn:d< n:=by rw [hd] at hd0;simpa using hd0
 obtain ⟨q,s1,hq,he,h⟩:=J7 h;have S1:=S.eqv he;have gx:∀ t∈slotsOf ops o,d≠t:=λt ht e=>ak0 t ht (by rw [hd,e]);have jA:∀ (sv:SV),∀ t,d≠t->b.slot (s1.put (some d) sv) t=b.slot s t:=λsv t ht=>by rw [mu,if_neg ht,he.slot]
 have hs1:∀ (sv:SV),∀ t∈slotsOf ops o,b.slot s1 t=b.slot (s1.put (some d) sv) t:=λsv t ht=>by rw [jA sv t (gx t ht),he.slot]
 have hs0:∀ (sv:SV),∀ t∈slotsOf ops o,b.slot s t=b.slot (s1.put (some d) sv) t:=λsv t ht=>by rw [jA sv t (gx t ht)]
 cases q with
 | true=>
  simp only at h;rw [ahh hp] at h;obtain ⟨v,sv,r1,r2,k,h2⟩:=RD hp S1 ((acw hp).det h);rw [hd] at k ⊢;refine ⟨d,v,sv,_,S1.put (by simpa using hdn) r2,k,⟨hd,hdn,by rw [mu,if_pos rfl],hp,.inl ⟨hq.congr (hs0 sv),Lp hp (Oa.of (hs1 sv) λl _=>rfl) h2⟩⟩,(qv (hs0 sv)).symm,λt ht=>jA sv t λe=>ht (by rw [e]),λl=>he.obj l⟩
 | false=>
  simp only at h;rw [hd] at h ⊢;refine ⟨d,undef,.tx,_,S1.put (by simpa using hdn) iY,h,⟨hd,hdn,by rw [mu,if_pos rfl],hp,.inr ⟨hq.congr (hs0 _),rfl⟩⟩,(qv (hs0 _)).symm,λt ht=>jA _ t λe=>ht (by rw [e]),λl=>he.obj l⟩
end
section
variable {X:Vx} {n:Nat} {W:cQ} {F:List Atom} {b:Bs} {E:Env} {g w:World} {s s':Ov} {a:Act} {o:Oper} {ops:Array Oper}
theorem mg:∀ {l m:Ag} {t:Nat},fV (l++m) t=match fV l t with
  | some v=>some v
  | none=>fV m t
 | [],_,_=>rfl
 | (k,v)::r,m,t=>by
  simp only [eO,fV];cases Nat.beq k t with
  | true=>rfl
  | false=>exact mg (l:=r)
theorem nQ:∀ {l m:List (Nat×HO)} {t:Nat},gC (l++m) t=match gC l t with
  | some v=>some v
  | none=>gC m t
 | [],_,_=>rfl
 | (k,v)::r,m,t=>by
  simp only [eO,gC];cases Nat.beq k t with
  | true=>rfl
  | false=>exact nQ (l:=r)
theorem vB:∀ {l:List (Nat×HO)} {t:Nat},t ∉ l.map (·.1)->gC l t=none
 | [],_,_=>rfl
 | (k,v)::r,t,h=>by
  simp only [gC];have h1:¬k=t:=λe=>h (by simp [e]);rw [ij h1];exact vB λq=>h (by simpa using .inr (by simpa using q))
theorem mz:∀ {l:List HO} {k:Nat} {o:HO},l[k]?=some o->lJ l k=o
 | [],_,_,h=>by simp at h
 | x::r,0,o,h=>by simpa [lJ] using h
 | x::r,k+1,o,h=>mz (l:=r) (by simpa using h)
theorem nO:∀ {l:List HO} {k:Nat},l.length<=k->lJ l k= .gone
 | [],_,_=>rfl
 | x::r,0,h=>by simp at h
 | x::r,k+1,h=>nO (l:=r) (by simpa using h)
def Bs.JQ (b:Bs) (s:Ov):Bs:= {f:=s.f++b.f,h:=b.heap s}
theorem Ho {s2:Ov} (h:s2.f= []) (t:Nat):(b.JQ s).slot s2 t=b.slot s t:=by
 unfold Bs.slot Bs.JQ;rw [h];exact mg
theorem yF (h:∀ l,s.n<=l->b.obj s l= .gone) (l:Nat):lJ (b.heap s) l=b.obj s l:=by
 by_cases hl:l< s.n;exact mz (eM hl);rw [nO (by rw [dN];omega),h l (by omega)]
theorem DC {s2 s3:Ov} (h:∀ l,s.n<=l->b.obj s l= .gone) (h3:s3.h=s2.h++s.h) (l:Nat):(b.JQ s).obj s2 l=b.obj s3 l:=by
 unfold Bs.obj;rw [h3,nQ];show (match gC s2.h l with| some o=>o| none=>lJ (b.heap s) l)=_
 cases gC s2.h l with
 | some o=>rfl
 | none=>exact yF h l
theorem Hq {s2 s3:Ov} (h:∀ l,s.n<=l->b.obj s l= .gone) (h3:s3.h=s2.h++s.h) (hn:s3.n=s2.n):(b.JQ s).heap s2=b.heap s3:=by
 unfold Bs.heap;rw [hn];exact gD λl _=>DC h h3 l
theorem dg.JQ (S:dg n W F b E g w s a):dg n W F (b.JQ s) E g w {f:=[],h:=[],n:=s.n} a:=by
 refine ⟨S.size,S.defers,λt v hv=>S.fr t v (by rw [<-Ho (s2:= {f:=[],h:=[],n:=s.n}) rfl];exact hv),?_,λl hl=>?_⟩;rw [Hq (s2:= {f:=[],h:=[],n:=s.n}) (s3:=s) S.top rfl rfl];exact S.sat
 .rw [DC (s2:= {f:=[],h:=[],n:=s.n}) (s3:=s) S.top rfl];exact S.top l hl
theorem dg.merged {E':Env} {g' w':World} {s2:Ov} (top:∀ l,s.n<=l->b.obj s l= .gone) (hf:s2.f= []) (S:dg n W F (b.JQ s) E' g' w' s2 a):dg n W F b E' g' w' {f:=s.f,h:=s2.h++s.h,n:=s2.n} a:=by
 refine ⟨S.size,S.defers,λt v hv=>S.fr t v (by rw [Ho hf];exact hv),?_,λl hl=>?_⟩;rw [<-Hq (s2:=s2) (s3:= {f:=s.f,h:=s2.h++s.h,n:=s2.n}) top rfl rfl];exact S.sat
 .rw [<-DC (s2:=s2) (s3:= {f:=s.f,h:=s2.h++s.h,n:=s2.n}) top rfl];exact S.top l hl
structure amn (b:Bs) (s s':Ov) (d:Option Nat) (ks:List Nat):Prop where
 slot:∀ t,d≠some t->b.slot s' t=b.slot s t
 obj:∀ l,l ∉ ks->b.obj s' l=b.obj s l
theorem FI {d:Option Nat} {v:SV} {t:Nat} (h:d≠some t):b.slot (s.put d v) t=b.slot s t:=by
 cases d with
 | none=>rfl
 | some d=>rw [mu,if_neg λe=>h (by rw [e])]
theorem Sf {d:Option Nat} {v:SV} {l:Nat}:b.obj (s.put d v) l=b.obj s l:=by cases d<;>rfl
def abx (n:Nat) (W:cQ) (F:List Atom) (b:Bs) (E:Env) (g:World) (s:Ov) (d:Option Nat) (K:Ov->List Nat->Prop) (a':Act) (w':World):Prop:=∃ E' g' s' ks,bw E E'/\bx g g'/\dg n W F b E' g' w' s' a'/\K s' ks/\amn b s s' d ks
theorem MD (jx:jb W X.P X.ct) {K:Ov->List Nat->Prop} (S:dg n W F b E g w s a) (h:acy X n ops b s o K):
  (Region.wanted o (yielded ops a.tmps)=true/\k8 X.P o a w λv w'=>abx n W F b E g s o.dst K (a.put o.dst v) w')\/(Region.wanted o (yielded ops a.tmps)=false/\abx n W F b E g s o.dst K (a.put o.dst undef) w):=by
 unfold acy at h;obtain ⟨hd,h⟩:=cZ h;obtain ⟨q,s1,hq,he,h⟩:=J7 h;have S1:=S.eqv he;cases q with
 | true=>
  refine .inl ⟨hq.sem S,?_⟩;have hr:=Xu jx S1.JQ h;have key:∀ v w',Out n W F (b.JQ s1) E g a (λv s'=>match s'.f with
    | []=>K (({f:=s1.f,h:=s'.h++s1.h,n:=s'.n}:Ov).put o.dst v) (s'.h.map (·.1))
    | _=>False) v w'->abx n W F b E g s o.dst K (a.put o.dst v) w':=by
   rintro v w' ⟨E',g',s2,sv,h1,h2,S2,r,k⟩;split at k
   .rename_i hf;refine ⟨E',g',_,_,h1,h2,(S2.merged S1.top hf).put hd r,k,λt ht=>?_,λl hl=>?_⟩
    .rw [FI ht];exact he.slot t
    .rw [Sf,<-he.obj];unfold Bs.obj;rw [nQ,vB hl]
   .exact k.elim
  rcases hr with ⟨v,w',hr,h⟩| ⟨w',hr,h⟩| ⟨f,args,hr,h⟩;exact .inl ⟨v,w',hr,key v w' h⟩;exact .inr (.inl ⟨w',hr,key undef w' h⟩);exact .inr (.inr ⟨f,args,hr,h.mono key⟩)
 | false=>exact .inr ⟨hq.sem S,E,g,_,_,bw.refl E,bx.refl g,S1.put hd iY,h,λt ht=>by rw [FI ht,he.slot],λl _=>by rw [Sf,he.obj]⟩
def TY (X:Vx) (n:Nat) (W:cQ) (F:List Atom) (b:Bs) (E:Env) (g:World) (ops:Array Oper) (ms:List (List Bool)) (pu:List Bool) (ord:List Nat) (K:Ov->Prop) (dn rest:List Nat) (c:Act) (w':World):Prop:=
 dn++rest=ord/\∃ E' g' s lv,bw E E'/\bx g g'/\dg n W F b E' g' w' s c/\By X n ops b ms pu rest lv s K/\
  (∀ p∈lv,p.1∈dn/\dV pu p.1=true/\∃ o d sv,ops[p.1]?=some o/\Az X n ops b s o d sv/\va b s o=p.2)/\
  ∀ i∈dn,dV pu i=true->(∀ j∈dn,dV pu j=false->¬tj ops j i)->∃ p∈lv,p.1=i
theorem qU:∀ (l:List (List Nat)) {k:List (List Nat)->Prop},qV l k->k l
 | [],_,h=>h
 | _::l,_,h=>qU l (fw _ h)
theorem qQ:∀ {os:List (List Nat)} {i:Nat} {r:List Nat},i::r∈os->i∈vG os
 | [],_,_,h=>by cases h
 | []::os,i,r,h=>by
  rcases bm.1 h with h| h;cases h;exact qQ (os:=os) h
 | (x::q)::os,i,r,h=>by
  unfold vG;rcases bm.1 h with h| h
  .injection h with h1 h2;subst h1;split
   .rename_i hm;exact gw.1 hm
   .exact aX ..
  .have:=qQ (os:=os) h;split
   .exact this
   .exact aH _ this
theorem qp:∀ {os:List (List Nat)} {i:Nat} {r:List Nat},i::r∈os->r∈rW i os
 | [],_,_,h=>by cases h
 | []::os,i,r,h=>by
  rcases bm.1 h with h| h;cases h;exact qp (os:=os) h
 | (x::q)::os,i,r,h=>by
  unfold rW;rcases bm.1 h with h| h
  .injection h with h1 h2;subst h1 h2;rw [Nat.beq_refl];exact aX ..
  .have:=qp (os:=os) h;split
   .exact aH _ this
   .exact this
theorem DD {p:Nat->Prop}:∀ {l:List Nat} {i:Nat},ajd l p->i∈l->p i
 | [],_,_,h=>by cases h
 | [x],i,h,hi=>by
  obtain rfl:i=x:=by simpa using hi
  exact h
 | x::y::r,i,⟨h1,h2⟩,hi=>by
  rcases bm.1 hi with rfl| hi;exact h1;exact DD (l:=y::r) h2 hi
theorem adb {ms:List (List Bool)} {np dn:List Nat} {i:Nat} (h:∀ j∈np,dV (lr ms i) j=true->j∈dn):U2 ms np dn i=true:=bo.2 λj hj=>by
 cases hb:dV (lr ms i) j with
 | false=>rfl
 | true=>rw [gw.2 (h j hj hb)];rfl
theorem vJ {pu:List Bool}:∀ {l:List Nat} {i:Nat},qW pu l i=true->∃ r1 r2,l=r1++i::r2/\∀ j∈r1,dV pu j=true
 | [],_,h=>by cases h
 | x::r,i,h=>by
  unfold qW at h;rcases Bool.or_eq_true_iff.1 h with h| h;exact ⟨[],r,by rw [ai h];rfl,λ_ hj=>by cases hj⟩
  .obtain ⟨h1,h2⟩:=Bool.and_eq_true_iff.1 h;obtain ⟨r1,r2,e,hp⟩:=vJ h2;refine ⟨x::r1,r2,by rw [e];rfl,λj hj=>?_⟩;rcases bm.1 hj with rfl| hj
   .exact h1
   .exact hp j hj
theorem FH:∀ {l r q:List Nat},BE l r=some q->l++q=r
 | [],r,q,h=>(aj h).symm
 | _::_,[],_,h=>by cases h
 | a::l,b::r,q,h=>by
  unfold BE at h;cases hb:Nat.beq a b with
  | false=>rw [hb] at h;cases h
  | true=>
   rw [hb] at h;have h:BE l r=some q:=h;rw [<-FH h,ai hb];rfl
theorem Dg {pu:List Bool} {ms:List (List Bool)} {np:List Nat} {os:List (List Nat)}:∀ {l d0:List Nat},xh pu ms np os d0 l=true->∀ (d:List Nat) (rest:List Nat),d++rest=l->∀ i∈rest,U2 ms np (d0++d) i=true->qW pu rest i=true\/∃ q,(d0++d)++q∈os/\qW pu q i=true
 | [],d0,_,d,rest,e,i,hi,_=>by
  have:=(List.append_eq_nil_iff.1 e).2;rw [this] at hi;cases hi
 | x::l,d0,h,d,rest,e,i,hi,hn=>by
  unfold xh at h;obtain ⟨h1,h2⟩:=Bool.and_eq_true_iff.1 h;cases d with
  | nil=>
   have e:rest=x::l:=e;subst e;rw [aW] at hn ⊢;have h3:=bo.1 h1 i hi;rw [hn] at h3;rcases Bool.or_eq_true_iff.1 h3 with h3| h3;exact .inl h3
   .rw [Bool.not_true,Bool.false_or] at h3;obtain ⟨o,ho,h4⟩:=List.any_eq_true.1 h3;split at h4
    .rename_i q hq;exact .inr ⟨q,by rw [FH hq];exact ho,h4⟩
    .cases h4
  | cons y d=>
   injection e with e1 e2;subst e1;have:=Dg (l:=l) (d0:=d0++ [y]) h2 d rest e2 i hi (by simpa using hn);simpa using this
def TQ (X:Vx) (n:Nat) (W:cQ) (F:List Atom) (b:Bs) (E:Env) (g:World) (ops:Array Oper) (ms:List (List Bool)) (pu:List Bool) (ords:List (List Nat)) (K:Ov->Prop) (dn rest:List Nat) (c:Act) (w':World):Prop:=
 dn++rest∈ords/\∃ E' g' s lv os,bw E E'/\bx g g'/\dg n W F b E' g' w' s c/\FC X n ops b ms pu rest.length os lv s K/\(∀ r,dn++r∈ords->r∈os)/\
  (∀ p∈lv,p.1∈dn/\dV pu p.1=true/\∃ o d sv,ops[p.1]?=some o/\Az X n ops b s o d sv/\va b s o=p.2)/\
  ∀ i∈dn,dV pu i=true->(∀ j∈dn,dV pu j=false->¬tj ops j i)->∃ p∈lv,p.1=i
theorem acC {ro:Option Nat} {m:Nat} (jx:jb W X.P X.ct) {K:Ov->Prop} {Q:Exit->Act->World->Prop} {id:Nat} {ms:List (List Bool)} {pu:List Bool} (S:dg n W F b E g w s a) (hm:X.P.follows .mixedOrders=true) (hE:Jv ops=true) (hD:P3 ops n=true) (hpu:(bN ops.size).map (vw X.P ops)=pu) (hms:∀ j i,dV (lr ms j) i=true->tj ops j i)
  (h:iU ((bN ops.size).filter λi=> !dV pu i) λnp=>qV (JR pu ms np ops.size ops.size []) λos=>if Qt ops pu ms np os then FC X n ops b ms pu ops.size os [] s K else False) (k:∀ a' w',Step n W F b E g K a' w'->Q .normal a' w'):(Code.region id ops true).wpIn (DX ro) m X.P Q a w:=by
 have h:=fw _ h;generalize hnp:(bN ops.size).filter (λi=> !dV pu i)=np at h;have h:=qU _ h;generalize JR pu ms np ops.size ops.size []=ords at h;obtain ⟨ho,h⟩:=cZ h;unfold Qt at ho;simp only [ao] at ho;obtain ⟨h5,gx,jy⟩:=ho;have jy:=λord hm=>bo.1 jy ord hm;simp only [ao] at jy;have hnd:∀ ord,ord∈ords->ord.Nodup:=λord hm=>jH.1 (jy ord hm).1;have Ee:∀ ord,ord∈ords->∀ i,i∈ord↔i< ops.size:=λord hm i=>⟨λhi=>by simpa using bo.1 (jy ord hm).2.1 i hi,λhi=>gw.1 (bo.1 (jy ord hm).2.2.1 i (dd.2 hi))⟩;have h6:∀ ord,ord∈ords->tS ops pu ms ord=true:=λord hm=>(jy ord hm).2.2.2.1;have M6:∀ ord,ord∈ords->xh pu ms np ords [] ord=true:=λord hm=>(jy ord hm).2.2.2.2;have MZ:∀ (i:Nat) (o:Oper),ops[i]?=some o->dV pu i=true->lG X.P o=true:=λi o hi hp=>by
  rw [<-hpu,IX,ck,nD (aQ.1 hi).1] at hp;have hp:vw X.P ops i=true:=hp;unfold vw at hp;rw [hi] at hp;simp only [ao] at hp;exact hp.1
 have dne:∀ (i j:Nat) (oi oj:Oper) (d:Nat),ops[i]?=some oi->ops[j]?=some oj->oi.dst=some d->oj.dst=some d->i=j:=by
  have Nq:∀ (i j:Nat) (oi oj:Oper) (d:Nat),j< i->ops[i]?=some oi->ops[j]?=some oj->oi.dst=some d->oj.dst=some d->False:=λi j oi oj d J2 hi hj J3 Oi=>by
   have pB:i< ops.size:=(aQ.1 hi).1;have h1:=bo.1 hD i (dd.2 pB);simp only [hi,oU,J3,ao] at h1;have h2:=bo.1 h1.2 j (dd.2 J2);simp [hj,Oi] at h2
  intro i j oi oj d hi hj J3 Oi;rcases mK i j with h| h| h;exact (Nq j i oj oi d h hj hi Oi J3).elim;exact h;exact (Nq i j oi oj d h hi hj J3 Oi).elim
 have stands:∀ {dn rest:List Nat} {i:Nat} {o:Oper} {s1 s2:Ov},dn++i::rest∈ords->ops[i]?=some o->(∀ t,o.dst≠some t->b.slot s2 t=b.slot s1 t)->∀ (p:Nat×List Nat),p.1∈dn->dV pu p.1=true->(∀ l∈p.2,b.obj s2 l=b.obj s1 l)->(dV pu i=true\/dV (lr ms i) p.1=false)->
   (∃ o d sv,ops[p.1]?=some o/\Az X n ops b s1 o d sv/\va b s1 o=p.2)->∃ o d sv,ops[p.1]?=some o/\Az X n ops b s2 o d sv/\va b s2 o=p.2:=by
  rintro dn rest i o s1 s2 he hi DS p hpd hpp eh hor ⟨op,d,sv,q1,q2,q3⟩;obtain ⟨d1,d2,hdd⟩:=List.append_of_mem hpd;have hl:=oA (h6 _ he) d1 p.1 (d2++i::rest) (by rw [hdd];simp) hpp op q1;have hs:∀ t∈slotsOf ops op,b.slot s1 t=b.slot s2 t:=λt ht=>(DS t ((hl t ht).2 i (by simp) o hi hor)).symm;have gx:p.1≠i:=λe=>by
   have:=hnd _ he;rw [fh] at this;exact this.2.2 p.1 hpd i (by simp) e
  have hdd:b.slot s2 d=b.slot s1 d:=DS d λe=>gx (dne p.1 i op o d q1 hi q2.dst e);exact ⟨op,d,sv,q1,q2.jw hs hdd (λl hl=>(eh l (by rw [<-q3];exact hl)).symm),by rw [<-qv hs];exact q3⟩
 have h5o:∀ dn rest c w' i,TQ X n W F b E g ops ms pu ords K dn rest c w'->dn++rest∈ords->i∈rest->(∀ j,tj ops i j->dV pu j=false->j∈dn)->∃ r1 r2,dn++(r1++i::r2)∈ords/\TQ X n W F b E g ops ms pu ords K dn (r1++i::r2) c w'/\∀ j∈r1,dV pu j=true:=λdn rest c w' i hT he hir hw=>by
  have anK:U2 ms np dn i=true:=adb λj hj hb=>hw j (hms i j hb) (by
   rw [<-hnp] at hj;simpa using (fO.1 hj).2)
  have len:∀ q,dn++q∈ords->q.length=rest.length:=λq hq=>by
   have p1:=(List.perm_ext_iff_of_nodup (hnd _ he) (hnd _ hq)).2 λx=>(Ee _ he x).trans (Ee _ hq x).symm;have:=p1.length_eq;simp only [af] at this;omega
  rcases Dg (M6 _ he) dn rest rfl i hir (by simpa using anK) with h1| ⟨q,hq,h1⟩
  .obtain ⟨r1,r2,e,hp⟩:=vJ h1;subst e;exact ⟨r1,r2,he,hT,hp⟩
  .obtain ⟨r1,r2,e,hp⟩:=vJ h1;subst e;have hq:dn++(r1++i::r2)∈ords:=by simpa using hq
   obtain ⟨_,E',g',s1,lv,os,l1,l2,S1,hv,hos,PN,jy⟩:=hT;rw [<-len _ hq] at hv;exact ⟨r1,r2,hq,⟨hq,E',g',s1,lv,os,l1,l2,S1,hv,hos,PN,jy⟩,hp⟩
 obtain ⟨ord0,SM⟩:∃ o,o∈ords:=by
  cases ords with
  | nil=>simp at gx
  | cons o _=>exact ⟨o,aX ..⟩
 have hl0:ord0.length=ops.size:=by
  have p1:=(List.perm_ext_iff_of_nodup (hnd _ SM) List.nodup_range).2 λx=>(Ee _ SM x).trans List.mem_range.symm;have:=p1.length_eq
  rwa [List.length_range] at this
 refine wpIn_region_any hm ?_;refine afI (Ord:=λl=>l∈ords) (pu:=dV pu) (T:=TQ X n W F b E g ops ms pu ords K) hE hD hnd Ee h5o
  (λi k oi ok d hi hk hd hm=>(zC h5 hi hk hd hm).imp (hms i k) λq=>q)
  (λdn rest c w' ⟨_,E',g',s1,lv,_,_,_,S1,_⟩=>⟨S1.size,S1.defers⟩) ?_ ?_ ?_ ?_ ops.size _ a _ [] ord0 a ⟨by simpa using SM,by simp,?_,S.size,S.defers,?_,λt _=>rfl,λi hi=>(by cases hi),?_⟩ ?_
 .rintro dn rest c w' i o ⟨he,E',g',s1,lv,os,l1,l2,S1,hv,hos,PN,jy⟩ yM tT hi Vj;obtain ⟨p,hp,rfl⟩:=jy i yM tT Vj;obtain ⟨_,_,op,d,sv,q1,q2,q3⟩:=PN p hp;rw [hi] at q1;obtain rfl:=aj q1;obtain ⟨v,v1,v2,v3⟩:=q2.again S1;exact ⟨v,v1,v2,he,E',g',s1,lv,os,l1,l2,v3,hv,hos,PN,jy⟩
 .rintro dn i rest c w' o ⟨he,E',g',s1,lv,os,l1,l2,S1,hv,hos,PN,jy⟩ tT hi;have hv:=DD (fw _ hv) (qQ (hos _ he));simp only [hi,tT] at hv;obtain ⟨d,v,sv,s2,S2,hk,hid,MX,DS,eh⟩:=Gg S1 (MZ i o hi tT) (λt ht=>(oA (h6 _ he) dn i rest rfl tT o hi t ht).1) hv;have hk:=qU _ hk;refine ⟨v,by simpa using he,E',g',s2,_,_,l1,l2,S2,hk,λr hr=>qp (hos _ (by simpa using hr)),λp hp=>?_,λj hj Jm Vj=>?_⟩
  .rcases bm.1 hp with rfl| hp
   .exact ⟨by simp,tT,o,d,sv,hi,hid,MX⟩
   .obtain ⟨p1,p2,p3⟩:=PN p hp;exact ⟨bM _ p1,p2,stands he hi DS p p1 p2 (λl _=>eh l) (.inl tT) p3⟩
  .rcases aY.1 hj with hj| hj
   .obtain ⟨p,hp,e⟩:=jy j hj Jm λq hq hpq=>Vj q (bM _ hq) hpq;exact ⟨p,aH _ hp,e⟩
   .have J2:j=i:=by simpa using hj
    exact ⟨_,aX ..,J2.symm⟩
 .rintro dn i rest c w' o ⟨he,E',g',s1,lv,os,l1,l2,S1,hv,hos,PN,jy⟩ tT hi;have hv:=DD (fw _ hv) (qQ (hos _ he));simp only [hi,tT] at hv;have key:∀ a' w'',abx n W F b E' g' s1 o.dst (λs' ks=>iU (lv.filter λp=> !dV (lr ms i) p.1) λlv=>if lv.all (λp=>p.2.all λl=> !hZ l ks) then qV (rW i os) (λos=>FC X n ops b ms pu rest.length os lv s' K) else False) a' w''->TQ X n W F b E g ops ms pu ords K (dn++ [i]) rest a' w'':=by
   rintro a' w'' ⟨E2,g2,s2,ks,m1,m2,S2,hk,hal⟩;have hk:=fw _ hk;obtain ⟨hc,hk⟩:=cZ hk;have hk:=qU _ hk;refine ⟨by simpa using he,E2,g2,s2,_,_,l1.trans m1,l2.trans m2,S2,hk,λr hr=>qp (hos _ (by simpa using hr)),λp hp=>?_,λj hj Jm Vj=>?_⟩
   .have YW:=(fO.1 hp).1;obtain ⟨p1,p2,p3⟩:=PN p YW;have hw:dV (lr ms i) p.1=false:=by simpa using (fO.1 hp).2
    refine ⟨bM _ p1,p2,stands he hi hal.slot p p1 p2 (λl hl=>hal.obj l λhlk=>?_) (.inr hw) p3⟩;have:=bo.1 (bo.1 hc p hp) l hl;rw [gw.2 hlk] at this;cases this
   .have CX:j∈dn:=by
     rcases aY.1 hj with h| h;exact h
     .have:j=i:=by simpa using h
      subst this;rw [tT] at Jm;cases Jm
    obtain ⟨p,hp,e⟩:=jy j CX Jm λq hq hpq=>Vj q (bM _ hq) hpq;refine ⟨p,fO.2 ⟨hp,?_⟩,e⟩;cases hb:dV (lr ms i) p.1 with
    | false=>rfl
    | true=>
     exfalso
     rw [e] at hb;exact Vj i (by simp) tT (hms i j hb)
  rcases MD jx S1 hv with ⟨hw,hr⟩| ⟨hw,hr⟩
  .refine .inl ⟨hw,?_⟩;rcases hr with ⟨v,w2,hr,h⟩| ⟨w2,hr,h⟩| ⟨f,args,hr,h⟩
   .exact .inl ⟨v,w2,hr,key _ w2 h⟩
   .exact .inr (.inl ⟨w2,hr,key _ w2 h⟩)
   .exact .inr (.inr ⟨f,args,hr,h.mono λv w2 h=>key _ w2 h⟩)
  .exact .inr ⟨hw,key _ _ hr⟩
 .rintro dn c w' ⟨he,E',g',s1,lv,os,l1,l2,S1,hv,_⟩;exact k c w' ⟨E',g',s1,l1,l2,S1,hv⟩
 .intro j o hj hl;rw [tC] at hl;cases hl
 .exact ⟨by simpa using SM,E,g,s,[],ords,bw.refl E,bx.refl g,S.le (Le.drew w),by rw [hl0];exact h,λr hr=>by simpa using hr,λp hp=>(by cases hp),λi hi=>(by cases hi)⟩
 .intro i hl;rw [tC] at hl;cases hl
 .simp;exact Nat.le_trans (List.length_filter_le _ _) (by simp)
theorem adT {ro:Option Nat} {m:Nat} (jx:jb W X.P X.ct) {K:Ov->Prop} {Q:Exit->Act->World->Prop} {id:Nat} (S:dg n W F b E g w s a) (h:v8 X n ops true b s K) (k:∀ a' w',Step n W F b E g K a' w'->Q .normal a' w'):(Code.region id ops true).wpIn (DX ro) m X.P Q a w:=by
 unfold v8 at h;rw [if_pos rfl] at h;obtain ⟨h0,h⟩:=cZ h;simp only [ao] at h0;obtain ⟨⟨hm,hE⟩,hD⟩:=h0;have h:=tX _ h;obtain ⟨ms,h,hms⟩:=L3 (ops:=ops) h (λj=>by simp) (λj i h=>by simp [lr,dV] at h);have h:=fw _ h;generalize hpu:(bN ops.size).map (vw X.P ops)=pu at h;generalize hod:aeZ pu ms ops.size=ord at h;by_cases ho:Yh ops pu ms ord=true
 case neg=>
  rw [if_neg ho] at h;exact acC jx S hm hE hD hpu hms h k
 rw [if_pos ho] at h;unfold Yh at ho;simp only [ao] at ho;obtain ⟨⟨⟨⟨⟨h1,h2⟩,h3⟩,h4⟩,h5⟩,h6⟩:=ho;have hnd:ord.Nodup:=jH.1 h1;have Ee:∀ i,i∈ord↔i< ops.size:=λi=>⟨λhi=>by simpa using bo.1 h2 i hi,λhi=>gw.1 (bo.1 h3 i (dd.2 hi))⟩;have MZ:∀ (i:Nat) (o:Oper),ops[i]?=some o->dV pu i=true->lG X.P o=true:=λi o hi hp=>by
  rw [<-hpu,IX,ck,nD (aQ.1 hi).1] at hp;have hp:vw X.P ops i=true:=hp;unfold vw at hp;rw [hi] at hp;simp only [ao] at hp;exact hp.1
 have dne:∀ (i j:Nat) (oi oj:Oper) (d:Nat),ops[i]?=some oi->ops[j]?=some oj->oi.dst=some d->oj.dst=some d->i=j:=by
  have Nq:∀ (i j:Nat) (oi oj:Oper) (d:Nat),j< i->ops[i]?=some oi->ops[j]?=some oj->oi.dst=some d->oj.dst=some d->False:=λi j oi oj d J2 hi hj J3 Oi=>by
   have pB:i< ops.size:=(aQ.1 hi).1;have h1:=bo.1 hD i (dd.2 pB);simp only [hi,oU,J3,ao] at h1;have h2:=bo.1 h1.2 j (dd.2 J2);simp [hj,Oi] at h2
  intro i j oi oj d hi hj J3 Oi;rcases mK i j with h| h| h;exact (Nq j i oj oi d h hj hi Oi J3).elim;exact h;exact (Nq i j oi oj d h hi hj J3 Oi).elim
 -- what has come early stands while others are done
 have stands:∀ {dn rest:List Nat} {i:Nat} {o:Oper} {s1 s2:Ov},dn++i::rest=ord->ops[i]?=some o->(∀ t,o.dst≠some t->b.slot s2 t=b.slot s1 t)->∀ (p:Nat×List Nat),p.1∈dn->dV pu p.1=true->(∀ l∈p.2,b.obj s2 l=b.obj s1 l)->(dV pu i=true\/dV (lr ms i) p.1=false)->
   (∃ o d sv,ops[p.1]?=some o/\Az X n ops b s1 o d sv/\va b s1 o=p.2)->∃ o d sv,ops[p.1]?=some o/\Az X n ops b s2 o d sv/\va b s2 o=p.2:=by
  rintro dn rest i o s1 s2 he hi DS p hpd hpp eh hor ⟨op,d,sv,q1,q2,q3⟩;obtain ⟨d1,d2,hdd⟩:=List.append_of_mem hpd;have hl:=oA h6 d1 p.1 (d2++i::rest) (by rw [<-he,hdd];simp) hpp op q1;have hs:∀ t∈slotsOf ops op,b.slot s1 t=b.slot s2 t:=λt ht=>(DS t ((hl t ht).2 i (by simp) o hi hor)).symm;have gx:p.1≠i:=λe=>by
   have:=hnd;rw [<-he,fh] at this;exact this.2.2 p.1 hpd i (by simp) e
  have hdd:b.slot s2 d=b.slot s1 d:=DS d λe=>gx (dne p.1 i op o d q1 hi q2.dst e);exact ⟨op,d,sv,q1,q2.jw hs hdd (λl hl=>(eh l (by rw [<-q3];exact hl)).symm),by rw [<-qv hs];exact q3⟩
 refine wpIn_region_any hm ?_;have h5o:∀ dn rest c w' i,TY X n W F b E g ops ms pu ord K dn rest c w'->dn++rest=ord->i∈rest->(∀ j,tj ops i j->dV pu j=false->j∈dn)->∃ r1 r2,dn++(r1++i::r2)=ord/\TY X n W F b E g ops ms pu ord K dn (r1++i::r2) c w'/\∀ j∈r1,dV pu j=true:=λdn rest c w' i hT he hir hw=>by
  obtain ⟨r1,r2,hr⟩:=List.append_of_mem hir;subst hr;refine ⟨r1,r2,he,hT,λj hj=>?_⟩;cases hp:dV pu j with
  | true=>rfl
  | false=>
   have h1:=hw j (hms i j (DF h4 (dn++r1) i r2 (by rw [<-he];simp) j (.inr (by simp [hj])) hp)) hp;have:=hnd;rw [<-he,fh] at this;exact (this.2.2 j h1 j (by simp [hj]) rfl).elim
 refine afI (Ord:=λl=>l=ord) (pu:=dV pu) (T:=TY X n W F b E g ops ms pu ord K) hE hD (λl e=>by rw [e];exact hnd) (λl e i=>by rw [e];exact Ee i) h5o
  (λi k oi ok d hi hk hd hm=>(zC h5 hi hk hd hm).imp (hms i k) λq=>q)
  (λdn rest c w' ⟨_,E',g',s1,lv,_,_,S1,_⟩=>⟨S1.size,S1.defers⟩) ?_ ?_ ?_ ?_ ops.size _ a _ [] ord a ⟨rfl,by simp,?_,S.size,S.defers,?_,λt _=>rfl,λi hi=>(by cases hi),?_⟩ ?_
 .rintro dn rest c w' i o ⟨he,E',g',s1,lv,l1,l2,S1,hv,PN,jy⟩ yM tT hi Vj;obtain ⟨p,hp,rfl⟩:=jy i yM tT Vj;obtain ⟨_,_,op,d,sv,q1,q2,q3⟩:=PN p hp;rw [hi] at q1;obtain rfl:=aj q1;obtain ⟨v,v1,v2,v3⟩:=q2.again S1;exact ⟨v,v1,v2,he,E',g',s1,lv,l1,l2,v3,hv,PN,jy⟩
 .rintro dn i rest c w' o ⟨he,E',g',s1,lv,l1,l2,S1,hv,PN,jy⟩ tT hi;unfold By at hv;simp only [hi,tT] at hv;obtain ⟨d,v,sv,s2,S2,hk,hid,MX,DS,eh⟩:=Gg S1 (MZ i o hi tT) (λt ht=>(oA h6 dn i rest he tT o hi t ht).1) hv;refine ⟨v,by rw [<-he];simp,E',g',s2,_,l1,l2,S2,hk,λp hp=>?_,λj hj Jm Vj=>?_⟩
  .rcases bm.1 hp with rfl| hp
   .exact ⟨by simp,tT,o,d,sv,hi,hid,MX⟩
   .obtain ⟨p1,p2,p3⟩:=PN p hp;exact ⟨bM _ p1,p2,stands he hi DS p p1 p2 (λl _=>eh l) (.inl tT) p3⟩
  .rcases aY.1 hj with hj| hj
   .obtain ⟨p,hp,e⟩:=jy j hj Jm λq hq hpq=>Vj q (bM _ hq) hpq;exact ⟨p,aH _ hp,e⟩
   .have J2:j=i:=by simpa using hj
    exact ⟨_,aX ..,J2.symm⟩
 .rintro dn i rest c w' o ⟨he,E',g',s1,lv,l1,l2,S1,hv,PN,jy⟩ tT hi;unfold By at hv;simp only [hi,tT] at hv;have key:∀ a' w'',abx n W F b E' g' s1 o.dst (λs' ks=>iU (lv.filter λp=> !dV (lr ms i) p.1) λlv=>if lv.all (λp=>p.2.all λl=> !hZ l ks) then By X n ops b ms pu rest lv s' K else False) a' w''->TY X n W F b E g ops ms pu ord K (dn++ [i]) rest a' w'':=by
   rintro a' w'' ⟨E2,g2,s2,ks,m1,m2,S2,hk,hal⟩;have hk:=fw _ hk;obtain ⟨hc,hk⟩:=cZ hk;refine ⟨by rw [<-he];simp,E2,g2,s2,_,l1.trans m1,l2.trans m2,S2,hk,λp hp=>?_,λj hj Jm Vj=>?_⟩
   .have YW:=(fO.1 hp).1;obtain ⟨p1,p2,p3⟩:=PN p YW;have hw:dV (lr ms i) p.1=false:=by simpa using (fO.1 hp).2
    refine ⟨bM _ p1,p2,stands he hi hal.slot p p1 p2 (λl hl=>hal.obj l λhlk=>?_) (.inr hw) p3⟩;have:=bo.1 (bo.1 hc p hp) l hl;rw [gw.2 hlk] at this;cases this
   .have CX:j∈dn:=by
     rcases aY.1 hj with h| h;exact h
     .have:j=i:=by simpa using h
      subst this;rw [tT] at Jm;cases Jm
    obtain ⟨p,hp,e⟩:=jy j CX Jm λq hq hpq=>Vj q (bM _ hq) hpq;refine ⟨p,fO.2 ⟨hp,?_⟩,e⟩;cases hb:dV (lr ms i) p.1 with
    | false=>rfl
    | true=>
     exfalso
     rw [e] at hb;exact Vj i (by simp) tT (hms i j hb)
  rcases MD jx S1 hv with ⟨hw,hr⟩| ⟨hw,hr⟩
  .refine .inl ⟨hw,?_⟩;rcases hr with ⟨v,w2,hr,h⟩| ⟨w2,hr,h⟩| ⟨f,args,hr,h⟩
   .exact .inl ⟨v,w2,hr,key _ w2 h⟩
   .exact .inr (.inl ⟨w2,hr,key _ w2 h⟩)
   .exact .inr (.inr ⟨f,args,hr,h.mono λv w2 h=>key _ w2 h⟩)
  .exact .inr ⟨hw,key _ _ hr⟩
 .rintro dn c w' ⟨he,E',g',s1,lv,l1,l2,S1,hv,_⟩;exact k c w' ⟨E',g',s1,l1,l2,S1,hv⟩
 .intro j o hj hl;rw [tC] at hl;cases hl
 .exact ⟨rfl,E,g,s,[],bw.refl E,bx.refl g,S.le (Le.drew w),h,λp hp=>(by cases hp),λi hi=>(by cases hi)⟩
 .intro i hl;rw [tC] at hl;cases hl
 .simp;exact Nat.le_trans (List.length_filter_le _ _) (by simp)
theorem Oy {ro:Option Nat} {m:Nat} (jx:jb W X.P X.ct) {K:Ov->Prop} {Q:Exit->Act->World->Prop} {id:Nat} {draw:Bool} (S:dg n W F b E g w s a) (h:v8 X n ops draw b s K) (k:∀ a' w',Step n W F b E g K a' w'->Q .normal a' w'):(Code.region id ops draw).wpIn (DX ro) m X.P Q a w:=by
 cases draw with
 | true=>exact adT jx S h k
 | false=>
  unfold v8 at h;exact wpIn_region_lit (HG jx S h k)
end
end Go.Lm

