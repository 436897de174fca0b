/- Texts of mine, laid together: LmVi LmVj LmVk LmVl LmVlz LmVka LmVm LmVn LmVnb LmVnc LmVnd LmVne LmVo LmVp LmVq LmVr LmVs LmVt LmVu. -/
import Derived.Test.YthjbdgokcljocaaGreatDoorQ1
import Derived.Lib.AppendStr
import Derived.Great.BuildSlice
import Derived.OrdersIn
import Derived.TacticsIn
import Derived.RangeFuncCalls
set_option linter.unusedVariables false
open Array renaming getElem?_eq_some_iff → aQ, getD_eq_getD_getElem? → cj, getElem?_eq_getElem → cL, length_toList → dw, getElem?_toList → eS, getElem?_eq_none → iy, getElem?_append_left → ka, getElem?_setIfInBounds_ne → kx
open Bool renaming and_eq_true → ao, not_eq_true' → bG, false_eq_true → dP, false_and → gO, or_eq_true → iD, false_or → jE
open Int renaming toNat → aA, le_refl → bp
open List renaming length_append → af, getElem?_eq_getElem → ak, length_cons → aq, replicate → au, getElem?_eq_some_iff → av, length_singleton → ay, length_take → aD, mem_cons_of_mem → aG, append_assoc → aH, eq_nil_of_length_eq_zero → aK, length_nil → aL, mem_map → aM, getD_eq_getElem?_getD → aP, mem_singleton → aR, mem_cons_self → aS, length_replicate → aT, getElem?_append_left → aU, take_of_length_le → aV, length_drop → aW, mem_cons → aX, mem_append → aY, getElem?_append_right → aZ, append_nil → a7, all_eq_true → bo, flatten_cons → bF, mem_append_left → bH, length_map → bL, drop_eq_getElem_cons → bO, range → bP, take_append_drop → bY, map_cons → cg, getElem?_map → cz, getElem_mem → df, mem_range → dm, getElem?_eq_none → dy, drop_append_of_le_length → dz, getElem?_take → dO, cons_append → eB, nodup_cons → eD, nil_append → eE, map_append → eR, flatten_append → eT, drop_eq_nil_of_le → eZ, mem_of_getElem? → fc, nodup_append → fm, mem_filter → fQ, take_take → fR, map_congr_left → gH, length_set → gJ, mem_append_right → ja, flatMap_cons → kq, filter_eq_self → kr, take_append_of_le_length → lV, filter_cons → lW, drop_take → pJ
open Nat renaming eq_of_beq_eq_true → ai, le_refl → az, zero_add → cd, zero_le → cr, le_of_ble_eq_true → cK, min_eq_left → eP, lt_or_ge → eQ, add_mul → fj, blt → gx, mul_le_mul_right → hZ, add_zero → j4, lt_trichotomy → ko, mod_eq_of_lt → lU, sub_self → pq
open Option renaming isSome_iff_exists → lT, bind_some → o6
open Option.some renaming inj → aj, injEq → km
open UInt8 renaming ofNat → ax
noncomputable section
namespace Go.Lm
open Go Go.RowKit
def ER (P:Program) (o:Oper) (a:Act) (w:World) (E:Env) (g:World) (K:SV->Prop):Prop:=∃ v sv,(execOp a.eval o).run P w= .ok (.value v) w/\dq E g sv v/\K sv
section
variable {P:Program} {n:Nat} {W:cV} {F:List Atom} {b:Bs} {E:Env} {g w:World} {s:Ov} {a:Act} {K:SV->Prop} {o:Oper}
theorem ER.of {m:Sem Value} (h:execOp a.eval o=(do pure (.value (<-m)))) (k:PR P m w E g K):ER P o a w E g K:=by
 obtain ⟨v,sv,h1,h2,h3⟩:=k;exact ⟨v,sv,by rw [h,Sem.run_bind,h1];rfl,h2,h3⟩
theorem Ja {e:Ty} {v:Value} {xs:List e.den} {x:Operand} {t et:TypeId} (h:oa e w v xs) (ho:o.op= .call {callee:=.builtin .len,args:= #[x],argTypes:= #[t]}) (ht:P.underlying t=some (.slice et)) (hx:a.eval x=v):(execOp a.eval o).run P w= .ok (.value (.int .i64 xs.length)) w:=by
 letI:=e.rep;exact aml (α:=e.den) h ho ht hx
theorem pE {e:Ty} {t:TypeId} {v:Value} {xs:List e.den} {l:List Atom} (H:SL W g w (py e t v xs::l)):oa e w v xs:=by
 letI:=e.rep;exact SL.ae6 (α:=e.den) H
theorem rH.length {k:Kk} {e:Ty}:∀ {l:List (k.den×Value)} {xs:List (k.den×e.den)},rH g k e l xs->l.length=xs.length
 | [],_,h=>by rw [show _= [] from h];rfl
 | _::_,_,⟨x,r,q,_,h2⟩=>by rw [q,aq,aq,h2.length]
theorem QL {P:Program} (S:dr n W F b E g w s a) {l bb:Nat} (h:E[l]?=some (ptr bb 0)) {t:TypeId} {k:Kk} {e:Ty} {xs:List (k.den×e.den)} (ho:b.obj s l= .map t k e xs) (hk:j7 P t k=true):
  ∃ m,rH g k e m xs/\SL W g w (@mapA k.den k.key P t bb m::dD (bh E 0 (b.heap s)++F) l):=by
 have H:=S.pick h;rw [ho] at H;obtain ⟨k1,be,se,ow,h1,h2,ap,q,⟨b',m,s1,s2,P',vY,s3⟩,s4⟩:=H;rw [h] at s1;have:bb=b':=by
  have:=aj s1;simp [ptr] at this;exact this
 subst this;exact ⟨m,s2,k1,be,se,ow,h1,h2,ap,q,IZ vY hk s3,s4⟩
theorem LW (S:dr n W F b E g w s a) {x:Operand} {t:TypeId} {c:Cl} (ho:o.op= .call {callee:=.builtin .len,args:= #[x],argTypes:= #[t]}) (r:cv E g c (a.eval x)) (h:Eb P b s t c K):ER P o a w E g K:=by
 have ii:∀ {m:Nat},m<=9223372036854775807->aI .i64 (m:Int):=λ{m} h=>by
  show (-9223372036854775808:Int)<=m/\(m:Int)<=9223372036854775807;omega
 unfold Eb at h;split at h
 .rename_i z ht;obtain ⟨hx,hz⟩:=r;exact ⟨_,_,Wb ho ht hx,dB (ii hz),h⟩
 .rename_i et ht;obtain ⟨hx,_⟩:=r;have:oa .unit w (.slice none 0 0) []:=(@dx Unit Ty.unit.rep w _ _).2 (.inl ⟨rfl,rfl⟩);exact ⟨_,_,Ja this ho ht hx,dB (ii (by simp)),h⟩
 .rename_i kt et ht;obtain ⟨hx,_⟩:=r;exact ⟨_,_,JS ho ht hx,dB (ii (m:=0) (by simp)),h⟩
 .rename_i et e x ht;have hl:=lP (show oa e g _ x from r);exact ⟨_,_,Ja (oa.mono S.m r) ho ht rfl,dB (ii hl),h hl⟩
 .rename_i et l off m ht;obtain ⟨bb,c,hE,hc,hx⟩:=r;obtain ⟨hm,h⟩:=h;refine ⟨.int .i64 m,_,?_,dB (ii hm),h⟩;simp [execOp,ho,resolve,invoke,builtin,Builtin.len_,hx,run_underlying ht,goInt]
 .rename_i et l ht;obtain ⟨hE,_⟩:=r;split at h
  .rename_i eu;have hi:=pE (jY S hE eu);have hl:=lP hi;exact ⟨_,_,Ja hi ho ht rfl,dB (ii hl),h hl⟩
  .rename_i eu;have hi:=lR S hE eu;have hl:=lP hi;exact ⟨_,_,Ja (hi.mono S.m) ho ht rfl,dB (ii hl),h hl⟩
  .cases h
 .rename_i kt et l ht;obtain ⟨bb,hE,hx⟩:=r;split at h
  .rename_i k' kk e xs eu;obtain ⟨hk,h9⟩:=dc h;rw [ao] at hk;obtain ⟨rU,qS⟩:=hk;obtain rfl:=ai rU;obtain ⟨m,h1,H⟩:=QL S hE eu qS;letI:=kk.key;have hl:xs.length<=9223372036854775807:=by
    rw [<-h1.length];exact H.Gl
   refine ⟨.int .i64 xs.length,_,?_,dB (ii hl),h9 hl⟩;have:=H.YO ht o.type;rw [h1.length] at this;simp [execOp,ho,resolve,invoke,builtin,hx,this]
  .rename_i kt2 tR e M eu;obtain ⟨hk,h9⟩:=dc h;rw [ao] at hk;obtain ⟨rU,qS⟩:=hk;obtain rfl:=ai rU;have H:=S.pick hE;rw [eu] at H;have H1:SL W g w (pmA kt tR e M (ptr bb 0)::dD (bh E 0 (b.heap s)++F) l):=H.cE λ_ ⟨k1,k2,ap,q,⟨v,h1,h2⟩,h3⟩=>⟨k1,k2,ap,q,by
    rw [hE] at h1;obtain rfl:=aj h1;exact h2,h3⟩
   obtain ⟨⟨mb,P'⟩,H2⟩:=SL.CD H1;obtain ⟨⟨hv,hu⟩,H3⟩:=SL.pure H2;have hbb:bb=mb:=by simpa [ptr] using hv
   subst hbb;have hP':j7 P' kt .int=true:=by unfold j7;rw [hu]
   have H4:SL W g w (mapA P kt bb (sJ M)::(M.map (tj tR e)++dD (bh E 0 (b.heap s)++F) l)):=H3.cE λ_ ⟨k1,k2,ap,q,h1,h2⟩=>⟨k1,k2,ap,q,wV (λv=>w7 hP' qS v) h1,h2⟩;have DU:(sJ M).length=M.length:=by unfold sJ;rw [bL]
   have hl:M.length<=9223372036854775807:=by
    rw [<-DU];exact H4.Gl
   refine ⟨.int .i64 M.length,_,?_,dB (ii hl),h9 hl⟩;have:=H4.YO ht o.type;rw [DU] at this;simp [execOp,ho,resolve,invoke,builtin,hx,this]
  .cases h
 .cases h
theorem FR {t:TypeId} {x:Operand} {j:Nat} {c c':Cl} {f:Field} {ie:TypeInfo} (ho:o.op= .fieldAddr t x j) (r:cv E g c (a.eval x)) (hf:ud P t j=some f) (hi:P.info? f.type=some ie) (hs:gx 0 ie.size=true) (hc:aaI c f.offset=some c')
  :∃ v,(execOp a.eval o).run P w= .ok (.value v) w/\cv E g c' v:=by
 have sW:¬ie.size=0:=by
  have:0< ie.size:=by simpa using hs
  omega
 unfold ud at hf;split at hf
 .rename_i fs ht;have key:∀ q:Addr,a.eval x= .pointer (some q)->(execOp a.eval o).run P w= .ok (.value (.pointer (some (q.add f.offset)))) w:=λq hq=>by
   simp [execOp,ho,hq,Instr.fieldAt,Instr.sureAddr,run_underlying ht,hf,fieldPlace,sizeOf,typeInfo,hi,sW]
  unfold aaI at hc;split at hc
  .obtain rfl:=aj hc;obtain ⟨bb,hE,hx⟩:=r;refine ⟨_,key _ hx,bb,hE,?_⟩;unfold Addr.add;split
   .rename_i h0;simp [h0]
   .rfl
  .split at hc
   .rename_i hle;obtain rfl:=aj hc;obtain ⟨h0,v,h1,hx⟩:=r;obtain ⟨cs,h3,_⟩:=Ah h1 h0.1 h0.2.1;obtain ⟨q,hq,_⟩:=h3 g (bA.refl g);rw [hq] at hx;refine ⟨_,key _ hx,⟨h0.1,h0.2.1,cK hle⟩,v,h1,?_⟩;rw [hq];simp [nA,Go.Deep.add_add]
   .cases hc
  .obtain rfl:=aj hc;obtain ⟨v,hE,hx,q,hq⟩:=r;refine ⟨_,key _ hq,v,hE,?_,_,rfl⟩;rw [<-aaJ,<-hx,hq];rfl
  .obtain rfl:=aj hc;obtain ⟨hE,hx,_⟩:=r;refine ⟨_,key _ hx,hE,?_,rfl⟩;unfold Addr.add;split
   .rename_i h0;simp [h0]
   .rfl
  .cases hc
 .cases hf
theorem HU {x i:Operand} {t et:TypeId} {e:Ty} {v:Value} {xs:List e.den} {k:Int} {ki:IntKind} {ie:TypeInfo} (h:oa e w v xs) (h0:0<=k) (h1:k< xs.length) (ho:o.op= .indexAddr t x i) (ht:P.underlying t=some (.slice et)) (hi:P.info? et=some ie) (hs:Nat.beq e.size ie.size=true)
  (hx:a.eval x=v) (hk:a.eval i= .int ki k):(execOp a.eval o).run P w= .ok (.value (jU e.size v k)) w:=by
 letI:=e.rep;have kE:aO.size e.den=e.size:=Ty.gz e;have:=N9 (α:=e.den) (P:=P) (o:=o) (ρ:=a.eval) h h0 h1 ho ht (by rw [hi,kE];exact congrArg some (ai hs).symm) hx hk;rw [kE] at this;exact this
theorem yW {e:Ty} {v:Value} {xs:List e.den} {k:Int} (h:oa e w v xs) (h0:0<=k) (h1:k< xs.length):nA (jU e.size v k) 0=jU e.size v k/\∃ q,jU e.size v k= .pointer (some q):=by
 obtain ⟨cs,h3,_⟩:=Ah h h0 h1;obtain ⟨q,hq,_⟩:=h3 w (bA.refl w);rw [hq];exact ⟨by simp [nA,Addr.add],_,rfl⟩
theorem C5 {e:Ty} {v:Value} {xs:List e.den} {k:Int} {sz:Nat} (h:oa e w v xs) (h0:0<=k) (h1:k< xs.length):∃ q:Addr,nA (jU sz v 0) 0= .pointer (some q)/\nA (jU sz v k) 0= .pointer (some (q.add (k.toNat*sz))):=by
 letI:=e.rep;rcases (dx (α:=e.den)).1 h with ⟨_,rfl⟩| ⟨a,cap,rfl,_⟩;simp at h1;omega
 .refine ⟨(a.add (aA 0*sz)).add 0,rfl,?_⟩;show Value.pointer (some ((a.add (k.toNat*sz)).add 0))=_;rw [Go.Deep.add_add,Go.Deep.add_add,Go.Deep.add_add];congr 3;simp
theorem r8 (S:dr n W F b E g w s a) {x i:Operand} {t:TypeId} {c:Cl} {k:Int} {ki:IntKind} (ho:o.op= .indexAddr t x i) (r:cv E g c (a.eval x)) (hk:a.eval i= .int ki k) (h:iv P b s t c k K):ER P o a w E g K:=by
 unfold iv at h;split at h
 .rename_i m et ht;split at h
  .rename_i ie l off kF;obtain ⟨h0,h1,h⟩:=h;obtain ⟨bb,hE,hx⟩:=r;refine ⟨.pointer (some ((⟨bb,off,none⟩:Addr).add (k.toNat*ie.size))),.c (.p l (off+k.toNat*ie.size)),?_,⟨bb,hE,?_⟩,h⟩
   .simp [execOp,ho,hx,hk,Instr.indexAt,asIntOf,Instr.sureAddr,run_underlying ht,h0,h1,sizeOf,typeInfo,kF]
   .unfold Addr.add;split
    .rename_i hz;simp [hz]
    .rfl
  .rename_i ie l sz j kF;obtain ⟨v,hE,hx,_⟩:=r;split at h
   .rename_i eu;obtain ⟨hc,hj,h0,h1,h2,h⟩:=dc h;simp only [ao] at hc;obtain ⟨q,e1,e2⟩:=C5 (sz:=ie.size) (pE (jY S hE eu)) h0 h2;rw [ai hc.2,hj,e1] at hx;refine ⟨.pointer (some (q.add (k.toNat*ie.size))),.c (.oe l _ k 0),?_,⟨v,hE,by rw [ai hc.1,e2],_,rfl⟩,h⟩;simp [execOp,ho,hx,hk,Instr.indexAt,asIntOf,Instr.sureAddr,run_underlying ht,h0,h1,sizeOf,typeInfo,kF]
   .rename_i eu;obtain ⟨hc,hj,h0,h1,h2,h⟩:=dc h;simp only [ao] at hc;have hi:=lR S hE eu;obtain ⟨q,e1,e2⟩:=C5 (sz:=ie.size) hi h0 h2;rw [ai hc.2,hj,e1] at hx;refine ⟨.pointer (some (q.add (k.toNat*ie.size))),.c (.de _ _ k 0),?_,(show cv E g (.de _ _ k 0) _ from ⟨⟨h0,h2,cr _⟩,v,hi,by rw [ai hc.1,e2]⟩),h⟩;simp [execOp,ho,hx,hk,Instr.indexAt,asIntOf,Instr.sureAddr,run_underlying ht,h0,h1,sizeOf,typeInfo,kF]
   .cases h
  .rename_i ie e xs j kF;obtain ⟨_,v,hi,hx⟩:=r;obtain ⟨hc,hj,h0,h1,h2,h⟩:=dc h;obtain ⟨q,e1,e2⟩:=C5 (sz:=ie.size) hi h0 h2;rw [ai hc,hj,e1] at hx;refine ⟨.pointer (some (q.add (k.toNat*ie.size))),.c (.de _ _ k 0),?_,(show cv E g (.de _ _ k 0) _ from ⟨⟨h0,h2,cr _⟩,v,hi,by rw [ai hc,e2]⟩),h⟩;simp [execOp,ho,hx,hk,Instr.indexAt,asIntOf,Instr.sureAddr,run_underlying ht,h0,h1,sizeOf,typeInfo,kF]
  .cases h
 .rename_i et ht;split at h
  .cases h
  .rename_i ie kF;split at h
   .rename_i e xs;split at h
    .rename_i hs;obtain ⟨h0,h1,h⟩:=h;have r':oa e g (a.eval x) xs:=r;exact ⟨_,.c (.de e xs k 0),HU (r'.mono S.m) h0 h1 ho ht kF hs rfl hk,(show cv E g (.de e xs k 0) _ from ⟨⟨h0,h1,cr _⟩,_,r',(yW r' h0 h1).1.symm⟩),h⟩
    .cases h
   .rename_i l off m;obtain ⟨bb,c,hE,hc,hx⟩:=r;obtain ⟨h0,h1,h⟩:=h;refine ⟨.pointer (some ((⟨bb,off,none⟩:Addr).add (k.toNat*ie.size))),.c (.p l (off+k.toNat*ie.size)),?_,⟨bb,hE,?_⟩,h⟩
    .simp [execOp,ho,hx,hk,Instr.indexAt,asIntOf,run_underlying ht,h0,h1,sizeOf,typeInfo,kF]
    .unfold Addr.add;split
     .rename_i hz;simp [hz]
     .rfl
   .obtain ⟨hE,_⟩:=r;split at h
    .rename_i eu;split at h
     .rename_i hs;obtain ⟨h0,h1,h⟩:=h;have hi:=pE (jY S hE eu);obtain ⟨q1,q2⟩:=yW hi h0 h1;exact ⟨_,.c (.oe _ _ k 0),HU hi h0 h1 ho ht kF hs rfl hk,(show cv E g (.oe _ _ k 0) _ from ⟨_,hE,q1.symm,q2⟩),h⟩
     .cases h
    .rename_i eu;split at h
     .rename_i hs;obtain ⟨h0,h1,h⟩:=h;have hi:=lR S hE eu;exact ⟨_,.c (.de _ _ k 0),HU (hi.mono S.m) h0 h1 ho ht kF hs rfl hk,(show cv E g (.de _ _ k 0) _ from ⟨⟨h0,h1,cr _⟩,_,hi,(yW hi h0 h1).1.symm⟩),h⟩
     .cases h
    .cases h
   .cases h
 .cases h
theorem X3 {f:Field} {us:List Value} {cs:List Cl} {r:S1} (hc:bB E g cs us) (hp:pY P f.type cs f.offset=some r):∃ u,(part f.type us.toArray f.offset).run P w= .ok u w/\gw E g r u:=by
 unfold pY at hp;split at hp;cases hp
 .rename_i d hd;split at hp
  .rename_i hr;split at hp
   .rename_i ie kF;split at hp
    .rename_i hle;obtain rfl:=aj hp;refine ⟨.agg ((us.drop f.offset).take ie.size).toArray,?_,_,(hc.drop _).take _,rfl⟩;have Jp:(isAgg f.type).run P w= .ok true w:=by
      unfold isAgg;rw [Sem.run_bind,run_underlying hd w];cases d<;>simp_all
     have:(us.toArray.extract f.offset (f.offset+ie.size))=((us.drop f.offset).take ie.size).toArray:=by rw [List.extract_toArray,List.extract_eq_take_drop,Nat.add_sub_cancel_left]
     unfold part;rw [Sem.run_bind,Jp];simp only [Result.andThen_ok,if_true];simp [sizeOf,typeInfo,kF,go_sem]
    .cases hp
   .cases hp
  .rename_i hr;split at hp
   .rename_i c Jn;obtain rfl:=aj hp;obtain ⟨u,h1,h2⟩:=hc.get Jn;refine ⟨u,?_,h2⟩;have Jp:(isAgg f.type).run P w= .ok false w:=by
     unfold isAgg;rw [Sem.run_bind,run_underlying hd w];cases d<;>simp_all
    have h1':us.toArray[f.offset]?=some u:=by simpa using h1
    unfold part;rw [Sem.run_bind,Jp];simp [h1',go_sem]
   .cases hp
theorem FO {t:TypeId} {x:Operand} {j:Nat} {cs:List Cl} {f:Field} {r:S1} (ho:o.op= .field t x j) (hx:dq E g (.v (.agg cs)) (a.eval x)) (hf:ud P t j=some f) (hp:pY P f.type cs f.offset=some r) (h:K (.v r)):ER P o a w E g K:=by
 obtain ⟨us,hc,hx⟩:=hx;obtain ⟨u,h1,h2⟩:=X3 (w:=w) hc hp;unfold ud at hf;split at hf
 .rename_i fs ht;refine ⟨u,.v r,?_,h2,h⟩;simp [execOp,ho,hx,Instr.field,run_underlying ht,hf,asAgg,h1]
 .cases hf
theorem ll {e:Ty} {v:Value} {xs:List e.den} {l h:Int} (hx:oa e w v xs) (hl:0<=l) (GA:l<=h) (hh:h<=xs.length):oa e w (jx e.size v l h) ((xs.drop l.toNat).take (h.toNat - l.toNat)):=by
 letI:=e.rep;have kE:aO.size e.den=e.size:=Ty.gz e;have:=Is.slice (α:=e.den) hx hl GA hh;rw [kE] at this;exact this
theorem xQ {e:Ty} {x:Operand} {lo hi:Option Operand} {t et:TypeId} {v:Value} {xs:List e.den} {l h:Int} {ie:TypeInfo} (Gx:oa e w v xs) (hl:0<=l) (GA:l<=h) (hh:h<=xs.length) (ho:o.op= .slice t x lo hi none)
  (ht:P.underlying t=some (.slice et)) (pH:P.info? et=some ie) (hs:Nat.beq e.size ie.size=true) (hx:a.eval x=v) (h1:(lo=none/\l=0)\/∃ y,lo=some y/\a.eval y= .int .i64 l) (h2:(hi=none/\h=xs.length)\/∃ y,hi=some y/\a.eval y= .int .i64 h):
  (execOp a.eval o).run P w= .ok (.value (jx e.size v l h)) w:=by
 letI:=e.rep;have kE:aO.size e.den=e.size:=Ty.gz e;have:=aeT (α:=e.den) (P:=P) (ρ:=a.eval) Gx hl GA hh ho ht (by rw [pH,kE];exact congrArg some (ai hs).symm) hx h1 h2;rw [kE] at this;exact this
def rk (a:Act) (q:Option Operand) (l:Option Int):Prop:=(q=none/\l=none)\/∃ y n,q=some y/\l=some n/\a.eval y= .int .i64 n
theorem rk.get {q:Option Operand} {l:Option Int} {m:Int} (h:rk a q l):(q=none/\cq l m=m)\/∃ y,q=some y/\a.eval y= .int .i64 (cq l m):=by
 rcases h with ⟨rfl,rfl⟩| ⟨y,n,rfl,rfl,h⟩;exact .inl ⟨rfl,rfl⟩;exact .inr ⟨y,rfl,h⟩
theorem BX (S:dr n W F b E g w s a) {x:Operand} {t:TypeId} {c:Cl} {qlo qhi:Option Operand} {lo hi:Option Int} (ho:o.op= .slice t x qlo qhi none) (r:cv E g c (a.eval x)) (h1:rk a qlo lo) (h2:rk a qhi hi) (h:px P b s t c lo hi K):ER P o a w E g K:=by
 unfold px at h;split at h
 .rename_i ht;split at h
  .rename_i z;obtain ⟨hl,GA,hh,h⟩:=h;obtain ⟨hx,hz⟩:=r;refine ⟨_,.str _,N6 hl GA hh ho ht hx h1.get h2.get,⟨rfl,?_⟩,h⟩;have SR:z.size<=maxLen:=hz;show (z.extract _ _).size<=maxLen;rw [ByteArray.size_extract];omega
  .cases h
 .rename_i et ht;split at h
  .cases h
  .rename_i ie kF;split at h
   .rename_i e xs;split at h
    .rename_i hs;obtain ⟨hl,GA,hh,h⟩:=My h;have r':oa e g (a.eval x) xs:=r;exact ⟨_,.c (.d e _),xQ (r'.mono S.m) hl GA hh ho ht kF hs rfl h1.get h2.get,ll r' hl GA hh,h⟩
    .cases h
   .obtain ⟨hE,_⟩:=r;split at h
    .rename_i eu;split at h
     .rename_i hs;obtain ⟨hl,GA,hh,h⟩:=Yn h;have hi:=pE (jY S hE eu);obtain ⟨q,m,cc,hq,_⟩:=nW (ll hi hl GA hh);exact ⟨_,.c (.os _ _ _ _),xQ hi hl GA hh ho ht kF hs rfl h1.get h2.get,(show cv E g (.os _ _ _ _) _ from ⟨_,hE,rfl,q,m,cc,hq⟩),h⟩
     .cases h
    .rename_i eu;split at h
     .rename_i hs;obtain ⟨hl,GA,hh,h⟩:=My h;have hi:=lR S hE eu;exact ⟨_,.c (.d _ _),xQ (hi.mono S.m) hl GA hh ho ht kF hs rfl h1.get h2.get,ll hi hl GA hh,h⟩
     .cases h
    .cases h
   .cases h
 .rename_i m et ht;split at h
  .cases h
  .rename_i ie kF;split at h
   .rename_i l off;obtain ⟨hmx,hl,hlm,GA,hh,h⟩:=h;obtain ⟨bb,hE,hx⟩:=r;have hb:(Instr.sliceBounds false m m (qlo.map a.eval) (qhi.map a.eval) none).run P w= .ok ((cq lo 0).toNat,(cq hi m).toNat,m) w:=by
     have g1:=h1.get (m:=0);have g2:=h2.get (m:=(m:Int));have e0:0<=cq hi m:=by omega
     rcases g1 with ⟨rfl,e1⟩| ⟨y,rfl,hy⟩<;>rcases g2 with ⟨rfl,e2⟩| ⟨z,rfl,hz⟩<;>
      simp_all [Instr.sliceBounds,Instr.sliceBound,asIntOf]<;>omega
    have gD:¬m=(cq lo 0).toNat:=by omega
    refine ⟨.slice (some ((⟨bb,off,none⟩:Addr).add ((cq lo 0).toNat*ie.size))) ((cq hi m).toNat - (cq lo 0).toNat) (m - (cq lo 0).toNat),.c (.sc l _ _),?_,⟨bb,m - (cq lo 0).toNat,hE,⟨by omega,by unfold maxLen;omega⟩,?_⟩,h⟩;simp [execOp,ho,hx,Instr.sliceAt,Instr.sureAddr,run_underlying ht,hb,sizeOf,typeInfo,kF,gD]
    .congr 2;unfold Addr.add;split
     .rename_i hz;simp
     .rfl
   .cases h
 .cases h
theorem FN {x i:Operand} {t:TypeId} {z:ByteArray} {k:IntKind} {m:Int} (ho:o.op= .index t x i) (ht:P.underlying t=some .string) (hx:a.eval x= .string z) (hi:a.eval i= .int k m) (h0:0<=m) (h1:m< z.size) (h:K (.k (.int .u8 ((iV z m).toNat:Int)))):ER P o a w E g K:=by
 have eJ:m.toNat< z.size:=by omega
 have hb:z[m.toNat]?=some z[m.toNat]:=by simp [eJ]
 refine ⟨.int .u8 (iV z m).toNat,_,?_,dB ?_,h⟩;simp [execOp,ho,Instr.index,hx,hi,asIntOf,run_underlying ht,h0,iV,hb]
 .have h2:(iV z m).toNat< 256:=UInt8.toNat_lt _;show (0:Int)<=((iV z m).toNat:Int)/\((iV z m).toNat:Int)<=255;omega
theorem xS {l:List Cl} {vs:List Value} {cs:List Cl} {us:List Value} {off:Nat} (hc:bB E g cs us) (hv:bB E g l vs):bB E g (LP cs off l) (us.take off++(vs++us.drop (off+vs.length))):=by
 unfold LP;rw [hv.length];exact (hc.take off).app (hv.app (hc.drop _))
theorem FT {w0:World} {ys:List UInt8}:∀ (n i:Nat),i+n<=ys.length->(kB n).rep.rel w0 (((ys.drop i).take n).map λb=>Value.int .u8 (b.toNat:Int)) (rowOf ys n i)
 | 0,i,_=>rfl
 | n+1,i,h=>by
  have hi:i< ys.length:=by omega
  rw [bO hi,List.take_succ_cons,cg];refine ⟨[_],_,rfl,?_,FT n (i+1) (by omega)⟩;show _= [Value.int .u8 ((ys.getD i 0).toNat:Int)];rw [aP,ak hi];rfl
theorem L4 {x:Operand} {t:TypeId} {c:Cl} {K:SV->Prop} (ho:o.op= .sliceToArrayPointer t x) (r:cv E g c (a.eval x)) (h:JN P t c K):ER P o a w E g K:=by
 unfold JN at h;split at h
 .rename_i n e2 e xs0 ht;split at h
  .rename_i ys hy;obtain ⟨q,e1⟩:=eA hy;subst q;obtain rfl:ys=xs0:=e1;have h9:=dc h;obtain ⟨hn,hlen,hk⟩:=h9;simp only [ao] at hn;have hn0:0< n:=by simpa using hn.1
   have hi:oa .u8 g (a.eval x) ys:=r;have Zh:n<=ys.length:=hlen;rcases (@dx UInt8 Ty.u8.rep g _ _).1 hi with ⟨_,e0⟩| ⟨ad,cp,hx,hc,hm,h3⟩
   .exfalso
    have:ys.length=0:=by rw [show ys= [] from e0];rfl
    omega
   .have hnl:¬(ys.length< n):=by omega
    refine ⟨.pointer (some ad),.c (.de (kB n) [rowOf ys n 0] 0 0),?_,?_,hk⟩
    .simp [execOp,ho,Instr.arrayAt,run_underlying ht,hx];omega
    .refine (show cv E g (.de (kB n) [rowOf ys n 0] 0 0) _ from ⟨⟨by omega,by simp,cr _⟩,.slice (some ad) 1 1,?_,by simp [jU,nA,Addr.add]⟩);refine (@dx (kB n).den (kB n).rep g _ _).2 (.inr ⟨ad,1,rfl,az _,by unfold maxLen;omega,λi y hi=>?_⟩);have DV:i=0:=by
      have:=(av.1 hi).1;simpa using this
     subst DV;obtain rfl:rowOf ys n 0=y:=by simpa using hi
     refine ⟨((ys.drop 0).take n).map λb=>Value.int .u8 (b.toNat:Int),λj v hj=>?_,FT n 0 (by omega)⟩;rw [List.drop_zero,cz,dO] at hj;split at hj
     .rename_i hjn;rw [ak (by omega)] at hj;have CZ:=aj hj;obtain ⟨cs,h4,h5⟩:=h3 j (ys[j]'(by omega)) (ak (by omega));have h6:cs= [Value.int .u8 ((ys[j]'(by omega)).toNat:Int)]:=h5;subst h6;have h7:=h4 0 _ rfl;rw [<-CZ];rw [<-h7];simp [Addr.add,aO.size]
     .simp at hj
  .cases h
 .cases h
theorem SP {e:Ty} {v:Value} {xs:List e.den} {m:Nat} (hx:oa e g v xs) (hm:m<=xs.length):∃ a cp,v= .slice a xs.length cp/\oa e g (.slice a m m) (xs.take m):=by
 rcases (@dx e.den e.rep g _ _).1 hx with ⟨rfl,rfl⟩| ⟨ad,cp,rfl,hc,J3,h3⟩
 .obtain rfl:m=0:=by simpa using hm
  exact ⟨none,0,rfl,(@dx e.den e.rep g _ _).2 (.inl ⟨rfl,rfl⟩)⟩
 .refine ⟨some ad,cp,rfl,(@dx e.den e.rep g _ _).2 (.inr ⟨ad,m,by rw [aD,eP hm],by rw [aD];omega,by omega,λi x hi=>?_⟩)⟩;rw [dO] at hi;split at hi
  .exact h3 i x hi
  .cases hi
theorem LS {x y:Operand} {t:TypeId} {c:Cl} {qlo qhi:Option Operand} {lo hi:Option Int} {m:Int} {K:SV->Prop} (ho:o.op= .slice t x qlo qhi (some y)) (r:cv E g c (a.eval x)) (h1:rk a qlo lo) (h2:rk a qhi hi) (hy:a.eval y= .int .i64 m) (mw:bA g w) (h:HH P t c lo hi m K):ER P o a w E g K:=by
 unfold HH at h;split at h
 .rename_i et e xs hv ht;split at h
  .rename_i ie kF;have h9:=dc h;obtain ⟨hs,hl,GA,hhm,hmx,hk⟩:=h9;have hs:=ai hs;have r':oa e g (a.eval x) xs:=r;obtain ⟨ad,cp,hx,pH⟩:=SP (m:=m.toNat) r' (by omega);have uK:(xs.take m.toNat).length=m.toNat:=by rw [aD];omega
   have h3:=ll (l:=cq lo 0) (h:=hv) pH hl GA (by rw [uK];omega);have e2:((xs.take m.toNat).drop (cq lo 0).toNat).take (hv.toNat - (cq lo 0).toNat)=(xs.drop (cq lo 0).toNat).take (hv.toNat - (cq lo 0).toNat):=by
    rw [pJ,fR];congr 1;omega
   rw [e2] at h3;refine ⟨_,.c (.d e _),?_,h3,hk⟩;have M9:xs.length<=cp:=by
    rcases (@dx e.den e.rep g _ _).1 r' with ⟨e5,e6⟩| ⟨ad2,cp2,e5,hc,_,_⟩;rw [e6];exact cr _
    .rw [hx] at e5;cases e5;exact hc
   obtain ⟨z,rfl,hz⟩:∃ z,qhi=some z/\a.eval z= .int .i64 hv:=by
    rcases h2 with ⟨_,e0⟩| ⟨z,n,e1,e0,hz⟩;cases e0
    .cases e0;exact ⟨z,e1,hz⟩
   have c1:(Instr.sliceBound (.int .i64 m) cp .slice3Acap).run P w= .ok m.toNat w:=by
    simp [Instr.sliceBound,asIntOf];omega
   have c2:(Instr.sliceBound (.int .i64 hv) m.toNat .slice3B).run P w= .ok hv.toNat w:=by
    simp [Instr.sliceBound,asIntOf];omega
   have hb:(Instr.sliceBounds true xs.length cp (qlo.map a.eval) (some (.int .i64 hv)) (some (.int .i64 m))).run P w= .ok ((cq lo 0).toNat,hv.toNat,m.toNat) w:=by
    have g1:=h1.get (m:=0);rcases g1 with ⟨rfl,e1⟩| ⟨y,rfl,hy1⟩;simp [Instr.sliceBounds,c1,c2,e1]
    .have c3:(Instr.sliceBound (.int .i64 (cq lo 0)) hv.toNat .slice3C).run P w= .ok (cq lo 0).toNat w:=by
      simp [Instr.sliceBound,asIntOf];omega
     simp [Instr.sliceBounds,c1,c2,c3,hy1]
   simp [execOp,ho,Instr.sliceAt,hx,hy,hz,run_underlying ht,Instr.slice,hb,sizeOf,typeInfo,kF,jx,hs]
  .cases h
 .cases h
end
section
variable {X:Vx} {n:Nat} {W:cV} {F:List Atom} {b:Bs} {E:Env} {g w:World} {s:Ov} {a:Act} {o:Oper}
theorem XJ {α:Type} {L vs:List α} {p m:Nat} (h1:p+vs.length<=m) (h2:m<=L.length):(L.take p++vs++L.drop (p+vs.length)).take m=(L.take m).take p++vs++(L.take m).drop (p+vs.length):=by
 have e1:(L.take p).length=p:=by rw [aD];omega
 rw [List.take_append,aV (by rw [af,e1];omega),af,e1,fR,eP (by omega),pJ]
theorem xh {size:Nat} {vs:List Value}:∀ (cs:List (List Value)) (i off:Nat),(∀ x∈cs,x.length=size)->off+vs.length<=size->∀ (hi:i< cs.length),(cs.set i ((cs[i]).take off++vs++(cs[i]).drop (off+vs.length))).flatten=cs.flatten.take (i*size+off)++vs++cs.flatten.drop (i*size+off+vs.length)
 | [],_,_,_,_,hi=>by simp at hi
 | c::cs,0,off,hl,ho,_=>by
  have h1:c.length=size:=hl c (by simp);simp only [List.set_cons_zero,bF,List.getElem_cons_zero,Nat.zero_mul,cd];rw [lV (by omega),dz (by omega)];simp
 | c::cs,i+1,off,hl,ho,hi=>by
  have h1:c.length=size:=hl c (by simp);have ih:=xh cs i off (λx hx=>hl x (aG _ hx)) ho (by simpa using hi);simp only [List.set_cons_succ,bF,List.getElem_cons_succ];rw [ih];have e1:(i+1)*size+off=c.length+(i*size+off):=by rw [fj];omega
  rw [e1,List.take_length_add_append,show c.length+(i*size+off)+vs.length=c.length+(i*size+off+vs.length) by omega,List.drop_length_add_append];simp
theorem SL.ahI {α:Type} [aO α] {P:Program} {e t:TypeId} {v c:Value} {xs:List α} {i:Int} {off:Nat} {x':α} {l:List Atom} (H:SL W g w (BN e v xs::l)) (h0:0<=i) (h1:i< xs.length) (PY:off+c.cells.size<=aO.size α) (sY:c.cells.toList.all (·.oneCell')=true) (rR:(P.info? t).map (·.size)=some c.cells.size)
  (hx:∀ cs,aO.rel g cs (xs[i.toNat]'(by omega))->aO.rel g (cs.take off++c.cells.toList++cs.drop (off+c.cells.toList.length)) x'):
  ∃ w',(Instr.storeAt t (nA (jU (aO.size α) v i) off) c).run P w= .ok () w'/\SL W g w' (BN e v (xs.set i.toNat x')::l):=by
 obtain ⟨cs,r,H1⟩:=H.py;have hlen:=eF.length r;rcases H1.ofRow with ⟨rfl,hn,_,_⟩| ⟨k,cap,cur,rfl,q1,q2,q3,q4,H2⟩;omega;have hi:i.toNat< xs.length:=by omega
 have Zk:i.toNat< cs.length:=by omega
 have Zm:i.toNat*aO.size α+off+c.cells.size<=xs.length*aO.size α:=by
  have:(i.toNat+1)*aO.size α<=xs.length*aO.size α:=hZ _ hi;rw [fj] at this;omega
 have Jo:xs.length*aO.size α<=cap*aO.size α:=hZ _ q1;have gM:=kA (P:=P) (t:=t) (off:=i.toNat*aO.size α+off) (v:=c) (H2.pg 0) rR sY (by omega);refine ⟨w.setRow k (cur.toList.take (i.toNat*aO.size α+off)++c.cells.toList++cur.toList.drop (i.toNat*aO.size α+off+c.cells.size)).toArray,?_,?_⟩
 .have hp:nA (jU (aO.size α) (.slice (some ⟨k,0,none⟩) xs.length cap) i) off=ptr k (i.toNat*aO.size α+off):=by
   show Value.pointer (some (((⟨k,0,none⟩:Addr).add (i.toNat*aO.size α)).add off))=_;rw [Go.Deep.add_add,Addr.add_mid,cd]
  rw [hp];exact gM
 .have kE:c.cells.size=c.cells.toList.length:=by simp
  have u:Wr w k (cur.toList.take (i.toNat*aO.size α+off)++c.cells.toList++cur.toList.drop (i.toNat*aO.size α+off+c.cells.size)).toArray (w.setRow k (cur.toList.take (i.toNat*aO.size α+off)++c.cells.toList++cur.toList.drop (i.toNat*aO.size α+off+c.cells.size)).toArray):=⟨rfl,(H2.pg 0).lt⟩;have H3:=H2.upd 0 u;have H4:=SL.wo (size:=aO.size α) (cap:=cap) xs.length H3 q1 q2 (by simp;omega);have e2:((cur.toList.take (i.toNat*aO.size α+off)++c.cells.toList++cur.toList.drop (i.toNat*aO.size α+off+c.cells.size)).toArray.toList.take (xs.length*aO.size α))=(cs.set i.toNat ((cs[i.toNat]).take off++c.cells.toList++(cs[i.toNat]).drop (off+c.cells.toList.length))).flatten:=by
   rw [xh (size:=aO.size α) cs i.toNat off (λx hx=>eF.lens r x hx) (by rw [<-kE];exact PY) Zk,<-q4,kE,List.toList_toArray];have M9:cur.toList.length=cap*aO.size α:=by simpa using q3
   exact XJ (by omega) (by omega)
  rw [e2] at H4;have hlx:(xs.set i.toNat x').length=xs.length:=by simp
  refine SL.XQ (cs:=cs.set i.toNat ((cs[i.toNat]).take off++c.cells.toList++(cs[i.toNat]).drop (off+c.cells.toList.length))) (r.set i.toNat _ (hx _ (r.at i.toNat hi Zk))) ?_;rw [hlx];exact H4
theorem BW (S:dr n W F b E g w s a) {t:TypeId} {x y:Operand} {c:Cl} {v:S1} {K:Ov->Prop} (ho:o.op= .store t x y) (r:cv E g c (a.eval x)) (rv:dq E g (.v v) (a.eval y)) (h:BI X.P b s t c v K):
  ∃ w' s',(execOp a.eval o).run X.P w= .ok .skip w'/\dr n W F b E g w' s' a/\K s':=by
 have hv:bB E g v.cells (a.eval y).cells.toList:=gw.cells rv;have sY:(a.eval y).cells.toList.all (·.oneCell')=true:=bo.2 hv.one;unfold BI at h;split at h;cases h
 .rename_i ie kF;split at h
  .rename_i kE;have hlen:(a.eval y).cells.size=ie.size:=by
    have:=hv.length;rw [dw] at this;rw [this];exact ai kE
   split at h
   .rename_i l off;obtain ⟨bb,hE,hx⟩:=r;split at h
    .rename_i ut cs eu;split at h
     .rename_i hle;obtain ⟨us,h1,h2,H⟩:=oV S hE eu;have hl:off+(a.eval y).cells.size<=us.toArray.size:=by
       rw [hlen,List.size_toArray,h1.length];exact cK hle
      have hr:=kA (P:=X.P) (t:=t) h2 (by rw [kF,hlen];rfl) sY hl;refine ⟨_,_,by simp [execOp,ho,hx];rw [hr];rfl,S.back hE _ (bA.refl g) ?_,h⟩;have H2:=SL.zF H ((⟨rfl,h2.lt⟩:Wr w bb (us.toArray.toList.take off++(a.eval y).cells.toList++us.toArray.toList.drop (off+(a.eval y).cells.size)).toArray _).BF h2);refine H2.cE λk ⟨k1,k2,ap,q,s1,s2⟩=>⟨k1,k2,ap,q,⟨bb,_,hE,xS h1 hv,?_⟩,s2⟩;have s1':k1 bb=some (.cells (us.toArray.toList.take off++(a.eval y).cells.toList++us.toArray.toList.drop (off+(a.eval y).cells.size)).toArray ut (0,0)):=s1;rw [s1'];simp
     .cases h
    .cases h
   .rename_i l sz i off;obtain ⟨u,hE,hx,_⟩:=r;split at h
    .rename_i ut e xs cc eu;split at h
     .rename_i hs;obtain ⟨h0,h1,h⟩:=h;rw [ao] at hs;split at h
      .rename_i x' hof;letI:=e.rep;have Jm:aO.size e.den=e.size:=Ty.gz e;have hcv:cv E g cc (a.eval y):=rv;have eJ:off< e.size:=by have:=hs.2;simpa using this
       have H:=jY S hE eu;obtain ⟨w',h2,H2⟩:=SL.akO (α:=e.den) (P:=X.P) (t:=t) (x':=x') H h0 h1 (off:=off) (by rw [Jm];exact eJ) hcv.one (nS hcv.one) (by rw [kF];exact congrArg some (ai kE).symm) λvs DQ=>by
        have e1:aB e xs i=xs[i.toNat]'(by omega):=by
         unfold aB;rw [aP,ak (by omega)];rfl
        rw [<-e1] at DQ;obtain ⟨h4,_⟩:=eW E g e DQ;obtain ⟨u1,u2,e2,h5,h6⟩:=of_cells e hof (h4.set off hcv);rw [e2,show u2= [] from h6,a7];exact h5
       rw [Jm,ai hs.1] at h2;refine ⟨w',_,by simp [execOp,ho,hx,h2],S.back hE _ (bA.refl g) ?_,h⟩;exact H2.cE λk ⟨k1,k2,ap,q,s1,s2⟩=>⟨k1,k2,ap,q,⟨u,hE,s1⟩,s2⟩
      .cases h
     .cases h
    .rename_i ut e xs lc eu;split at h
     .rename_i hs;obtain ⟨h0,h1,h⟩:=h;rw [ao] at hs;split at h
      .rename_i x' hof;letI:=e.rep;have Jm:aO.size e.den=e.size:=Ty.gz e;have M9:(a.eval y).cells.size=lc.length:=by
        have h3:bB E g lc (a.eval y).cells.toList:=hv;have:=h3.length;rw [dw] at this;exact this
       have eJ:off+lc.length<=e.size:=cK hs.2;have H:=jY S hE eu;obtain ⟨w',h2,H2⟩:=SL.ahI (α:=e.den) (P:=X.P) (t:=t) (x':=x') (c:=a.eval y) H h0 h1 (off:=off) (by rw [Jm,M9];exact eJ) sY (by rw [kF,hlen];rfl) λvs DQ=>by
        have e1:aB e xs i=xs[i.toNat]'(by omega):=by
         unfold aB;rw [aP,ak (by omega)];rfl
        rw [<-e1] at DQ;obtain ⟨h4,_⟩:=eW E g e DQ;have h5:=xS (off:=off) h4 hv;obtain ⟨u1,u2,e2,h5,h6⟩:=of_cells e hof h5;rw [show u2= [] from h6,a7] at e2;rw [aH,e2];exact h5
       rw [Jm,ai hs.1] at h2;refine ⟨w',_,by simp [execOp,ho,hx,h2],S.back hE _ (bA.refl g) ?_,h⟩;exact H2.cE λk ⟨k1,k2,ap,q,s1,s2⟩=>⟨k1,k2,ap,q,⟨u,hE,s1⟩,s2⟩
      .cases h
     .cases h
    .cases h
   .cases h
  .cases h
theorem ac1 {P:Program} {e:Ty} {te t:TypeId} {v c:Value} {xs:List e.den} {i:Int} {off:Nat} {l:List Atom} (H:SL W g w (py e te v xs::l)) (h0:0<=i) (h1:i< xs.length) (PY:off< e.size) (uz:c.oneCell'=true) (Jn:c.cells= #[c]) (DS:∃ a n c',c= .slice a n c') (rR:(P.info? t).map (·.size)=some 1):
  ∃ w',(Instr.storeAt t (nA (jU e.size v i) off) c).run P w= .ok () w'/\SL W g w' (sfA te e xs i off v c::l):=by
 letI:=e.rep;obtain ⟨cs,r,H1⟩:=SL.py (α:=e.den) H;have hs:aO.size e.den=e.size:=Ty.gz e;rw [hs] at H1;have hlen:=eF.length r;have hz:∀ x∈cs,x.length=e.size:=λx hx=>by rw [<-hs];exact eF.lens r x hx
 rcases H1.ofRow with ⟨rfl,hn,_,_⟩| ⟨k,cap,cur,rfl,q1,q2,q3,q4,H2⟩;omega;have hi:i.toNat< xs.length:=by omega
 have Zk:i.toNat< cs.length:=by omega
 have Zm:i.toNat*e.size+off< xs.length*e.size:=by
  have:(i.toNat+1)*e.size<=xs.length*e.size:=hZ _ hi;rw [fj] at this;omega
 have Jo:xs.length*e.size<=cap*e.size:=hZ _ q1;have gM:=kA (P:=P) (t:=t) (off:=i.toNat*e.size+off) (v:=c) (H2.pg 0) (by rw [Jn];exact rR) (by rw [Jn];simp [uz]) (by rw [Jn];simp;omega);refine ⟨w.setRow k (cur.toList.take (i.toNat*e.size+off)++c.cells.toList++cur.toList.drop (i.toNat*e.size+off+c.cells.size)).toArray,?_,?_⟩
 .have hp:nA (jU e.size (.slice (some ⟨k,0,none⟩) xs.length cap) i) off=ptr k (i.toNat*e.size+off):=by
   show Value.pointer (some (((⟨k,0,none⟩:Addr).add (i.toNat*e.size)).add off))=_;rw [Go.Deep.add_add,Addr.add_mid,cd]
  rw [hp];exact gM
 .have e1:(cur.toList.take (i.toNat*e.size+off)++c.cells.toList++cur.toList.drop (i.toNat*e.size+off+c.cells.size))=cur.toList.set (i.toNat*e.size+off) c:=by
   rw [Jn];rw [List.set_eq_take_append_cons_drop,if_pos (by simp;omega)];simp
  have u:Wr w k (cur.toList.set (i.toNat*e.size+off) c).toArray (w.setRow k (cur.toList.take (i.toNat*e.size+off)++c.cells.toList++cur.toList.drop (i.toNat*e.size+off+c.cells.size)).toArray):=⟨by rw [e1],(H2.pg 0).lt⟩;have H3:=H2.upd 0 u;have H4:=SL.wo (size:=e.size) (cap:=cap) xs.length H3 q1 q2 (by simp;omega);have e2:((cur.toList.set (i.toNat*e.size+off) c).toArray.toList.take (xs.length*e.size))=(cs.set i.toNat ((cs[i.toNat]).set off c)).flatten:=by
   rw [tb (size:=e.size) cs i.toNat off hz PY Zk,<-q4];simp only [List.take_set]
  rw [e2] at H4;refine H4.cE λhh ⟨k1,k2,ap,q,s1,s2⟩=>⟨k1,k2,ap,q,⟨_,s1,⟨λx hx=>?_,by rw [gJ];exact hlen.1,h0,h1,PY⟩,⟨DS,(cs[i.toNat]).set off c,by rw [List.getElem?_set_self Zk],by rw [List.getElem?_set_self (by rw [hz _ (df Zk)];exact PY)]⟩,λg' m E cl M9 x' hof=>?_⟩,s2⟩
  .rcases List.mem_or_eq_of_mem_set hx with hx| rfl
   .exact hz x hx
   .rw [gJ];exact hz _ (df Zk)
  .refine (eF.mono m r).set i.toNat _ ?_;have DQ:=(eF.mono m r).at i.toNat hi Zk;have e3:aB e xs i=xs[i.toNat]:=by
    unfold aB;rw [aP,ak hi];rfl
   rw [<-e3] at DQ;obtain ⟨h4,_⟩:=eW E g' e DQ;obtain ⟨u1,u2,e4,h5,h6⟩:=of_cells e hof (h4.set off M9);rw [e4,show u2= [] from h6,a7];exact h5
theorem LU (S:dr n W F b E g w s a) {t:TypeId} {x y:Operand} {l sz off q:Nat} {i:Int} {K:Ov->Prop} (ho:o.op= .store t x y) (r:cv E g (.oe l sz i off) (a.eval x)) (rv:dq E g (.c (.o q)) (a.eval y)) (h:BO X.P b s t l sz i off q K):
  ∃ w' s',(execOp a.eval o).run X.P w= .ok .skip w'/\dr n W F b E g w' s' a/\K s':=by
 unfold BO at h;split at h
 .rename_i ie u e xs _ _ _ kF eu hoq;obtain ⟨hc,h0,h1,h⟩:=dc h;simp only [ao] at hc;obtain ⟨c1,c2,c3,c4⟩:=hc;obtain ⟨uv,hE,hx,_⟩:=r;have hcv:cv E g (.o q) (a.eval y):=rv;obtain ⟨w',h2,H2⟩:=ac1 (P:=X.P) (t:=t) (c:=a.eval y) (off:=off) (jY S hE eu) h0 h1 (by simpa using c3) hcv.one (nS hcv.one) hcv.2 (by rw [kF];exact congrArg some (ai c1));rw [ai c2] at h2;refine ⟨w',_,by simp [execOp,ho,hx,h2],S.back hE _ (bA.refl g) ?_,h⟩;exact H2.cE λk ⟨k1,k2,ap,q,s1,s2⟩=>⟨k1,k2,ap,q,⟨uv,_,hE,hcv.1,s1⟩,s2⟩
 .cases h
theorem dZ (S:dr n W F b E g w s a) (v:Value):(E++ [v])[s.n]?=some v:=by rw [<-S.len];simp
theorem U0 (S:dr n W F b E g w s a) {t:TypeId} {z:List Cl} {K:SV->Ov->Prop} (ho:o.op= .alloc t) (hz:oc X.P t=some z) (h:K (.c (.p s.n 0)) (s.new (.cells t z))):
  ∃ v w',(execOp a.eval o).run X.P w= .ok (.value v) w'/\Out n W F b E g a K v w':=by
 unfold oc at hz;split at hz
 .rename_i i hi;split at hz
  .rename_i z0 Az;have hr:(execOp a.eval o).run X.P w= .ok (.value (ptr w.heap.size 0)) (w.alloc (.cells z0.cells t)):=TU ho hi Az;have hc:bB (E++ [ptr w.heap.size 0]) g z z0.cells.toList:=k9 hz;refine ⟨_,_,hr,_,g,_,_,bz.app E [ptr w.heap.size 0],bA.refl g,S.new (v:=ptr w.heap.size 0) (bA.refl g) ?_,(show dq _ g (.c (.p s.n 0)) _ from ⟨w.heap.size,dZ S _,rfl⟩),h⟩;have H:=S.sat.sl.new (xF.mk' w (.cells z0.cells t));exact H.cE λk ⟨k1,k2,ap,q,s1,s2⟩=>⟨k1,k2,ap,q,⟨w.heap.size,z0.cells.toList,dZ S _,hc,by have s1':k1 w.heap.size=some (.cells z0.cells t (0,0)):=s1;rw [s1']⟩,s2⟩
  .cases hz
 .cases hz
theorem adb (S:dr n W F b E g w s a) {t:TypeId} {x:Operand} {v:S1} {K:SV->Ov->Prop} (ho:o.op= .box t x) (r:dq E g (.v v) (a.eval x)) (h:K (.c (.p s.n 0)) (s.new (.cells t v.cells))):
  ∃ v w',(execOp a.eval o).run X.P w= .ok (.value v) w'/\Out n W F b E g a K v w':=by
 have hr:(execOp a.eval o).run X.P w= .ok (.value (ptr w.heap.size 0)) (w.alloc (.cells (a.eval x).cells t)):=afW ho rfl;have hc:bB (E++ [ptr w.heap.size 0]) g v.cells (a.eval x).cells.toList:=(gw.cells r).mono (bz.app E _) (bA.refl g);refine ⟨_,_,hr,_,g,_,_,bz.app E [ptr w.heap.size 0],bA.refl g,S.new (v:=ptr w.heap.size 0) (bA.refl g) ?_,(show dq _ g (.c (.p s.n 0)) _ from ⟨w.heap.size,dZ S _,rfl⟩),h⟩;have H:=S.sat.sl.new (xF.mk' w (.cells (a.eval x).cells t));exact H.cE λk ⟨k1,k2,ap,q,s1,s2⟩=>⟨k1,k2,ap,q,⟨w.heap.size,(a.eval x).cells.toList,dZ S _,hc,by have s1':k1 w.heap.size=some (.cells (a.eval x).cells t (0,0)):=s1;rw [s1']⟩,s2⟩
theorem CU {g:World} {k:IntKind}:∀ {xs:List Int},(∀ n∈xs,aI k n)-> @eF Int (Ty.int k).rep g (xs.map λn=>[Value.int k n]) xs/\(xs.map λn=>[Value.int k n]).flatten=xs.map (Value.int k ·)
 | [],_=>⟨trivial,rfl⟩
 | x::xs,h=>by
  obtain ⟨h1,h2⟩:=CU (g:=g) (xs:=xs) λn hn=>h n (aG _ hn);exact ⟨⟨⟨rfl,oK.1 (h x aS)⟩,h1⟩,by rw [cg,bF,h2];rfl⟩
theorem aaG {bb:Nat} {k:IntKind} {t:TypeId} {xs:List (Ty.int k).den} {l:List Atom} (hx:∀ n∈xs,aI k n) (hn:xs.length<=maxLen) (H:SL W g w (Lm.pg bb (xs.map (Value.int k ·)).toArray t::l)):SL W g w (py (.int k) t (.slice (some ⟨bb,0,none⟩) xs.length xs.length) xs::l):=by
 letI:=(Ty.int k).rep;obtain ⟨r,e⟩:=CU (g:=g) hx;have H1:=SL.wo (size:=1) (cap:=xs.length) xs.length H (az _) hn (by simp);have e2:List.take (xs.length*1) (xs.map (Value.int k ·)).toArray.toList=(xs.map λn=>[Value.int k n]).flatten:=by
  rw [e,aV (by simp)]
 rw [e2] at H1;exact SL.XQ r H1
theorem zy {k:IntKind}:∀ {n:Nat} {z:List Cl},pK k n z=true->z=au n (.k (.int k 0))
 | 0,[],_=>rfl
 | n+1,z,h=>by
  unfold pK at h;split at h
  .rename_i e;cases e
  .rename_i m k' r e;cases e;rw [ao] at h;rw [IntKind.eq_of_beq h.1,zy h.2];rfl
  .cases h
 | 0,_::_,h=>by simp [pK] at h
theorem B6 {E:Env} {v:Value}:∀ {n:Nat} {us:List Value},bB E g (au n (.k v)) us->us=au n v
 | 0,_,h=>h
 | n+1,_,⟨u,q,e,⟨h1,_⟩,h2⟩=>by rw [e,h1,B6 h2];rfl
theorem L7 (S:dr n W F b E g w s a) {t:TypeId} {z:List Cl} {m:Nat} {k:IntKind} {K:SV->Ov->Prop} (ho:o.op= .alloc t) (hz:oc X.P t=some z) (ha:L9 X.P t=some (m,k)) (DV:pK k m z=true) (h:K (.c (.oe s.n 1 0 0)) (s.new (.sl t (.int k) (au m 0)))):
  ∃ v w',(execOp a.eval o).run X.P w= .ok (.value v) w'/\Out n W F b E g a K v w':=by
 obtain rfl:=zy DV;obtain ⟨_,_,_,_,hm⟩:=AM ha;unfold oc at hz;split at hz
 .rename_i i hi;split at hz
  .rename_i z0 Az;have hr:(execOp a.eval o).run X.P w= .ok (.value (ptr w.heap.size 0)) (w.alloc (.cells z0.cells t)):=TU ho hi Az;have hc:z0.cells.toList=au m (.int k 0):=B6 (E:=E) (g:=g) (k9 hz);have Aa:z0.cells=((au m (0:Int)).map (Value.int k ·)).toArray:=by
    refine Array.toList_inj.1 ?_;rw [hc,List.map_replicate]
   have H:=S.sat.sl.new (xF.mk' w (.cells z0.cells t));rw [Aa] at hr H;have H2:=aaG (k:=k) (xs:=au m (0:Int)) (λn hn=>by rw [List.eq_of_mem_replicate hn];cases k<;>(unfold aI;decide)) (by rw [aT];unfold maxLen;omega) H;refine ⟨_,_,hr,_,g,_,_,bz.app E [.slice (some ⟨w.heap.size,0,none⟩) (au m (0:Int)).length (au m (0:Int)).length],bA.refl g,S.new (bA.refl g) ?_,(show dq _ g (.c (.oe s.n 1 0 0)) _ from ⟨_,dZ S _,Te.symm,_,rfl⟩),h⟩;exact H2.cE λk ⟨k1,k2,ap,q,s1,s2⟩=>⟨k1,k2,ap,q,⟨_,dZ S _,s1⟩,s2⟩
  .cases hz
 .cases hz
theorem UZ (S:dr n W F b E g w s a) {t:TypeId} {x:Operand} {m:Nat} {k:IntKind} {l:List Int} {K:SV->Ov->Prop} (ho:o.op= .box t x) (r:dq E g (.arr k l) (a.eval x)) (ha:L9 X.P t=some (m,k)) (hl:l.length=m) (h:K (.c (.oe s.n 1 0 0)) (s.new (.sl t (.int k) l))):
  ∃ v w',(execOp a.eval o).run X.P w= .ok (.value v) w'/\Out n W F b E g a K v w':=by
 obtain ⟨hx,yS⟩:=r;obtain ⟨_,_,_,_,hm⟩:=AM ha;have hr:(execOp a.eval o).run X.P w= .ok (.value (ptr w.heap.size 0)) (w.alloc (.cells (a.eval x).cells t)):=afW ho rfl;have H:=S.sat.sl.new (xF.mk' w (.cells (a.eval x).cells t));have hc:(a.eval x).cells=(l.map (Value.int k ·)).toArray:=by rw [hx];rfl
 rw [hc] at hr H;have H2:=aaG (k:=k) (xs:=l) yS (by rw [hl];unfold maxLen;omega) H;refine ⟨_,_,hr,_,g,_,_,bz.app E [.slice (some ⟨w.heap.size,0,none⟩) l.length l.length],bA.refl g,S.new (bA.refl g) ?_,(show dq _ g (.c (.oe s.n 1 0 0)) _ from ⟨_,dZ S _,Te.symm,_,rfl⟩),h⟩;exact H2.cE λk ⟨k1,k2,ap,q,s1,s2⟩=>⟨k1,k2,ap,q,⟨_,dZ S _,s1⟩,s2⟩
theorem HW (S:dr n W F b E g w s a) {t:TypeId} {x y:Operand} {c:Cl} {k:IntKind} {l:List Int} {K:Ov->Prop} (ho:o.op= .store t x y) (r:cv E g c (a.eval x)) (rv:dq E g (.arr k l) (a.eval y)) (h:zm X.P b s t c k l K):
  ∃ w' s',(execOp a.eval o).run X.P w= .ok .skip w'/\dr n W F b E g w' s' a/\K s':=by
 unfold zm at h;split at h
 .rename_i m k' lb sz i ha;obtain ⟨v,hE,hx,_⟩:=r;split at h
  .rename_i u e xs eu;have h9:=dc h;clear h;obtain ⟨hc,h⟩:=h9;simp only [ao] at hc;split at h
   .rename_i ys Jj;obtain ⟨q,hy⟩:=eA Jj;subst q;subst hy;obtain ⟨DV,hlen,On,h⟩:=h;have hlen:_=m:=hlen;obtain ⟨e',hu,kE,hn,hm⟩:=AM ha;obtain ⟨bb,cap,cur,rfl,q1,q2,q3,q4,q5,H2⟩:=TS (jY S hE eu) (by rw [hlen];omega);rw [ai hc.2.1,DV,Te] at hx;have VA:(a.eval y).cells=(l.map (Value.int k ·)).toArray:=by rw [rv.1];rfl
    have xf:(a.eval y).cells.size=m:=by rw [VA];simp [On]
    have hr:=kA (P:=X.P) (t:=t) (off:=0) (v:=a.eval y) (H2.pg 0) (by rw [kE,xf]) (by rw [VA];simp [Value.oneCell']) (by rw [xf,q3];omega);rw [<-hx] at hr;have hle:m<=cap:=by omega
    have M9:cur.toList.length=cap:=by simpa using q3
    have P3:(a.eval y).cells.toList=l.map (Value.int k ·):=by rw [VA]
    rw [xf,P3,List.take_zero,eE,cd] at hr;have up:Wr w bb (l.map (Value.int k ·)++cur.toList.drop m).toArray (w.setRow bb (l.map (Value.int k ·)++cur.toList.drop m).toArray):=⟨rfl,(H2.pg 0).lt⟩;have H3:=H2.upd 0 up;have H4:=SL.wo (size:=1) (cap:=cap) m H3 hle q2 (by simp [On];omega);letI:=(Ty.int k).rep;obtain ⟨r,e2⟩:=CU (g:=g) rv.2;have e3:List.take (m*1) (l.map (Value.int k ·)++cur.toList.drop m).toArray.toList=(l.map λn=>[Value.int k n]).flatten:=by
     rw [e2,Nat.mul_one,List.toList_toArray,lV (by simp [On]),aV (by simp [On])]
    rw [e3] at H4;have H5:SL W g _ (py (.int k) u (.slice (some ⟨bb,0,none⟩) m cap) l::_):=SL.XQ (xs:=l) r (by rw [On];exact H4);rw [hlen] at hE;have hr':(execOp a.eval o).run X.P w= .ok .skip (w.setRow bb (l.map (Value.int k ·)++cur.toList.drop m).toArray):=by simp [execOp,ho,hr]
    refine ⟨_,_,hr',S.back hE _ (bA.refl g) ?_,h⟩;exact H5.cE λq ⟨k1,k2,ap,q',s1,s2⟩=>⟨k1,k2,ap,q',⟨_,hE,s1⟩,s2⟩
   .cases h
  .cases h
 .cases h
instance oneCellsTy (e:Ty): @iW e.den e.rep:= @iW.mk e.den e.rep λ{g _ _} h=>((eW ([]:Env) g e h).1).one
theorem Yb {e:Ty} {v:Value} {xs:List e.den} (h:oa e g v xs) (m:bA g w): @Rd e.den e.rep g w v xs:= @Is.rd e.den e.rep g w v xs h m
theorem Ya {e:Ty} {t:TypeId} {v:Value} {xs:List e.den} {l:List Atom} (H:SL W g w (py e t v xs::l)): @Rd e.den e.rep g w v xs:=by
 letI:=e.rep;exact SL.akP (α:=e.den) H
theorem tV (S:dr n W F b E g w s a) {e:Ty} {x:Cl} {u:Value} {ys:List e.den} (r:cv E g x u) (h:sU b s e x=some ys): @Rd e.den e.rep g w u ys/\oa e w u ys:=by
 unfold sU at h;split at h
 .cases h;obtain ⟨rfl,_⟩:=r;exact ⟨.inl ⟨rfl,rfl⟩,(@dx e.den e.rep w _ _).2 (.inl ⟨rfl,rfl⟩)⟩
 .obtain ⟨q,hy⟩:=eA h;subst q;subst hy;exact ⟨Yb r S.m,oa.mono S.m r⟩
 .obtain ⟨hE,_⟩:=r;split at h
  .rename_i eu;obtain ⟨q,hy⟩:=eA h;subst q;subst hy;exact ⟨Ya (jY S hE eu),pE (jY S hE eu)⟩
  .rename_i eu;obtain ⟨q,hy⟩:=eA h;subst q;subst hy;exact ⟨Yb (lR S hE eu) S.m,(lR S hE eu).mono S.m⟩
  .cases h
 .cases h
theorem HG (S:dr n W F b E g w s a) {e:Ty} {x:Cl} {u:Value} {K:List e.den->Prop} (r:cv E g x u) (h:XN b s e x K):∃ ys,@Rd e.den e.rep g w u ys/\oa e w u ys/\K ys:=by
 unfold XN at h;split at h
 .rename_i q sz lo hi;obtain ⟨v,hE,hu,_⟩:=r;split at h
  .rename_i t e' xs eu;have h9:=dc h;clear h;obtain ⟨kE,h1,h2,h3,h4⟩:=h9;split at h4
   .rename_i ys Jj;obtain ⟨q',hy⟩:=eA Jj;subst q';have CW:ys=(xs.drop lo.toNat).take (hi.toNat - lo.toNat):=hy;subst CW;have H:=jY S hE eu;obtain rfl:=ai kE;have k1:= @Rd.slice e'.den e'.rep g w v xs lo hi (Ya H) h1 h2 h3;rw [show @aO.size e'.den e'.rep=e'.size from Ty.gz e'] at k1;subst hu;exact ⟨_,k1,ll (pE H) h1 h2 h3,h4⟩
   .exact h4.elim
  .cases h
 .split at h
  .rename_i ys Jj;obtain ⟨h1,h2⟩:=tV S r Jj;exact ⟨ys,h1,h2,h⟩
  .cases h
theorem zn {P:Program} {w:World} (base:Nat) (t u ty e:TypeId) (i:TypeInfo) (ht:P.underlying t=some (.slice e)) (hu:P.underlying u=some .string) (hi:P.info? e=some i) (hz:i.zero=some (.int .u8 0))
  (MZ:i.size=1) (hby:i.bytes=1) (v:Value) (m:Nat) (xs:List Value) (Jl:w.ownsRow base e 1 v m xs) (z:ByteArray)
  (h63:m+z.size<=maxLen) (P5:m+z.size<=140737488355328) {v':Value} {w':World} (hr:(Builtin.append_ #[t,u] ty #[v,.string z]).run P w= .ok v' w'):
  ∀ k,v'.ownBlock=some k->v.ownBlock=some k\/w.heap.size<=k:=by
 have hxl:xs.length=m:=by simpa using Jl.1
 have aif:m+z.size<=9223372036854775807:=by simp only [maxLen] at h63;omega
 rcases Jl.2 with ⟨rfl,rfl⟩| ⟨gb,cap,cur,rfl,hbg,hg,hnc,fh,xf,Gy⟩
 .by_cases hm:z.size=0
  .have hf:=Go.Lib.run_firstCells_string (P:=P) w 1 z;rw [hm] at hf;have gM:(Builtin.append_ #[t,u] ty #[.slice none 0 0,.string z]).run P w= .ok (.slice none 0 0) w:=by
    simp [Builtin.append_,run_underlying ht,run_underlying hu,sizeOf,typeInfo,hi,MZ,Builtin.lenOf,hm,hf]
   rw [gM] at hr;cases hr;intro k hk;simp [Value.ownBlock] at hk
  .rw [run_append_nil_string (P:=P) w t u ty e i (.int .u8 0) ht hu hi hz z (by omega) (by omega) (by rw [hby];omega)] at hr;cases hr;intro k hk;have:w.heap.size=k:=by simpa [Value.ownBlock] using hk
   exact .inr (by omega)
 .by_cases SU:m+z.size<=cap
  .have alL:cur.size=cap:=by simpa using xf
   rw [Go.Lib.run_append_room_string (P:=P) w t u ty e i ht hu hi MZ gb m cap cur hg z SU (by omega)] at hr;cases hr;exact λk hk=>.inl hk
  .have holds:∀ j u,xs[j]?=some u->w.cell? ((⟨gb,0,none⟩:Addr).add j)=some u:=Jl.cells (g:=gb) rfl;rw [Go.Lib.run_append_grow_string (P:=P) w t u ty e i (.int .u8 0) ht hu hi hz ⟨gb,0,none⟩ m cap xs (by rw [MZ];simpa using hxl) holds z (by omega) (by omega) (by rw [hby];exact growslice_fits (by omega) (by omega))] at hr;cases hr;intro k hk;have:w.heap.size=k:=by simpa [Value.ownBlock] using hk
   exact .inr (by omega)
theorem wu (g:World):∀ l:List UInt8,eF g (l.map λc=>[Value.int .u8 (c.toNat:Int)]) l/\(l.map λc=>[Value.int .u8 (c.toNat:Int)]).flatten=l.map λc=>Value.int .u8 (c.toNat:Int)
 | []=>⟨trivial,rfl⟩
 | c::l=>⟨⟨rfl,(wu g l).1⟩,by rw [cg,bF,(wu g l).2];rfl⟩
theorem L6 (S:dr n W F b E g w s a) {t t2:TypeId} {x y:Operand} {cx cy:Cl} {K:SV->Ov->Prop} (ho:o.op= .call {callee:=.builtin .append,args:= #[x,y],argTypes:= #[t,t2]}) (rx:cv E g cx (a.eval x)) (ry:cv E g cy (a.eval y)) (h:JP X b s t t2 cx cy K):
  ∃ v w',(execOp a.eval o).run X.P w= .ok (.value v) w'/\Out n W F b E g a K v w':=by
 unfold JP at h;split at h
 .rename_i et z ht hu;obtain ⟨hy,hz⟩:=ry;obtain ⟨hu8,h⟩:=dc h;obtain ⟨ie,kF,hs1,Az,hb1⟩:∃ ie,X.P.info? et=some ie/\ie.size=1/\ie.zero=some (.int .u8 0)/\ie.bytes=1:=by
   unfold MV at hu8;split at hu8
   .rename_i ie kF;rw [ao] at hu8;obtain ⟨h1,h2⟩:=hu8;split at h2
    .rename_i Az;exact ⟨ie,kF,ai h1,Az,ai h2⟩
    .cases h2
   .cases hu8
  have Om:z.data.toList.length=z.size:=by rw [dw];rfl
  have app:∀ {xs:List UInt8} {v:Value} {L:List Atom},SL W g w (py .u8 et v xs::L)->a.eval x=v->xs.length+z.size<=140737488355328->
    ∃ v' w',(execOp a.eval o).run X.P w= .ok (.value v') w'/\SL W g w' (py .u8 et v' (xs++z.data.toList)::L)/\∃ q m c,v'= .slice q m c:=λ{xs v L} H hx hb=>by
   obtain ⟨cs,hrel,H1⟩:=SL.py (α:=UInt8) H;have rS:=H1.row;obtain ⟨v',w',gM,Zd,M6,_⟩:=Go.Lib.run_append_own_string (P:=X.P) (w:=w) W.n t t2 o.type et ie ht hu kF Az hs1 hb1 v xs.length cs.flatten rS z (by unfold maxLen;omega) hb H.size;have PU:=zn (P:=X.P) W.n t t2 o.type et ie ht hu kF Az hs1 hb1 v xs.length cs.flatten rS z (by unfold maxLen;omega) hb gM;have H2:=H1.grown Zd M6 PU;have anz:Go.Lib.strCells z=z.data.toList.map λc=>Value.int .u8 (c.toNat:Int):=by
    simp [Go.Lib.strCells]
   have H3:SL W g w' (py .u8 et v' (xs++z.data.toList)::L):=by
    refine SL.XQ (α:=UInt8) (cs:=cs++(z.data.toList.map λc=>[Value.int .u8 (c.toNat:Int)])) (hrel.append (wu g _).1) ?_;rw [eT,(wu g _).2,af,Om,<-anz];exact H2
   obtain ⟨q,m,c,hv,_⟩:=HJ H3;exact ⟨v',w',by simp [execOp,ho,resolve,invoke,builtin,hx,hy,gM],H3,q,m,c,hv⟩
  split at h
  .obtain ⟨hb,h⟩:=h;obtain ⟨hx,_⟩:=rx;have H:=SL.zI UInt8 et S.sat.sl;obtain ⟨v',w',hr,H',hv⟩:=app (xs:=[]) H hx (by simpa using hb);refine ⟨v',w',hr,E++ [v'],g,_,_,bz.app E _,bA.refl g,S.new (v:=v') (bA.refl g) ?_,(show dq _ g (.c (.o s.n)) v' from ⟨dZ S _,hv⟩),h⟩;exact H'.cE λk ⟨k1,k2,ap,q,s1,s2⟩=>⟨k1,k2,ap,q,⟨v',dZ S _,by simpa using s1⟩,s2⟩
  .obtain ⟨hE,_⟩:=rx;split at h
   .rename_i l _ Ou e' xs0 eu;obtain ⟨hte,h⟩:=dc h;obtain rfl:=ai hte;split at h
    .rename_i xs yR;obtain ⟨hb,hK⟩:=h;obtain ⟨q,hq⟩:=eA yR;subst q;subst hq;obtain ⟨v',w',hr,H',hv⟩:=app (jY S hE eu) rfl hb;refine ⟨v',w',hr,E++ [v'],g,_,_,bz.app E _,bA.refl g,S.move (v:=v') hE (bA.refl g) ?_,(show dq _ g (.c (.o s.n)) v' from ⟨dZ S _,hv⟩),hK⟩;exact H'.cE λk ⟨k1,k2,ap,q,s1,s2⟩=>⟨k1,k2,ap,q,⟨v',dZ S _,s1⟩,s2⟩
    .cases h
   .cases h
  .cases h
 .cases h
theorem L5 (S:dr n W F b E g w s a) {t t2:TypeId} {x y:Operand} {cx cy:Cl} {K:SV->Ov->Prop} (ho:o.op= .call {callee:=.builtin .append,args:= #[x,y],argTypes:= #[t,t2]}) (rx:cv E g cx (a.eval x)) (ry:cv E g cy (a.eval y)) (h:JO X b s t t2 cx cy K):
  ∃ v w',(execOp a.eval o).run X.P w= .ok (.value v) w'/\Out n W F b E g a K v w':=by
 unfold JO at h;split at h;cases h
 .rename_i et e ie S6;have aol:X.P.underlying t=some (.slice et)/\X.P.info? et=some ie/\e.size=ie.size:=by
   unfold Nr at S6;split at S6
   .rename_i Ou ht;split at S6
    .rename_i ie' e' kF hty;split at S6
     .rename_i hs;cases S6;exact ⟨ht,kF,ai hs⟩
     .cases S6
    .cases S6
   .cases S6
  obtain ⟨ht,kF,kE⟩:=aol;split at h
  .rename_i htt;obtain rfl:=ai htt
   .obtain ⟨ys,M0,aoc,h⟩:=HG S ry h;letI:=e.rep;have Jm:aO.size e.den=e.size:=Ty.gz e
    -- the append itself
    have app:∀ {xs:List e.den} {v:Value} {L:List Atom},SL W g w (py e et v xs::L)->a.eval x=v->TT X et e=true->(xs.length+ys.length)*ie.bytes<=140737488355328->xs.length+ys.length<=9223372036854775807->
      ∃ v' w',(execOp a.eval o).run X.P w= .ok (.value v') w'/\SL W g w' (py e et v' (xs++ys)::L)/\∃ q m c,v'= .slice q m c:=λ{xs v L} H hx xd hb hm=>by
     unfold TT at xd;rw [kF] at xd;simp only [ao] at xd;obtain ⟨h1,h2⟩:=xd;cases hz:ie.zero with
     | none=>rw [hz] at h2;cases h2
     | some z=>
      rw [hz] at h2;obtain ⟨v',w',hr,H',_⟩:=SL.append (α:=e.den) (P:=X.P) (t:=t) (ty:=o.type) (bytes:=ie.bytes) H M0 ht (by rw [kF,Jm,kE];simp [hz]) (by rw [kF];simp [hz];rw [Jm];exact ai h2) (by rw [Jm];simpa using h1) hb hm;obtain ⟨q,m,c,hv,_⟩:=HJ H';exact ⟨v',w',by simp [execOp,ho,resolve,invoke,builtin,hx,hr],H',q,m,c,hv⟩
    split at h
    .obtain ⟨xd,hb,h⟩:=dc h;obtain ⟨hx,_⟩:=rx;have H:=SL.zI e.den et S.sat.sl;have hlen:=lP aoc;obtain ⟨v',w',hr,H',hv⟩:=app (xs:=[]) H hx xd (by simpa using hb) (by simpa using hlen);refine ⟨v',w',hr,E++ [v'],g,_,_,bz.app E _,bA.refl g,S.new (v:=v') (bA.refl g) ?_,(show dq _ g (.c (.o s.n)) v' from ⟨dZ S _,hv⟩),h⟩;exact H'.cE λk ⟨k1,k2,ap,q,s1,s2⟩=>⟨k1,k2,ap,q,⟨v',dZ S _,by simpa using s1⟩,s2⟩
    .obtain ⟨hE,_⟩:=rx;split at h
     .rename_i l _ Ou e' xs0 eu;split at h
      .rename_i hte;obtain rfl:=ai hte;split at h
       .rename_i xs yR;obtain ⟨xd,hb,hm,h⟩:=dc h;obtain ⟨q,hy⟩:=eA yR;subst q;subst hy;obtain ⟨v',w',hr,H',hv⟩:=app (jY S hE eu) rfl xd hb hm;refine ⟨v',w',hr,E++ [v'],g,_,_,bz.app E _,bA.refl g,S.move (v:=v') hE (bA.refl g) ?_,(show dq _ g (.c (.o s.n)) v' from ⟨dZ S _,hv⟩),h⟩;exact H'.cE λk ⟨k1,k2,ap,q,s1,s2⟩=>⟨k1,k2,ap,q,⟨v',dZ S _,s1⟩,s2⟩
       .cases h
      .cases h
     .cases h
    .cases h
  .exact L6 S ho rx ry h
end
section
variable {X:Vx} {n:Nat} {W:cV} {F:List Atom} {b:Bs} {E:Env} {g w:World} {s:Ov} {a:Act} {o:Oper}
theorem Nd:∀ (vs:List Value) (k:Nat) (us:List Value) (off:Nat),off+k+vs.length<=us.length->
  (vs.zipIdx k).foldl (λ(q:Array Value) (p:Value×Nat)=>q.setIfInBounds (off+p.2) p.1) us.toArray=(us.take (off+k)++(vs++us.drop (off+k+vs.length))).toArray
 | [],k,us,off,_=>by simp
 | v::r,k,us,off,h=>by
  have h':off+k< us.length:=by simp at h;omega
  rw [List.zipIdx_cons,List.foldl_cons];have e:us.toArray.setIfInBounds (off+k) v=(us.set (off+k) v).toArray:=by simp
  show (r.zipIdx (k+1)).foldl _ (us.toArray.setIfInBounds (off+k) v)=_;rw [e,Nd r (k+1) (us.set (off+k) v) off (by simp at h ⊢;omega)];congr 1;have h1:(us.set (off+k) v).take (off+(k+1))=us.take (off+k)++ [v]:=by
   rw [show off+(k+1)=off+k+1 by omega,List.take_add_one,List.getElem?_set_self (by simpa using h'),List.take_set_of_le (by omega)];simp
  have h2:(us.set (off+k) v).drop (off+(k+1)+r.length)=us.drop (off+k+(v::r).length):=by
   rw [List.drop_set_of_lt (by omega)];congr 1;simp;omega
  rw [h1,h2];simp
inductive tz (E:Env) (g:World) (a:Act):List (Nat×S1)->List (Nat×Operand)->Prop
 | nil:tz E g a [] []
 | cons {i:Nat} {v:S1} {x:Operand} {ps:List (Nat×S1)} {l:List (Nat×Operand)} (h:gw E g v (a.eval x)) (k:tz E g a ps l):tz E g a ((i,v)::ps) ((i,x)::l)
theorem tP (S:dr n W F b E g w s a):∀ {l:List (Nat×Operand)} {ps:List (Nat×S1)},sQ b s l=some ps->tz E g a ps l
 | [],ps,h=>by
  obtain rfl: []=ps:=aj h;exact .nil
 | (i,x)::r,ps,h=>by
  unfold sQ at h;split at h
  .rename_i v hv;split at h
   .rename_i l hl;obtain rfl:(i,v)::l=ps:=aj h;exact .cons (S.fg hv) (tP S hl)
   .cases h
  .cases h
theorem xj {place:Nat->Option (Nat×Nat)}:∀ {ps:List (Nat×S1)} {l:List (Nat×Operand)} {cs xK:List Cl} {us:List Value},Ad place cs ps=some xK->tz E g a ps l->bB E g cs us->
  ∃ tF,Instr.fill place us.toArray (l.map λq=>(q.1,a.eval q.2))=some tF.toArray/\bB E g xK tF
 | [],_,cs,xK,us,h,.nil,hc=>by
  obtain rfl:cs=xK:=aj h;exact ⟨us,rfl,hc⟩
 | (i,v)::r,_,cs,xK,us,h,.cons (x:=x) h2 h3,hc=>by
  unfold Ad at h;split at h;cases h
  .rename_i off size hp;split at h
   .rename_i kE;split at h
    .rename_i hle;have hv:=gw.cells h2;have hl:(a.eval x).cells.size=size:=by
      have:=hv.length;rw [dw] at this;rw [this];exact ai kE
     have aqj:off+size<=us.length:=by rw [hc.length];exact cK hle
     obtain ⟨tF,h4,h5⟩:=xj h h3 (xS (off:=off) hc hv);refine ⟨tF,?_,h5⟩;show Instr.fill place us.toArray ((i,a.eval x)::_)=_;unfold Instr.fill;simp only [hp];have uz:((a.eval x).cells.size !=size|| decide (off+(a.eval x).cells.size>us.toArray.size))=false:=by
      rw [hl];simp;omega
     rw [if_neg (by simpa using uz)];have e:=Nd (a.eval x).cells.toList 0 us off (by rw [dw,hl];omega);have e2:(a.eval x).cells.zipIdx.foldl (λ(q:Array Value) (p:Value×Nat)=>q.setIfInBounds (off+p.2) p.1) us.toArray=((a.eval x).cells.toList.zipIdx 0).foldl (λ(q:Array Value) (p:Value×Nat)=>q.setIfInBounds (off+p.2) p.1) us.toArray:=by
      rw [<-Array.foldl_toList,Array.toList_zipIdx]
     have e3:(a.eval x).cells.zipIdx.foldl (λcs (x:Value×Nat)=>match x with| (c,j)=>cs.setIfInBounds (off+j) c) us.toArray=(us.take off++((a.eval x).cells.toList++us.drop (off+(a.eval x).cells.toList.length))).toArray:=by
      rw [j4] at e;exact e2.trans e
     rw [e3];exact h4
    .cases h
   .cases h
theorem B4 {t:TypeId} {parts:Array (Nat×Operand)} {ps:List (Nat×S1)} {K:SV->Prop} (ho:o.op= .build t parts) (hp:tz E g a ps parts.toList) (h:vU X.P t ps K):ER X.P o a w E g K:=by
 unfold vU oc at h;split at h;cases h
 .rename_i z hz;split at hz
  .rename_i it hit;split at hz
   .rename_i z0 Az;have hzc:bB E g z z0.cells.toList:=k9 hz;have key:∀ {place:Nat->Option (Nat×Nat)} {cs:List Cl},Ad place z ps=some cs->∃ tF,Instr.fill place z0.cells (parts.toList.map λq=>(q.1,a.eval q.2))=some tF.toArray/\bB E g cs tF:=λ{place cs} hf=>by
     have:=xj hf hp hzc;simpa using this
    have Eg:(parts.map λ(i,x)=>(i,a.eval x)).toList=parts.toList.map λq=>(q.1,a.eval q.2):=by rw [Array.toList_map]
    split at h
    .rename_i fs hu;split at h
     .rename_i places DU;split at h
      .rename_i cs hf;obtain ⟨tF,h1,h2⟩:=key hf;refine ⟨.agg tF.toArray,.v (.agg cs),?_,⟨tF,h2,rfl⟩,h⟩;have hb:X.P.built t (parts.map λ(i,x)=>(i,a.eval x)).toList=some tF.toArray:=by
        rw [Eg];unfold Program.built;simp only [hit,hu,Az,DU];exact h1
       simp only [execOp,ho,Sem.run_bind,run_build w t _ _ hb,Result.andThen_ok];rfl
      .cases h
     .cases h
    .rename_i m e hu;split at h
     .rename_i ie kF;split at h
      .rename_i cs hf;obtain ⟨tF,h1,h2⟩:=key hf;refine ⟨.agg tF.toArray,.v (.agg cs),?_,⟨tF,h2,rfl⟩,h⟩;have hb:X.P.built t (parts.map λ(i,x)=>(i,a.eval x)).toList=some tF.toArray:=by
        rw [Eg];unfold Program.built;simp only [hit,hu,Az,kF];exact h1
       simp only [execOp,ho,Sem.run_bind,run_build w t _ _ hb,Result.andThen_ok];rfl
      .cases h
     .cases h
    .cases h
   .cases hz
  .cases hz
theorem HM {e:Ty}:∀ {off m:Nat} {cs:List Cl} {zs:List e.den} {us:List Value},UO e off m cs=some zs->bB E g cs us->zs.length=m/\∀ (i:Nat) z,zs[i]?=some z->∃ u,us[off+i]?=some u/\e.rep.rel g [u] z
 | 0,0,_,zs,_,h,_=>by
  simp only [UO,km] at h;subst h;exact ⟨rfl,λi z h=>by simp at h⟩
 | 0,m+1,c::r,zs,us,h,⟨u,q,e,h1,h2⟩=>by
  subst e;unfold UO at h;split at h
  .rename_i z hz;split at h
   .rename_i l hl;obtain rfl:z::l=zs:=aj h;obtain ⟨h3,h4⟩:=HM hl h2;refine ⟨by simp [h3],λi y hy=>?_⟩;cases i with
    | zero=>
     obtain rfl:z=y:=by simpa using hy
     obtain ⟨u1,u2,e1,h5,h6⟩:=of_cells _ hz (bB.cons h1 bB.nil);obtain rfl:u2= []:=h6;rw [a7] at e1;subst e1;exact ⟨u,rfl,h5⟩
    | succ i=>
     obtain ⟨u2,h5,h6⟩:=h4 i y (by simpa using hy);refine ⟨u2,?_,h6⟩;rw [show 0+(i+1)=(0+i)+1 by omega,List.getElem?_cons_succ];exact h5
   .cases h
  .cases h
 | off+1,m,c::r,zs,us,h,⟨u,q,e,_,h2⟩=>by
  subst e;obtain ⟨h3,h4⟩:=HM (off:=off) h h2;refine ⟨h3,λi y hy=>?_⟩;rw [show off+1+i=(off+i)+1 by omega,List.getElem?_cons_succ];exact h4 i y hy
 | 0,m+1,[],_,_,h,_=>by cases h
 | off+1,m,[],_,_,h,_=>by cases h
theorem gN:∀ {cs:List Cl} {us:List Value} {s:Ov} {g:World} {k:List Cl->Ov->Prop},dr n W F b E g w s a->bB E g cs us->k8 b cs s k->∃ g' s' xK,bA g g'/\dr n W F b E g' w s' a/\bB E g' xK us/\k xK s'
 | [],us,s,g,k,S,hc,h=>⟨g,s,[],bA.refl g,S,hc,h⟩
 | c::r,us,s,g,k,S,⟨u,q,e,h1,h2⟩,h=>by
  subst e;unfold k8 at h;split at h
  .rename_i l;have hE:=h1.1;split at h
   .rename_i t e xs eu;letI:=e.rep;obtain ⟨g1,m1,H1,hi⟩:=SL.qy (α:=e.den) (jY S hE eu);have S1:dr n W F b E g1 w (s.dU l (.held t e xs)) a:=S.back hE _ m1 (H1.cE λk s2=>⟨λ_=>none,k,λ_=>.inl rfl,rfl,(show (cJ E l (.held t e xs)).sat g1 _ from ⟨u,hE,hi⟩),s2⟩);obtain ⟨g2,s2,cs2,m2,S2,h3,h4⟩:=gN S1 (h2.mono (bz.refl E) m1) h;exact ⟨g2,s2,_,m1.trans m2,S2,bB.cons (show cv E g2 (.d e xs) u from oa.mono m2 hi) h3,h4⟩
   .rename_i t e xs eu;have hi:=lR S hE eu;obtain ⟨g2,s2,cs2,m2,S2,h3,h4⟩:=gN S h2 h;exact ⟨g2,s2,_,m2,S2,bB.cons (show cv E g2 (.d e xs) u from oa.mono m2 hi) h3,h4⟩
   .cases h
  .rename_i l off m;obtain ⟨bb,c,hE,hmc,hu⟩:=h1;split at h
   .rename_i t cs0 eu;have h9:=dc h;clear h;obtain ⟨kE,h⟩:=h9;have kE:=ai kE;split at h
    .rename_i zs hzs;obtain ⟨us0,hr,_,H⟩:=oV S hE eu;obtain ⟨hlen,pf⟩:=HM hzs hr;obtain ⟨g1,m1,H1,hg⟩:=SL.afy H;have S1:dr n W F b E g1 w (s.dU l .gone) a:=S.back hE .gone m1 (H1.cE λk s2=>⟨λ_=>none,k,λ_=>.inl rfl,rfl,trivial,s2⟩);have hi:oa (HE off cs0) g1 u zs:=by
      letI:=(HE off cs0).rep;refine (dx (α:=(HE off cs0).den)).2 ?_;refine .inr ⟨⟨bb,off,none⟩,c,by rw [hu,hlen],by rw [hlen];exact hmc.1,hmc.2,λi x hx=>?_⟩;obtain ⟨ux,hux,hrx⟩:=pf i x hx;refine ⟨[ux],λj v hj=>?_,aO.mono m1 hrx⟩
      match j,hj with
      | 0,hj=>
       obtain rfl:v=ux:=by simpa using hj.symm
       have sY:aO.size (HE off cs0).den=1:=(Ty.gz _).trans kE;have e1:(Addr.mk bb off none).add (i*aO.size (HE off cs0).den+0)=⟨bb,off+i,none⟩:=by simp [Addr.add,sY]
       rw [e1,hg];simpa using hux
      | j+1,hj=>simp at hj
     obtain ⟨g2,s2,cs2,m2,S2,h3,h4⟩:=gN S1 (h2.mono (bz.refl E) m1) h;exact ⟨g2,s2,_,m1.trans m2,S2,bB.cons (show cv E g2 (.d (HE off cs0) zs) u from oa.mono m2 hi) h3,h4⟩
    .cases h
   .cases h
  .rename_i l sz i off;obtain ⟨v,hE,hu,_⟩:=h1;split at h
   .rename_i t e xs eu;have h9:=dc h;clear h;obtain ⟨hc,h0,h8,h⟩:=h9;simp only [ao] at hc;letI:=e.rep;obtain ⟨g1,m1,H1,hi⟩:=SL.qy (α:=e.den) (jY S hE eu);have S1:dr n W F b E g1 w (s.dU l (.held t e xs)) a:=S.back hE _ m1 (H1.cE λk s2=>⟨λ_=>none,k,λ_=>.inl rfl,rfl,(show (cJ E l (.held t e xs)).sat g1 _ from ⟨v,hE,hi⟩),s2⟩);obtain ⟨g2,s2,cs2,m2,S2,h3,h4⟩:=gN S1 (h2.mono (bz.refl E) m1) h;exact ⟨g2,s2,_,m1.trans m2,S2,bB.cons (show cv E g2 (.de e xs i off) u from ⟨⟨h0,h8,cK hc.2⟩,v,oa.mono m2 hi,by rw [ai hc.1];exact hu⟩) h3,h4⟩
   .rename_i t e xs eu;have h9:=dc h;clear h;obtain ⟨hc,h0,h8,h⟩:=h9;simp only [ao] at hc;have hi:=lR S hE eu;obtain ⟨g2,s2,cs2,m2,S2,h3,h4⟩:=gN S h2 h;exact ⟨g2,s2,_,m2,S2,bB.cons (show cv E g2 (.de e xs i off) u from ⟨⟨h0,h8,cK hc.2⟩,v,oa.mono m2 hi,by rw [ai hc.1];exact hu⟩) h3,h4⟩
   .cases h
  .rename_i l sz lo hi;obtain ⟨v,hE,hu,_⟩:=h1;split at h
   .rename_i t e xs eu;have h9:=dc h;clear h;obtain ⟨hc,h0,h8,h7,h⟩:=h9;obtain rfl:=ai hc;letI:=e.rep;obtain ⟨g1,m1,H1,hi⟩:=SL.qy (α:=e.den) (jY S hE eu);have S1:dr n W F b E g1 w (s.dU l (.held t e xs)) a:=S.back hE _ m1 (H1.cE λk s2=>⟨λ_=>none,k,λ_=>.inl rfl,rfl,(show (cJ E l (.held t e xs)).sat g1 _ from ⟨v,hE,hi⟩),s2⟩);obtain ⟨g2,s2,cs2,m2,S2,h3,h4⟩:=gN S1 (h2.mono (bz.refl E) m1) h;exact ⟨g2,s2,_,m1.trans m2,S2,bB.cons (show cv E g2 (.d e _) u from hu▸ll (oa.mono m2 hi) h0 h8 h7) h3,h4⟩
   .rename_i t e xs eu;have h9:=dc h;clear h;obtain ⟨hc,h0,h8,h7,h⟩:=h9;obtain rfl:=ai hc;have hi:=lR S hE eu;obtain ⟨g2,s2,cs2,m2,S2,h3,h4⟩:=gN S h2 h;exact ⟨g2,s2,_,m2,S2,bB.cons (show cv E g2 (.d e _) u from hu▸ll (oa.mono m2 hi) h0 h8 h7) h3,h4⟩
   .cases h
  .obtain ⟨g2,s2,cs2,m2,S2,h3,h4⟩:=gN S h2 h;exact ⟨g2,s2,_,m2,S2,bB.cons (h1.mono (bz.refl E) m2) h3,h4⟩
theorem ME {e:Ty}:∀ (m:Nat) {cs:List Cl} {us:List Value} {xs:List e.den},MF e m cs=some xs->bB E g cs us->∃ css:List (List Value),css.flatten=us/\ @eF e.den e.rep g css xs/\xs.length=m
 | 0,[],us,xs,h,hc=>by
  obtain rfl: []=xs:=aj h;exact ⟨[],(show us= [] from hc).symm,trivial,rfl⟩
 | 0,_::_,us,xs,h,hc=>by cases h
 | m+1,cs,us,xs,h,hc=>by
  unfold MF at h;split at h
  .rename_i x r hx;split at h
   .rename_i ys Jj;obtain rfl:x::ys=xs:=aj h;obtain ⟨u1,u2,e1,h1,h2⟩:=of_cells e hx hc;obtain ⟨css,h3,h4,h5⟩:=ME m Jj h2;exact ⟨u1::css,by rw [bF,h3,e1],⟨h1,h4⟩,by simp [h5]⟩
   .cases h
  .cases h
theorem FU {α:Type}:∀ (m:Nat) (z:List α) (i:Nat),i< m*z.length->(au m z).flatten[i]?=z[i % z.length]?
 | 0,z,i,h=>by simp at h
 | m+1,z,i,h=>by
  rw [List.replicate_succ,bF];by_cases hi:i< z.length;rw [aU hi,lU hi]
  .rw [aZ (by omega),FU m z (i - z.length) (by rw [fj] at h;omega)];congr 1;exact (Nat.mod_eq_sub_mod (by omega)).symm
theorem FV (m:Nat) (z:Array Value) (hz:0< z.size):(Array.range (m*z.size)).map (λi=>z[i % z.size]!)=((au m z.toList).flatten).toArray:=by
 apply Array.ext_getElem?;intro i;by_cases hi:i< m*z.size
 .have:=FU m z.toList i (by simpa using hi);have eJ:i % z.size< z.size:=Nat.mod_lt _ hz;simp only [dw,eS] at this;simp only [List.getElem?_toArray,this];simp [hi,eJ]
 .rw [iy (by simp;omega),iy (by simp;omega)]
theorem xZ {z:List Cl} {us:List Value} (h:bB E g z us):∀ m:Nat,bB E g (au m z).flatten (au m us).flatten
 | 0=>bB.nil
 | m+1=>by
  rw [List.replicate_succ,List.replicate_succ,bF,bF];exact h.app (xZ h m)
theorem ajj {e:Ty} {et:TypeId} {bb m:Nat} {us:List Value} {xs:List e.den} {css:List (List Value)} {L:List Atom} (H:SL W g w (pg bb us.toArray et::L)) (h1:css.flatten=us) (h2: @eF e.den e.rep g css xs) (h3:xs.length=m) (hm:m<=maxLen):
  SL W g w (py e et (.slice (some ⟨bb,0,none⟩) m m) xs::L):=by
 letI:=e.rep;have hlen:=(eF.length h2).2;rw [h1] at hlen;have H2:=SL.wo (size:=aO.size e.den) (cap:=m) m H (az _) hm (by rw [<-h3];simpa using hlen);subst h3;refine SL.XQ (α:=e.den) (cs:=css) h2 ?_;have e1:us.toArray.toList.take (xs.length*aO.size e.den)=css.flatten:=by
  rw [h1,<-hlen];simp
 rw [e1] at H2;exact H2
end
section
variable {X:Vx} {n:Nat} {W:cV} {F:List Atom} {b:Bs} {E:Env} {g w:World} {s:Ov} {a:Act} {o:Oper}
theorem ZC {t et:TypeId} {e:Ty} {ie:TypeInfo} (h:Nr X t=some (et,e,ie)):X.P.underlying t=some (.slice et)/\X.P.info? et=some ie/\e.size=ie.size:=by
 unfold Nr at h;split at h
 .rename_i Ou ht;split at h
  .rename_i ie' e' kF hty;split at h
   .rename_i hs;cases h;exact ⟨ht,kF,ai hs⟩
   .cases h
  .cases h
 .cases h
theorem Ep {P:Program} {t:TypeId} {z:List Cl} (h:oc P t=some z):∃ i z0,P.info? t=some i/\i.zero=some z0/\bB E g z z0.cells.toList:=by
 unfold oc at h;split at h
 .rename_i i hi;split at h
  .rename_i z0 Az;exact ⟨i,z0,hi,Az,k9 h⟩
  .cases h
 .cases h
theorem HV (S:dr n W F b E g w s a) {t:TypeId} {m:Nat} {parts:Array (Nat×Operand)} {ps:List (Nat×S1)} {K:SV->Ov->Prop} (ho:o.op= .buildSlice t m parts) (hp:tz E g a ps parts.toList) (h:Dy X s t m ps K):
  ∃ v w',(execOp a.eval o).run X.P w= .ok (.value v) w'/\Out n W F b E g a K v w':=by
 unfold Dy at h;split at h
 .rename_i et ht;split at h
  .rename_i ie z kF hz;obtain ⟨i',z0,Zj,Az,hzc⟩:=Ep (E:=E) (g:=g) hz;rw [kF] at Zj;obtain rfl:=aj Zj;obtain ⟨C0,h⟩:=dc h;rw [ao,ao,ao] at C0;obtain ⟨⟨uz,Aa,hc4⟩,hc3⟩:=C0;have hsm:m*ie.size<=16777216:=cK uz;have sW:0< ie.size:=by simpa using Aa
   have hm0:0< m:=by simpa using hc4
   have hzs:z0.cells.size=ie.size:=by
    have:=hzc.length;rw [dw] at this;rw [this];exact ai hc3
   split at h;cases h
   .rename_i cs hf;obtain ⟨tF,h1,h2⟩:=xj hf hp (xZ hzc m);have Eg:(parts.map λ(i,x)=>(i,a.eval x)).toList=parts.toList.map λq=>(q.1,a.eval q.2):=by rw [Array.toList_map]
    have hr:(Instr.buildSlice t m (parts.map λ(i,x)=>(i,a.eval x))).run X.P w= .ok (.slice (some ⟨w.heap.size,0,none⟩) m m) (w.alloc (.cells tF.toArray et)):=by
     refine run_buildSlice w t et m _ tF.toArray ie z0 ht kF Az (by omega) (by have:=Nat.mul_pos hm0 sW;omega) ?_;rw [Eg];have:=FV m z0.cells (by omega);rw [hzs] at this;rw [hzs,this];exact h1
    have gM:(execOp a.eval o).run X.P w= .ok (.value (.slice (some ⟨w.heap.size,0,none⟩) m m)) (w.alloc (.cells tF.toArray et)):=by
     simp only [execOp,ho,Sem.run_bind,hr,Result.andThen_ok];rfl
    have H:=S.sat.sl.new (xF.mk' w (.cells tF.toArray et));have J3:m<=maxLen:=by
     unfold maxLen;have:=Nat.le_mul_of_pos_right m sW;omega
    refine ⟨_,_,gM,E++ [ptr w.heap.size 0],g,_,_,bz.app E _,bA.refl g,S.new (v:=ptr w.heap.size 0) (bA.refl g) ?_,(show dq _ g (.c (.sc s.n 0 m)) _ from ⟨_,m,dZ S _,⟨az _,J3⟩,rfl⟩),h⟩;exact H.cE λk ⟨k1,k2,ap,q,s1,s2⟩=>⟨k1,k2,ap,q,⟨_,tF,dZ S _,h2.mono (bz.app E _) (bA.refl g),s1⟩,s2⟩
  .cases h
 .cases h
theorem As (S:dr n W F b E g w s a) {t:TypeId} {m:Nat} {parts:Array (Nat×Operand)} {ps:List (Nat×S1)} {K:SV->Ov->Prop} (ho:o.op= .buildSlice t m parts) (hp:tz E g a ps parts.toList) (h:tk X b s t m ps K):
  ∃ v w',(execOp a.eval o).run X.P w= .ok (.value v) w'/\Out n W F b E g a K v w':=by
 unfold tk at h;split at h;exact HV S ho hp h
 .rename_i et e ie S6;obtain ⟨ht,kF,kE⟩:=ZC S6;split at h
  .cases h
  .rename_i z hz;obtain ⟨i',z0,Zj,Az,hzc⟩:=Ep (E:=E) (g:=g) hz;rw [kF] at Zj;obtain rfl:=aj Zj;obtain ⟨C0,h⟩:=dc h;rw [ao,ao] at C0;obtain ⟨⟨uz,Aa⟩,hc3⟩:=C0;have hsm:m*ie.size<=16777216:=cK uz;have hzs:z0.cells.size=ie.size:=by
    have:=hzc.length;rw [dw] at this;rw [this];exact ai hc3
   have hm0:m*ie.size=0->m=0:=λh0=>by
    rcases Nat.mul_eq_zero.1 h0 with h| h;exact h
    .rw [h] at Aa;simpa using Aa
   split at h;cases h
   .rename_i cs hf;obtain ⟨tF,h1,h2⟩:=xj hf hp (xZ hzc m);have Eg:(parts.map λ(i,x)=>(i,a.eval x)).toList=parts.toList.map λq=>(q.1,a.eval q.2):=by rw [Array.toList_map]
    have hr:(Instr.buildSlice t m (parts.map λ(i,x)=>(i,a.eval x))).run X.P w= .ok (.slice (some ⟨w.heap.size,0,none⟩) m m) (w.alloc (.cells tF.toArray et)):=by
     by_cases h0:m*ie.size=0
     .obtain rfl:=hm0 h0;have h1':Instr.fill (λi=>some (i*ie.size,ie.size)) #[] (parts.toList.map λq=>(q.1,a.eval q.2))=some tF.toArray:=h1;have Az:(Array.map (λ(_:Nat)=>(default:Value)) (Array.range 0))= #[]:=by simp
      simp [Instr.buildSlice,run_underlying ht,sizeOf,typeInfo,kF,newRow,Az,h1']
     .refine run_buildSlice w t et m _ tF.toArray ie z0 ht kF Az (by omega) h0 ?_;rw [Eg];have sW:0< z0.cells.size:=by
       rw [hzs];rcases Nat.eq_zero_or_pos ie.size with h| h;rw [h] at h0;simp at h0;exact h
      have:=FV m z0.cells sW;rw [hzs] at this;rw [hzs,this];exact h1
    have gM:(execOp a.eval o).run X.P w= .ok (.value (.slice (some ⟨w.heap.size,0,none⟩) m m)) (w.alloc (.cells tF.toArray et)):=by
     simp only [execOp,ho,Sem.run_bind,hr,Result.andThen_ok];rfl
    obtain ⟨g',s',xK,m',S',h3,h⟩:=gN S h2 h;cases yR:MF e m xK with
    | none=>rw [yR] at h;exact h.elim
    | some xs=>
    rw [yR] at h;obtain ⟨css,h4,h5,h6⟩:=ME m yR h3;have H:=S'.sat.sl.new (xF.mk' w (.cells tF.toArray et));have J3:m<=maxLen:=by
     unfold maxLen;rcases Nat.eq_zero_or_pos ie.size with h| h;have:=hm0 (by rw [h];rfl);omega;have:=Nat.le_mul_of_pos_right m h;omega
    have H2:=ajj H h4 h5 h6 J3;refine ⟨_,_,gM,E++ [.slice (some ⟨w.heap.size,0,none⟩) m m],g',_,_,bz.app E _,m',S'.new (v:=.slice (some ⟨w.heap.size,0,none⟩) m m) (bA.refl g') ?_,(show dq _ g' (.c (.o s'.n)) _ from ⟨dZ S' _,_,_,_,rfl⟩),h⟩;exact H2.cE λk ⟨k1,k2,ap,q,s1,s2⟩=>⟨k1,k2,ap,q,⟨_,dZ S' _,s1⟩,s2⟩
theorem B0 {P:Program} {src dst e:TypeId} {z:ByteArray} (hs:P.underlying src=some .string) (hd:P.underlying dst=some (.slice e)) (he:P.underlying e=some (.int .u8)) (hz:z.size<=maxLen):
  ∃ v w',(convert src dst (.string z)).run P w= .ok v w'/\Le w w'/\oa .u8 (oM g w w') v z.data.toList:=by
 have hr:=run_bytes_of_string (P:=P) w src dst e z hs hd he;generalize hW:w.drew.alloc (.cells (bytesRow z (grownCap w z.size 0 e)) e ((bytesRow z (grownCap w z.size 0 e)).size,(bytesRow z (grownCap w z.size 0 e)).size+1))=w1 at hr;have hle:Le w w1:=by rw [<-hW];exact (Le.drew w).trans (xF.mk' w.drew _).le
 refine ⟨_,w1,hr,hle,?_⟩;have hlen:z.data.toList.length=z.size:=by rw [dw];rfl
 refine (dx (α:=UInt8)).2 (.inr ⟨⟨w.heap.size,0,none⟩,grownCap w z.size 0 e,by rw [hlen],by rw [hlen];exact grownCap_ge w z.size 0 e,grownCap_le_maxLen w z.size 0 e (by unfold maxLen at hz ⊢;omega),λi x hx=>⟨[.int .u8 x.toNat],λj c hj=>?_,rfl⟩⟩);rw [Addr.add_mid,GG _ (az _)]
 match j,hj with
 | 0,hj=>
  obtain rfl:c= .int .u8 x.toNat:=by simpa using hj.symm
  have hi:i< z.data.toList.length:=(av.1 hx).1;have hc:(bytesRow z (grownCap w z.size 0 e))[i]?=some (.int .u8 x.toNat):=by
   unfold bytesRow;have hi2:i< z.data.size:=by simpa using hi
   rw [ka (by simpa using hi2),Array.getElem?_map];have:z.data[i]?=some x:=by simpa using hx
   rw [this];rfl
  simp only [aO.size,Nat.mul_one,j4];have hh:w1.heap[w.heap.size]?=some (.cells (bytesRow z (grownCap w z.size 0 e)) e ((bytesRow z (grownCap w z.size 0 e)).size,(bytesRow z (grownCap w z.size 0 e)).size+1)):=by rw [<-hW];exact heap_alloc_new w.drew _
  unfold World.cell?;simp only [hh];rw [cd];exact hc
end
section
variable {P:Program} {W:cV} {g w w':World} {l:List Atom}
theorem SL.aim {b:Nat} {cs:Array Value} {t:TypeId} {r:Nat×Nat} (H:SL W g w (obj b (.cells cs t r)::l)):∃ g',bA g g'/\SL W g' w l/\(∀ i,g'.cell? ⟨b,i,none⟩=cs[i]?):=by
 obtain ⟨hW,hw,hn⟩:=H.Eh;obtain ⟨h,be,s,o,h1,h2,ap,rfl,s1,s2⟩:=H;have eJ:b< w.heap.size:=(aQ.1 hw).1;have m:bA g (rm g w.heap.size b (.cells cs t r)):=λa v hv=>by
  have gD:a.block≠b:=λe=>by rw [hn a e] at hv;cases hv
  rw [jJ s.size a gD];exact hv
 have hc:∀ (i:Nat) (sp),(rm g w.heap.size b (.cells cs t r)).cell? ⟨b,i,sp⟩=w.cell? ⟨b,i,sp⟩:=λi sp=>by
  unfold World.cell? rm;rw [hw];simp [eJ]
 refine ⟨rm g w.heap.size b (.cells cs t r),m,⟨h2,be,⟨⟨by simp [rm],λa v hv=>?_⟩,λa ha=>?_⟩,λk x hx=>?_,s2.mono m⟩,λi=>?_⟩
 .by_cases e:a.block=b
  .have:a=⟨b,a.off,a.spot⟩:=by cases a;simp_all
   rw [this] at hv ⊢;rw [hc] at hv;exact hv
  .rw [jJ s.size a e] at hv;exact s.mono a v hv
 .have gD:a.block≠b:=λe=>by
   have h1:W.n<=b:=hW;unfold cV.n at h1;omega
  rw [jJ s.size a gD];exact s.agr a ha
 .have h1k:h1 k=none:=by
   rcases ap k with e| e;exact e;rw [e] at hx;cases hx
  obtain ⟨o1,o2,o3⟩:=o k x (by rw [Hp.mq h1k];exact hx);refine ⟨o1,o2,λa ha=>?_⟩;have hkb:k≠b:=λe=>by
   subst e;rw [show h1 k=some _ from s1] at h1k;cases h1k
  rw [jJ s.size a (by rw [ha];exact hkb)];exact o3 a ha
 .rw [hc];unfold World.cell?;rw [hw];simp
theorem Ar {b n c:Nat} {cs:Array Value} {t e:TypeId} (hb:Hq w b cs e) (ht:P.underlying t=some (.slice e)) (he:P.underlying e=some (.int .u8)):
  ∃ w',(convert t t (.slice (some ⟨b,0,none⟩) n c)).run P w= .ok (.slice (some ⟨b,0,none⟩) n c) w'/\qo w b (.cells cs e (cs.size,cs.size+1)) w':=by
 have eJ:b< w.heap.size:=(aQ.1 hb).1;have hg:w.heap[b]= .cells cs e (0,0):=(aQ.1 hb).2;have hsh:w.shape? b=some (e,cs.size):=by
  unfold World.shape?;rw [show w.heap[b]?=some (.cells cs e (0,0)) from hb]
 refine ⟨w.freeze ⟨b,cs.size,none⟩ 1,?_,?_,eJ⟩;simp [convert,run_underlying ht,run_underlying he,markStringish,hsh]
 .unfold World.freeze;rw [if_neg (by decide)];congr 1;apply Array.ext
  .simp
  .intro i h1 h2;rw [Array.getElem_modify];by_cases h:b=i
   .subst h;simp [hg]
   .rw [if_neg h,Array.getElem_setIfInBounds_ne _ h]
end
section
variable {X:Vx} {n:Nat} {W:cV} {F:List Atom} {b:Bs} {E:Env} {g w:World} {s:Ov} {a:Act} {o:Oper}
theorem ac2 {α:Type} [aO α] {P:Program} {W:cV} {g w:World} {l:List Atom} {t e:TypeId} {v:Value} {xs:List α} (H:SL W g w (BN e v xs::l)) (hx:xs≠ []) (ht:P.underlying t=some (.slice e)) (he:P.underlying e=some (.int .u8)):
  ∃ w' g',(convert t t v).run P w= .ok v w'/\bA g g'/\SL W g' w' l/\Is g' v xs:=by
 obtain ⟨cs,r,H1⟩:=H.py;rcases H1.ofRow with ⟨rfl,hn,_,H2⟩| ⟨k,cap,cur,rfl,h1,h2,h3,h4,H2⟩;exact absurd (aK hn) hx
 .obtain ⟨w',hr,u⟩:=Ar (n:=xs.length) (c:=cap) (H2.pg 0) ht he;obtain ⟨g',m,H3,hc⟩:=(H2.BF 0 u).aim;refine ⟨w',g',hr,m,H3,dx.2 (.inr ⟨⟨k,0,none⟩,cap,rfl,h1,h2,λi x hx=>?_⟩)⟩;obtain ⟨c,hr2,Jn⟩:=r.get i x hx;refine ⟨c,λj v hj=>?_,aO.mono m hr2⟩;rw [Addr.add_mid,hc];have h5:=Jn j v hj;rw [<-h4,dO] at h5;split at h5
  .simpa using h5
  .cases h5
theorem X4 (S:dr n W F b E g w s a) {src dst e e0:TypeId} {l:Nat} {x:Operand} {K:SV->Ov->Prop} (ho:o.op= .convert src dst x) (hs:X.P.underlying src=some (.slice e0)) (hd:X.P.underlying dst=some (.slice e)) (r:cv E g (.o l) (a.eval x)) (h:adC X b s src dst e l K):
  ∃ v w',(execOp a.eval o).run X.P w= .ok (.value v) w'/\Out n W F b E g a K v w':=by
 unfold adC at h;obtain ⟨hsd,h1⟩:=dc h;clear h;have hsd:=ai hsd;subst hsd;cases he:X.P.underlying e with
 | none=>rw [he] at h1;exact h1.elim
 | some d=>
  rw [he] at h1;split at h1
  .rename_i hde;have hde:=aj hde;subst hde;cases eu:b.obj s l with
   | sl et ety xs=>
    rw [eu] at h1;simp only at h1;obtain ⟨het,h2⟩:=dc h1;clear h1;have het:=ai het;subst het;cases hy:zk .u8 xs with
    | none=>rw [hy] at h2;exact h2.elim
    | some ys=>
     rw [hy] at h2;obtain ⟨q,e1⟩:=eA hy;subst q;subst e1;obtain ⟨hx,hk⟩:=h2;letI:=Ty.u8.rep;obtain ⟨w',g',hr,m,H1,hi⟩:=ac2 (α:=Ty.u8.den) (jY S r.1 eu) hx hd he;exact ⟨_,w',by simp [execOp,ho,hr],E,g',s.dU l .gone,_,bz.refl E,m,S.back r.1 .gone m (H1.cE λk s2=>⟨λ_=>none,k,λ_=>.inl rfl,rfl,trivial,s2⟩),(show dq E g' (.c (.d .u8 _)) _ from hi),hk⟩
   | _=>rw [eu] at h1;exact h1.elim
  .exact h1.elim
theorem UU (S:dr n W F b E g w s a) {src dst:TypeId} {x:Operand} {c:SV} {K:SV->Ov->Prop} (ho:o.op= .convert src dst x) (r:dq E g c (a.eval x)) (h:oQ X b s src dst c K):
  ∃ v w',(execOp a.eval o).run X.P w= .ok (.value v) w'/\Out n W F b E g a K v w':=by
 have same:∀ {v:Value} {sv:SV},(convert src dst (a.eval x)).run X.P w= .ok v w->dq E g sv v->K sv s->∃ v w',(execOp a.eval o).run X.P w= .ok (.value v) w'/\Out n W F b E g a K v w':=λ{v sv} h1 h2 h3=>
  ⟨v,w,by simp [execOp,ho,h1],E,g,s,sv,bz.refl E,bA.refl g,S,h2,h3⟩
 unfold oQ at h;split at h
 .rename_i k1 k k' m hs hd;obtain ⟨hx,hm⟩:=ia r;have hr:(convert src dst (a.eval x)).run X.P w= .ok (.int k (k.wrap m)) w:=by
   simp [convert,hx,run_underlying hs,run_underlying hd,Conv.intToInt]
  split at h
  .rename_i hk;obtain rfl:=IntKind.eq_of_beq hk;rw [pL hm] at hr;exact same hr (dB hm) h
  .split at h
   .rename_i hw;have hn:=Es hw hm;rw [pL hn] at hr;exact same hr (dB hn) h
   .exact same hr (dB (ev _ _)) (h (ev _ _))
 .rename_i z hs hd;obtain ⟨hx,hz⟩:=r;refine same (v:=.string z) (sv:=.str z) (by simp [convert,hx,run_underlying hs,run_underlying hd]) ⟨rfl,hz⟩ h
 .rename_i k k1 m hs hd;obtain ⟨hx,_⟩:=ia r;obtain ⟨hl,h⟩:=h;refine same (v:=.string (Utf8.encode m)) (sv:=.str (Utf8.encode m)) ?_ ⟨rfl,hl⟩ h;simp [convert,hx,run_underlying hs,run_underlying hd,Conv.intToString]
 .rename_i e z hs hd;obtain ⟨hx,hz⟩:=r;split at h
  .rename_i he;obtain ⟨v,w',h1,h2,h3⟩:=B0 (P:=X.P) (g:=g) (w:=w) hs hd he hz;have m:=C4 S.sat.sl.uo h2;refine ⟨v,w',by simp [execOp,ho,hx,h1],E,oM g w w',s,_,bz.refl E,m,⟨S.size,S.defers,λt u hu=>(S.fr t u hu).mono (bz.refl E) m,⟨S.sat.sl.adg h2,S.sat.len⟩,S.top⟩,(show dq E _ (.c (.d .u8 z.data.toList)) v from h3),h⟩
  .cases h
 .rename_i e y hs hd;split at h
  .rename_i he;split at h
   .rename_i l hl;obtain ⟨_,hi⟩:=tV S r hl;have hr:=BV (l:=l) hi hs he hd;refine same hr (sv:=.str (gk l)) ⟨rfl,?_⟩ h;have:=lP hi;show (gk l).size<=maxLen;have e2:(gk l).size=l.length:=by simp [gk,ByteArray.size]
    rw [e2];exact this
   .cases h
  .cases h
 .rename_i hs hd;exact X4 S ho hs hd r h
 .cases h
theorem RZ {mn:Bool} {x y:Operand} {t u:TypeId} {c d:SV} {K:SV->Prop} (ho:o.op= .call {callee:=.builtin (if mn then .min else .max),args:= #[x,y],argTypes:= #[t,u]}) (rx:dq E g c (a.eval x)) (ry:dq E g d (a.eval y)) (h:mmV mn c d K):ER X.P o a w E g K:=by
 unfold mmV at h;split at h
 .rename_i k m k' m';obtain ⟨hx,h1⟩:=ia rx;obtain ⟨hy,h2⟩:=ia ry;obtain ⟨hk,h0⟩:=dc h;obtain rfl:=IntKind.eq_of_beq hk;have h3:∀ q,q=m\/q=m'->aI k q:=λq hq=>by rcases hq with rfl| rfl<;>assumption
  cases mn;exact ⟨_,_,amk ho hx hy,dB (h3 _ (by omega)),h0⟩;exact ⟨_,_,amj ho hx hy,dB (h3 _ (by omega)),h0⟩
 .cases h
end
section
variable {X:Vx} {n:Nat} {W:cV} {F F':List Atom} {b:Bs} {E:Env} {g g' w w':World} {s:Ov} {a:Act} {o:Oper}
theorem yX:∀ {A B:List Atom} {l:Nat},l< A.length->dD (A++B) l=dD A l++B
 | _::_,_,0,_=>rfl
 | x::A,B,l+1,h=>by
  show x::dD (A++B) l=x::(dD A l++B);rw [yX (by simpa using h)]
theorem GB (S:dr n W F b E g w s a) {l:Nat} {v:Value} (h:E[l]?=some v):l< (bh E 0 (b.heap s)).length:=by
 rw [uR,dQ];exact S.lt h
theorem dr.alU (S:dr n W F b E g w s a) {l:Nat} {v:Value} (h:E[l]?=some v) {A:Atom} (m:bA g g') (H:SL W g' w' (A::dD (bh E 0 (b.heap s)++F) l)):dr n W (A::F) b E g' w' (s.dU l .gone) a:=by
 have hl:=S.lt h;refine ⟨S.size,S.defers,λt v hv=>(S.fr t v hv).mono (bz.refl E) m,⟨?_,by rw [S.len,dQ];rfl⟩,λk hk=>?_⟩
 .rw [jv hl];refine H.cE λk s1=>?_;rw [yX (GB S h)] at s1;have s2:=bt.toEnd s1;have hn:wQ (bh E 0 (b.heap s)++(A::F)) l=some (cJ E l (b.obj s l)):=by
   have:=jP (E:=E) (F:=A::F) (k:=0) (eM (b:=b) hl)
   rwa [cd] at this
  have s3:bt g' (sK True::dD (bh E 0 (b.heap s)++(A::F)) l) k:=by
   rw [yX (GB S h)];exact ⟨λ_=>none,k,λ_=>.inl rfl,rfl,trivial,s2⟩
  have h3:=kQ (E:=E) (F:=A::F) (k:=0) (o':=.gone) (l:=l) (H:=b.heap s) (by rw [dQ];exact hl);rw [cd] at h3;rw [<-h3];exact bt.om hn s3
 .rw [jq,if_neg (by have:s.n<=k:=hk;omega)];exact S.top k hk
end
section
variable {X:Vx} {n:Nat} {W:cV} {F:List Atom} {b:Bs} {E:Env} {g w:World} {s:Ov} {a:Act} {o:Oper}
theorem AQ {P:Program} {t:TypeId} {k:Kk} (h:j7 P t k=true): @xH P t k.den k.key:=by
 unfold j7 at h;split at h
 .rename_i hu;exact wZ hu
 rename_i hu;exact YX hu;cases h
theorem adF {P:Program} {t:TypeId} {k:Kk} (h:ah3 P t=some k):j7 P t k=true:=by
 unfold ah3 at h;unfold j7;split at h
 .rename_i hu;cases h;rw [hu]
 rename_i hu;cases h;rw [hu];cases h
theorem CR:∀ {k:Kk} {c:Cl} {x:k.den} {u:Value},w8 k c=some x->cv E g c u->u= @dF.val k.den k.key x/\ @dF.ok k.den k.key x
 | .int,c,x,u,h,r=>by
  dsimp only [w8] at h;split at h
  .cases h;obtain ⟨rfl,h2⟩:=r;exact ⟨rfl,oK.1 h2⟩
  .cases h
 | .str,c,x,u,h,r=>by
  dsimp only [w8] at h;split at h
  .cases h;obtain ⟨rfl,h2⟩:=r;exact ⟨rfl,h2⟩
  .cases h
theorem ada {e:Ty} {v:S1} {x:e.den} {u:Value} (h:akR e v=true) (hu:bB E g v.cells u.cells.toList) (r:gw E g v u) {cs:List Cl} (xf:bB E g cs u.cells.toList) (ho:e.of cs=some (x,[])):IsV g e u x:=by
 obtain ⟨u1,u2,e1,h1,h2⟩:=of_cells e ho xf;obtain rfl:u2= []:=h2;rw [a7] at e1;subst e1;cases v with
 | agg l=>
  have h:e.row=true:=h;obtain ⟨us,_,rfl⟩:=r;refine ⟨_,h1,?_⟩;rw [if_pos h];rfl
 | c c=>
  have h:(!e.row)=true:=h;have hr:cv E g c u:=r;refine ⟨_,h1,?_⟩;rw [if_neg (by simpa using h),nS hr.one]
theorem ac9 {e:Ty} {x:e.den} {r:S1} {u:Value} (h:ahM e x=some r) (hv:IsV g e u x):gw E g r u/\e.ok x:=by
 obtain ⟨cs,h1,h2⟩:=hv;obtain ⟨h3,h4⟩:=eW E g e h1;refine ⟨?_,h4⟩;unfold ahM at h;split at h
 .rename_i hr;rw [if_pos hr] at h2;cases h;exact ⟨cs,h3,h2⟩
 .rename_i hr;rw [if_neg hr] at h2;split at h
  .rename_i c hc;cases h;rw [hc,h2] at h3;obtain ⟨u',r',e1,h5,h6⟩:=h3;obtain rfl:u=u':=by simpa using (List.cons.inj e1).1
   exact h5
  .cases h
theorem aeb {P:Program} {t:TypeId} {e:Ty} {x:e.den} (h:aiM P t e=some x):∃ z,(zeroValue t).run P w= .ok z w/\IsV g e z x:=by
 unfold aiM at h;split at h
 .rename_i i hi;split at h
  .rename_i z hz;split at h
   .rename_i hzo;split at h
    .rename_i zl Om;split at h
     .rename_i y hy;cases h;have hc:bB ([]:Env) g zl z.cells.toList:=k9 Om;obtain ⟨u1,u2,e1,h1,h2⟩:=of_cells e hy hc;obtain rfl:u2= []:=h2;rw [a7] at e1;refine ⟨z,?_,u1,h1,?_⟩
      .simp [zeroValue,typeInfo,hi,hz,go_sem]
      .unfold zOk at hzo;split at hzo
       .rename_i cs;rw [if_pos hzo,<-e1];show Value.agg cs= .agg cs.toList.toArray;simp
       .simp only [ao,bG] at hzo;rw [if_neg (by rw [hzo.1];simp),<-e1,nS hzo.2]
     .cases h
    .cases h
   .cases h
  .cases h
 .cases h
theorem CJ {k:Kk} {e:Ty} (x:k.den):∀ {l:List (k.den×Value)} {xs:List (k.den×e.den)},rH g k e l xs->match @iS k.den k.key _ l x,k.get xs x with
  | some u,some y=>IsV g e u y
  | none,none=>True
  | _,_=>False
 | [],xs,h=>by
  rw [show xs= [] from h];trivial
 | p::l,xs,⟨y,r,q,h1,h2⟩=>by
  letI:=k.key;subst q;have ih:=CJ x h2;have e1: @iS k.den k.key _ (p::l) x=if p.1=x then some p.2 else @iS k.den k.key _ l x:=by
   unfold iS;rw [List.find?_cons];by_cases e:p.1=x<;>simp [e]
  have e2:k.get ((p.1,y)::r) x=if p.1=x then some y else k.get r x:=by
   unfold Kk.get iS;rw [List.find?_cons];by_cases e:p.1=x<;>simp [e]
  rw [e1,e2];by_cases e:p.1=x;rw [if_pos e,if_pos e];exact h1;rw [if_neg e,if_neg e];exact ih
theorem Gj {k:Kk} {e:Ty} (x:k.den):∀ {l:List (k.den×Value)} {xs:List (k.den×e.den)},rH g k e l xs->rH g k e (@mJ k.den k.key _ l x) (k.del xs x)
 | [],xs,h=>by
  rw [show xs= [] from h];rfl
 | p::l,xs,⟨y,r,q,h1,h2⟩=>by
  letI:=k.key;subst q;have ih:=Gj x h2;unfold Kk.del mJ at ih ⊢;rw [lW,lW];by_cases e:p.1=x
  .simp only [e,decide_true,Bool.not_true,dP,if_false];exact ih
  .simp only [e,decide_false,Bool.not_false,if_true];exact ⟨y,_,rfl,h1,ih⟩
theorem OU {t:TypeId} {x:Operand} {c:Cl} {K:SV->Prop} (ho:o.op= .makeInterface t x) (rx:cv E g c (a.eval x)) (h:PT X.P t c K):ER X.P o a w E g K:=by
 unfold PT at h;split at h;cases h
 .rename_i d gD hd;refine ⟨.iface t (a.eval x),.c (.DP t c),?_,⟨a.eval x,rx,rfl⟩,h⟩;have:(Instr.makeInterface t (a.eval x)).run X.P w= .ok (.iface t (a.eval x)) w:=by
   cases d<;>first| (exact (gD _ rfl).elim)| simp [Instr.makeInterface,run_underlying hd]
  simp [execOp,ho,this]
 .cases h
theorem J6 {t:TypeId} {z:SV} (h:zeroV X.P t=some z):∃ v,(zeroValue t).run X.P w= .ok v w/\dq E g z v:=by
 unfold zeroV at h;split at h
 .rename_i i hi;split at h
  .rename_i z0 hz;exact ⟨z0,by simp [zeroValue,typeInfo,hi,hz,go_sem],GS h⟩
  .cases h
 .cases h
theorem L1 {t t0:TypeId} {x:Operand} {c:Cl} {K:SV->Prop} (ho:o.op= .typeAssert x t0 t true) (rx:cv E g c (a.eval x)) (h:JL X.P t c K):ER X.P o a w E g K:=by
 unfold JL at h;split at h;cases h
 .rename_i d gD hd;have two:∀ {z:S1} {v:Value} {q:Bool},gw E g z v->dq E g (.cZ [z,.c (.k (.bool q))]) (.tuple #[v,.bool q]):=λ{z v q} r=>⟨[v,.bool q],⟨_,_,rfl,r,_,[],rfl,⟨rfl,rfl⟩,rfl⟩,rfl⟩;split at h
  .rename_i t' c';obtain ⟨v,h1,h2⟩:=rx;split at h
   .rename_i ht;obtain rfl:=ai ht;refine ⟨.tuple #[v,.bool true],_,?_,two (z:=.c c') h1,h⟩;have:(Instr.typeAssert (.iface t' v) t0 t' true).run X.P w= .ok (.tuple #[v,.bool true]) w:=by
     cases d<;>first| (exact (gD _ rfl).elim)| simp [Instr.typeAssert,run_underlying hd]
    simp [execOp,ho,h2,this]
   .rename_i ht;have anW:¬t'=t:=λe=>ht (by subst e;simp);split at h
    .rename_i z hz;obtain ⟨u,hu,hr⟩:=J6 (w:=w) (E:=E) (g:=g) hz;refine ⟨.tuple #[u,.bool false],_,?_,two hr,h⟩;have:(Instr.typeAssert (.iface t' v) t0 t true).run X.P w= .ok (.tuple #[u,.bool false]) w:=by
      cases d<;>first| (exact (gD _ rfl).elim)| simp [Instr.typeAssert,run_underlying hd,anW,hu]
     simp [execOp,ho,h2,this]
    .cases h
  .obtain ⟨hx,_⟩:=rx;split at h
   .rename_i z hz;obtain ⟨u,hu,hr⟩:=J6 (w:=w) (E:=E) (g:=g) hz;refine ⟨.tuple #[u,.bool false],_,?_,two hr,h⟩;have:(Instr.typeAssert .nilIface t0 t true).run X.P w= .ok (.tuple #[u,.bool false]) w:=by
     cases d<;>first| (exact (gD _ rfl).elim)| simp [Instr.typeAssert,run_underlying hd,hu]
    simp [execOp,ho,hx,this]
   .cases h
  .cases h
 .cases h
theorem L3 {t t0:TypeId} {x:Operand} {c:Cl} {K:SV->Prop} (ho:o.op= .typeAssert x t0 t false) (rx:cv E g c (a.eval x)) (h:JM X.P t c K):ER X.P o a w E g K:=by
 unfold JM at h;split at h;cases h
 .rename_i d gD hd;split at h
  .rename_i t' c';obtain ⟨v,h1,h2⟩:=rx;split at h
   .rename_i ht;obtain rfl:=ai ht;refine ⟨v,.c c',?_,h1,h⟩;have:(Instr.typeAssert (.iface t' v) t0 t' false).run X.P w= .ok v w:=by
     cases d<;>first| (exact (gD _ rfl).elim)| simp [Instr.typeAssert,run_underlying hd]
    simp [execOp,ho,h2,this]
   .cases h
  .cases h
 .cases h
theorem HS (S:dr n W F b E g w s a) {t:TypeId} {K:SV->Ov->Prop} (ho:o.op= .makeMap t none) (h:CK X s t K):∃ v w',(execOp a.eval o).run X.P w= .ok (.value v) w'/\Out n W F b E g a K v w':=by
 unfold CK at h;split at h
 .rename_i k et ht;split at h
  .rename_i kk e hk he;letI:=kk.key;refine ⟨_,_,zp ho,_,g,_,_,bz.app E [ptr w.heap.size 0],bA.refl g,S.new (v:=ptr w.heap.size 0) (bA.refl g) ?_,(show dq _ g (.c (.m s.n)) _ from ⟨w.heap.size,dZ S _,rfl⟩),h⟩;have H:=S.sat.sl.PH (P:=X.P) (k:=k) (κ:=kk.den) (xF.mk' w (.map #[] 0));exact H.cE λq ⟨k1,k2,ap,q2,s1,s2⟩=>⟨k1,k2,ap,q2,⟨w.heap.size,[],dZ S _,rfl,X.P,adF hk,s1⟩,s2⟩
  .split at h
   .rename_i q hk3 _;refine ⟨_,_,zp ho,_,g,_,_,bz.app E [ptr w.heap.size 0],bA.refl g,S.new (v:=ptr w.heap.size 0) (bA.refl g) ?_,(show dq _ g (.c (.m s.n)) _ from ⟨w.heap.size,dZ S _,rfl⟩),h⟩;have H:=S.sat.sl.PH (P:=X.P) (k:=k) (κ:=K3) (xF.mk' w (.map #[] 0));exact H.cE λq ⟨k1,k2,ap,q2,s1,s2⟩=>⟨k1,k2,ap,q2,⟨_,dZ S _,(w.heap.size,X.P),λ_=>none,k1,λ_=>.inl rfl,rfl,⟨rfl,hk3⟩,k1,λ_=>none,λ_=>.inr rfl,by funext z;unfold Hp.join;cases k1 z<;>rfl,s1,trivial⟩,s2⟩
   .split at h
    .rename_i tR e _;have hQ:=dc h;obtain ⟨hk,h⟩:=hQ;refine ⟨_,_,zp ho,_,g,_,_,bz.app E [ptr w.heap.size 0],bA.refl g,S.new (v:=ptr w.heap.size 0) (bA.refl g) ?_,(show dq _ g (.c (.m s.n)) _ from ⟨w.heap.size,dZ S _,rfl⟩),h⟩;have H:=S.sat.sl.PH (P:=X.P) (k:=k) (κ:=Int) (xF.mk' w (.map #[] 0));exact H.cE λq ⟨k1,k2,ap,q2,s1,s2⟩=>⟨k1,k2,ap,q2,⟨_,dZ S _,(w.heap.size,X.P),λ_=>none,k1,λ_=>.inl rfl,rfl,⟨rfl,lO hk⟩,k1,λ_=>none,λ_=>.inr rfl,by funext z;unfold Hp.join;cases k1 z<;>rfl,s1,trivial⟩,s2⟩
    .cases h
 .cases h
theorem PA {t:TypeId} (h:IY X.P t=true):(zeroValue t).run X.P w= .ok (.pointer none) w:=by
 unfold IY at h;split at h
 .rename_i i hi;split at h
  .rename_i hz;simp [zeroValue,typeInfo,hi,hz,go_sem]
  .cases h
 .cases h
theorem LV (S:dr n W F b E g w s a) {t:TypeId} {x y:Operand} {c:Bool} {mx ky:Cl} {K:SV->Prop} (ho:o.op= .lookup t x y c) (rx:cv E g mx (a.eval x)) (ry:cv E g ky (a.eval y)) (h:I0 X b s t mx ky c K):ER X.P o a w E g K:=by
 unfold I0 at h;split at h
 .rename_i k et ht;split at h
  .rename_i l;obtain ⟨bb,hE,hx⟩:=rx;split at h
   .rename_i k' kk e xs eu;obtain ⟨hk,h5⟩:=dc h;rw [ao] at hk;obtain ⟨rU,qS⟩:=hk;obtain rfl:=ai rU;split at h5
    .rename_i z q hz hq;have h6:=h5;split at h6
     .rename_i r hr;obtain ⟨m,h1,H⟩:=QL S hE eu qS;letI:=kk.key;obtain ⟨hy,xd⟩:=CR hq ry;obtain ⟨zv,hzr,hzi⟩:=aeb (w:=w) (g:=g) hz;have hl:=H.adB c (AQ qS) ht hzr q xd;have hf:=CJ (e:=e) q h1;have hv:IsV g e ((iS m q).getD zv) ((kk.get xs q).getD z)/\(iS m q).isSome=(kk.get xs q).isSome:=by
       revert hf;cases iS m q<;>cases kk.get xs q<;>intro hf;exact ⟨hzi,rfl⟩;exact hf.elim;exact hf.elim;exact ⟨hf,rfl⟩
      obtain ⟨h2,h3⟩:=ac9 (E:=E) hr hv.1;have hK:=h6 h3;refine ⟨_,_,xD ho hx hy hl,?_,hK⟩;cases c with
      | true=>
       refine ⟨[_,_],⟨_,_,rfl,h2,_,[],rfl,?_,rfl⟩,rfl⟩;rw [hv.2];exact (show gw E g (.c (.k (.bool _))) _ from ⟨rfl,rfl⟩)
      | false=>exact h2
     .exact h6.elim
    .exact h5.elim
   .cases h
  .cases h
 .cases h
theorem zK (S:dr n W F b E g w s a) {t:TypeId} {x y z:Operand} {mx ky:Cl} {v:S1} {K:Ov->Prop} (ho:o.op= .mapUpdate t x y z) (rx:cv E g mx (a.eval x)) (ry:cv E g ky (a.eval y)) (rz:gw E g v (a.eval z)) (h:wU X b s t mx ky v K):
  ∃ w',(execOp a.eval o).run X.P w= .ok .skip w'/\∃ g' s',bA g g'/\dr n W F b E g' w' s' a/\K s':=by
 unfold wU at h;split at h
 .rename_i k et ht;split at h
  .rename_i l;obtain ⟨bb,hE,hx⟩:=rx;obtain ⟨g1,s1,cs,m1,S1,xf,h⟩:=gN S rz.cells h;split at h
   .rename_i k' kk e xs eu;obtain ⟨hk,h5⟩:=dc h;simp only [ao] at hk;obtain ⟨⟨rU,qS⟩,hk3⟩:=hk;obtain rfl:=ai rU;split at h5
    .rename_i q x' hq hof;obtain ⟨hlen,h6⟩:=h5;obtain ⟨m,h1,H⟩:=QL S1 hE eu qS;letI:=kk.key;obtain ⟨hy,xd⟩:=CR hq ry;obtain ⟨w',hr,H2⟩:=H.PG (AQ qS) ht (by rw [h1.length];exact hlen) q xd (a.eval z);have hiv:IsV g1 e (a.eval z) x':=ada (E:=E) hk3 (rz.cells.mono (bz.refl E) m1) (rz.mono (bz.refl E) m1) xf hof;have S2:dr n W F b E g1 w' (s1.dU l (.map k kk e (kk.put xs q x'))) a:=S1.back hE _ (bA.refl g1) (H2.cE λq0 ⟨k1,k2,ap,q2,s1',s2⟩=>⟨k1,k2,ap,q2,(show (cJ E l (.map k kk e (kk.put xs q x'))).sat g1 k1 from ⟨bb,qP m q (a.eval z),hE,⟨x',kk.del xs q,rfl,hiv,Gj q h1⟩,X.P,qS,s1'⟩),s2⟩);exact ⟨w',N8 ho hx hy rfl hr,g1,_,m1,S2,h6⟩
    .exact h5.elim
   .cases h
  .cases h
 .cases h
theorem LZ (S:dr n W F b E g w s a) {t:TypeId} {x y z:Operand} {mx ky:Cl} {v:S1} {K:Ov->Prop} (ho:o.op= .insert t x y z) (rx:cv E g mx (a.eval x)) (ry:cv E g ky (a.eval y)) (rz:gw E g v (a.eval z)) (h:wU X b s t mx ky v K):
  ∃ w',(execOp a.eval o).run X.P w= .ok .skip w'/\∃ g' s',bA g g'/\dr n W F b E g' w' s' a/\K s':=by
 obtain ⟨w',h1,h2⟩:=zK (o:= {o with op:=.mapUpdate t x y z}) S rfl rx ry rz h;exact ⟨w',by rw [<-h1];simp [execOp,ho],h2⟩
end
def bE (E:Env) (g:World):List SV->List Value->Prop
 | [],us=>us= []
 | c::l,us=>∃ u r,us=u::r/\dq E g c u/\bE E g l r
def WpW (W:cV) (P:Program) (f:FuncId) (args:List SV) (H:List HO) (Q:SV->List HO->Prop):Prop:=
 ∀ (g w:World) (E:Env) (F:List Atom) (vs:List Value),Sat W E g w H F->bE E g args vs->
  Ho P f vs.toArray w λv w'=>∃ E' g' sv H',bz E E'/\bA g g'/\Sat W E' g' w' H' F/\dq E' g' sv v/\Q sv H'
def Wp (I:cV->Prop) (P:Program) (f:FuncId) (args:List SV) (H:List HO) (Q:SV->List HO->Prop):Prop:=∀ W,I W->WpW W P f args H Q
section
variable {W:cV} {F:List Atom} {E E':Env} {g w:World}
def mM (r:Nat->Option Nat) (E E':Env):Prop:=∀ l l' v,r l=some l'->E[l]?=some v->E'[l']?=some v
mutual
theorem cv.fw {r:Nat->Option Nat} (hr:mM r E E'):∀ {c:Cl} {u:Value},cv E g c u->cv E' g (c.fw r) u
 | .k _,_,h=>h
 | .d _ _,_,h=>h
 | .de _ _ _ _,_,h=>h
 | .JY,_,h=>h
 | .p l off,u,h=>by
  have h1:=cv.one h;obtain ⟨b,h2,h3⟩:=h;unfold Cl.fw;cases hl:r l with
  | none=>exact h1
  | some l'=>exact ⟨b,hr _ _ _ hl h2,h3⟩
 | .o l,u,h=>by
  have h1:=cv.one h;obtain ⟨h2,h3⟩:=h;unfold Cl.fw;cases hl:r l with
  | none=>exact h1
  | some l'=>exact ⟨hr _ _ _ hl h2,h3⟩
 | .os l sz lo hi,u,h=>by
  have h1:=cv.one h;obtain ⟨v,h2,h3⟩:=h;unfold Cl.fw;cases hl:r l with
  | none=>exact h1
  | some l'=>exact ⟨v,hr _ _ _ hl h2,h3⟩
 | .oe l sz i off,u,h=>by
  have h1:=cv.one h;obtain ⟨v,h2,h3⟩:=h;unfold Cl.fw;cases hl:r l with
  | none=>exact h1
  | some l'=>exact ⟨v,hr _ _ _ hl h2,h3⟩
 | .m l,u,h=>by
  have h1:=cv.one h;obtain ⟨b,h2,h3⟩:=h;unfold Cl.fw;cases hl:r l with
  | none=>exact h1
  | some l'=>exact ⟨b,hr _ _ _ hl h2,h3⟩
 | .sc l off n,u,h=>by
  have h1:=cv.one h;obtain ⟨b,c,h2,h3⟩:=h;unfold Cl.fw;cases hl:r l with
  | none=>exact h1
  | some l'=>exact ⟨b,c,hr _ _ _ hl h2,h3⟩
 | .kl l v,u,h=>by
  have h1:=cv.one h;obtain ⟨⟨x,h2⟩,h3⟩:=h;unfold Cl.fw;cases hl:r l with
  | none=>exact h1
  | some l'=>exact ⟨⟨x,hr _ _ _ hl h2⟩,h3⟩
 | .fn f caps,_,⟨us,h1,h2⟩=>⟨us,bB.fw hr h1,h2⟩
 | .DP t c,_,⟨v,h1,h2⟩=>⟨v,cv.fw hr h1,h2⟩
theorem bB.fw {r:Nat->Option Nat} (hr:mM r E E'):∀ {l:List Cl} {us:List Value},bB E g l us->bB E' g (Cl.wB r l) us
 | [],_,h=>h
 | _::_,_,⟨u,q,e,h1,h2⟩=>⟨u,q,e,cv.fw hr h1,bB.fw hr h2⟩
end
theorem gw.fw {r:Nat->Option Nat} (hr:mM r E E'):∀ {x:S1} {u:Value},gw E g x u->gw E' g (x.fw r) u
 | .c _,_,h=>cv.fw hr h
 | .agg _,_,⟨us,h1,h2⟩=>⟨us,bB.fw hr h1,h2⟩
theorem ic.fw {r:Nat->Option Nat} (hr:mM r E E'):∀ {l:List S1} {us:List Value},ic E g l us->ic E' g (S1.wB r l) us
 | [],_,h=>h
 | _::_,_,⟨u,q,e,h1,h2⟩=>⟨u,q,e,gw.fw hr h1,ic.fw hr h2⟩
theorem dq.fw {r:Nat->Option Nat} (hr:mM r E E'):∀ {x:SV} {u:Value},dq E g x u->dq E' g (x.fw r) u
 | .v _,_,h=>gw.fw hr h
 | .cZ _,_,⟨us,h1,h2⟩=>⟨us,ic.fw hr h1,h2⟩
 | .any,_,_=>trivial
 | .arr _ _,_,h=>h
theorem bE.fw {r:Nat->Option Nat} (hr:mM r E E'):∀ {l:List SV} {us:List Value},bE E g l us->bE E' g (l.map (·.fw r)) us
 | [],_,h=>h
 | _::_,_,⟨u,q,e,h1,h2⟩=>⟨u,q,e,dq.fw hr h1,bE.fw hr h2⟩
theorem cJ.fw {r:Nat->Option Nat} (hr:mM r E E') {l l':Nat} (hl:r l=some l'):∀ {o:HO} {h:Hp},(cJ E l o).sat g h->(cJ E' l' (o.fw r)).sat g h
 | .cells _ _,_,⟨b,us,h1,h2,h3⟩=>⟨b,us,hr _ _ _ hl h1,bB.fw hr h2,h3⟩
 | .sl _ _ _,_,⟨v,h1,h2⟩=>⟨v,hr _ _ _ hl h1,h2⟩
 | .held _ _ _,_,⟨v,h1,h2⟩=>⟨v,hr _ _ _ hl h1,h2⟩
 | .map ..,_,⟨b,m,h1,h2⟩=>⟨b,m,hr _ _ _ hl h1,h2⟩
 | .abs _,_,⟨v,h1,h2⟩=>⟨v,hr _ _ _ hl h1,h2⟩
 | .ab _,_,⟨v,h1,h2⟩=>⟨v,hr _ _ _ hl h1,h2⟩
 | .gone,_,h=>h
 | .qk k n,_,⟨v,vn,h1,h2,h3⟩=>by
  cases hn:r n with
  | none=>
   have e:(HO.qk k n).fw r= .gone:=by simp only [HO.fw,hn]
   rw [e];trivial
  | some n'=>
   have e:(HO.qk k n).fw r= .qk k n':=by simp only [HO.fw,hn]
   rw [e];exact ⟨v,vn,hr _ _ _ hl h1,hr _ _ _ hn h2,h3⟩
theorem bt.under {A:List Atom} {X Y:List Atom} (k:∀ h,bt g X h->bt g Y h):∀ {h:Hp},bt g (A++X) h->bt g (A++Y) h:=by
 induction A with
 | nil=>exact λs=>k _ s
 | cons a A ih=>exact λ⟨h1,h2,ap,e,s1,s2⟩=>⟨h1,h2,ap,e,s1,ih s2⟩
theorem bt.comm:∀ {A B:List Atom} {h:Hp},bt g (A++(B++F)) h->bt g (B++(A++F)) h
 | _,[],_,s=>s
 | A,b::B,_,s=>by
  obtain ⟨h1,h2,ap,e,s1,s2⟩:=bt.pc (A:=A) (F:=B++F) s;exact ⟨h1,h2,ap,e,s1,bt.comm s2⟩
theorem bt.r5 {H:List HO} {l:Nat} {o:HO} (ho:H[l]?=some o) {h:Hp} (s:bt g (bh E 0 H++F) h):bt g (cJ E l o::(bh E 0 (H.set l .gone)++F)) h:=by
 have hn:=jP (E:=E) (F:=F) (k:=0) ho;rw [cd] at hn;obtain ⟨h1,h2,ap,e,s1,s2⟩:=bt.pick hn s;refine ⟨h1,h2,ap,e,s1,?_⟩;have h3:=kQ (E:=E) (F:=F) (k:=0) (o':=.gone) (av.1 ho).1;rw [cd] at h3;rw [<-h3];exact bt.om hn ⟨λ_=>none,h2,λ_=>.inl rfl,by funext b;rfl,trivial,s2⟩
theorem bt.D8 {H:List HO} {l:Nat} {o:HO} (hl:l< H.length) {h:Hp} (s:bt g (cJ E l o::(bh E 0 H++F)) h):bt g (bh E 0 (H.set l o)++F) h:=by
 obtain ⟨h1,h2,ap,e,s1,s2⟩:=s;have hn:=jP (E:=E) (F:=F) (k:=0) (ak hl);rw [cd] at hn;have h3:=kQ (E:=E) (F:=F) (k:=0) (o':=o) hl;rw [cd] at h3;rw [<-h3];obtain ⟨k1,k2,ap2,e2,_,s3⟩:=bt.pick hn s2
 -- what stood there is let go
 have:bt g (dD (bh E 0 H++F) l) h2:=by
  rw [e2];have key:∀ {L:List Atom} {k1 k2:Hp},Hp.apart k1 k2->bt g L k2->bt g L (k1.join k2):=by
   intro L
   induction L with
   | nil=>intros;trivial
   | cons a L ih=>
    rintro k1 k2 ap ⟨m1,m2,ap3,e3,s4,s5⟩;subst e3;obtain ⟨a1,a2⟩:=Hp.eO.1 ap;refine ⟨m1,k1.join m2,Hp.eO.2 ⟨a1.symm,ap3⟩,?_,s4,ih a2 s5⟩;rw [<-Hp.join_assoc,Hp.join_comm a1,Hp.join_assoc]
  exact key ap2 s3
 exact bt.om hn ⟨h1,h2,ap,e,s1,this⟩
def iJ (H:List HO):List Nat->List HO
 | []=>H
 | l::r=>(iJ H r).set l .gone
theorem mI (H:List HO):∀ ls,(iJ H ls).length=H.length
 | []=>rfl
 | _::r=>by unfold iJ;rw [gJ,mI H r]
theorem gB {l:Nat}:∀ {ls:List Nat},ir l ls=true↔l∈ls
 | []=>by simp [ir]
 | m::r=>by
  unfold ir;by_cases e:l=m;subst e;simp
  .rw [ix e];simp [gB (ls:=r),e]
theorem jQ:∀ {ls:List Nat},ny ls=true↔ls.Nodup
 | []=>by simp [ny]
 | l::r=>by
  unfold ny;rw [ao,jQ (ls:=r),eD];constructor
  .rintro ⟨h1,h2⟩;refine ⟨λhm=>?_,h2⟩;rw [gB.2 hm] at h1;cases h1
  .rintro ⟨h1,h2⟩;refine ⟨?_,h2⟩;cases hm:ir l r with
   | false=>rfl
   | true=>exact absurd (gB.1 hm) h1
theorem Ab {H:List HO} {l:Nat}:∀ {ls:List Nat},l ∉ ls->(iJ H ls)[l]?=H[l]?
 | [],_=>rfl
 | m::r,h=>by
  unfold iJ;have h1:m≠l:=λe=>h (by simp [e]);rw [List.getElem?_set_ne h1,Ab (λq=>h (aG _ q))]
def XW (E:Env) (H:Nat->HO) (ls:List Nat):List Atom:=ls.map λl=>cJ E l (H l)
theorem bt.qw {H:List HO} {ob:Nat->HO}:∀ {ls:List Nat} {h:Hp},ls.Nodup->(∀ l∈ls,H[l]?=some (ob l))->bt g (bh E 0 H++F) h->bt g (bh E 0 (iJ H ls)++(XW E ob ls++F)) h
 | [],_,_,_,s=>s
 | l::r,_,hn,ho,s=>by
  rw [eD] at hn;have s1:=bt.qw hn.2 (λq hq=>ho q (aG _ hq)) s;have s2:=bt.r5 (F:=XW E ob r++F) (o:=ob l) (by rw [Ab hn.1];exact ho l (by simp)) s1;exact bt.toEnd s2
theorem bt.xT {ob:Nat->HO} {r:Nat->Option Nat} (hr:mM r E E') {X:List Atom}:∀ {ls:List Nat} {k:Nat} {h:Hp},(∀ i l,ls[i]?=some l->r l=some (k+i))->bt g (XW E ob ls++X) h->bt g (bh E' k (ls.map λl=>(ob l).fw r)++X) h
 | [],_,_,_,s=>s
 | l::ls,k,_,hi,⟨h1,h2,ap,e,s1,s2⟩=>⟨h1,h2,ap,e,cJ.fw hr (by have:=hi 0 l rfl;simpa using this) s1,bt.xT hr (k:=k+1) (λi m hm=>by
   have:=hi (i+1) m (by simpa using hm);rw [this];congr 1;omega) s2⟩
end
section
variable {W:cV} {F:List Atom} {b:Bs} {E E' E2:Env} {g w:World} {n:Nat} {a:Act} {s:Ov}
theorem LO {H:List HO} {l:Nat} {o:HO}:∀ {ls:List Nat},l ∉ ls->(iJ H ls).set l o=iJ (H.set l o) ls
 | [],_=>rfl
 | m::r,h=>by
  unfold iJ;have h1:m≠l:=λe=>h (by simp [e]);rw [<-LO (λq=>h (aG _ q)),List.set_comm _ _ h1]
theorem vI {ls0:List Nat} {n0:Nat} (hr:mM (kf ls0 n0) E2 E'):∀ {ls:List Nat} {H:List HO} {s:Ov} {k:Nat} {h:Hp},ls.Nodup->ls.length<=H.length->(∀ i l,ls[i]?=some l->kf ls0 n0 (k+i)=some l/\l< s.n)->(∀ i,kf ls0 n0 (k+ls.length+i)=some (s.n+i))->
  bt g (bh E2 k H++(bh E' 0 (iJ (b.heap s) ls)++F)) h->bt g (bh E' 0 (b.heap (fy ls0 n0 ls H s))++F) h
 | [],[],s,k,_,_,_,_,_,x=>x
 | l::ls,[],_,_,_,_,hl,_,_,_=>by simp at hl
 | l::ls,o::H,s,k,_,hn,hl,h1,h2,x=>by
  rw [eD] at hn;obtain ⟨q1,q2⟩:=h1 0 l rfl;obtain ⟨k1,k2,ap,e,s1,s2⟩:=x;have s3:=bt.toEnd (A:=bh E2 (k+1) H) (F:=bh E' 0 (iJ (b.heap s) (l::ls))++F) ⟨k1,k2,ap,e,cJ.fw hr q1 s1,s2⟩;have s4:=bt.under (A:=bh E2 (k+1) H) (λh=>bt.D8 (by rw [mI,dQ];exact q2)) s3;have e1:(iJ (b.heap s) (l::ls)).set l (o.fw (kf ls0 n0))=iJ (b.heap (s.dU l (o.fw (kf ls0 n0)))) ls:=by
   rw [jv q2,<-LO hn.1];show ((iJ (b.heap s) ls).set l HO.gone).set l _=_;rw [List.set_set]
  rw [e1] at s4;exact vI hr (s:=s.dU l (o.fw (kf ls0 n0))) hn.2 (by simpa using hl) (λi m hm=>by
   have:=h1 (i+1) m (by simpa using hm);rw [show k+(i+1)=k+1+i by omega] at this;exact this) (λi=>by
   have:=h2 i;rw [aq] at this;rw [show k+1+ls.length+i=k+(ls.length+1)+i by omega];exact this) s4
 | [],o::H,s,k,_,hn,hl,h1,h2,x=>by
  obtain ⟨k1,k2,ap,e,s1,s2⟩:=x;have q:=h2 0;simp only [aL,j4] at q;have s3:=bt.toEnd (A:=bh E2 (k+1) H) (F:=bh E' 0 (b.heap s)++F) ⟨k1,k2,ap,e,cJ.fw hr q s1,s2⟩;have s4:=bt.under (A:=bh E2 (k+1) H) (λh (y:bt g (cJ E' s.n (o.fw (kf ls0 n0))::(bh E' 0 (b.heap s)++F)) h)=>by
   have:=bt.toEnd y;show bt g (bh E' 0 (b.heap s++ [o.fw (kf ls0 n0)])++F) h;rw [oT,cd,dQ,aH];exact this) s3
  refine vI hr (ls:=[]) (k:=k+1) (s:=s.new (o.fw (kf ls0 n0))) hn (cr _) (λi l h=>by simp at h) (λi=>?_) ?_
  .have:=h2 (i+1);simp only [aL,j4] at this ⊢;rw [show k+1+i=k+(i+1) by omega,this];congr 1;show s.n+(i+1)=s.n+1+i;omega
  .show bt g (bh E2 (k+1) H++(bh E' 0 (b.heap (s.new (o.fw (kf ls0 n0))))++F)) _;rw [ta];exact s4
theorem tX {ls0:List Nat} {n0:Nat}:∀ {ls:List Nat} {H:List HO} {s:Ov},(fy ls0 n0 ls H s).f=s.f
 | [],[],_=>rfl
 | _::_,[],_=>rfl
 | l::ls,o::H,s=>by
  show (fy ls0 n0 ls H (s.dU l _)).f=_;rw [tX];rfl
 | [],o::H,s=>by
  show (fy ls0 n0 [] H (s.new _)).f=_;rw [tX];rfl
theorem tW {ls0:List Nat} {n0:Nat}:∀ {ls:List Nat} {H:List HO} {s:Ov},ls.length<=H.length->(fy ls0 n0 ls H s).n=s.n+(H.length - ls.length)
 | [],[],s,_=>by simp [fy]
 | _::_,[],_,h=>by simp at h
 | l::ls,o::H,s,h=>by
  show (fy ls0 n0 ls H (s.dU l _)).n=_;rw [tW (by simpa using h)];show s.n+_=s.n+_;simp
 | [],o::H,s,_=>by
  show (fy ls0 n0 [] H (s.new _)).n=_;rw [tW (cr _)];show s.n+1+_=s.n+_;simp;omega
theorem sV {ls0:List Nat} {n0:Nat}:∀ {ls:List Nat} {H:List HO} {s:Ov},(∀ l∈ls,l< s.n)->(∀ l,s.n<=l->b.obj s l= .gone)->∀ l,(fy ls0 n0 ls H s).n<=l->b.obj (fy ls0 n0 ls H s) l= .gone
 | [],[],_,_,h=>h
 | _::_,[],_,_,h=>h
 | l::ls,o::H,s,hl,h=>by
  show ∀ q,(fy ls0 n0 ls H (s.dU l _)).n<=q->b.obj (fy ls0 n0 ls H (s.dU l _)) q= .gone;refine sV (λm hm=>hl m (by simp [hm])) λq hq=>?_;have SY:s.n<=q:=hq;rw [jq,if_neg (by have:=hl l (by simp);omega)];exact h q SY
 | [],o::H,s,hl,h=>by
  show ∀ q,(fy ls0 n0 [] H (s.new _)).n<=q->b.obj (fy ls0 n0 [] H (s.new _)) q= .gone;refine sV (λm hm=>by simp at hm) λq hq=>?_;have SY:s.n+1<=q:=hq;rw [tT,if_neg (by omega)];exact h q (by omega)
theorem oL:∀ {ls:List Nat} {l i:Nat},iw ls l=some i->ls[i]?=some l
 | [],_,_,h=>by cases h
 | m::r,l,i,h=>by
  unfold iw at h;by_cases e:m=l
  .subst e;have:i=0:=by simpa using h.symm
   subst this;rfl
  .rw [ix e] at h;simp only [cond_false] at h;split at h
   .rename_i j hj;obtain rfl:=aj h;simpa using oL hj
   .cases h
theorem qj:∀ {ls:List Nat},ls.Nodup->∀ {i l:Nat},ls[i]?=some l->iw ls l=some i
 | [],_,_,_,h=>by simp at h
 | m::r,hn,0,l,h=>by
  have:m=l:=by simpa using h
  subst this;simp [iw]
 | m::r,hn,i+1,l,h=>by
  rw [eD] at hn;have h':r[i]?=some l:=by simpa using h
  have gD:m≠l:=λe=>hn.1 (by rw [e];exact fc h');unfold iw;rw [ix gD];simp only [cond_false];rw [qj hn.2 h']
theorem Nn {p:Prop}:∀ {c:Cl} {u:Value},cv E g c u->GL c p->p:=by
 intro c u r h;unfold GL at h;split at h;exact h r.2;exact h r.2;exact h (lP r);exact h
theorem GK {p:Prop}:∀ {l:List Cl} {us:List Value},bB E g l us->C9 l p->p
 | [],_,_,h=>h
 | _::_,_,⟨_,_,_,h1,h2⟩,h=>GK h2 (Nn h1 h)
theorem Nk {p:Prop}:∀ {x:S1} {u:Value},gw E g x u->Nl x p->p
 | .c _,_,r,h=>Nn r h
 | .agg _,_,⟨_,r,_⟩,h=>GK r h
theorem GJ {p:Prop}:∀ {l:List S1} {us:List Value},ic E g l us->C7 l p->p
 | [],_,_,h=>h
 | _::_,_,⟨_,_,_,h1,h2⟩,h=>GJ h2 (Nk h1 h)
theorem Nj {p:Prop}:∀ {x:SV} {u:Value},dq E g x u->GI x p->p
 | .v _,_,r,h=>Nk r h
 | .cZ _,_,⟨_,r,_⟩,h=>GJ r h
 | .any,_,_,h=>h
 | .arr _ _,_,_,h=>h
theorem GH {p:Prop}:∀ {l:List SV} {us:List Value},bE E g l us->P9 l p->p
 | [],_,_,h=>h
 | _::_,_,⟨_,_,_,h1,h2⟩,h=>GH h2 (Nj h1 h)
theorem tJ {P:Program} {ct:FuncId->Ct} (jH:∀ f args H Q,ct f args H Q->WpW W P f args H Q) (S:dr n W F b E g w s a) {f:FuncId} {args:List SV} {vs:List Value} {K:SV->Ov->Prop} (hv:bE E g args vs) (h:Dk ct b s f args K):Ho P f vs.toArray w (Out n W F b E g a K):=by
 unfold Dk at h;simp only at h;generalize hls:sg (b.obj s) 1000 (qf args) []=ls at h;obtain ⟨C0,h⟩:=dc h;rw [ao,jQ] at C0;obtain ⟨hn,eJ⟩:=C0;have CX:∀ l∈ls,l< s.n:=λl hl=>by have:=bo.1 eJ l hl;simpa using this
 have hEl:∀ l∈ls,∃ v,E[l]?=some v:=λl hl=>⟨_,ak (by rw [S.len];exact CX l hl)⟩
 -- the callee's labels
 have vX:mM (iw ls) E (ls.map λl=>(E[l]?).getD undef):=λl l' v h1 h2=>by
  have:=oL h1;rw [cz,this];simp [h2]
 have xb:Sat W (ls.map λl=>(E[l]?).getD undef) g w (ls.map λl=>(b.obj s l).fw (iw ls)) (bh E 0 (iJ (b.heap s) ls)++F):=by
  refine ⟨S.sat.sl.cE λh0 x=>?_,by simp⟩;have x1:=bt.qw (ob:=b.obj s) hn (λl hl=>eM (CX l hl)) x;have x2:=bt.comm x1;exact bt.xT vX (k:=0) (λi l hi=>by rw [cd];exact qj hn hi) x2
 refine Ho.mono (jH _ _ _ _ h g w _ _ vs xb (bE.fw vX hv)) ?_;rintro v w' ⟨E2,g',sv,H',hle,hm,hs,hsv,h⟩;obtain ⟨hlen,h⟩:=dc h;have Zh:ls.length<=H'.length:=cK hlen;have hE2:E2.length=H'.length:=hs.len
 -- the caller's labels
 have kG:∀ l,kf ls s.n l=if l< ls.length then ls[l]? else some (s.n+(l - ls.length)):=λl=>by
  unfold kf;by_cases hl:l< ls.length;rw [if_pos hl,ak hl];rw [if_neg hl,dy (by omega)]
 have hr2:mM (kf ls s.n) E2 (E++E2.drop ls.length):=λl l' v h1 h2=>by
  rw [kG] at h1;by_cases hl:l< ls.length
  .rw [if_pos hl] at h1;have h3:l'< s.n:=CX l' (fc h1);obtain ⟨u,hu⟩:=hEl l' (fc h1);rw [aU (by rw [S.len];exact h3)];have:=hle l u (by rw [cz,h1];simp [hu]);rw [h2] at this;rw [hu,<-this]
  .rw [if_neg hl] at h1;obtain rfl:=aj h1;rw [aZ (by rw [S.len];omega),S.len,List.getElem?_drop,<-h2];congr 1;omega
 have S6:(E++E2.drop ls.length).length=s.n+(H'.length - ls.length):=by
  rw [af,S.len,aW,hE2]
 refine ⟨E++E2.drop ls.length,g',fy ls s.n ls H' s,sv.fw (kf ls s.n),bz.app E _,hm,⟨S.size,S.defers,λt u hu=>?_,⟨?_,?_⟩,?_⟩,dq.fw hr2 hsv,Nj hsv h⟩
 .have:b.slot (fy ls s.n ls H' s) t=b.slot s t:=by unfold Bs.slot;rw [tX]
  rw [this] at hu;exact (S.fr t u hu).mono (bz.app E _) hm
 .refine hs.sl.cE λh0 x=>?_;refine vI hr2 (k:=0) hn Zh (λi l hi=>⟨?_,CX l (fc hi)⟩) (λi=>?_) (bt.under (A:=bh E2 0 H') (λh=>bh.env (bz.app E _)) x)
  .rw [kG,cd,if_pos (av.1 hi).1,hi]
  .rw [kG,if_neg (by omega)];congr 1;omega
 .rw [S6,dQ,tW Zh]
 .exact sV CX S.top
theorem Da {p q:Prop} (k:p->q):∀ {c:Cl},GL c p->GL c q:=by
 intro c h;cases c with
 | k v=>cases v<;>first| exact k h| exact λe=>k (h e)
 | d e x=>exact λe=>k (h e)
 | _=>exact k h
theorem Ag {p q:Prop} (k:p->q):∀ {l:List Cl},C9 l p->C9 l q
 | [],h=>k h
 | _::_,h=>Da (Ag k) h
theorem C8 {p q:Prop} (k:p->q):∀ {x:S1},Nl x p->Nl x q
 | .c _,h=>Da k h
 | .agg _,h=>Ag k h
theorem Af {p q:Prop} (k:p->q):∀ {l:List S1},C7 l p->C7 l q
 | [],h=>k h
 | _::_,h=>C8 (Af k) h
theorem Qa {p q:Prop} (k:p->q):∀ {x:SV},GI x p->GI x q
 | .v _,h=>C8 k h
 | .cZ _,h=>Af k h
 | .any,h=>k h
 | .arr _ _,h=>k h
theorem X8 {ls:List Nat} {n0 l:Nat} (h:l∈ls):∃ i,iw ls l=some i/\kf ls n0 i=some l:=by
 have key:∀ {ls:List Nat},l∈ls->∃ i,iw ls l=some i:=λ{ls}=>by
  induction ls with
  | nil=>intro h;cases h
  | cons m r ih=>
   intro h;unfold iw;by_cases e:m=l;subst e;exact ⟨0,by simp⟩
   .rw [ix e];obtain ⟨i,hi⟩:=ih ((aX.1 h).resolve_left (Ne.symm e));exact ⟨i+1,by simp only [cond_false,hi]⟩
 obtain ⟨i,hi⟩:=key h;refine ⟨i,hi,?_⟩;unfold kf;rw [oL hi]
mutual
theorem Cl.wC {r1 r2:Nat->Option Nat}:∀ {c:Cl},(∀ l∈c.labels,∃ i,r1 l=some i/\r2 i=some l)->(c.fw r1).fw r2=c
 | .k _,_=>rfl
 | .d _ _,_=>rfl
 | .de _ _ _ _,_=>rfl
 | .JY,_=>rfl
 | .p l off,h=>by obtain ⟨i,h1,h2⟩:=h l (by simp [Cl.labels]);simp only [Cl.fw,h1,h2]
 | .o l,h=>by obtain ⟨i,h1,h2⟩:=h l (by simp [Cl.labels]);simp only [Cl.fw,h1,h2]
 | .os l _ _ _,h=>by obtain ⟨i,h1,h2⟩:=h l (by simp [Cl.labels]);simp only [Cl.fw,h1,h2]
 | .oe l _ _ _,h=>by obtain ⟨i,h1,h2⟩:=h l (by simp [Cl.labels]);simp only [Cl.fw,h1,h2]
 | .m l,h=>by obtain ⟨i,h1,h2⟩:=h l (by simp [Cl.labels]);simp only [Cl.fw,h1,h2]
 | .sc l _ _,h=>by obtain ⟨i,h1,h2⟩:=h l (by simp [Cl.labels]);simp only [Cl.fw,h1,h2]
 | .kl l _,h=>by obtain ⟨i,h1,h2⟩:=h l (by simp [Cl.labels]);simp only [Cl.fw,h1,h2]
 | .fn f caps,h=>by simp only [Cl.fw];rw [Cl.xX (l:=caps) λl hl=>h l (by simpa [Cl.labels] using hl)]
 | .DP t c,h=>by simp only [Cl.fw];rw [Cl.wC (c:=c) λl hl=>h l (by simpa [Cl.labels] using hl)]
theorem Cl.xX {r1 r2:Nat->Option Nat}:∀ {l:List Cl},(∀ x∈Cl.nM l,∃ i,r1 x=some i/\r2 i=some x)->Cl.wB r2 (Cl.wB r1 l)=l
 | [],_=>rfl
 | c::l,h=>by
  simp only [Cl.wB];rw [Cl.wC (c:=c) λx hx=>h x (by simp [Cl.nM,hx]),Cl.xX (l:=l) λx hx=>h x (by simp [Cl.nM,hx])]
end
theorem HO.wC {r1 r2:Nat->Option Nat}:∀ {o:HO},(∀ l∈o.labels,∃ i,r1 l=some i/\r2 i=some l)->(o.fw r1).fw r2=o
 | .cells t cs,h=>by
  show HO.cells t (Cl.wB r2 (Cl.wB r1 cs))=_;rw [Cl.xX (l:=cs) h]
 | .sl ..,_=>rfl
 | .held ..,_=>rfl
 | .map ..,_=>rfl
 | .abs _,_=>rfl
 | .ab _,_=>rfl
 | .gone,_=>rfl
 | .qk k n,h=>by
  obtain ⟨i,h1,h2⟩:=h n (aR.2 rfl);simp only [HO.fw,h1,h2]
theorem wX {ls0:List Nat} {n0:Nat} {g:Nat->HO} {s0:Ov}:∀ {ls:List Nat} {s:Ov},(∀ l,b.obj s l=b.obj s0 l)->(∀ l∈ls,(g l).fw (kf ls0 n0)=b.obj s0 l)->∀ l,b.obj (fy ls0 n0 ls (ls.map g) s) l=b.obj s0 l
 | [],_,h,_=>h
 | l::ls,s,h,hg=>wX (ls:=ls) (s:=s.dU l ((g l).fw (kf ls0 n0))) (λk=>by
   rw [jq];by_cases e:l=k;subst e;rw [if_pos rfl];exact hg l (by simp)
   .rw [if_neg e];exact h k) λk hk=>hg k (by simp [hk])
theorem X0 {p:Prop}:∀ {c d:Cl},X1 c d p->c=d/\p:=by
 intro c d h;unfold X1 at h;split at h;exact ⟨by rw [h.1],h.2⟩
 .obtain ⟨e,h⟩:=dc h;exact ⟨by rw [ai e],h⟩
 .obtain ⟨e,h⟩:=dc h;rw [ao] at e;exact ⟨by rw [ai e.1,ai e.2],h⟩
 .obtain ⟨e,h⟩:=dc h;exact ⟨by rw [ai e,h.1],h.2⟩
 .split at h
  .rename_i y' hy;obtain ⟨q,e1⟩:=eA hy;subst q;exact ⟨by rw [h.1,e1];rfl,h.2⟩
  .cases h
 .cases h
theorem FM {p:Prop}:∀ {l r:List Cl},OO l r p->l=r/\p
 | [],[],h=>⟨rfl,h⟩
 | c::l,d::r,h=>by
  obtain ⟨e1,h1⟩:=X0 h;obtain ⟨e2,h2⟩:=FM h1;exact ⟨by rw [e1,e2],h2⟩
 | [],_::_,h=>h.elim
 | _::_,[],h=>h.elim
theorem XY {p:Prop}:∀ {a b:HO},XZ a b p->a=b/\p:=by
 intro a b h;unfold XZ at h;split at h
 .obtain ⟨e,h⟩:=dc h;obtain ⟨e2,h⟩:=FM h;exact ⟨by rw [ai e,e2],h⟩
 .obtain ⟨e,h⟩:=dc h;split at h
  .rename_i y hy;obtain ⟨q,hq⟩:=eA hy;subst q;refine ⟨?_,h.2⟩;rw [ai e,h.1,hq];rfl
  .cases h
 exact ⟨rfl,h⟩;cases h
theorem FL {p:Prop}:∀ {l r:List HO},ON l r p->l=r/\p
 | [],[],h=>⟨rfl,h⟩
 | c::l,d::r,h=>by
  obtain ⟨e1,h1⟩:=XY h;obtain ⟨e2,h2⟩:=FL h1;exact ⟨by rw [e1,e2],h2⟩
 | [],_::_,h=>h.elim
 | _::_,[],h=>h.elim
theorem FQ {P:Program} {ct:FuncId->Ct} (jH:∀ f args H Q,ct f args H Q->WpW W P f args H Q) (S:dr n W F b E g w s a) {f:FuncId} {args:List SV} {vs:List Value} {K:SV->Ov->Prop} (hv:bE E g args vs) (h:Tl ct b s f args K):Ho P f vs.toArray w (Out n W F b E g a K):=by
 unfold Tl at h;simp only at h;generalize hls:sg (b.obj s) 1000 (qf args) []=ls at h;obtain ⟨C0,h⟩:=dc h;rw [ao] at C0;obtain ⟨hn,jI⟩:=C0;have eJ:∀ l∈ls,l< s.n/\∀ q∈(b.obj s l).labels,q∈ls:=λl hl=>by
  have:=bo.1 jI l hl;rw [ao] at this;exact ⟨by simpa using this.1,λq hq=>gB.1 (bo.1 this.2 q hq)⟩
 have h1:=jH _ _ _ _ h;have h2:Dk (λf args H Q=>WpW W P f args H Q) b s f args (λr s'=>s'=fy ls s.n ls (ls.map λl=>(b.obj s l).fw (iw ls)) s/\K r s):=by
  unfold Dk;simp only;rw [hls,if_pos (by rw [ao];exact ⟨hn,bo.2 λl hl=>by simpa using (eJ l hl).1⟩)];intro g0 w0 E0 F0 vs0 S0 SS;refine (h1 g0 w0 E0 F0 vs0 S0 SS).mono λv w' ⟨E',g',sv,H',a1,a2,a3,a4,q⟩=>⟨E',g',sv,H',a1,a2,a3,a4,?_⟩;obtain ⟨e,q2⟩:=FL q;subst e;rw [if_pos (by simp)];exact Qa (λhk=>⟨rfl,hk⟩) q2
 refine (tJ (ct:=λf args H Q=>WpW W P f args H Q) (λ_ _ _ _ h=>h) S hv h2).mono λv w' ⟨E',g',s',sv,a1,a2,S',a4,e,hk⟩=>⟨E',g',s,sv,a1,a2,?_,a4,hk⟩;subst e;have adQ:=wX (b:=b) (ls0:=ls) (n0:=s.n) (g:=λl=>(b.obj s l).fw (iw ls)) (s0:=s) (ls:=ls) (s:=s) (λ_=>rfl) λl hl=>HO.wC λq hq=>X8 ((eJ l hl).2 q hq);have hnn:(fy ls s.n ls (ls.map λl=>(b.obj s l).fw (iw ls)) s).n=s.n:=by rw [tW (by simp)];simp
 have alC:b.heap (fy ls s.n ls (ls.map λl=>(b.obj s l).fw (iw ls)) s)=b.heap s:=by
  unfold Bs.heap;rw [hnn];exact gH λl _=>adQ l
 refine ⟨S'.size,S'.defers,λt u hu=>S'.fr t u ?_,by rw [<-alC];exact S'.sat,S.top⟩;rw [<-hu];unfold Bs.slot;rw [tX]
theorem bE.app:∀ {l k:List SV} {us vs:List Value},bE E g l us->bE E g k vs->bE E g (l++k) (us++vs)
 | [],_,_,_,h,hk=>by rw [show _=_ from h];exact hk
 | _::_,_,_,_,⟨u,r,e,h1,h2⟩,hk=>by rw [e];exact ⟨u,r++_,rfl,h1,bE.app h2 hk⟩
theorem B5:∀ {l:List Cl} {us:List Value},bB E g l us->bE E g (l.map .c) us
 | [],_,h=>h
 | _::_,_,⟨u,r,e,h1,h2⟩=>⟨u,r,e,h1,B5 h2⟩
theorem tS (S:dr n W F b E g w s a):∀ {l:List Operand} {vs:List SV},Aw b s l=some vs->bE E g vs (l.map a.eval)
 | [],vs,h=>by
  obtain rfl: []=vs:=aj h;rfl
 | x::r,vs,h=>by
  unfold Aw at h;split at h
  .rename_i v hv;split at h
   .rename_i l hl;obtain rfl:v::l=vs:=aj h;exact ⟨_,_,rfl,S.fg hv,tS S hl⟩
   .cases h
  .cases h
theorem X5 {P:Program} {o:Oper} {c:Call} {fo:Operand} {f:FuncId} {us:Array Value} (ho:o.op= .call c) (hc:c.callee= .value fo) (hf:a.eval fo= .func (.func f) #[] us) (hk:qV P f=true):
  (execOp a.eval o).run P w= .ok (.enter f (c.args.map a.eval++us)) w:=by
 unfold qV at hk;split at hk
 .rename_i fn hfn;simp only [ao,bG] at hk;have h1:¬fn.name= "runtime.NumGoroutine" :=by simpa using hk.1
  have h2:¬fn.body=none:=λe=>by rw [e] at hk;cases hk.2
  simp only [execOp,ho,resolve,hc,hf,Deferred.ofValue,Array.empty_append];simp [invoke,callFunc,hfn,h1,h2,go_sem]
 .cases hk
end
theorem OS {P:Program} {t:TypeId} {name:String} {f:FuncId} {v:Value} {w:World} (k:Nat) (h:Sy P t name=some f):(method (k+1) t v name).run P w= .ok (f,v) w:=by
 unfold Sy at h;split at h
 .rename_i ti hti;split at h
  .rename_i m hm;split at h
   .rename_i hp;split at h
    .rename_i f' e hf hu;obtain rfl:=aj h;have hl:m.path.toList= []:=by
      have:m.path= #[]:=by simpa using hp
      rw [this]
     unfold method;simp [typeInfo,hti,hm,hl,hf,follow,receiverAt,Place.get,underlying,hu,go_sem]
    .cases h
   .cases h
  .cases h
 .cases h
theorem OT {P:Program} {a:Act} {w:World} {o:Oper} {c:Call} {ro:Operand} {name:String} {f:FuncId} {t:TypeId} {v:Value} (ho:o.op= .call c) (hc:c.callee= .invoke ro name) (hf:a.eval ro= .iface t v) (hm:Sy P t name=some f) (hk:qV P f=true):
  (execOp a.eval o).run P w= .ok (.enter f (#[v]++c.args.map a.eval)) w:=by
 unfold qV at hk;split at hk
 .rename_i fn hfn;simp only [ao,bG] at hk;have h1:¬fn.name= "runtime.NumGoroutine" :=by simpa using hk.1
  have h2:¬fn.body=none:=λe=>by rw [e] at hk;cases hk.2
  have hinv:∀ A:Array Value,A[0]?=some (.iface t v)->invoke (.fn (.method name) #[]) A=callMethod (.iface t v) name (A.extract 1 A.size):=λA hA=>by
   simp only [invoke,hA]
  have hx:(#[Value.iface t v]++c.args.map a.eval)[0]?=some (.iface t v):=by rw [ka (by simp)];rfl
  have hy:(#[Value.iface t v]++c.args.map a.eval).extract 1 (#[Value.iface t v]++c.args.map a.eval).size=c.args.map a.eval:=by apply Array.ext';simp [aV]
  have anJ:resolve a.eval c o.type=pure {target:=.fn (.method name) #[],args:= #[Value.iface t v]++c.args.map a.eval}:=by simp only [resolve,hc,hf]
  have hmm:=OS (w:=w) (v:=v) (P.types.size+99) hm;have fh:(callMethod (.iface t v) name (c.args.map a.eval)).run P w= .ok (.enter f (#[v]++c.args.map a.eval)) w:=by
   simp only [callMethod];show (do let p <-program;let z <-method (p.types.size+99+1) t v name;callFunc z.1 (#[z.2]++c.args.map a.eval):Sem Next).run P w=_
   simp [callFunc,hfn,h1,h2,go_sem,hmm]
  have he:execOp a.eval o=(do let d <-resolve a.eval c o.type;invoke d.target d.args):=by simp only [execOp,ho]
  rw [he,anJ];show (invoke (.fn (.method name) #[]) (#[Value.iface t v]++c.args.map a.eval)).run P w=_;rw [hinv _ hx,hy];exact fh
 .cases hk
section
variable {X:Vx} {n:Nat} {W:cV} {F:List Atom} {b:Bs} {E:Env} {g w:World} {s:Ov} {a:Act} {o:Oper}
theorem aji {c:Bool} {p q:Prop} (h:br c p q):(c=true/\p)\/(c=false/\q):=by
 cases c;exact .inr ⟨rfl,h⟩;exact .inl ⟨rfl,h⟩
theorem UR (S:dr n W F b E g w s a) {x:Operand} {c:Cl} {K:SV->Ov->Prop} (ho:o.op= .next x true) (r:cv E g c (a.eval x)) (h:YI b s c K):
  ∃ v w',(execOp a.eval o).run X.P w= .ok (.value v) w'/\Out n W F b E g a K v w':=by
 unfold YI at h;split at h
 .rename_i l;obtain ⟨bb,hE,hx⟩:=r;split at h
  .rename_i z p eu;have H0:=S.pick hE;rw [eu] at H0;obtain ⟨hz,H⟩:z.size<=maxLen/\SL W g w (obj bb (.stringIter z p)::dD (bh E 0 (b.heap s)++F) l):=by
    obtain ⟨k,be,se,ow,h1,h2,ap,q,⟨u,s1,hz,b',e1,s2⟩,s3⟩:=H0;refine ⟨hz,k,be,se,ow,h1,h2,ap,q,?_,s3⟩;rw [hE] at s1;obtain rfl:=aj s1;have:bb=b':=by simpa [ptr] using e1
    rw [this];exact s2
   have hk:=H.has 0;have AA:∀ {m:Nat},m<=9223372036854775807->aI .i64 (m:Int):=λ{m} h=>by
    show (-9223372036854775808:Int)<=m/\(m:Int)<=9223372036854775807;omega
   have h:(decide (p< z.size)=true/\_)\/(decide (p< z.size)=false/\_):=aji h;rcases h with ⟨e,h⟩| ⟨e,h⟩
   .have eJ:p< z.size:=by simpa using e
    have hr:=QI (P:=X.P) hk eJ ho hx;have hd:=decode_le z p;have H2:=SL.zF H (⟨rfl,(aQ.1 hk).1⟩:qo w bb (.stringIter z (p+(Utf8.decode z p).2)) _);refine ⟨_,_,hr,E,g,_,_,bz.refl E,bA.refl g,S.back hE (.ab (.iter z (p+(Utf8.decode z p).2))) (bA.refl g) (H2.cE λk ⟨k1,k2,ap,q,s1,s2⟩=>⟨k1,k2,ap,q,⟨_,hE,hz,_,rfl,s1⟩,s2⟩),?_,h⟩;refine ⟨_,⟨_,_,rfl,⟨rfl,rfl⟩,_,_,rfl,⟨rfl,AA ?_⟩,_,_,rfl,⟨rfl,?_⟩,rfl⟩,rfl⟩
    .unfold maxLen at hz;omega
    .show (-2147483648:Int)<=((Utf8.decode z p).1:Int)/\((Utf8.decode z p).1:Int)<=2147483647;omega
   .have hge:¬p< z.size:=by simpa using e
    exact ⟨_,_,Wa (P:=X.P) hk hge ho hx,E,g,s,.cZ [.c (.k (.bool false))],bz.refl E,bA.refl g,S,⟨_,⟨_,_,rfl,⟨rfl,rfl⟩,rfl⟩,rfl⟩,h⟩
  .cases h
 .cases h
theorem yZ:∀ {off m j:Nat} {cs xK:List Cl} {ys:List ByteArray} {us:List Value},vS off m j cs ys=some xK->(∀ y∈ys,y.size<=maxLen)->bB E g cs us->
  off+m<=us.length/\bB E g xK (us.take off++(((ys.drop j).take m).map Value.string++us.drop (off+((ys.drop j).take m).length)))
 | 0,0,j,cs,xK,ys,us,h,_,hc=>by
  simp only [vS,km] at h;subst h;simpa using hc
 | 0,m+1,j,c::r,xK,ys,us,h,hy,⟨u,q,e,h1,h2⟩=>by
  subst e;unfold vS at h;split at h
  .rename_i z;split at h
   .rename_i l hl;obtain rfl:=aj h;obtain ⟨h3,h4⟩:=yZ hl hy h2;refine ⟨by simp only [aq];omega,?_⟩;cases hj:ys[j]? with
    | some y=>
     have hd:ys.drop j=y::ys.drop (j+1):=by
      obtain ⟨eJ,e⟩:=av.1 hj;rw [bO eJ,e]
     rw [hd,List.take_succ_cons];simp only [List.take_zero,eE,cg,aq,Option.getD_some,eB,cd] at h4 ⊢;rw [List.drop_succ_cons];exact ⟨_,_,rfl,⟨rfl,hy y (fc hj)⟩,h4⟩
    | none=>
     have hlen:ys.length<=j:=by simpa using hj
     rw [eZ (by omega:ys.length<=j+1)] at h4;rw [eZ hlen];simp only [List.take_nil,List.map_nil,aL,List.take_zero,eE,j4,List.drop_zero,Option.getD_none] at h4 ⊢;obtain ⟨rfl,hz⟩:=h1;exact ⟨_,_,rfl,⟨rfl,hz⟩,h4⟩
   .cases h
  .cases h
 | off+1,m,j,c::r,xK,ys,us,h,hy,⟨u,q,e,h1,h2⟩=>by
  subst e;unfold vS at h;split at h
  .rename_i l hl;obtain rfl:=aj h;obtain ⟨h3,h4⟩:=yZ hl hy h2;refine ⟨by simp only [aq];omega,?_⟩;rw [List.take_succ_cons,show off+1+((ys.drop j).take m).length=(off+((ys.drop j).take m).length)+1 by omega,List.drop_succ_cons];exact ⟨_,_,rfl,h1,h4⟩
  .cases h
 | 0,m+1,j,[],_,_,_,h,_,_=>by cases h
 | off+1,m,j,[],_,_,_,h,_,_=>by cases h
theorem UD {ds:List (List Value)}:∀ {ys:List ByteArray},eF g ds ys->ds.flatten=ys.map Value.string/\∀ y∈ys,y.size<=maxLen:=by
 induction ds with
 | nil=>
  intro ys h;cases ys with
  | nil=>exact ⟨rfl,λ_ h=>by cases h⟩
  | cons _ _=>exact h.elim
 | cons d ds ih=>
  intro ys h;cases ys with
  | nil=>exact h.elim
  | cons y ys=>
   obtain ⟨h1,h2⟩:=h;obtain ⟨h3,h4⟩:=ih h2;obtain ⟨e,hs⟩:d= [.string y]/\y.size<=maxLen:=h1;refine ⟨by rw [bF,e,h3];rfl,λz hz=>?_⟩;rcases aX.1 hz with rfl| hz;exact hs;exact h4 z hz
theorem GQ {t t2 et:TypeId} {x y:Operand} {v:Value} {xs ys:List UInt8} {off:Int} {R:List Atom} (ho:o.op= .call {callee:=.builtin .copy,args:= #[x,y],argTypes:= #[t,t2]}) (ht:X.P.underlying t=some (.slice et)) (hu:MV X et=true) (H:SL W g w (py .u8 et v xs::R)) (hy:Rd g w (a.eval y) ys) (h0:0<=off) (h1:off<=xs.length) (hx:a.eval x=jx 1 v off xs.length):
  ∃ w',(execOp a.eval o).run X.P w= .ok (.value (.int .i64 (min ys.length (xs.length - off.toNat):Nat))) w'/\SL W g w' (py .u8 et v (l5 xs off.toNat ys)::R):=by
 have hs:(X.P.info? et).map (·.size)=some 1:=by
  unfold MV at hu;split at hu
  .rename_i ie kF;rw [ao] at hu;rw [kF];exact congrArg some (ai hu.1)
  .cases hu
 have H0:SL W g w (BN et v xs::R):=H;have H1:=H0.ahJ;rcases H1.ofRow with ⟨hv,hl,_,_⟩| ⟨k',ZN,cur,hv,_⟩
 .have yR:xs= []:=aK hl;subst yR hv;have ho0:off=0:=by simp at h1;omega
  subst ho0;have Gx:a.eval x= .slice none 0 0:=hx;have hlen:(Builtin.lenOf (a.eval y)).run X.P w= .ok ys.length w:=by
   rcases hy with ⟨e,rfl⟩| ⟨ad,c,e,_⟩<;>rw [e]<;>simp [Builtin.lenOf]
  have hfc:(Builtin.firstCells 1 0 (a.eval y)).run X.P w= .ok #[] w:=by
   rcases hy with ⟨e,rfl⟩| ⟨ad,c,e,h3,h4,ds,h5,h6⟩;rw [e];simp [Builtin.firstCells]
   .rw [e];exact run_firstCells_some (P:=X.P) w 1 0 ad ys.length c [] (by simp) λj v hj=>by simp at hj
  cases kF:X.P.info? et with
  | none=>rw [kF] at hs;cases hs
  | some ie=>
   have hs1:ie.size=1:=by rw [kF] at hs;simpa using hs
   refine ⟨w,?_,by simpa [l5] using H⟩;simp [execOp,ho,resolve,invoke,builtin,Builtin.copy_,run_underlying ht,Gx,hlen,hfc,sizeOf,typeInfo,kF,hs1,goInt,Result.andThen]
 .subst hv;obtain ⟨w',hr,H'⟩:=SL.al0 (P:=X.P) (dT:=t) (sT:=t2) (ty:=o.type) H0 hy h0 h1 ht hs;rw [<-hx] at hr;exact ⟨w',by simp [execOp,ho,resolve,invoke,builtin,hr],H'⟩
theorem UT (S:dr n W F b E g w s a) {t t2:TypeId} {x y:Operand} {cx cy:Cl} {K:SV->Ov->Prop} (ho:o.op= .call {callee:=.builtin .copy,args:= #[x,y],argTypes:= #[t,t2]}) (rx:cv E g cx (a.eval x)) (ry:cv E g cy (a.eval y)) (h:copyV X b s t t2 cx cy K):
  ∃ v w',(execOp a.eval o).run X.P w= .ok (.value v) w'/\Out n W F b E g a K v w':=by
 unfold copyV at h;split at h
 .rename_i et l off m ht;obtain ⟨bb,c,hE,hmc,hx⟩:=rx;obtain ⟨_,h⟩:=dc h;split at h
  .rename_i ie ys u cs kF Jj eu;obtain ⟨hs1,h⟩:=dc h;have hs1:ie.size=1:=ai hs1;split at h
   .rename_i xK xf;obtain ⟨hm,h⟩:=h;obtain ⟨M0,_⟩:=tV S ry Jj;obtain ⟨us,hr,hB,H⟩:=oV S hE eu
    -- what is laid
    have key:∃ vs:List Value,vs=(ys.take m).map Value.string/\(∀ z∈ys,z.size<=maxLen)/\(Builtin.lenOf (a.eval y)).run X.P w= .ok ys.length w/\(Builtin.firstCells 1 (min ys.length m) (a.eval y)).run X.P w= .ok vs.toArray w:=by
     rcases M0 with ⟨e,rfl⟩| ⟨ad,cap,e,Jo,fh,ds,VC,pf⟩
     .rw [e];exact ⟨[],by simp,(λ_ h=>nomatch h),by simp [Builtin.lenOf],by simp [Builtin.firstCells]⟩
     .obtain ⟨hfl,kE⟩:=UD (ds:=ds) VC;rw [e];refine ⟨_,rfl,kE,by simp [Builtin.lenOf],?_⟩;refine run_firstCells_some (P:=X.P) w 1 (min ys.length m) ad ys.length cap ((ys.take m).map Value.string) (by simp [Nat.min_comm]) λj v hj=>?_;refine pf j v ?_;rw [hfl];rw [cz] at hj ⊢;rw [dO] at hj;split at hj
      .exact hj
      .cases hj
    obtain ⟨vs,DQ,kE,hlen,hfc⟩:=key;obtain ⟨hle,hrel⟩:=yZ xf kE hr;rw [List.drop_zero,<-DQ] at hrel;have hvl:vs.length=(ys.take m).length:=by rw [DQ,bL]
    rw [<-hvl] at hrel;have hvm:vs.length=min ys.length m:=by rw [hvl,aD,Nat.min_comm]
    have sY:∀ v∈vs,v.oneCell'=true:=λv hv=>by
     rw [DQ] at hv;obtain ⟨z,_,rfl⟩:=aM.1 hv;rfl
    have rR:=run_storeCells_at X.P bb off u vs 0 us.toArray w hB (by rw [List.size_toArray];omega) sY;simp only [j4] at rR;have gM:(execOp a.eval o).run X.P w= .ok (.value (.int .i64 (min ys.length m:Nat))) (w.setRow bb (us.toArray.toList.take off++vs++us.toArray.toList.drop (off+vs.length)).toArray):=by
     have P0:Nat.min ys.length m=min ys.length m:=rfl;simp [execOp,ho,resolve,invoke,builtin,Builtin.copy_,run_underlying ht,hx,hlen,sizeOf,typeInfo,kF,hs1,hfc,rR,goInt,P0]
    refine ⟨_,_,gM,E,g,_,.int (min ys.length m:Nat),bz.refl E,bA.refl g,S.back hE (.cells u xK) (bA.refl g) ?_,dB ?_,h⟩
    .have H2:=SL.zF H ((⟨rfl,hB.lt⟩:Wr w bb (us.toArray.toList.take off++vs++us.toArray.toList.drop (off+vs.length)).toArray _).BF hB);refine H2.cE λk ⟨k1,k2,ap,q,s1,s2⟩=>⟨k1,k2,ap,q,⟨bb,_,hE,hrel,?_⟩,s2⟩;have s1':k1 bb=some (.cells (us.toArray.toList.take off++vs++us.toArray.toList.drop (off+vs.length)).toArray u (0,0)):=s1;rw [s1'];simp
    .show (-9223372036854775808:Int)<=(min ys.length m:Nat)/\((min ys.length m:Nat):Int)<=9223372036854775807;omega
   .cases h
  .cases h
 .rename_i et l ht;obtain ⟨hE,DS⟩:=rx;have hQ:=dc h;clear h;obtain ⟨hc,h⟩:=hQ;rw [ao] at hc;split at h
  .rename_i Ou e xs0 eu;have hQ:=dc h;clear h;obtain ⟨he,h⟩:=hQ;obtain rfl:=ai he;split at h
   .rename_i xs yR;obtain ⟨q,hq⟩:=eA yR;subst q;have hq:xs=xs0:=hq;subst hq;obtain ⟨ys,M0,_,hK⟩:=HG S ry h;have H:=jY S hE eu;have hx:a.eval x=jx 1 (a.eval x) 0 xs.length:=by
     have H0:SL W g w (BN Ou (a.eval x) xs::_):=H;rcases H0.ahJ.ofRow with ⟨hv,hl,_,_⟩| ⟨k',ZN,cur,hv,_⟩;rw [hv,hl];rfl;exact (OK _ _ _ _ hv).symm
    obtain ⟨w',hr,H'⟩:=GQ ho ht hc.2 H M0 (bp 0) (by omega) hx;refine ⟨_,w',hr,E,g,_,.int (min ys.length xs.length:Nat),bz.refl E,bA.refl g,S.back hE (.sl Ou .u8 (l5 xs 0 ys)) (bA.refl g) ?_,?_,hK⟩;exact H'.cE λk ⟨k1,k2,ap,q,s1,s2⟩=>⟨k1,k2,ap,q,⟨_,hE,s1⟩,s2⟩
    .have:=lP (pE H);refine dB (m:=(min ys.length (xs.length - (0:Int).toNat):Nat)) ?_;show (-9223372036854775808:Int)<=(min ys.length (xs.length - 0):Nat)/\((min ys.length (xs.length - 0):Nat):Int)<=9223372036854775807;omega
   .cases h
  .cases h
 .rename_i et l sz lo hi ht;obtain ⟨v,hE,hx,DS⟩:=rx;have hQ:=dc h;clear h;obtain ⟨hc,h⟩:=hQ;simp only [ao] at hc;split at h
  .rename_i Ou e xs0 eu;have hQ:=dc h;clear h;obtain ⟨he,h⟩:=hQ;obtain rfl:=ai he;split at h
   .rename_i xs yR;obtain ⟨q,hq⟩:=eA yR;subst q;have hq:xs=xs0:=hq;subst hq;obtain ⟨h0,h1,rfl,h⟩:=h;obtain ⟨ys,M0,_,hK⟩:=HG S ry h;have H:=jY S hE eu;obtain rfl:=ai hc.2.2;obtain ⟨w',hr,H'⟩:=GQ ho ht hc.2.1 H M0 h0 h1 hx;refine ⟨_,w',hr,E,g,_,.int (min ys.length (xs.length - lo.toNat):Nat),bz.refl E,bA.refl g,S.back hE (.sl Ou .u8 (l5 xs lo.toNat ys)) (bA.refl g) ?_,?_,hK⟩
    .exact H'.cE λk ⟨k1,k2,ap,q,s1,s2⟩=>⟨k1,k2,ap,q,⟨_,hE,s1⟩,s2⟩
    .have:=lP (pE H);refine dB (m:=(min ys.length (xs.length - lo.toNat):Nat)) ?_;show (-9223372036854775808:Int)<=(min ys.length (xs.length - lo.toNat):Nat)/\((min ys.length (xs.length - lo.toNat):Nat):Int)<=9223372036854775807;omega
   .cases h
  .cases h
 .cases h
end
def uV {κ:Type} [dF κ] (P:Program) (k:TypeId) (hz:Hp) (v:Value) (m:List (κ×Value)):Prop:=
 (v= .map none/\m= [])\/∃ b es clock,v= .map (some b)/\hz b=some (.map es clock)/\lS P k es clock m
theorem uV.sub {κ:Type} [dF κ] {P:Program} {k:TypeId} {hz hk:Hp} {v:Value} {m:List (κ×Value)} (h:uV P k hz v m) (i:hz.sub hk):uV P k hk v m:=by
 rcases h with h| ⟨b,es,c,h1,h2,h3⟩;exact .inl h;exact .inr ⟨b,es,c,h1,i _ _ h2,h3⟩
theorem uV.o {κ:Type} [dF κ] {P:Program} {k:TypeId} {hz:Hp} {w:World} {v:Value} {m:List (κ×Value)} {ob:Array MapEntry×Nat} (h:uV P k hz v m) (i:∀ b o,hz b=some o->w.heap[b]?=some o) (ho:QM hz v ob):Wh P k w v ob m:=by
 rcases h with h| ⟨b,es,c,h1,h2,h3⟩;exact .inl h
 .rcases ho with ho| ⟨b',ho,h4⟩
  .rw [h1] at ho;cases ho
  .rw [h1] at ho;obtain rfl:b=b':=by cases ho;rfl
   rw [h2] at h4;obtain ⟨o1,o2⟩:=ob;have:es=o1/\c=o2:=by
    have:=aj h4;cases this;exact ⟨rfl,rfl⟩
   obtain ⟨rfl,rfl⟩:=this;exact .inr ⟨b,h1,i _ _ h2,h3⟩
theorem uV.ob {κ:Type} [dF κ] {P:Program} {k:TypeId} {hz:Hp} {v:Value} {m:List (κ×Value)} (h:uV P k hz v m):∃ ob,QM hz v ob:=by
 rcases h with h| ⟨b,es,c,h1,h2,h3⟩;exact ⟨(#[],0),.inl h.1⟩;exact ⟨(es,c),.inr ⟨b,h1,h2⟩⟩
section
variable {X:Vx} {n:Nat} {W:cV} {F:List Atom} {b:Bs} {E:Env} {g w:World} {s:Ov} {a:Act} {o:Oper}
variable {P:Program} {T:UTy} {u mb:Nat} {q1 q2 nx:Int} {L:List (Int×rJ)} {z:Option rJ} {hz h:Hp} {R:List Atom}
theorem Y4 {P P':Program} {t:TypeId} {k:Kk} (h1:j7 P t k=true) (h2:j7 P' t k=true) {v:Value} {ob:Array MapEntry×Nat} {r:Nat} {left:List (k.den×Value)} {cur:Option (k.den×Value)} {hh:Hp} (s:(@mH k.den k.key P t v ob r left cur).sat g hh):(@mH k.den k.key P' t v ob r left cur).sat g hh:=by
 letI:=k.key;have xc:WideElems.rg P' t eL=WideElems.rg P t eL:=funext λx=>by unfold WideElems.rg WideElems.rd;rw [w7 h2 h1]
 refine ⟨?_,s.2⟩;rcases s.1 with h| ⟨b,since,seen,c0,h3,h4,h5,h6,h7,h8⟩;exact .inl h;exact .inr ⟨b,since,seen,c0,h3,h4,h5,h6,h7,by rw [xc];exact h8⟩
theorem afo {t:TypeId} {k:Kk} (h:P.underlying t=some k.tH):j7 P t k=true:=by
 unfold j7;rw [h];cases k<;>rfl
theorem Po {kt tR:TypeId} {e:Ty} {M:List (Int×Nat×e.den)} (H:SL W g w (⟨λg h=>h=hz/\(pmA kt tR e M (ptr mb 0)).sat g h,λm ⟨h1,h2⟩=>⟨h1,Atom.mono _ m h2⟩⟩::R)) (hk:j7 P kt .int=true): @uV Int Kk.int.key P kt hz (.map (some mb)) (sJ M)/\∀ b o,hz b=some o->w.heap[b]?=some o:=by
 obtain ⟨k,be,se,ow,h1,h2,ap,rfl,⟨rfl,x,k1,k2,ap2,e2,⟨hv,hu⟩,s3⟩,s4⟩:=H;refine ⟨?_,λb o q=>(ow b o (Hp.fK q)).2.1⟩;obtain ⟨h',i,s5⟩:=BT (A:=mapA x.2 kt x.1 (sJ M)) (by simp) s3;have hx:mb=x.1:=by simpa [ptr] using hv
 obtain ⟨es,c,j1,j2⟩:=IZ (k:=.int) (afo (k:=.int) hu) hk s5;rw [hx];exact uV.sub (hz:=h') (.inr ⟨x.1,es,c,rfl,j1,j2⟩) λb o q=>by rw [e2];exact Hp.sub.right ap2 b o (i b o q)
theorem ajY (S:dr n W F b E g w s a) {l:Nat} {b0:Nat} (h:E[l]?=some (ptr b0 0)) {kt tR:TypeId} {e:Ty} {M:List (Int×Nat×e.den)} (ho:b.obj s l= .ab (.pm kt tR e M)):∃ hz,SL W g w (⟨λg h=>h=hz/\(pmA kt tR e M (ptr b0 0)).sat g h,λm ⟨h1,h2⟩=>⟨h1,Atom.mono _ m h2⟩⟩::dD (bh E 0 (b.heap s)++F) l):=by
 have H:=S.pick h;rw [ho] at H;obtain ⟨k,be,se,ow,h1,h2,ap,q,⟨v',s1,s3⟩,s4⟩:=H;rw [h] at s1;obtain rfl:=aj s1;exact ⟨h1,k,be,se,ow,h1,h2,ap,q,⟨rfl,s3⟩,s4⟩
theorem U6 (S:dr n W F b E g w s a) {kt t et:TypeId} {e:Ty} {x:Operand} {l:Nat} {M:List (Int×Nat×e.den)} {K:SV->Ov->Prop} (ho:o.op= .range t x) (hx:a.eval x= .map (some mb)) (ht:X.P.underlying t=some (.map kt et)) (hkt:X.P.underlying kt=some (.int .i64)) (hm: @uV Int Kk.int.key X.P kt hz (.map (some mb)) (sJ M)) (hi:∀ b o,hz b=some o->w.heap[b]?=some o)
  (h:K (.c (.p s.n 0)) (s.new (.ab (.Pr kt l e hz mb M none)))):∃ v w',(execOp a.eval o).run X.P w= .ok (.value v) w'/\Out n W F b E g a K v w':=by
 letI:=Kk.int.key;obtain ⟨ob,eu⟩:=hm.ob;obtain ⟨oo,gM,DS⟩:=UP (hm.o hi eu) ht;refine ⟨ptr w.heap.size 0,w.alloc oo,by simp [execOp,ho,hx,gM],E++ [ptr w.heap.size 0],g,_,.c (.p s.n 0),bz.app E _,bA.refl g,S.new (v:=ptr w.heap.size 0) (bA.refl g) ?_,(show dq _ g (.c (.p s.n 0)) _ from ⟨w.heap.size,dZ S _,rfl⟩),h⟩;have H1:=(DS S.sat.sl).ah5;have H2:SL W g (w.alloc oo) (adm kt hz mb M none (ptr w.heap.size 0)::(bh E 0 (b.heap s)++F)):=
  SL.zJ (f:=λx:Nat×Program×(Array MapEntry×Nat)=>[sK (ptr w.heap.size 0=ptr x.1 0/\x.2.1.underlying kt=some (.int .i64)/\QM hz (.map (some mb)) x.2.2),mH x.2.1 kt (.map (some mb)) x.2.2 x.1 (sJ M) ((none:Option (Int×Nat×e.den)).map λp=>(p.1,ptr p.2.1 0))]) (w.heap.size,X.P,ob) (H1.ph ⟨rfl,hkt,eu⟩)
 exact H2.cE λ_ ⟨k1,k2,ap,e,s1,s2⟩=>⟨k1,k2,ap,e,⟨_,dZ S _,s1⟩,s2⟩
theorem OQ (S:dr n W F b E g w s a) {t:TypeId} {x:Operand} {c:Cl} {K:SV->Ov->Prop} (ho:o.op= .range t x) (r:cv E g c (a.eval x)) (h:O3 X b s t c K):
  ∃ v w',(execOp a.eval o).run X.P w= .ok (.value v) w'/\Out n W F b E g a K v w':=by
 unfold O3 at h;split at h
 .rename_i z ht;obtain ⟨hx,hz⟩:=r;have H:=S.sat.sl.new (xF.mk' w (.stringIter z 0));refine ⟨_,_,N7 ho ht hx,E++ [ptr w.heap.size 0],g,_,_,bz.app E _,bA.refl g,S.new (v:=ptr w.heap.size 0) (bA.refl g) ?_,(show dq _ g (.c (.p s.n 0)) _ from ⟨_,dZ S _,rfl⟩),h⟩;exact H.cE λk ⟨k1,k2,ap,q,s1,s2⟩=>⟨k1,k2,ap,q,⟨_,dZ S _,hz,_,rfl,s1⟩,s2⟩
 .rename_i kt et l ht;obtain ⟨b0,hE,hx⟩:=r;split at h
  .rename_i kt' tR e M eu;have hQ:=dc h;clear h;obtain ⟨hc,h⟩:=hQ;rw [ao] at hc;obtain rfl:=ai hc.1;obtain ⟨hz,H⟩:=ajY S hE eu;have hu:=lO hc.2;have S1:dr n W F b E g w (s.dU l (.ab (.pz kt tR e M hz b0))) a:=S.back hE _ (bA.refl g) (H.cE λ_ ⟨k1,k2,ap,q,s1,s2⟩=>⟨k1,k2,ap,q,⟨_,hE,rfl,s1⟩,s2⟩);obtain ⟨_,H2⟩:=T0 S1 hE (by rw [jq,if_pos rfl]);obtain ⟨hm,hi⟩:=Po H2 hc.2;exact U6 S1 ho hx ht hu hm hi (h hz b0)
  .cases h
 .cases h
theorem IP (S:dr n W F b E g w s a) {l:Nat} (h:b.obj s l≠ .gone):∃ v,E[l]?=some v:=by
 by_cases hl:l< s.n;exact ⟨E[l]'(by rw [S.len];exact hl),ak _⟩;exact absurd (S.top l (by omega)) h
theorem abO (S:dr n W F b E g w s a) {li bb:Nat} (hE:E[li]?=some (ptr bb 0)) {kt:TypeId} {l:Nat} {e:Ty} {left:List (Int×Nat×e.den)} {cur:Option (Int×Nat×e.den)} (eu:b.obj s li= .ab (.Pr kt l e hz mb left cur)) (hP:j7 P kt .int=true):
  ∃ ob,QM hz (.map (some mb)) ob/\SL W g w (@mH Int Kk.int.key P kt (.map (some mb)) ob bb (sJ left) (cur.map λp=>(p.1,ptr p.2.1 0))::dD (bh E 0 (b.heap s)++F) li):=by
 have H:=S.pick hE;rw [eu] at H;have H1:SL W g w (adm kt hz mb left cur (ptr bb 0)::dD (bh E 0 (b.heap s)++F) li):=H.cE λ_ ⟨k1,k2,ap,e,⟨v',s1,s2⟩,s3⟩=>by
  rw [hE] at s1;obtain rfl:=aj s1;exact ⟨k1,k2,ap,e,s2,s3⟩
 obtain ⟨⟨r,P',ob⟩,H2⟩:=SL.CD H1;obtain ⟨⟨hr,hu,ho⟩,H3⟩:=SL.pure H2;obtain rfl:bb=r:=by simp [ptr] at hr;exact hr
 exact ⟨ob,ho,H3.cE λ_ ⟨k1,k2,ap,e,s1,s2⟩=>⟨k1,k2,ap,e,Y4 (k:=.int) (afo (k:=.int) hu) hP s1,s2⟩⟩
theorem Yl {li bb:Nat} (hE:E[li]?=some (ptr bb 0)) {kt:TypeId} {l:Nat} {e:Ty} {left:List (Int×Nat×e.den)} {cur:Option (Int×Nat×e.den)} {ob:Array MapEntry×Nat} {w':World} (hP:P.underlying kt=some (.int .i64)) (ho:QM hz (.map (some mb)) ob) (H:SL W g w' (@mH Int Kk.int.key P kt (.map (some mb)) ob bb (sJ left) (cur.map λp=>(p.1,ptr p.2.1 0))::R)):SL W g w' (cJ E li (.ab (.Pr kt l e hz mb left cur))::R):=by
 letI:=Kk.int.key;have H2:SL W g w' (adm kt hz mb left cur (ptr bb 0)::R):=
  SL.zJ (f:=λx:Nat×Program×(Array MapEntry×Nat)=>[sK (ptr bb 0=ptr x.1 0/\x.2.1.underlying kt=some (.int .i64)/\QM hz (.map (some mb)) x.2.2),mH x.2.1 kt (.map (some mb)) x.2.2 x.1 (sJ left) (cur.map λp=>(p.1,ptr p.2.1 0))]) (bb,P,ob) (H.ph ⟨rfl,hP,ho⟩)
 exact H2.cE λ_ ⟨k1,k2,ap,e,s1,s2⟩=>⟨k1,k2,ap,e,⟨_,hE,s1⟩,s2⟩
theorem US (S:dr n W F b E g w s a) {x:Operand} {c:Cl} {K:SV->Ov->Prop} (ho:o.op= .next x false) (r:cv E g c (a.eval x)) (h:YJ X.P b s c K):
  ∃ v w',(execOp a.eval o).run X.P w= .ok (.value v) w'/\Out n W F b E g a K v w':=by
 unfold YJ at h;split at h
 .rename_i li;obtain ⟨bb,hE,hx⟩:=r;split at h
  .rename_i kt l e hz mb left cur eu;letI:=Kk.int.key;split at h
   .rename_i kt' tR e' M SR Ol Ze;have hQ:=dc h;clear h;obtain ⟨hc,rfl,rfl,h1,h2⟩:=hQ;rw [ao] at hc;obtain rfl:=ai hc.1;obtain ⟨lv,hEl⟩:=IP S (l:=l) (by rw [Ze];exact λe=>by cases e);obtain ⟨rfl,H⟩:=T0 S hEl Ze;obtain ⟨hmi,hi⟩:=Po H hc.2;obtain ⟨ob,adR,H1⟩:=abO S hE eu hc.2;have hmo:=hmi.o hi adR;rcases H1.Vs hmo (AQ hc.2) o.type with ⟨hl,gM⟩| ⟨x',y',mG,w',hp,hkx,Zi,gM,H2⟩
    .have xe:left= []:=by
      unfold sJ at hl;simpa using hl
     exact ⟨_,w,by simp [execOp,ho,hx,ptr,gM],E,g,s,.cZ [.c (.k (.bool false))],bz.refl E,bA.refl g,S,⟨_,⟨_,_,rfl,⟨rfl,rfl⟩,rfl⟩,rfl⟩,h1 xe⟩
    .have uy:(x',y')∈sJ left:=hp.mem_iff.2 (by simp);obtain ⟨p,hp1,hp2⟩:=aM.1 uy;obtain ⟨aa,cc,hac⟩:=List.append_of_mem hp1;cases hp2;have hlp:left.Perm (p::(aa++cc)):=by rw [hac];exact List.perm_middle
     have an3:(sJ (aa++cc)).Perm mG:=by
      have e1:(sJ left).Perm ((p.1,ptr p.2.1 0)::sJ (aa++cc)):=hlp.map λp:Int×Nat×e.den=>(p.1,ptr p.2.1 0);exact List.Perm.cons_inv (e1.symm.trans hp)
     have hk:aI .i64 p.1:=oK.2 hkx;have H3:SL W g w' (mH X.P kt (.map (some Ol)) ob bb (sJ (aa++cc)) (some (p.1,ptr p.2.1 0))::dD (bh E 0 (b.heap s)++F) li):=H2.cE λ_ ⟨k1,k2,ap,e,s1,s2⟩=>⟨k1,k2,ap,e,PQ an3.symm s1,s2⟩;refine ⟨.tuple #[.bool true,dF.val p.1,ptr p.2.1 0],w',by simp [execOp,ho,hx,ptr,gM],E,g,_,.cZ [.c (.k (.bool true)),.c (.k (.int .i64 p.1)),.c (.kl l (ptr p.2.1 0))],bz.refl E,bA.refl g,S.back hE _ (bA.refl g) (Yl (cur:=some p) hE (lO hc.2) adR H3),?_,h2 p.1 p.2.1 p.2.2 (aa++cc) hlp hk⟩;exact ⟨_,⟨_,_,rfl,⟨rfl,rfl⟩,_,_,rfl,⟨rfl,hk⟩,_,_,rfl,⟨⟨_,hEl⟩,rfl,rfl⟩,rfl⟩,rfl⟩
   .cases h
  .cases h
 .cases h
theorem ahw {k:Kk} {x y:k.den} (h: @dF.val k.den k.key x= @dF.val k.den k.key y):x=y:=by
 cases k
 .have:Value.int .i64 x= .int .i64 y:=h;cases this;rfl
 .have:Value.string x= .string y:=h;cases this;rfl
theorem OV (S:dr n W F b E g w s a) {x:Operand} {c:Cl} {K:SV->Prop} (ho:o.op= .entry x) (r:cv E g c (a.eval x)) (h:Qd X.P b s c K):ER X.P o a w E g K:=by
 unfold Qd at h;split at h
 .rename_i li;obtain ⟨bb,hE,hx⟩:=r;split at h
  .rename_i kt l e hz mb left cur eu;letI:=Kk.int.key;split at h
   .rename_i kt' tR e' M SR Ol Ze;have hQ:=dc h;clear h;obtain ⟨hc,x',b',y',rfl,rfl,rfl,h1⟩:=hQ;rw [ao] at hc;obtain rfl:=ai hc.1;obtain ⟨lv,hEl⟩:=IP S (l:=l) (by rw [Ze];exact λe=>by cases e);obtain ⟨rfl,H⟩:=T0 S hEl Ze;obtain ⟨hmi,hi⟩:=Po H hc.2;obtain ⟨ob,adR,H1⟩:=abO S hE eu hc.2;have hmo:=hmi.o hi adR;have H2:SL W g w (mH X.P kt (.map (some Ol)) ob bb (sJ left) (some (x',ptr b' 0))::dD (bh E 0 (b.heap s)++F) li):=H1;have gM:=H2.Vt hmo;obtain ⟨hkx,Zi⟩:=H2.PO hmo (AQ hc.2) λ_ _ e=>ahw (k:=.int) e;have hk:aI .i64 x':=oK.2 hkx;refine ⟨_,.cZ [.c (.k (.int .i64 x')),.c (.kl l (ptr b' 0))],by simp [execOp,ho,hx,ptr];rw [gM];rfl,?_,h1 hk⟩;exact ⟨_,⟨_,_,rfl,⟨rfl,hk⟩,_,_,rfl,⟨⟨_,hEl⟩,rfl,rfl⟩,rfl⟩,rfl⟩
   .cases h
  .cases h
 .cases h
end
section
variable {X:Vx} {n:Nat} {W:cV} {F:List Atom} {b:Bs} {E:Env} {g w:World} {s:Ov} {a:Act} {o:Oper}
variable {P:Program} {T:UTy} {u mb:Nat} {q1 q2 nx:Int} {L:List (Int×rJ)} {R:List Atom}
theorem BY (S:dr n W F b E g w s a) {t:TypeId} {x y:Operand} {cx cy:Cl} {K:SV->Ov->Prop} (ho:o.op= .makeSlice t x y) (rx:cv E g cx (a.eval x)) (ry:cv E g cy (a.eval y)) (h:vF X s t cx cy K):
  ∃ v w',(execOp a.eval o).run X.P w= .ok (.value v) w'/\Out n W F b E g a K v w':=by
 unfold vF at h;split at h
 .rename_i et c d ht;have hQ:=dc h;clear h;obtain ⟨hu,rfl,h0,h1,h⟩:=hQ;obtain ⟨hx,_⟩:=rx;obtain ⟨hy,_⟩:=ry;unfold MV at hu;split at hu
  .rename_i i hq;rw [ao] at hu;obtain ⟨hs,hu⟩:=hu;have hs:=ai hs;split at hu
   .rename_i Az;have hb:=ai hu;have hr:=run_make (P:=X.P) w t et i (.int .u8 0) ht hq Az .i64 .i64 c c h0 (bp _) (by rw [hb];omega) (by omega);have P4:madeCells (Value.int .u8 0).cells (c.toNat*i.size)=(bV (au c.toNat 0)).toArray:=by
     rw [hs,Nat.mul_one];apply Array.ext_getElem?;intro j;simp only [madeCells,bV,Value.cells,List.map_replicate];by_cases hj:j< c.toNat
     .simp [hj,Nat.mod_one]
     .simp [hj]
    rw [P4] at hr;have H1:=S.sat.sl.new (xF.mk' w (.cells (bV (au c.toNat (0:UInt8))).toArray et (0,0)));have H2:=SL.wo (size:=1) (cap:=c.toNat) c.toNat H1 (az _) (by unfold maxLen;omega) (by simp [bV]);have e1:(bV (au c.toNat (0:UInt8))).toArray.toList.take (c.toNat*1)=bV (au c.toNat 0):=by
     rw [aV (by simp [bV])]
    rw [e1] at H2;have e2:c.toNat=(au c.toNat (0:UInt8)).length:=by simp
    have H3:SL W g _ (py .u8 et (.slice (some ⟨w.heap.size,0,none⟩) c.toNat c.toNat) (au c.toNat (0:UInt8))::(bh E 0 (b.heap s)++F)):=SL.slB (by rw [aT];exact H2);split at h
    .obtain ⟨g1,m1,H4,hi⟩:= @SL.qy Ty.u8.den Ty.u8.rep _ _ _ _ _ _ _ H3;refine ⟨.slice (some ⟨w.heap.size,0,none⟩) c.toNat c.toNat,_,by simp [execOp,ho,hx,hy,hr];rfl,E++ [_],g1,_,_,bz.app E _,m1,S.new (v:=.slice (some ⟨w.heap.size,0,none⟩) c.toNat c.toNat) m1 ?_,(show dq _ g1 (.c (.o s.n)) _ from ⟨dZ S _,_,_,_,rfl⟩),h⟩;exact H4.cE λk s2=>⟨λ_=>none,k,λ_=>.inl rfl,rfl,⟨_,dZ S _,hi⟩,s2⟩
    refine ⟨.slice (some ⟨w.heap.size,0,none⟩) c.toNat c.toNat,_,by simp [execOp,ho,hx,hy,hr];rfl,E++ [_],g,_,_,bz.app E _,bA.refl g,S.new (v:=.slice (some ⟨w.heap.size,0,none⟩) c.toNat c.toNat) (bA.refl g) ?_,(show dq _ g (.c (.o s.n)) _ from ⟨dZ S _,_,_,_,rfl⟩),h⟩;exact H3.cE λk ⟨k1,k2,ap,q,s1,s2⟩=>⟨k1,k2,ap,q,⟨_,dZ S _,s1⟩,s2⟩
   .cases hu
  .cases hu
 .cases h
end
section
variable {X:Vx} {n:Nat} {W:cV} {F:List Atom} {b:Bs} {E:Env} {g g' w w':World} {s:Ov} {a:Act} {o:Oper}
theorem dr.split (S:dr n W F b E g w s a) {l:Nat} {u v:Value} {o1 o2:HO} (h:E[l]?=some u) (m:bA g g') (H:SL W g' w' (cJ (E++ [v]) l o1::cJ (E++ [v]) s.n o2::dD (bh E 0 (b.heap s)++F) l)):dr n W F b (E++ [v]) g' w' ((s.dU l o1).new o2) a:=by
 have hl:=S.lt h;have hln:s.n=(b.heap s).length:=dQ.symm;refine ⟨S.size,S.defers,λt u hu=>(S.fr t u hu).mono (bz.app E [v]) m,⟨?_,?_⟩,λk hk=>?_⟩
 .rw [ta,jv hl];refine H.cE λh0 ⟨h1,h2,ap,e,s1,h3,h4,ap2,e2,s2,s3⟩=>?_;have N:=jP (E:=E) (F:=F) (k:=0) (eM (b:=b) hl);rw [cd] at N;have eJ:l< (b.heap s).length:=by rw [dQ];exact hl
  have h5:=kQ (E:=E) (F:=F) (k:=0) (o':=.gone) eJ;rw [cd] at h5;have s4:bt g' (bh E 0 ((b.heap s).set l .gone)++F) h4:=by
   rw [<-h5];exact bt.om N ⟨λ_=>none,h4,λ_=>.inl rfl,by funext b;rfl,trivial,s3⟩
  have s5:=bh.env (bz.app E [v]) s4;have s6:bt g' (bh (E++ [v]) 0 ((b.heap s).set l .gone++ [o2])++F) h2:=by
   rw [oT,aH,cd,gJ,<-hln];exact bt.toEnd ⟨h3,h4,ap2,e2,s2,s5⟩
  have s7:=bt.D8 (E:=E++ [v]) (F:=F) (H:=(b.heap s).set l .gone++ [o2]) (l:=l) (o:=o1) (by simp;omega) ⟨h1,h2,ap,e,s1,s6⟩;have e9:((b.heap s).set l .gone++ [o2]).set l o1=(b.heap s).set l o1++ [o2]:=by
   rw [List.set_append_left _ _ (by rw [gJ];exact eJ),List.set_set]
  rw [e9] at s7;exact s7
 .rw [ta,jv hl];simp [S.sat.len]
 .have vY:s.n+1<=k:=hk;rw [tT,if_neg (by show ¬s.n=k;omega),jq,if_neg (by omega)];exact S.top k (by omega)
theorem dr.join (S:dr n W F b E g w s a) {l q:Nat} {u v:Value} {o1:HO} (hl:E[l]?=some u) (hq:E[q]?=some v) (gD:q≠l) (m:bA g g') (k:∀ R,SL W g w (cJ E l (b.obj s l)::cJ E q (b.obj s q)::R)->SL W g' w' (cJ E l o1::R)):dr n W F b E g' w' ((s.dU q .gone).dU l o1) a:=by
 have xe:=S.lt hl;have SY:=S.lt hq;refine ⟨S.size,S.defers,λt u hu=>(S.fr t u hu).mono (bz.refl E) m,⟨?_,?_⟩,λk hk=>?_⟩
 .rw [jv (s:=s.dU q .gone) (show l< s.n from xe),jv SY];have H1:SL W g w (cJ E l (b.obj s l)::cJ E q (b.obj s q)::(bh E 0 (((b.heap s).set q .gone).set l .gone)++F)):=S.sat.sl.cE λh0 x=>by
   obtain ⟨h1,h2,ap,e,s1,s2⟩:=bt.r5 (eM (b:=b) SY) x;have M7:((b.heap s).set q .gone)[l]?=some (b.obj s l):=by
    rw [List.getElem?_set_ne gD];exact eM xe
   have s3:=bt.r5 M7 s2;exact bt.swap ⟨h1,h2,ap,e,s1,s3⟩
  exact (k _ H1).cE λh0 x=>by
   have:=bt.D8 (l:=l) (by simp [dQ];exact xe) x;rw [List.set_set] at this;exact this
 .rw [jv (s:=s.dU q .gone) (show l< s.n from xe),jv SY];simp [S.sat.len]
 .rw [jq,if_neg (by have:s.n<=k:=hk;omega),jq,if_neg (by have:s.n<=k:=hk;omega)];exact S.top k hk
theorem bt.wider:∀ {L:List Atom} {k1 k2:Hp},Hp.apart k1 k2->bt g L k2->bt g L (k1.join k2)
 | [],_,_,_,_=>trivial
 | a::L,k1,k2,ap,⟨m1,m2,ap3,e3,s4,s5⟩=>by
  subst e3;obtain ⟨a1,a2⟩:=Hp.eO.1 ap;refine ⟨m1,k1.join m2,Hp.eO.2 ⟨a1.symm,ap3⟩,?_,s4,bt.wider a2 s5⟩;rw [<-Hp.join_assoc,Hp.join_comm a1,Hp.join_assoc]
theorem bt.XU:∀ {A B:List Atom} {h:Hp},bt g (A++B) h->bt g B h
 | [],_,_,s=>s
 | a::A,B,h,⟨h1,h2,ap,e,_,s2⟩=>by rw [e];exact bt.wider ap (bt.XU s2)
theorem wx {α:Type}:∀ {l:List α} {i:Nat} {x:α},l[i]?=some x->l.set i x=l
 | [],_,_,h=>by simp at h
 | y::l,0,x,h=>by
  obtain rfl:y=x:=by simpa using h
  rfl
 | y::l,i+1,x,h=>by
  rw [List.set_cons_succ,wx (by simpa using h)]
theorem Dc {A R:List Atom}:∀ {i:Nat},i< A.length->dD (A++R) i=dD A i++R:=by
 induction A with
 | nil=>intro i h;simp at h
 | cons x A ih=>
  intro i h;cases i with
  | zero=>rfl
  | succ i=>
   show x::dD (A++R) i=x::(dD A i++R);rw [ih (by simpa using h)]
theorem CE {α:Type} {f:α->Atom} {R:List Atom}:∀ {l:List α} {i:Nat} {x:α},l[i]?=some x->wQ (l.map f++R) i=some (f x)
 | [],_,_,h=>by simp at h
 | y::l,0,x,h=>by
  obtain rfl:y=x:=by simpa using h
  rfl
 | y::l,i+1,x,h=>CE (l:=l) (i:=i) (by simpa using h)
theorem LQ {α:Type} {f:α->Atom} {R:List Atom} {x:α}:∀ {l:List α} {i:Nat},i< l.length->wy (l.map f++R) i (f x)=(l.set i x).map f++R
 | [],_,h=>by simp at h
 | y::l,0,h=>rfl
 | y::l,i+1,h=>by
  show f y::wy (l.map f++R) i (f x)=f y::((l.set i x).map f++R);rw [LQ (l:=l) (by simpa using h)]
theorem GN {α:Type} {f:α->Atom}:∀ {l:List α} {i:Nat},dD (l.map f) i=(l.eraseIdx i).map f
 | [],_=>rfl
 | _::l,0=>rfl
 | y::l,i+1=>by
  show f y::dD (l.map f) i=f y::(l.eraseIdx i).map f;rw [GN (l:=l)]
theorem SL.RR {α:Type} {f:α->Atom} {l:List α} {i:Nat} {x:α} {A:Atom} {R:List Atom} (hi:l[i]?=some x) (H:SL W g w (A::(l.map f++R))):SL W g w (f x::A::(dD (l.map f) i++R)):=by
 have eJ:=(av.1 hi).1;refine H.cE λh0 ⟨h1,h2,ap,e,s1,s2⟩=>?_;have s3:=bt.pick (CE (f:=f) (R:=R) hi) s2;rw [Dc (by rw [bL];exact eJ)] at s3;exact bt.swap ⟨h1,h2,ap,e,s1,s3⟩
theorem SL.akU {α:Type} {f:α->Atom} {l:List α} {i:Nat} {x y:α} {A:Atom} {R:List Atom} (hi:l[i]?=some x) (H:SL W g w (f y::A::(dD (l.map f) i++R))):SL W g w (A::((l.set i y).map f++R)):=by
 have eJ:=(av.1 hi).1;refine H.cE λh0 s=>?_;obtain ⟨h1,h2,ap,e,s1,s2⟩:=s.swap;refine ⟨h1,h2,ap,e,s1,?_⟩;rw [<-Dc (R:=R) (by rw [bL];exact eJ)] at s2;have s3:=bt.om (CE (f:=f) (R:=R) hi) s2;rw [LQ eJ] at s3;exact s3
theorem agN (S:dr n W F b E g w s a) {l bb:Nat} (hE:E[l]?=some (ptr bb 0)) {kt tI:TypeId} {M:uC} (eu:b.obj s l= .ab (.ch kt tI M)) {P:Program} (hk:w9 P kt=true):SL W g w (mapA P kt bb (vJ M)::(M.map (Oj tI)++dD (bh E 0 (b.heap s)++F) l)):=by
 have H:=S.pick hE;rw [eu] at H;have H1:SL W g w (chA kt tI M (ptr bb 0)::dD (bh E 0 (b.heap s)++F) l):=H.cE λ_ ⟨k1,k2,ap,q,⟨v,h1,h2⟩,h3⟩=>⟨k1,k2,ap,q,by
  rw [hE] at h1;obtain rfl:=aj h1;exact h2,h3⟩
 obtain ⟨⟨mb,P'⟩,H2⟩:=SL.CD H1;obtain ⟨⟨hv,hu⟩,H3⟩:=SL.pure H2;have hbb:bb=mb:=by simpa [ptr] using hv
 subst hbb;exact H3.cE λ_ ⟨k1,k2,ap,q,h1,h2⟩=>⟨k1,k2,ap,q,wV (λv=>zY hu hk v) h1,h2⟩
theorem FI {t tI:TypeId} {P:Program} (h:HI P t tI=true):(zeroValue t).run P w= .ok (.slice none 0 0) w:=by
 unfold HI at h;split at h
 .rename_i q i hu hi;rw [ao] at h;obtain ⟨_,h⟩:=h;split at h
  .rename_i hz;simp [zeroValue,typeInfo,hi,hz,go_sem]
  .cases h
 .cases h
theorem xg {M:uC} {key:K3}:(∃ (i:Nat) (v:Value) (xs:List Int),M[i]?=some (key,v,xs)/\iS (vJ M) key=some v)\/((∀ p∈M,p.1≠key)/\iS (vJ M) key=none):=by
 cases hg:iS (vJ M) key with
 | none=>
  right;refine ⟨λp hp e=>?_,rfl⟩;exact (nY.1 hg) (p.1,p.2.1) (aM.2 ⟨p,hp,rfl⟩) e
 | some v=>
  left;have:=oN hg;obtain ⟨p,hp,hq⟩:=aM.1 this;obtain ⟨i,hi⟩:=List.getElem?_of_mem hp;obtain ⟨p1,p2,p3⟩:=p;cases hq;exact ⟨i,_,_,hi,rfl⟩
theorem SJ {cs:List Cl} {key:K3} {u:Value} (h:adG cs=some key) (r:gw E g (.agg cs) u):u=dF.val key:=by
 unfold adG at h;split at h
 .rename_i x y z;obtain rfl:=aj h;obtain ⟨us,h1,rfl⟩:=r;obtain ⟨_,_,rfl,⟨rfl,hx⟩,_,_,rfl,⟨rfl,hy⟩,_,_,rfl,⟨rfl,hz⟩,h4⟩:=h1;rw [show _= [] from h4];have key:∀ n:Int,aI .u8 n->((ax n.toNat).toNat:Int)=n:=λn hn=>by
   obtain ⟨h0,h1⟩:=hn;rw [UInt8.toNat_ofNat',lU (by omega)];omega
  show _=K3.v _;unfold K3.v;simp only [key x hx,key y hy,key z hz]
 .cases h
theorem ZM (S:dr n W F b E g w s a) {l bb:Nat} (hE:E[l]?=some (ptr bb 0)) {kt tI:TypeId} {M:uC} {P:Program} (hk:w9 P kt=true) {key:K3} {val:Value} {st:Option Nat} {R:List Atom} (hR:R=dD (bh E 0 (b.heap s)++F) l) (hnd:((vJ M).map (·.1)).Nodup)
  (hv:val=(iS (vJ M) key).getD (.slice none 0 0)) (H:SL W g w' (PF P kt bb M key val st::(M.map (Oj tI)++R))):
  ∃ o xs,FindM M key o xs/\dr n W F b (E++ [val]) g w' ((s.dU l (.qk (.ch kt tI M o key st) s.n)).new (.sl tI (.int .i64) xs)) a:=by
 have fin:∀ (o:Option (Nat×Value)) (xs:List Int),aeV M o key st val->SL W g w' (py (.int .i64) tI val xs::PF P kt bb M key val st::(Yr (M.map (Oj tI)) o++R))->dr n W F b (E++ [val]) g w' ((s.dU l (.qk (.ch kt tI M o key st) s.n)).new (.sl tI (.int .i64) xs)) a:=λo xs ho H2=>by
  subst hR;refine S.split hE (bA.refl g) ?_;have hn:(E++ [val])[s.n]?=some val:=dZ S _;have hl:(E++ [val])[l]?=some (ptr bb 0):=bz.app E [val] _ _ hE;have H3:SL W g w' ((HK.ch kt tI M o key st).atom (ptr bb 0) val::py (.int .i64) tI val xs::dD (bh E 0 (b.heap s)++F) l):=by
   refine SL.zJ (bb,P,val) (SL.ph ⟨rfl,hk,ho,hnd⟩ ?_);refine H2.cE λh0 s0=>?_;obtain ⟨h1,h2,ap,e,s1,s2⟩:=s0.swap;refine ⟨h1,h2,ap,e,s1,?_⟩;obtain ⟨h3,h4,ap2,e2,s3,s4⟩:=s2;have:=bt.toEnd (A:=Yr (M.map (Oj tI)) o) ⟨h3,h4,ap2,e2,s3,s4⟩;exact this
  exact H3.cE λh0 ⟨h1,h2,ap,e,s1,h3,h4,ap2,e2,s2,s3⟩=>⟨h1,h2,ap,e,⟨_,_,hl,hn,s1⟩,h3,h4,ap2,e2,⟨_,hn,s2⟩,s3⟩
 rcases xg (M:=M) (key:=key) with ⟨i,v,xs,hi,hg⟩| ⟨kJ,hg⟩
 .rw [hg] at hv;have hv:val=v:=hv;subst hv;exact ⟨some (i,val),xs,.at i val xs hi,fin _ _ ⟨⟨xs,hi⟩,λ_=>rfl⟩ (SL.RR (f:=Oj tI) hi H)⟩
 .rw [hg] at hv;have hv:val= .slice none 0 0:=hv;subst hv;letI:=(Ty.int .i64).rep;exact ⟨none,[],.no kJ,fin _ _ kJ (SL.zI (Ty.int .i64).den tI H)⟩
theorem OW (S:dr n W F b E g w s a) {t:TypeId} {x y:Operand} {mx:Cl} {cs:List Cl} {K:SV->Ov->Prop} (ho:o.op= .lookup t x y false) (rx:cv E g mx (a.eval x)) (ry:gw E g (.agg cs) (a.eval y)) (h:JC X b s t mx cs K):
  ∃ v w',(execOp a.eval o).run X.P w= .ok (.value v) w'/\Out n W F b E g a K v w':=by
 unfold JC at h;split at h
 .rename_i k et l ht;obtain ⟨bb,hE,hx⟩:=rx;split at h
  .rename_i kt tI M key eu CY;have hQ:=dc h;clear h;obtain ⟨hc,h⟩:=hQ;simp only [ao] at hc;obtain ⟨h1,h2,h3⟩:=hc;obtain rfl:=ai h1;have H:=agN S hE eu h2;have KT:=Jc h2;have hy:=SJ CY ry;have hl:=(SL.adA H).look false KT ht (FI h3) key trivial;obtain ⟨oo,xs,hf,S1⟩:=ZM S hE (tI:=tI) h2 (key:=key) (st:=none) rfl ((SL.adA H).nodup KT) rfl H;exact ⟨_,w,xD ho hx hy hl,_,g,_,.c (.o s.n),bz.app E _,bA.refl g,S1,⟨dZ S _,by
    cases hf with
    | «at» i v xs hi=>
     rcases xg (M:=M) (key:=key) with ⟨i',v',xs',pH,hg⟩| ⟨kJ,hg⟩
     .rw [hg];letI:=(Ty.int .i64).rep;have H5:=SL.RR (f:=Oj tI) pH H;obtain ⟨q,m,cc,hq,_⟩:=nW (e:=.int .i64) (pE H5);exact ⟨q,m,cc,hq⟩
     .rw [hg];exact ⟨none,0,0,rfl⟩
    | no kJ=>
     rcases xg (M:=M) (key:=key) with ⟨i',v',xs',pH,hg⟩| ⟨_,hg⟩;exact absurd rfl (kJ _ (fc pH))
     .rw [hg];exact ⟨none,0,0,rfl⟩⟩,h oo xs hf⟩
  .cases h
 .cases h
theorem UY (S:dr n W F b E g w s a) {t:TypeId} {x y:Operand} {mx:Cl} {cs:List Cl} {K:SV->Ov->Prop} (ho:o.op= .mapEntry t x y) (rx:cv E g mx (a.eval x)) (ry:gw E g (.agg cs) (a.eval y)) (h:Qr X b s t mx cs K):
  ∃ v w',(execOp a.eval o).run X.P w= .ok (.value v) w'/\Out n W F b E g a K v w':=by
 unfold Qr at h;split at h
 .rename_i k et l ht;obtain ⟨bb,hE,hx⟩:=rx;split at h
  .rename_i kt tI M key eu CY;have hQ:=dc h;clear h;obtain ⟨hc,hlen,h⟩:=hQ;simp only [ao] at hc;obtain ⟨h1,h2,h3⟩:=hc;obtain rfl:=ai h1;have H:=agN S hE eu h2;have KT:=Jc h2;have hy:=SJ CY ry;obtain ⟨val,st,w',gM,H1,_,hval⟩:=SL.Vl H KT ht (FI h3) (by unfold vJ;rw [bL];exact hlen) key trivial;obtain ⟨oo,xs,hf,S1⟩:=ZM S hE (tI:=tI) h2 (key:=key) (val:=val) (st:=some st) rfl ((SL.adA H).nodup KT) hval H1;have DS:∃ q m c,val= .slice q m c:=by
    rcases xg (M:=M) (key:=key) with ⟨i',v',xs',pH,hg⟩| ⟨_,hg⟩
    .rw [hval,hg];letI:=(Ty.int .i64).rep;have H5:=SL.RR (f:=Oj tI) pH H;obtain ⟨q,m,cc,hq,_⟩:=nW (e:=.int .i64) (pE H5);exact ⟨q,m,cc,hq⟩
    .rw [hval,hg];exact ⟨none,0,0,rfl⟩
   refine ⟨.tuple #[val,goInt st],w',by simp [execOp,ho,hx,hy,gM],_,g,_,.cZ [.c (.o s.n),.c (.kl l (.int .i64 st))],bz.app E _,bA.refl g,S1,?_,h oo xs st hf⟩;exact ⟨_,⟨_,_,rfl,(show cv _ g (.o s.n) val from ⟨dZ S _,DS⟩),_,_,rfl,⟨⟨_,bz.app E [val] _ _ hE⟩,rfl,rfl⟩,rfl⟩,rfl⟩
  .cases h
 .cases h
theorem aed {M:uC} {i:Nat} {key:K3} {v:Value} {xs:List Int} (hn:((vJ M).map (·.1)).Nodup) (hi:M[i]?=some (key,v,xs)):mJ (vJ M) key=vJ (M.eraseIdx i):=by
 have eJ:=(av.1 hi).1;have e0:M=M.take i++(key,v,xs)::M.drop (i+1):=by
  have e1:M.drop i=(key,v,xs)::M.drop (i+1):=by
   rw [bO eJ,(av.1 hi).2]
  rw [<-e1,bY]
 have e2:M.eraseIdx i=M.take i++M.drop (i+1):=List.eraseIdx_eq_take_drop_succ M i;rw [e2];unfold vJ at hn ⊢;rw [e0,eR,cg,eR,cg,fm] at hn;obtain ⟨_,h2,h3⟩:=hn;have h2':=eD.1 h2
 conv=>lhs;rw [e0]
 rw [eR,cg,eR];unfold mJ;rw [List.filter_append,lW];simp only [decide_true,Bool.not_true,dP,if_false];congr 1
 .refine kr.2 λp hp=>?_;have:p.1≠key:=λe=>h3 p.1 (aM.2 ⟨p,hp,rfl⟩) key (by simp) e;simp [this]
 .refine kr.2 λp hp=>?_;have:p.1≠key:=λe=>h2'.1 (aM.2 ⟨p,hp,e⟩);simp [this]
theorem ZF {M:uC} {key:K3} (h:∀ p∈M,p.1≠key):mJ (vJ M) key=vJ M:=by
 unfold mJ;refine kr.2 λp hp=>?_;obtain ⟨q,hq,rfl⟩:=aM.1 hp;have:=h q hq;simp [this]
theorem Vj {κ:Type} [dF κ] {P P':Program} {t:TypeId} (hk:∀ v,keyOf P t v=keyOf P' t v) {bb:Nat} {m:List (κ×Value)} {x:κ} {st:Nat} {g:World} {hh:Hp}:(Gk P t bb m x st).sat g hh->(Gk P' t bb m x st).sat g hh:=by
 rintro ⟨es,clock,h1,h2,h3⟩;obtain ⟨Ow,th,h1',h2'⟩:=wV (g:=g) hk (hh:=hh) ⟨es,clock,h1,h2⟩;rw [h1] at h1';cases h1';exact ⟨es,clock,h1,h2',h3⟩
theorem dr.two (S:dr n W F b E g w s a) {l q:Nat} {u v:Value} (hl:E[l]?=some u) (hq:E[q]?=some v) (gD:q≠l):∃ R,SL W g w (cJ E l (b.obj s l)::cJ E q (b.obj s q)::R):=by
 refine ⟨bh E 0 (((b.heap s).set q .gone).set l .gone)++F,S.sat.sl.cE λh0 x=>?_⟩;obtain ⟨h1,h2,ap,e,s1,s2⟩:=bt.r5 (eM (b:=b) (S.lt hq)) x;have M7:((b.heap s).set q .gone)[l]?=some (b.obj s l):=by
  rw [List.getElem?_set_ne gD];exact eM (S.lt hl)
 exact bt.swap ⟨h1,h2,ap,e,s1,bt.r5 M7 s2⟩
theorem ade {tI:TypeId} {M:uC} {o:Option (Nat×Value)}:Yr (M.map (Oj tI)) o=(HY M o).map (Oj tI):=by
 cases o with
 | none=>rfl
 | some p=>exact GN
theorem aec {M:uC} {o:Option (Nat×Value)} {key:K3} {st:Option Nat} {vn:Value} (hn:((vJ M).map (·.1)).Nodup) (h:aeV M o key st vn):mJ (vJ M) key=vJ (HY M o):=by
 cases o with
 | none=>exact ZF h
 | some p=>
  obtain ⟨⟨xs,hi⟩,_⟩:=h;exact aed hn hi
theorem UX (S:dr n W F b E g w s a) {t:TypeId} {x y z:Operand} {l:Nat} {st:Cl} {u:S1} {K:Ov->Prop} (ho:o.op= .entryStore t x y z) (rx:cv E g (.m l) (a.eval x)) (ry:cv E g st (a.eval y)) (rz:gw E g u (a.eval z)) (h:Qq X.P b s t l st u K):
  ∃ w',(execOp a.eval o).run X.P w= .ok .skip w'/\∃ g' s',bA g g'/\dr n W F b E g' w' s' a/\K s':=by
 unfold Qq at h;split at h
 .rename_i kt tI M oo key m nn l2 x0 q eu;obtain ⟨bb,hE,hx⟩:=rx;obtain ⟨_,hy,_⟩:=ry;split at h
  .rename_i tq eq xs k et PZ ht;have hQ:=dc h;clear h;obtain ⟨hc,h⟩:=hQ;simp only [ao,bG] at hc;obtain ⟨c1,c2,c3,c4⟩:=hc;obtain rfl:=ai c1;obtain rfl:=ai c3;have gD:q≠l:=λe=>by subst e;simp at c2
   split at h
   .rename_i ys Jj;obtain ⟨qe,e1⟩:=eA Jj;subst qe;obtain ⟨rfl,h⟩:=h;have hEq:E[q]?=some (a.eval z):=(show cv E g (.o q) (a.eval z) from rz).1;have H1:∀ R,SL W g w (cJ E l (b.obj s l)::cJ E q (b.obj s q)::R)->∃ val,(∃ vn,aeV M oo key (some m) vn)/\((vJ M).map (·.1)).Nodup/\SL W g w (Gk X.P k bb (qP (vJ M) key val) key m::(Yr (M.map (Oj tq)) oo++py (.int .i64) tq (a.eval z) ys::R)):=λR HR=>by
     rw [eu,PZ] at HR;have H2:SL W g w (HK.atom (.ch k tq M oo key (some m)) (ptr bb 0) ((E[nn]?).getD undef)::py (.int .i64) tq (a.eval z) ys::R):=HR.cE λh0 ⟨h1,h2,ap,e,⟨v,vn,k1,k2,k3⟩,h3,h4,ap2,e2,⟨vz,k4,k5⟩,s3⟩=>⟨h1,h2,ap,e,by
      rw [hE] at k1;obtain rfl:=aj k1;rw [k2];exact k3,h3,h4,ap2,e2,by
      rw [hEq] at k4;obtain rfl:=aj k4;rw [e1];exact k5,s3⟩
     obtain ⟨⟨mb,P,val⟩,H3⟩:=SL.CD H2;obtain ⟨⟨hv,hk,PX,hnd⟩,H4⟩:=SL.pure H3;have hbb:bb=mb:=by simpa [ptr] using hv
     subst hbb;exact ⟨val,⟨_,PX⟩,hnd,H4.cE λ_ ⟨k1,k2,ap,q,h1,h2⟩=>⟨k1,k2,ap,q,Vj (λv=>zY hk c4 v) h1,h2⟩⟩
    have KT:=Jc c4;obtain ⟨R0,HR0⟩:=S.two hE hEq gD;obtain ⟨val0,_,_,HA⟩:=H1 R0 HR0;obtain ⟨w',gM,_,_⟩:=SL.entryStore HA KT trivial t (a.eval z);refine ⟨w',?_,g,_,bA.refl g,S.join hE hEq gD (o1:=.ab (.ch k tq ((key,a.eval z,ys)::HY M oo))) (bA.refl g) (λR HR=>?_),h (a.eval z)⟩
    .have Za:(Instr.entryStore t (.map (some bb)) (.int .i64 m) (a.eval z)).run X.P w= .ok () w':=gM;simp [execOp,ho,hx,hy,Za]
    obtain ⟨val,⟨vn,PX⟩,hnd,HB⟩:=H1 R HR;obtain ⟨w2,afv,HC,_⟩:=SL.entryStore HB KT trivial t (a.eval z);rw [gM] at afv;cases afv;rw [ade] at HC;have e3:qP (vJ M) key (a.eval z)=vJ ((key,a.eval z,ys)::HY M oo):=by
     show (key,a.eval z)::mJ (vJ M) key=_;rw [aec hnd PX];rfl
    rw [e3] at HC;have HD:SL W g w' (chA k tq ((key,a.eval z,ys)::HY M oo) (ptr bb 0)::R):=by
     refine SL.zJ (bb,X.P) (SL.ph ⟨rfl,c4⟩ ?_);refine HC.cE λh0 ⟨h1,h2,ap,e,s1,s2⟩=>⟨h1,h2,ap,e,s1,?_⟩;exact bt.pc s2
    exact HD.cE λh0 ⟨h1,h2,ap,e,s1,s2⟩=>⟨h1,h2,ap,e,⟨_,hE,s1⟩,s2⟩
   .cases h
  .cases h
 .cases h
theorem agM (S:dr n W F b E g w s a) {l bb:Nat} (hE:E[l]?=some (ptr bb 0)) {kt tR:TypeId} {e:Ty} {M:List (Int×Nat×e.den)} (eu:b.obj s l= .ab (.pm kt tR e M)) {P:Program} (hk:j7 P kt .int=true):SL W g w (mapA P kt bb (sJ M)::(M.map (tj tR e)++dD (bh E 0 (b.heap s)++F) l)):=by
 have H:=S.pick hE;rw [eu] at H;have H1:SL W g w (pmA kt tR e M (ptr bb 0)::dD (bh E 0 (b.heap s)++F) l):=H.cE λ_ ⟨k1,k2,ap,q,⟨v,h1,h2⟩,h3⟩=>⟨k1,k2,ap,q,by
  rw [hE] at h1;obtain rfl:=aj h1;exact h2,h3⟩
 obtain ⟨⟨mb,P'⟩,H2⟩:=SL.CD H1;obtain ⟨⟨hv,hu⟩,H3⟩:=SL.pure H2;have hbb:bb=mb:=by simpa [ptr] using hv
 subst hbb;have hP':j7 P' kt .int=true:=by unfold j7;rw [hu]
 exact H3.cE λ_ ⟨k1,k2,ap,q,h1,h2⟩=>⟨k1,k2,ap,q,wV (λv=>w7 hP' hk v) h1,h2⟩
theorem Zr {α:Type} {M:List (Int×Nat×α)} {r:Int}:(∃ (i:Nat) (bb:Nat) (x:α),M[i]?=some (r,bb,x)/\iS (sJ M) r=some (ptr bb 0))\/((∀ p∈M,p.1≠r)/\iS (sJ M) r=none):=by
 cases hg:iS (sJ M) r with
 | none=>
  right;exact ⟨λp hp e=>(nY.1 hg) (p.1,ptr p.2.1 0) (aM.2 ⟨p,hp,rfl⟩) e,rfl⟩
 | some v=>
  left;obtain ⟨p,hp,hq⟩:=aM.1 (oN hg);obtain ⟨i,hi⟩:=List.getElem?_of_mem hp;obtain ⟨p1,p2,p3⟩:=p;cases hq;exact ⟨i,_,_,hi,rfl⟩
theorem OR (S:dr n W F b E g w s a) {t:TypeId} {x y:Operand} {l:Nat} {ky:Cl} {kt tR:TypeId} {e:Ty} {M:List (Int×Nat×e.den)} {K:SV->Ov->Prop} (ho:o.op= .lookup t x y true) (rx:cv E g (.m l) (a.eval x)) (ry:cv E g ky (a.eval y)) (eu:b.obj s l= .ab (.pm kt tR e M)) (h:II X s t l kt tR e M ky K):
  ∃ v w',(execOp a.eval o).run X.P w= .ok (.value v) w'/\Out n W F b E g a K v w':=by
 unfold II at h;split at h
 .rename_i k et q ht;obtain ⟨bb,hE,hx⟩:=rx;obtain ⟨hy,hq⟩:=ry;have hQ:=dc h;clear h;obtain ⟨hc,h1,h2⟩:=hQ;simp only [ao] at hc;obtain ⟨c1,c2,c3⟩:=hc;obtain rfl:=ai c1;have H:=agM S hE eu c2;have KT:=wZ (lO c2);have hl:=(SL.adA H).look true KT ht (PA c3) q (oK.1 hq);rcases Zr (M:=M) (r:=q) with ⟨i,pb,xx,hi,hg⟩| ⟨kJ,hg⟩
  .rw [hg] at hl;have xe:(Instr.lookup t (.map (some bb)) (.int .i64 q) true).run X.P w= .ok (.tuple #[ptr pb 0,.bool true]) w:=hl;have H5:=SL.RR (f:=tj tR e) hi H;obtain ⟨us,hrel,H6⟩:∃ us,e.rep.rel g us xx/\SL W g w (pg pb us.toArray tR::mapA X.P k bb (sJ M)::(dD (M.map (tj tR e)) i++dD (bh E 0 (b.heap s)++F) l)):=by
    obtain ⟨k1,be,se,ow,k2,k3,ap,eq,⟨us,s1,s2⟩,s3⟩:=H5;exact ⟨us,s1,k1,be,se,ow,k2,k3,ap,eq,s2,s3⟩
   obtain ⟨p1,p2⟩:=eW (E++ [ptr pb 0]) g e hrel;have hn:(E++ [ptr pb 0])[s.n]?=some (ptr pb 0):=dZ S _;have uK:(E++ [ptr pb 0])[l]?=some (ptr bb 0):=bz.app E _ _ _ hE;have S1:dr n W F b (E++ [ptr pb 0]) g w ((s.dU l (.qk (.pm k tR e M i q pb) s.n)).new (.cells tR (e.cells xx))) a:=by
    refine S.split hE (bA.refl g) ?_;have H7:SL W g w ((HK.pm k tR e M i q pb).atom (ptr bb 0) (ptr pb 0)::pg pb us.toArray tR::dD (bh E 0 (b.heap s)++F) l):=by
     refine SL.zJ (bb,X.P) (SL.ph ⟨rfl,lO c2,⟨xx,hi⟩,rfl⟩ ?_);refine H6.cE λh0 s0=>?_;obtain ⟨k1,k2,ap,e9,s1,s2⟩:=s0.swap;refine ⟨k1,k2,ap,e9,s1,?_⟩;obtain ⟨k3,k4,ap2,e2,s3,s4⟩:=s2;exact bt.toEnd (A:=dD (M.map (tj tR e)) i) ⟨k3,k4,ap2,e2,s3,s4⟩
    exact H7.cE λh0 ⟨k1,k2,ap,e9,s1,k3,k4,ap2,e2,s2,s3⟩=>⟨k1,k2,ap,e9,⟨_,_,uK,hn,s1⟩,k3,k4,ap2,e2,⟨pb,us,hn,p1,s2⟩,s3⟩
   exact ⟨_,w,xD ho hx hy xe,_,g,_,.cZ [.c (.p s.n 0),.c (.k (.bool true))],bz.app E _,bA.refl g,S1,⟨_,⟨_,_,rfl,(show cv (E++ [ptr pb 0]) g (.p s.n 0) _ from ⟨pb,hn,rfl⟩),_,_,rfl,(show cv (E++ [ptr pb 0]) g (.k (.bool true)) _ from ⟨rfl,rfl⟩),rfl⟩,rfl⟩,h2 i pb xx hi p2⟩
  .rw [hg] at hl;have xe:(Instr.lookup t (.map (some bb)) (.int .i64 q) true).run X.P w= .ok (.tuple #[.pointer none,.bool false]) w:=hl;exact ⟨_,w,xD ho hx hy xe,E,g,s,.cZ [.c (.k (.pointer none)),.c (.k (.bool false))],bz.refl E,bA.refl g,S,⟨_,⟨_,_,rfl,(show cv E g (.k (.pointer none)) _ from ⟨rfl,rfl⟩),_,_,rfl,(show cv E g (.k (.bool false)) _ from ⟨rfl,rfl⟩),rfl⟩,rfl⟩,h1 kJ⟩
 .cases h
theorem UQ (S:dr n W F b E g w s a) {t:TypeId} {x y z:Operand} {l:Nat} {ky:Cl} {u:S1} {kt tR:TypeId} {e:Ty} {M:List (Int×Nat×e.den)} {K:Ov->Prop} (alg:∀ mv kv vv w',a.eval x=mv->a.eval y=kv->a.eval z=vv->(Instr.mapUpdate t mv kv vv).run X.P w= .ok () w'->(execOp a.eval o).run X.P w= .ok .skip w') (rx:cv E g (.m l) (a.eval x)) (ry:cv E g ky (a.eval y)) (rz:gw E g u (a.eval z)) (eu:b.obj s l= .ab (.pm kt tR e M)) (h:Pp X b s t l kt tR e M ky u K):
  ∃ w',(execOp a.eval o).run X.P w= .ok .skip w'/\∃ g' s',bA g g'/\dr n W F b E g' w' s' a/\K s':=by
 unfold Pp at h;split at h
 .rename_i k et q nn ht;obtain ⟨bb,hE,hx⟩:=rx;obtain ⟨hy,hq⟩:=ry;obtain ⟨pb,hEn,hz⟩:=(show cv E g (.p nn 0) (a.eval z) from rz);split at h
  .rename_i tR' cs apW;have hQ:=dc h;clear h;obtain ⟨hc,kJ,hlen,h⟩:=hQ;simp only [ao,bG] at hc;obtain ⟨c1,c2,c3,c4⟩:=hc;obtain rfl:=ai c1;have H:=agM S hE eu c2;have KT:=wZ (lO c2);obtain ⟨w',gM,H1⟩:=H.PG KT ht (by unfold sJ;rw [bL];exact hlen) q (oK.1 hq) (ptr pb 0);have Za:(Instr.mapUpdate t (.map (some bb)) (.int .i64 q) (ptr pb 0)).run X.P w= .ok () w':=gM;have aoq:mJ (sJ M) q=sJ M:=by
    unfold mJ;refine kr.2 λp hp=>?_;obtain ⟨p0,hp0,rfl⟩:=aM.1 hp;have:=kJ p0 hp0;simp [this]
   have e3:qP (sJ M) q (ptr pb 0)=sJ ((q,pb,e.Nu)::M):=by
    show (q,ptr pb 0)::mJ (sJ M) q=_;rw [aoq];rfl
   rw [e3] at H1;refine ⟨w',alg _ _ _ _ hx hy hz Za,g,_,bA.refl g,S.back hE (.qk (.pm k tR e ((q,pb,e.Nu)::M) 0 q pb) nn) (bA.refl g) ?_,h pb⟩;have H2:SL W g w' ((HK.pm k tR e ((q,pb,e.Nu)::M) 0 q pb).atom (ptr bb 0) (ptr pb 0)::dD (bh E 0 (b.heap s)++F) l):=by
    refine SL.zJ (bb,X.P) (SL.ph ⟨rfl,lO c2,⟨_,rfl⟩,rfl⟩ ?_);exact H1
   exact H2.cE λh0 ⟨k1,k2,ap,e9,s1,s2⟩=>⟨k1,k2,ap,e9,⟨_,_,hE,hEn,s1⟩,s2⟩
  .cases h
 .cases h
theorem VK (S:dr n W F b E g w s a) (l:Nat):dr n W F b E g w (Qn b s l) a:=by
 unfold Qn;split
 .rename_i k q eu;split
  .exact S
  .rename_i gD;have gD:q≠l:=λe=>by subst e;simp at gD
   split
   .rename_i o' kG;have hl:l< s.n:=by
     rcases eQ l s.n with h| h;exact h;rw [S.top l h] at eu;cases eu
    have hq:q< s.n:=by
     rcases eQ q s.n with h| h;exact h
     .rw [S.top q h] at kG;unfold aaA at kG;split at kG<;>first| (cases kG;done)| (rename_i heq;cases heq)
    obtain ⟨u,hE⟩:∃ u,E[l]?=some u:=⟨E[l]'(by rw [S.len];exact hl),ak _⟩;obtain ⟨v,hEq⟩:∃ v,E[q]?=some v:=⟨E[q]'(by rw [S.len];exact hq),ak _⟩;refine S.join hE hEq gD (bA.refl g) λR HR=>?_;rw [eu] at HR;unfold aaA at kG;split at kG
    .rename_i kt tI M oo key t' e' xs PZ;split at kG
     .rename_i ht;obtain rfl:=ai ht;split at kG
      .rename_i ys Jj;obtain ⟨qe,e1⟩:=eA Jj;subst qe;obtain rfl:=aj kG;rw [PZ] at HR;have H2:SL W g w (HK.atom (.ch kt t' M oo key none) u v::py (.int .i64) t' v ys::R):=HR.cE λh0 ⟨h1,h2,ap,e,⟨v1,vn,k1,k2,k3⟩,h3,h4,ap2,e2,⟨vz,k4,k5⟩,s3⟩=>⟨h1,h2,ap,e,by
        rw [hE] at k1;rw [hEq] at k2;obtain rfl:=aj k1;obtain rfl:=aj k2;exact k3,h3,h4,ap2,e2,by
        rw [hEq] at k4;obtain rfl:=aj k4;rw [e1];exact k5,s3⟩
       obtain ⟨⟨mb,P,val⟩,H3⟩:=SL.CD H2;obtain ⟨⟨hv,hk,PX,hnd⟩,H4⟩:=SL.pure H3;subst hv;have H5:SL W g w (mapA P kt mb (vJ (TP M oo key ys))::((TP M oo key ys).map (Oj t')++R)):=by
        cases oo with
        | none=>
         refine H4.cE λh0 ⟨k1,k2,ap,q,s1,s2⟩=>⟨k1,k2,ap,q,s1,?_⟩;obtain ⟨k3,k4,ap2,e2,_,s4⟩:=bt.pc s2;rw [e2];exact bt.wider ap2 s4
        | some p=>
         obtain ⟨i,u2⟩:=p;obtain ⟨⟨xs0,hi⟩,he⟩:=PX;obtain rfl:=he rfl;have H6:SL W g w (Oj t' (key,u2,ys)::mapA P kt mb (vJ M)::(dD (M.map (Oj t')) i++R)):=H4.cE λh0 ⟨k1,k2,ap,q,s1,s2⟩=>by
          obtain ⟨k3,k4,ap2,e2,s3,s4⟩:=bt.pc s2;exact bt.swap ⟨k1,k2,ap,q,s1,k3,k4,ap2,e2,s3,s4⟩
         have H7:=SL.akU (f:=Oj t') hi H6;have e5:vJ (M.set i (key,u2,ys))=vJ M:=by
          unfold vJ;rw [List.map_set];refine wx ?_;rw [cz,hi];rfl
         show SL W g w (mapA P kt mb (vJ (M.set i (key,u2,ys)))::_);rw [e5];exact H7
       have HD:SL W g w (chA kt t' (TP M oo key ys) (ptr mb 0)::R):=SL.zJ (mb,P) (SL.ph ⟨rfl,hk⟩ H5);exact HD.cE λh0 ⟨h1,h2,ap,e,s1,s2⟩=>⟨h1,h2,ap,e,⟨_,hE,s1⟩,s2⟩
      .cases kG
     .cases kG
    .rename_i kt tR e M i key pb t' cs PZ;split at kG
     .rename_i ht;obtain rfl:=ai ht;split at kG
      .rename_i x hx;obtain rfl:=aj kG;rw [PZ] at HR;have H2:SL W g w (HK.atom (.pm kt t' e M i key pb) u v::cJ E q (.cells t' cs)::R):=HR.cE λh0 ⟨h1,h2,ap,e9,⟨v1,vn,k1,k2,k3⟩,s3⟩=>⟨h1,h2,ap,e9,by
        rw [hE] at k1;rw [hEq] at k2;obtain rfl:=aj k1;obtain rfl:=aj k2;exact k3,s3⟩
       obtain ⟨⟨mb,P⟩,H3⟩:=SL.CD H2;obtain ⟨⟨hv,hk,⟨y,hi⟩,hvn⟩,H4⟩:=SL.pure H3;subst hv hvn;have H6:SL W g w (tj t' e (key,pb,x)::mapA P kt mb (sJ M)::(dD (M.map (tj t' e)) i++R)):=H4.cE λh0 ⟨k1,k2,ap,q9,s1,s2⟩=>by
        obtain ⟨k3,k4,ap2,e2,⟨b9,us,g1,g2,g3⟩,s4⟩:=bt.pc s2;refine bt.swap ⟨k1,k2,ap,q9,s1,k3,k4,ap2,e2,?_,s4⟩;rw [hEq] at g1;have hb9:b9=pb:=by
         have:=aj g1;simpa [ptr] using this.symm
        subst hb9;obtain ⟨u1,u2,e5,h5,h6⟩:=of_cells e hx g2;obtain rfl:u2= []:=h6;rw [a7] at e5;subst e5;exact ⟨us,h5,g3⟩
       have H7:=SL.akU (f:=tj t' e) hi H6;have e5:sJ (M.set i (key,pb,x))=sJ M:=by
        unfold sJ;rw [List.map_set];refine wx ?_;rw [cz,hi];rfl
       have HD:SL W g w (pmA kt t' e (M.set i (key,pb,x)) (ptr mb 0)::R):=SL.zJ (mb,P) (SL.ph ⟨rfl,hk⟩ (by rw [e5];exact H7));exact HD.cE λh0 ⟨h1,h2,ap,e,s1,s2⟩=>⟨h1,h2,ap,e,⟨_,hE,s1⟩,s2⟩
      .cases kG
     .cases kG
    .cases kG
   .exact S
 .exact S
theorem VL (S:dr n W F b E g w s a) (l:Nat):∃ g',bA g g'/\dr n W F b E g' w (Qp b s l) a:=by
 unfold Qp;split
 .rename_i t e xs i off q eu;split
  .exact ⟨g,bA.refl g,S⟩
  .rename_i gD;have gD:q≠l:=λe=>by subst e;simp at gD
   split
   .rename_i t' e' ys PZ;split
    .rename_i x' hof;obtain ⟨u,hE⟩:=IP S (l:=l) (by rw [eu];exact λe=>by cases e);obtain ⟨v,hEq,_⟩:=abN S hE eu;letI:=e'.rep;obtain ⟨g1,m1,H1,hi⟩:=SL.qy (α:=e'.den) (jY S hEq PZ);have S1:dr n W F b E g1 w (s.dU q (.held t' e' ys)) a:=S.back hEq _ m1 (H1.cE λk s2=>⟨λ_=>none,k,λ_=>.inl rfl,rfl,(show (cJ E q (.held t' e' ys)).sat g1 _ from ⟨v,hEq,hi⟩),s2⟩);have anR:b.obj (s.dU q (.held t' e' ys)) l= .qk (.sf t e xs i off) q:=by rw [jq,if_neg gD];exact eu
     obtain ⟨v2,hE2,H2⟩:=abN S1 hE anR;rw [hEq] at hE2;obtain rfl:=aj hE2;refine ⟨g1,m1,S1.back hE _ (bA.refl g1) (H2.cE λk ⟨k1,k2,ap,e1,⟨cs,s1,⟨q1,q2,q3,q4,q5⟩,_,s3⟩,s4⟩=>⟨k1,k2,ap,e1,⟨u,hE,cs,s3 g1 (bA.refl g1) E (.d e' ys) hi x' hof,?_⟩,s4⟩)⟩;rw [gJ,Ty.gz e];exact s1
    .exact ⟨g,bA.refl g,S⟩
   .exact ⟨g,bA.refl g,S⟩
 .exact ⟨g,bA.refl g,S⟩
theorem Di:∀ (ls:List Nat) {s:Ov} {g:World},dr n W F b E g w s a->∃ g',bA g g'/\dr n W F b E g' w (JB b ls s) a
 | [],_,g,S=>⟨g,bA.refl g,S⟩
 | l::r,_,_,S=>by
  obtain ⟨g1,m1,S1⟩:=VL S l;obtain ⟨g2,m2,S2⟩:=Di r S1;exact ⟨g2,m1.trans m2,S2⟩
theorem GX (c:Bool) (S:dr n W F b E g w s a):∃ g',bA g g'/\dr n W F b E g' w (ZL c b s) a:=by
 cases c;exact ⟨g,bA.refl g,S⟩;exact Di _ S
theorem GW:∀ (ls:List Nat) {s:Ov},dr n W F b E g w s a->dr n W F b E g w (Qo b ls s) a
 | [],_,S=>S
 | l::r,_,S=>GW r (VK S l)
theorem GV (c:Bool) (S:dr n W F b E g w s a):dr n W F b E g w (Dg c b s) a:=by
 cases c;exact S;exact GW _ S
end
def js (W:cV) (P:Program) (L:List (Nat×Ct)):Prop:=∀ p∈L,∀ args H Q,p.2 args H Q->WpW W P p.1 args H Q
def iG (I:cV->Prop) (P:Program) (L:List (Nat×Ct)):Prop:=∀ p∈L,∀ args H Q,p.2 args H Q->Wp I P p.1 args H Q
theorem iG.nil (I:cV->Prop) (P:Program):iG I P []:=λ_ h=>by cases h
theorem iG.at {I:cV->Prop} {P:Program} {L:List (Nat×Ct)} (h:iG I P L) {W:cV} (hW:I W):js W P L:=λp hp args H Q hc=>h p hp args H Q hc W hW
theorem iG.cons {I:cV->Prop} {P:Program} {L:List (Nat×Ct)} {f:Nat} {c:Ct} (h:∀ args H Q,c args H Q->Wp I P f args H Q) (k:iG I P L):iG I P ((f,c)::L):=λp hp=>by
 rcases aX.1 hp with rfl| hp;exact h;exact k p hp
theorem js.look {W:cV} {P:Program}:∀ {L:List (Nat×Ct)},js W P L->∀ f args H Q,zU L f args H Q->WpW W P f args H Q
 | [],_,_,_,_,_,h=>h.elim
 | (k,c)::r,hL,f,args,H,Q,h=>by
  unfold zU at h;by_cases e:k=f
  .subst e;have hb:Nat.beq k k=true:=by simp
   rw [hb] at h;exact hL _ (aS ..) _ _ _ h
  .rw [ix e] at h;exact js.look (λp hp=>hL p (aG _ hp)) f args H Q h
section
variable {X:Vx} {n:Nat} {W:cV} {F:List Atom} {b:Bs} {E:Env} {g w:World} {s:Ov} {a:Act} {o:Oper} {K:SV->Ov->Prop}
theorem fF {x:Operand} {k:SV->Prop} (h:qu b s x k):∃ v,fg b s x=some v/\k v:=by
 unfold qu at h;split at h
 rename_i v hv;exact ⟨v,hv,h⟩;cases h
theorem dM {x:Operand} {k:Cl->Prop} (h:nO b s x k):∃ c,fg b s x=some (.v (.c c))/\k c:=by
 unfold nO at h;split at h
 rename_i c hc;exact ⟨c,hc,h⟩;cases h
theorem Out.here (S:dr n W F b E g w s a) {v:Value} {sv:SV} (r:dq E g sv v) (h:K sv s):Out n W F b E g a K v w:=⟨E,g,s,sv,bz.refl E,bA.refl g,S,r,h⟩
theorem lh.val {v:Value} {w':World} {R:Value->World->Prop} {P:Program} (h:(execOp a.eval o).run P w= .ok (.value v) w') (k:R v w'):lh P o a w R:=.inl ⟨v,w',h,k⟩
theorem lh.er (S:dr n W F b E g w s a) (h:ER X.P o a w E g λr=>K r s):lh X.P o a w (Out n W F b E g a K):=by
 obtain ⟨v,sv,h1,h2,h3⟩:=h;exact lh.val h1 (Out.here S h2 h3)
theorem lh.ex (h:∃ v w',(execOp a.eval o).run X.P w= .ok (.value v) w'/\Out n W F b E g a K v w'):lh X.P o a w (Out n W F b E g a K):=.inl h
theorem tn {q:Bool} {p r:Prop} (h:br q p r):(q=true/\p)\/(q=false/\r):=by
 cases q;exact .inr ⟨rfl,h⟩;exact .inl ⟨rfl,h⟩
theorem tQ (S:dr n W F b E g w s a) {q:Option Operand} {k:Option SV->Prop} (h:wM b s q k):∃ l,k l/\∀ i,intOf l=some i->rk a q i:=by
 unfold wM at h;split at h;exact ⟨none,h,λi hi=>.inl ⟨rfl,(aj hi).symm⟩⟩
 .rename_i y;obtain ⟨v,hv,h⟩:=fF h;refine ⟨some v,h,λi hi=>?_⟩;unfold intOf at hi;split at hi
  .rename_i heq;cases heq
  .rename_i m heq;cases heq;exact .inr ⟨y,m,rfl,(aj hi).symm,(ia (S.fg hv)).1⟩
  .cases hi
theorem GY:∀ {l:List SV} {cs:List Cl} {us:List Value},JD l=some cs->bE E g l us->bB E g cs us
 | [],cs,us,h,r=>by
  obtain rfl: []=cs:=aj h;exact r
 | v::r,cs,us,h,⟨u,q,e,h1,h2⟩=>by
  subst e;unfold JD at h;split at h
  .rename_i heq;cases heq
  .rename_i c r' heq;cases heq;split at h
   .rename_i l hl;obtain rfl:c::l=cs:=aj h;exact bB.cons h1 (GY hl h2)
   .cases h
  .cases h
theorem tO {c:SV} {us:List Value} (h:bE E g [c] us):∃ u,us= [u]/\dq E g c u:=by
 obtain ⟨u,r,e,h1,h2⟩:=h;exact ⟨u,by rw [e,show r= [] from h2],h1⟩
theorem nR {c d:SV} {us:List Value} (h:bE E g [c,d] us):∃ u v,us= [u,v]/\dq E g c u/\dq E g d v:=by
 obtain ⟨u,r,e,h1,h2⟩:=h;obtain ⟨v,e2,h3⟩:=tO h2;exact ⟨u,v,by rw [e,e2],h1,h3⟩
theorem ami {α β:Type} {f:α->β} {l:Array α} {u:β} (h:l.toList.map f= [u]):∃ x,l= #[x]/\f x=u:=by
 obtain ⟨l⟩:=l;simp only at h
 match l,h with
 | [x],h=>exact ⟨x,rfl,by simpa using h⟩
theorem aeS {α β:Type} {f:α->β} {l:Array α} {u v:β} (h:l.toList.map f= [u,v]):∃ x y,l= #[x,y]/\f x=u/\f y=v:=by
 obtain ⟨l⟩:=l;simp only at h
 match l,h with
 | [x,y],h=>
  simp at h;exact ⟨x,y,rfl,h.1,h.2⟩
theorem V6 {α:Type} {l:Array α} {t:List α} (h:l.toList=t):l=t.toArray:=by
 subst h;simp
theorem Lw (S:dr n W F b E g w s a) {c:Call} {bi:Builtin} {args:List SV} (ho:o.op= .call c) (hc:c.callee= .builtin bi) (ha:Aw b s c.args.toList=some args) (h:pM X b s bi args c.argTypes.toList K):lh X.P o a w (Out n W F b E g a K):=by
 have hv:=tS S ha;obtain ⟨callee,cargs,ctys⟩:=c;simp only at hc ha hv h;subst hc;unfold pM at h;split at h
 .split at h
  .rename_i x t Y7;obtain ⟨u,e,hu⟩:=tO hv;obtain ⟨ox,rfl,rfl⟩:=ami e;obtain rfl:=V6 Y7;exact lh.er S (LW S ho hu h)
  .cases h
 .split at h
  .rename_i x y t t2 Y7;obtain ⟨u,v,e,hu,Wm⟩:=nR hv;obtain ⟨ox,oy,rfl,rfl,rfl⟩:=aeS e;obtain rfl:=V6 Y7;exact lh.ex (L5 S ho hu Wm h)
  .cases h
 .split at h
  .rename_i x y t t2 Y7;obtain ⟨u,v,e,hu,Wm⟩:=nR hv;obtain ⟨ox,oy,rfl,rfl,rfl⟩:=aeS e;obtain rfl:=V6 Y7;exact lh.ex (UT S ho hu Wm h)
  .cases h
 .split at h
  .rename_i x y t t2 Y7;obtain ⟨u,v,e,hu,Wm⟩:=nR hv;obtain ⟨ox,oy,rfl,rfl,rfl⟩:=aeS e;obtain rfl:=V6 Y7;exact lh.er S (RZ (mn:=true) ho hu Wm h)
  .cases h
 .split at h
  .rename_i x y t t2 Y7;obtain ⟨u,v,e,hu,Wm⟩:=nR hv;obtain ⟨ox,oy,rfl,rfl,rfl⟩:=aeS e;obtain rfl:=V6 Y7;exact lh.er S (RZ (mn:=false) ho hu Wm h)
  .cases h
 .cases h
theorem Gz:∀ {args:List SV} {us:List Value} {s:Ov} {g:World} {k:List SV->Ov->Prop},dr n W F b E g w s a->bE E g args us->vL b args s k->∃ g' s' args',bA g g'/\dr n W F b E g' w s' a/\bE E g' args' us/\k args' s'
 | [],us,s,g,k,S,hv,h=>⟨g,s,[],bA.refl g,S,hv,h⟩
 | v::r,us,s,g,k,S,⟨u,q,e,h1,h2⟩,h=>by
  subst e;have more:∀ {v':SV} {g1:World} {s1:Ov},bA g g1->dr n W F b E g1 w s1 a->dq E g1 v' u->(vL b r s1 λr' s'=>k (v'::r') s')->∃ g' s' args',bA g g'/\dr n W F b E g' w s' a/\bE E g' args' (u::q)/\k args' s':=λ{v' g1 s1} m1 S1 hu h=>by
   have h2':bE E g1 r q:=by
    have key:∀ {l:List SV} {us:List Value},bE E g l us->bE E g1 l us:=by
     intro l
     induction l with
     | nil=>intro us h;exact h
     | cons c l ih=>
      rintro us ⟨u,r,e,h1,h2⟩;exact ⟨u,r,e,h1.mono (bz.refl E) m1,ih h2⟩
    exact key h2
   obtain ⟨g2,s2,r',m2,S2,hr,hk⟩:=Gz S1 h2' h;exact ⟨g2,s2,v'::r',m1.trans m2,S2,⟨u,q,rfl,hu.mono (bz.refl E) m2,hr⟩,hk⟩
  unfold vL at h;split at h
  .rename_i c;have hc:bB E g [c] [u]:=⟨u,[],rfl,h1,rfl⟩;obtain ⟨g1,s1,cs,m1,S1,xf,h⟩:=gN S hc h;split at h
   .rename_i c';obtain ⟨u',q',e',h3,h4⟩:=xf;obtain rfl:u=u':=(List.cons.inj e').1;exact more m1 S1 (v':=.v (.c c')) h3 h
   .cases h
  .rename_i l;obtain ⟨us,hu,rfl⟩:=h1;obtain ⟨g1,s1,cs,m1,S1,xf,h⟩:=gN S hu h;exact more m1 S1 (v':=.v (.agg cs)) ⟨us,xf,rfl⟩ h
  .exact more (bA.refl g) S h1 h
theorem XF (jH:js W X.P X.ct) (S:dr n W F b E g w s a) {c:Call} (ho:o.op= .call c) (h:BE X b s c K):lh X.P o a w (Out n W F b E g a K):=by
 unfold BE at h;split at h;cases h
 .rename_i args ha;split at h
  .rename_i fo hc;obtain ⟨q,hq,h⟩:=dM h;split at h
   .rename_i f caps;obtain ⟨hk,h⟩:=dc h;obtain ⟨us,h1,h2⟩:=S.fg hq;refine .inr (.inr ⟨f,_,X5 ho hc h2 hk,?_⟩);have hv:=bE.app (tS S ha) (B5 h1);have e:(c.args.map a.eval++us.toArray)=(List.map a.eval c.args.toList++us).toArray:=by simp
    rw [e];split at h
    .obtain ⟨g1,s1,args',m1,S1,hv1,h⟩:=Gz S hv h;have:=tJ (P:=X.P) jH.look S1 hv1 h;exact this.mono λv w' ⟨E',g',s',sv,q1,q2,q3⟩=>⟨E',g',s',sv,q1,m1.trans q2,q3⟩
    .split at h
     .exact FQ (P:=X.P) jH.look S hv h
     .exact tJ (P:=X.P) jH.look S hv h
   .cases h
  .rename_i bi hc;exact Lw S ho hc ha h
  .rename_i ro name hc;obtain ⟨q,hq,h⟩:=dM h;split at h
   .rename_i t r;split at h
    .rename_i f hf;obtain ⟨hk,h⟩:=dc h;obtain ⟨u,h1,h2⟩:=S.fg hq;refine .inr (.inr ⟨f,_,OT ho hc h2 hf hk,?_⟩);have hv:bE E g (.v (.c r)::args) (u::List.map a.eval c.args.toList):=⟨u,_,rfl,h1,tS S ha⟩;have e:(#[u]++c.args.map a.eval)=(u::List.map a.eval c.args.toList).toArray:=by simp
     rw [e];split at h;exact FQ (P:=X.P) jH.look S hv h;exact tJ (P:=X.P) jH.look S hv h
    .cases h
   .cases h
theorem U5 {g':World} {u:S1} {cs:List Cl} {v:Value} (r:gw E g u v) (h:bB E g' cs v.cells.toList):gw E g' (X9 u cs) v:=by
 cases u with
 | c x=>
  have hr:cv E g x v:=r;rw [nS hr.one] at h
  match cs,h with
  | [d],⟨u',q,e1,h1,h2⟩=>
   obtain ⟨rfl,_⟩:=List.cons.inj e1;exact h1
  | [],h=>cases (show [v]= [] from h)
  | _::_::_,⟨_,_,e1,_,_,_,e2,_⟩=>
   obtain ⟨_,rfl⟩:=List.cons.inj e1;cases e2
 | agg l=>
  obtain ⟨us,h1,rfl⟩:=r;have hc:(Value.agg us.toArray).cells.toList=us:=by simp [Value.cells]
  rw [hc] at h;have:X9 (.agg l) cs= .agg cs:=rfl;rw [this];exact ⟨us,h,rfl⟩
theorem Si {c:Cl} {l:Nat} {kt tR:TypeId} {e:Ty} {M:List (Int×Nat×e.den)} (h:adl b s c=some (l,⟨kt,tR,e,M⟩)):c= .m l/\b.obj s l= .ab (.pm kt tR e M):=by
 unfold adl at h;split at h
 .split at h
  .rename_i eu;cases h;exact ⟨rfl,eu⟩
  .cases h
 .cases h
theorem XE (jH:js W X.P X.ct) (S:dr n W F b E g w s a) (h:Lv X b s o K):lh X.P o a w (Out n W F b E g a K):=by
 unfold Lv at h;split at h
 .rename_i x ho;obtain ⟨v,hv,h⟩:=fF h;exact lh.val (by simp [execOp,ho]) (Out.here S (S.fg hv) h)
 .rename_i x ho;obtain ⟨v,hv,h⟩:=fF h;exact lh.val (by simp [execOp,ho]) (Out.here S (S.fg hv) h)
 .rename_i c x y ho;obtain ⟨q,hq,h⟩:=dM h;obtain ⟨v,hv,h⟩:=fF h;obtain ⟨u,hu,h⟩:=fF h;split at h
  .rename_i z;obtain ⟨hz,_⟩:=S.fg hq;rcases tn h with ⟨e,h⟩| ⟨e,h⟩<;>subst e
   .exact lh.val (v:=a.eval x) (by simp [execOp,ho,hz,asBool]) (Out.here S (S.fg hv) h)
   .exact lh.val (v:=a.eval y) (by simp [execOp,ho,hz,asBool]) (Out.here S (S.fg hu) h)
  .cases h
 .rename_i op t x y yt ho;obtain ⟨v,hv,h⟩:=fF h;obtain ⟨u,hu,h⟩:=fF h;exact lh.er S (ER.of (m:=(do eqGuard op t x y (a.eval x) (a.eval y);binOp op t (a.eval x) (a.eval y))) (by simp [execOp,ho]) (L0 S (S.fg hv) (S.fg hu) h))
 .rename_i op t x ho;obtain ⟨v,hv,h⟩:=fF h;exact lh.er S (ER.of (m:=Op.unary op (a.eval x)) (by simp [execOp,ho]) (RY (S.fg hv) h))
 .rename_i x i ho;obtain ⟨v,hv,h⟩:=fF h;split at h
  .split at h
   .rename_i l c hc;obtain ⟨us,h1,h2⟩:=S.fg hv;obtain ⟨u,h3,h4⟩:=h1.get hc;exact lh.val (v:=u) (by simp [execOp,ho,h2,Instr.extract,h3]) (Out.here S (sv:=.v c) h4 h)
   .cases h
  .cases h
 .rename_i t x j ho;obtain ⟨v,hv,h⟩:=fF h;split at h
  .split at h
   .rename_i f hf;split at h
    .rename_i r hr;exact lh.er S (FO ho (S.fg hv) hf hr h)
    .cases h
   .cases h
  .cases h
 .rename_i t x ho;obtain ⟨c,hc,h⟩:=dM h;exact lh.er S (ER.of (m:=Instr.loadAt t (a.eval x)) (by simp [execOp,ho]) (xW S (S.fg hc) h))
 .rename_i t x y ho;obtain ⟨c,hc,h⟩:=dM h;obtain ⟨u,hu,h⟩:=fF h;split at h
  .rename_i uu;have vW:BI X.P b s t c uu (λs'=>K .tH s')->lh X.P o a w (Out n W F b E g a K):=λh=>by
    obtain ⟨w',s',h1,h2,h3⟩:=BW S ho (S.fg hc) (S.fg hu) h;exact .inr (.inl ⟨w',h1,E,g,s',.tH,bz.refl E,bA.refl g,h2,jk,h3⟩)
   split at h
   .split at h
    .obtain ⟨w',s',h1,h2,h3⟩:=LU S ho (S.fg hc) (S.fg hu) h;exact .inr (.inl ⟨w',h1,E,g,s',.tH,bz.refl E,bA.refl g,h2,jk,h3⟩)
    obtain ⟨g1,s1,cs,m1,S2,xf,h9⟩:=gN S (gw.cells (S.fg hu)) h;obtain ⟨w',s',h1,h2,h3⟩:=BW S2 ho (cv.mono (bz.refl E) m1 (S.fg hc)) (U5 (S.fg hu) xf) h9;exact .inr (.inl ⟨w',h1,E,g1,s',.tH,bz.refl E,m1,h2,jk,h3⟩)
   .exact vW h
  .obtain ⟨w',s',h1,h2,h3⟩:=HW S ho (S.fg hc) (S.fg hu) h;exact .inr (.inl ⟨w',h1,E,g,s',.tH,bz.refl E,bA.refl g,h2,jk,h3⟩)
  .cases h
 .rename_i t ho;split at h
  .rename_i z hz;split at h
   .rename_i ha;obtain ⟨hz2,h⟩:=dc h;exact lh.ex (L7 S ho hz ha hz2 h)
   .exact lh.ex (U0 S ho hz h)
  .cases h
 .rename_i t x ho;obtain ⟨v,hv,h⟩:=fF h;split at h
  .exact lh.ex (adb S ho (S.fg hv) h)
  .split at h
   .rename_i ha;have h9:=dc h;clear h;obtain ⟨hk,hl,h⟩:=h9;have hk:=IntKind.eq_of_beq hk;subst hk;exact lh.ex (UZ S ho (S.fg hv) ha hl h)
   .cases h
  .cases h
 .rename_i x ho;obtain ⟨c,hc,h⟩:=dM h;have r:=S.fg hc;have key:∀ q:Addr,a.eval x= .pointer (some q)->(execOp a.eval o).run X.P w= .ok (.value (a.eval x)) w:=λq hq=>by simp [execOp,ho,hq]
  split at h
  .obtain ⟨bb,h1,h2⟩:=r;exact lh.val (key _ h2) (Out.here S (S.fg hc) h)
  .obtain ⟨h0,v,h1,h2⟩:=r;obtain ⟨cs,h3,_⟩:=Ah h1 h0.1 h0.2.1;obtain ⟨q,hq,_⟩:=h3 g (bA.refl g);rw [hq] at h2;exact lh.val (key _ h2) (Out.here S (S.fg hc) h)
  .obtain ⟨v,h1,h2,q,hq⟩:=r;exact lh.val (key _ hq) (Out.here S (S.fg hc) h)
  exact lh.val (key _ r.2.1) (Out.here S (S.fg hc) h);cases h
 .rename_i t x j ho;obtain ⟨c,hc,h⟩:=dM h;split at h
  .rename_i f hf;split at h
   .rename_i ie kF;obtain ⟨hs,h⟩:=dc h;split at h
    .rename_i c' Na;obtain ⟨v,h1,h2⟩:=FR (w:=w) ho (S.fg hc) hf kF hs Na;exact lh.val h1 (Out.here S (sv:=.c c') h2 h)
    .cases h
   .cases h
  .cases h
 .rename_i t x i ho;obtain ⟨c,hc,h⟩:=dM h;obtain ⟨q,hq,h⟩:=dM h;split at h
  exact lh.er S (r8 S ho (S.fg hc) (ia (S.fg hq)).1 h);cases h
 .rename_i t x i ho;obtain ⟨c,hc,h⟩:=dM h;obtain ⟨q,hq,h⟩:=dM h;split at h
  .obtain ⟨h0,h1,h⟩:=h;exact lh.er S (FN ho (by assumption) (S.fg hc).1 (S.fg hq).1 h0 h1 h)
  .cases h
 .rename_i t x lo hi ho;obtain ⟨c,hc,h⟩:=dM h;obtain ⟨l,h,hl⟩:=tQ S h;obtain ⟨m,h,hm⟩:=tQ S h;split at h
  .rename_i i j pH CZ;exact lh.er S (BX S ho (S.fg hc) (hl _ pH) (hm _ CZ) h)
  .cases h
 .rename_i t x lo hi y ho;obtain ⟨c,hc,h⟩:=dM h;obtain ⟨l,h,hl⟩:=tQ S h;obtain ⟨m,h,hm⟩:=tQ S h;obtain ⟨q,hq,h⟩:=dM h;split at h
  .rename_i i j m pH CZ;exact lh.er S (LS ho (S.fg hc) (hl _ pH) (hm _ CZ) (ia (S.fg hq)).1 S.m h)
  .cases h
 .rename_i t x ho;obtain ⟨c,hc,h⟩:=dM h;exact lh.er S (L4 ho (S.fg hc) h)
 .rename_i t ps ho;split at h
  .rename_i l hl;exact lh.er S (B4 ho (tP S hl) h)
  .cases h
 .rename_i t m ps ho;split at h
  .rename_i l hl;exact lh.ex (As S ho (tP S hl) h)
  .cases h
 .rename_i src dst x ho;obtain ⟨v,hv,h⟩:=fF h;exact lh.ex (UU S ho (S.fg hv) h)
 .rename_i f first captured ho
  obtain ⟨hf,h⟩:=dc h;split at h
  .rename_i l hl;split at h
   .rename_i cs xf;have r:=GY xf (tS S hl);have hf':first= #[]:=Array.isEmpty_iff.1 hf
    refine lh.val (v:=.func (.func f) #[] (captured.toList.map a.eval).toArray) ?_ (Out.here S (sv:=.c (.fn f cs)) ⟨_,r,rfl⟩ h);subst hf';have e:captured.map a.eval=(captured.toList.map a.eval).toArray:=by
     apply Array.ext';simp
    simp [execOp,ho,Instr.makeFunc,e]
   .cases h
  .cases h
 .rename_i t x ho;obtain ⟨c,hc,h⟩:=dM h;exact lh.er S (OU ho (S.fg hc) h)
 .rename_i x t0 t ho;obtain ⟨c,hc,h⟩:=dM h;exact lh.er S (L1 ho (S.fg hc) h)
 .rename_i x t0 t ho;obtain ⟨c,hc,h⟩:=dM h;exact lh.er S (L3 ho (S.fg hc) h)
 .rename_i t ho;exact lh.ex (HS S ho h)
 .rename_i t x y c ho;have h':=dM h;clear h;obtain ⟨mx,hx,h'⟩:=h';have h:=fF h';clear h';obtain ⟨ky,hy,h⟩:=h;split at h
  .split at h
   .rename_i l kt tR e M hpm;obtain ⟨rfl,eu⟩:=Si hpm;split at h
    .rename_i hc;subst hc;exact lh.ex (OR S ho (S.fg hx) (S.fg hy) eu h)
    .cases h
   .exact lh.er S (LV S ho (S.fg hx) (S.fg hy) h)
  .split at h
   .cases h
   .rename_i hc;have hc:c=false:=by simpa using hc
    subst hc;exact lh.ex (OW S ho (S.fg hx) (S.fg hy) h)
  .cases h
 .rename_i t x y z ho;have h':=dM h;clear h;obtain ⟨mx,hx,h'⟩:=h';have h:=dM h';clear h';obtain ⟨ky,hy,h⟩:=h;have h':=fF h;clear h;obtain ⟨u,hu,h⟩:=h';split at h
  .split at h
   .rename_i l kt tR e M hpm;obtain ⟨rfl,eu⟩:=Si hpm;obtain ⟨w',h1,g',s',h2,h3,h4⟩:=UQ (o:=o) S (λmv kv vv w' e1 e2 e3 hr=>by simp [execOp,ho,e1,e2,e3,hr]) (S.fg hx) (S.fg hy) (S.fg hu) eu h;exact .inr (.inl ⟨w',h1,E,g',s',.tH,bz.refl E,h2,h3,jk,h4⟩)
   .obtain ⟨w',h1,g',s',h2,h3,h4⟩:=zK S ho (S.fg hx) (S.fg hy) (S.fg hu) h;exact .inr (.inl ⟨w',h1,E,g',s',.tH,bz.refl E,h2,h3,jk,h4⟩)
  .cases h
 .rename_i t x ho;obtain ⟨c,hc,h⟩:=dM h;exact lh.ex (OQ S ho (S.fg hc) h)
 .rename_i x ho;obtain ⟨c,hc,h⟩:=dM h;exact lh.ex (UR S ho (S.fg hc) h)
 .rename_i x ho;obtain ⟨c,hc,h⟩:=dM h;exact lh.ex (US S ho (S.fg hc) h)
 .rename_i x ho;obtain ⟨c,hc,h⟩:=dM h;exact lh.er S (OV S ho (S.fg hc) h)
 .rename_i t x y ho;obtain ⟨c,hc,h⟩:=dM h;obtain ⟨d,hd,h⟩:=dM h;exact lh.ex (BY S ho (S.fg hc) (S.fg hd) h)
 .rename_i t x y ho;obtain ⟨c,hc,h⟩:=dM h;obtain ⟨d,hd,h⟩:=fF h;split at h
  exact lh.ex (UY S ho (S.fg hc) (S.fg hd) h);cases h
 .rename_i t x y z ho;obtain ⟨mx,hx,h⟩:=dM h;obtain ⟨ky,hy,h⟩:=dM h;obtain ⟨u,hu,h⟩:=fF h;split at h
  .split at h
   .obtain ⟨w',h1,g',s',h2,h3,h4⟩:=UX S ho (S.fg hx) (S.fg hy) (S.fg hu) h;exact .inr (.inl ⟨w',h1,E,g',s',.tH,bz.refl E,h2,h3,jk,h4⟩)
   .cases h
  .cases h
 .rename_i t x y z ho;obtain ⟨mx,hx,h⟩:=dM h;obtain ⟨ky,hy,h⟩:=dM h;obtain ⟨u,hu,h⟩:=fF h;split at h
  .obtain ⟨w',h1,g',s',h2,h3,h4⟩:=LZ S ho (S.fg hx) (S.fg hy) (S.fg hu) h;exact .inr (.inl ⟨w',h1,E,g',s',.tH,bz.refl E,h2,h3,jk,h4⟩)
  .cases h
 .rename_i c ho;exact XF jH S ho h
 .cases h
end
abbrev DY (ro:Option Nat):Fence:= {fn:=λ_=>True,depth:=none,alive:=false,round:=ro}
theorem Qs {ro:Option Nat} {m:Nat} {P:Program} {f:FuncId} {args:Array Value} {w:World} {R:Ending->World->Prop} (h:Calls P f args w R):CallsIn (DY ro) m P f args w R:=(callsIn_wide (n:=m)).2 h
theorem wR {ρ:Operand->Value} {o:Oper} {P:Program} {w w':World} {nx:Next} (h:(execOp ρ o).run P w= .ok nx w') (hn:∀ d,nx≠ .defer d):∀ c,o.op≠ .defer c:=λc hc=>by
 unfold execOp at h;rw [hc] at h;simp only [Sem.run_bind] at h;cases hr:(resolve ρ c o.type).run P w with
 | ok d w1=>
  rw [hr] at h;have h:Result.ok (Next.defer d) w1= .ok nx w':=h;cases h;exact hn d rfl
 | halt=>rw [hr] at h;cases h
theorem Ww {F:Fence} {m:Nat} {P:Program} {ops:Array Oper} {Q:Exit->Act->World->Prop} {o:Oper} {rest:List Oper} {a:Act} {w:World} (hw:Region.wanted o (yielded ops a.tmps)=true) (h:∀ K:Act->World->Prop,(∀ a w,wpListIn F m P ops Q rest a w->K a w)->o.wpIn F m P a w K Q):wpListIn F m P ops Q (o::rest) a w:=by
 unfold wpListIn;rw [if_pos hw];exact h _ λ_ _ h=>h
theorem Wv {ro:Option Nat} {m:Nat} {P:Program} {ops:Array Oper} {Q:Exit->Act->World->Prop} {o:Oper} {rest:List Oper} {a:Act} {w:World} (hw:Region.wanted o (yielded ops a.tmps)=false) (h:wpListIn (DY ro) m P ops Q rest (a.put o.dst undef) w):wpListIn (DY ro) m P ops Q (o::rest) a w:=by
 unfold wpListIn;rw [if_neg (by rw [hw];simp)];exact ⟨λ_ _=>trivial,h⟩
section
variable {X:Vx} {n:Nat} {W:cV} {F:List Atom} {b:Bs} {E:Env} {g w:World} {s:Ov} {a:Act} {o:Oper}
theorem mC {t d:Nat} {v:SV}:b.slot (s.put (some d) v) t=if d=t then some v else b.slot s t:=by
 unfold Bs.slot Ov.put;simp only [gh];by_cases e:d=t;subst e;simp;rw [ix e,if_neg e];rfl
theorem dr.told (S:dr n W F b E g w s a) {d:Nat} {v:SV} (h:dq E g v (a.tmps.getD d undef)):dr n W F b E g w (s.put (some d) v) a:=by
 refine ⟨S.size,S.defers,λt u hu=>?_,S.sat,S.top⟩;rw [mC] at hu;by_cases e:d=t
 .subst e;rw [if_pos rfl] at hu;obtain rfl:=aj hu;exact h
 .rw [if_neg e] at hu;exact S.fr t u hu
theorem dr.put (S:dr n W F b E g w s a) {d:Option Nat} {v:SV} {u:Value} (hd:(match d with| some d=>gx d n| none=>true)=true) (h:dq E g v u):dr n W F b E g w (s.put d v) (a.put d u):=by
 cases d with
 | none=>exact S
 | some d=>
  have hd':d< n:=by simpa using hd
  refine ⟨by simp [Act.put,S.size],S.defers,λt x hx=>?_,S.sat,S.top⟩;rw [mC] at hx;by_cases e:d=t
  .subst e;rw [if_pos rfl] at hx;obtain rfl:=aj hx;simpa [Act.put,S.size,hd'] using h
  .rw [if_neg e] at hx;have:=S.fr t x hx;simpa only [Act.put,cj,kx e] using this
theorem Wx {ops:Array Oper} {K:Bool->Ov->Prop} (S:dr n W F b E g w s a) (h:Et ops b s o K):∃ q s',Region.wanted o (yielded ops a.tmps)=q/\dr n W F b E g w s' a/\K q s':=by
 unfold Et at h;split at h
 .rename_i hg;exact ⟨true,s,by unfold Region.wanted;rw [hg],S,h⟩
 .rename_i j wt hg;split at h
  .cases h
  .rename_i d hd;split at h
   .rename_i v hv;obtain ⟨hx,_⟩:=S.fr d _ hv;have hw:Region.wanted o (yielded ops a.tmps)=(v==wt):=by
     unfold Region.wanted;rw [hg];simp only;unfold yielded;rw [hd];have:(a.tmps[d]?).getD undef= .bool v:=by rw [<-cj];exact hx
     cases hq:a.tmps[d]? with
     | none=>rw [hq] at this;simp [undef] at this
     | some y=>rw [hq] at this;simp at this;subst this;cases v<;>cases wt<;>simp [hq]
    rcases tn h with ⟨e,h⟩| ⟨e,h⟩<;>subst e;exact ⟨_,_,hw,S.told (by rw [hx];exact gm _),h⟩;exact ⟨_,_,hw,S.told (by rw [hx];exact gm _),h⟩
   .rename_i l hv;obtain ⟨us,_,hx⟩:=S.fr d _ hv;have hw:Region.wanted o (yielded ops a.tmps)=false:=by
     unfold Region.wanted;rw [hg];simp only;unfold yielded;rw [hd];have:(a.tmps[d]?).getD undef= .tuple us.toArray:=by rw [<-cj];exact hx
     cases hq:a.tmps[d]? with
     | none=>simp [hq]
     | some y=>rw [hq] at this;simp at this;subst this;simp [hq]
    exact ⟨false,s,hw,S,h⟩
   .cases h
def Step (n:Nat) (W:cV) (F:List Atom) (b:Bs) (E:Env) (g:World) (K:Ov->Prop) (a':Act) (w':World):Prop:=∃ E' g' s',bz E E'/\bA g g'/\dr n W F b E' g' w' s' a'/\K s'
theorem lh.wpIn {P:Program} {R:Value->World->Prop} {K:Act->World->Prop} {Q:Exit->Act->World->Prop} (h:lh P o a w R) (k:∀ v w',R v w'->K (a.put o.dst v) w') {ro:Option Nat} {m:Nat}:o.wpIn (DY ro) m P a w K Q:=by
 refine ⟨λ_ _=>trivial,?_⟩;rcases h with ⟨v,w',hr,h⟩| ⟨w',hr,h⟩| ⟨f,args,hr,h⟩;rw [Oper.semAt_eq _ _ _ (wR hr λd e=>by cases e),hr];exact k v w' h;rw [Oper.semAt_eq _ _ _ (wR hr λd e=>by cases e),hr];exact k undef w' h
 .rw [Oper.semAt_eq _ _ _ (wR hr λd e=>by cases e),hr];refine ⟨λq=>(by cases q),Qs (Calls.mono h ?_)⟩;rintro e w' ⟨v,rfl,hv⟩;exact k v w' hv
theorem acR (jH:js W X.P X.ct) {ops:Array Oper} {K:Ov->Prop} (S:dr n W F b E g w s a) (h:OG X n ops b s o K):
  (Region.wanted o (yielded ops a.tmps)=true/\lh X.P o a w λv w'=>Step n W F b E g K (a.put o.dst v) w')\/(Region.wanted o (yielded ops a.tmps)=false/\Step n W F b E g K (a.put o.dst undef) w):=by
 unfold OG at h;obtain ⟨hd,h⟩:=dc h;obtain ⟨q,s',hq,S',h⟩:=Wx S h;cases q with
 | true=>
  refine .inl ⟨hq,?_⟩;have hr:=XE jH S' h;have key:∀ v w',Out n W F b E g a (λv s'=>K (s'.put o.dst v)) v w'->Step n W F b E g K (a.put o.dst v) w':=λv w' ⟨E',g',s2,sv,he,hm,S2,r,hk⟩=>⟨E',g',_,he,hm,S2.put hd r,hk⟩;rcases hr with ⟨v,w',hr,h⟩| ⟨w',hr,h⟩| ⟨f,args,hr,h⟩;exact .inl ⟨v,w',hr,key v w' h⟩;exact .inr (.inl ⟨w',hr,key undef w' h⟩);exact .inr (.inr ⟨f,args,hr,h.mono key⟩)
 | false=>exact .inr ⟨hq,E,g,_,bz.refl E,bA.refl g,S'.put hd jk,h⟩
theorem Hz (jH:js W X.P X.ct) {ro:Option Nat} {m:Nat} {ops:Array Oper} {Q:Exit->Act->World->Prop}:∀ {rest:List Oper} {s:Ov} {E:Env} {g w:World} {a:Act} {K:Ov->Prop},dr n W F b E g w s a->ahs X n ops b rest s K->
  (∀ a' w',Step n W F b E g K a' w'->Q .normal a' w')->wpListIn (DY ro) m X.P ops Q rest a w
 | [],s,E,g,w,a,K,S,h,k=>wpListIn_nil (k a w ⟨E,g,s,bz.refl E,bA.refl g,S,h⟩)
 | o::rest,s,E,g,w,a,K,S,h,k=>by
  rcases acR jH S h with ⟨hq,hr⟩| ⟨hq,hr⟩;refine Ww hq λK' hK=>hr.wpIn λv w' ⟨E',g',s',he,hm,S',h'⟩=>hK _ _ (Hz jH S' h' λa2 w2 ⟨E2,g2,s2,he2,hm2,S2,h2⟩=>k _ _ ⟨E2,g2,s2,he.trans he2,hm.trans hm2,S2,h2⟩)
  .obtain ⟨E',g',s',he,hm,S',h'⟩:=hr;exact Wv hq (Hz jH S' h' λa2 w2 ⟨E2,g2,s2,he2,hm2,S2,h2⟩=>k _ _ ⟨E2,g2,s2,he.trans he2,hm.trans hm2,S2,h2⟩)
end
def tx (ops:Array Oper) (i j:Nat):Prop:=∃ f,reach ops f i j=true
def amy (ops:Array Oper) (dn:List Nat) (listed:Array Bool) (a c:Act):Prop:=∀ t,(∀ (i:Nat) (o:Oper),i∈dn->ops[i]?=some o->o.dst=some t->listed.getD i false=true)->a.tmps.getD t undef=c.tmps.getD t undef
structure DH (D:List Deferred) (ops:Array Oper) (n:Nat) (Ord:List Nat->Prop) (pu:Nat->Bool) (T:List Nat->List Nat->Act->World->Prop) (listed:Array Bool) (a:Act) (w:World) (dn rest:List Nat) (c:Act):Prop where
 eq:Ord (dn++rest)
 ML:listed.size=ops.size
 closed:∀ (j:Nat) (o:Oper),ops[j]?=some o->listed.getD j false=true->∀ e∈o.after,Region.binds .any e=true->listed.getD e.on false=true
 size:a.tmps.size=n
 defers:a.defers=D
 t:T dn rest c w
 agree:amy ops dn listed a c
 kept:∀ i∈dn,pu i=false->listed.getD i false=true
 vW:∀ i,listed.getD i false=true->i∈dn
section
variable {P:Program} {ops:Array Oper} {n:Nat} {Q:Exit->Act->World->Prop}
theorem tv {a:Act} {d:Option Nat} {v:Value} {t:Nat} (h:d≠some t):(a.put d v).tmps.getD t undef=a.tmps.getD t undef:=by
 cases d with
 | none=>rfl
 | some d=>
  have:d≠t:=λe=>h (by rw [e]);simp [Act.put,cj,kx this]
theorem DF {a:Act} {d:Nat} {v:Value} (h:d< a.tmps.size):(a.put (some d) v).tmps.getD d undef=v:=by simp [Act.put,h]
theorem Ei {listed:Array Bool} {i:Nat} (h:i< listed.size):(listed.setIfInBounds i true).getD i false=true:=by simp [cj,h]
theorem N5 {o:Oper} {a c:Act} (hs:Su o=true) (h:∀ t∈slotsOf ops o,a.tmps.getD t undef=c.tmps.getD t undef) (ha:a.tmps.size=n) (hc:c.tmps.size=n):
  execOp a.eval o=execOp c.eval o/\Region.wanted o (yielded ops a.tmps)=Region.wanted o (yielded ops c.tmps):=by
 refine ⟨execOp_congr o (λcs b hb=>by simp [Su,hb] at hs) λx hx=>?_,?_⟩
 .cases x with
  | tmp t=>exact h t (bH _ (List.mem_filterMap.2 ⟨.tmp t,by simpa using hx,rfl⟩))
  | const _=>rfl
  | global _=>rfl
  | func _=>rfl
 .unfold Region.wanted;cases hg:o.guard with
  | none=>rfl
  | some gq=>
   obtain ⟨gi,want⟩:=gq;have:yielded ops a.tmps gi=yielded ops c.tmps gi:=by
    unfold yielded;cases hgo:(ops[gi]?).bind (·.dst) with
    | none=>rfl
    | some d=>
     have hm:d∈slotsOf ops o:=by
      unfold slotsOf;refine ja _ ?_;rw [hg];simp [hgo]
     have:=h d hm;by_cases hd:d< n
     .have h1:d< a.tmps.size:=by rw [ha];exact hd
      have h2:d< c.tmps.size:=by rw [hc];exact hd
      simp only [cj,cL h1,cL h2,Option.getD_some] at this;simp only [o6,cL h1,cL h2,this]
     .have h1:a.tmps.size<=d:=by rw [ha];exact Nat.le_of_not_lt hd
      have h2:c.tmps.size<=d:=by rw [hc];exact Nat.le_of_not_lt hd
      simp only [o6,iy h1,iy h2]
   simp only [this]
set_option maxHeartbeats 1000000 in
theorem afV {ro:Option Nat} {m:Nat} {D:List Deferred} {Ord:List Nat->Prop} {pu:Nat->Bool} {T:List Nat->List Nat->Act->World->Prop} (hE:Ju ops=true) (hD:Qg ops n=true) (hnd:∀ ord,Ord ord->ord.Nodup) (Ef:∀ ord,Ord ord->∀ i,i∈ord↔i< ops.size)
  (h5:∀ dn rest c w i,T dn rest c w->Ord (dn++rest)->i∈rest->(∀ j,tx ops i j->pu j=false->j∈dn)->∃ r1 r2,Ord (dn++(r1++i::r2))/\T dn (r1++i::r2) c w/\∀ j∈r1,pu j=true)
  (hB:∀ (i k:Nat) (oi ok:Oper) (d:Nat),ops[i]?=some oi->ops[k]?=some ok->ok.dst=some d->d∈slotsOf ops oi->tx ops i k\/pu k=false)
  (kE:∀ dn rest c w,T dn rest c w->c.tmps.size=n/\c.defers=D)
  (h1:∀ dn rest c w i o,T dn rest c w->i∈dn->pu i=true->ops[i]?=some o->(∀ j∈dn,pu j=false->¬tx ops j i)->∃ v,(Region.wanted o (yielded ops c.tmps)=true->(execOp c.eval o).run P w= .ok (.value v) w)/\(Region.wanted o (yielded ops c.tmps)=false->v=undef)/\T dn rest (c.put o.dst v) w)
  (h2:∀ dn i rest c w o,T dn (i::rest) c w->pu i=true->ops[i]?=some o->∃ v,T (dn++ [i]) rest (c.put o.dst v) w)
  (h3:∀ dn i rest c w o,T dn (i::rest) c w->pu i=false->ops[i]?=some o->(Region.wanted o (yielded ops c.tmps)=true/\lh P o c w λv w'=>T (dn++ [i]) rest (c.put o.dst v) w')\/(Region.wanted o (yielded ops c.tmps)=false/\T (dn++ [i]) rest (c.put o.dst undef) w))
  (h4:∀ dn c w,T dn [] c w->Q .normal c w):
  ∀ (fuel:Nat) (listed:Array Bool) (a:Act) (w:World) (dn rest:List Nat) (c:Act),DH D ops n Ord pu T listed a w dn rest c->((bP ops.size).filter λi=> !listed.getD i true).length<=fuel->wpAnyIn (DY ro) m P .any ops Q fuel listed a w:=by
 have edges:∀ (i:Nat) (o:Oper),ops[i]?=some o->∀ e∈o.after,Region.binds .any e=true->e.on< i:=λi o ho e he hb=>by
  have hi:i< ops.size:=(aQ.1 ho).1;have h1:=bo.1 hE i (dm.2 hi);simp only [ho,ao] at h1;have h2:=(Array.all_eq_true_iff_forall_mem.1 h1.1) e he;simpa [hb] using h2
 have sel:∀ (i:Nat) (o:Oper),ops[i]?=some o->Su o=true:=λi o ho=>by
  have hi:i< ops.size:=(aQ.1 ho).1;have h1:=bo.1 hE i (dm.2 hi);simp only [ho,ao] at h1;exact h1.2
 have dlt:∀ (i:Nat) (o:Oper) (d:Tmp),ops[i]?=some o->o.dst=some d->d< n:=λi o d ho hd=>by
  have hi:i< ops.size:=(aQ.1 ho).1;have h1:=bo.1 hD i (dm.2 hi);simp only [ho,o6,hd,ao] at h1;simpa using h1.1
 have Nt:∀ (i j:Nat) (oi oj:Oper) (d:Tmp),j< i->ops[i]?=some oi->ops[j]?=some oj->oi.dst=some d->oj.dst=some d->False:=λi j oi oj d J4 hi hj J5 Oq=>by
  have pH:i< ops.size:=(aQ.1 hi).1;have h1:=bo.1 hD i (dm.2 pH);simp only [hi,o6,J5,ao] at h1;have h2:=bo.1 h1.2 j (dm.2 J4);simp [hj,Oq] at h2
 have dne:∀ (i j:Nat) (oi oj:Oper) (d:Tmp),ops[i]?=some oi->ops[j]?=some oj->oi.dst=some d->oj.dst=some d->i=j:=λi j oi oj d hi hj J5 Oq=>by
  rcases ko i j with h| h| h;exact (Nt j i oj oi d h hj hi Oq J5).elim;exact h;exact (Nt i j oi oj d h hi hj J5 Oq).elim
 have unl:∀ (listed:Array Bool) i,i< listed.size->(listed.getD i true=false↔listed.getD i false=false):=λlisted i hi=>by
  simp [cj,hi]
 have lstlt:∀ (listed:Array Bool) i,listed.getD i false=true->i< listed.size:=λlisted i hi=>by
  rcases eQ i listed.size with h| h;exact h;simp [cj,iy h] at hi
 have done:∀ {listed:Array Bool} {a:Act} {w:World} {dn rest:List Nat} {c:Act},DH D ops n Ord pu T listed a w dn rest c->Region.ready .any ops listed= []->∀ i,i< ops.size->listed.getD i false=true:=by
  intro listed a w dn rest c inv hr i
  induction i using Nat.strongRecOn with
  | _ i ih=>
   intro hi;cases hl:listed.getD i false with
   | true=>rfl
   | false=>
    exfalso
    have hu:listed.getD i true=false:=(unl listed i (by rw [inv.ML];exact hi)).2 hl;have uy:i∈Region.ready .any ops listed:=mem_ready.2 ⟨hu,ops[i],by simp [hi],λe he hb=>by
     have eJ:=edges i ops[i] (by simp [hi]) e he hb;exact ih e.on eJ (by omega)⟩
    rw [hr] at uy;cases uy
 have fin:∀ {listed:Array Bool} {a:Act} {w:World} {dn rest:List Nat} {c:Act},DH D ops n Ord pu T listed a w dn rest c->Region.ready .any ops listed= []->Q .normal a w:=λ{listed a w dn rest c} inv hr=>by
  have jI:=done inv hr;have alh:rest= []:=by
   cases rest with
   | nil=>rfl
   | cons i r=>
    exfalso
    have hi:i∈dn++i::r:=by simp
    have h5:=inv.vW i (jI i ((Ef _ inv.eq i).1 hi));have:=hnd _ inv.eq;rw [fm] at this;exact this.2.2 i h5 i (by simp) rfl
  have ht:=inv.t;rw [alh] at ht;have hs:=kE _ _ _ _ ht;have e:a=c:=Act.ext' (λt=>by
   have:=inv.agree t λi o _ ho _=>jI i (aQ.1 ho).1;by_cases hd:t< n
   .have h1:t< a.tmps.size:=by rw [inv.size];exact hd
    have h2:t< c.tmps.size:=by rw [hs.1];exact hd
    simp only [cj,cL h1,cL h2,Option.getD_some] at this;rw [cL h1,cL h2,this]
   .rw [iy (by rw [inv.size];omega),iy (by rw [hs.1];omega)]) (by rw [inv.defers,hs.2])
  rw [e];exact h4 _ _ _ ht
 -- the frame that is told runs ahead
 have adv:∀ {listed:Array Bool} {a:Act} {w:World} (r1:List Nat) {dn r2:List Nat} {c:Act},DH D ops n Ord pu T listed a w dn (r1++r2) c->(∀ j∈r1,pu j=true/\listed.getD j false=false)->∃ c',DH D ops n Ord pu T listed a w (dn++r1) r2 c':=by
  intro listed a w r1
  induction r1 with
  | nil=>intro dn r2 c inv _;exact ⟨c,by rw [a7];exact inv⟩
  | cons i r1 ih=>
   intro dn r2 c inv hp;obtain ⟨ua,hli⟩:=hp i (by simp);have hi:i< ops.size:=(Ef _ inv.eq i).1 (by simp);obtain ⟨v,hv⟩:=h2 dn i (r1++r2) c w ops[i] inv.t ua (by simp [hi]);have lZ:DH D ops n Ord pu T listed a w (dn++ [i]) (r1++r2) (c.put ops[i].dst v):=by
    refine ⟨by have:=inv.eq;simpa using this,inv.ML,inv.closed,inv.size,inv.defers,hv,λt ht=>?_,λj hj Jk=>?_,λj hj=>bH _ (inv.vW j hj)⟩
    .have gD:ops[i].dst≠some t:=λe=>by
      have:=ht i ops[i] (by simp) (by simp [hi]) e;rw [hli] at this;cases this
     rw [tv gD];exact inv.agree t λk o hk=>ht k o (bH _ hk)
    .rcases aY.1 hj with hj| hj
     .exact inv.kept j hj Jk
     .have:j=i:=by simpa using hj
      subst this;rw [ua] at Jk;cases Jk
   obtain ⟨c',Na⟩:=ih lZ λj hj=>hp j (aG _ hj);refine ⟨c',?_⟩;rw [aH] at Na;exact Na
 intro fuel
 induction fuel with
 | zero=>
  intro listed a w dn rest c inv hc;have hr:Region.ready .any ops listed= []:=by
   cases hr:Region.ready .any ops listed with
   | nil=>rfl
   | cons i r=>
    exfalso
    have uy:i∈Region.ready .any ops listed:=by rw [hr];simp
    obtain ⟨hu,o,ho,_⟩:=mem_ready.1 uy;have:i∈(bP ops.size).filter λi=> !listed.getD i true:=fQ.2 ⟨dm.2 (aQ.1 ho).1,by simp [hu]⟩;have:=List.length_pos_of_mem this;omega
  exact ⟨hr,fin inv hr⟩
 | succ fuel ih=>
  intro listed a w dn rest c inv hc;refine ⟨fin inv,λi hi=>?_⟩;obtain ⟨hu,o,ho,afE⟩:=mem_ready.1 hi;have eJ:i< ops.size:=(aQ.1 ho).1;have CX:i< listed.size:=by rw [inv.ML];exact eJ
  have hul:listed.getD i false=false:=(unl listed i CX).1 hu;have Zn:((bP ops.size).filter λk=> !(listed.setIfInBounds i true).getD k true).length<=fuel:=by
   have:=filter_lt (p:=λk=> !listed.getD k true) (q:=λk=> !(listed.setIfInBounds i true).getD k true) (bP ops.size) (λx _ hx=>by
     by_cases hxi:i=x;subst hxi;simpa using hu
     .simpa [getD_set_ne true hxi] using hx) i (dm.2 eJ) (by simp [hu]) (by simp [cj,CX])
   omega
  have set_get:∀ k,(listed.setIfInBounds i true).getD k false=true->k≠i->listed.getD k false=true:=λk hk gD=>by
   rwa [getD_set_ne false (Ne.symm gD)] at hk
  have aei:∀ (j:Nat) (oj:Oper),ops[j]?=some oj->(listed.setIfInBounds i true).getD j false=true->∀ e∈oj.after,Region.binds .any e=true->(listed.setIfInBounds i true).getD e.on false=true:=λj oj hj hlj e he hb=>by
   by_cases J4:j=i
   .subst J4;rw [ho] at hj;obtain rfl:=aj hj;exact getD_set_true (afE e he hb)
   .exact getD_set_true (inv.closed j oj hj (set_get j hlj J4) e he hb)
  have waited:∀ k,tx ops i k->listed.getD k false=true:=λk ⟨f,hr⟩=>by
   cases f with
   | zero=>simp [reach] at hr
   | succ f=>
    unfold reach at hr;simp only [ho] at hr;obtain ⟨q,hq,hb⟩:=Array.any_eq_true.1 hr;simp only [ao,iD] at hb;have hl:=afE _ (Array.getElem_mem hq) hb.1;rcases hb.2 with he| he;rw [<-ai he];exact hl;exact qz inv.closed f _ _ he hl
  -- what it reads stands in both frames
  have same:∀ {Tg sb:List Nat} {c':Act},DH D ops n Ord pu T listed a w Tg sb c'->execOp a.eval o=execOp c'.eval o/\Region.wanted o (yielded ops a.tmps)=Region.wanted o (yielded ops c'.tmps):=λ{Tg sb c'} lZ=>
   N5 (n:=n) (sel i o ho) (λt ht=>lZ.agree t λk ok hkd hk hdk=>(hB i k o ok t ho hk hdk ht).elim (waited k) (lZ.kept k hkd)) lZ.size (kE _ _ _ _ lZ.t).1
  have next:∀ {Tg sb:List Nat} {c':Act} {v:Value} {w':World},DH D ops n Ord pu T listed a w Tg sb c'->∀ (dn'' rest'':List Nat),Ord (dn''++rest'')->i∈dn''->(∀ j,j∈dn''->j∈Tg\/j=i)->(∀ j∈Tg,j∈dn'')->T dn'' rest'' (c'.put o.dst v) w'->DH D ops n Ord pu T (listed.setIfInBounds i true) (a.put o.dst v) w' dn'' rest'' (c'.put o.dst v):=λ{Tg sb c' v w'} lZ dn'' rest'' he yS anx ala ht=>by
   have xf:=(kE _ _ _ _ lZ.t).1;refine ⟨he,by simp [lZ.ML],aei,?_,?_,ht,λt aiq=>?_,λj hj Jk=>?_,λj hj=>?_⟩;cases hod:o.dst<;>simp [Act.put,lZ.size];cases hod:o.dst<;>simp [Act.put,lZ.defers]
   .by_cases hod:o.dst=some t
    .have hdn:=dlt i o t ho hod;rw [hod,DF (by rw [lZ.size];exact hdn),DF (by rw [xf];exact hdn)]
    .rw [tv hod,tv hod];refine lZ.agree t λk ok hk xd hdk=>?_;have hki:k≠i:=λe=>by subst e;rw [ho] at xd;obtain rfl:=aj xd;exact hod hdk
     exact set_get k (aiq k ok (ala k hk) xd hdk) hki
   .by_cases J4:j=i
    .subst J4;exact Ei CX
    .rcases anx j hj with h| h
     .exact getD_set_true (lZ.kept j h Jk)
     .exact absurd h J4
   .by_cases J4:j=i
    .rw [J4];exact yS
    .exact ala j (lZ.vW j (set_get j hj J4))
  have again:pu i=true->∀ {Tg sb:List Nat} {c':Act},DH D ops n Ord pu T listed a w Tg sb c'->i∈Tg->wpOpIn (DY ro) m P ops Q i (wpAnyIn (DY ro) m P .any ops Q fuel (listed.setIfInBounds i true)) a w:=λua {Tg sb c'} lZ yS=>by
   obtain ⟨v,hv1,Wm,hv3⟩:=h1 Tg sb c' w i o lZ.t yS ua ho λj hj Jk hw=>by
    have hlj:=lZ.kept j hj Jk;obtain ⟨f,hf⟩:=hw;have:=qz lZ.closed f _ _ hf hlj;rw [hul] at this;cases this
   obtain ⟨e1,e2⟩:=same lZ;have go:wpAnyIn (DY ro) m P .any ops Q fuel (listed.setIfInBounds i true) (a.put o.dst v) w:=
    ih _ _ _ Tg sb _ (next lZ Tg sb lZ.eq yS (λj hj=>.inl hj) (λj hj=>hj) hv3) Zn
   unfold wpOpIn;simp only [ho];split
   .rename_i hw;refine ⟨λ_ _=>trivial,?_⟩;have hr:=hv1 (by rw [<-e2];exact hw);rw [<-e1] at hr;rw [Oper.semAt_eq _ _ _ (wR hr λd e=>by cases e),hr];exact go
   .rename_i hw;have:=Wm (by rw [<-e2];simpa using hw);rw [<-this];exact ⟨λ_ _=>trivial,go⟩
  by_cases yS:i∈dn
  .have ua:pu i=true:=by
    cases hp:pu i with
    | true=>rfl
    | false=>
     have:=inv.kept i yS hp;rw [hul] at this;cases this
   exact again ua inv yS
  .have hir:i∈rest:=by
    have:i∈dn++rest:=(Ef _ inv.eq i).2 eJ;rcases aY.1 this with h| h;exact absurd h yS;exact h
   obtain ⟨r1,r2,he,hT,M4⟩:=h5 dn rest c w i inv.t inv.eq hir λj hw _=>inv.vW j (waited j hw);have inv:DH D ops n Ord pu T listed a w dn (r1++i::r2) c:=⟨he,inv.ML,inv.closed,inv.size,inv.defers,hT,inv.agree,inv.kept,inv.vW⟩;have alu:=hnd _ inv.eq;rw [fm] at alu;have vX:∀ j∈r1,pu j=true/\listed.getD j false=false:=λj hj=>by
    have hjd:j ∉ dn:=λh=>alu.2.2 j h j (by simp [hj]) rfl;have hlj:listed.getD j false=false:=by
     cases hl:listed.getD j false with
     | false=>rfl
     | true=>exact absurd (inv.vW j hl) hjd
    exact ⟨M4 j hj,hlj⟩
   cases ua:pu i with
   | true=>
    obtain ⟨c',lZ⟩:=adv (r1++ [i]) (dn:=dn) (r2:=r2) (c:=c) (by simpa using inv) λj hj=>by
     rcases aY.1 hj with h| h;exact vX j h
     .have:j=i:=by simpa using h
      subst this;exact ⟨ua,hul⟩
    exact again ua lZ (by simp)
   | false=>
    obtain ⟨c',lZ⟩:=adv r1 (dn:=dn) (r2:=i::r2) (c:=c) inv vX;obtain ⟨e1,e2⟩:=same lZ;have go:∀ v w',T (dn++r1++ [i]) r2 (c'.put o.dst v) w'->wpAnyIn (DY ro) m P .any ops Q fuel (listed.setIfInBounds i true) (a.put o.dst v) w':=λv w' ht=>
     ih _ _ _ (dn++r1++ [i]) r2 _ (next lZ (dn++r1++ [i]) r2 (by have:=inv.eq;simpa using this) (by simp) (λj hj=>by simpa [or_assoc] using hj) (λj hj=>bH _ hj) ht) Zn
    unfold wpOpIn;simp only [ho];rcases h3 (dn++r1) i r2 c' w o lZ.t ua ho with ⟨hw,hr⟩| ⟨hw,ht⟩
    .rw [if_pos (by rw [e2];exact hw)];have hr':lh P o a w λv w'=>T (dn++r1++ [i]) r2 (c'.put o.dst v) w':=by
      unfold lh at hr ⊢;rw [e1];exact hr
     exact hr'.wpIn go
    .rw [if_neg (by rw [e2,hw];simp)];exact ⟨λ_ _=>trivial,go undef w ht⟩
end
structure DT (f:(SV->Prop)->Prop):Prop where
 mono:∀ {K K':SV->Prop},(∀ v,K v->K' v)->f K->f K'
 det:∀ {K:SV->Prop},f K->f λv=>K v/\f λv'=>v'=v
namespace DT
variable {f g:(SV->Prop)->Prop}
theorem leaf (v:SV):DT λK=>K v:=⟨λh k=>h v k,λk=>⟨k,rfl⟩⟩
theorem no:DT λ_=>False:=⟨λ_ h=>h,λh=>h.elim⟩
theorem imp {p:Prop} (h:DT f):DT λK=>p->f K:=⟨λm k hp=>h.mono m (k hp),λk hp=>h.mono (λ_ q=>⟨q.1,λ_=>q.2⟩) (h.det (k hp))⟩
theorem and {p:Prop} (h:DT f):DT λK=>p/\f K:=⟨λm k=>⟨k.1,h.mono m k.2⟩,λk=>⟨k.1,h.mono (λ_ q=>⟨q.1,k.1,q.2⟩) (h.det k.2)⟩⟩
theorem ex {α:Type} {f:α->(SV->Prop)->Prop} (h:∀ x,DT (f x)):DT λK=>∃ x,f x K:=⟨λm ⟨x,k⟩=>⟨x,(h x).mono m k⟩,λ⟨x,k⟩=>⟨x,(h x).mono (λ_ q=>⟨q.1,x,q.2⟩) ((h x).det k)⟩⟩
theorem gF {c:Bool} (h:DT f) (h':DT g):DT λK=>br c (f K) (g K):=by cases c<;>assumption
theorem ite {p:Prop} [Decidable p] (h:DT f) (h':DT g):DT λK=>if p then f K else g K:=by
 by_cases hp:p;simp only [if_pos hp];exact h;simp only [if_neg hp];exact h'
end DT
section
variable {X:Vx} {P:Program} {b:Bs} {s:Ov}
theorem DT.arith (k:IntKind) (z:Int):DT (arith k z):=by unfold Lm.arith;repeat' (first| exact DT.leaf _| exact DT.no| refine DT.and ?_| refine DT.imp ?_| refine DT.ite ?_ ?_| refine DT.gF ?_ ?_| split)
theorem DT.PS (op:BinOp) (k:IntKind) (x y:Int):DT (PS op k x y):=by
 unfold Lm.PS
 repeat' (first| exact DT.arith _ _| exact DT.leaf _| exact DT.no| refine DT.and ?_| refine DT.imp ?_| refine DT.ite ?_ ?_| refine DT.gF ?_ ?_| split)
theorem DT.UF (op:BinOp) (x y:ByteArray):DT (UF op x y):=by unfold Lm.UF;repeat' (first| exact DT.leaf _| exact DT.no| refine DT.and ?_| refine DT.imp ?_| refine DT.ite ?_ ?_| refine DT.gF ?_ ?_| split)
theorem zT {t:TypeId} {y:Cl} (h:CB P t=true):Gi (P.underlying t) y=false:=by
 unfold CB at h;unfold Gi;cases hu:P.underlying t with
 | none=>rfl
 | some d=>rw [hu] at h;cases d<;>first| rfl| cases h
theorem DT.Jf (wr:Bool) (op:BinOp) (k:IntKind) (x y:Int):DT (Jf wr op k x y):=by
 unfold Lm.Jf
 repeat' (first| exact DT.PS _ _ _ _| exact DT.leaf _| exact DT.no| refine DT.and ?_| refine DT.imp ?_| refine DT.ite ?_ ?_| refine DT.gF ?_ ?_| split)
theorem DT.El {wr:Bool} {Jw:Bool} {op:BinOp} {t:TypeId} {x y:SV} (h:CB P t=true):DT (El wr P b s Jw op t x y):=by
 unfold Lm.El;split
 .split
  .repeat' (first| exact DT.leaf _| exact DT.no| refine DT.and ?_| refine DT.imp ?_| refine DT.ite ?_ ?_| refine DT.gF ?_ ?_| split)
  .repeat' (first| exact DT.leaf _| exact DT.no| refine DT.and ?_| refine DT.imp ?_| refine DT.ite ?_ ?_| refine DT.gF ?_ ?_| split)
  .refine DT.ite (DT.Jf _ _ _ _ _) DT.no
 .exact DT.UF _ _ _
 .repeat' (first| exact DT.leaf _| exact DT.no| refine DT.and ?_| refine DT.imp ?_| refine DT.ite ?_ ?_| refine DT.gF ?_ ?_| split)
 .repeat' (first| exact DT.leaf _| exact DT.no| refine DT.and ?_| refine DT.imp ?_| refine DT.ite ?_ ?_| refine DT.gF ?_ ?_| split)
 .simp only [zT h,gO,dP,if_false]
  repeat' (first| exact DT.leaf _| exact DT.no| refine DT.and ?_| refine DT.imp ?_| refine DT.ite ?_ ?_| refine DT.gF ?_ ?_| split)
 .exact DT.no
theorem DT.unV {wr:Bool} {op:UnOp} {x:SV}:DT (unV wr op x):=by
 unfold Lm.unV
 repeat' (first| exact DT.Jf _ _ _ _ _| exact DT.arith _ _| exact DT.leaf _| exact DT.no| refine DT.and ?_| refine DT.imp ?_| refine DT.ite ?_ ?_| refine DT.gF ?_ ?_| split)
theorem DT.sS {t:TypeId} {x:Cl}:DT (sS P b s t x):=by
 unfold Lm.sS
 repeat' (first| exact DT.leaf _| (refine DT.ex λ_=>?_)| exact DT.no| refine DT.and ?_| refine DT.imp ?_| refine DT.ite ?_ ?_| refine DT.gF ?_ ?_| split)
theorem DT.Eb {t:TypeId} {x:Cl}:DT (Eb P b s t x):=by
 unfold Lm.Eb
 repeat' (first| exact DT.leaf _| (refine DT.ex λ_=>?_)| exact DT.no| refine DT.and ?_| refine DT.imp ?_| refine DT.ite ?_ ?_| refine DT.gF ?_ ?_| split)
theorem DT.iv {t:TypeId} {x:Cl} {i:Int}:DT (iv P b s t x i):=by
 unfold Lm.iv
 repeat' (first| exact DT.leaf _| exact DT.no| refine DT.and ?_| refine DT.imp ?_| refine DT.ite ?_ ?_| refine DT.gF ?_ ?_| split)
theorem DT.px {t:TypeId} {x:Cl} {l h:Option Int}:DT (px P b s t x l h):=by
 unfold Lm.px Sj Yo
 repeat' (first| exact DT.leaf _| exact DT.no| refine DT.and ?_| refine DT.imp ?_| refine DT.ite ?_ ?_| refine DT.gF ?_ ?_| split)
theorem DT.vU {t:TypeId} {ps:List (Nat×S1)}:DT (vU P t ps):=by
 unfold Lm.vU
 repeat' (first| exact DT.leaf _| exact DT.no| refine DT.and ?_| refine DT.imp ?_| refine DT.ite ?_ ?_| refine DT.gF ?_ ?_| split)
theorem DT.qu {x:Operand} {f:SV->(SV->Prop)->Prop} (h:∀ v,DT (f v)):DT λK=>qu b s x λv=>f v K:=by
 unfold Lm.qu;cases Lm.fg b s x with
 | none=>exact DT.no
 | some v=>exact h v
theorem DT.nO {x:Operand} {f:Cl->(SV->Prop)->Prop} (h:∀ v,DT (f v)):DT λK=>nO b s x λv=>f v K:=by
 unfold Lm.nO;split;exact h _;exact DT.no
theorem DT.wM {x:Option Operand} {f:Option SV->(SV->Prop)->Prop} (h:∀ v,DT (f v)):DT λK=>wM b s x λv=>f v K:=by
 unfold Lm.wM;cases x with
 | none=>exact h _
 | some x=>exact DT.qu λv=>h (some v)
end
section
variable {X:Vx} {P:Program} {n:Nat} {W:cV} {F:List Atom} {b:Bs} {E:Env} {g w:World} {s s':Ov} {a:Act} {o:Oper}
structure Of (b:Bs) (s s':Ov) (o:Oper):Prop where
 fg:∀ x∈o.op.operands.toList,fg b s x=fg b s' x
 obj:∀ x∈o.op.operands.toList,∀ v,Lm.fg b s x=some v->∀ l∈v.labels,b.obj s l=b.obj s' l
theorem jM {x:Operand} {k k':SV->Prop} (N:Of b s s' o) (hx:x∈o.op.operands.toList) (hk:∀ v,(∀ l∈v.labels,b.obj s l=b.obj s' l)->k v->k' v) (h:qu b s x k):qu b s' x k':=by
 unfold qu at h ⊢;rw [<-N.fg x hx];cases hv:Lm.fg b s x with
 | none=>rw [hv] at h;exact h
 | some v=>rw [hv] at h;exact hk v (N.obj x hx v hv) h
theorem lQ {x:Operand} {k k':Cl->Prop} (N:Of b s s' o) (hx:x∈o.op.operands.toList) (hk:∀ v,(∀ l∈v.labels,b.obj s l=b.obj s' l)->k v->k' v) (h:nO b s x k):nO b s' x k':=by
 unfold nO at h ⊢;rw [<-N.fg x hx];cases hv:Lm.fg b s x with
 | none=>rw [hv] at h;exact h
 | some v=>
  rw [hv] at h
  match v,hv,h with
  | .v (.c c),hv,h=>exact hk c (λl hl=>N.obj x hx _ hv l hl) h
  | .v (.agg _),_,h=>exact h
  | .cZ _,_,h=>exact h
  | .any,_,h=>exact h
  | .arr _ _,_,h=>exact h
theorem Gg {x:Option Operand} {k k':Option SV->Prop} (N:Of b s s' o) (hx:∀ y,x=some y->y∈o.op.operands.toList) (hk:∀ v,k v->k' v) (h:wM b s x k):wM b s' x k':=by
 unfold wM at h ⊢;cases x with
 | none=>exact hk _ h
 | some y=>exact jM N (hx y rfl) (λv _ h=>hk _ h) h
theorem PJ {t:TypeId} {c:Cl} {K:SV->Prop} (N:∀ l∈c.labels,b.obj s l=b.obj s' l):sS P b s t c K=sS P b s' t c K:=by
 unfold sS
 repeat' (first| rfl| (rw [N _ (by simp [Cl.labels])];done)| split)
theorem Vn {t:TypeId} {c:Cl} {K:SV->Prop} (N:∀ l∈c.labels,b.obj s l=b.obj s' l):Eb P b s t c K=Eb P b s' t c K:=by
 unfold Eb
 repeat' (first| rfl| (rw [N _ (by simp [Cl.labels])];done)| split)
theorem Ay {t:TypeId} {c:Cl} {i:Int} {K:SV->Prop} (N:∀ l∈c.labels,b.obj s l=b.obj s' l):iv P b s t c i K=iv P b s' t c i K:=by
 unfold iv
 repeat' (first| rfl| (rw [N _ (by simp [Cl.labels])];done)| split)
theorem LM {t:TypeId} {c:Cl} {i j:Option Int} {K:SV->Prop} (N:∀ l∈c.labels,b.obj s l=b.obj s' l):px P b s t c i j K=px P b s' t c i j K:=by
 unfold px
 repeat' (first| rfl| (rw [N _ (by simp [Cl.labels])];done)| split)
theorem MO {e:Ty} {c:Cl} (N:∀ l∈c.labels,b.obj s l=b.obj s' l):sU b s e c=sU b s' e c:=by
 unfold sU
 repeat' (first| rfl| (rw [N _ (by simp [Cl.labels])];done)| split)
theorem V3 {wr:Bool} {Jw:Bool} {op:BinOp} {t:TypeId} {x y:SV} {K:SV->Prop} (h:CB P t=true):El wr P b s Jw op t x y K=El wr P b s' Jw op t x y K:=by
 unfold El;split;rfl;rfl;rfl;rfl;simp only [zT h,gO,dP,if_false];rfl
theorem zR:∀ {l:List (Nat×Operand)},(∀ x∈l.map (·.2),Lm.fg b s x=Lm.fg b s' x)->sQ b s l=sQ b s' l
 | [],_=>rfl
 | (i,x)::r,h=>by
  unfold sQ;rw [h x (by simp),zR (l:=r) λy hy=>h y (by simpa using .inr (by simpa using hy))]
theorem Qm {src dst:TypeId} {c:SV} {K:SV->Prop} (hd:(match X.P.underlying dst with| some .string| some (.int _)=>true| _=>false)=true) (N:∀ l∈c.labels,b.obj s l=b.obj s' l):oQ X b s src dst c (λv _=>K v)=oQ X b s' src dst c λv _=>K v:=by
 unfold oQ;split;rfl;rfl;rfl
 .rename_i h1 h2;simp [h2] at hd
 .split
  .rw [MO N]
  .rfl
 .rename_i h1 h2;simp [h2] at hd
 .rfl
theorem DT.oQ {src dst:TypeId} {c:SV}:DT λK=>oQ X b s src dst c λv _=>K v:=by
 unfold Lm.oQ adC
 repeat' (first| exact DT.leaf _| exact DT.no| refine DT.and ?_| refine DT.imp ?_| refine DT.ite ?_ ?_| refine DT.gF ?_ ?_| split)
theorem ZH {src dst:TypeId} {c:SV} {K:SV->Ov->Prop} (hd:(match X.P.underlying dst with| some .string| some (.int _)=>true| _=>false)=true):oQ X b s src dst c K=oQ X b s src dst c λv _=>K v s:=by
 unfold oQ;split<;>try rfl
 rename_i h1 h2;simp [h2] at hd
theorem aht {K:SV->Ov->Prop} (hp:lM X.P o=true):Lv X b s o K=Lv X b s o λv _=>K v s:=by
 unfold lM at hp;simp only [ao] at hp;obtain ⟨_,hp⟩:=hp;unfold Lv;split at hp<;>first| (cases hp;done)| skip
 all_goals rename_i heq
 all_goals simp only [heq]
 all_goals first| rfl| skip
 .unfold qu;split
  .exact ZH hp
  .rfl
 .split at hp
  .rename_i hc;unfold BE;simp only [hc];rfl
  .cases hp
theorem acQ (hp:lM X.P o=true):DT λK=>Lv X b s o λv _=>K v:=by
 unfold lM at hp;simp only [ao] at hp;obtain ⟨_,hp⟩:=hp;unfold Lv;split at hp<;>first| (cases hp;done)| skip
 all_goals rename_i heq
 all_goals simp only [heq]
 .exact DT.qu λv=>DT.leaf v
 .exact DT.qu λv=>DT.leaf v
 .exact DT.nO λv=>DT.qu λu=>DT.qu λu'=>by repeat' (first| exact DT.leaf _| exact DT.no| refine DT.and ?_| refine DT.imp ?_| refine DT.ite ?_ ?_| refine DT.gF ?_ ?_| split)
 .exact DT.qu λv=>DT.unV
 .exact DT.qu λv=>by repeat' (first| exact DT.leaf _| exact DT.no| refine DT.and ?_| refine DT.imp ?_| refine DT.ite ?_ ?_| refine DT.gF ?_ ?_| split)
 .exact DT.qu λv=>by repeat' (first| exact DT.leaf _| exact DT.no| refine DT.and ?_| refine DT.imp ?_| refine DT.ite ?_ ?_| refine DT.gF ?_ ?_| split)
 .exact DT.nO λv=>DT.sS
 .exact DT.nO λv=>by repeat' (first| exact DT.leaf _| exact DT.no| refine DT.and ?_| refine DT.imp ?_| refine DT.ite ?_ ?_| refine DT.gF ?_ ?_| split)
 .exact DT.nO λv=>by repeat' (first| exact DT.leaf _| exact DT.no| refine DT.and ?_| refine DT.imp ?_| refine DT.ite ?_ ?_| refine DT.gF ?_ ?_| split)
 .exact DT.nO λv=>DT.nO λq=>by
   repeat' (first| exact DT.iv| exact DT.leaf _| exact DT.no| refine DT.and ?_| refine DT.imp ?_| refine DT.ite ?_ ?_| refine DT.gF ?_ ?_| split)
 .exact DT.nO λv=>DT.nO λq=>by repeat' (first| exact DT.leaf _| exact DT.no| refine DT.and ?_| refine DT.imp ?_| refine DT.ite ?_ ?_| refine DT.gF ?_ ?_| split)
 .split
  .exact DT.vU
  .exact DT.no
 .exact DT.nO λv=>DT.wM λl=>DT.wM λh=>by
   repeat' (first| exact DT.px| exact DT.leaf _| exact DT.no| refine DT.and ?_| refine DT.imp ?_| refine DT.ite ?_ ?_| refine DT.gF ?_ ?_| split)
 .exact DT.qu λv=>DT.qu λu=>DT.El hp
 .exact DT.qu λv=>DT.oQ
 .split at hp
  .rename_i hc;unfold BE;simp only [hc];split
   .exact DT.no
   .unfold pM;simp only;split
    .exact DT.Eb
    .exact DT.no
  .cases hp
end
end Go.Lm

namespace Go.Lm
open Go Go.RowKit
section
variable {X:Vx} {n:Nat} {W:cV} {F:List Atom} {b:Bs} {E:Env} {g w:World} {s s':Ov} {a:Act} {o:Oper}
theorem Lu {K:SV->Prop} (hp:lM X.P o=true) (N:Of b s s' o) (h:Lv X b s o λv _=>K v):Lv X b s' o λv _=>K v:=by
 have hp0:=hp;unfold lM at hp;simp only [ao] at hp;obtain ⟨_,hp⟩:=hp;unfold Lv at h ⊢;split at hp<;>first| (cases hp;done)| skip
 all_goals rename_i heq
 all_goals simp only [heq] at h ⊢
 .exact jM N (by simp [heq,Op.operands]) (λv _ h=>h) h
 .exact jM N (by simp [heq,Op.operands]) (λv _ h=>h) h
 .exact lQ N (by simp [heq,Op.operands]) (λv _ h=>jM N (by simp [heq,Op.operands]) (λv _ h=>jM N (by simp [heq,Op.operands]) (λv _ h=>h) h) h) h
 .exact jM N (by simp [heq,Op.operands]) (λv _ h=>h) h
 .exact jM N (by simp [heq,Op.operands]) (λv _ h=>h) h
 .exact jM N (by simp [heq,Op.operands]) (λv _ h=>h) h
 .exact lQ N (by simp [heq,Op.operands]) (λv hl h=>by rw [<-PJ hl];exact h) h
 .exact lQ N (by simp [heq,Op.operands]) (λv _ h=>h) h
 .exact lQ N (by simp [heq,Op.operands]) (λv _ h=>h) h
 .refine lQ N (by simp [heq,Op.operands]) (λv hl h=>lQ N (by simp [heq,Op.operands]) (λq _ h=>?_) h) h;split at h
  rw [<-Ay hl];exact h;cases h
 .exact lQ N (by simp [heq,Op.operands]) (λv _ h=>lQ N (by simp [heq,Op.operands]) (λq _ h=>h) h) h
 .rename_i t ps;rw [<-zR λx hx=>N.fg x (by simpa [heq,Op.operands] using hx)];exact h
 .refine lQ N (by simp [heq,Op.operands]) (λv hl h=>Gg N (λy hy=>by simp [heq,Op.operands,hy]) (λl h=>Gg N (λy hy=>by simp [heq,Op.operands,hy]) (λm h=>?_) h) h) h;split at h
  rw [<-LM hl];exact h;cases h
 .exact jM N (by simp [heq,Op.operands]) (λv _ h=>jM N (by simp [heq,Op.operands]) (λu _ h=>by rw [<-V3 hp];exact h) h) h
 .exact jM N (by simp [heq,Op.operands]) (λv hl h=>by rw [<-Qm hp hl];exact h) h
 .rename_i c;split at hp
  .rename_i hc;have alp:∀ x∈c.args.toList,x∈o.op.operands.toList:=λx hx=>by
    rw [heq];have Gx:x∈c.args:=by simpa using hx
    simp [Op.operands,Call.operands,Gx]
   unfold BE at h ⊢;simp only [hc] at h ⊢;have alq:∀ (l:List Operand),(∀ x∈l,x∈o.op.operands.toList)->Aw b s l=Aw b s' l:=by
    intro l
    induction l with
    | nil=>intro _;rfl
    | cons x r ih=>
     intro hl;unfold Aw;rw [N.fg x (hl x (by simp)),ih λy hy=>hl y (aG _ hy)]
   have an7:∀ (l:List Operand) (vs:List SV),(∀ x∈l,x∈o.op.operands.toList)->Aw b s l=some vs->∀ v∈vs,∀ k∈v.labels,b.obj s k=b.obj s' k:=by
    intro l
    induction l with
    | nil=>intro vs _ hv v hm;obtain rfl: []=vs:=aj hv;cases hm
    | cons x r ih=>
     intro vs hl hv v hm;unfold Aw at hv;split at hv
     .rename_i u hu;split at hv
      .rename_i q hq;obtain rfl:u::q=vs:=aj hv;rcases aX.1 hm with rfl| hm
       .exact N.obj x (hl x (by simp)) v hu
       .exact ih q (λy hy=>hl y (aG _ hy)) hq v hm
      .cases hv
     .cases hv
   rw [<-alq c.args.toList alp];cases hv:Aw b s c.args.toList with
   | none=>rw [hv] at h;exact h
   | some vs=>
    rw [hv] at h;simp only at h ⊢;unfold pM at h ⊢;simp only at h ⊢;split at h
    .rename_i x t _;rw [<-Vn λk hk=>an7 c.args.toList _ alp hv (.v (.c x)) (by simp) k hk];exact h
    .exact h
  .cases hp
theorem UW (S:dr n W F b E g w s a) {src dst:TypeId} {x:Operand} {c:SV} {K:SV->Prop} (ho:o.op= .convert src dst x) (r:dq E g c (a.eval x)) (hd:(match X.P.underlying dst with| some .string| some (.int _)=>true| _=>false)=true) (h:oQ X b s src dst c λv _=>K v):ER X.P o a w E g K:=by
 have same:∀ {v:Value} {sv:SV},(convert src dst (a.eval x)).run X.P w= .ok v w->dq E g sv v->K sv->ER X.P o a w E g K:=λ{v sv} h1 h2 h3=>
  ⟨v,sv,by simp [execOp,ho,h1],h2,h3⟩
 unfold oQ at h;split at h
 .rename_i k1 k k' m hs hd;obtain ⟨hx,hm⟩:=ia r;have hr:(convert src dst (a.eval x)).run X.P w= .ok (.int k (k.wrap m)) w:=by
   simp [convert,hx,run_underlying hs,run_underlying hd,Conv.intToInt]
  split at h
  .rename_i hk;obtain rfl:=IntKind.eq_of_beq hk;rw [pL hm] at hr;exact same hr (dB hm) h
  .split at h
   .rename_i hw;have hn:=Es hw hm;rw [pL hn] at hr;exact same hr (dB hn) h
   .exact same hr (dB (ev _ _)) (h (ev _ _))
 .rename_i z hs hd;obtain ⟨hx,hz⟩:=r;refine same (v:=.string z) (sv:=.str z) (by simp [convert,hx,run_underlying hs,run_underlying hd]) ⟨rfl,hz⟩ h
 .rename_i k k1 m hs hd;obtain ⟨hx,_⟩:=ia r;obtain ⟨hl,h⟩:=h;refine same (v:=.string (Utf8.encode m)) (sv:=.str (Utf8.encode m)) ?_ ⟨rfl,hl⟩ h;simp [convert,hx,run_underlying hs,run_underlying hd,Conv.intToString]
 .rename_i h2;simp [h2] at hd
 .rename_i e y hs hd;split at h
  .rename_i he;split at h
   .rename_i l hl;obtain ⟨_,hi⟩:=tV S r hl;have hr:=BV (l:=l) hi hs he hd;refine same hr (sv:=.str (gk l)) ⟨rfl,?_⟩ h;have:=lP hi;show (gk l).size<=maxLen;have e2:(gk l).size=l.length:=by simp [gk,ByteArray.size]
    rw [e2];exact this
   .cases h
  .cases h
 .rename_i h1 h2;simp [h2] at hd
 .cases h
theorem RO {K:SV->Prop} (hp:lM X.P o=true) (S:dr n W F b E g w s a) (h:Lv X b s o λv _=>K v):ER X.P o a w E g K:=by
 unfold lM at hp;simp only [ao] at hp;obtain ⟨_,hp⟩:=hp;unfold Lv at h;split at hp<;>first| (cases hp;done)| skip
 all_goals rename_i ho
 all_goals simp only [ho] at h
 .obtain ⟨v,hv,h⟩:=fF h;exact ⟨_,_,by simp [execOp,ho],S.fg hv,h⟩
 .obtain ⟨v,hv,h⟩:=fF h;exact ⟨_,_,by simp [execOp,ho],S.fg hv,h⟩
 .rename_i c x y;obtain ⟨q,hq,h⟩:=dM h;obtain ⟨v,hv,h⟩:=fF h;obtain ⟨u,hu,h⟩:=fF h;split at h
  .rename_i z;obtain ⟨hz,_⟩:=S.fg hq;rcases tn h with ⟨e,h⟩| ⟨e,h⟩<;>subst e
   .exact ⟨a.eval x,_,by simp [execOp,ho,hz,asBool],S.fg hv,h⟩
   .exact ⟨a.eval y,_,by simp [execOp,ho,hz,asBool],S.fg hu,h⟩
  .cases h
 .rename_i op t x;obtain ⟨v,hv,h⟩:=fF h;exact ER.of (m:=Op.unary op (a.eval x)) (by simp [execOp,ho]) (RY (S.fg hv) h)
 .obtain ⟨v,hv,h⟩:=fF h;split at h
  .split at h
   .rename_i l _ c hc;obtain ⟨us,h1,h2⟩:=S.fg hv;obtain ⟨u,h3,h4⟩:=h1.get hc;exact ⟨u,.v c,by simp [execOp,ho,h2,Instr.extract,h3],h4,h⟩
   .cases h
  .cases h
 .obtain ⟨v,hv,h⟩:=fF h;split at h
  .split at h
   .rename_i f hf;split at h
    .rename_i r hr;exact FO ho (S.fg hv) hf hr h
    .cases h
   .cases h
  .cases h
 .rename_i t x;obtain ⟨c,hc,h⟩:=dM h;exact ER.of (m:=Instr.loadAt t (a.eval x)) (by simp [execOp,ho]) (xW S (S.fg hc) h)
 .rename_i x;obtain ⟨c,hc,h⟩:=dM h;have r:=S.fg hc;have key:∀ q:Addr,a.eval x= .pointer (some q)->(execOp a.eval o).run X.P w= .ok (.value (a.eval x)) w:=λq hq=>by simp [execOp,ho,hq]
  split at h
  .obtain ⟨bb,h1,h2⟩:=r;exact ⟨_,_,key _ h2,S.fg hc,h⟩
  .obtain ⟨h0,v,h1,h2⟩:=r;obtain ⟨cs,h3,_⟩:=Ah h1 h0.1 h0.2.1;obtain ⟨q,hq,_⟩:=h3 g (bA.refl g);rw [hq] at h2;exact ⟨_,_,key _ h2,S.fg hc,h⟩
  .obtain ⟨v,h1,h2,q,hq⟩:=r;exact ⟨_,_,key _ hq,S.fg hc,h⟩
  exact ⟨_,_,key _ r.2.1,S.fg hc,h⟩;cases h
 .obtain ⟨c,hc,h⟩:=dM h;split at h
  .rename_i f hf;split at h
   .rename_i ie kF;obtain ⟨hs,h⟩:=dc h;split at h
    .rename_i c' Na;obtain ⟨v,h1,h2⟩:=FR (w:=w) ho (S.fg hc) hf kF hs Na;exact ⟨v,.c c',h1,h2,h⟩
    .cases h
   .cases h
  .cases h
 .obtain ⟨c,hc,h⟩:=dM h;obtain ⟨q,hq,h⟩:=dM h;split at h
  exact r8 S ho (S.fg hc) (ia (S.fg hq)).1 h;cases h
 .obtain ⟨c,hc,h⟩:=dM h;obtain ⟨q,hq,h⟩:=dM h;split at h
  .obtain ⟨h0,h1,h⟩:=h;exact FN ho (by assumption) (S.fg hc).1 (S.fg hq).1 h0 h1 h
  .cases h
 .split at h
  .rename_i l hl;exact B4 ho (tP S hl) h
  .cases h
 .obtain ⟨c,hc,h⟩:=dM h;obtain ⟨l,h,hl⟩:=tQ S h;obtain ⟨m,h,hm⟩:=tQ S h;split at h
  .rename_i i j pH CZ;exact BX S ho (S.fg hc) (hl _ pH) (hm _ CZ) h
  .cases h
 .rename_i op t x y yt;obtain ⟨v,hv,h⟩:=fF h;obtain ⟨u,hu,h⟩:=fF h;exact ER.of (m:=(do eqGuard op t x y (a.eval x) (a.eval y);binOp op t (a.eval x) (a.eval y))) (by simp [execOp,ho]) (L0 S (S.fg hv) (S.fg hu) h)
 .obtain ⟨v,hv,h⟩:=fF h;exact UW S ho (S.fg hv) hp h
 .rename_i c;split at hp
  .rename_i hc;unfold BE at h;split at h
   .cases h
   .rename_i args ha;simp only [hc] at h;have hv:=tS S ha;obtain ⟨callee,cargs,ctys⟩:=c;simp only at hc ha hv h;subst hc;unfold pM at h;simp only at h;split at h
    .rename_i x t Y7;obtain ⟨u,e,hu⟩:=tO hv;obtain ⟨ox,rfl,rfl⟩:=ami e;obtain rfl:=V6 Y7;exact LW S ho hu h
    .cases h
  .cases hp
end
theorem fC {α:Type}:∀ (l:List α) {k:List α->Prop},ji l k->k l
 | [],_,h=>h
 | _::l,_,h=>fC l h
theorem uc:∀ (l:List Bool) {k:List Bool->Prop},Jq l k->k l
 | [],_,h=>h
 | true::l,_,h=>uc l h
 | false::l,_,h=>uc l h
section
variable {ops:Array Oper}
theorem HL:∀ {k:Nat} {l:List Bool} {j:Nat},dX (UM k l) j=true->j=k\/dX l j=true
 | 0,[],0,_=>.inl rfl
 | 0,[],j+1,h=>by simp [UM,dX] at h
 | 0,_::r,0,_=>.inl rfl
 | 0,_::r,j+1,h=>.inr h
 | k+1,[],0,h=>by simp [UM,dX] at h
 | k+1,[],j+1,h=>by
  rcases HL (k:=k) (l:=[]) h with e| e;exact .inl (by rw [e]);simp [dX] at e
 | k+1,a::r,0,h=>.inr h
 | k+1,a::r,j+1,h=>by
  rcases HL (k:=k) (l:=r) h with e| e;exact .inl (by rw [e]);exact .inr e
theorem Yu:∀ {a b:List Bool} {j:Nat},dX (orB a b) j=true->dX a j=true\/dX b j=true
 | [],_,_,h=>.inr h
 | _::_,[],_,h=>.inl h
 | a::r,b::q,0,h=>by simpa [orB,dX] using h
 | a::r,b::q,j+1,h=>Yu (a:=r) (b:=q) h
theorem HX {acc:List (List Bool)} {i:Nat}:∀ {l:List Edge},dX (U1 acc l) i=true->∃ e∈l,Region.binds .any e=true/\(e.on=i\/dX (lz acc e.on) i=true)
 | [],h=>by simp [U1,dX] at h
 | e::r,h=>by
  unfold U1 at h;split at h
  .rename_i hb;rcases Yu h with h| h
   .rcases HL h with h| h
    .exact ⟨e,aS ..,hb,.inl h.symm⟩
    .exact ⟨e,aS ..,hb,.inr h⟩
   .obtain ⟨e',h1,h2⟩:=HX h;exact ⟨e',aG _ h1,h2⟩
  .obtain ⟨e',h1,h2⟩:=HX h;exact ⟨e',aG _ h1,h2⟩
theorem IU:∀ {l:List (List Bool)} {i:Nat},lz l i=(l[i]?).getD []
 | [],_=>by simp [lz]
 | _::_,0=>rfl
 | _::r,i+1=>by simp [lz,IU (l:=r)]
theorem IV:∀ {l:List Bool} {i:Nat},dX l i=(l[i]?).getD false
 | [],_=>by simp [dX]
 | _::_,0=>rfl
 | _::r,i+1=>by simp [dX,IV (l:=r)]
theorem L8:∀ {r:List Oper} {acc:List (List Bool)} {k:List (List Bool)->Prop},X6 r acc k->(∀ j,r[j]?=ops[acc.length+j]?)->(∀ j i,dX (lz acc j) i=true->tx ops j i)->∃ ms,k ms/\∀ j i,dX (lz ms j) i=true->tx ops j i
 | [],acc,k,h,_,hw=>⟨acc,h,hw⟩
 | o::r,acc,k,h,hr,hw=>by
  have h1:=fC _ (uc _ h);refine L8 h1 (λj=>?_) λj i hj=>?_
  .have:=hr (j+1);simp only [List.getElem?_cons_succ] at this;rw [this,af,ay];congr 1;omega
  .rw [IU] at hj;by_cases eJ:j< acc.length
   .rw [aU eJ,<-IU] at hj;exact hw j i hj
   .by_cases he:j=acc.length
    .subst he;rw [aZ (az _)] at hj;simp only [pq,List.getElem?_cons_zero,Option.getD_some] at hj;obtain ⟨e,h2,h3,h4⟩:=HX hj;have ho:ops[acc.length]?=some o:=by have:=hr 0;simpa using this.symm
     have key:∀ f,(e.on=i\/reach ops f e.on i=true)->reach ops (f+1) acc.length i=true:=λf hf=>by
      unfold reach;rw [ho];simp only [Array.any_eq_true'];refine ⟨e,by simpa using h2,?_⟩;simp only [ao,iD];exact ⟨h3,hf.imp (λh=>by simpa using h) id⟩
     rcases h4 with h4| h4;exact ⟨1,key 0 (.inl h4)⟩
     .obtain ⟨f,hf⟩:=hw _ _ h4;exact ⟨f+1,key f (.inr hf)⟩
    .rw [dy (by simp;omega)] at hj;simp [dX] at hj
theorem DE {pu:List Bool} {ms:List (List Bool)}:∀ {l dn:List Nat},A6 pu ms dn l=true->∀ (d:List Nat) (i:Nat) (r:List Nat),d++i::r=l->∀ j,j∈dn\/j∈d->dX pu j=false->dX (lz ms i) j=true
 | [],dn,_,d,i,r,he,_,_,_=>by simp at he
 | x::l,dn,h,d,i,r,he,j,hj,hp=>by
  unfold A6 at h;simp only [ao] at h;cases d with
  | nil=>
   simp only [eE,List.cons.injEq] at he;obtain ⟨rfl,rfl⟩:=he;rcases hj with hj| hj
   .have:=bo.1 h.1 j hj;rw [hp] at this;simpa using this
   .cases hj
  | cons y d=>
   simp only [eB,List.cons.injEq] at he;obtain ⟨rfl,he⟩:=he;refine DE h.2 d i r he j ?_ hp;rcases hj with hj| hj;exact .inl (aG _ hj)
   .rcases aX.1 hj with rfl| hj
    .exact .inl (aS ..)
    .exact .inr hj
theorem CT {k t:Nat} {o:Oper} (ho:ops[k]?=some o):isDst ops k t=true↔o.dst=some t:=by
 unfold isDst ZD;rw [ho];simp only [o6];cases hd:o.dst with
 | none=>simp
 | some d=>simp
theorem zH {pu:List Bool} {ms:List (List Bool)} (h:BM ops pu ms=true) {i k:Nat} {oi ok:Oper} {d:Nat} (hi:ops[i]?=some oi) (hk:ops[k]?=some ok) (hd:ok.dst=some d) (hm:d∈slotsOf ops oi):dX (lz ms i) k=true\/dX pu k=false:=by
 have h1:=bo.1 h i (dm.2 (aQ.1 hi).1);simp only [hi] at h1;have h2:=bo.1 (bo.1 h1 d hm) k (dm.2 (aQ.1 hk).1);rw [(CT hk).2 hd] at h2;simpa using h2
theorem oH {pu:List Bool} {ms:List (List Bool)}:∀ {l:List Nat},tY ops pu ms l=true->∀ (d:List Nat) (i:Nat) (r:List Nat),d++i::r=l->dX pu i=true->∀ (o:Oper),ops[i]?=some o->∀ t∈slotsOf ops o,o.dst≠some t/\∀ k∈r,∀ ok,ops[k]?=some ok->(dX pu k=true\/dX (lz ms k) i=false)->ok.dst≠some t
 | [],_,d,i,r,he,_,_,_,_,_=>by simp at he
 | x::l,h,d,i,r,he,hp,o,ho,t,ht=>by
  unfold tY at h;simp only [ao] at h;cases d with
  | nil=>
   simp only [eE,List.cons.injEq] at he;obtain ⟨rfl,rfl⟩:=he;have h1:=h.1;rw [hp,ho] at h1;simp only [Bool.not_true,jE] at h1;have h2:=bo.1 h1 t ht;simp only [ao,bG] at h2;refine ⟨λe=>?_,λk hk ok xd hor e=>?_⟩;rw [(CT ho).2 e] at h2;cases h2.1
   .have h3:=bo.1 h2.2 k hk;rw [(CT xd).2 e] at h3;rcases hor with hor| hor<;>rw [hor] at h3<;>simp at h3
  | cons y d=>
   simp only [eB,List.cons.injEq] at he;obtain ⟨rfl,he⟩:=he;exact oH h.2 d i r he hp o ho t ht
end
section
variable {X:Vx} {n:Nat} {W:cV} {F:List Atom} {b:Bs} {E:Env} {g w:World} {s s':Ov} {a:Act} {o:Oper} {ops:Array Oper}
structure Eqv (b:Bs) (s s':Ov):Prop where
 slot:∀ t,b.slot s' t=b.slot s t
 h:s'.h=s.h
 n:s'.n=s.n
theorem Eqv.refl:Eqv b s s:=⟨λ_=>rfl,rfl,rfl⟩
theorem Eqv.obj (e:Eqv b s s') (l:Nat):b.obj s' l=b.obj s l:=by unfold Bs.obj;rw [e.h]
theorem dr.eqv (S:dr n W F b E g w s a) (e:Eqv b s s'):dr n W F b E g w s' a:=by
 refine ⟨S.size,S.defers,λt v hv=>S.fr t v (by rw [<-e.slot];exact hv),?_,λl hl=>by rw [e.obj];exact S.top l (by rw [<-e.n];exact hl)⟩;have:b.heap s'=b.heap s:=by
  unfold Bs.heap;rw [e.n];exact gH λl _=>e.obj l
 rw [this];exact S.sat
theorem S9 {d:Nat} {v:SV} (h:b.slot s d=some v):Eqv b s (s.put (some d) v):=by
 refine ⟨λt=>?_,rfl,rfl⟩;rw [mC];split
 .rename_i e;subst e;exact h.symm
 .rfl
def oU (ops:Array Oper) (b:Bs) (s:Ov) (o:Oper) (q:Bool):Prop:=match o.guard with
 | none=>q=true
 | some (j,wt)=>∃ d,(ops[j]?).bind (·.dst)=some d/\((∃ v,b.slot s d=some (.v (.c (.k (.bool v))))/\q=(v==wt))\/((∃ l,b.slot s d=some (.cZ l))/\q=false))
theorem J9 {K:Bool->Ov->Prop} (h:Et ops b s o K):∃ q s',oU ops b s o q/\Eqv b s s'/\K q s':=by
 unfold Et at h;unfold oU;split at h
 .rename_i hg;exact ⟨true,s,by rw [hg],Eqv.refl,h⟩
 .rename_i j wt hg;split at h
  .cases h
  .rename_i d hd;split at h
   .rename_i v hv;rcases tn h with ⟨e,h⟩| ⟨e,h⟩<;>subst e
    .exact ⟨_,_,by rw [hg];exact ⟨d,hd,.inl ⟨_,hv,rfl⟩⟩,S9 hv,h⟩
    .exact ⟨_,_,by rw [hg];exact ⟨d,hd,.inl ⟨_,hv,rfl⟩⟩,S9 hv,h⟩
   .rename_i l hv;exact ⟨_,_,by rw [hg];exact ⟨d,hd,.inr ⟨⟨l,hv⟩,rfl⟩⟩,Eqv.refl,h⟩
   .cases h
theorem oU.sem {q:Bool} (S:dr n W F b E g w s a) (h:oU ops b s o q):Region.wanted o (yielded ops a.tmps)=q:=by
 unfold oU at h;split at h
 .rename_i hg;unfold Region.wanted;rw [hg,h]
 .rename_i j wt hg;obtain ⟨d,hd,h⟩:=h;unfold Region.wanted;rw [hg];simp only;unfold yielded;rw [hd];rcases h with ⟨v,hv,e⟩| ⟨⟨l,hv⟩,e⟩
  .obtain ⟨hx,_⟩:=S.fr d _ hv;subst e;have:(a.tmps[d]?).getD undef= .bool v:=by rw [<-cj];exact hx
   cases hq:a.tmps[d]? with
   | none=>rw [hq] at this;simp [undef] at this
   | some y=>rw [hq] at this;simp at this;subst this;cases v<;>cases wt<;>simp [hq]
  .obtain ⟨us,_,hx⟩:=S.fr d _ hv;subst e;have:(a.tmps[d]?).getD undef= .tuple us.toArray:=by rw [<-cj];exact hx
   cases hq:a.tmps[d]? with
   | none=>simp [hq]
   | some y=>rw [hq] at this;simp at this;subst this;simp [hq]
theorem oU.congr {q:Bool} (hs:∀ t∈slotsOf ops o,b.slot s t=b.slot s' t) (h:oU ops b s o q):oU ops b s' o q:=by
 unfold oU at h ⊢;split at h;exact h
 .rename_i j wt hg;obtain ⟨d,hd,h⟩:=h;have:=hs d (ja _ (by rw [hg];simp [hd]));rw [this] at h;exact ⟨d,hd,h⟩
theorem yK (hs:∀ t∈slotsOf ops o,b.slot s t=b.slot s' t) {x:Operand} (hx:x∈o.op.operands.toList):fg b s x=fg b s' x:=by
 cases x with
 | tmp t=>exact hs t (bH _ (List.mem_filterMap.2 ⟨.tmp t,hx,rfl⟩))
 | const _=>rfl
 | func _=>rfl
 | global _=>rfl
theorem Of.of (hs:∀ t∈slotsOf ops o,b.slot s t=b.slot s' t) (hr:∀ l∈Mj b s o,b.obj s l=b.obj s' l):Of b s s' o:=
 ⟨λx hx=>yK hs hx,λx hx v hv l hl=>hr l (List.mem_flatMap.2 ⟨x,hx,by rw [hv];exact hl⟩)⟩
theorem Mi (hs:∀ t∈slotsOf ops o,b.slot s t=b.slot s' t):Mj b s o=Mj b s' o:=by
 unfold Mj;have:∀ l:List Operand,(∀ x∈l,x∈o.op.operands.toList)->l.flatMap (λx=>match fg b s x with
   | some v=>v.labels
   | none=>[])=l.flatMap (λx=>match fg b s' x with
   | some v=>v.labels
   | none=>[]):=by
  intro l
  induction l with
  | nil=>intro _;rfl
  | cons x r ih=>
   intro h;rw [kq,kq,ih λy hy=>h y (aG _ hy),yK hs (h x (by simp))]
 exact this _ λx hx=>hx
theorem qA (hs:∀ t∈slotsOf ops o,b.slot s t=b.slot s' t):vg b s o=vg b s' o:=by
 unfold vg;split;rfl;rfl;exact Mi hs
structure AH (X:Vx) (n:Nat) (ops:Array Oper) (b:Bs) (s:Ov) (o:Oper) (d:Nat) (sv:SV):Prop where
 dst:o.dst=some d
 lt:d< n
 slot:b.slot s d=some sv
 pure:lM X.P o=true
 run:(oU ops b s o true/\Lv X b s o λv _=>v=sv)\/(oU ops b s o false/\sv= .tH)
theorem AH.jG {d:Nat} {sv:SV} (h:AH X n ops b s o d sv) (hs:∀ t∈slotsOf ops o,b.slot s t=b.slot s' t) (hd:b.slot s' d=b.slot s d) (hr:∀ l∈vg b s o,b.obj s l=b.obj s' l):AH X n ops b s' o d sv:=by
 refine ⟨h.dst,h.lt,by rw [hd];exact h.slot,h.pure,?_⟩;rcases h.run with ⟨h1,h2⟩| ⟨h1,h2⟩
 .refine .inl ⟨h1.congr hs,?_⟩;have mv:∀ {x:Operand},x∈o.op.operands.toList->qu b s x (λv=>v=sv)->qu b s' x (λv=>v=sv):=λ{x} hx q=>by
   unfold qu at q ⊢;rw [<-yK hs hx];exact q
  unfold vg at hr;split at hr
  .rename_i x e;unfold Lv at h2 ⊢;rw [e] at h2 ⊢;exact mv (by rw [e];simp [Op.operands]) h2
  .rename_i x e;unfold Lv at h2 ⊢;rw [e] at h2 ⊢;exact mv (by rw [e];simp [Op.operands]) h2
  .exact Lu h.pure (Of.of hs hr) h2
 .exact .inr ⟨h1.congr hs,h2⟩
theorem AH.again {d:Nat} {sv:SV} (h:AH X n ops b s o d sv) (S:dr n W F b E g w s a):
  ∃ v,(Region.wanted o (yielded ops a.tmps)=true->(execOp a.eval o).run X.P w= .ok (.value v) w)/\(Region.wanted o (yielded ops a.tmps)=false->v=undef)/\dr n W F b E g w s (a.put o.dst v):=by
 have back:∀ {v:Value},dq E g sv v->dr n W F b E g w s (a.put o.dst v):=λ{v} r=>by
  have:=S.put (d:=some d) (by simpa using h.lt) r;rw [h.dst];refine this.eqv ⟨λt=>?_,rfl,rfl⟩;rw [mC];split
  .rename_i e;subst e;exact h.slot
  .rfl
 rcases h.run with ⟨h1,h2⟩| ⟨h1,h2⟩
 .obtain ⟨v,JZ,r1,r2,rfl⟩:=RO h.pure S h2;exact ⟨v,λ_=>r1,λq=>absurd q (by rw [h1.sem S];simp),back r2⟩
 .subst h2;exact ⟨undef,λq=>absurd q (by rw [h1.sem S];simp),λ_=>rfl,back jk⟩
theorem Ge {K:Ov->Prop} (S:dr n W F b E g w s a) (hp:lM X.P o=true) (ald:∀ t∈slotsOf ops o,o.dst≠some t) (h:OG X n ops b s o K):
  ∃ d v sv s',dr n W F b E g w s' (a.put o.dst v)/\K s'/\AH X n ops b s' o d sv/\vg b s' o=vg b s o/\(∀ t,o.dst≠some t->b.slot s' t=b.slot s t)/\∀ l,b.obj s' l=b.obj s l:=by
 unfold OG at h;obtain ⟨hd0,h⟩:=dc h;obtain ⟨d,hd⟩:∃ d,o.dst=some d:=by
  unfold lM at hp;simp only [ao] at hp;exact lT.1 hp.1
 have hdn:d< n:=by rw [hd] at hd0;simpa using hd0
 obtain ⟨q,s1,hq,he,h⟩:=J9 h;have S1:=S.eqv he;have gD:∀ t∈slotsOf ops o,d≠t:=λt ht e=>ald t ht (by rw [hd,e]);have jK:∀ (sv:SV),∀ t,d≠t->b.slot (s1.put (some d) sv) t=b.slot s t:=λsv t ht=>by rw [mC,if_neg ht,he.slot]
 have hs1:∀ (sv:SV),∀ t∈slotsOf ops o,b.slot s1 t=b.slot (s1.put (some d) sv) t:=λsv t ht=>by rw [jK sv t (gD t ht),he.slot]
 have hs0:∀ (sv:SV),∀ t∈slotsOf ops o,b.slot s t=b.slot (s1.put (some d) sv) t:=λsv t ht=>by rw [jK sv t (gD t ht)]
 cases q with
 | true=>
  simp only at h;rw [aht hp] at h;obtain ⟨v,sv,r1,r2,k,h2⟩:=RO hp S1 ((acQ hp).det h);rw [hd] at k ⊢;refine ⟨d,v,sv,_,S1.put (by simpa using hdn) r2,k,⟨hd,hdn,by rw [mC,if_pos rfl],hp,.inl ⟨hq.congr (hs0 sv),Lu hp (Of.of (hs1 sv) λl _=>rfl) h2⟩⟩,(qA (hs0 sv)).symm,λt ht=>jK sv t λe=>ht (by rw [e]),λl=>he.obj l⟩
 | false=>
  simp only at h;rw [hd] at h ⊢;refine ⟨d,undef,.tH,_,S1.put (by simpa using hdn) jk,h,⟨hd,hdn,by rw [mC,if_pos rfl],hp,.inr ⟨hq.congr (hs0 _),rfl⟩⟩,(qA (hs0 _)).symm,λt ht=>jK _ t λe=>ht (by rw [e]),λl=>he.obj l⟩
end
section
variable {X:Vx} {n:Nat} {W:cV} {F:List Atom} {b:Bs} {E:Env} {g w:World} {s s':Ov} {a:Act} {o:Oper} {ops:Array Oper}
theorem mj:∀ {l m:Am} {t:Nat},gh (l++m) t=match gh l t with
  | some v=>some v
  | none=>gh m t
 | [],_,_=>rfl
 | (k,v)::r,m,t=>by
  simp only [eB,gh];cases Nat.beq k t with
  | true=>rfl
  | false=>exact mj (l:=r)
theorem nU:∀ {l m:List (Nat×HO)} {t:Nat},gG (l++m) t=match gG l t with
  | some v=>some v
  | none=>gG m t
 | [],_,_=>rfl
 | (k,v)::r,m,t=>by
  simp only [eB,gG];cases Nat.beq k t with
  | true=>rfl
  | false=>exact nU (l:=r)
theorem vG:∀ {l:List (Nat×HO)} {t:Nat},t ∉ l.map (·.1)->gG l t=none
 | [],_,_=>rfl
 | (k,v)::r,t,h=>by
  simp only [gG];have h1:¬k=t:=λe=>h (by simp [e]);rw [ix h1];exact vG λq=>h (by simpa using .inr (by simpa using q))
theorem mD:∀ {l:List HO} {k:Nat} {o:HO},l[k]?=some o->lN l k=o
 | [],_,_,h=>by simp at h
 | x::r,0,o,h=>by simpa [lN] using h
 | x::r,k+1,o,h=>mD (l:=r) (by simpa using h)
theorem nT:∀ {l:List HO} {k:Nat},l.length<=k->lN l k= .gone
 | [],_,_=>rfl
 | x::r,0,h=>by simp at h
 | x::r,k+1,h=>nT (l:=r) (by simpa using h)
def Bs.JQ (b:Bs) (s:Ov):Bs:= {f:=s.f++b.f,h:=b.heap s}
theorem Hl {s2:Ov} (h:s2.f= []) (t:Nat):(b.JQ s).slot s2 t=b.slot s t:=by
 unfold Bs.slot Bs.JQ;rw [h];exact mj
theorem yM (h:∀ l,s.n<=l->b.obj s l= .gone) (l:Nat):lN (b.heap s) l=b.obj s l:=by
 by_cases hl:l< s.n;exact mD (eM hl);rw [nT (by rw [dQ];omega),h l (by omega)]
theorem DB {s2 s3:Ov} (h:∀ l,s.n<=l->b.obj s l= .gone) (h3:s3.h=s2.h++s.h) (l:Nat):(b.JQ s).obj s2 l=b.obj s3 l:=by
 unfold Bs.obj;rw [h3,nU];show (match gG s2.h l with| some o=>o| none=>lN (b.heap s) l)=_
 cases gG s2.h l with
 | some o=>rfl
 | none=>exact yM h l
theorem Hm {s2 s3:Ov} (h:∀ l,s.n<=l->b.obj s l= .gone) (h3:s3.h=s2.h++s.h) (hn:s3.n=s2.n):(b.JQ s).heap s2=b.heap s3:=by
 unfold Bs.heap;rw [hn];exact gH λl _=>DB h h3 l
theorem dr.JQ (S:dr n W F b E g w s a):dr n W F (b.JQ s) E g w {f:=[],h:=[],n:=s.n} a:=by
 refine ⟨S.size,S.defers,λt v hv=>S.fr t v (by rw [<-Hl (s2:= {f:=[],h:=[],n:=s.n}) rfl];exact hv),?_,λl hl=>?_⟩;rw [Hm (s2:= {f:=[],h:=[],n:=s.n}) (s3:=s) S.top rfl rfl];exact S.sat
 .rw [DB (s2:= {f:=[],h:=[],n:=s.n}) (s3:=s) S.top rfl];exact S.top l hl
theorem dr.merged {E':Env} {g' w':World} {s2:Ov} (top:∀ l,s.n<=l->b.obj s l= .gone) (hf:s2.f= []) (S:dr n W F (b.JQ s) E' g' w' s2 a):dr n W F b E' g' w' {f:=s.f,h:=s2.h++s.h,n:=s2.n} a:=by
 refine ⟨S.size,S.defers,λt v hv=>S.fr t v (by rw [Hl hf];exact hv),?_,λl hl=>?_⟩;rw [<-Hm (s2:=s2) (s3:= {f:=s.f,h:=s2.h++s.h,n:=s2.n}) top rfl rfl];exact S.sat
 .rw [<-DB (s2:=s2) (s3:= {f:=s.f,h:=s2.h++s.h,n:=s2.n}) top rfl];exact S.top l hl
structure amx (b:Bs) (s s':Ov) (d:Option Nat) (ks:List Nat):Prop where
 slot:∀ t,d≠some t->b.slot s' t=b.slot s t
 obj:∀ l,l ∉ ks->b.obj s' l=b.obj s l
theorem FH {d:Option Nat} {v:SV} {t:Nat} (h:d≠some t):b.slot (s.put d v) t=b.slot s t:=by
 cases d with
 | none=>rfl
 | some d=>rw [mC,if_neg λe=>h (by rw [e])]
theorem Sn {d:Option Nat} {v:SV} {l:Nat}:b.obj (s.put d v) l=b.obj s l:=by cases d<;>rfl
def abQ (n:Nat) (W:cV) (F:List Atom) (b:Bs) (E:Env) (g:World) (s:Ov) (d:Option Nat) (K:Ov->List Nat->Prop) (a':Act) (w':World):Prop:=∃ E' g' s' ks,bz E E'/\bA g g'/\dr n W F b E' g' w' s' a'/\K s' ks/\amx b s s' d ks
theorem MH (jH:js W X.P X.ct) {K:Ov->List Nat->Prop} (S:dr n W F b E g w s a) (h:acS X n ops b s o K):
  (Region.wanted o (yielded ops a.tmps)=true/\lh X.P o a w λv w'=>abQ n W F b E g s o.dst K (a.put o.dst v) w')\/(Region.wanted o (yielded ops a.tmps)=false/\abQ n W F b E g s o.dst K (a.put o.dst undef) w):=by
 unfold acS at h;obtain ⟨hd,h⟩:=dc h;obtain ⟨q,s1,hq,he,h⟩:=J9 h;have S1:=S.eqv he;cases q with
 | true=>
  refine .inl ⟨hq.sem S,?_⟩;have hr:=XE jH S1.JQ h;have key:∀ v w',Out n W F (b.JQ s1) E g a (λv s'=>match s'.f with
    | []=>K (({f:=s1.f,h:=s'.h++s1.h,n:=s'.n}:Ov).put o.dst v) (s'.h.map (·.1))
    | _=>False) v w'->abQ n W F b E g s o.dst K (a.put o.dst v) w':=by
   rintro v w' ⟨E',g',s2,sv,h1,h2,S2,r,k⟩;split at k
   .rename_i hf;refine ⟨E',g',_,_,h1,h2,(S2.merged S1.top hf).put hd r,k,λt ht=>?_,λl hl=>?_⟩
    .rw [FH ht];exact he.slot t
    .rw [Sn,<-he.obj];unfold Bs.obj;rw [nU,vG hl]
   .exact k.elim
  rcases hr with ⟨v,w',hr,h⟩| ⟨w',hr,h⟩| ⟨f,args,hr,h⟩;exact .inl ⟨v,w',hr,key v w' h⟩;exact .inr (.inl ⟨w',hr,key undef w' h⟩);exact .inr (.inr ⟨f,args,hr,h.mono key⟩)
 | false=>exact .inr ⟨hq.sem S,E,g,_,_,bz.refl E,bA.refl g,S1.put hd jk,h,λt ht=>by rw [FH ht,he.slot],λl _=>by rw [Sn,he.obj]⟩
def Uc (X:Vx) (n:Nat) (W:cV) (F:List Atom) (b:Bs) (E:Env) (g:World) (ops:Array Oper) (ms:List (List Bool)) (pu:List Bool) (ord:List Nat) (K:Ov->Prop) (dn rest:List Nat) (c:Act) (w':World):Prop:=
 dn++rest=ord/\∃ E' g' s lv,bz E E'/\bA g g'/\dr n W F b E' g' w' s c/\BC X n ops b ms pu rest lv s K/\
  (∀ p∈lv,p.1∈dn/\dX pu p.1=true/\∃ o d sv,ops[p.1]?=some o/\AH X n ops b s o d sv/\vg b s o=p.2)/\
  ∀ i∈dn,dX pu i=true->(∀ j∈dn,dX pu j=false->¬tx ops j i)->∃ p∈lv,p.1=i
theorem qX:∀ (l:List (List Nat)) {k:List (List Nat)->Prop},qY l k->k l
 | [],_,h=>h
 | _::l,_,h=>qX l (fC _ h)
theorem qT:∀ {os:List (List Nat)} {i:Nat} {r:List Nat},i::r∈os->i∈vM os
 | [],_,_,h=>by cases h
 | []::os,i,r,h=>by
  rcases aX.1 h with h| h;cases h;exact qT (os:=os) h
 | (x::q)::os,i,r,h=>by
  unfold vM;rcases aX.1 h with h| h
  .injection h with h1 h2;subst h1;split
   .rename_i hm;exact gB.1 hm
   .exact aS ..
  .have:=qT (os:=os) h;split
   .exact this
   .exact aG _ this
theorem qx:∀ {os:List (List Nat)} {i:Nat} {r:List Nat},i::r∈os->r∈r6 i os
 | [],_,_,h=>by cases h
 | []::os,i,r,h=>by
  rcases aX.1 h with h| h;cases h;exact qx (os:=os) h
 | (x::q)::os,i,r,h=>by
  unfold r6;rcases aX.1 h with h| h
  .injection h with h1 h2;subst h1 h2;rw [Nat.beq_refl];exact aS ..
  .have:=qx (os:=os) h;split
   .exact aG _ this
   .exact this
theorem DC {p:Nat->Prop}:∀ {l:List Nat} {i:Nat},ajo l p->i∈l->p i
 | [],_,_,h=>by cases h
 | [x],i,h,hi=>by
  obtain rfl:i=x:=by simpa using hi
  exact h
 | x::y::r,i,⟨h1,h2⟩,hi=>by
  rcases aX.1 hi with rfl| hi;exact h1;exact DC (l:=y::r) h2 hi
theorem adw {ms:List (List Bool)} {np dn:List Nat} {i:Nat} (h:∀ j∈np,dX (lz ms i) j=true->j∈dn):Vf ms np dn i=true:=bo.2 λj hj=>by
 cases hb:dX (lz ms i) j with
 | false=>rfl
 | true=>rw [gB.2 (h j hj hb)];rfl
theorem vP {pu:List Bool}:∀ {l:List Nat} {i:Nat},qZ pu l i=true->∃ r1 r2,l=r1++i::r2/\∀ j∈r1,dX pu j=true
 | [],_,h=>by cases h
 | x::r,i,h=>by
  unfold qZ at h;rcases Bool.or_eq_true_iff.1 h with h| h;exact ⟨[],r,by rw [ai h];rfl,λ_ hj=>by cases hj⟩
  .obtain ⟨h1,h2⟩:=Bool.and_eq_true_iff.1 h;obtain ⟨r1,r2,e,hp⟩:=vP h2;refine ⟨x::r1,r2,by rw [e];rfl,λj hj=>?_⟩;rcases aX.1 hj with rfl| hj
   .exact h1
   .exact hp j hj
theorem FG:∀ {l r q:List Nat},BH l r=some q->l++q=r
 | [],r,q,h=>(aj h).symm
 | _::_,[],_,h=>by cases h
 | a::l,b::r,q,h=>by
  unfold BH at h;cases hb:Nat.beq a b with
  | false=>rw [hb] at h;cases h
  | true=>
   rw [hb] at h;have h:BH l r=some q:=h;rw [<-FG h,ai hb];rfl
theorem Dh {pu:List Bool} {ms:List (List Bool)} {np:List Nat} {os:List (List Nat)}:∀ {l d0:List Nat},xq pu ms np os d0 l=true->∀ (d:List Nat) (rest:List Nat),d++rest=l->∀ i∈rest,Vf ms np (d0++d) i=true->qZ pu rest i=true\/∃ q,(d0++d)++q∈os/\qZ pu q i=true
 | [],d0,_,d,rest,e,i,hi,_=>by
  have:=(List.append_eq_nil_iff.1 e).2;rw [this] at hi;cases hi
 | x::l,d0,h,d,rest,e,i,hi,hn=>by
  unfold xq at h;obtain ⟨h1,h2⟩:=Bool.and_eq_true_iff.1 h;cases d with
  | nil=>
   have e:rest=x::l:=e;subst e;rw [a7] at hn ⊢;have h3:=bo.1 h1 i hi;rw [hn] at h3;rcases Bool.or_eq_true_iff.1 h3 with h3| h3;exact .inl h3
   .rw [Bool.not_true,jE] at h3;obtain ⟨o,ho,h4⟩:=List.any_eq_true.1 h3;split at h4
    .rename_i q hq;exact .inr ⟨q,by rw [FG hq];exact ho,h4⟩
    .cases h4
  | cons y d=>
   injection e with e1 e2;subst e1;have:=Dh (l:=l) (d0:=d0++ [y]) h2 d rest e2 i hi (by simpa using hn);simpa using this
def TZ (X:Vx) (n:Nat) (W:cV) (F:List Atom) (b:Bs) (E:Env) (g:World) (ops:Array Oper) (ms:List (List Bool)) (pu:List Bool) (ords:List (List Nat)) (K:Ov->Prop) (dn rest:List Nat) (c:Act) (w':World):Prop:=
 dn++rest∈ords/\∃ E' g' s lv os,bz E E'/\bA g g'/\dr n W F b E' g' w' s c/\FC X n ops b ms pu rest.length os lv s K/\(∀ r,dn++r∈ords->r∈os)/\
  (∀ p∈lv,p.1∈dn/\dX pu p.1=true/\∃ o d sv,ops[p.1]?=some o/\AH X n ops b s o d sv/\vg b s o=p.2)/\
  ∀ i∈dn,dX pu i=true->(∀ j∈dn,dX pu j=false->¬tx ops j i)->∃ p∈lv,p.1=i
theorem acW {ro:Option Nat} {m:Nat} (jH:js W X.P X.ct) {K:Ov->Prop} {Q:Exit->Act->World->Prop} {id:Nat} {ms:List (List Bool)} {pu:List Bool} (S:dr n W F b E g w s a) (hm:X.P.follows .mixedOrders=true) (hE:Ju ops=true) (hD:Qg ops n=true) (hpu:(bP ops.size).map (vC X.P ops)=pu) (hms:∀ j i,dX (lz ms j) i=true->tx ops j i)
  (h:ji ((bP ops.size).filter λi=> !dX pu i) λnp=>qY (JR pu ms np ops.size ops.size []) λos=>if QF ops pu ms np os then FC X n ops b ms pu ops.size os [] s K else False) (k:∀ a' w',Step n W F b E g K a' w'->Q .normal a' w'):(Code.region id ops true).wpIn (DY ro) m X.P Q a w:=by
 have h:=fC _ h;generalize hnp:(bP ops.size).filter (λi=> !dX pu i)=np at h;have h:=qX _ h;generalize JR pu ms np ops.size ops.size []=ords at h;obtain ⟨ho,h⟩:=dc h;unfold QF at ho;simp only [ao] at ho;obtain ⟨h5,gD,jI⟩:=ho;have jI:=λord hm=>bo.1 jI ord hm;simp only [ao] at jI;have hnd:∀ ord,ord∈ords->ord.Nodup:=λord hm=>jQ.1 (jI ord hm).1;have Ef:∀ ord,ord∈ords->∀ i,i∈ord↔i< ops.size:=λord hm i=>⟨λhi=>by simpa using bo.1 (jI ord hm).2.1 i hi,λhi=>gB.1 (bo.1 (jI ord hm).2.2.1 i (dm.2 hi))⟩;have h6:∀ ord,ord∈ords->tY ops pu ms ord=true:=λord hm=>(jI ord hm).2.2.2.1;have M9:∀ ord,ord∈ords->xq pu ms np ords [] ord=true:=λord hm=>(jI ord hm).2.2.2.2;have M4:∀ (i:Nat) (o:Oper),ops[i]?=some o->dX pu i=true->lM X.P o=true:=λi o hi hp=>by
  rw [<-hpu,IV,cz,List.getElem?_range (aQ.1 hi).1] at hp;have hp:vC X.P ops i=true:=hp;unfold vC at hp;rw [hi] at hp;simp only [ao] at hp;exact hp.1
 have dne:∀ (i j:Nat) (oi oj:Oper) (d:Nat),ops[i]?=some oi->ops[j]?=some oj->oi.dst=some d->oj.dst=some d->i=j:=by
  have Nt:∀ (i j:Nat) (oi oj:Oper) (d:Nat),j< i->ops[i]?=some oi->ops[j]?=some oj->oi.dst=some d->oj.dst=some d->False:=λi j oi oj d J4 hi hj J5 Oq=>by
   have pH:i< ops.size:=(aQ.1 hi).1;have h1:=bo.1 hD i (dm.2 pH);simp only [hi,o6,J5,ao] at h1;have h2:=bo.1 h1.2 j (dm.2 J4);simp [hj,Oq] at h2
  intro i j oi oj d hi hj J5 Oq;rcases ko i j with h| h| h;exact (Nt j i oj oi d h hj hi Oq J5).elim;exact h;exact (Nt i j oi oj d h hi hj J5 Oq).elim
 have stands:∀ {dn rest:List Nat} {i:Nat} {o:Oper} {s1 s2:Ov},dn++i::rest∈ords->ops[i]?=some o->(∀ t,o.dst≠some t->b.slot s2 t=b.slot s1 t)->∀ (p:Nat×List Nat),p.1∈dn->dX pu p.1=true->(∀ l∈p.2,b.obj s2 l=b.obj s1 l)->(dX pu i=true\/dX (lz ms i) p.1=false)->
   (∃ o d sv,ops[p.1]?=some o/\AH X n ops b s1 o d sv/\vg b s1 o=p.2)->∃ o d sv,ops[p.1]?=some o/\AH X n ops b s2 o d sv/\vg b s2 o=p.2:=by
  rintro dn rest i o s1 s2 he hi DS p hpd hpp eu hor ⟨op,d,sv,q1,q2,q3⟩;obtain ⟨d1,d2,hdd⟩:=List.append_of_mem hpd;have hl:=oH (h6 _ he) d1 p.1 (d2++i::rest) (by rw [hdd];simp) hpp op q1;have hs:∀ t∈slotsOf ops op,b.slot s1 t=b.slot s2 t:=λt ht=>(DS t ((hl t ht).2 i (by simp) o hi hor)).symm;have gD:p.1≠i:=λe=>by
   have:=hnd _ he;rw [fm] at this;exact this.2.2 p.1 hpd i (by simp) e
  have hdd:b.slot s2 d=b.slot s1 d:=DS d λe=>gD (dne p.1 i op o d q1 hi q2.dst e);exact ⟨op,d,sv,q1,q2.jG hs hdd (λl hl=>(eu l (by rw [<-q3];exact hl)).symm),by rw [<-qA hs];exact q3⟩
 have h5o:∀ dn rest c w' i,TZ X n W F b E g ops ms pu ords K dn rest c w'->dn++rest∈ords->i∈rest->(∀ j,tx ops i j->dX pu j=false->j∈dn)->∃ r1 r2,dn++(r1++i::r2)∈ords/\TZ X n W F b E g ops ms pu ords K dn (r1++i::r2) c w'/\∀ j∈r1,dX pu j=true:=λdn rest c w' i hT he hir hw=>by
  have anT:Vf ms np dn i=true:=adw λj hj hb=>hw j (hms i j hb) (by
   rw [<-hnp] at hj;simpa using (fQ.1 hj).2)
  have len:∀ q,dn++q∈ords->q.length=rest.length:=λq hq=>by
   have p1:=(List.perm_ext_iff_of_nodup (hnd _ he) (hnd _ hq)).2 λx=>(Ef _ he x).trans (Ef _ hq x).symm;have:=p1.length_eq;simp only [af] at this;omega
  rcases Dh (M9 _ he) dn rest rfl i hir (by simpa using anT) with h1| ⟨q,hq,h1⟩
  .obtain ⟨r1,r2,e,hp⟩:=vP h1;subst e;exact ⟨r1,r2,he,hT,hp⟩
  .obtain ⟨r1,r2,e,hp⟩:=vP h1;subst e;have hq:dn++(r1++i::r2)∈ords:=by simpa using hq
   obtain ⟨_,E',g',s1,lv,os,l1,l2,S1,hv,hos,P1,jI⟩:=hT;rw [<-len _ hq] at hv;exact ⟨r1,r2,hq,⟨hq,E',g',s1,lv,os,l1,l2,S1,hv,hos,P1,jI⟩,hp⟩
 obtain ⟨ord0,SZ⟩:∃ o,o∈ords:=by
  cases ords with
  | nil=>simp at gD
  | cons o _=>exact ⟨o,aS ..⟩
 have hl0:ord0.length=ops.size:=by
  have p1:=(List.perm_ext_iff_of_nodup (hnd _ SZ) List.nodup_range).2 λx=>(Ef _ SZ x).trans List.mem_range.symm;have:=p1.length_eq
  rwa [List.length_range] at this
 refine wpIn_region_any hm ?_;refine afV (Ord:=λl=>l∈ords) (pu:=dX pu) (T:=TZ X n W F b E g ops ms pu ords K) hE hD hnd Ef h5o
  (λi k oi ok d hi hk hd hm=>(zH h5 hi hk hd hm).imp (hms i k) λq=>q)
  (λdn rest c w' ⟨_,E',g',s1,lv,_,_,_,S1,_⟩=>⟨S1.size,S1.defers⟩) ?_ ?_ ?_ ?_ ops.size _ a _ [] ord0 a ⟨by simpa using SZ,by simp,?_,S.size,S.defers,?_,λt _=>rfl,λi hi=>(by cases hi),?_⟩ ?_
 .rintro dn rest c w' i o ⟨he,E',g',s1,lv,os,l1,l2,S1,hv,hos,P1,jI⟩ yS ua hi Vw;obtain ⟨p,hp,rfl⟩:=jI i yS ua Vw;obtain ⟨_,_,op,d,sv,q1,q2,q3⟩:=P1 p hp;rw [hi] at q1;obtain rfl:=aj q1;obtain ⟨v,v1,v2,v3⟩:=q2.again S1;exact ⟨v,v1,v2,he,E',g',s1,lv,os,l1,l2,v3,hv,hos,P1,jI⟩
 .rintro dn i rest c w' o ⟨he,E',g',s1,lv,os,l1,l2,S1,hv,hos,P1,jI⟩ ua hi;have hv:=DC (fC _ hv) (qT (hos _ he));simp only [hi,ua] at hv;obtain ⟨d,v,sv,s2,S2,hk,hid,M0,DS,eu⟩:=Ge S1 (M4 i o hi ua) (λt ht=>(oH (h6 _ he) dn i rest rfl ua o hi t ht).1) hv;have hk:=qX _ hk;refine ⟨v,by simpa using he,E',g',s2,_,_,l1,l2,S2,hk,λr hr=>qx (hos _ (by simpa using hr)),λp hp=>?_,λj hj Jk Vw=>?_⟩
  .rcases aX.1 hp with rfl| hp
   .exact ⟨by simp,ua,o,d,sv,hi,hid,M0⟩
   .obtain ⟨p1,p2,p3⟩:=P1 p hp;exact ⟨bH _ p1,p2,stands he hi DS p p1 p2 (λl _=>eu l) (.inl ua) p3⟩
  .rcases aY.1 hj with hj| hj
   .obtain ⟨p,hp,e⟩:=jI j hj Jk λq hq hpq=>Vw q (bH _ hq) hpq;exact ⟨p,aG _ hp,e⟩
   .have J4:j=i:=by simpa using hj
    exact ⟨_,aS ..,J4.symm⟩
 .rintro dn i rest c w' o ⟨he,E',g',s1,lv,os,l1,l2,S1,hv,hos,P1,jI⟩ ua hi;have hv:=DC (fC _ hv) (qT (hos _ he));simp only [hi,ua] at hv;have key:∀ a' w'',abQ n W F b E' g' s1 o.dst (λs' ks=>ji (lv.filter λp=> !dX (lz ms i) p.1) λlv=>if lv.all (λp=>p.2.all λl=> !ir l ks) then qY (r6 i os) (λos=>FC X n ops b ms pu rest.length os lv s' K) else False) a' w''->TZ X n W F b E g ops ms pu ords K (dn++ [i]) rest a' w'':=by
   rintro a' w'' ⟨E2,g2,s2,ks,m1,m2,S2,hk,hal⟩;have hk:=fC _ hk;obtain ⟨hc,hk⟩:=dc hk;have hk:=qX _ hk;refine ⟨by simpa using he,E2,g2,s2,_,_,l1.trans m1,l2.trans m2,S2,hk,λr hr=>qx (hos _ (by simpa using hr)),λp hp=>?_,λj hj Jk Vw=>?_⟩
   .have Zc:=(fQ.1 hp).1;obtain ⟨p1,p2,p3⟩:=P1 p Zc;have hw:dX (lz ms i) p.1=false:=by simpa using (fQ.1 hp).2
    refine ⟨bH _ p1,p2,stands he hi hal.slot p p1 p2 (λl hl=>hal.obj l λhlk=>?_) (.inr hw) p3⟩;have:=bo.1 (bo.1 hc p hp) l hl;rw [gB.2 hlk] at this;cases this
   .have CZ:j∈dn:=by
     rcases aY.1 hj with h| h;exact h
     .have:j=i:=by simpa using h
      subst this;rw [ua] at Jk;cases Jk
    obtain ⟨p,hp,e⟩:=jI j CZ Jk λq hq hpq=>Vw q (bH _ hq) hpq;refine ⟨p,fQ.2 ⟨hp,?_⟩,e⟩;cases hb:dX (lz ms i) p.1 with
    | false=>rfl
    | true=>
     exfalso
     rw [e] at hb;exact Vw i (by simp) ua (hms i j hb)
  rcases MH jH S1 hv with ⟨hw,hr⟩| ⟨hw,hr⟩
  .refine .inl ⟨hw,?_⟩;rcases hr with ⟨v,w2,hr,h⟩| ⟨w2,hr,h⟩| ⟨f,args,hr,h⟩
   .exact .inl ⟨v,w2,hr,key _ w2 h⟩
   .exact .inr (.inl ⟨w2,hr,key _ w2 h⟩)
   .exact .inr (.inr ⟨f,args,hr,h.mono λv w2 h=>key _ w2 h⟩)
  .exact .inr ⟨hw,key _ _ hr⟩
 .rintro dn c w' ⟨he,E',g',s1,lv,os,l1,l2,S1,hv,_⟩;exact k c w' ⟨E',g',s1,l1,l2,S1,hv⟩
 .intro j o hj hl;rw [tL] at hl;cases hl
 .exact ⟨by simpa using SZ,E,g,s,[],ords,bz.refl E,bA.refl g,S.le (Le.drew w),by rw [hl0];exact h,λr hr=>by simpa using hr,λp hp=>(by cases hp),λi hi=>(by cases hi)⟩
 .intro i hl;rw [tL] at hl;cases hl
 .simp;exact Nat.le_trans (List.length_filter_le _ _) (by simp)
theorem aea {ro:Option Nat} {m:Nat} (jH:js W X.P X.ct) {K:Ov->Prop} {Q:Exit->Act->World->Prop} {id:Nat} (S:dr n W F b E g w s a) (h:wi X n ops true b s K) (k:∀ a' w',Step n W F b E g K a' w'->Q .normal a' w'):(Code.region id ops true).wpIn (DY ro) m X.P Q a w:=by
 unfold wi at h;rw [if_pos rfl] at h;obtain ⟨h0,h⟩:=dc h;simp only [ao] at h0;obtain ⟨⟨hm,hE⟩,hD⟩:=h0;have h:=uc _ h;obtain ⟨ms,h,hms⟩:=L8 (ops:=ops) h (λj=>by simp) (λj i h=>by simp [lz,dX] at h);have h:=fC _ h;generalize hpu:(bP ops.size).map (vC X.P ops)=pu at h;generalize hod:afg pu ms ops.size=ord at h;by_cases ho:Ys ops pu ms ord=true
 case neg=>
  rw [if_neg ho] at h;exact acW jH S hm hE hD hpu hms h k
 rw [if_pos ho] at h;unfold Ys at ho;simp only [ao] at ho;obtain ⟨⟨⟨⟨⟨h1,h2⟩,h3⟩,h4⟩,h5⟩,h6⟩:=ho;have hnd:ord.Nodup:=jQ.1 h1;have Ef:∀ i,i∈ord↔i< ops.size:=λi=>⟨λhi=>by simpa using bo.1 h2 i hi,λhi=>gB.1 (bo.1 h3 i (dm.2 hi))⟩;have M4:∀ (i:Nat) (o:Oper),ops[i]?=some o->dX pu i=true->lM X.P o=true:=λi o hi hp=>by
  rw [<-hpu,IV,cz,List.getElem?_range (aQ.1 hi).1] at hp;have hp:vC X.P ops i=true:=hp;unfold vC at hp;rw [hi] at hp;simp only [ao] at hp;exact hp.1
 have dne:∀ (i j:Nat) (oi oj:Oper) (d:Nat),ops[i]?=some oi->ops[j]?=some oj->oi.dst=some d->oj.dst=some d->i=j:=by
  have Nt:∀ (i j:Nat) (oi oj:Oper) (d:Nat),j< i->ops[i]?=some oi->ops[j]?=some oj->oi.dst=some d->oj.dst=some d->False:=λi j oi oj d J4 hi hj J5 Oq=>by
   have pH:i< ops.size:=(aQ.1 hi).1;have h1:=bo.1 hD i (dm.2 pH);simp only [hi,o6,J5,ao] at h1;have h2:=bo.1 h1.2 j (dm.2 J4);simp [hj,Oq] at h2
  intro i j oi oj d hi hj J5 Oq;rcases ko i j with h| h| h;exact (Nt j i oj oi d h hj hi Oq J5).elim;exact h;exact (Nt i j oi oj d h hi hj J5 Oq).elim
 -- what has come early stands while others are done
 have stands:∀ {dn rest:List Nat} {i:Nat} {o:Oper} {s1 s2:Ov},dn++i::rest=ord->ops[i]?=some o->(∀ t,o.dst≠some t->b.slot s2 t=b.slot s1 t)->∀ (p:Nat×List Nat),p.1∈dn->dX pu p.1=true->(∀ l∈p.2,b.obj s2 l=b.obj s1 l)->(dX pu i=true\/dX (lz ms i) p.1=false)->
   (∃ o d sv,ops[p.1]?=some o/\AH X n ops b s1 o d sv/\vg b s1 o=p.2)->∃ o d sv,ops[p.1]?=some o/\AH X n ops b s2 o d sv/\vg b s2 o=p.2:=by
  rintro dn rest i o s1 s2 he hi DS p hpd hpp eu hor ⟨op,d,sv,q1,q2,q3⟩;obtain ⟨d1,d2,hdd⟩:=List.append_of_mem hpd;have hl:=oH h6 d1 p.1 (d2++i::rest) (by rw [<-he,hdd];simp) hpp op q1;have hs:∀ t∈slotsOf ops op,b.slot s1 t=b.slot s2 t:=λt ht=>(DS t ((hl t ht).2 i (by simp) o hi hor)).symm;have gD:p.1≠i:=λe=>by
   have:=hnd;rw [<-he,fm] at this;exact this.2.2 p.1 hpd i (by simp) e
  have hdd:b.slot s2 d=b.slot s1 d:=DS d λe=>gD (dne p.1 i op o d q1 hi q2.dst e);exact ⟨op,d,sv,q1,q2.jG hs hdd (λl hl=>(eu l (by rw [<-q3];exact hl)).symm),by rw [<-qA hs];exact q3⟩
 refine wpIn_region_any hm ?_;have h5o:∀ dn rest c w' i,Uc X n W F b E g ops ms pu ord K dn rest c w'->dn++rest=ord->i∈rest->(∀ j,tx ops i j->dX pu j=false->j∈dn)->∃ r1 r2,dn++(r1++i::r2)=ord/\Uc X n W F b E g ops ms pu ord K dn (r1++i::r2) c w'/\∀ j∈r1,dX pu j=true:=λdn rest c w' i hT he hir hw=>by
  obtain ⟨r1,r2,hr⟩:=List.append_of_mem hir;subst hr;refine ⟨r1,r2,he,hT,λj hj=>?_⟩;cases hp:dX pu j with
  | true=>rfl
  | false=>
   have h1:=hw j (hms i j (DE h4 (dn++r1) i r2 (by rw [<-he];simp) j (.inr (by simp [hj])) hp)) hp;have:=hnd;rw [<-he,fm] at this;exact (this.2.2 j h1 j (by simp [hj]) rfl).elim
 refine afV (Ord:=λl=>l=ord) (pu:=dX pu) (T:=Uc X n W F b E g ops ms pu ord K) hE hD (λl e=>by rw [e];exact hnd) (λl e i=>by rw [e];exact Ef i) h5o
  (λi k oi ok d hi hk hd hm=>(zH h5 hi hk hd hm).imp (hms i k) λq=>q)
  (λdn rest c w' ⟨_,E',g',s1,lv,_,_,S1,_⟩=>⟨S1.size,S1.defers⟩) ?_ ?_ ?_ ?_ ops.size _ a _ [] ord a ⟨rfl,by simp,?_,S.size,S.defers,?_,λt _=>rfl,λi hi=>(by cases hi),?_⟩ ?_
 .rintro dn rest c w' i o ⟨he,E',g',s1,lv,l1,l2,S1,hv,P1,jI⟩ yS ua hi Vw;obtain ⟨p,hp,rfl⟩:=jI i yS ua Vw;obtain ⟨_,_,op,d,sv,q1,q2,q3⟩:=P1 p hp;rw [hi] at q1;obtain rfl:=aj q1;obtain ⟨v,v1,v2,v3⟩:=q2.again S1;exact ⟨v,v1,v2,he,E',g',s1,lv,l1,l2,v3,hv,P1,jI⟩
 .rintro dn i rest c w' o ⟨he,E',g',s1,lv,l1,l2,S1,hv,P1,jI⟩ ua hi;unfold BC at hv;simp only [hi,ua] at hv;obtain ⟨d,v,sv,s2,S2,hk,hid,M0,DS,eu⟩:=Ge S1 (M4 i o hi ua) (λt ht=>(oH h6 dn i rest he ua o hi t ht).1) hv;refine ⟨v,by rw [<-he];simp,E',g',s2,_,l1,l2,S2,hk,λp hp=>?_,λj hj Jk Vw=>?_⟩
  .rcases aX.1 hp with rfl| hp
   .exact ⟨by simp,ua,o,d,sv,hi,hid,M0⟩
   .obtain ⟨p1,p2,p3⟩:=P1 p hp;exact ⟨bH _ p1,p2,stands he hi DS p p1 p2 (λl _=>eu l) (.inl ua) p3⟩
  .rcases aY.1 hj with hj| hj
   .obtain ⟨p,hp,e⟩:=jI j hj Jk λq hq hpq=>Vw q (bH _ hq) hpq;exact ⟨p,aG _ hp,e⟩
   .have J4:j=i:=by simpa using hj
    exact ⟨_,aS ..,J4.symm⟩
 .rintro dn i rest c w' o ⟨he,E',g',s1,lv,l1,l2,S1,hv,P1,jI⟩ ua hi;unfold BC at hv;simp only [hi,ua] at hv;have key:∀ a' w'',abQ n W F b E' g' s1 o.dst (λs' ks=>ji (lv.filter λp=> !dX (lz ms i) p.1) λlv=>if lv.all (λp=>p.2.all λl=> !ir l ks) then BC X n ops b ms pu rest lv s' K else False) a' w''->Uc X n W F b E g ops ms pu ord K (dn++ [i]) rest a' w'':=by
   rintro a' w'' ⟨E2,g2,s2,ks,m1,m2,S2,hk,hal⟩;have hk:=fC _ hk;obtain ⟨hc,hk⟩:=dc hk;refine ⟨by rw [<-he];simp,E2,g2,s2,_,l1.trans m1,l2.trans m2,S2,hk,λp hp=>?_,λj hj Jk Vw=>?_⟩
   .have Zc:=(fQ.1 hp).1;obtain ⟨p1,p2,p3⟩:=P1 p Zc;have hw:dX (lz ms i) p.1=false:=by simpa using (fQ.1 hp).2
    refine ⟨bH _ p1,p2,stands he hi hal.slot p p1 p2 (λl hl=>hal.obj l λhlk=>?_) (.inr hw) p3⟩;have:=bo.1 (bo.1 hc p hp) l hl;rw [gB.2 hlk] at this;cases this
   .have CZ:j∈dn:=by
     rcases aY.1 hj with h| h;exact h
     .have:j=i:=by simpa using h
      subst this;rw [ua] at Jk;cases Jk
    obtain ⟨p,hp,e⟩:=jI j CZ Jk λq hq hpq=>Vw q (bH _ hq) hpq;refine ⟨p,fQ.2 ⟨hp,?_⟩,e⟩;cases hb:dX (lz ms i) p.1 with
    | false=>rfl
    | true=>
     exfalso
     rw [e] at hb;exact Vw i (by simp) ua (hms i j hb)
  rcases MH jH S1 hv with ⟨hw,hr⟩| ⟨hw,hr⟩
  .refine .inl ⟨hw,?_⟩;rcases hr with ⟨v,w2,hr,h⟩| ⟨w2,hr,h⟩| ⟨f,args,hr,h⟩
   .exact .inl ⟨v,w2,hr,key _ w2 h⟩
   .exact .inr (.inl ⟨w2,hr,key _ w2 h⟩)
   .exact .inr (.inr ⟨f,args,hr,h.mono λv w2 h=>key _ w2 h⟩)
  .exact .inr ⟨hw,key _ _ hr⟩
 .rintro dn c w' ⟨he,E',g',s1,lv,l1,l2,S1,hv,_⟩;exact k c w' ⟨E',g',s1,l1,l2,S1,hv⟩
 .intro j o hj hl;rw [tL] at hl;cases hl
 .exact ⟨rfl,E,g,s,[],bz.refl E,bA.refl g,S.le (Le.drew w),h,λp hp=>(by cases hp),λi hi=>(by cases hi)⟩
 .intro i hl;rw [tL] at hl;cases hl
 .simp;exact Nat.le_trans (List.length_filter_le _ _) (by simp)
theorem OE {ro:Option Nat} {m:Nat} (jH:js W X.P X.ct) {K:Ov->Prop} {Q:Exit->Act->World->Prop} {id:Nat} {draw:Bool} (S:dr n W F b E g w s a) (h:wi X n ops draw b s K) (k:∀ a' w',Step n W F b E g K a' w'->Q .normal a' w'):(Code.region id ops draw).wpIn (DY ro) m X.P Q a w:=by
 cases draw with
 | true=>exact aea jH S h k
 | false=>
  unfold wi at h;exact wpIn_region_lit (Hz jH S h k)
end
end Go.Lm

