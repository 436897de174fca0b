/- Texts of mine, laid together: LmVj LmVk LmVl LmVlz LmVka LmVm LmVn LmVnb LmVnc LmVnd LmVne LmVo LmVp LmVq LmVr LmVs LmVt LmVu LmVv LmVw LmVx. -/
import Derived.Test.YthjbdgokcljocaaGreatDoorQ1
import Derived.Lib.AppendStr
import Derived.Great.BuildSlice
import Derived.OrdersIn
import Derived.TacticsIn
import Derived.RangeFuncCalls
set_option linter.unusedVariables false
open Array renaming getElem?_eq_some_iff → aN, getElem?_eq_getElem → eF, getD_eq_getD_getElem? → j6, getElem?_append_left → qB
open Bool renaming and_eq_true → ak, not_eq_true' → dr, false_eq_true → dS, false_or → eZ, false_and → fg, or_eq_true → lR
open Int renaming le_refl → bB
open List renaming length_append → af, getElem?_eq_getElem → ao, replicate → au, length_cons → av, getElem?_eq_some_iff → aw, length_singleton → ay, mem_cons_of_mem → aF, length_take → aH, mem_cons_self → aK, append_assoc → aL, length_nil → aO, length_drop → aQ, take_of_length_le → aT, mem_singleton → aW, mem_append → aX, length_replicate → aY, append_nil → bd, all_eq_true → bn, mem_map → bq, mem_cons → bz, eq_nil_of_length_eq_zero → bA, getElem?_append_right → bD, range → bL, getElem?_append_left → bN, drop_eq_getElem_cons → bO, length_map → bR, take_append_drop → bX, mem_append_left → cj, map_cons → cE, getElem?_map → dq, getElem_mem → dA, flatten_cons → dD, mem_range → dJ, cons_append → dV, getD_eq_getElem?_getD → ep, drop_eq_nil_of_le → eL, nodup_cons → gj, mem_filter → gk, nodup_append → gx, nil_append → hU, getElem?_eq_none → hZ, map_append → jc, length_set → jd, map_congr_left → jv, flatten_append → jw, flatMap_cons → jA, mem_of_getElem? → ka, filter_eq_self → k9, drop_take → lG, drop_zero → pc
open Nat renaming eq_of_beq_eq_true → ai, le_refl → aG, zero_le → cY, lt_or_ge → eW, le_of_ble_eq_true → eX, zero_add → gC, blt → gP, add_mul → gZ, mul_le_mul_right → j9
open Option renaming isSome_iff_exists → gV
open Option.some renaming inj → aj
open UInt8 renaming ofNat → az
noncomputable section
namespace Go.Lm
open Go Go.RowKit
section
variable {X:Vx} {n:Nat} {W:cX} {F:List Atom} {b:Bs} {E:Env} {g w:World} {s:Ov} {a:Act} {o:Oper}
set_option maxHeartbeats 1000000 in
theorem YN {α:Type} {L vs:List α} {p m:Nat} (h1:p+vs.length<=m) (h2:m<=L.length):(L.take p++vs++L.drop (p+vs.length)).take m=(L.take m).take p++vs++(L.take m).drop (p+vs.length):=by
 grind [List.take_append, af, lG]
theorem xg {size:Nat} {vs:List Value}:∀ (cs:List (List Value)) (i off:Nat),(∀ x∈cs,x.length=size)->off+vs.length<=size->∀ (hi:i< cs.length),(cs.set i ((cs[i]).take off++vs++(cs[i]).drop (off+vs.length))).flatten=cs.flatten.take (i*size+off)++vs++cs.flatten.drop (i*size+off+vs.length)
 | [],_,_,_,_,hi=>by grind
 | c::cs,0,off,hl,ho,_=>by
  grind
 | c::cs,i+1,off,hl,ho,hi=>by
  have h1:c.length=size:=hl c (by simp);have ih:=xg cs i off (λx hx=>hl x (aF _ hx)) ho (by simpa using hi);simp only [List.set_cons_succ,dD,List.getElem_cons_succ];rw [ih];have e1:(i+1)*size+off=c.length+(i*size+off):=by rw [gZ];omega
  rw [e1,List.take_length_add_append,show c.length+(i*size+off)+vs.length=c.length+(i*size+off+vs.length) by omega,List.drop_length_add_append];simp
theorem SL.ajd {α:Type} [aP α] {P:Program} {e t:TypeId} {v c:Value} {xs:List α} {i:Int} {off:Nat} {x':α} {l:List Atom} (H:SL W g w (B4 e v xs::l)) (h0:0<=i) (h1:i< xs.length) (Wc:off+c.cells.size<=aP.size α) (qp:c.cells.toList.all (·.oneCell')=true) (vM:(P.info? t).map (·.size)=some c.cells.size)
  (hx:∀ cs,aP.rel g cs (xs[i.toNat]'(by omega))->aP.rel g (cs.take off++c.cells.toList++cs.drop (off+c.cells.toList.length)) x'):
  ∃ w',(Instr.storeAt t (nK (jZ (aP.size α) v i) off) c).run P w= .ok () w'/\SL W g w' (B4 e v (xs.set i.toNat x')::l):=by
 obtain ⟨cs,r,H1⟩:=H.pF;have hlen:=eG.length r;rcases H1.ofRow with ⟨rfl,hn,_,_⟩| ⟨k,cap,cur,rfl,q1,q2,q3,q4,H2⟩;omega;have hi:i.toNat< xs.length:=by omega
 have hic:i.toNat< cs.length:=by omega
 have aas:i.toNat*aP.size α+off+c.cells.size<=xs.length*aP.size α:=by
  have:(i.toNat+1)*aP.size α<=xs.length*aP.size α:=j9 _ hi;rw [gZ] at this;omega
 have JG:xs.length*aP.size α<=cap*aP.size α:=j9 _ q1;have jr:=kc (P:=P) (t:=t) (off:=i.toNat*aP.size α+off) (v:=c) (H2.pd 0) vM qp (by omega);refine ⟨w.setRow k (cur.toList.take (i.toNat*aP.size α+off)++c.cells.toList++cur.toList.drop (i.toNat*aP.size α+off+c.cells.size)).toArray,?_,?_⟩
 .simp_all [nK, jZ, Addr.add_mid]
 .have mC:c.cells.size=c.cells.toList.length:=by simp
  have u:Xt w k (cur.toList.take (i.toNat*aP.size α+off)++c.cells.toList++cur.toList.drop (i.toNat*aP.size α+off+c.cells.size)).toArray (w.setRow k (cur.toList.take (i.toNat*aP.size α+off)++c.cells.toList++cur.toList.drop (i.toNat*aP.size α+off+c.cells.size)).toArray):=⟨rfl,(H2.pd 0).lt⟩;have H3:=H2.upd 0 u;have H4:=SL.wx (size:=aP.size α) (cap:=cap) xs.length H3 q1 q2 (by simp;omega);have e2:((cur.toList.take (i.toNat*aP.size α+off)++c.cells.toList++cur.toList.drop (i.toNat*aP.size α+off+c.cells.size)).toArray.toList.take (xs.length*aP.size α))=(cs.set i.toNat ((cs[i.toNat]).take off++c.cells.toList++(cs[i.toNat]).drop (off+c.cells.toList.length))).flatten:=by
   rw [xg (size:=aP.size α) cs i.toNat off (λx hx=>eG.lens r x hx) (by rw [<-mC];exact Wc) hic,<-q4,mC,List.toList_toArray];have Qp:cur.toList.length=cap*aP.size α:=by simpa using q3
   exact YN (by omega) (by omega)
  rw [e2] at H4;have hlx:(xs.set i.toNat x').length=xs.length:=by simp
  refine SL.YR (cs:=cs.set i.toNat ((cs[i.toNat]).take off++c.cells.toList++(cs[i.toNat]).drop (off+c.cells.toList.length))) (r.set i.toNat _ (hx _ (r.at i.toNat hi hic))) ?_;rw [hlx];exact H4
theorem Cf (S:dm n W F b E g w s a) {t:TypeId} {x y:Operand} {c:Cl} {v:S1} {K:Ov->Prop} (ho:o.op= .store t x y) (r:cq E g c (a.eval x)) (rv:df E g (.v v) (a.eval y)) (h:BW X.P b s t c v K):
  ∃ w' s',(execOp a.eval o).run X.P w= .ok .skip w'/\dm n W F b E g w' s' a/\K s':=by
 have hv:bp E g v.cells (a.eval y).cells.toList:=gv.cells rv;have qp:(a.eval y).cells.toList.all (·.oneCell')=true:=bn.2 hv.one;unfold BW at h;split at h;cases h
 .rename_i ie mD;split at h
  .rename_i mC;have hlen:(a.eval y).cells.size=ie.size:=by
    have:=hv.length;simp_all
   split at h
   .rename_i l off;obtain ⟨bb,hE,hx⟩:=r;split at h
    .rename_i ut cs eE;split at h
     .rename_i hle;obtain ⟨us,h1,h2,H⟩:=o6 S hE eE;have hl:off+(a.eval y).cells.size<=us.toArray.size:=by
       rw [hlen,List.size_toArray,h1.length];exact eX hle
      have hr:=kc (P:=X.P) (t:=t) h2 (by rw [mD,hlen];rfl) qp hl;refine ⟨_,_,by simp [execOp,ho,hx];rw [hr];rfl,S.back hE _ (bt.refl g) ?_,h⟩;have H2:=SL.zR H ((⟨rfl,h2.lt⟩:Xt w bb (us.toArray.toList.take off++(a.eval y).cells.toList++us.toArray.toList.drop (off+(a.eval y).cells.size)).toArray _).BR h2);refine H2.cJ λk ⟨k1,k2,ap,q,s1,s2⟩=>⟨k1,k2,ap,q,⟨bb,_,hE,xW h1 hv,?_⟩,s2⟩;have s1':k1 bb=some (.cells (us.toArray.toList.take off++(a.eval y).cells.toList++us.toArray.toList.drop (off+(a.eval y).cells.size)).toArray ut (0,0)):=s1;rw [s1'];simp
     .cases h
    .cases h
   .rename_i l sz i off;obtain ⟨u,hE,hx,_⟩:=r;split at h
    .rename_i ut e xs cc eE;split at h
     .rename_i hs;obtain ⟨h0,h1,h⟩:=h;rw [ak] at hs;split at h
      .rename_i x' hof;letI:=e.rep;have JE:aP.size e.den=e.size:=Ty.gz e;have hcv:cq E g cc (a.eval y):=rv;have fD:off< e.size:=by have:=hs.2;simpa using this
       have H:=jN S hE eE;obtain ⟨w',h2,H2⟩:=SL.amI (α:=e.den) (P:=X.P) (t:=t) (x':=x') H h0 h1 (off:=off) (by rw [JE];exact fD) hcv.one (nS hcv.one) (by rw [mD];exact congrArg some (ai mC).symm) λvs Ef=>by
        have e1:aB e xs i=xs[i.toNat]'(by omega):=by
         grind [aB]
        rw [<-e1] at Ef;obtain ⟨h4,_⟩:=fz E g e Ef;obtain ⟨u1,u2,e2,h5,h6⟩:=of_cells e hof (h4.set off hcv);rw [e2,show u2= [] from h6,bd];exact h5
       rw [JE,ai hs.1] at h2;refine ⟨w',_,by simp [execOp,ho,hx,h2],S.back hE _ (bt.refl g) ?_,h⟩;exact H2.cJ λk ⟨k1,k2,ap,q,s1,s2⟩=>⟨k1,k2,ap,q,⟨u,hE,s1⟩,s2⟩
      .cases h
     .cases h
    .rename_i ut e xs lc eE;split at h
     .rename_i hs;obtain ⟨h0,h1,h⟩:=h;rw [ak] at hs;split at h
      .rename_i x' hof;letI:=e.rep;have JE:aP.size e.den=e.size:=Ty.gz e;have Qp:(a.eval y).cells.size=lc.length:=by
        have h3:bp E g lc (a.eval y).cells.toList:=hv;have:=h3.length;rw [Array.length_toList] at this;exact this
       have fD:off+lc.length<=e.size:=eX hs.2;have H:=jN S hE eE;obtain ⟨w',h2,H2⟩:=SL.ajd (α:=e.den) (P:=X.P) (t:=t) (x':=x') (c:=a.eval y) H h0 h1 (off:=off) (by rw [JE,Qp];exact fD) qp (by rw [mD,hlen];rfl) λvs Ef=>by
        have e1:aB e xs i=xs[i.toNat]'(by omega):=by
         grind [aB]
        rw [<-e1] at Ef;obtain ⟨h4,_⟩:=fz E g e Ef;have h5:=xW (off:=off) h4 hv;obtain ⟨u1,u2,e2,h5,h6⟩:=of_cells e hof h5;rw [show u2= [] from h6,bd] at e2;rw [aL,e2];exact h5
       rw [JE,ai hs.1] at h2;refine ⟨w',_,by simp [execOp,ho,hx,h2],S.back hE _ (bt.refl g) ?_,h⟩;exact H2.cJ λk ⟨k1,k2,ap,q,s1,s2⟩=>⟨k1,k2,ap,q,⟨u,hE,s1⟩,s2⟩
      .cases h
     .cases h
    .cases h
   .cases h
  .cases h
theorem aeo {P:Program} {e:Ty} {te t:TypeId} {v c:Value} {xs:List e.den} {i:Int} {off:Nat} {l:List Atom} (H:SL W g w (pF e te v xs::l)) (h0:0<=i) (h1:i< xs.length) (Wc:off< e.size) (vP:c.oneCell'=true) (TC:c.cells= #[c]) (Eg:∃ a n c',c= .slice a n c') (vM:(P.info? t).map (·.size)=some 1):
  ∃ w',(Instr.storeAt t (nK (jZ e.size v i) off) c).run P w= .ok () w'/\SL W g w' (sfA te e xs i off v c::l):=by
 letI:=e.rep;obtain ⟨cs,r,H1⟩:=SL.pF (α:=e.den) H;have hs:aP.size e.den=e.size:=Ty.gz e;rw [hs] at H1;have hlen:=eG.length r;have hz:∀ x∈cs,x.length=e.size:=λx hx=>by rw [<-hs];exact eG.lens r x hx
 rcases H1.ofRow with ⟨rfl,hn,_,_⟩| ⟨k,cap,cur,rfl,q1,q2,q3,q4,H2⟩;omega;have hi:i.toNat< xs.length:=by omega
 have hic:i.toNat< cs.length:=by omega
 have aas:i.toNat*e.size+off< xs.length*e.size:=by
  have:(i.toNat+1)*e.size<=xs.length*e.size:=j9 _ hi;rw [gZ] at this;omega
 have JG:xs.length*e.size<=cap*e.size:=j9 _ q1;have jr:=kc (P:=P) (t:=t) (off:=i.toNat*e.size+off) (v:=c) (H2.pd 0) (by rw [TC];exact vM) (by rw [TC];simp [vP]) (by rw [TC];simp;omega);refine ⟨w.setRow k (cur.toList.take (i.toNat*e.size+off)++c.cells.toList++cur.toList.drop (i.toNat*e.size+off+c.cells.size)).toArray,?_,?_⟩
 .have hp:nK (jZ e.size (.slice (some ⟨k,0,none⟩) xs.length cap) i) off=ptr k (i.toNat*e.size+off):=by
   show Value.pointer (some (((⟨k,0,none⟩:Addr).add (i.toNat*e.size)).add off))=_;rw [Go.Deep.add_add,Addr.add_mid,gC]
  rw [hp];exact jr
 .have e1:(cur.toList.take (i.toNat*e.size+off)++c.cells.toList++cur.toList.drop (i.toNat*e.size+off+c.cells.size))=cur.toList.set (i.toNat*e.size+off) c:=by
   rw [TC];rw [List.set_eq_take_append_cons_drop,if_pos (by simp;omega)];simp
  have u:Xt w k (cur.toList.set (i.toNat*e.size+off) c).toArray (w.setRow k (cur.toList.take (i.toNat*e.size+off)++c.cells.toList++cur.toList.drop (i.toNat*e.size+off+c.cells.size)).toArray):=⟨by rw [e1],(H2.pd 0).lt⟩;have H3:=H2.upd 0 u;have H4:=SL.wx (size:=e.size) (cap:=cap) xs.length H3 q1 q2 (by simp;omega);have e2:((cur.toList.set (i.toNat*e.size+off) c).toArray.toList.take (xs.length*e.size))=(cs.set i.toNat ((cs[i.toNat]).set off c)).flatten:=by
   rw [tp (size:=e.size) cs i.toNat off hz Wc hic,<-q4];simp only [List.take_set]
  rw [e2] at H4;refine H4.cJ λhh ⟨k1,k2,ap,q,s1,s2⟩=>⟨k1,k2,ap,q,⟨_,s1,⟨λx hx=>?_,by rw [jd];exact hlen.1,h0,h1,Wc⟩,⟨Eg,(cs[i.toNat]).set off c,by rw [List.getElem?_set_self hic],by rw [List.getElem?_set_self (by rw [hz _ (dA hic)];exact Wc)]⟩,λg' m E cl Qp x' hof=>?_⟩,s2⟩
  .rcases List.mem_or_eq_of_mem_set hx with hx| rfl
   .exact hz x hx
   .rw [jd];exact hz _ (dA hic)
  .refine (eG.mono m r).set i.toNat _ ?_;have Ef:=(eG.mono m r).at i.toNat hi hic;have e3:aB e xs i=xs[i.toNat]:=by
    unfold aB;rw [ep,ao hi];rfl
   rw [<-e3] at Ef;obtain ⟨h4,_⟩:=fz E g' e Ef;obtain ⟨u1,u2,e4,h5,h6⟩:=of_cells e hof (h4.set off Qp);rw [e4,show u2= [] from h6,bd];exact h5
theorem Ml (S:dm n W F b E g w s a) {t:TypeId} {x y:Operand} {l sz off q:Nat} {i:Int} {K:Ov->Prop} (ho:o.op= .store t x y) (r:cq E g (.oe l sz i off) (a.eval x)) (rv:df E g (.c (.o q)) (a.eval y)) (h:B6 X.P b s t l sz i off q K):
  ∃ w' s',(execOp a.eval o).run X.P w= .ok .skip w'/\dm n W F b E g w' s' a/\K s':=by
 unfold B6 at h;split at h
 .rename_i ie u e xs _ _ _ mD eE hoq;obtain ⟨hc,h0,h1,h⟩:=di h;simp only [ak] at hc;obtain ⟨c1,c2,c3,c4⟩:=hc;obtain ⟨uv,hE,hx,_⟩:=r;have hcv:cq E g (.o q) (a.eval y):=rv;obtain ⟨w',h2,H2⟩:=aeo (P:=X.P) (t:=t) (c:=a.eval y) (off:=off) (jN S hE eE) h0 h1 (by simpa using c3) hcv.one (nS hcv.one) hcv.2 (by rw [mD];exact congrArg some (ai c1));rw [ai c2] at h2;refine ⟨w',_,by simp [execOp,ho,hx,h2],S.back hE _ (bt.refl g) ?_,h⟩;exact H2.cJ λk ⟨k1,k2,ap,q,s1,s2⟩=>⟨k1,k2,ap,q,⟨uv,_,hE,hcv.1,s1⟩,s2⟩
 .cases h
theorem eh (S:dm n W F b E g w s a) (v:Value):(E++ [v])[s.n]?=some v:=by rw [<-S.len];simp
theorem VC (S:dm n W F b E g w s a) {t:TypeId} {z:List Cl} {K:SV->Ov->Prop} (ho:o.op= .alloc t) (hz:og X.P t=some z) (h:K (.c (.p s.n 0)) (s.new (.cells t z))):
  ∃ v w',(execOp a.eval o).run X.P w= .ok (.value v) w'/\Out n W F b E g a K v w':=by
 unfold og at hz;split at hz
 .rename_i i hi;split at hz
  .rename_i z0 GS;have hr:(execOp a.eval o).run X.P w= .ok (.value (ptr w.heap.size 0)) (w.alloc (.cells z0.cells t)):=Uw ho hi GS;have hc:bp (E++ [ptr w.heap.size 0]) g z z0.cells.toList:=kK hz;refine ⟨_,_,hr,_,g,_,_,by simp [bu.app],bt.refl g,S.new (v:=ptr w.heap.size 0) (bt.refl g) ?_,(show df _ g (.c (.p s.n 0)) _ from ⟨w.heap.size,eh S _,rfl⟩),h⟩;have H:=S.sat.sl.new (xG.mk' w (.cells z0.cells t));exact H.cJ λk ⟨k1,k2,ap,q,s1,s2⟩=>⟨k1,k2,ap,q,⟨w.heap.size,z0.cells.toList,eh S _,hc,by assumption⟩,s2⟩
  grind
 grind
theorem aew (S:dm n W F b E g w s a) {t:TypeId} {x:Operand} {v:S1} {K:SV->Ov->Prop} (ho:o.op= .box t x) (r:df E g (.v v) (a.eval x)) (h:K (.c (.p s.n 0)) (s.new (.cells t v.cells))):
  ∃ v w',(execOp a.eval o).run X.P w= .ok (.value v) w'/\Out n W F b E g a K v w':=by
 have hr:(execOp a.eval o).run X.P w= .ok (.value (ptr w.heap.size 0)) (w.alloc (.cells (a.eval x).cells t)):=ahn ho rfl;have hc:bp (E++ [ptr w.heap.size 0]) g v.cells (a.eval x).cells.toList:=(gv.cells r).mono (bu.app E _) (bt.refl g);refine ⟨_,_,hr,_,g,_,_,by simp [bu.app],bt.refl g,S.new (v:=ptr w.heap.size 0) (bt.refl g) ?_,(show df _ g (.c (.p s.n 0)) _ from ⟨w.heap.size,eh S _,rfl⟩),h⟩;have H:=S.sat.sl.new (xG.mk' w (.cells (a.eval x).cells t));exact H.cJ λk ⟨k1,k2,ap,q,s1,s2⟩=>⟨k1,k2,ap,q,⟨w.heap.size,(a.eval x).cells.toList,eh S _,hc,by assumption⟩,s2⟩
theorem Df {g:World} {k:IntKind}:∀ {xs:List Int},(∀ n∈xs,aD k n)-> @eG Int (Ty.int k).rep g (xs.map λn=>[Value.int k n]) xs/\(xs.map λn=>[Value.int k n]).flatten=xs.map (Value.int k ·)
 | [],_=>⟨trivial,rfl⟩
 | x::xs,h=>by
  obtain ⟨h1,h2⟩:=Df (g:=g) (xs:=xs) λn hn=>h n (aF _ hn);exact ⟨⟨⟨rfl,oQ.1 (h x aK)⟩,h1⟩,by grind⟩
theorem abQ {bb:Nat} {k:IntKind} {t:TypeId} {xs:List (Ty.int k).den} {l:List Atom} (hx:∀ n∈xs,aD k n) (hn:xs.length<=maxLen) (H:SL W g w (Lm.pd bb (xs.map (Value.int k ·)).toArray t::l)):SL W g w (pF (.int k) t (.slice (some ⟨bb,0,none⟩) xs.length xs.length) xs::l):=by
 letI:=(Ty.int k).rep;obtain ⟨r,e⟩:=Df (g:=g) hx;have H1:=SL.wx (size:=1) (cap:=xs.length) xs.length H (aG _) hn (by simp);have e2:List.take (xs.length*1) (xs.map (Value.int k ·)).toArray.toList=(xs.map λn=>[Value.int k n]).flatten:=by
  grind [aT]
 rw [e2] at H1;exact SL.YR r H1
theorem zJ {k:IntKind}:∀ {n:Nat} {z:List Cl},sd k n z=true->z=au n (.k (.int k 0))
 | 0,[],_=>rfl
 | n+1,z,h=>by
  unfold sd at h;split at h;omega
  .rename_i m k' r e;cases e;rw [ak] at h;rw [IntKind.eq_of_beq h.1,zJ h.2];rfl
  grind
 | 0,_::_,h=>by trivial
theorem Co {E:Env} {v:Value}:∀ {n:Nat} {us:List Value},bp E g (au n (.k v)) us->us=au n v
 | 0,_,h=>h
 | n+1,_,⟨u,q,e,⟨h1,_⟩,h2⟩=>by rw [e,h1,Co h2];rfl
theorem Mz (S:dm n W F b E g w s a) {t:TypeId} {z:List Cl} {m:Nat} {k:IntKind} {K:SV->Ov->Prop} (ho:o.op= .alloc t) (hz:og X.P t=some z) (ha:MC X.P t=some (m,k)) (Ez:sd k m z=true) (h:K (.c (.oe s.n 1 0 0)) (s.new (.sl t (.int k) (au m 0)))):
  ∃ v w',(execOp a.eval o).run X.P w= .ok (.value v) w'/\Out n W F b E g a K v w':=by
 obtain rfl:=zJ Ez;obtain ⟨_,_,_,_,hm⟩:=AV ha;unfold og at hz;split at hz
 .rename_i i hi;split at hz
  .rename_i z0 GS;have hr:(execOp a.eval o).run X.P w= .ok (.value (ptr w.heap.size 0)) (w.alloc (.cells z0.cells t)):=Uw ho hi GS;have hc:z0.cells.toList=au m (.int k 0):=Co (E:=E) (g:=g) (kK hz);have zc:z0.cells=((au m (0:Int)).map (Value.int k ·)).toArray:=by
    refine Array.toList_inj.1 ?_;rw [hc,List.map_replicate]
   have H:=S.sat.sl.new (xG.mk' w (.cells z0.cells t));rw [zc] at hr H;have H2:=abQ (k:=k) (xs:=au m (0:Int)) (λn hn=>by rw [List.eq_of_mem_replicate hn];cases k<;>(unfold aD;decide)) (by rw [aY];unfold maxLen;omega) H;refine ⟨_,_,hr,_,g,_,_,bu.app E [.slice (some ⟨w.heap.size,0,none⟩) (au m (0:Int)).length (au m (0:Int)).length],bt.refl g,S.new (bt.refl g) ?_,(show df _ g (.c (.oe s.n 1 0 0)) _ from ⟨_,eh S _,TL.symm,_,rfl⟩),h⟩;exact H2.cJ λk ⟨k1,k2,ap,q,s1,s2⟩=>⟨k1,k2,ap,q,⟨_,eh S _,s1⟩,s2⟩
  .cases hz
 .cases hz
theorem VB (S:dm n W F b E g w s a) {t:TypeId} {x:Operand} {m:Nat} {k:IntKind} {l:List Int} {K:SV->Ov->Prop} (ho:o.op= .box t x) (r:df E g (.arr k l) (a.eval x)) (ha:MC X.P t=some (m,k)) (hl:l.length=m) (h:K (.c (.oe s.n 1 0 0)) (s.new (.sl t (.int k) l))):
  ∃ v w',(execOp a.eval o).run X.P w= .ok (.value v) w'/\Out n W F b E g a K v w':=by
 obtain ⟨hx,za⟩:=r;obtain ⟨_,_,_,_,hm⟩:=AV ha;have hr:(execOp a.eval o).run X.P w= .ok (.value (ptr w.heap.size 0)) (w.alloc (.cells (a.eval x).cells t)):=ahn ho rfl;have H:=S.sat.sl.new (xG.mk' w (.cells (a.eval x).cells t));have hc:(a.eval x).cells=(l.map (Value.int k ·)).toArray:=by rw [hx];rfl
 rw [hc] at hr H;have H2:=abQ (k:=k) (xs:=l) za (by unfold maxLen;omega) H;refine ⟨_,_,hr,_,g,_,_,bu.app E [.slice (some ⟨w.heap.size,0,none⟩) l.length l.length],bt.refl g,S.new (bt.refl g) ?_,(show df _ g (.c (.oe s.n 1 0 0)) _ from ⟨_,eh S _,TL.symm,_,rfl⟩),h⟩;exact H2.cJ λk ⟨k1,k2,ap,q,s1,s2⟩=>⟨k1,k2,ap,q,⟨_,eh S _,s1⟩,s2⟩
theorem Ii (S:dm n W F b E g w s a) {t:TypeId} {x y:Operand} {c:Cl} {k:IntKind} {l:List Int} {K:Ov->Prop} (ho:o.op= .store t x y) (r:cq E g c (a.eval x)) (rv:df E g (.arr k l) (a.eval y)) (h:zz X.P b s t c k l K):
  ∃ w' s',(execOp a.eval o).run X.P w= .ok .skip w'/\dm n W F b E g w' s' a/\K s':=by
 unfold zz at h;split at h
 .rename_i m k' lb sz i ha;obtain ⟨v,hE,hx,_⟩:=r;split at h
  .rename_i u e xs eE;have h9:=di h;clear h;obtain ⟨hc,h⟩:=h9;simp only [ak] at hc;split at h
   .rename_i ys Nu;obtain ⟨q,hy⟩:=eB Nu;subst q;subst hy;obtain ⟨Ez,hlen,Qm,h⟩:=h;obtain ⟨e',hu,mC,hn,hm⟩:=AV ha;obtain ⟨bb,cap,cur,rfl,q1,q2,q3,q4,q5,H2⟩:=Uu (jN S hE eE) (by omega);rw [ai hc.2.1,Ez,TL] at hx;have hkc:(a.eval y).cells=(l.map (Value.int k ·)).toArray:=by rw [rv.1];rfl
    have zb:(a.eval y).cells.size=m:=by rw [hkc];simp [Qm]
    have hr:=kc (P:=X.P) (t:=t) (off:=0) (v:=a.eval y) (H2.pd 0) (by rw [mC,zb]) (by rw [hkc];simp [Value.oneCell']) (by omega);rw [<-hx] at hr;have hle:m<=cap:=by omega
    have NA:(a.eval y).cells.toList=l.map (Value.int k ·):=by rw [hkc]
    rw [zb,NA,List.take_zero,hU,gC] at hr;have up:Xt w bb (l.map (Value.int k ·)++cur.toList.drop m).toArray (w.setRow bb (l.map (Value.int k ·)++cur.toList.drop m).toArray):=⟨rfl,(H2.pd 0).lt⟩;have H3:=H2.upd 0 up;have H4:=SL.wx (size:=1) (cap:=cap) m H3 hle q2 (by simp [Qm];omega);letI:=(Ty.int k).rep;obtain ⟨r,e2⟩:=Df (g:=g) rv.2;have e3:List.take (m*1) (l.map (Value.int k ·)++cur.toList.drop m).toArray.toList=(l.map λn=>[Value.int k n]).flatten:=by
     rw [e2,Nat.mul_one,List.toList_toArray,List.take_append_of_le_length (by simp [Qm]),aT (by simp [Qm])]
    rw [e3] at H4;have H5:SL W g _ (pF (.int k) u (.slice (some ⟨bb,0,none⟩) m cap) l::_):=SL.YR (xs:=l) r (by rw [Qm];exact H4);rw [hlen] at hE;have hr':(execOp a.eval o).run X.P w= .ok .skip (w.setRow bb (l.map (Value.int k ·)++cur.toList.drop m).toArray):=by simp [execOp,ho,hr]
    refine ⟨_,_,hr',S.back hE _ (bt.refl g) ?_,h⟩;exact H5.cJ λq ⟨k1,k2,ap,q',s1,s2⟩=>⟨k1,k2,ap,q',⟨_,hE,s1⟩,s2⟩
   .cases h
  .cases h
 .cases h
instance oneCellsTy (e:Ty): @iV e.den e.rep:= @iV.mk e.den e.rep λ{g _ _} h=>((fz ([]:Env) g e h).1).one
theorem Zf {e:Ty} {v:Value} {xs:List e.den} (h:oa e g v xs) (m:bt g w): @Rd e.den e.rep g w v xs:= @Is.rd e.den e.rep g w v xs h m
theorem Ze {e:Ty} {t:TypeId} {v:Value} {xs:List e.den} {l:List Atom} (H:SL W g w (pF e t v xs::l)): @Rd e.den e.rep g w v xs:=by
 letI:=e.rep;exact SL.amJ (α:=e.den) H
theorem tZ (S:dm n W F b E g w s a) {e:Ty} {x:Cl} {u:Value} {ys:List e.den} (r:cq E g x u) (h:th b s e x=some ys): @Rd e.den e.rep g w u ys/\oa e w u ys:=by
 unfold th at h;split at h
 .cases h;obtain ⟨rfl,_⟩:=r;exact ⟨.inl ⟨rfl,rfl⟩,(@dI e.den e.rep w _ _).2 (.inl ⟨rfl,rfl⟩)⟩
 .obtain ⟨q,hy⟩:=eB h;subst q;subst hy;exact ⟨Zf r S.m,oa.mono S.m r⟩
 .obtain ⟨hE,_⟩:=r;split at h
  .rename_i eE;obtain ⟨q,hy⟩:=eB h;subst q;subst hy;exact ⟨Ze (jN S hE eE),pL (jN S hE eE)⟩
  .rename_i eE;obtain ⟨q,hy⟩:=eB h;subst q;subst hy;exact ⟨Zf (lE S hE eE) S.m,(lE S hE eE).mono S.m⟩
  grind
 grind
theorem HW (S:dm n W F b E g w s a) {e:Ty} {x:Cl} {u:Value} {K:List e.den->Prop} (r:cq E g x u) (h:YQ b s e x K):∃ ys,@Rd e.den e.rep g w u ys/\oa e w u ys/\K ys:=by
 unfold YQ at h;split at h
 .rename_i q sz lo hi;obtain ⟨v,hE,hu,_⟩:=r;split at h
  .rename_i t e' xs eE;have h9:=di h;obtain ⟨mC,h1,h2,h3,h4⟩:=h9;split at h4
   .rename_i ys Nu;obtain ⟨q',hy⟩:=eB Nu;subst q';have OS:ys=(xs.drop lo.toNat).take (hi.toNat - lo.toNat):=hy;have H:=jN S hE eE;obtain rfl:=ai mC
    grind [Rd.slice, Ze, Ty.gz, kR, pL]
   grind
  grind
 grind [tZ]
theorem zA {P:Program} {w:World} (base:Nat) (t u ty e:TypeId) (i:TypeInfo) (ht:P.underlying t=some (.slice e)) (hu:P.underlying u=some .string) (hi:P.info? e=some i) (hz:i.zero=some (.int .u8 0))
  (Nw:i.size=1) (hby:i.bytes=1) (v:Value) (m:Nat) (xs:List Value) (JD:w.ownsRow base e 1 v m xs) (z:ByteArray)
  (h63:m+z.size<=maxLen) (aau:m+z.size<=140737488355328) {v':Value} {w':World} (hr:(Builtin.append_ #[t,u] ty #[v,.string z]).run P w= .ok v' w'):
  ∀ k,v'.ownBlock=some k->v.ownBlock=some k\/w.heap.size<=k:=by
 have hxl:xs.length=m:=by simpa using JD.1
 have ajR:m+z.size<=9223372036854775807:=by simp only [maxLen] at h63;omega
 rcases JD.2 with ⟨rfl,rfl⟩| ⟨gb,cap,cur,rfl,hbg,hg,hnc,fq,zb,Nv⟩
 .by_cases hm:z.size=0
  .have hf:=Go.Lib.run_firstCells_string (P:=P) w 1 z;rw [hm] at hf;have jr:(Builtin.append_ #[t,u] ty #[.slice none 0 0,.string z]).run P w= .ok (.slice none 0 0) w:=by
    simp [Builtin.append_,run_underlying ht,run_underlying hu,sizeOf,typeInfo,hi,Nw,Builtin.lenOf,hm,hf]
   rw [jr] at hr;cases hr;intro k hk;simp [Value.ownBlock] at hk
  .rw [run_append_nil_string (P:=P) w t u ty e i (.int .u8 0) ht hu hi hz z (by omega) (by omega) (by rw [hby];omega)] at hr
   grind [Value.ownBlock]
 .by_cases Tz:m+z.size<=cap
  .have anG:cur.size=cap:=by simpa using zb
   rw [Go.Lib.run_append_room_string (P:=P) w t u ty e i ht hu hi Nw gb m cap cur hg z Tz (by omega)] at hr;cases hr;exact λk hk=>.inl hk
  .have holds:∀ j u,xs[j]?=some u->w.cell? ((⟨gb,0,none⟩:Addr).add j)=some u:=JD.cells (g:=gb) rfl;rw [Go.Lib.run_append_grow_string (P:=P) w t u ty e i (.int .u8 0) ht hu hi hz ⟨gb,0,none⟩ m cap xs (by rw [Nw];simpa using hxl) holds z (by omega) (by omega) (by rw [hby];exact growslice_fits (by omega) (by omega))] at hr
   grind [Value.ownBlock]
theorem wz (g:World):∀ l:List UInt8,eG g (l.map λc=>[Value.int .u8 (c.toNat:Int)]) l/\(l.map λc=>[Value.int .u8 (c.toNat:Int)]).flatten=l.map λc=>Value.int .u8 (c.toNat:Int)
 | []=>⟨trivial,rfl⟩
 | c::l=>⟨⟨rfl,(wz g l).1⟩,by rw [cE,dD,(wz g l).2];rfl⟩
theorem My (S:dm n W F b E g w s a) {t t2:TypeId} {x y:Operand} {cx cy:Cl} {K:SV->Ov->Prop} (ho:o.op= .call {callee:=.builtin .append,args:= #[x,y],argTypes:= #[t,t2]}) (rx:cq E g cx (a.eval x)) (ry:cq E g cy (a.eval y)) (h:J9 X b s t t2 cx cy K):
  ∃ v w',(execOp a.eval o).run X.P w= .ok (.value v) w'/\Out n W F b E g a K v w':=by
 unfold J9 at h;split at h
 .rename_i et z ht hu;obtain ⟨hy,hz⟩:=ry;obtain ⟨hu8,h⟩:=di h;obtain ⟨ie,mD,hs1,GS,hb1⟩:∃ ie,X.P.info? et=some ie/\ie.size=1/\ie.zero=some (.int .u8 0)/\ie.bytes=1:=by
   unfold Nq at hu8;split at hu8
   .rename_i ie mD;rw [ak] at hu8;obtain ⟨h1,h2⟩:=hu8;split at h2
    .rename_i GS;exact ⟨ie,mD,ai h1,GS,ai h2⟩
    .cases h2
   .cases hu8
  have OR:z.data.toList.length=z.size:=by rfl
  have app:∀ {xs:List UInt8} {v:Value} {L:List Atom},SL W g w (pF .u8 et v xs::L)->a.eval x=v->xs.length+z.size<=140737488355328->
    ∃ v' w',(execOp a.eval o).run X.P w= .ok (.value v') w'/\SL W g w' (pF .u8 et v' (xs++z.data.toList)::L)/\∃ q m c,v'= .slice q m c:=λ{xs v L} H hx hb=>by
   obtain ⟨cs,hrel,H1⟩:=SL.pF (α:=UInt8) H;have tm:=H1.row;obtain ⟨v',w',jr,aai,NB,_⟩:=Go.Lib.run_append_own_string (P:=X.P) (w:=w) W.n t t2 o.type et ie ht hu mD GS hs1 hb1 v xs.length cs.flatten tm z (by unfold maxLen;omega) hb H.size;have Qf:=zA (P:=X.P) W.n t t2 o.type et ie ht hu mD GS hs1 hb1 v xs.length cs.flatten tm z (by unfold maxLen;omega) hb jr;have H2:=H1.grown aai NB Qf;have apD:Go.Lib.strCells z=z.data.toList.map λc=>Value.int .u8 (c.toNat:Int):=by
    simp [Go.Lib.strCells]
   have H3:SL W g w' (pF .u8 et v' (xs++z.data.toList)::L):=by
    refine SL.YR (α:=UInt8) (cs:=cs++(z.data.toList.map λc=>[Value.int .u8 (c.toNat:Int)])) (hrel.append (wz g _).1) ?_;rw [jw,(wz g _).2,af,OR,<-apD];exact H2
   obtain ⟨q,m,c,hv,_⟩:=HZ H3;exact ⟨v',w',by simp [execOp,ho,resolve,invoke,builtin,hx,hy,jr],H3,q,m,c,hv⟩
  split at h
  .obtain ⟨hb,h⟩:=h;obtain ⟨hx,_⟩:=rx;have H:=SL.zU UInt8 et S.sat.sl;obtain ⟨v',w',hr,H',hv⟩:=app (xs:=[]) H hx (by simpa using hb);refine ⟨v',w',hr,E++ [v'],g,_,_,bu.app E _,bt.refl g,S.new (v:=v') (bt.refl g) ?_,(show df _ g (.c (.o s.n)) v' from ⟨eh S _,hv⟩),h⟩;exact H'.cJ λk ⟨k1,k2,ap,q,s1,s2⟩=>⟨k1,k2,ap,q,⟨v',eh S _,by simpa using s1⟩,s2⟩
  .obtain ⟨hE,_⟩:=rx;split at h
   .rename_i l _ Qy e' xs0 eE;obtain ⟨hte,h⟩:=di h;obtain rfl:=ai hte;split at h
    .rename_i xs Aj;obtain ⟨hb,hK⟩:=h;obtain ⟨q,hq⟩:=eB Aj;subst q;subst hq;obtain ⟨v',w',hr,H',hv⟩:=app (jN S hE eE) rfl hb;refine ⟨v',w',hr,E++ [v'],g,_,_,bu.app E _,bt.refl g,S.move (v:=v') hE (bt.refl g) ?_,(show df _ g (.c (.o s.n)) v' from ⟨eh S _,hv⟩),hK⟩;exact H'.cJ λk ⟨k1,k2,ap,q,s1,s2⟩=>⟨k1,k2,ap,q,⟨v',eh S _,s1⟩,s2⟩
    .cases h
   .cases h
  .cases h
 .cases h
theorem Mx (S:dm n W F b E g w s a) {t t2:TypeId} {x y:Operand} {cx cy:Cl} {K:SV->Ov->Prop} (ho:o.op= .call {callee:=.builtin .append,args:= #[x,y],argTypes:= #[t,t2]}) (rx:cq E g cx (a.eval x)) (ry:cq E g cy (a.eval y)) (h:J8 X b s t t2 cx cy K):
  ∃ v w',(execOp a.eval o).run X.P w= .ok (.value v) w'/\Out n W F b E g a K v w':=by
 unfold J8 at h;split at h;cases h
 .rename_i et e ie Qn;have aqo:X.P.underlying t=some (.slice et)/\X.P.info? et=some ie/\e.size=ie.size:=by
   unfold NT at Qn;split at Qn
   .rename_i Qy ht;split at Qn
    .rename_i ie' e' mD hty;split at Qn
     .rename_i hs;cases Qn;exact ⟨ht,mD,ai hs⟩
     .cases Qn
    .cases Qn
   .cases Qn
  obtain ⟨ht,mD,mC⟩:=aqo;split at h
  .rename_i htt;obtain rfl:=ai htt
   .obtain ⟨ys,Wa,aqf,h⟩:=HW S ry h;letI:=e.rep;have JE:aP.size e.den=e.size:=Ty.gz e
    -- the append itself
    have app:∀ {xs:List e.den} {v:Value} {L:List Atom},SL W g w (pF e et v xs::L)->a.eval x=v->Uv X et e=true->(xs.length+ys.length)*ie.bytes<=140737488355328->xs.length+ys.length<=9223372036854775807->
      ∃ v' w',(execOp a.eval o).run X.P w= .ok (.value v') w'/\SL W g w' (pF e et v' (xs++ys)::L)/\∃ q m c,v'= .slice q m c:=λ{xs v L} H hx rT hb hm=>by
     unfold Uv at rT;rw [mD] at rT;simp only [ak] at rT;obtain ⟨h1,h2⟩:=rT;cases hz:ie.zero with
     | none=>rw [hz] at h2;cases h2
     | some z=>
      rw [hz] at h2;obtain ⟨v',w',hr,H',_⟩:=SL.append (α:=e.den) (P:=X.P) (t:=t) (ty:=o.type) (bytes:=ie.bytes) H Wa ht (by rw [mD,JE,mC];simp [hz]) (by rw [mD];simp [hz];rw [JE];exact ai h2) (by rw [JE];simpa using h1) hb hm;obtain ⟨q,m,c,hv,_⟩:=HZ H';exact ⟨v',w',by simp [execOp,ho,resolve,invoke,builtin,hx,hr],H',q,m,c,hv⟩
    split at h
    .obtain ⟨rT,hb,h⟩:=di h;obtain ⟨hx,_⟩:=rx;have H:=SL.zU e.den et S.sat.sl;have hlen:=lA aqf;obtain ⟨v',w',hr,H',hv⟩:=app (xs:=[]) H hx rT (by simpa using hb) (by simpa using hlen);refine ⟨v',w',hr,E++ [v'],g,_,_,bu.app E _,bt.refl g,S.new (v:=v') (bt.refl g) ?_,(show df _ g (.c (.o s.n)) v' from ⟨eh S _,hv⟩),h⟩;exact H'.cJ λk ⟨k1,k2,ap,q,s1,s2⟩=>⟨k1,k2,ap,q,⟨v',eh S _,by simpa using s1⟩,s2⟩
    .obtain ⟨hE,_⟩:=rx;split at h
     .rename_i l _ Qy e' xs0 eE;split at h
      .rename_i hte;obtain rfl:=ai hte;split at h
       .rename_i xs Aj;obtain ⟨rT,hb,hm,h⟩:=di h;obtain ⟨q,hy⟩:=eB Aj;subst q;subst hy;obtain ⟨v',w',hr,H',hv⟩:=app (jN S hE eE) rfl rT hb hm;refine ⟨v',w',hr,E++ [v'],g,_,_,bu.app E _,bt.refl g,S.move (v:=v') hE (bt.refl g) ?_,(show df _ g (.c (.o s.n)) v' from ⟨eh S _,hv⟩),h⟩;exact H'.cJ λk ⟨k1,k2,ap,q,s1,s2⟩=>⟨k1,k2,ap,q,⟨v',eh S _,s1⟩,s2⟩
       .cases h
      .cases h
     .cases h
    .cases h
  .exact My S ho rx ry h
end
section
variable {X:Vx} {n:Nat} {W:cX} {F:List Atom} {b:Bs} {E:Env} {g w:World} {s:Ov} {a:Act} {o:Oper}
theorem NI:∀ (vs:List Value) (k:Nat) (us:List Value) (off:Nat),off+k+vs.length<=us.length->
  (vs.zipIdx k).foldl (λ(q:Array Value) (p:Value×Nat)=>q.setIfInBounds (off+p.2) p.1) us.toArray=(us.take (off+k)++(vs++us.drop (off+k+vs.length))).toArray
 | [],k,us,off,_=>by simp
 | v::r,k,us,off,h=>by
  have h':off+k< us.length:=by simp at h;omega
  have e:us.toArray.setIfInBounds (off+k) v=(us.set (off+k) v).toArray:=by simp
  show (r.zipIdx (k+1)).foldl _ (us.toArray.setIfInBounds (off+k) v)=_;rw [e,NI r (k+1) (us.set (off+k) v) off (by simp at h ⊢;omega)];have h1:(us.set (off+k) v).take (off+(k+1))=us.take (off+k)++ [v]:=by
   rw [show off+(k+1)=off+k+1 by omega,List.take_add_one,List.getElem?_set_self (by simpa using h'),List.take_set_of_le (by omega)];simp
  have h2:(us.set (off+k) v).drop (off+(k+1)+r.length)=us.drop (off+k+(v::r).length):=by
   rw [List.drop_set_of_lt (by omega)];simp;omega
  rw [h1,h2];simp
inductive tF (E:Env) (g:World) (a:Act):List (Nat×S1)->List (Nat×Operand)->Prop
 | nil:tF E g a [] []
 | cons {i:Nat} {v:S1} {x:Operand} {ps:List (Nat×S1)} {l:List (Nat×Operand)} (h:gv E g v (a.eval x)) (k:tF E g a ps l):tF E g a ((i,v)::ps) ((i,x)::l)
theorem tT (S:dm n W F b E g w s a):∀ {l:List (Nat×Operand)} {ps:List (Nat×S1)},td b s l=some ps->tF E g a ps l
 | [],ps,h=>by
  obtain rfl: []=ps:=aj h;exact .nil
 | (i,x)::r,ps,h=>by
  unfold td at h;split at h
  .rename_i v hv;split at h
   .rename_i l hl;obtain rfl:(i,v)::l=ps:=aj h;exact .cons (S.fm hv) (tT S hl)
   .cases h
  .cases h
theorem xi {place:Nat->Option (Nat×Nat)}:∀ {ps:List (Nat×S1)} {l:List (Nat×Operand)} {cs wa:List Cl} {us:List Value},Aq place cs ps=some wa->tF E g a ps l->bp E g cs us->
  ∃ uV,Instr.fill place us.toArray (l.map λq=>(q.1,a.eval q.2))=some uV.toArray/\bp E g wa uV
 | [],_,cs,wa,us,h,.nil,hc=>by
  obtain rfl:cs=wa:=aj h;exact ⟨us,rfl,hc⟩
 | (i,v)::r,_,cs,wa,us,h,.cons (x:=x) h2 h3,hc=>by
  unfold Aq at h;split at h;cases h
  .rename_i off size hp;split at h
   .split at h
    .have hv:=gv.cells h2;have hl:(a.eval x).cells.size=size:=by
      have:=hv.length;simp_all
     have asp:off+size<=us.length:=by rw [hc.length];simp_all
     obtain ⟨uV,h4,h5⟩:=xi h h3 (xW (off:=off) hc hv);refine ⟨uV,?_,h5⟩;show Instr.fill place us.toArray ((i,a.eval x)::_)=_;unfold Instr.fill;simp only [hp];have vP:((a.eval x).cells.size !=size|| decide (off+(a.eval x).cells.size>us.toArray.size))=false:=by
      grind
     have e:=NI (a.eval x).cells.toList 0 us off (by rw [Array.length_toList,hl];omega)
     grind [Array.toList_zipIdx]
    grind
   grind
theorem Ck {t:TypeId} {parts:Array (Nat×Operand)} {ps:List (Nat×S1)} {K:SV->Prop} (ho:o.op= .build t parts) (hp:tF E g a ps parts.toList) (h:vW X.P t ps K):ER X.P o a w E g K:=by
 unfold vW og at h;split at h
 .grind
 .rename_i z hz;split at hz
  .split at hz
   .rename_i z0 GS;have hzc:bp E g z z0.cells.toList:=kK hz;have key:∀ {place:Nat->Option (Nat×Nat)} {cs:List Cl},Aq place z ps=some cs->∃ uV,Instr.fill place z0.cells (parts.toList.map λq=>(q.1,a.eval q.2))=some uV.toArray/\bp E g cs uV:=λ{place cs} hf=>by
     have:=xi hf hp hzc;omega
    split at h
    .split at h
     .split at h
      .rename_i cs hf;obtain ⟨uV,h1,h2⟩:=key hf;refine ⟨.agg uV.toArray,.v (.agg cs),?_,⟨uV,h2,rfl⟩,h⟩;simp_all [Program.built,execOp,run_build]
      grind
     grind
    .split at h
     .split at h
      .rename_i cs hf;obtain ⟨uV,h1,h2⟩:=key hf;refine ⟨.agg uV.toArray,.v (.agg cs),?_,⟨uV,h2,rfl⟩,h⟩;simp_all [Program.built,execOp,run_build]
      grind
     grind
    grind
   grind
  grind
theorem H9 {e:Ty}:∀ {off m:Nat} {cs:List Cl} {zs:List e.den} {us:List Value},Vq e off m cs=some zs->bp E g cs us->zs.length=m/\∀ (i:Nat) z,zs[i]?=some z->∃ u,us[off+i]?=some u/\e.rep.rel g [u] z
 | 0,0,_,zs,_,h,_=>by
  grind [Vq]
 | 0,m+1,c::r,zs,us,h,⟨u,q,e,h1,h2⟩=>by
  unfold Vq at h;split at h
  .rename_i z hz;split at h
   .rename_i l hl;obtain ⟨h3,h4⟩:=H9 hl h2;refine ⟨by grind,λi y hy=>?_⟩;cases i with
    | zero=>
     obtain ⟨u1,u2,e1,h5,h6⟩:=of_cells _ hz (bp.cons h1 bp.nil);obtain rfl:u2= []:=h6
     grind
    | succ i=>
     grind
   grind
  grind
 | off+1,m,c::r,zs,us,h,⟨u,q,e,_,h2⟩=>by
  obtain ⟨h3,h4⟩:=H9 (off:=off) h h2
  grind
 | 0,m+1,[],_,_,h,_=>by cases h
 | off+1,m,[],_,_,h,_=>by cases h
theorem gN:∀ {cs:List Cl} {us:List Value} {s:Ov} {g:World} {k:List Cl->Ov->Prop},dm n W F b E g w s a->bp E g cs us->kJ b cs s k->∃ g' s' wa,bt g g'/\dm n W F b E g' w s' a/\bp E g' wa us/\k wa s'
 | [],us,s,g,k,S,hc,h=>⟨g,s,[],bt.refl g,S,hc,h⟩
 | c::r,us,s,g,k,S,⟨u,q,e,h1,h2⟩,h=>by
  subst e;unfold kJ at h;split at h
  .rename_i l;have hE:=h1.1;split at h
   .rename_i t e xs eE;letI:=e.rep;obtain ⟨g1,m1,H1,hi⟩:=SL.qE (α:=e.den) (jN S hE eE);have S1:dm n W F b E g1 w (s.dU l (.held t e xs)) a:=S.back hE _ m1 (H1.cJ λk s2=>⟨λ_=>none,k,λ_=>.inl rfl,rfl,(show (cM E l (.held t e xs)).sat g1 _ from ⟨u,hE,hi⟩),s2⟩);obtain ⟨g2,s2,cs2,m2,S2,h3,h4⟩:=gN S1 (h2.mono (bu.refl E) m1) h;exact ⟨g2,s2,_,m1.trans m2,S2,bp.cons (show cq E g2 (.d e xs) u from oa.mono m2 hi) h3,h4⟩
   .rename_i t e xs eE;have hi:=lE S hE eE;obtain ⟨g2,s2,cs2,m2,S2,h3,h4⟩:=gN S h2 h;exact ⟨g2,s2,_,m2,S2,bp.cons (show cq E g2 (.d e xs) u from oa.mono m2 hi) h3,h4⟩
   .cases h
  .rename_i l off m;obtain ⟨bb,c,hE,hmc,hu⟩:=h1;split at h
   .rename_i t cs0 eE;have h9:=di h;obtain ⟨mC,h⟩:=h9;have mC:=ai mC;split at h
    .rename_i zs hzs;obtain ⟨us0,hr,_,H⟩:=o6 S hE eE;obtain ⟨hlen,qt⟩:=H9 hzs hr;obtain ⟨g1,m1,H1,hg⟩:=SL.agV H;have S1:dm n W F b E g1 w (s.dU l .gone) a:=S.back hE .gone m1 (H1.cJ λk s2=>⟨λ_=>none,k,λ_=>.inl rfl,rfl,trivial,s2⟩);have hi:oa (O6 off cs0) g1 u zs:=by
      letI:=(O6 off cs0).rep;refine (dI (α:=(O6 off cs0).den)).2 ?_;refine .inr ⟨⟨bb,off,none⟩,c,by rw [hu,hlen],by rw [hlen];exact hmc.1,hmc.2,λi x hx=>?_⟩;obtain ⟨ux,hux,hrx⟩:=qt i x hx;refine ⟨[ux],λj v hj=>?_,aP.mono m1 hrx⟩
      match j,hj with
      | 0,hj=>
       grind [Ty.gz,Addr.add]
      | j+1,hj=>simp at hj
     obtain ⟨g2,s2,cs2,m2,S2,h3,h4⟩:=gN S1 (h2.mono (bu.refl E) m1) h;exact ⟨g2,s2,_,m1.trans m2,S2,bp.cons (show cq E g2 (.d (O6 off cs0) zs) u from oa.mono m2 hi) h3,h4⟩
    .cases h
   .cases h
  .rename_i l sz i off;obtain ⟨v,hE,hu,_⟩:=h1;split at h
   .rename_i t e xs eE;have h9:=di h;clear h;obtain ⟨hc,h0,h8,h⟩:=h9;simp only [ak] at hc;letI:=e.rep;obtain ⟨g1,m1,H1,hi⟩:=SL.qE (α:=e.den) (jN S hE eE);have S1:dm n W F b E g1 w (s.dU l (.held t e xs)) a:=S.back hE _ m1 (H1.cJ λk s2=>⟨λ_=>none,k,λ_=>.inl rfl,rfl,(show (cM E l (.held t e xs)).sat g1 _ from ⟨v,hE,hi⟩),s2⟩);obtain ⟨g2,s2,cs2,m2,S2,h3,h4⟩:=gN S1 (h2.mono (bu.refl E) m1) h;exact ⟨g2,s2,_,m1.trans m2,S2,bp.cons (show cq E g2 (.de e xs i off) u from ⟨⟨h0,h8,eX hc.2⟩,v,oa.mono m2 hi,by rw [ai hc.1];exact hu⟩) h3,h4⟩
   .rename_i t e xs eE;have h9:=di h;clear h;obtain ⟨hc,h0,h8,h⟩:=h9;simp only [ak] at hc;have hi:=lE S hE eE;obtain ⟨g2,s2,cs2,m2,S2,h3,h4⟩:=gN S h2 h;exact ⟨g2,s2,_,m2,S2,by grind [bp.cons,cq,eX,oa.mono,ai],h4⟩
   .cases h
  .rename_i l sz lo hi;obtain ⟨v,hE,hu,_⟩:=h1;split at h
   .rename_i t e xs eE;have h9:=di h;clear h;obtain ⟨hc,h0,h8,h7,h⟩:=h9;obtain rfl:=ai hc;letI:=e.rep;obtain ⟨g1,m1,H1,hi⟩:=SL.qE (α:=e.den) (jN S hE eE);have S1:dm n W F b E g1 w (s.dU l (.held t e xs)) a:=S.back hE _ m1 (H1.cJ λk s2=>⟨λ_=>none,k,λ_=>.inl rfl,rfl,(show (cM E l (.held t e xs)).sat g1 _ from ⟨v,hE,hi⟩),s2⟩);obtain ⟨g2,s2,cs2,m2,S2,h3,h4⟩:=gN S1 (h2.mono (bu.refl E) m1) h;exact ⟨g2,s2,_,m1.trans m2,S2,bp.cons (show cq E g2 (.d e _) u from hu▸kR (oa.mono m2 hi) h0 h8 h7) h3,h4⟩
   .rename_i t e xs eE;have h9:=di h;clear h;obtain ⟨hc,h0,h8,h7,h⟩:=h9;obtain rfl:=ai hc;have hi:=lE S hE eE;obtain ⟨g2,s2,cs2,m2,S2,h3,h4⟩:=gN S h2 h;exact ⟨g2,s2,_,m2,S2,bp.cons (show cq E g2 (.d e _) u from hu▸kR (oa.mono m2 hi) h0 h8 h7) h3,h4⟩
   .cases h
  .obtain ⟨g2,s2,cs2,m2,S2,h3,h4⟩:=gN S h2 h;exact ⟨g2,s2,_,m2,S2,bp.cons (h1.mono (bu.refl E) m2) h3,h4⟩
theorem M4 {e:Ty}:∀ (m:Nat) {cs:List Cl} {us:List Value} {xs:List e.den},M5 e m cs=some xs->bp E g cs us->∃ css:List (List Value),css.flatten=us/\ @eG e.den e.rep g css xs/\xs.length=m
 | 0,[],us,xs,h,hc=>by
  obtain rfl: []=xs:=aj h;exact ⟨[],(show us= [] from hc).symm,trivial,rfl⟩
 | 0,_::_,us,xs,h,hc=>by cases h
 | m+1,cs,us,xs,h,hc=>by
  unfold M5 at h;split at h
  .rename_i x r hx;split at h
   .rename_i ys Nu;obtain rfl:x::ys=xs:=aj h;obtain ⟨u1,u2,e1,h1,h2⟩:=of_cells e hx hc;obtain ⟨css,h3,h4,h5⟩:=M4 m Nu h2;exact ⟨u1::css,by grind,⟨h1,h4⟩,by grind⟩
   grind
  grind
theorem Gl {α:Type}:∀ (m:Nat) (z:List α) (i:Nat),i< m*z.length->(au m z).flatten[i]?=z[i % z.length]?
 | 0,z,i,h=>by simp at h
 | m+1,z,i,h=>by
  rw [List.replicate_succ,dD];by_cases hi:i< z.length;rw [bN hi,Nat.mod_eq_of_lt hi]
  .rw [bD (by omega),Gl m z (i - z.length) (by rw [gZ] at h;omega)];congr 1;exact (Nat.mod_eq_sub_mod (by omega)).symm
theorem Gm (m:Nat) (z:Array Value) (hz:0< z.size):(Array.range (m*z.size)).map (λi=>z[i % z.size]!)=((au m z.toList).flatten).toArray:=by
 apply Array.ext_getElem?;intro i;by_cases hi:i< m*z.size
 .grind [Gl,Nat.mod_lt]
 simp_all
theorem yf {z:List Cl} {us:List Value} (h:bp E g z us):∀ m:Nat,bp E g (au m z).flatten (au m us).flatten
 | 0=>bp.nil
 | m+1=>by
  exact h.app (yf h m)
theorem akZ {e:Ty} {et:TypeId} {bb m:Nat} {us:List Value} {xs:List e.den} {css:List (List Value)} {L:List Atom} (H:SL W g w (pd bb us.toArray et::L)) (h1:css.flatten=us) (h2: @eG e.den e.rep g css xs) (h3:xs.length=m) (hm:m<=maxLen):
  SL W g w (pF e et (.slice (some ⟨bb,0,none⟩) m m) xs::L):=by
 letI:=e.rep;have hlen:=(eG.length h2).2;have H2:=SL.wx (size:=aP.size e.den) (cap:=m) m H (aG _) hm (by grind);refine SL.YR (α:=e.den) (cs:=css) h2 ?_
 grind
end
section
variable {X:Vx} {n:Nat} {W:cX} {F:List Atom} {b:Bs} {E:Env} {g w:World} {s:Ov} {a:Act} {o:Oper}
theorem aaJ {t et:TypeId} {e:Ty} {ie:TypeInfo} (h:NT X t=some (et,e,ie)):X.P.underlying t=some (.slice et)/\X.P.info? et=some ie/\e.size=ie.size:=by
 grind [NT,ai]
theorem EI {P:Program} {t:TypeId} {z:List Cl} (h:og P t=some z):∃ i z0,P.info? t=some i/\i.zero=some z0/\bp E g z z0.cells.toList:=by
 grind [og,kK]
theorem Ih (S:dm n W F b E g w s a) {t:TypeId} {m:Nat} {parts:Array (Nat×Operand)} {ps:List (Nat×S1)} {K:SV->Ov->Prop} (ho:o.op= .buildSlice t m parts) (hp:tF E g a ps parts.toList) (h:DQ X s t m ps K):
  ∃ v w',(execOp a.eval o).run X.P w= .ok (.value v) w'/\Out n W F b E g a K v w':=by
 unfold DQ at h;split at h
 .rename_i et ht;split at h
  .rename_i ie z mD hz;obtain ⟨i',z0,aap,GS,hzc⟩:=EI (E:=E) (g:=g) hz;rw [mD] at aap;obtain rfl:=aj aap;obtain ⟨Dm,h⟩:=di h;rw [ak,ak,ak] at Dm;obtain ⟨⟨vP,zc,hc4⟩,hc3⟩:=Dm;have hsm:m*ie.size<=16777216:=eX vP;have xe:0< ie.size:=by simp_all
   have hm0:0< m:=by simp_all
   have hzs:z0.cells.size=ie.size:=by
    have:=hzc.length;simp_all
   split at h
   .grind
   .rename_i cs hf;obtain ⟨uV,h1,h2⟩:=xi hf hp (yf hzc m);have aal:(parts.map λ(i,x)=>(i,a.eval x)).toList=parts.toList.map λq=>(q.1,a.eval q.2):=by simp
    have hr:(Instr.buildSlice t m (parts.map λ(i,x)=>(i,a.eval x))).run X.P w= .ok (.slice (some ⟨w.heap.size,0,none⟩) m m) (w.alloc (.cells uV.toArray et)):=by
     refine run_buildSlice w t et m _ uV.toArray ie z0 ht mD GS (by omega) (by have:=Nat.mul_pos hm0 xe;omega) ?_
     grind [Gm]
    have jr:(execOp a.eval o).run X.P w= .ok (.value (.slice (some ⟨w.heap.size,0,none⟩) m m)) (w.alloc (.cells uV.toArray et)):=by
     simp_all [execOp]
    have H:=S.sat.sl.new (xG.mk' w (.cells uV.toArray et));have Dh:m<=maxLen:=by
     unfold maxLen;have:=Nat.le_mul_of_pos_right m xe;omega
    refine ⟨_,_,jr,E++ [ptr w.heap.size 0],g,_,_,bu.app E _,bt.refl g,S.new (v:=ptr w.heap.size 0) (bt.refl g) ?_,(show df _ g (.c (.sc s.n 0 m)) _ from ⟨_,m,eh S _,by omega,rfl⟩),h⟩;exact H.cJ λk ⟨k1,k2,ap,q,s1,s2⟩=>⟨k1,k2,ap,q,⟨_,uV,eh S _,h2.mono (bu.app E _) (bt.refl g),s1⟩,s2⟩
  grind
 grind
theorem AD (S:dm n W F b E g w s a) {t:TypeId} {m:Nat} {parts:Array (Nat×Operand)} {ps:List (Nat×S1)} {K:SV->Ov->Prop} (ho:o.op= .buildSlice t m parts) (hp:tF E g a ps parts.toList) (h:tz X b s t m ps K):
  ∃ v w',(execOp a.eval o).run X.P w= .ok (.value v) w'/\Out n W F b E g a K v w':=by
 unfold tz at h;split at h
 .grind [Ih]
 .rename_i et e ie Qn;obtain ⟨ht,mD,mC⟩:=aaJ Qn;split at h
  .grind
  .rename_i z hz;obtain ⟨i',z0,aap,GS,hzc⟩:=EI (E:=E) (g:=g) hz;rw [mD] at aap;obtain rfl:=aj aap;obtain ⟨Dm,h⟩:=di h;rw [ak,ak] at Dm;obtain ⟨⟨vP,zc⟩,hc3⟩:=Dm;have hsm:m*ie.size<=16777216:=eX vP;have hzs:z0.cells.size=ie.size:=by
    have:=hzc.length;simp_all
   have hm0:m*ie.size=0->m=0:=λh0=>by
    rcases Nat.mul_eq_zero.1 h0 with h| h;exact h;simp_all
   split at h
   .grind
   .rename_i cs hf;obtain ⟨uV,h1,h2⟩:=xi hf hp (yf hzc m);have aal:(parts.map λ(i,x)=>(i,a.eval x)).toList=parts.toList.map λq=>(q.1,a.eval q.2):=by simp
    have hr:(Instr.buildSlice t m (parts.map λ(i,x)=>(i,a.eval x))).run X.P w= .ok (.slice (some ⟨w.heap.size,0,none⟩) m m) (w.alloc (.cells uV.toArray et)):=by
     by_cases h0:m*ie.size=0
     .obtain rfl:=hm0 h0;have h1':Instr.fill (λi=>some (i*ie.size,ie.size)) #[] (parts.toList.map λq=>(q.1,a.eval q.2))=some uV.toArray:=h1;have GS:(Array.map (λ(_:Nat)=>(default:Value)) (Array.range 0))= #[]:=by simp
      simp [Instr.buildSlice,run_underlying ht,sizeOf,typeInfo,mD,newRow,GS,h1']
     grind [run_buildSlice,Gm]
    have jr:(execOp a.eval o).run X.P w= .ok (.value (.slice (some ⟨w.heap.size,0,none⟩) m m)) (w.alloc (.cells uV.toArray et)):=by
     simp_all [execOp]
    obtain ⟨g',s',wa,m',S',h3,h⟩:=gN S h2 h;cases Aj:M5 e m wa with
    | none=>grind
    | some xs=>
    rw [Aj] at h;obtain ⟨css,h4,h5,h6⟩:=M4 m Aj h3;have H:=S'.sat.sl.new (xG.mk' w (.cells uV.toArray et));have Dh:m<=maxLen:=by
     unfold maxLen;rcases Nat.eq_zero_or_pos ie.size with h| h
     .grind
     .have:=Nat.le_mul_of_pos_right m h;omega
    have H2:=akZ H h4 h5 h6 Dh;refine ⟨_,_,jr,E++ [.slice (some ⟨w.heap.size,0,none⟩) m m],g',_,_,bu.app E _,m',S'.new (v:=.slice (some ⟨w.heap.size,0,none⟩) m m) (bt.refl g') ?_,(show df _ g' (.c (.o s'.n)) _ from ⟨eh S' _,_,_,_,rfl⟩),h⟩;exact H2.cJ λk ⟨k1,k2,ap,q,s1,s2⟩=>⟨k1,k2,ap,q,⟨_,eh S' _,s1⟩,s2⟩
theorem Cj {P:Program} {src dst e:TypeId} {z:ByteArray} (hs:P.underlying src=some .string) (hd:P.underlying dst=some (.slice e)) (he:P.underlying e=some (.int .u8)) (hz:z.size<=maxLen):
  ∃ v w',(convert src dst (.string z)).run P w= .ok v w'/\Le w w'/\oa .u8 (oS g w w') v z.data.toList:=by
 have hr:=run_bytes_of_string (P:=P) w src dst e z hs hd he;generalize hW:w.drew.alloc (.cells (bytesRow z (grownCap w z.size 0 e)) e ((bytesRow z (grownCap w z.size 0 e)).size,(bytesRow z (grownCap w z.size 0 e)).size+1))=w1 at hr;have hle:Le w w1:=by rw [<-hW];exact (Le.drew w).trans (xG.mk' w.drew _).le
 refine ⟨_,w1,hr,hle,?_⟩;have hlen:z.data.toList.length=z.size:=by rfl
 refine (dI (α:=UInt8)).2 (.inr ⟨⟨w.heap.size,0,none⟩,grownCap w z.size 0 e,by rw [hlen],by grind [grownCap_ge],by grind [grownCap_le_maxLen],λi x hx=>⟨[.int .u8 x.toNat],λj c hj=>?_,rfl⟩⟩);rw [Addr.add_mid,GZ _ (aG _)]
 match j,hj with
 | 0,hj=>
  have hc:(bytesRow z (grownCap w z.size 0 e))[i]?=some (.int .u8 x.toNat):=by
   grind [bytesRow]
  simp only [aP.size,Nat.mul_one,Nat.add_zero];have hh:w1.heap[w.heap.size]?=some (.cells (bytesRow z (grownCap w z.size 0 e)) e ((bytesRow z (grownCap w z.size 0 e)).size,(bytesRow z (grownCap w z.size 0 e)).size+1)):=by rw [<-hW];exact heap_alloc_new w.drew _
  grind [World.cell?]
end
section
variable {P:Program} {W:cX} {g w w':World} {l:List Atom}
theorem SL.ajZ {b:Nat} {cs:Array Value} {t:TypeId} {r:Nat×Nat} (H:SL W g w (obj b (.cells cs t r)::l)):∃ g',bt g g'/\SL W g' w l/\(∀ i,g'.cell? ⟨b,i,none⟩=cs[i]?):=by
 obtain ⟨hW,hw,hn⟩:=H.EA;obtain ⟨h,be,s,o,h1,h2,ap,rfl,s1,s2⟩:=H;have fD:b< w.heap.size:=(aN.1 hw).1;have m:bt g (rF g w.heap.size b (.cells cs t r)):=λa v hv=>by
  have jb:a.block≠b:=λe=>by rw [hn a e] at hv;cases hv
  rw [jD s.size a jb];exact hv
 have hc:∀ (i:Nat) (sp),(rF g w.heap.size b (.cells cs t r)).cell? ⟨b,i,sp⟩=w.cell? ⟨b,i,sp⟩:=by simp_all [World.cell?,rF]
 refine ⟨rF g w.heap.size b (.cells cs t r),m,⟨h2,be,⟨⟨by simp [rF],λa v hv=>?_⟩,λa ha=>?_⟩,λk x hx=>?_,s2.mono m⟩,λi=>?_⟩
 .by_cases e:a.block=b
  .have:a=⟨b,a.off,a.spot⟩:=by cases a;simp_all
   grind
  .rw [jD s.size a e] at hv;exact s.mono a v hv
 .have jb:a.block≠b:=by grind
  rw [jD s.size a jb];exact s.agr a ha
 .have h1k:h1 k=none:=by
   rcases ap k with e| e;exact e
   grind
  obtain ⟨o1,o2,o3⟩:=o k x (by rw [Hp.mc h1k];exact hx);refine ⟨o1,o2,λa ha=>?_⟩;have hkb:k≠b:=λe=>by
   subst e;rw [show h1 k=some _ from s1] at h1k;grind
  rw [jD s.size a (by omega)];exact o3 a ha
 grind [World.cell?]
theorem AB {b n c:Nat} {cs:Array Value} {t e:TypeId} (hb:HJ w b cs e) (ht:P.underlying t=some (.slice e)) (he:P.underlying e=some (.int .u8)):
  ∃ w',(convert t t (.slice (some ⟨b,0,none⟩) n c)).run P w= .ok (.slice (some ⟨b,0,none⟩) n c) w'/\qy w b (.cells cs e (cs.size,cs.size+1)) w':=by
 have fD:b< w.heap.size:=(aN.1 hb).1;have hg:w.heap[b]= .cells cs e (0,0):=(aN.1 hb).2;have hsh:w.shape? b=some (e,cs.size):=by
  grind [World.shape?]
 refine ⟨w.freeze ⟨b,cs.size,none⟩ 1,?_,?_,fD⟩
 .simp_all [convert,run_underlying,markStringish]
 .unfold World.freeze;rw [if_neg (by decide)];congr 1
  grind
end
section
variable {X:Vx} {n:Nat} {W:cX} {F:List Atom} {b:Bs} {E:Env} {g w:World} {s:Ov} {a:Act} {o:Oper}
theorem aep {α:Type} [aP α] {P:Program} {W:cX} {g w:World} {l:List Atom} {t e:TypeId} {v:Value} {xs:List α} (H:SL W g w (B4 e v xs::l)) (hx:xs≠ []) (ht:P.underlying t=some (.slice e)) (he:P.underlying e=some (.int .u8)):
  ∃ w' g',(convert t t v).run P w= .ok v w'/\bt g g'/\SL W g' w' l/\Is g' v xs:=by
 obtain ⟨cs,r,H1⟩:=H.pF;rcases H1.ofRow with ⟨rfl,hn,_,H2⟩| ⟨k,cap,cur,rfl,h1,h2,h3,h4,H2⟩
 .grind
 .obtain ⟨w',hr,u⟩:=AB (n:=xs.length) (c:=cap) (H2.pd 0) ht he;obtain ⟨g',m,H3,hc⟩:=(H2.BR 0 u).ajZ;refine ⟨w',g',hr,m,H3,dI.2 (.inr ⟨⟨k,0,none⟩,cap,rfl,h1,h2,λi x hx=>?_⟩)⟩;obtain ⟨c,hr2,TC⟩:=r.get i x hx;refine ⟨c,λj v hj=>?_,aP.mono m hr2⟩
  grind [Addr.add_mid]
theorem Y4 (S:dm n W F b E g w s a) {src dst e e0:TypeId} {l:Nat} {x:Operand} {K:SV->Ov->Prop} (ho:o.op= .convert src dst x) (hs:X.P.underlying src=some (.slice e0)) (hd:X.P.underlying dst=some (.slice e)) (r:cq E g (.o l) (a.eval x)) (h:ajC X b s src dst e l K):
  ∃ v w',(execOp a.eval o).run X.P w= .ok (.value v) w'/\Out n W F b E g a K v w':=by
 obtain ⟨hsd,h1⟩:=di h;have hsd:=ai hsd;cases he:X.P.underlying e with
 | none=>grind
 | some d=>
  rw [he] at h1;split at h1
  .rename_i hde;have hde:=aj hde;subst hde;cases eE:b.obj s l with
   | sl et ety xs=>
    rw [eE] at h1;obtain ⟨het,h2⟩:=di h1;have het:=ai het;subst het;cases hy:zy .u8 xs with
    | none=>grind
    | some ys=>
     obtain ⟨q,e1⟩:=eB hy;subst q;obtain ⟨hx,hk⟩:=h2;obtain ⟨w',g',hr,m,H1,hi⟩:=aep (α:=Ty.u8.den) (jN S r.1 eE) hx hd he;exact ⟨_,w',by simp_all [execOp],E,g',s.dU l .gone,_,bu.refl E,m,S.back r.1 .gone m (H1.cJ λk s2=>⟨λ_=>none,k,λ_=>.inl rfl,rfl,trivial,s2⟩),(show df E g' (.c (.d .u8 _)) _ from hi),hk⟩
   | _=>grind
  grind
theorem Vw (S:dm n W F b E g w s a) {src dst:TypeId} {x:Operand} {c:SV} {K:SV->Ov->Prop} (ho:o.op= .convert src dst x) (r:df E g c (a.eval x)) (h:oX X b s src dst c K):
  ∃ v w',(execOp a.eval o).run X.P w= .ok (.value v) w'/\Out n W F b E g a K v w':=by
 have same:∀ {v:Value} {sv:SV},(convert src dst (a.eval x)).run X.P w= .ok v w->df E g sv v->K sv s->∃ v w',(execOp a.eval o).run X.P w= .ok (.value v) w'/\Out n W F b E g a K v w':=λ{v sv} h1 h2 h3=>
  ⟨v,w,by simp_all [execOp],E,g,s,sv,bu.refl E,bt.refl g,S,h2,h3⟩
 unfold oX at h;split at h
 .rename_i k1 k k' m hs hd;obtain ⟨hx,hm⟩:=iv r;have hr:(convert src dst (a.eval x)).run X.P w= .ok (.int k (k.wrap m)) w:=by
   simp_all [convert,run_underlying,Conv.intToInt]
  split at h
  .rename_i hk;obtain rfl:=IntKind.eq_of_beq hk
   grind [pR]
  .split at h
   .rename_i hw;have hn:=EM hw hm;rw [pR hn] at hr;exact same hr (dL hn) h
   .exact same hr (dL (eA _ _)) (h (eA _ _))
 .rename_i z hs hd;obtain ⟨hx,hz⟩:=r;refine same (v:=.string z) (sv:=.str z) (by simp_all [convert,run_underlying]) ⟨rfl,hz⟩ h
 .rename_i k k1 m hs hd;obtain ⟨hx,_⟩:=iv r;obtain ⟨hl,h⟩:=h;refine same (v:=.string (Utf8.encode m)) (sv:=.str (Utf8.encode m)) ?_ ⟨rfl,hl⟩ h;simp_all [convert,run_underlying,Conv.intToString]
 .rename_i e z hs hd;obtain ⟨hx,hz⟩:=r;split at h
  .rename_i he;obtain ⟨v,w',h1,h2,h3⟩:=Cj (P:=X.P) (g:=g) (w:=w) hs hd he hz;have m:=Dp S.sat.sl.uy h2;refine ⟨v,w',by simp_all [execOp],E,oS g w w',s,_,bu.refl E,m,⟨S.size,S.defers,λt u hu=>(S.fr t u hu).mono (bu.refl E) m,⟨S.sat.sl.aez h2,S.sat.len⟩,S.top⟩,by assumption,h⟩
  grind
 .rename_i e y hs hd;split at h
  .rename_i he;split at h
   .rename_i l hl;obtain ⟨_,hi⟩:=tZ S r hl;have hr:=Ce (l:=l) hi hs he hd;refine same hr (sv:=.str (gu l)) ⟨rfl,?_⟩ h;have:=lA hi
    assumption
   grind
  grind
 .rename_i hs hd;exact Y4 S ho hs hd r h
 grind
theorem SF {mn:Bool} {x y:Operand} {t u:TypeId} {c d:SV} {K:SV->Prop} (ho:o.op= .call {callee:=.builtin (if mn then .min else .max),args:= #[x,y],argTypes:= #[t,u]}) (rx:df E g c (a.eval x)) (ry:df E g d (a.eval y)) (h:mmV mn c d K):ER X.P o a w E g K:=by
 unfold mmV at h;split at h
 .rename_i k m k' m';obtain ⟨hx,h1⟩:=iv rx;obtain ⟨hy,h2⟩:=iv ry;obtain ⟨hk,h0⟩:=di h;obtain rfl:=IntKind.eq_of_beq hk;have h3:∀ q,q=m\/q=m'->aD k q:=by grind
  cases mn;exact ⟨_,_,aog ho hx hy,dL (h3 _ (by omega)),h0⟩;exact ⟨_,_,aof ho hx hy,dL (h3 _ (by omega)),h0⟩
 grind
end
section
variable {X:Vx} {n:Nat} {W:cX} {F F':List Atom} {b:Bs} {E:Env} {g g' w w':World} {s:Ov} {a:Act} {o:Oper}
theorem zh:∀ {A B:List Atom} {l:Nat},l< A.length->dM (A++B) l=dM A l++B
 | _::_,_,0,_=>rfl
 | x::A,B,l+1,h=>by
  show x::dM (A++B) l=x::(dM A l++B);rw [zh (by simpa using h)]
theorem GW (S:dm n W F b E g w s a) {l:Nat} {v:Value} (h:E[l]?=some v):l< (ba E 0 (b.heap s)).length:=by
 rw [uR,ef];exact S.lt h
theorem dm.anO (S:dm n W F b E g w s a) {l:Nat} {v:Value} (h:E[l]?=some v) {A:Atom} (m:bt g g') (H:SL W g' w' (A::dM (ba E 0 (b.heap s)++F) l)):dm n W (A::F) b E g' w' (s.dU l .gone) a:=by
 have hl:=S.lt h;refine ⟨S.size,S.defers,λt v hv=>(S.fr t v hv).mono (bu.refl E) m,⟨?_,by rw [S.len,ef];rfl⟩,λk hk=>?_⟩
 .rw [jt hl];refine H.cJ λk s1=>?_;rw [zh (GW S h)] at s1;have s2:=bh.toEnd s1;have hn:wS (ba E 0 (b.heap s)++(A::F)) l=some (cM E l (b.obj s l)):=by
   simp_all [jI,eN]
  have s3:bh g' (ta True::dM (ba E 0 (b.heap s)++(A::F)) l) k:=by
   rw [zh (GW S h)];exact ⟨λ_=>none,k,λ_=>.inl rfl,rfl,trivial,s2⟩
  have h3:=kr (E:=E) (F:=A::F) (k:=0) (o':=.gone) (l:=l) (H:=b.heap s) (by grind [ef]);rw [<-h3];exact bh.oq hn s3
 .rw [jq,if_neg (by have:s.n<=k:=hk;omega)];exact S.top k hk
end
section
variable {X:Vx} {n:Nat} {W:cX} {F:List Atom} {b:Bs} {E:Env} {g w:World} {s:Ov} {a:Act} {o:Oper}
theorem AZ {P:Program} {t:TypeId} {k:Kk} (h:jT P t k=true): @xI P t k.den k.key:=by
 grind [jT,w8,ZZ]
theorem aeY {P:Program} {t:TypeId} {k:Kk} (h:ajE P t=some k):jT P t k=true:=by
 grind [ajE,jT]
theorem Dc:∀ {k:Kk} {c:Cl} {x:k.den} {u:Value},xb k c=some x->cq E g c u->u= @dN.val k.den k.key x/\ @dN.ok k.den k.key x
 | .int,c,x,u,h,r=>by
  dsimp only [xb] at h;split at h
  .cases h;obtain ⟨rfl,h2⟩:=r;exact ⟨rfl,oQ.1 h2⟩
  grind
 | .str,c,x,u,h,r=>by
  dsimp only [xb] at h;split at h
  .cases h
   assumption
  grind
theorem aev {e:Ty} {v:S1} {x:e.den} {u:Value} (h:amL e v=true) (hu:bp E g v.cells u.cells.toList) (r:gv E g v u) {cs:List Cl} (zb:bp E g cs u.cells.toList) (ho:e.of cs=some (x,[])):IsV g e u x:=by
 obtain ⟨u1,u2,e1,h1,h2⟩:=of_cells e ho zb;obtain rfl:u2= []:=h2;rw [bd] at e1;subst e1;cases v with
 | agg l=>
  have h:e.row=true:=h;obtain ⟨us,_,rfl⟩:=r;refine ⟨_,h1,?_⟩;rw [if_pos h];rfl
 | c c=>
  have h:(!e.row)=true:=h;have hr:cq E g c u:=r;refine ⟨_,h1,?_⟩;rw [if_neg (by simpa using h),nS hr.one]
theorem aeu {e:Ty} {x:e.den} {r:S1} {u:Value} (h:ajj e x=some r) (hv:IsV g e u x):gv E g r u/\e.ok x:=by
 obtain ⟨cs,h1,h2⟩:=hv;obtain ⟨h3,h4⟩:=fz E g e h1;refine ⟨?_,h4⟩;unfold ajj at h;split at h
 .rename_i hr;rw [if_pos hr] at h2;cases h;exact ⟨cs,h3,h2⟩
 .rename_i hr;rw [if_neg hr] at h2;split at h
  .rename_i c hc;cases h;rw [hc,h2] at h3;obtain ⟨u',r',e1,h5,h6⟩:=h3;obtain rfl:u=u':=by grind
   exact h5
  grind
theorem aft {P:Program} {t:TypeId} {e:Ty} {x:e.den} (h:akn P t e=some x):∃ z,(zeroValue t).run P w= .ok z w/\IsV g e z x:=by
 unfold akn at h;split at h
 .split at h
  .rename_i z hz;split at h
   .rename_i hzo;split at h
    .rename_i zl OR;split at h
     .rename_i y hy;cases h;have hc:bp ([]:Env) g zl z.cells.toList:=kK OR;obtain ⟨u1,u2,e1,h1,h2⟩:=of_cells e hy hc;obtain rfl:u2= []:=h2;rw [bd] at e1;refine ⟨z,?_,u1,h1,?_⟩
      .simp_all [zeroValue,typeInfo]
      .unfold zOk at hzo;split at hzo
       .rw [if_pos hzo,<-e1];rfl
       grind [nS]
     grind
    grind
   grind
  grind
 grind
theorem C5 {k:Kk} {e:Ty} (x:k.den):∀ {l:List (k.den×Value)} {xs:List (k.den×e.den)},rY g k e l xs->match @iT k.den k.key _ l x,k.get xs x with
  | some u,some y=>IsV g e u y
  | none,none=>True
  | _,_=>False
 | [],xs,h=>by
  rw [show xs= [] from h];trivial
 | p::l,xs,⟨y,r,q,h1,h2⟩=>by
  letI:=k.key;have ih:=C5 x h2;have e1: @iT k.den k.key _ (p::l) x=if p.1=x then some p.2 else @iT k.den k.key _ l x:=by
   grind [iT]
  have e2:k.get ((p.1,y)::r) x=if p.1=x then some y else k.get r x:=by
   grind [Kk.get,iT]
  grind
theorem GF {k:Kk} {e:Ty} (x:k.den):∀ {l:List (k.den×Value)} {xs:List (k.den×e.den)},rY g k e l xs->rY g k e (@pf k.den k.key _ l x) (k.del xs x)
 | [],xs,h=>by
  rw [show xs= [] from h];rfl
 | p::l,xs,⟨y,r,q,h1,h2⟩=>by
  subst q;have ih:=GF x h2;unfold Kk.del pf at ih ⊢;rw [List.filter_cons,List.filter_cons];by_cases e:p.1=x
  .grind
  .simp only [e,decide_false,Bool.not_false,if_true];exact ⟨y,_,rfl,h1,ih⟩
theorem Pj {t:TypeId} {x:Operand} {c:Cl} {K:SV->Prop} (ho:o.op= .makeInterface t x) (rx:cq E g c (a.eval x)) (h:Qe X.P t c K):ER X.P o a w E g K:=by
 unfold Qe at h;split at h
 .grind
 .refine ⟨.iface t (a.eval x),.c (.ue t c),?_,⟨a.eval x,rx,rfl⟩,h⟩;simp_all [Instr.makeInterface,run_underlying,execOp]
 grind
theorem Kn {t:TypeId} {z:SV} (h:zeroV X.P t=some z):∃ v,(zeroValue t).run X.P w= .ok v w/\df E g z v:=by
 unfold zeroV at h;split at h
 .split at h
  .simp_all [zeroValue,typeInfo,Hd]
  grind
 grind
theorem Mu {t t0:TypeId} {x:Operand} {c:Cl} {K:SV->Prop} (ho:o.op= .typeAssert x t0 t true) (rx:cq E g c (a.eval x)) (h:J5 X.P t c K):ER X.P o a w E g K:=by
 unfold J5 at h;split at h
 .grind
 .have two:∀ {z:S1} {v:Value} {q:Bool},gv E g z v->df E g (.cH [z,.c (.k (.bool q))]) (.tuple #[v,.bool q]):=λ{z v q} r=>⟨[v,.bool q],⟨_,_,rfl,r,_,[],rfl,⟨rfl,rfl⟩,rfl⟩,rfl⟩;split at h
  .rename_i t' c';obtain ⟨v,h1,h2⟩:=rx;split at h
   .rename_i ht;refine ⟨.tuple #[v,.bool true],_,?_,two (z:=.c c') h1,h⟩;simp_all [Instr.typeAssert,run_underlying,execOp]
   .split at h
    .rename_i z hz;obtain ⟨u,hu,hr⟩:=Kn (w:=w) (E:=E) (g:=g) hz;refine ⟨.tuple #[u,.bool false],_,?_,two hr,h⟩;simp_all [Instr.typeAssert,run_underlying,execOp]
    grind
  .obtain ⟨hx,_⟩:=rx;split at h
   .rename_i z hz;obtain ⟨u,hu,hr⟩:=Kn (w:=w) (E:=E) (g:=g) hz;refine ⟨.tuple #[u,.bool false],_,?_,two hr,h⟩;simp_all [Instr.typeAssert,run_underlying,execOp]
   grind
  grind
 grind
theorem Mv {t t0:TypeId} {x:Operand} {c:Cl} {K:SV->Prop} (ho:o.op= .typeAssert x t0 t false) (rx:cq E g c (a.eval x)) (h:J6 X.P t c K):ER X.P o a w E g K:=by
 unfold J6 at h;split at h
 .grind
 .split at h
  .rename_i t' c';obtain ⟨v,h1,h2⟩:=rx;split at h
   .rename_i ht;refine ⟨v,.c c',?_,h1,h⟩;simp_all [Instr.typeAssert,run_underlying,execOp]
   grind
  grind
 grind
theorem Ic (S:dm n W F b E g w s a) {t:TypeId} {K:SV->Ov->Prop} (ho:o.op= .makeMap t none) (h:C6 X s t K):∃ v w',(execOp a.eval o).run X.P w= .ok (.value v) w'/\Out n W F b E g a K v w':=by
 unfold C6 at h;split at h
 .rename_i k et ht;split at h
  .rename_i kk e hk he;letI:=kk.key;refine ⟨_,_,zC ho,_,g,_,_,bu.app E [ptr w.heap.size 0],bt.refl g,S.new (v:=ptr w.heap.size 0) (bt.refl g) ?_,(show df _ g (.c (.m s.n)) _ from ⟨w.heap.size,eh S _,rfl⟩),h⟩;have H:=S.sat.sl.P4 (P:=X.P) (k:=k) (κ:=kk.den) (xG.mk' w (.map #[] 0));exact H.cJ λq ⟨k1,k2,ap,q2,s1,s2⟩=>⟨k1,k2,ap,q2,⟨w.heap.size,[],eh S _,rfl,X.P,aeY hk,s1⟩,s2⟩
  .split at h
   .rename_i q hk3 _;refine ⟨_,_,zC ho,_,g,_,_,bu.app E [ptr w.heap.size 0],bt.refl g,S.new (v:=ptr w.heap.size 0) (bt.refl g) ?_,(show df _ g (.c (.m s.n)) _ from ⟨w.heap.size,eh S _,rfl⟩),h⟩;have H:=S.sat.sl.P4 (P:=X.P) (k:=k) (κ:=K3) (xG.mk' w (.map #[] 0));exact H.cJ λq ⟨k1,k2,ap,q2,s1,s2⟩=>⟨k1,k2,ap,q2,⟨_,eh S _,(w.heap.size,X.P),λ_=>none,k1,λ_=>.inl rfl,rfl,⟨rfl,hk3⟩,k1,λ_=>none,λ_=>.inr rfl,by funext z;unfold Hp.join;cases k1 z<;>rfl,s1,trivial⟩,s2⟩
   .split at h
    .rename_i tR e _;have hQ:=di h;obtain ⟨hk,h⟩:=hQ;refine ⟨_,_,zC ho,_,g,_,_,bu.app E [ptr w.heap.size 0],bt.refl g,S.new (v:=ptr w.heap.size 0) (bt.refl g) ?_,(show df _ g (.c (.m s.n)) _ from ⟨w.heap.size,eh S _,rfl⟩),h⟩;have H:=S.sat.sl.P4 (P:=X.P) (k:=k) (κ:=Int) (xG.mk' w (.map #[] 0));exact H.cJ λq ⟨k1,k2,ap,q2,s1,s2⟩=>⟨k1,k2,ap,q2,⟨_,eh S _,(w.heap.size,X.P),λ_=>none,k1,λ_=>.inl rfl,rfl,⟨rfl,lu hk⟩,k1,λ_=>none,λ_=>.inr rfl,by funext z;unfold Hp.join;cases k1 z<;>rfl,s1,trivial⟩,s2⟩
    .cases h
 .cases h
theorem PX {t:TypeId} (h:Jo X.P t=true):(zeroValue t).run X.P w= .ok (.pointer none) w:=by
 unfold Jo at h;split at h
 .split at h
  .simp_all [zeroValue,typeInfo]
  grind
 grind
theorem Mm (S:dm n W F b E g w s a) {t:TypeId} {x y:Operand} {c:Bool} {mx ky:Cl} {K:SV->Prop} (ho:o.op= .lookup t x y c) (rx:cq E g mx (a.eval x)) (ry:cq E g ky (a.eval y)) (h:Jq X b s t mx ky c K):ER X.P o a w E g K:=by
 unfold Jq at h;split at h
 .rename_i k et ht;split at h
  .rename_i l;obtain ⟨bb,hE,hx⟩:=rx;split at h
   .rename_i k' kk e xs eE;obtain ⟨hk,h5⟩:=di h;rw [ak] at hk;obtain ⟨re,r8⟩:=hk;obtain rfl:=ai re;split at h5
    .rename_i z q hz hq;have h6:=h5;split at h6
     .rename_i r hr;obtain ⟨m,h1,H⟩:=Q8 S hE eE r8;letI:=kk.key;obtain ⟨hy,rT⟩:=Dc hq ry;obtain ⟨zv,hzr,hzi⟩:=aft (w:=w) (g:=g) hz;have hl:=H.aeV c (AZ r8) ht hzr q rT;have hf:=C5 (e:=e) q h1;have hv:IsV g e ((iT m q).getD zv) ((kk.get xs q).getD z)/\(iT m q).isSome=(kk.get xs q).isSome:=by
       revert hf;cases iT m q<;>cases kk.get xs q<;>intro hf;exact ⟨hzi,rfl⟩;exact hf.elim;exact hf.elim;exact ⟨hf,rfl⟩
      obtain ⟨h2,h3⟩:=aeu (E:=E) hr hv.1;have hK:=h6 h3;refine ⟨_,_,xD ho hx hy hl,?_,hK⟩;cases c with
      | true=>
       refine ⟨[_,_],⟨_,_,rfl,h2,_,[],rfl,?_,rfl⟩,rfl⟩;rw [hv.2];exact (show gv E g (.c (.k (.bool _))) _ from ⟨rfl,rfl⟩)
      | false=>exact h2
     .exact h6.elim
    .exact h5.elim
   .cases h
  .cases h
 .cases h
theorem zW (S:dm n W F b E g w s a) {t:TypeId} {x y z:Operand} {mx ky:Cl} {v:S1} {K:Ov->Prop} (ho:o.op= .mapUpdate t x y z) (rx:cq E g mx (a.eval x)) (ry:cq E g ky (a.eval y)) (rz:gv E g v (a.eval z)) (h:wV X b s t mx ky v K):
  ∃ w',(execOp a.eval o).run X.P w= .ok .skip w'/\∃ g' s',bt g g'/\dm n W F b E g' w' s' a/\K s':=by
 unfold wV at h;split at h
 .rename_i k et ht;split at h
  .rename_i l;obtain ⟨bb,hE,hx⟩:=rx;obtain ⟨g1,s1,cs,m1,S1,zb,h⟩:=gN S rz.cells h;split at h
   .rename_i k' kk e xs eE;obtain ⟨hk,h5⟩:=di h;simp only [ak] at hk;obtain ⟨⟨re,r8⟩,hk3⟩:=hk;obtain rfl:=ai re;split at h5
    .rename_i q x' hq hof;obtain ⟨hlen,h6⟩:=h5;obtain ⟨m,h1,H⟩:=Q8 S1 hE eE r8;letI:=kk.key;obtain ⟨hy,rT⟩:=Dc hq ry;obtain ⟨w',hr,H2⟩:=H.P3 (AZ r8) ht (by rw [h1.length];exact hlen) q rT (a.eval z);have hiv:IsV g1 e (a.eval z) x':=aev (E:=E) hk3 (rz.cells.mono (bu.refl E) m1) (rz.mono (bu.refl E) m1) zb hof;have S2:dm n W F b E g1 w' (s1.dU l (.map k kk e (kk.put xs q x'))) a:=S1.back hE _ (bt.refl g1) (H2.cJ λq0 ⟨k1,k2,ap,q2,s1',s2⟩=>⟨k1,k2,ap,q2,(show (cM E l (.map k kk e (kk.put xs q x'))).sat g1 k1 from ⟨bb,qX m q (a.eval z),hE,⟨x',kk.del xs q,rfl,hiv,GF q h1⟩,X.P,r8,s1'⟩),s2⟩);exact ⟨w',OG ho hx hy rfl hr,g1,_,m1,S2,h6⟩
    .exact h5.elim
   .cases h
  .cases h
 .cases h
theorem Mq (S:dm n W F b E g w s a) {t:TypeId} {x y z:Operand} {mx ky:Cl} {v:S1} {K:Ov->Prop} (ho:o.op= .insert t x y z) (rx:cq E g mx (a.eval x)) (ry:cq E g ky (a.eval y)) (rz:gv E g v (a.eval z)) (h:wV X b s t mx ky v K):
  ∃ w',(execOp a.eval o).run X.P w= .ok .skip w'/\∃ g' s',bt g g'/\dm n W F b E g' w' s' a/\K s':=by
 obtain ⟨w',h1,h2⟩:=zW (o:= {o with op:=.mapUpdate t x y z}) S rfl rx ry rz h
 grind [execOp]
end
def bm (E:Env) (g:World):List SV->List Value->Prop
 | [],us=>us= []
 | c::l,us=>∃ u r,us=u::r/\df E g c u/\bm E g l r
def WpW (W:cX) (P:Program) (f:FuncId) (args:List SV) (H:List HO) (Q:SV->List HO->Prop):Prop:=
 ∀ (g w:World) (E:Env) (F:List Atom) (vs:List Value),Sat W E g w H F->bm E g args vs->
  HH P f vs.toArray w λv w'=>∃ E' g' sv H',bu E E'/\bt g g'/\Sat W E' g' w' H' F/\df E' g' sv v/\Q sv H'
def Wp (I:cX->Prop) (P:Program) (f:FuncId) (args:List SV) (H:List HO) (Q:SV->List HO->Prop):Prop:=∀ W,I W->WpW W P f args H Q
section
variable {W:cX} {F:List Atom} {E E':Env} {g w:World}
def mH (r:Nat->Option Nat) (E E':Env):Prop:=∀ l l' v,r l=some l'->E[l]?=some v->E'[l']?=some v
mutual
theorem cq.fx {r:Nat->Option Nat} (hr:mH r E E'):∀ {c:Cl} {u:Value},cq E g c u->cq E' g (c.fx r) u
 | .k _,_,h=>h
 | .d _ _,_,h=>h
 | .de _ _ _ _,_,h=>h
 | .Ki,_,h=>h
 | .p l off,u,h=>by
  have h1:=cq.one h;obtain ⟨b,h2,h3⟩:=h;unfold Cl.fx;cases hl:r l with
  | none=>exact h1
  | some l'=>exact ⟨b,hr _ _ _ hl h2,h3⟩
 | .o l,u,h=>by
  have h1:=cq.one h;obtain ⟨h2,h3⟩:=h;unfold Cl.fx;cases hl:r l with
  | none=>exact h1
  | some l'=>exact ⟨hr _ _ _ hl h2,h3⟩
 | .os l sz lo hi,u,h=>by
  have h1:=cq.one h;obtain ⟨v,h2,h3⟩:=h;unfold Cl.fx;cases hl:r l with
  | none=>exact h1
  | some l'=>exact ⟨v,hr _ _ _ hl h2,h3⟩
 | .oe l sz i off,u,h=>by
  have h1:=cq.one h;obtain ⟨v,h2,h3⟩:=h;unfold Cl.fx;cases hl:r l with
  | none=>exact h1
  | some l'=>exact ⟨v,hr _ _ _ hl h2,h3⟩
 | .m l,u,h=>by
  have h1:=cq.one h;obtain ⟨b,h2,h3⟩:=h;unfold Cl.fx;cases hl:r l with
  | none=>exact h1
  | some l'=>exact ⟨b,hr _ _ _ hl h2,h3⟩
 | .sc l off n,u,h=>by
  have h1:=cq.one h;obtain ⟨b,c,h2,h3⟩:=h;unfold Cl.fx;cases hl:r l with
  | none=>exact h1
  | some l'=>exact ⟨b,c,hr _ _ _ hl h2,h3⟩
 | .kl l v,u,h=>by
  have h1:=cq.one h;obtain ⟨⟨x,h2⟩,h3⟩:=h;unfold Cl.fx;cases hl:r l with
  | none=>exact h1
  | some l'=>exact ⟨⟨x,hr _ _ _ hl h2⟩,h3⟩
 | .fn f caps,_,⟨us,h1,h2⟩=>⟨us,bp.fx hr h1,h2⟩
 | .ue t c,_,⟨v,h1,h2⟩=>⟨v,cq.fx hr h1,h2⟩
theorem bp.fx {r:Nat->Option Nat} (hr:mH r E E'):∀ {l:List Cl} {us:List Value},bp E g l us->bp E' g (Cl.wE r l) us
 | [],_,h=>h
 | _::_,_,⟨u,q,e,h1,h2⟩=>⟨u,q,e,cq.fx hr h1,bp.fx hr h2⟩
end
theorem gv.fx {r:Nat->Option Nat} (hr:mH r E E'):∀ {x:S1} {u:Value},gv E g x u->gv E' g (x.fx r) u
 | .c _,_,h=>cq.fx hr h
 | .agg _,_,⟨us,h1,h2⟩=>⟨us,bp.fx hr h1,h2⟩
theorem iy.fx {r:Nat->Option Nat} (hr:mH r E E'):∀ {l:List S1} {us:List Value},iy E g l us->iy E' g (S1.wE r l) us
 | [],_,h=>h
 | _::_,_,⟨u,q,e,h1,h2⟩=>⟨u,q,e,gv.fx hr h1,iy.fx hr h2⟩
theorem df.fx {r:Nat->Option Nat} (hr:mH r E E'):∀ {x:SV} {u:Value},df E g x u->df E' g (x.fx r) u
 | .v _,_,h=>gv.fx hr h
 | .cH _,_,⟨us,h1,h2⟩=>⟨us,iy.fx hr h1,h2⟩
 | .any,_,_=>trivial
 | .arr _ _,_,h=>h
theorem bm.fx {r:Nat->Option Nat} (hr:mH r E E'):∀ {l:List SV} {us:List Value},bm E g l us->bm E' g (l.map (·.fx r)) us
 | [],_,h=>h
 | _::_,_,⟨u,q,e,h1,h2⟩=>⟨u,q,e,df.fx hr h1,bm.fx hr h2⟩
theorem cM.fx {r:Nat->Option Nat} (hr:mH r E E') {l l':Nat} (hl:r l=some l'):∀ {o:HO} {h:Hp},(cM E l o).sat g h->(cM E' l' (o.fx r)).sat g h
 | .cells _ _,_,⟨b,us,h1,h2,h3⟩=>⟨b,us,hr _ _ _ hl h1,bp.fx hr h2,h3⟩
 | .sl _ _ _,_,⟨v,h1,h2⟩=>⟨v,hr _ _ _ hl h1,h2⟩
 | .held _ _ _,_,⟨v,h1,h2⟩=>⟨v,hr _ _ _ hl h1,h2⟩
 | .map ..,_,⟨b,m,h1,h2⟩=>⟨b,m,hr _ _ _ hl h1,h2⟩
 | .abs _,_,⟨v,h1,h2⟩=>⟨v,hr _ _ _ hl h1,h2⟩
 | .ab _,_,⟨v,h1,h2⟩=>⟨v,hr _ _ _ hl h1,h2⟩
 | .gone,_,h=>h
 | .pQ k n,_,⟨v,vn,h1,h2,h3⟩=>by
  cases hn:r n with
  | none=>
   have e:(HO.pQ k n).fx r= .gone:=by simp only [HO.fx,hn]
   rw [e];trivial
  | some n'=>
   have e:(HO.pQ k n).fx r= .pQ k n':=by simp only [HO.fx,hn]
   rw [e];exact ⟨v,vn,hr _ _ _ hl h1,hr _ _ _ hn h2,h3⟩
theorem bh.under {A:List Atom} {X Y:List Atom} (k:∀ h,bh g X h->bh g Y h):∀ {h:Hp},bh g (A++X) h->bh g (A++Y) h:=by
 induction A with
 | nil=>grind
 | cons a A ih=>exact λ⟨h1,h2,ap,e,s1,s2⟩=>⟨h1,h2,ap,e,s1,ih s2⟩
theorem bh.comm:∀ {A B:List Atom} {h:Hp},bh g (A++(B++F)) h->bh g (B++(A++F)) h
 | _,[],_,s=>s
 | A,b::B,_,s=>by
  obtain ⟨h1,h2,ap,e,s1,s2⟩:=bh.po (A:=A) (F:=B++F) s;exact ⟨h1,h2,ap,e,s1,bh.comm s2⟩
theorem bh.sk {H:List HO} {l:Nat} {o:HO} (ho:H[l]?=some o) {h:Hp} (s:bh g (ba E 0 H++F) h):bh g (cM E l o::(ba E 0 (H.set l .gone)++F)) h:=by
 have hn:=jI (E:=E) (F:=F) (k:=0) ho;rw [gC] at hn;obtain ⟨h1,h2,ap,e,s1,s2⟩:=bh.pick hn s;refine ⟨h1,h2,ap,e,s1,?_⟩;have h3:=kr (E:=E) (F:=F) (k:=0) (o':=.gone) (aw.1 ho).1;rw [<-h3];exact bh.oq hn ⟨λ_=>none,h2,λ_=>.inl rfl,by rfl,trivial,s2⟩
theorem bh.En {H:List HO} {l:Nat} {o:HO} (hl:l< H.length) {h:Hp} (s:bh g (cM E l o::(ba E 0 H++F)) h):bh g (ba E 0 (H.set l o)++F) h:=by
 obtain ⟨h1,h2,ap,e,s1,s2⟩:=s;have hn:=jI (E:=E) (F:=F) (k:=0) (ao hl);have h3:=kr (E:=E) (F:=F) (k:=0) (o':=o) hl;rw [gC] at h3;rw [<-h3];obtain ⟨k1,k2,ap2,e2,_,s3⟩:=bh.pick hn s2
 -- what stood there is let go
 have:bh g (dM (ba E 0 H++F) l) h2:=by
  have key:∀ {L:List Atom} {k1 k2:Hp},Hp.apart k1 k2->bh g L k2->bh g L (k1.join k2):=by
   intro L
   induction L with
   | nil=>intros;trivial
   | cons a L ih=>
    rintro k1 k2 ap ⟨m1,m2,ap3,e3,s4,s5⟩;subst e3;obtain ⟨a1,a2⟩:=Hp.eO.1 ap;refine ⟨m1,k1.join m2,Hp.eO.2 ⟨a1.symm,ap3⟩,?_,s4,ih a2 s5⟩
    grind [Hp.join_assoc,Hp.join_comm]
  grind
 exact bh.oq hn ⟨h1,h2,ap,e,s1,this⟩
def iL (H:List HO):List Nat->List HO
 | []=>H
 | l::r=>(iL H r).set l .gone
theorem mE (H:List HO):∀ ls,(iL H ls).length=H.length
 | []=>rfl
 | _::r=>by unfold iL;rw [jd,mE H r]
theorem gB {l:Nat}:∀ {ls:List Nat},iD l ls=true↔l∈ls
 | []=>by simp [iD]
 | m::r=>by
  unfold iD;by_cases e:l=m;subst e;simp;simp [gB (ls:=r),e]
theorem jJ:∀ {ls:List Nat},nt ls=true↔ls.Nodup
 | []=>by simp [nt]
 | l::r=>by
  unfold nt;rw [ak,jJ (ls:=r),gj];constructor
  .rintro ⟨h1,h2⟩;refine ⟨λhm=>?_,h2⟩;rw [gB.2 hm] at h1;cases h1
  .rintro ⟨h1,h2⟩;refine ⟨?_,h2⟩;cases hm:iD l r with
   | false=>rfl
   | true=>exact absurd (gB.1 hm) h1
theorem Ao {H:List HO} {l:Nat}:∀ {ls:List Nat},l ∉ ls->(iL H ls)[l]?=H[l]?
 | [],_=>rfl
 | m::r,h=>by
  unfold iL;have h1:m≠l:=λe=>h (by simp [e]);rw [List.getElem?_set_ne h1,Ao (λq=>h (aF _ q))]
def YW (E:Env) (H:Nat->HO) (ls:List Nat):List Atom:=ls.map λl=>cM E l (H l)
theorem bh.qC {H:List HO} {ob:Nat->HO}:∀ {ls:List Nat} {h:Hp},ls.Nodup->(∀ l∈ls,H[l]?=some (ob l))->bh g (ba E 0 H++F) h->bh g (ba E 0 (iL H ls)++(YW E ob ls++F)) h
 | [],_,_,_,s=>s
 | l::r,_,hn,ho,s=>by
  rw [gj] at hn;have s1:=bh.qC hn.2 (λq hq=>ho q (aF _ hq)) s;have s2:=bh.sk (F:=YW E ob r++F) (o:=ob l) (by rw [Ao hn.1];exact ho l (by simp)) s1;exact bh.toEnd s2
theorem bh.xY {ob:Nat->HO} {r:Nat->Option Nat} (hr:mH r E E') {X:List Atom}:∀ {ls:List Nat} {k:Nat} {h:Hp},(∀ i l,ls[i]?=some l->r l=some (k+i))->bh g (YW E ob ls++X) h->bh g (ba E' k (ls.map λl=>(ob l).fx r)++X) h
 | [],_,_,_,s=>s
 | l::ls,k,_,hi,⟨h1,h2,ap,e,s1,s2⟩=>⟨h1,h2,ap,e,cM.fx hr (by have:=hi 0 l rfl;omega) s1,bh.xY hr (k:=k+1) (λi m hm=>by
   have:=hi (i+1) m (by grind)
   grind) s2⟩
end
section
variable {W:cX} {F:List Atom} {b:Bs} {E E' E2:Env} {g w:World} {n:Nat} {a:Act} {s:Ov}
theorem Mg {H:List HO} {l:Nat} {o:HO}:∀ {ls:List Nat},l ∉ ls->(iL H ls).set l o=iL (H.set l o) ls
 | [],_=>rfl
 | m::r,h=>by
  unfold iL;have h1:m≠l:=λe=>h (by simp [e]);rw [<-Mg (λq=>h (aF _ q)),List.set_comm _ _ h1]
theorem vK {ls0:List Nat} {n0:Nat} (hr:mH (j4 ls0 n0) E2 E'):∀ {ls:List Nat} {H:List HO} {s:Ov} {k:Nat} {h:Hp},ls.Nodup->ls.length<=H.length->(∀ i l,ls[i]?=some l->j4 ls0 n0 (k+i)=some l/\l< s.n)->(∀ i,j4 ls0 n0 (k+ls.length+i)=some (s.n+i))->
  bh g (ba E2 k H++(ba E' 0 (iL (b.heap s) ls)++F)) h->bh g (ba E' 0 (b.heap (fy ls0 n0 ls H s))++F) h
 | [],[],s,k,_,_,_,_,_,x=>x
 | l::ls,[],_,_,_,_,hl,_,_,_=>by grind
 | l::ls,o::H,s,k,_,hn,hl,h1,h2,x=>by
  rw [gj] at hn;obtain ⟨q1,q2⟩:=h1 0 l rfl;obtain ⟨k1,k2,ap,e,s1,s2⟩:=x;have s3:=bh.toEnd (A:=ba E2 (k+1) H) (F:=ba E' 0 (iL (b.heap s) (l::ls))++F) ⟨k1,k2,ap,e,cM.fx hr q1 s1,s2⟩;have s4:=bh.under (A:=ba E2 (k+1) H) (λh=>bh.En (by rw [mE,ef];exact q2)) s3;have e1:(iL (b.heap s) (l::ls)).set l (o.fx (j4 ls0 n0))=iL (b.heap (s.dU l (o.fx (j4 ls0 n0)))) ls:=by
   grind [jt,Mg,iL,List.set_set]
  rw [e1] at s4;exact vK hr (s:=s.dU l (o.fx (j4 ls0 n0))) hn.2 (by grind) (λi m hm=>by
   have:=h1 (i+1) m (by grind);rw [show k+(i+1)=k+1+i by omega] at this;assumption) (λi=>by
   have:=h2 i;rw [show k+1+ls.length+i=k+(ls.length+1)+i by omega];assumption) s4
 | [],o::H,s,k,_,hn,hl,h1,h2,x=>by
  obtain ⟨k1,k2,ap,e,s1,s2⟩:=x;have q:=h2 0;have s3:=bh.toEnd (A:=ba E2 (k+1) H) (F:=ba E' 0 (b.heap s)++F) ⟨k1,k2,ap,e,cM.fx hr q s1,s2⟩;have s4:=bh.under (A:=ba E2 (k+1) H) (λh (y:bh g (cM E' s.n (o.fx (j4 ls0 n0))::(ba E' 0 (b.heap s)++F)) h)=>by
   have:=bh.toEnd y;show bh g (ba E' 0 (b.heap s++ [o.fx (j4 ls0 n0)])++F) h;rw [oY,gC,ef,aL];assumption) s3
  refine vK hr (ls:=[]) (k:=k+1) (s:=s.new (o.fx (j4 ls0 n0))) hn (cY _) (by grind) (λi=>?_) ?_
  .have:=h2 (i+1);simp only [aO,Nat.add_zero] at this ⊢;rw [show k+1+i=k+(i+1) by omega,this];congr 1;show s.n+(i+1)=s.n+1+i;omega
  .show bh g (ba E2 (k+1) H++(ba E' 0 (b.heap (s.new (o.fx (j4 ls0 n0))))++F)) _
   grind [tn]
theorem ub {ls0:List Nat} {n0:Nat}:∀ {ls:List Nat} {H:List HO} {s:Ov},(fy ls0 n0 ls H s).f=s.f
 | [],[],_=>rfl
 | _::_,[],_=>rfl
 | l::ls,o::H,s=>by
  show (fy ls0 n0 ls H (s.dU l _)).f=_;rw [ub];rfl
 | [],o::H,s=>by
  show (fy ls0 n0 [] H (s.new _)).f=_;rw [ub];rfl
theorem ua {ls0:List Nat} {n0:Nat}:∀ {ls:List Nat} {H:List HO} {s:Ov},ls.length<=H.length->(fy ls0 n0 ls H s).n=s.n+(H.length - ls.length)
 | [],[],s,_=>by simp [fy]
 | _::_,[],_,h=>by simp at h
 | l::ls,o::H,s,h=>by
  show (fy ls0 n0 ls H (s.dU l _)).n=_;rw [ua (by simpa using h)];show s.n+_=s.n+_;simp
 | [],o::H,s,_=>by
  show (fy ls0 n0 [] H (s.new _)).n=_;rw [ua (cY _)];show s.n+1+_=s.n+_;simp;omega
theorem tj {ls0:List Nat} {n0:Nat}:∀ {ls:List Nat} {H:List HO} {s:Ov},(∀ l∈ls,l< s.n)->(∀ l,s.n<=l->b.obj s l= .gone)->∀ l,(fy ls0 n0 ls H s).n<=l->b.obj (fy ls0 n0 ls H s) l= .gone
 | [],[],_,_,h=>h
 | _::_,[],_,_,h=>h
 | l::ls,o::H,s,hl,h=>by
  show ∀ q,(fy ls0 n0 ls H (s.dU l _)).n<=q->b.obj (fy ls0 n0 ls H (s.dU l _)) q= .gone;refine tj (λm hm=>hl m (by simp [hm])) λq hq=>?_;have Xo:s.n<=q:=hq;rw [jq,if_neg (by have:=hl l (by simp);omega)];exact h q Xo
 | [],o::H,s,hl,h=>by
  show ∀ q,(fy ls0 n0 [] H (s.new _)).n<=q->b.obj (fy ls0 n0 [] H (s.new _)) q= .gone;refine tj (λm hm=>by simp at hm) λq hq=>?_;have Xo:s.n+1<=q:=hq;rw [tX,if_neg (by omega)];exact h q (by omega)
theorem oR:∀ {ls:List Nat} {l i:Nat},iG ls l=some i->ls[i]?=some l
 | [],_,_,h=>by cases h
 | m::r,l,i,h=>by
  unfold iG at h;by_cases e:m=l
  .have:i=0:=by simp_all
   grind
  .rw [jk e] at h;split at h
   .rename_i j hj;obtain rfl:=aj h;simpa using oR hj
   grind
theorem qm:∀ {ls:List Nat},ls.Nodup->∀ {i l:Nat},ls[i]?=some l->iG ls l=some i
 | [],_,_,_,h=>by grind
 | m::r,hn,0,l,h=>by
  simp_all [iG]
 | m::r,hn,i+1,l,h=>by
  rw [gj] at hn;have h':r[i]?=some l:=by grind
  have jb:m≠l:=by grind
  unfold iG;rw [jk jb];simp only [cond_false];rw [qm hn.2 h']
theorem NO {p:Prop}:∀ {c:Cl} {u:Value},cq E g c u->TG c p->p:=by
 intro c u r h;unfold TG at h;split at h;exact h r.2;exact h r.2;exact h (lA r);omega
theorem G5 {p:Prop}:∀ {l:List Cl} {us:List Value},bp E g l us->Qw l p->p
 | [],_,_,h=>h
 | _::_,_,⟨_,_,_,h1,h2⟩,h=>G5 h2 (NO h1 h)
theorem NN {p:Prop}:∀ {x:S1} {u:Value},gv E g x u->aaE x p->p
 | .c _,_,r,h=>NO r h
 | .agg _,_,⟨_,r,_⟩,h=>G5 r h
theorem G4 {p:Prop}:∀ {l:List S1} {us:List Value},iy E g l us->Qv l p->p
 | [],_,_,h=>h
 | _::_,_,⟨_,_,_,h1,h2⟩,h=>G4 h2 (NN h1 h)
theorem NM {p:Prop}:∀ {x:SV} {u:Value},df E g x u->TF x p->p
 | .v _,_,r,h=>NN r h
 | .cH _,_,⟨_,r,_⟩,h=>G4 r h
 | .any,_,_,h=>h
 | .arr _ _,_,_,h=>h
theorem G0 {p:Prop}:∀ {l:List SV} {us:List Value},bm E g l us->Qu l p->p
 | [],_,_,h=>h
 | _::_,_,⟨_,_,_,h1,h2⟩,h=>G0 h2 (NM h1 h)
theorem tP {P:Program} {ct:FuncId->Ct} (jV:∀ f args H Q,ct f args H Q->WpW W P f args H Q) (S:dm n W F b E g w s a) {f:FuncId} {args:List SV} {vs:List Value} {K:SV->Ov->Prop} (hv:bm E g args vs) (h:DC ct b s f args K):HH P f vs.toArray w (Out n W F b E g a K):=by
 unfold DC at h;generalize hls:sB (b.obj s) 1000 (qj args) []=ls at h;obtain ⟨Dm,h⟩:=di h;rw [ak,jJ] at Dm;obtain ⟨hn,fD⟩:=Dm;have Di:∀ l∈ls,l< s.n:=by simp_all
 have hEl:∀ l∈ls,∃ v,E[l]?=some v:=λl hl=>⟨_,ao (by rw [S.len];exact Di l hl)⟩
 -- the callee's labels
 have v7:mH (iG ls) E (ls.map λl=>(E[l]?).getD undef):=λl l' v h1 h2=>by
  have:=oR h1
  grind
 have xd:Sat W (ls.map λl=>(E[l]?).getD undef) g w (ls.map λl=>(b.obj s l).fx (iG ls)) (ba E 0 (iL (b.heap s) ls)++F):=by
  refine ⟨S.sat.sl.cJ λh0 x=>?_,by simp⟩;have x1:=bh.qC (ob:=b.obj s) hn (λl hl=>eN (Di l hl)) x;have x2:=bh.comm x1;exact bh.xY v7 (k:=0) (λi l hi=>by grind [qm]) x2
 refine HH.mono (jV _ _ _ _ h g w _ _ vs xd (bm.fx v7 hv)) ?_;rintro v w' ⟨E2,g',sv,H',hle,hm,hs,hsv,h⟩;obtain ⟨hlen,h⟩:=di h;have anr:ls.length<=H'.length:=eX hlen;have hE2:E2.length=H'.length:=hs.len
 -- the caller's labels
 have lB:∀ l,j4 ls s.n l=if l< ls.length then ls[l]? else some (s.n+(l - ls.length)):=λl=>by
  unfold j4
  grind
 have hr2:mH (j4 ls s.n) E2 (E++E2.drop ls.length):=λl l' v h1 h2=>by
  rw [lB] at h1;by_cases hl:l< ls.length
  .rw [if_pos hl] at h1;have h3:l'< s.n:=Di l' (ka h1);obtain ⟨u,hu⟩:=hEl l' (ka h1);have:=hle l u (by grind)
   grind
  .rw [if_neg hl] at h1;obtain rfl:=aj h1;rw [bD (by rw [S.len];omega),S.len,List.getElem?_drop,<-h2]
   grind
 have Qn:(E++E2.drop ls.length).length=s.n+(H'.length - ls.length):=by
  rw [af,S.len,aQ,hE2]
 refine ⟨E++E2.drop ls.length,g',fy ls s.n ls H' s,sv.fx (j4 ls s.n),bu.app E _,hm,⟨S.size,S.defers,λt u hu=>?_,⟨?_,?_⟩,?_⟩,df.fx hr2 hsv,NM hsv h⟩
 .have:b.slot (fy ls s.n ls H' s) t=b.slot s t:=by grind [Bs.slot,ub]
  rw [this] at hu;exact (S.fr t u hu).mono (bu.app E _) hm
 .refine hs.sl.cJ λh0 x=>?_;refine vK hr2 (k:=0) hn anr (λi l hi=>⟨?_,Di l (ka hi)⟩) (λi=>?_) (by grind [bh.under,ba.env,bu.app])
  .grind
  grind
 .grind [ef,ua]
 .exact tj Di S.top
theorem Y9 {ls:List Nat} {n0 l:Nat} (h:l∈ls):∃ i,iG ls l=some i/\j4 ls n0 i=some l:=by
 have key:∀ {ls:List Nat},l∈ls->∃ i,iG ls l=some i:=λ{ls}=>by
  induction ls with
  | nil=>grind
  | cons m r ih=>
   unfold iG;by_cases e:m=l
   .simp_all
   grind
 grind [j4,oR]
mutual
theorem Cl.wF {r1 r2:Nat->Option Nat}:∀ {c:Cl},(∀ l∈c.labels,∃ i,r1 l=some i/\r2 i=some l)->(c.fx r1).fx r2=c
 | .k _,_=>rfl
 | .d _ _,_=>rfl
 | .de _ _ _ _,_=>rfl
 | .Ki,_=>rfl
 | .p l off,h=>by obtain ⟨i,h1,h2⟩:=h l (by simp [Cl.labels]);simp only [Cl.fx,h1,h2]
 | .o l,h=>by obtain ⟨i,h1,h2⟩:=h l (by simp [Cl.labels]);simp only [Cl.fx,h1,h2]
 | .os l _ _ _,h=>by obtain ⟨i,h1,h2⟩:=h l (by simp [Cl.labels]);simp only [Cl.fx,h1,h2]
 | .oe l _ _ _,h=>by obtain ⟨i,h1,h2⟩:=h l (by simp [Cl.labels]);simp only [Cl.fx,h1,h2]
 | .m l,h=>by obtain ⟨i,h1,h2⟩:=h l (by simp [Cl.labels]);simp only [Cl.fx,h1,h2]
 | .sc l _ _,h=>by obtain ⟨i,h1,h2⟩:=h l (by simp [Cl.labels]);simp only [Cl.fx,h1,h2]
 | .kl l _,h=>by obtain ⟨i,h1,h2⟩:=h l (by simp [Cl.labels]);simp only [Cl.fx,h1,h2]
 | .fn f caps,h=>by simp only [Cl.fx];rw [Cl.yc (l:=caps) λl hl=>h l (by simpa [Cl.labels] using hl)]
 | .ue t c,h=>by simp only [Cl.fx];rw [Cl.wF (c:=c) λl hl=>h l (by simpa [Cl.labels] using hl)]
theorem Cl.yc {r1 r2:Nat->Option Nat}:∀ {l:List Cl},(∀ x∈Cl.nH l,∃ i,r1 x=some i/\r2 i=some x)->Cl.wE r2 (Cl.wE r1 l)=l
 | [],_=>rfl
 | c::l,h=>by
  simp only [Cl.wE];rw [Cl.wF (c:=c) λx hx=>h x (by simp [Cl.nH,hx]),Cl.yc (l:=l) λx hx=>h x (by simp [Cl.nH,hx])]
end
theorem HO.wF {r1 r2:Nat->Option Nat}:∀ {o:HO},(∀ l∈o.labels,∃ i,r1 l=some i/\r2 i=some l)->(o.fx r1).fx r2=o
 | .cells t cs,h=>by
  show HO.cells t (Cl.wE r2 (Cl.wE r1 cs))=_;rw [Cl.yc (l:=cs) h]
 | .sl ..,_=>rfl
 | .held ..,_=>rfl
 | .map ..,_=>rfl
 | .abs _,_=>rfl
 | .ab _,_=>rfl
 | .gone,_=>rfl
 | .pQ k n,h=>by
  obtain ⟨i,h1,h2⟩:=h n (aW.2 rfl);simp only [HO.fx,h1,h2]
theorem wY {ls0:List Nat} {n0:Nat} {g:Nat->HO} {s0:Ov}:∀ {ls:List Nat} {s:Ov},(∀ l,b.obj s l=b.obj s0 l)->(∀ l∈ls,(g l).fx (j4 ls0 n0)=b.obj s0 l)->∀ l,b.obj (fy ls0 n0 ls (ls.map g) s) l=b.obj s0 l
 | [],_,h,_=>h
 | l::ls,s,h,hg=>wY (ls:=ls) (s:=s.dU l ((g l).fx (j4 ls0 n0))) (by simp_all [jq]) (by grind)
theorem Y0 {p:Prop}:∀ {c d:Cl},Y1 c d p->c=d/\p:=by
 intro c d h;unfold Y1 at h;split at h
 .grind
 .simp_all
 .simp_all
 .simp_all
 .split at h
  .rename_i y' hy;obtain ⟨q,e1⟩:=eB hy;subst q;exact ⟨by rw [h.1,e1];rfl,h.2⟩
  grind
 grind
theorem Ge {p:Prop}:∀ {l r:List Cl},Pd l r p->l=r/\p
 | [],[],h=>⟨rfl,h⟩
 | c::l,d::r,h=>by
  obtain ⟨e1,h1⟩:=Y0 h;obtain ⟨e2,h2⟩:=Ge h1;exact ⟨by rw [e1,e2],h2⟩
 | [],_::_,h=>h.elim
 | _::_,[],h=>h.elim
theorem YY {p:Prop}:∀ {a b:HO},YZ a b p->a=b/\p:=by
 intro a b h;unfold YZ at h;split at h
 .grind [Ge,ai]
 .obtain ⟨e,h⟩:=di h;split at h
  .rename_i y hy;obtain ⟨q,hq⟩:=eB hy;subst q;refine ⟨?_,h.2⟩;rw [ai e,h.1,hq];rfl
  grind
 .grind
 grind
theorem Gd {p:Prop}:∀ {l r:List HO},Pc l r p->l=r/\p
 | [],[],h=>⟨rfl,h⟩
 | c::l,d::r,h=>by
  obtain ⟨e1,h1⟩:=YY h;obtain ⟨e2,h2⟩:=Gd h1;exact ⟨by rw [e1,e2],h2⟩
 | [],_::_,h=>h.elim
 | _::_,[],h=>h.elim
theorem Gi {P:Program} {ct:FuncId->Ct} (jV:∀ f args H Q,ct f args H Q->WpW W P f args H Q) (S:dm n W F b E g w s a) {f:FuncId} {args:List SV} {vs:List Value} {K:SV->Ov->Prop} (hv:bm E g args vs) (h:TS ct b s f args K):HH P f vs.toArray w (Out n W F b E g a K):=by
 unfold TS at h;generalize hls:sB (b.obj s) 1000 (qj args) []=ls at h;obtain ⟨Dm,h⟩:=di h;rw [ak] at Dm;obtain ⟨hn,jC⟩:=Dm;have fD:∀ l∈ls,l< s.n/\∀ q∈(b.obj s l).labels,q∈ls:=λl hl=>by
  have:=bn.1 jC l hl;simp_all [gB]
 have h1:=jV _ _ _ _ h;have h2:DC (λf args H Q=>WpW W P f args H Q) b s f args (λr s'=>s'=fy ls s.n ls (ls.map λl=>(b.obj s l).fx (iG ls)) s/\K r s):=by
  unfold DC;rw [hls,if_pos (by rw [ak];exact ⟨hn,bn.2 λl hl=>by simpa using (fD l hl).1⟩)];intro g0 w0 E0 F0 vs0 S0 Tx;refine (h1 g0 w0 E0 F0 vs0 S0 Tx).mono λv w' ⟨E',g',sv,H',a1,a2,a3,a4,q⟩=>⟨E',g',sv,H',a1,a2,a3,a4,?_⟩;obtain ⟨e,q2⟩:=Gd q;simp_all
 refine (tP (ct:=λf args H Q=>WpW W P f args H Q) (λ_ _ _ _ h=>h) S hv h2).mono λv w' ⟨E',g',s',sv,a1,a2,S',a4,e,hk⟩=>⟨E',g',s,sv,a1,a2,?_,a4,hk⟩;subst e;have apT:=wY (b:=b) (ls0:=ls) (n0:=s.n) (g:=λl=>(b.obj s l).fx (iG ls)) (s0:=s) (ls:=ls) (s:=s) (by grind) λl hl=>HO.wF λq hq=>Y9 (by grind);have hnn:(fy ls s.n ls (ls.map λl=>(b.obj s l).fx (iG ls)) s).n=s.n:=by grind [ua]
 have anv:b.heap (fy ls s.n ls (ls.map λl=>(b.obj s l).fx (iG ls)) s)=b.heap s:=by
  grind [Bs.heap,jv]
 refine ⟨S'.size,S'.defers,λt u hu=>S'.fr t u ?_,by rw [<-anv];exact S'.sat,S.top⟩
 grind [Bs.slot,ub]
theorem bm.app:∀ {l k:List SV} {us vs:List Value},bm E g l us->bm E g k vs->bm E g (l++k) (us++vs)
 | [],_,_,_,h,hk=>by rw [show _=_ from h];exact hk
 | _::_,_,_,_,⟨u,r,e,h1,h2⟩,hk=>by rw [e];exact ⟨u,r++_,rfl,h1,bm.app h2 hk⟩
theorem Cn:∀ {l:List Cl} {us:List Value},bp E g l us->bm E g (l.map .c) us
 | [],_,h=>h
 | _::_,_,⟨u,r,e,h1,h2⟩=>⟨u,r,e,h1,Cn h2⟩
theorem tV (S:dm n W F b E g w s a):∀ {l:List Operand} {vs:List SV},AF b s l=some vs->bm E g vs (l.map a.eval)
 | [],vs,h=>by
  obtain rfl: []=vs:=aj h;rfl
 | x::r,vs,h=>by
  unfold AF at h;split at h
  .rename_i v hv;split at h
   .rename_i l hl;obtain rfl:v::l=vs:=aj h;exact ⟨_,_,rfl,S.fm hv,tV S hl⟩
   .cases h
  .cases h
theorem Y5 {P:Program} {o:Oper} {c:Call} {fo:Operand} {f:FuncId} {us:Array Value} (ho:o.op= .call c) (hc:c.callee= .value fo) (hf:a.eval fo= .func (.func f) #[] us) (hk:rj P f=true):
  (execOp a.eval o).run P w= .ok (.enter f (c.args.map a.eval++us)) w:=by
 unfold rj at hk;split at hk
 .rename_i fn hfn;have h2:¬fn.body=none:=by grind
  simp_all [execOp,resolve,Deferred.ofValue,invoke,callFunc]
 grind
end
theorem Pg {P:Program} {t:TypeId} {name:String} {f:FuncId} {v:Value} {w:World} (k:Nat) (h:Tf P t name=some f):(method (k+1) t v name).run P w= .ok (f,v) w:=by
 unfold Tf at h;split at h
 .split at h
  .split at h
   .split at h
    .simp_all [method,typeInfo,follow,receiverAt,Place.get,underlying]
    grind
   grind
  grind
 grind
theorem Ph {P:Program} {a:Act} {w:World} {o:Oper} {c:Call} {ro:Operand} {name:String} {f:FuncId} {t:TypeId} {v:Value} (ho:o.op= .call c) (hc:c.callee= .invoke ro name) (hf:a.eval ro= .iface t v) (hm:Tf P t name=some f) (hk:rj P f=true):
  (execOp a.eval o).run P w= .ok (.enter f (#[v]++c.args.map a.eval)) w:=by
 unfold rj at hk;split at hk
 .rename_i fn hfn;simp only [ak,dr] at hk;have h1:¬fn.name= "runtime.NumGoroutine" :=by simpa using hk.1
  have h2:¬fn.body=none:=λe=>by rw [e] at hk;cases hk.2
  have hinv:∀ A:Array Value,A[0]?=some (.iface t v)->invoke (.fn (.method name) #[]) A=callMethod (.iface t v) name (A.extract 1 A.size):=λA hA=>by
   simp only [invoke,hA]
  have hx:(#[Value.iface t v]++c.args.map a.eval)[0]?=some (.iface t v):=by rw [qB (by simp)];rfl
  have hy:(#[Value.iface t v]++c.args.map a.eval).extract 1 (#[Value.iface t v]++c.args.map a.eval).size=c.args.map a.eval:=by simp [aT]
  have apL:resolve a.eval c o.type=pure {target:=.fn (.method name) #[],args:= #[Value.iface t v]++c.args.map a.eval}:=by simp only [resolve,hc,hf]
  have hmm:=Pg (w:=w) (v:=v) (P.types.size+99) hm;have fq:(callMethod (.iface t v) name (c.args.map a.eval)).run P w= .ok (.enter f (#[v]++c.args.map a.eval)) w:=by
   simp [callFunc,hfn,h1,h2,go_sem,hmm]
  have he:execOp a.eval o=(do let d <-resolve a.eval c o.type;invoke d.target d.args):=by simp only [execOp,ho]
  rw [he,apL];show (invoke (.fn (.method name) #[]) (#[Value.iface t v]++c.args.map a.eval)).run P w=_;rw [hinv _ hx,hy];exact fq
 .cases hk
section
variable {X:Vx} {n:Nat} {W:cX} {F:List Atom} {b:Bs} {E:Env} {g w:World} {s:Ov} {a:Act} {o:Oper}
theorem akY {c:Bool} {p q:Prop} (h:br c p q):(c=true/\p)\/(c=false/\q):=by
 cases c;exact .inr ⟨rfl,h⟩;exact .inl ⟨rfl,h⟩
theorem Vt (S:dm n W F b E g w s a) {x:Operand} {c:Cl} {K:SV->Ov->Prop} (ho:o.op= .next x true) (r:cq E g c (a.eval x)) (h:ZL b s c K):
  ∃ v w',(execOp a.eval o).run X.P w= .ok (.value v) w'/\Out n W F b E g a K v w':=by
 unfold ZL at h;split at h
 .rename_i l;obtain ⟨bb,hE,hx⟩:=r;split at h
  .rename_i z p eE;have H0:=S.pick hE;rw [eE] at H0;obtain ⟨hz,H⟩:z.size<=maxLen/\SL W g w (obj bb (.stringIter z p)::dM (ba E 0 (b.heap s)++F) l):=by
    obtain ⟨k,be,se,ow,h1,h2,ap,q,⟨u,s1,hz,b',e1,s2⟩,s3⟩:=H0;refine ⟨hz,k,be,se,ow,h1,h2,ap,q,?_,s3⟩;rw [hE] at s1;have:bb=b':=by grind
    rw [this];exact s2
   have hk:=H.has 0;have AJ:∀ {m:Nat},m<=9223372036854775807->aD .i64 (m:Int):=λ{m} h=>by
    show (-9223372036854775808:Int)<=m/\(m:Int)<=9223372036854775807;omega
   have h:(decide (p< z.size)=true/\_)\/(decide (p< z.size)=false/\_):=akY h;rcases h with ⟨e,h⟩| ⟨e,h⟩
   .have fD:p< z.size:=by grind
    have hr:=Q5 (P:=X.P) hk fD ho hx;have hd:=decode_le z p;have H2:=SL.zR H (⟨rfl,(aN.1 hk).1⟩:qy w bb (.stringIter z (p+(Utf8.decode z p).2)) _);refine ⟨_,_,hr,E,g,_,_,bu.refl E,bt.refl g,S.back hE (.ab (.iter z (p+(Utf8.decode z p).2))) (bt.refl g) (H2.cJ λk ⟨k1,k2,ap,q,s1,s2⟩=>⟨k1,k2,ap,q,⟨_,hE,hz,_,rfl,s1⟩,s2⟩),?_,h⟩;refine ⟨_,⟨_,_,rfl,⟨rfl,rfl⟩,_,_,rfl,⟨rfl,AJ ?_⟩,_,_,rfl,⟨rfl,?_⟩,rfl⟩,rfl⟩
    .grind [maxLen]
    .show (-2147483648:Int)<=((Utf8.decode z p).1:Int)/\((Utf8.decode z p).1:Int)<=2147483647;omega
   .exact ⟨_,_,by grind [W9],E,g,s,.cH [.c (.k (.bool false))],bu.refl E,bt.refl g,S,⟨_,⟨_,_,rfl,⟨rfl,rfl⟩,rfl⟩,rfl⟩,h⟩
  grind
 grind
theorem zj:∀ {off m j:Nat} {cs wa:List Cl} {ys:List ByteArray} {us:List Value},vT off m j cs ys=some wa->(∀ y∈ys,y.size<=maxLen)->bp E g cs us->
  off+m<=us.length/\bp E g wa (us.take off++(((ys.drop j).take m).map Value.string++us.drop (off+((ys.drop j).take m).length)))
 | 0,0,j,cs,wa,ys,us,h,_,hc=>by
  grind [vT]
 | 0,m+1,j,c::r,wa,ys,us,h,hy,⟨u,q,e,h1,h2⟩=>by
  subst e;unfold vT at h;split at h
  .split at h
   .rename_i l hl;obtain rfl:=aj h;obtain ⟨h3,h4⟩:=zj hl hy h2;refine ⟨by grind,?_⟩;cases hj:ys[j]? with
    | some y=>
     have hd:ys.drop j=y::ys.drop (j+1):=by
      grind [bO]
     rw [hd,List.take_succ_cons];simp only [List.take_zero,hU,cE,av,Option.getD_some,dV,gC] at h4 ⊢;exact ⟨_,_,rfl,⟨rfl,hy y (ka hj)⟩,h4⟩
    | none=>
     have hlen:ys.length<=j:=by grind
     rw [eL (by omega:ys.length<=j+1)] at h4;rw [eL hlen];simp only [List.take_nil,List.map_nil,aO,List.take_zero,hU,Nat.add_zero,pc,Option.getD_none] at h4 ⊢;obtain ⟨rfl,hz⟩:=h1;exact ⟨_,_,rfl,⟨rfl,hz⟩,h4⟩
   grind
  grind
 | off+1,m,j,c::r,wa,ys,us,h,hy,⟨u,q,e,h1,h2⟩=>by
  subst e;unfold vT at h;split at h
  .rename_i l hl;obtain rfl:=aj h;obtain ⟨h3,h4⟩:=zj hl hy h2;refine ⟨by grind,?_⟩;rw [List.take_succ_cons,show off+1+((ys.drop j).take m).length=(off+((ys.drop j).take m).length)+1 by omega,List.drop_succ_cons];exact ⟨_,_,rfl,h1,h4⟩
  grind
 | 0,m+1,j,[],_,_,_,h,_,_=>by cases h
 | off+1,m,j,[],_,_,_,h,_,_=>by cases h
theorem Vh {ds:List (List Value)}:∀ {ys:List ByteArray},eG g ds ys->ds.flatten=ys.map Value.string/\∀ y∈ys,y.size<=maxLen:=by
 induction ds with
 | nil=>
  intro ys h;cases ys with
  | nil=>grind
  | cons _ _=>trivial
 | cons d ds ih=>
  intro ys h;cases ys with
  | nil=>trivial
  | cons y ys=>
   obtain ⟨h1,h2⟩:=h;obtain ⟨e,hs⟩:d= [.string y]/\y.size<=maxLen:=h1
   grind
theorem Hb {t t2 et:TypeId} {x y:Operand} {v:Value} {xs ys:List UInt8} {off:Int} {R:List Atom} (ho:o.op= .call {callee:=.builtin .copy,args:= #[x,y],argTypes:= #[t,t2]}) (ht:X.P.underlying t=some (.slice et)) (hu:Nq X et=true) (H:SL W g w (pF .u8 et v xs::R)) (hy:Rd g w (a.eval y) ys) (h0:0<=off) (h1:off<=xs.length) (hx:a.eval x=jy 1 v off xs.length):
  ∃ w',(execOp a.eval o).run X.P w= .ok (.value (.int .i64 (min ys.length (xs.length - off.toNat):Nat))) w'/\SL W g w' (pF .u8 et v (mF xs off.toNat ys)::R):=by
 have hs:(X.P.info? et).map (·.size)=some 1:=by
  unfold Nq at hu;split at hu
  .simp_all
  .cases hu
 have H0:SL W g w (B4 et v xs::R):=H;have H1:=H0.ajf;rcases H1.ofRow with ⟨hv,hl,_,_⟩| ⟨k',afB,cur,hv,_⟩
 .have Aj:xs= []:=bA hl;subst Aj hv;have ho0:off=0:=by omega
  subst ho0;have OT:a.eval x= .slice none 0 0:=hx;have hlen:(Builtin.lenOf (a.eval y)).run X.P w= .ok ys.length w:=by
   rcases hy with ⟨e,rfl⟩| ⟨ad,c,e,_⟩<;>rw [e]<;>simp [Builtin.lenOf]
  have hfc:(Builtin.firstCells 1 0 (a.eval y)).run X.P w= .ok #[] w:=by
   rcases hy with ⟨e,rfl⟩| ⟨ad,c,e,h3,h4,ds,h5,h6⟩;rw [e];simp [Builtin.firstCells]
   grind [run_firstCells_some]
  cases mD:X.P.info? et with
  | none=>rw [mD] at hs;cases hs
  | some ie=>
   have hs1:ie.size=1:=by rw [mD] at hs;simpa using hs
   refine ⟨w,?_,by simpa [mF] using H⟩;simp [execOp,ho,resolve,invoke,builtin,Builtin.copy_,run_underlying ht,OT,hlen,hfc,sizeOf,typeInfo,mD,hs1,goInt,Result.andThen]
 .subst hv;obtain ⟨w',hr,H'⟩:=SL.anT (P:=X.P) (dT:=t) (sT:=t2) (ty:=o.type) H0 hy h0 h1 ht hs;rw [<-hx] at hr;exact ⟨w',by simp [execOp,ho,resolve,invoke,builtin,hr],H'⟩
theorem Vv (S:dm n W F b E g w s a) {t t2:TypeId} {x y:Operand} {cx cy:Cl} {K:SV->Ov->Prop} (ho:o.op= .call {callee:=.builtin .copy,args:= #[x,y],argTypes:= #[t,t2]}) (rx:cq E g cx (a.eval x)) (ry:cq E g cy (a.eval y)) (h:copyV X b s t t2 cx cy K):
  ∃ v w',(execOp a.eval o).run X.P w= .ok (.value v) w'/\Out n W F b E g a K v w':=by
 unfold copyV at h;split at h
 .rename_i et l off m ht;obtain ⟨bb,c,hE,hmc,hx⟩:=rx;obtain ⟨_,h⟩:=di h;split at h
  .rename_i ie ys u cs mD Nu eE;obtain ⟨hs1,h⟩:=di h;have hs1:ie.size=1:=ai hs1;split at h
   .rename_i wa zb;obtain ⟨hm,h⟩:=h;obtain ⟨Wa,_⟩:=tZ S ry Nu;obtain ⟨us,hr,hB,H⟩:=o6 S hE eE
    -- what is laid
    have key:∃ vs:List Value,vs=(ys.take m).map Value.string/\(∀ z∈ys,z.size<=maxLen)/\(Builtin.lenOf (a.eval y)).run X.P w= .ok ys.length w/\(Builtin.firstCells 1 (min ys.length m) (a.eval y)).run X.P w= .ok vs.toArray w:=by
     rcases Wa with ⟨e,rfl⟩| ⟨ad,cap,e,JG,fq,ds,Wh,qt⟩
     .rw [e];exact ⟨[],by simp,(λ_ h=>nomatch h),by simp [Builtin.lenOf],by simp [Builtin.firstCells]⟩
     .obtain ⟨hfl,mC⟩:=Vh (ds:=ds) Wh;rw [e];refine ⟨_,rfl,mC,by simp [Builtin.lenOf],?_⟩;refine run_firstCells_some (P:=X.P) w 1 (min ys.length m) ad ys.length cap ((ys.take m).map Value.string) (by simp [Nat.min_comm]) λj v hj=>?_;refine qt j v ?_;rw [hfl];rw [dq] at hj ⊢;rw [List.getElem?_take] at hj;split at hj
      .exact hj
      .cases hj
    obtain ⟨vs,Ef,mC,hlen,hfc⟩:=key;obtain ⟨hle,hrel⟩:=zj zb mC hr;rw [pc,<-Ef] at hrel;have hvl:vs.length=(ys.take m).length:=by rw [Ef,bR]
    rw [<-hvl] at hrel;have hvm:vs.length=min ys.length m:=by rw [hvl,aH,Nat.min_comm]
    have qp:∀ v∈vs,v.oneCell'=true:=λv hv=>by
     rw [Ef] at hv;obtain ⟨z,_,rfl⟩:=bq.1 hv;rfl
    have vM:=run_storeCells_at X.P bb off u vs 0 us.toArray w hB (by rw [List.size_toArray];omega) qp;simp only [Nat.add_zero] at vM;have jr:(execOp a.eval o).run X.P w= .ok (.value (.int .i64 (min ys.length m:Nat))) (w.setRow bb (us.toArray.toList.take off++vs++us.toArray.toList.drop (off+vs.length)).toArray):=by
     have Qk:Nat.min ys.length m=min ys.length m:=rfl;simp [execOp,ho,resolve,invoke,builtin,Builtin.copy_,run_underlying ht,hx,hlen,sizeOf,typeInfo,mD,hs1,hfc,vM,goInt,Qk]
    refine ⟨_,_,jr,E,g,_,.int (min ys.length m:Nat),bu.refl E,bt.refl g,S.back hE (.cells u wa) (bt.refl g) ?_,dL ?_,h⟩
    .have H2:=SL.zR H ((⟨rfl,hB.lt⟩:Xt w bb (us.toArray.toList.take off++vs++us.toArray.toList.drop (off+vs.length)).toArray _).BR hB);refine H2.cJ λk ⟨k1,k2,ap,q,s1,s2⟩=>⟨k1,k2,ap,q,⟨bb,_,hE,hrel,?_⟩,s2⟩;have s1':k1 bb=some (.cells (us.toArray.toList.take off++vs++us.toArray.toList.drop (off+vs.length)).toArray u (0,0)):=s1;rw [s1'];simp
    .show (-9223372036854775808:Int)<=(min ys.length m:Nat)/\((min ys.length m:Nat):Int)<=9223372036854775807;omega
   .cases h
  .cases h
 .rename_i et l ht;obtain ⟨hE,Eg⟩:=rx;have hQ:=di h;clear h;obtain ⟨hc,h⟩:=hQ;rw [ak] at hc;split at h
  .rename_i Qy e xs0 eE;have hQ:=di h;clear h;obtain ⟨he,h⟩:=hQ;obtain rfl:=ai he;split at h
   .rename_i xs Aj;obtain ⟨q,hq⟩:=eB Aj;subst q;have hq:xs=xs0:=hq;subst hq;obtain ⟨ys,Wa,_,hK⟩:=HW S ry h;have H:=jN S hE eE;have hx:a.eval x=jy 1 (a.eval x) 0 xs.length:=by
     have H0:SL W g w (B4 Qy (a.eval x) xs::_):=H;rcases H0.ajf.ofRow with ⟨hv,hl,_,_⟩| ⟨k',afB,cur,hv,_⟩;rw [hv,hl];rfl;exact (O9 _ _ _ _ hv).symm
    obtain ⟨w',hr,H'⟩:=Hb ho ht hc.2 H Wa (bB 0) (by omega) hx;refine ⟨_,w',hr,E,g,_,.int (min ys.length xs.length:Nat),bu.refl E,bt.refl g,S.back hE (.sl Qy .u8 (mF xs 0 ys)) (bt.refl g) ?_,?_,hK⟩;exact H'.cJ λk ⟨k1,k2,ap,q,s1,s2⟩=>⟨k1,k2,ap,q,⟨_,hE,s1⟩,s2⟩
    .have:=lA (pL H);refine dL (m:=(min ys.length (xs.length - (0:Int).toNat):Nat)) ?_;show (-9223372036854775808:Int)<=(min ys.length (xs.length - 0):Nat)/\((min ys.length (xs.length - 0):Nat):Int)<=9223372036854775807;omega
   .cases h
  .cases h
 .rename_i et l sz lo hi ht;obtain ⟨v,hE,hx,Eg⟩:=rx;have hQ:=di h;clear h;obtain ⟨hc,h⟩:=hQ;simp only [ak] at hc;split at h
  .rename_i Qy e xs0 eE;have hQ:=di h;clear h;obtain ⟨he,h⟩:=hQ;obtain rfl:=ai he;split at h
   .rename_i xs Aj;obtain ⟨q,hq⟩:=eB Aj;subst q;have hq:xs=xs0:=hq;subst hq;obtain ⟨h0,h1,rfl,h⟩:=h;obtain ⟨ys,Wa,_,hK⟩:=HW S ry h;have H:=jN S hE eE;obtain rfl:=ai hc.2.2;obtain ⟨w',hr,H'⟩:=Hb ho ht hc.2.1 H Wa h0 h1 hx;refine ⟨_,w',hr,E,g,_,.int (min ys.length (xs.length - lo.toNat):Nat),bu.refl E,bt.refl g,S.back hE (.sl Qy .u8 (mF xs lo.toNat ys)) (bt.refl g) ?_,?_,hK⟩
    .exact H'.cJ λk ⟨k1,k2,ap,q,s1,s2⟩=>⟨k1,k2,ap,q,⟨_,hE,s1⟩,s2⟩
    .have:=lA (pL H);refine dL (m:=(min ys.length (xs.length - lo.toNat):Nat)) ?_;show (-9223372036854775808:Int)<=(min ys.length (xs.length - lo.toNat):Nat)/\((min ys.length (xs.length - lo.toNat):Nat):Int)<=9223372036854775807;omega
   .cases h
  .cases h
 .cases h
end
def uT {κ:Type} [dN κ] (P:Program) (k:TypeId) (hz:Hp) (v:Value) (m:List (κ×Value)):Prop:=
 (v= .map none/\m= [])\/∃ b es clock,v= .map (some b)/\hz b=some (.map es clock)/\lF P k es clock m
theorem uT.sub {κ:Type} [dN κ] {P:Program} {k:TypeId} {hz hk:Hp} {v:Value} {m:List (κ×Value)} (h:uT P k hz v m) (i:hz.sub hk):uT P k hk v m:=by
 rcases h with h| ⟨b,es,c,h1,h2,h3⟩;exact .inl h;exact .inr ⟨b,es,c,h1,i _ _ h2,h3⟩
theorem uT.o {κ:Type} [dN κ] {P:Program} {k:TypeId} {hz:Hp} {w:World} {v:Value} {m:List (κ×Value)} {ob:Array MapEntry×Nat} (h:uT P k hz v m) (i:∀ b o,hz b=some o->w.heap[b]?=some o) (ho:Q9 hz v ob):Xh P k w v ob m:=by
 rcases h with h| ⟨b,es,c,h1,h2,h3⟩;exact .inl h
 .rcases ho with ho| ⟨b',ho,h4⟩
  .grind
  .obtain rfl:b=b':=by grind
   obtain ⟨o1,o2⟩:=ob;have:es=o1/\c=o2:=by
    grind
   obtain ⟨rfl,rfl⟩:=this;exact .inr ⟨b,h1,i _ _ h2,h3⟩
theorem uT.ob {κ:Type} [dN κ] {P:Program} {k:TypeId} {hz:Hp} {v:Value} {m:List (κ×Value)} (h:uT P k hz v m):∃ ob,Q9 hz v ob:=by
 rcases h with h| ⟨b,es,c,h1,h2,h3⟩;exact ⟨(#[],0),.inl h.1⟩;exact ⟨(es,c),.inr ⟨b,h1,h2⟩⟩
section
variable {X:Vx} {n:Nat} {W:cX} {F:List Atom} {b:Bs} {E:Env} {g w:World} {s:Ov} {a:Act} {o:Oper}
variable {P:Program} {T:UTy} {u mb:Nat} {q1 q2 nx:Int} {L:List (Int×rZ)} {z:Option rZ} {hz h:Hp} {R:List Atom}
theorem Z7 {P P':Program} {t:TypeId} {k:Kk} (h1:jT P t k=true) (h2:jT P' t k=true) {v:Value} {ob:Array MapEntry×Nat} {r:Nat} {left:List (k.den×Value)} {cur:Option (k.den×Value)} {hh:Hp} (s:(@mB k.den k.key P t v ob r left cur).sat g hh):(@mB k.den k.key P' t v ob r left cur).sat g hh:=by
 have yZ:WideElems.rg P' t eM=WideElems.rg P t eM:=funext (by grind [WideElems.rg, WideElems.rd, w9]);refine ⟨?_,s.2⟩;rcases s.1 with h| ⟨b,since,seen,c0,h3,h4,h5,h6,h7,h8⟩;exact .inl h;exact .inr ⟨b,since,seen,c0,h3,h4,h5,h6,h7,by rw [yZ];exact h8⟩
theorem agM {t:TypeId} {k:Kk} (h:P.underlying t=some k.tO):jT P t k=true:=by
 unfold jT;rw [h];cases k<;>rfl
theorem PI {kt tR:TypeId} {e:Ty} {M:List (Int×Nat×e.den)} (H:SL W g w (⟨λg h=>h=hz/\(pmA kt tR e M (ptr mb 0)).sat g h,λm ⟨h1,h2⟩=>⟨h1,Atom.mono _ m h2⟩⟩::R)) (hk:jT P kt .int=true): @uT Int Kk.int.key P kt hz (.map (some mb)) (sY M)/\∀ b o,hz b=some o->w.heap[b]?=some o:=by
 obtain ⟨k,be,se,ow,h1,h2,ap,rfl,⟨rfl,x,k1,k2,ap2,e2,⟨hv,hu⟩,s3⟩,s4⟩:=H;refine ⟨?_,by grind [Hp.fQ]⟩;obtain ⟨h',i,s5⟩:=Ca (A:=mapA x.2 kt x.1 (sY M)) (by simp) s3;have hx:mb=x.1:=by grind
 obtain ⟨es,c,j1,j2⟩:=Jp (k:=.int) (agM (k:=.int) hu) hk s5;rw [hx];exact uT.sub (hz:=h') (.inr ⟨x.1,es,c,rfl,j1,j2⟩) λb o q=>by rw [e2];exact Hp.sub.right ap2 b o (i b o q)
theorem alO (S:dm n W F b E g w s a) {l:Nat} {b0:Nat} (h:E[l]?=some (ptr b0 0)) {kt tR:TypeId} {e:Ty} {M:List (Int×Nat×e.den)} (ho:b.obj s l= .ab (.pm kt tR e M)):∃ hz,SL W g w (⟨λg h=>h=hz/\(pmA kt tR e M (ptr b0 0)).sat g h,λm ⟨h1,h2⟩=>⟨h1,Atom.mono _ m h2⟩⟩::dM (ba E 0 (b.heap s)++F) l):=by
 have H:=S.pick h;rw [ho] at H;obtain ⟨k,be,se,ow,h1,h2,ap,q,⟨v',s1,s3⟩,s4⟩:=H;rw [h] at s1;obtain rfl:=aj s1;exact ⟨h1,k,be,se,ow,h1,h2,ap,q,⟨rfl,s3⟩,s4⟩
theorem VK (S:dm n W F b E g w s a) {kt t et:TypeId} {e:Ty} {x:Operand} {l:Nat} {M:List (Int×Nat×e.den)} {K:SV->Ov->Prop} (ho:o.op= .range t x) (hx:a.eval x= .map (some mb)) (ht:X.P.underlying t=some (.map kt et)) (hkt:X.P.underlying kt=some (.int .i64)) (hm: @uT Int Kk.int.key X.P kt hz (.map (some mb)) (sY M)) (hi:∀ b o,hz b=some o->w.heap[b]?=some o)
  (h:K (.c (.p s.n 0)) (s.new (.ab (.PL kt l e hz mb M none)))):∃ v w',(execOp a.eval o).run X.P w= .ok (.value v) w'/\Out n W F b E g a K v w':=by
 obtain ⟨ob,eE⟩:=hm.ob;obtain ⟨oo,jr,Eg⟩:=Vr (hm.o hi eE) ht;refine ⟨ptr w.heap.size 0,w.alloc oo,by simp_all [execOp],E++ [ptr w.heap.size 0],g,_,.c (.p s.n 0),bu.app E _,bt.refl g,S.new (v:=ptr w.heap.size 0) (bt.refl g) ?_,(show df _ g (.c (.p s.n 0)) _ from ⟨w.heap.size,eh S _,rfl⟩),h⟩;have H1:=(Eg S.sat.sl).ajG;have H2:SL W g (w.alloc oo) (aeG kt hz mb M none (ptr w.heap.size 0)::(ba E 0 (b.heap s)++F)):=
  SL.zV (f:=λx:Nat×Program×(Array MapEntry×Nat)=>[ta (ptr w.heap.size 0=ptr x.1 0/\x.2.1.underlying kt=some (.int .i64)/\Q9 hz (.map (some mb)) x.2.2),mB x.2.1 kt (.map (some mb)) x.2.2 x.1 (sY M) ((none:Option (Int×Nat×e.den)).map λp=>(p.1,ptr p.2.1 0))]) (w.heap.size,X.P,ob) (H1.pw (by grind))
 exact H2.cJ λ_ ⟨k1,k2,ap,e,s1,s2⟩=>⟨k1,k2,ap,e,⟨_,eh S _,s1⟩,s2⟩
theorem Pe (S:dm n W F b E g w s a) {t:TypeId} {x:Operand} {c:Cl} {K:SV->Ov->Prop} (ho:o.op= .range t x) (r:cq E g c (a.eval x)) (h:Pq X b s t c K):
  ∃ v w',(execOp a.eval o).run X.P w= .ok (.value v) w'/\Out n W F b E g a K v w':=by
 unfold Pq at h;split at h
 .rename_i z ht;obtain ⟨hx,hz⟩:=r;have H:=S.sat.sl.new (xG.mk' w (.stringIter z 0));refine ⟨_,_,OF ho ht hx,E++ [ptr w.heap.size 0],g,_,_,bu.app E _,bt.refl g,S.new (v:=ptr w.heap.size 0) (bt.refl g) ?_,(show df _ g (.c (.p s.n 0)) _ from ⟨_,eh S _,rfl⟩),h⟩;exact H.cJ λk ⟨k1,k2,ap,q,s1,s2⟩=>⟨k1,k2,ap,q,⟨_,eh S _,hz,_,rfl,s1⟩,s2⟩
 .rename_i kt et l ht;obtain ⟨b0,hE,hx⟩:=r;split at h
  .rename_i kt' tR e M eE;have hQ:=di h;obtain ⟨hc,h⟩:=hQ;rw [ak] at hc;obtain rfl:=ai hc.1;obtain ⟨hz,H⟩:=alO S hE eE;have hu:=lu hc.2;have S1:dm n W F b E g w (s.dU l (.ab (.pz kt tR e M hz b0))) a:=S.back hE _ (bt.refl g) (H.cJ λ_ ⟨k1,k2,ap,q,s1,s2⟩=>⟨k1,k2,ap,q,⟨_,hE,rfl,s1⟩,s2⟩);obtain ⟨_,H2⟩:=UD S1 hE (by rw [jq,if_pos rfl]);obtain ⟨hm,hi⟩:=PI H2 hc.2;exact VK S1 ho hx ht hu hm hi (h hz b0)
  grind
 grind
theorem Jf (S:dm n W F b E g w s a) {l:Nat} (h:b.obj s l≠ .gone):∃ v,E[l]?=some v:=by
 by_cases hl:l< s.n;exact ⟨E[l]'(by rw [S.len];exact hl),ao _⟩;exact absurd (S.top l (by omega)) h
theorem ac8 (S:dm n W F b E g w s a) {li bb:Nat} (hE:E[li]?=some (ptr bb 0)) {kt:TypeId} {l:Nat} {e:Ty} {left:List (Int×Nat×e.den)} {cur:Option (Int×Nat×e.den)} (eE:b.obj s li= .ab (.PL kt l e hz mb left cur)) (hP:jT P kt .int=true):
  ∃ ob,Q9 hz (.map (some mb)) ob/\SL W g w (@mB Int Kk.int.key P kt (.map (some mb)) ob bb (sY left) (cur.map λp=>(p.1,ptr p.2.1 0))::dM (ba E 0 (b.heap s)++F) li):=by
 have H:=S.pick hE;rw [eE] at H;have H1:SL W g w (aeG kt hz mb left cur (ptr bb 0)::dM (ba E 0 (b.heap s)++F) li):=H.cJ λ_ ⟨k1,k2,ap,e,⟨v',s1,s2⟩,s3⟩=>by
  rw [hE] at s1;obtain rfl:=aj s1;exact ⟨k1,k2,ap,e,s2,s3⟩
 obtain ⟨⟨r,P',ob⟩,H2⟩:=SL.CW H1;obtain ⟨⟨hr,hu,ho⟩,H3⟩:=SL.pure H2;obtain rfl:bb=r:=by grind
 exact ⟨ob,ho,H3.cJ λ_ ⟨k1,k2,ap,e,s1,s2⟩=>⟨k1,k2,ap,e,Z7 (k:=.int) (agM (k:=.int) hu) hP s1,s2⟩⟩
theorem Zq {li bb:Nat} (hE:E[li]?=some (ptr bb 0)) {kt:TypeId} {l:Nat} {e:Ty} {left:List (Int×Nat×e.den)} {cur:Option (Int×Nat×e.den)} {ob:Array MapEntry×Nat} {w':World} (hP:P.underlying kt=some (.int .i64)) (ho:Q9 hz (.map (some mb)) ob) (H:SL W g w' (@mB Int Kk.int.key P kt (.map (some mb)) ob bb (sY left) (cur.map λp=>(p.1,ptr p.2.1 0))::R)):SL W g w' (cM E li (.ab (.PL kt l e hz mb left cur))::R):=by
 have H2:SL W g w' (aeG kt hz mb left cur (ptr bb 0)::R):=
  SL.zV (f:=λx:Nat×Program×(Array MapEntry×Nat)=>[ta (ptr bb 0=ptr x.1 0/\x.2.1.underlying kt=some (.int .i64)/\Q9 hz (.map (some mb)) x.2.2),mB x.2.1 kt (.map (some mb)) x.2.2 x.1 (sY left) (cur.map λp=>(p.1,ptr p.2.1 0))]) (bb,P,ob) (H.pw (by grind))
 exact H2.cJ λ_ ⟨k1,k2,ap,e,s1,s2⟩=>⟨k1,k2,ap,e,⟨_,hE,s1⟩,s2⟩
theorem Vu (S:dm n W F b E g w s a) {x:Operand} {c:Cl} {K:SV->Ov->Prop} (ho:o.op= .next x false) (r:cq E g c (a.eval x)) (h:ZM X.P b s c K):
  ∃ v w',(execOp a.eval o).run X.P w= .ok (.value v) w'/\Out n W F b E g a K v w':=by
 unfold ZM at h;split at h
 .rename_i li;obtain ⟨bb,hE,hx⟩:=r;split at h
  .rename_i kt l e hz mb left cur eE;split at h
   .rename_i kt' tR e' M Xm OQ aaj;have hQ:=di h;obtain ⟨hc,rfl,rfl,h1,h2⟩:=hQ;rw [ak] at hc;obtain rfl:=ai hc.1;obtain ⟨lv,hEl⟩:=Jf S (l:=l) (by rw [aaj];exact λe=>by cases e);obtain ⟨rfl,H⟩:=UD S hEl aaj;obtain ⟨hmi,hi⟩:=PI H hc.2;obtain ⟨ob,ae8,H1⟩:=ac8 S hE eE hc.2;have hmo:=hmi.o hi ae8;rcases H1.V6 hmo (AZ hc.2) o.type with ⟨hl,jr⟩| ⟨x',y',mA,w',hp,hkx,aao,jr,H2⟩
    .have Al:left= []:=by
      simp_all [sY]
     exact ⟨_,w,by simp_all [execOp],E,g,s,.cH [.c (.k (.bool false))],bu.refl E,bt.refl g,S,⟨_,⟨_,_,rfl,⟨rfl,rfl⟩,rfl⟩,rfl⟩,h1 Al⟩
    .have r7:(x',y')∈sY left:=by grind
     obtain ⟨p,hp1,hp2⟩:=bq.1 r7;obtain ⟨aa,cc,hac⟩:=List.append_of_mem hp1;cases hp2;have hlp:left.Perm (p::(aa++cc)):=by simp_all
     have ap8:(sY (aa++cc)).Perm mA:=by
      have e1:(sY left).Perm ((p.1,ptr p.2.1 0)::sY (aa++cc)):=hlp.map λp:Int×Nat×e.den=>(p.1,ptr p.2.1 0);exact List.Perm.cons_inv (e1.symm.trans hp)
     have hk:aD .i64 p.1:=oQ.2 hkx;have H3:SL W g w' (mB X.P kt (.map (some OQ)) ob bb (sY (aa++cc)) (some (p.1,ptr p.2.1 0))::dM (ba E 0 (b.heap s)++F) li):=H2.cJ λ_ ⟨k1,k2,ap,e,s1,s2⟩=>⟨k1,k2,ap,e,Qc ap8.symm s1,s2⟩;refine ⟨.tuple #[.bool true,dN.val p.1,ptr p.2.1 0],w',by simp_all [execOp],E,g,_,.cH [.c (.k (.bool true)),.c (.k (.int .i64 p.1)),.c (.kl l (ptr p.2.1 0))],bu.refl E,bt.refl g,S.back hE _ (bt.refl g) (Zq (cur:=some p) hE (lu hc.2) ae8 H3),?_,h2 p.1 p.2.1 p.2.2 (aa++cc) hlp hk⟩;exact ⟨_,⟨_,_,rfl,⟨rfl,rfl⟩,_,_,rfl,⟨rfl,hk⟩,_,_,rfl,⟨⟨_,hEl⟩,rfl,rfl⟩,rfl⟩,rfl⟩
   grind
  grind
 grind
theorem ai0 {k:Kk} {x y:k.den} (h: @dN.val k.den k.key x= @dN.val k.den k.key y):x=y:=by
 cases k
 .have:Value.int .i64 x= .int .i64 y:=h
  grind
 .have:Value.string x= .string y:=h
  grind
theorem Pk (S:dm n W F b E g w s a) {x:Operand} {c:Cl} {K:SV->Prop} (ho:o.op= .entry x) (r:cq E g c (a.eval x)) (h:QA X.P b s c K):ER X.P o a w E g K:=by
 unfold QA at h;split at h
 .rename_i li;obtain ⟨bb,hE,hx⟩:=r;split at h
  .rename_i kt l e hz mb left cur eE;split at h
   .rename_i kt' tR e' M Xm OQ aaj;have hQ:=di h;obtain ⟨hc,x',b',y',rfl,rfl,rfl,h1⟩:=hQ;rw [ak] at hc;obtain rfl:=ai hc.1;obtain ⟨lv,hEl⟩:=Jf S (l:=l) (by rw [aaj];exact λe=>by cases e);obtain ⟨rfl,H⟩:=UD S hEl aaj;obtain ⟨hmi,hi⟩:=PI H hc.2;obtain ⟨ob,ae8,H1⟩:=ac8 S hE eE hc.2;have hmo:=hmi.o hi ae8;have H2:SL W g w (mB X.P kt (.map (some OQ)) ob bb (sY left) (some (x',ptr b' 0))::dM (ba E 0 (b.heap s)++F) li):=H1;have jr:=H2.V7 hmo;obtain ⟨hkx,aao⟩:=H2.Qb hmo (AZ hc.2) λ_ _ e=>ai0 (k:=.int) e;have hk:aD .i64 x':=oQ.2 hkx;refine ⟨_,.cH [.c (.k (.int .i64 x')),.c (.kl l (ptr b' 0))],by simp [execOp,ho,hx,ptr];rw [jr];rfl,?_,h1 hk⟩;exact ⟨_,⟨_,_,rfl,⟨rfl,hk⟩,_,_,rfl,⟨⟨_,hEl⟩,rfl,rfl⟩,rfl⟩,rfl⟩
   grind
  grind
 grind
end
section
variable {X:Vx} {n:Nat} {W:cX} {F:List Atom} {b:Bs} {E:Env} {g w:World} {s:Ov} {a:Act} {o:Oper}
variable {P:Program} {T:UTy} {u mb:Nat} {q1 q2 nx:Int} {L:List (Int×rZ)} {R:List Atom}
theorem Ch (S:dm n W F b E g w s a) {t:TypeId} {x y:Operand} {cx cy:Cl} {K:SV->Ov->Prop} (ho:o.op= .makeSlice t x y) (rx:cq E g cx (a.eval x)) (ry:cq E g cy (a.eval y)) (h:vH X s t cx cy K):
  ∃ v w',(execOp a.eval o).run X.P w= .ok (.value v) w'/\Out n W F b E g a K v w':=by
 unfold vH at h;split at h
 .rename_i et c d ht;have hQ:=di h;obtain ⟨hu,rfl,h0,h1,h⟩:=hQ;obtain ⟨hx,_⟩:=rx;obtain ⟨hy,_⟩:=ry;unfold Nq at hu;split at hu
  .rename_i i hq;rw [ak] at hu;obtain ⟨hs,hu⟩:=hu;have hs:=ai hs;split at hu
   .rename_i GS;have hb:=ai hu;have hr:=run_make (P:=X.P) w t et i (.int .u8 0) ht hq GS .i64 .i64 c c h0 (bB _) (by grind) (by omega);have Qq:madeCells (Value.int .u8 0).cells (c.toNat*i.size)=(bV (au c.toNat 0)).toArray:=by
     apply Array.ext_getElem?;intro j;simp only [madeCells,bV,Value.cells,List.map_replicate]
     grind
    rw [Qq] at hr;have H1:=S.sat.sl.new (xG.mk' w (.cells (bV (au c.toNat (0:UInt8))).toArray et (0,0)));have H2:=SL.wx (size:=1) (cap:=c.toNat) c.toNat H1 (aG _) (by grind [maxLen]) (by simp [bV]);have e1:(bV (au c.toNat (0:UInt8))).toArray.toList.take (c.toNat*1)=bV (au c.toNat 0):=by
     rw [aT (by simp [bV])]
    rw [e1] at H2;have H3:SL W g _ (pF .u8 et (.slice (some ⟨w.heap.size,0,none⟩) c.toNat c.toNat) (au c.toNat (0:UInt8))::(ba E 0 (b.heap s)++F)):=SL.slB (by rw [aY];exact H2);split at h
    .obtain ⟨g1,m1,H4,hi⟩:= @SL.qE Ty.u8.den Ty.u8.rep _ _ _ _ _ _ _ H3;refine ⟨.slice (some ⟨w.heap.size,0,none⟩) c.toNat c.toNat,_,by simp [execOp,ho,hx,hy,hr];rfl,E++ [_],g1,_,_,bu.app E _,m1,S.new (v:=.slice (some ⟨w.heap.size,0,none⟩) c.toNat c.toNat) m1 ?_,(show df _ g1 (.c (.o s.n)) _ from ⟨eh S _,_,_,_,rfl⟩),h⟩;exact H4.cJ λk s2=>⟨λ_=>none,k,λ_=>.inl rfl,rfl,⟨_,eh S _,hi⟩,s2⟩
    refine ⟨.slice (some ⟨w.heap.size,0,none⟩) c.toNat c.toNat,_,by simp [execOp,ho,hx,hy,hr];rfl,E++ [_],g,_,_,bu.app E _,bt.refl g,S.new (v:=.slice (some ⟨w.heap.size,0,none⟩) c.toNat c.toNat) (bt.refl g) ?_,(show df _ g (.c (.o s.n)) _ from ⟨eh S _,_,_,_,rfl⟩),h⟩;exact H3.cJ λk ⟨k1,k2,ap,q,s1,s2⟩=>⟨k1,k2,ap,q,⟨_,eh S _,s1⟩,s2⟩
   grind
  grind
 grind
end
section
variable {X:Vx} {n:Nat} {W:cX} {F:List Atom} {b:Bs} {E:Env} {g g' w w':World} {s:Ov} {a:Act} {o:Oper}
theorem dm.split (S:dm n W F b E g w s a) {l:Nat} {u v:Value} {o1 o2:HO} (h:E[l]?=some u) (m:bt g g') (H:SL W g' w' (cM (E++ [v]) l o1::cM (E++ [v]) s.n o2::dM (ba E 0 (b.heap s)++F) l)):dm n W F b (E++ [v]) g' w' ((s.dU l o1).new o2) a:=by
 have hl:=S.lt h;have hln:s.n=(b.heap s).length:=ef.symm;refine ⟨S.size,S.defers,λt u hu=>(S.fr t u hu).mono (bu.app E [v]) m,⟨?_,?_⟩,λk hk=>?_⟩
 .rw [tn,jt hl];refine H.cJ λh0 ⟨h1,h2,ap,e,s1,h3,h4,ap2,e2,s2,s3⟩=>?_;have N:=jI (E:=E) (F:=F) (k:=0) (eN (b:=b) hl);have fD:l< (b.heap s).length:=by omega
  have h5:=kr (E:=E) (F:=F) (k:=0) (o':=.gone) fD;have s4:bh g' (ba E 0 ((b.heap s).set l .gone)++F) h4:=by
   rw [<-h5];exact bh.oq N ⟨λ_=>none,h4,λ_=>.inl rfl,by rfl,trivial,s3⟩
  have s5:=ba.env (bu.app E [v]) s4;have s6:bh g' (ba (E++ [v]) 0 ((b.heap s).set l .gone++ [o2])++F) h2:=by
   rw [oY,aL,gC,jd,<-hln];exact bh.toEnd ⟨h3,h4,ap2,e2,s2,s5⟩
  have s7:=bh.En (E:=E++ [v]) (F:=F) (H:=(b.heap s).set l .gone++ [o2]) (l:=l) (o:=o1) (by grind) ⟨h1,h2,ap,e,s1,s6⟩;simp_all
 .rw [tn,jt hl];simp [S.sat.len]
 .have AK:s.n+1<=k:=hk;rw [tX,if_neg (by show ¬s.n=k;omega),jq,if_neg (by omega)];exact S.top k (by omega)
theorem dm.join (S:dm n W F b E g w s a) {l q:Nat} {u v:Value} {o1:HO} (hl:E[l]?=some u) (hq:E[q]?=some v) (jb:q≠l) (m:bt g g') (k:∀ R,SL W g w (cM E l (b.obj s l)::cM E q (b.obj s q)::R)->SL W g' w' (cM E l o1::R)):dm n W F b E g' w' ((s.dU q .gone).dU l o1) a:=by
 have Al:=S.lt hl;have Xo:=S.lt hq;refine ⟨S.size,S.defers,λt u hu=>(S.fr t u hu).mono (bu.refl E) m,⟨?_,?_⟩,λk hk=>?_⟩
 .rw [jt (s:=s.dU q .gone) (show l< s.n from Al),jt Xo];have H1:SL W g w (cM E l (b.obj s l)::cM E q (b.obj s q)::(ba E 0 (((b.heap s).set q .gone).set l .gone)++F)):=S.sat.sl.cJ λh0 x=>by
   obtain ⟨h1,h2,ap,e,s1,s2⟩:=bh.sk (eN (b:=b) Xo) x;have NC:((b.heap s).set q .gone)[l]?=some (b.obj s l):=by
    grind [eN]
   have s3:=bh.sk NC s2;exact bh.swap ⟨h1,h2,ap,e,s1,s3⟩
  exact (k _ H1).cJ λh0 x=>by
   have:=bh.En (l:=l) (by simp [ef];exact Al) x;simp_all
 .rw [jt (s:=s.dU q .gone) (show l< s.n from Al),jt Xo];simp [S.sat.len]
 .rw [jq,if_neg (by have:s.n<=k:=hk;omega),jq,if_neg (by have:s.n<=k:=hk;omega)];exact S.top k hk
theorem bh.wider:∀ {L:List Atom} {k1 k2:Hp},Hp.apart k1 k2->bh g L k2->bh g L (k1.join k2)
 | [],_,_,_,_=>trivial
 | a::L,k1,k2,ap,⟨m1,m2,ap3,e3,s4,s5⟩=>by
  subst e3;obtain ⟨a1,a2⟩:=Hp.eO.1 ap;refine ⟨m1,k1.join m2,Hp.eO.2 ⟨a1.symm,ap3⟩,?_,s4,bh.wider a2 s5⟩;rw [<-Hp.join_assoc,Hp.join_comm a1,Hp.join_assoc]
theorem bh.YV:∀ {A B:List Atom} {h:Hp},bh g (A++B) h->bh g B h
 | [],_,_,s=>s
 | a::A,B,h,⟨h1,h2,ap,e,_,s2⟩=>by rw [e];exact bh.wider ap (bh.YV s2)
theorem wB {α:Type}:∀ {l:List α} {i:Nat} {x:α},l[i]?=some x->l.set i x=l
 | [],_,_,h=>by simp at h
 | y::l,0,x,h=>by
  obtain rfl:y=x:=by simpa using h
  rfl
 | y::l,i+1,x,h=>by
  rw [List.set_cons_succ,wB (by simpa using h)]
theorem Du {A R:List Atom}:∀ {i:Nat},i< A.length->dM (A++R) i=dM A i++R:=by
 induction A with
 | nil=>grind
 | cons x A ih=>
  intro i h;cases i with
  | zero=>rfl
  | succ i=>
   grind [dM]
theorem CX {α:Type} {f:α->Atom} {R:List Atom}:∀ {l:List α} {i:Nat} {x:α},l[i]?=some x->wS (l.map f++R) i=some (f x)
 | [],_,_,h=>by simp at h
 | y::l,0,x,h=>by
  obtain rfl:y=x:=by simpa using h
  rfl
 | y::l,i+1,x,h=>CX (l:=l) (i:=i) (by simpa using h)
theorem Mh {α:Type} {f:α->Atom} {R:List Atom} {x:α}:∀ {l:List α} {i:Nat},i< l.length->xX (l.map f++R) i (f x)=(l.set i x).map f++R
 | [],_,h=>by simp at h
 | y::l,0,h=>rfl
 | y::l,i+1,h=>by
  show f y::xX (l.map f++R) i (f x)=f y::((l.set i x).map f++R);rw [Mh (l:=l) (by simpa using h)]
theorem G8 {α:Type} {f:α->Atom}:∀ {l:List α} {i:Nat},dM (l.map f) i=(l.eraseIdx i).map f
 | [],_=>rfl
 | _::l,0=>rfl
 | y::l,i+1=>by
  show f y::dM (l.map f) i=f y::(l.eraseIdx i).map f;rw [G8 (l:=l)]
theorem SL.Sw {α:Type} {f:α->Atom} {l:List α} {i:Nat} {x:α} {A:Atom} {R:List Atom} (hi:l[i]?=some x) (H:SL W g w (A::(l.map f++R))):SL W g w (f x::A::(dM (l.map f) i++R)):=by
 have fD:=(aw.1 hi).1;refine H.cJ λh0 ⟨h1,h2,ap,e,s1,s2⟩=>?_;have s3:=bh.pick (CX (f:=f) (R:=R) hi) s2;rw [Du (by rw [bR];exact fD)] at s3;exact bh.swap ⟨h1,h2,ap,e,s1,s3⟩
theorem SL.amO {α:Type} {f:α->Atom} {l:List α} {i:Nat} {x y:α} {A:Atom} {R:List Atom} (hi:l[i]?=some x) (H:SL W g w (f y::A::(dM (l.map f) i++R))):SL W g w (A::((l.set i y).map f++R)):=by
 have fD:=(aw.1 hi).1;refine H.cJ λh0 s=>?_;obtain ⟨h1,h2,ap,e,s1,s2⟩:=s.swap;refine ⟨h1,h2,ap,e,s1,?_⟩;rw [<-Du (R:=R) (by rw [bR];exact fD)] at s2;have s3:=bh.oq (CX (f:=f) (R:=R) hi) s2
 grind [Mh]
theorem aic (S:dm n W F b E g w s a) {l bb:Nat} (hE:E[l]?=some (ptr bb 0)) {kt tI:TypeId} {M:uE} (eE:b.obj s l= .ab (.ch kt tI M)) {P:Program} (hk:xc P kt=true):SL W g w (mapA P kt bb (vL M)::(M.map (Pb tI)++dM (ba E 0 (b.heap s)++F) l)):=by
 have H:=S.pick hE;rw [eE] at H;have H1:SL W g w (chA kt tI M (ptr bb 0)::dM (ba E 0 (b.heap s)++F) l):=H.cJ λ_ ⟨k1,k2,ap,q,⟨v,h1,h2⟩,h3⟩=>⟨k1,k2,ap,q,by
  rw [hE] at h1;obtain rfl:=aj h1;exact h2,h3⟩
 obtain ⟨⟨mb,P'⟩,H2⟩:=SL.CW H1;obtain ⟨⟨hv,hu⟩,H3⟩:=SL.pure H2;have hbb:bb=mb:=by grind
 exact H3.cJ λ_ ⟨k1,k2,ap,q,h1,h2⟩=>⟨k1,k2,ap,q,by grind [wW, Ai],h2⟩
theorem Ga {t tI:TypeId} {P:Program} (h:HY P t tI=true):(zeroValue t).run P w= .ok (.slice none 0 0) w:=by
 unfold HY at h;split at h
 .rw [ak] at h;split at h
  .simp_all [zeroValue, typeInfo]
  grind
 grind
theorem xf {M:uE} {key:K3}:(∃ (i:Nat) (v:Value) (xs:List Int),M[i]?=some (key,v,xs)/\iT (vL M) key=some v)\/((∀ p∈M,p.1≠key)/\iT (vL M) key=none):=by
 cases hg:iT (vL M) key with
 | none=>
  right;refine ⟨λp hp e=>?_,rfl⟩;exact (nY.1 hg) (p.1,p.2.1) (bq.2 ⟨p,hp,rfl⟩) e
 | some v=>
  have:=oT hg;obtain ⟨p,hp,hq⟩:=bq.1 this
  grind [List.getElem?_of_mem]
theorem Tq {cs:List Cl} {key:K3} {u:Value} (h:ae0 cs=some key) (r:gv E g (.agg cs) u):u=dN.val key:=by
 unfold ae0 at h;split at h
 .rename_i x y z;obtain rfl:=aj h;obtain ⟨us,h1,rfl⟩:=r;obtain ⟨_,_,rfl,⟨rfl,hx⟩,_,_,rfl,⟨rfl,hy⟩,_,_,rfl,⟨rfl,hz⟩,h4⟩:=h1;rw [show _= [] from h4];have key:∀ n:Int,aD .u8 n->((az n.toNat).toNat:Int)=n:=λn hn=>by
   obtain ⟨h0,h1⟩:=hn;simp; omega
  show _=K3.v _;unfold K3.v;simp only [key x hx,key y hy,key z hz]
 grind
theorem aaT (S:dm n W F b E g w s a) {l bb:Nat} (hE:E[l]?=some (ptr bb 0)) {kt tI:TypeId} {M:uE} {P:Program} (hk:xc P kt=true) {key:K3} {val:Value} {st:Option Nat} {R:List Atom} (hR:R=dM (ba E 0 (b.heap s)++F) l) (hnd:((vL M).map (·.1)).Nodup)
  (hv:val=(iT (vL M) key).getD (.slice none 0 0)) (H:SL W g w' (P2 P kt bb M key val st::(M.map (Pb tI)++R))):
  ∃ o xs,FindM M key o xs/\dm n W F b (E++ [val]) g w' ((s.dU l (.pQ (.ch kt tI M o key st) s.n)).new (.sl tI (.int .i64) xs)) a:=by
 have fin:∀ (o:Option (Nat×Value)) (xs:List Int),agh M o key st val->SL W g w' (pF (.int .i64) tI val xs::P2 P kt bb M key val st::(aeK (M.map (Pb tI)) o++R))->dm n W F b (E++ [val]) g w' ((s.dU l (.pQ (.ch kt tI M o key st) s.n)).new (.sl tI (.int .i64) xs)) a:=λo xs ho H2=>by
  refine S.split hE (bt.refl g) ?_;have hn:(E++ [val])[s.n]?=some val:=eh S _;have hl:(E++ [val])[l]?=some (ptr bb 0):=by grind
  have H3:SL W g w' ((HK.ch kt tI M o key st).atom (ptr bb 0) val::pF (.int .i64) tI val xs::dM (ba E 0 (b.heap s)++F) l):=by
   refine SL.zV (bb,P,val) (SL.pw (by grind) ?_);refine H2.cJ λh0 s0=>?_;obtain ⟨h1,h2,ap,e,s1,s2⟩:=s0.swap;refine ⟨h1,h2,ap,e,s1,?_⟩;simp_all [bh.toEnd]
  exact H3.cJ λh0 ⟨h1,h2,ap,e,s1,h3,h4,ap2,e2,s2,s3⟩=>⟨h1,h2,ap,e,⟨_,_,hl,hn,s1⟩,h3,h4,ap2,e2,⟨_,hn,s2⟩,s3⟩
 rcases xf (M:=M) (key:=key) with ⟨i,v,xs,hi,hg⟩| ⟨kZ,hg⟩
 .rw [hg] at hv;subst hv;exact ⟨some (i,val),xs,.at i val xs hi,fin _ _ ⟨⟨xs,hi⟩,λ_=>rfl⟩ (SL.Sw (f:=Pb tI) hi H)⟩
 .rw [hg] at hv;subst hv;exact ⟨none,[],.no kZ,fin _ _ kZ (SL.zU (Ty.int .i64).den tI H)⟩
theorem Pm (S:dm n W F b E g w s a) {t:TypeId} {x y:Operand} {mx:Cl} {cs:List Cl} {K:SV->Ov->Prop} (ho:o.op= .lookup t x y false) (rx:cq E g mx (a.eval x)) (ry:gv E g (.agg cs) (a.eval y)) (h:JT X b s t mx cs K):
  ∃ v w',(execOp a.eval o).run X.P w= .ok (.value v) w'/\Out n W F b E g a K v w':=by
 unfold JT at h;split at h
 .rename_i k et l ht;obtain ⟨bb,hE,hx⟩:=rx;split at h
  .rename_i kt tI M key eE Dj;have hQ:=di h;obtain ⟨hc,h⟩:=hQ;simp only [ak] at hc;obtain ⟨h1,h2,h3⟩:=hc;obtain rfl:=ai h1;have H:=aic S hE eE h2;have KT:=Ju h2;have hy:=Tq Dj ry;have hl:=(SL.aeU H).look false KT ht (Ga h3) key trivial;obtain ⟨oo,xs,hf,S1⟩:=aaT S hE (tI:=tI) h2 (key:=key) (st:=none) rfl ((SL.aeU H).nodup KT) rfl H;exact ⟨_,w,xD ho hx hy hl,_,g,_,.c (.o s.n),bu.app E _,bt.refl g,S1,⟨eh S _,by
    cases hf with
    | «at» i v xs hi=>
     rcases xf (M:=M) (key:=key) with ⟨i',v',xs',r9,hg⟩| ⟨kZ,hg⟩
     .have H5:=SL.Sw (f:=Pb tI) r9 H;obtain ⟨q,m,cc,hq,_⟩:=nW (e:=.int .i64) (pL H5)
      grind
     grind
    | no kZ=>
     rcases xf (M:=M) (key:=key) with ⟨i',v',xs',r9,hg⟩| ⟨_,hg⟩
     .grind
     grind⟩,h oo xs hf⟩
  grind
 grind
theorem VA (S:dm n W F b E g w s a) {t:TypeId} {x y:Operand} {mx:Cl} {cs:List Cl} {K:SV->Ov->Prop} (ho:o.op= .mapEntry t x y) (rx:cq E g mx (a.eval x)) (ry:gv E g (.agg cs) (a.eval y)) (h:QN X b s t mx cs K):
  ∃ v w',(execOp a.eval o).run X.P w= .ok (.value v) w'/\Out n W F b E g a K v w':=by
 unfold QN at h;split at h
 .rename_i k et l ht;obtain ⟨bb,hE,hx⟩:=rx;split at h
  .rename_i kt tI M key eE Dj;have hQ:=di h;obtain ⟨hc,hlen,h⟩:=hQ;simp only [ak] at hc;obtain ⟨h1,h2,h3⟩:=hc;obtain rfl:=ai h1;have H:=aic S hE eE h2;have KT:=Ju h2;have hy:=Tq Dj ry;obtain ⟨val,st,w',jr,H1,_,hval⟩:=SL.VZ H KT ht (Ga h3) (by unfold vL;rw [bR];assumption) key trivial;obtain ⟨oo,xs,hf,S1⟩:=aaT S hE (tI:=tI) h2 (key:=key) (val:=val) (st:=some st) rfl ((SL.aeU H).nodup KT) hval H1;have Eg:∃ q m c,val= .slice q m c:=by
    rcases xf (M:=M) (key:=key) with ⟨i',v',xs',r9,hg⟩| ⟨_,hg⟩
    .have H5:=SL.Sw (f:=Pb tI) r9 H;obtain ⟨q,m,cc,hq,_⟩:=nW (e:=.int .i64) (pL H5)
     grind
    grind
   refine ⟨.tuple #[val,goInt st],w',by simp_all [execOp],_,g,_,.cH [.c (.o s.n),.c (.kl l (.int .i64 st))],bu.app E _,bt.refl g,S1,?_,by grind⟩;exact ⟨_,⟨_,_,rfl,(show cq _ g (.o s.n) val from ⟨eh S _,Eg⟩),_,_,rfl,⟨by grind,rfl,rfl⟩,rfl⟩,rfl⟩
  grind
 grind
theorem afv {M:uE} {i:Nat} {key:K3} {v:Value} {xs:List Int} (hn:((vL M).map (·.1)).Nodup) (hi:M[i]?=some (key,v,xs)):pf (vL M) key=vL (M.eraseIdx i):=by
 have fD:=(aw.1 hi).1;have e0:M=M.take i++(key,v,xs)::M.drop (i+1):=by
  have e1:M.drop i=(key,v,xs)::M.drop (i+1):=by
   rw [bO fD,(aw.1 hi).2]
  rw [<-e1,bX]
 have e2:M.eraseIdx i=M.take i++M.drop (i+1):=List.eraseIdx_eq_take_drop_succ M i;rw [e2];unfold vL at hn ⊢;rw [e0,jc,cE,jc,cE,gx] at hn;obtain ⟨_,h2,h3⟩:=hn;have h2':=gj.1 h2
 conv=>lhs;rw [e0]
 rw [jc,cE,jc];unfold pf;rw [List.filter_append,List.filter_cons];simp only [decide_true,Bool.not_true,dS,if_false];congr 1
 .refine k9.2 λp hp=>?_;have:p.1≠key:=λe=>h3 p.1 (bq.2 ⟨p,hp,rfl⟩) key (by simp) e;simp [this]
 .refine k9.2 λp hp=>?_;have:p.1≠key:=λe=>h2'.1 (bq.2 ⟨p,hp,e⟩);simp [this]
theorem aaM {M:uE} {key:K3} (h:∀ p∈M,p.1≠key):pf (vL M) key=vL M:=by
 refine k9.2 λp hp=>?_;obtain ⟨q,hq,rfl⟩:=bq.1 hp
 grind
theorem VX {κ:Type} [dN κ] {P P':Program} {t:TypeId} (hk:∀ v,keyOf P t v=keyOf P' t v) {bb:Nat} {m:List (κ×Value)} {x:κ} {st:Nat} {g:World} {hh:Hp}:(GG P t bb m x st).sat g hh->(GG P' t bb m x st).sat g hh:=by
 rintro ⟨es,clock,h1,h2,h3⟩;obtain ⟨OV,tx,h1',h2'⟩:=wW (g:=g) hk (hh:=hh) ⟨es,clock,h1,h2⟩;rw [h1] at h1';cases h1';exact ⟨es,clock,h1,h2',h3⟩
theorem dm.two (S:dm n W F b E g w s a) {l q:Nat} {u v:Value} (hl:E[l]?=some u) (hq:E[q]?=some v) (jb:q≠l):∃ R,SL W g w (cM E l (b.obj s l)::cM E q (b.obj s q)::R):=by
 refine ⟨ba E 0 (((b.heap s).set q .gone).set l .gone)++F,S.sat.sl.cJ λh0 x=>?_⟩;obtain ⟨h1,h2,ap,e,s1,s2⟩:=bh.sk (eN (b:=b) (S.lt hq)) x;have NC:((b.heap s).set q .gone)[l]?=some (b.obj s l):=by
  rw [List.getElem?_set_ne jb];exact eN (S.lt hl)
 exact bh.swap ⟨h1,h2,ap,e,s1,bh.sk NC s2⟩
theorem aex {tI:TypeId} {M:uE} {o:Option (Nat×Value)}:aeK (M.map (Pb tI)) o=(Ik M o).map (Pb tI):=by
 cases o with
 | none=>rfl
 | some p=>exact G8
theorem afu {M:uE} {o:Option (Nat×Value)} {key:K3} {st:Option Nat} {vn:Value} (hn:((vL M).map (·.1)).Nodup) (h:agh M o key st vn):pf (vL M) key=vL (Ik M o):=by
 cases o with
 | none=>exact aaM h
 | some p=>
  obtain ⟨⟨xs,hi⟩,_⟩:=h;exact afv hn hi
theorem Vz (S:dm n W F b E g w s a) {t:TypeId} {x y z:Operand} {l:Nat} {st:Cl} {u:S1} {K:Ov->Prop} (ho:o.op= .entryStore t x y z) (rx:cq E g (.m l) (a.eval x)) (ry:cq E g st (a.eval y)) (rz:gv E g u (a.eval z)) (h:QM X.P b s t l st u K):
  ∃ w',(execOp a.eval o).run X.P w= .ok .skip w'/\∃ g' s',bt g g'/\dm n W F b E g' w' s' a/\K s':=by
 unfold QM at h;split at h
 .rename_i kt tI M oo key m nn l2 x0 q eE;obtain ⟨bb,hE,hx⟩:=rx;obtain ⟨_,hy,_⟩:=ry;split at h
  .rename_i tq eq xs k et Qj ht;have hQ:=di h;clear h;obtain ⟨hc,h⟩:=hQ;simp only [ak,dr] at hc;obtain ⟨c1,c2,c3,c4⟩:=hc;obtain rfl:=ai c1;obtain rfl:=ai c3;have jb:q≠l:=λe=>by subst e;simp at c2
   split at h
   .rename_i ys Nu;obtain ⟨qe,e1⟩:=eB Nu;subst qe;obtain ⟨rfl,h⟩:=h;have hEq:E[q]?=some (a.eval z):=(show cq E g (.o q) (a.eval z) from rz).1;have H1:∀ R,SL W g w (cM E l (b.obj s l)::cM E q (b.obj s q)::R)->∃ val,(∃ vn,agh M oo key (some m) vn)/\((vL M).map (·.1)).Nodup/\SL W g w (GG X.P k bb (qX (vL M) key val) key m::(aeK (M.map (Pb tq)) oo++pF (.int .i64) tq (a.eval z) ys::R)):=λR HR=>by
     rw [eE,Qj] at HR;have H2:SL W g w (HK.atom (.ch k tq M oo key (some m)) (ptr bb 0) ((E[nn]?).getD undef)::pF (.int .i64) tq (a.eval z) ys::R):=HR.cJ λh0 ⟨h1,h2,ap,e,⟨v,vn,k1,k2,k3⟩,h3,h4,ap2,e2,⟨vz,k4,k5⟩,s3⟩=>⟨h1,h2,ap,e,by
      rw [hE] at k1;obtain rfl:=aj k1;rw [k2];exact k3,h3,h4,ap2,e2,by
      rw [hEq] at k4;obtain rfl:=aj k4;rw [e1];exact k5,s3⟩
     obtain ⟨⟨mb,P,val⟩,H3⟩:=SL.CW H2;obtain ⟨⟨hv,hk,Qi,hnd⟩,H4⟩:=SL.pure H3;have hbb:bb=mb:=by simpa [ptr] using hv
     subst hbb;exact ⟨val,⟨_,Qi⟩,hnd,H4.cJ λ_ ⟨k1,k2,ap,q,h1,h2⟩=>⟨k1,k2,ap,q,VX (λv=>Ai hk c4 v) h1,h2⟩⟩
    have KT:=Ju c4;obtain ⟨R0,HR0⟩:=S.two hE hEq jb;obtain ⟨val0,_,_,HA⟩:=H1 R0 HR0;obtain ⟨w',jr,_,_⟩:=SL.entryStore HA KT trivial t (a.eval z);refine ⟨w',?_,g,_,bt.refl g,S.join hE hEq jb (o1:=.ab (.ch k tq ((key,a.eval z,ys)::Ik M oo))) (bt.refl g) (λR HR=>?_),h (a.eval z)⟩
    .have aaf:(Instr.entryStore t (.map (some bb)) (.int .i64 m) (a.eval z)).run X.P w= .ok () w':=jr;simp [execOp,ho,hx,hy,aaf]
    obtain ⟨val,⟨vn,Qi⟩,hnd,HB⟩:=H1 R HR;obtain ⟨w2,agS,HC,_⟩:=SL.entryStore HB KT trivial t (a.eval z);rw [jr] at agS;cases agS;rw [aex] at HC;have e3:qX (vL M) key (a.eval z)=vL ((key,a.eval z,ys)::Ik M oo):=by
     show (key,a.eval z)::pf (vL M) key=_;rw [afu hnd Qi];rfl
    rw [e3] at HC;have HD:SL W g w' (chA k tq ((key,a.eval z,ys)::Ik M oo) (ptr bb 0)::R):=by
     refine SL.zV (bb,X.P) (SL.pw ⟨rfl,c4⟩ ?_);refine HC.cJ λh0 ⟨h1,h2,ap,e,s1,s2⟩=>⟨h1,h2,ap,e,s1,?_⟩;exact bh.po s2
    exact HD.cJ λh0 ⟨h1,h2,ap,e,s1,s2⟩=>⟨h1,h2,ap,e,⟨_,hE,s1⟩,s2⟩
   .cases h
  .cases h
 .cases h
theorem aib (S:dm n W F b E g w s a) {l bb:Nat} (hE:E[l]?=some (ptr bb 0)) {kt tR:TypeId} {e:Ty} {M:List (Int×Nat×e.den)} (eE:b.obj s l= .ab (.pm kt tR e M)) {P:Program} (hk:jT P kt .int=true):SL W g w (mapA P kt bb (sY M)::(M.map (uQ tR e)++dM (ba E 0 (b.heap s)++F) l)):=by
 have H:=S.pick hE;rw [eE] at H;have H1:SL W g w (pmA kt tR e M (ptr bb 0)::dM (ba E 0 (b.heap s)++F) l):=H.cJ λ_ ⟨k1,k2,ap,q,⟨v,h1,h2⟩,h3⟩=>⟨k1,k2,ap,q,by
  rw [hE] at h1;obtain rfl:=aj h1;exact h2,h3⟩
 obtain ⟨⟨mb,P'⟩,H2⟩:=SL.CW H1;obtain ⟨⟨hv,hu⟩,H3⟩:=SL.pure H2;have hbb:bb=mb:=by grind
 have hP':jT P' kt .int=true:=by grind [jT]
 exact H3.cJ λ_ ⟨k1,k2,ap,q,h1,h2⟩=>⟨k1,k2,ap,q,by grind [wW, w9],h2⟩
theorem aay {α:Type} {M:List (Int×Nat×α)} {r:Int}:(∃ (i:Nat) (bb:Nat) (x:α),M[i]?=some (r,bb,x)/\iT (sY M) r=some (ptr bb 0))\/((∀ p∈M,p.1≠r)/\iT (sY M) r=none):=by
 cases hg:iT (sY M) r with
 | none=>
  right;exact ⟨λp hp e=>(nY.1 hg) (p.1,ptr p.2.1 0) (bq.2 ⟨p,hp,rfl⟩) e,rfl⟩
 | some v=>
  obtain ⟨p,hp,hq⟩:=bq.1 (oT hg)
  grind [List.getElem?_of_mem]
theorem Pf (S:dm n W F b E g w s a) {t:TypeId} {x y:Operand} {l:Nat} {ky:Cl} {kt tR:TypeId} {e:Ty} {M:List (Int×Nat×e.den)} {K:SV->Ov->Prop} (ho:o.op= .lookup t x y true) (rx:cq E g (.m l) (a.eval x)) (ry:cq E g ky (a.eval y)) (eE:b.obj s l= .ab (.pm kt tR e M)) (h:Ja X s t l kt tR e M ky K):
  ∃ v w',(execOp a.eval o).run X.P w= .ok (.value v) w'/\Out n W F b E g a K v w':=by
 unfold Ja at h;split at h
 .rename_i k et q ht;obtain ⟨bb,hE,hx⟩:=rx;obtain ⟨hy,hq⟩:=ry;have hQ:=di h;obtain ⟨hc,h1,h2⟩:=hQ;simp only [ak] at hc;obtain ⟨c1,c2,c3⟩:=hc;obtain rfl:=ai c1;have H:=aib S hE eE c2;have KT:=w8 (lu c2);have hl:=(SL.aeU H).look true KT ht (PX c3) q (oQ.1 hq);rcases aay (M:=M) (r:=q) with ⟨i,pb,xx,hi,hg⟩| ⟨kZ,hg⟩
  .rw [hg] at hl;have Al:(Instr.lookup t (.map (some bb)) (.int .i64 q) true).run X.P w= .ok (.tuple #[ptr pb 0,.bool true]) w:=hl;have H5:=SL.Sw (f:=uQ tR e) hi H;obtain ⟨us,hrel,H6⟩:∃ us,e.rep.rel g us xx/\SL W g w (pd pb us.toArray tR::mapA X.P k bb (sY M)::(dM (M.map (uQ tR e)) i++dM (ba E 0 (b.heap s)++F) l)):=by
    obtain ⟨k1,be,se,ow,k2,k3,ap,eq,⟨us,s1,s2⟩,s3⟩:=H5;exact ⟨us,s1,k1,be,se,ow,k2,k3,ap,eq,s2,s3⟩
   obtain ⟨p1,p2⟩:=fz (E++ [ptr pb 0]) g e hrel;have hn:(E++ [ptr pb 0])[s.n]?=some (ptr pb 0):=eh S _;have v8:(E++ [ptr pb 0])[l]?=some (ptr bb 0):=bu.app E _ _ _ hE;have S1:dm n W F b (E++ [ptr pb 0]) g w ((s.dU l (.pQ (.pm k tR e M i q pb) s.n)).new (.cells tR (e.cells xx))) a:=by
    refine S.split hE (bt.refl g) ?_;have H7:SL W g w ((HK.pm k tR e M i q pb).atom (ptr bb 0) (ptr pb 0)::pd pb us.toArray tR::dM (ba E 0 (b.heap s)++F) l):=by
     refine SL.zV (bb,X.P) (SL.pw ⟨rfl,lu c2,⟨xx,hi⟩,rfl⟩ ?_);refine H6.cJ λh0 s0=>?_;obtain ⟨k1,k2,ap,e9,s1,s2⟩:=s0.swap;refine ⟨k1,k2,ap,e9,s1,?_⟩;simp_all [bh.toEnd]
    exact H7.cJ λh0 ⟨k1,k2,ap,e9,s1,k3,k4,ap2,e2,s2,s3⟩=>⟨k1,k2,ap,e9,⟨_,_,v8,hn,s1⟩,k3,k4,ap2,e2,⟨pb,us,hn,p1,s2⟩,s3⟩
   exact ⟨_,w,xD ho hx hy Al,_,g,_,.cH [.c (.p s.n 0),.c (.k (.bool true))],bu.app E _,bt.refl g,S1,⟨_,⟨_,_,rfl,(show cq (E++ [ptr pb 0]) g (.p s.n 0) _ from ⟨pb,hn,rfl⟩),_,_,rfl,(show cq (E++ [ptr pb 0]) g (.k (.bool true)) _ from ⟨rfl,rfl⟩),rfl⟩,rfl⟩,h2 i pb xx hi p2⟩
  .rw [hg] at hl;have Al:(Instr.lookup t (.map (some bb)) (.int .i64 q) true).run X.P w= .ok (.tuple #[.pointer none,.bool false]) w:=hl;exact ⟨_,w,xD ho hx hy Al,E,g,s,.cH [.c (.k (.pointer none)),.c (.k (.bool false))],bu.refl E,bt.refl g,S,⟨_,⟨_,_,rfl,(show cq E g (.k (.pointer none)) _ from ⟨rfl,rfl⟩),_,_,rfl,(show cq E g (.k (.bool false)) _ from ⟨rfl,rfl⟩),rfl⟩,rfl⟩,h1 kZ⟩
 .cases h
theorem Vs (S:dm n W F b E g w s a) {t:TypeId} {x y z:Operand} {l:Nat} {ky:Cl} {u:S1} {kt tR:TypeId} {e:Ty} {M:List (Int×Nat×e.den)} {K:Ov->Prop} (ana:∀ mv kv vv w',a.eval x=mv->a.eval y=kv->a.eval z=vv->(Instr.mapUpdate t mv kv vv).run X.P w= .ok () w'->(execOp a.eval o).run X.P w= .ok .skip w') (rx:cq E g (.m l) (a.eval x)) (ry:cq E g ky (a.eval y)) (rz:gv E g u (a.eval z)) (eE:b.obj s l= .ab (.pm kt tR e M)) (h:PJ X b s t l kt tR e M ky u K):
  ∃ w',(execOp a.eval o).run X.P w= .ok .skip w'/\∃ g' s',bt g g'/\dm n W F b E g' w' s' a/\K s':=by
 unfold PJ at h;split at h
 .rename_i k et q nn ht;obtain ⟨bb,hE,hx⟩:=rx;obtain ⟨hy,hq⟩:=ry;obtain ⟨pb,hEn,hz⟩:=(show cq E g (.p nn 0) (a.eval z) from rz);split at h
  .have hQ:=di h;obtain ⟨hc,kZ,hlen,h⟩:=hQ;simp only [ak,dr] at hc;obtain ⟨c1,c2,c3,c4⟩:=hc;obtain rfl:=ai c1;have H:=aib S hE eE c2;have KT:=w8 (lu c2);obtain ⟨w',jr,H1⟩:=H.P3 KT ht (by unfold sY;rw [bR];exact hlen) q (oQ.1 hq) (ptr pb 0);have aaf:(Instr.mapUpdate t (.map (some bb)) (.int .i64 q) (ptr pb 0)).run X.P w= .ok () w':=jr;have aqr:pf (sY M) q=sY M:=by
    refine k9.2 λp hp=>?_;obtain ⟨p0,Wb,rfl⟩:=bq.1 hp
    grind
   have e3:qX (sY M) q (ptr pb 0)=sY ((q,pb,e.NV)::M):=by
    show (q,ptr pb 0)::pf (sY M) q=_;rw [aqr];rfl
   rw [e3] at H1;refine ⟨w',ana _ _ _ _ hx hy hz aaf,g,_,bt.refl g,S.back hE (.pQ (.pm k tR e ((q,pb,e.NV)::M) 0 q pb) nn) (bt.refl g) ?_,h pb⟩;have H2:SL W g w' ((HK.pm k tR e ((q,pb,e.NV)::M) 0 q pb).atom (ptr bb 0) (ptr pb 0)::dM (ba E 0 (b.heap s)++F) l):=by
    refine SL.zV (bb,X.P) (SL.pw ⟨rfl,lu c2,⟨_,rfl⟩,rfl⟩ ?_);exact H1
   exact H2.cJ λh0 ⟨k1,k2,ap,e9,s1,s2⟩=>⟨k1,k2,ap,e9,⟨_,_,hE,hEn,s1⟩,s2⟩
  .cases h
 .cases h
theorem Ww (S:dm n W F b E g w s a) (l:Nat):dm n W F b E g w (QJ b s l) a:=by
 unfold QJ;split
 .rename_i k q eE;split
  .exact S
  .rename_i jb;have jb:q≠l:=λe=>by subst e;simp at jb
   split
   .rename_i o' lB;have hl:l< s.n:=by
     rcases eW l s.n with h| h;exact h;rw [S.top l h] at eE;cases eE
    have hq:q< s.n:=by
     rcases eW q s.n with h| h;exact h
     .rw [S.top q h] at lB;unfold abK at lB;split at lB<;>first| (cases lB)| (rename_i heq;cases heq)
    obtain ⟨u,hE⟩:∃ u,E[l]?=some u:=⟨E[l]'(by rw [S.len];exact hl),ao _⟩;obtain ⟨v,hEq⟩:∃ v,E[q]?=some v:=⟨E[q]'(by rw [S.len];exact hq),ao _⟩;refine S.join hE hEq jb (bt.refl g) λR HR=>?_;rw [eE] at HR;unfold abK at lB;split at lB
    .rename_i kt tI M oo key t' e' xs Qj;split at lB
     .rename_i ht;obtain rfl:=ai ht;split at lB
      .rename_i ys Nu;obtain ⟨qe,e1⟩:=eB Nu;subst qe;obtain rfl:=aj lB;rw [Qj] at HR;have H2:SL W g w (HK.atom (.ch kt t' M oo key none) u v::pF (.int .i64) t' v ys::R):=HR.cJ λh0 ⟨h1,h2,ap,e,⟨v1,vn,k1,k2,k3⟩,h3,h4,ap2,e2,⟨vz,k4,k5⟩,s3⟩=>⟨h1,h2,ap,e,by
        rw [hE] at k1;rw [hEq] at k2;obtain rfl:=aj k1;obtain rfl:=aj k2;exact k3,h3,h4,ap2,e2,by
        rw [hEq] at k4;obtain rfl:=aj k4;rw [e1];exact k5,s3⟩
       obtain ⟨⟨mb,P,val⟩,H3⟩:=SL.CW H2;obtain ⟨⟨hv,hk,Qi,hnd⟩,H4⟩:=SL.pure H3;subst hv;have H5:SL W g w (mapA P kt mb (vL (Ur M oo key ys))::((Ur M oo key ys).map (Pb t')++R)):=by
        cases oo with
        | none=>
         refine H4.cJ λh0 ⟨k1,k2,ap,q,s1,s2⟩=>⟨k1,k2,ap,q,s1,?_⟩;obtain ⟨k3,k4,ap2,e2,_,s4⟩:=bh.po s2;rw [e2];exact bh.wider ap2 s4
        | some p=>
         obtain ⟨i,u2⟩:=p;obtain ⟨⟨xs0,hi⟩,he⟩:=Qi;obtain rfl:=he rfl;have H6:SL W g w (Pb t' (key,u2,ys)::mapA P kt mb (vL M)::(dM (M.map (Pb t')) i++R)):=H4.cJ λh0 ⟨k1,k2,ap,q,s1,s2⟩=>by
          obtain ⟨k3,k4,ap2,e2,s3,s4⟩:=bh.po s2;exact bh.swap ⟨k1,k2,ap,q,s1,k3,k4,ap2,e2,s3,s4⟩
         have H7:=SL.amO (f:=Pb t') hi H6;have e5:vL (M.set i (key,u2,ys))=vL M:=by
          unfold vL;rw [List.map_set];refine wB ?_;rw [dq,hi];rfl
         show SL W g w (mapA P kt mb (vL (M.set i (key,u2,ys)))::_);rw [e5];exact H7
       have HD:SL W g w (chA kt t' (Ur M oo key ys) (ptr mb 0)::R):=SL.zV (mb,P) (SL.pw ⟨rfl,hk⟩ H5);exact HD.cJ λh0 ⟨h1,h2,ap,e,s1,s2⟩=>⟨h1,h2,ap,e,⟨_,hE,s1⟩,s2⟩
      .cases lB
     .cases lB
    .rename_i kt tR e M i key pb t' cs Qj;split at lB
     .rename_i ht;obtain rfl:=ai ht;split at lB
      .rename_i x hx;obtain rfl:=aj lB;rw [Qj] at HR;have H2:SL W g w (HK.atom (.pm kt t' e M i key pb) u v::cM E q (.cells t' cs)::R):=HR.cJ λh0 ⟨h1,h2,ap,e9,⟨v1,vn,k1,k2,k3⟩,s3⟩=>⟨h1,h2,ap,e9,by
        rw [hE] at k1;rw [hEq] at k2;obtain rfl:=aj k1;obtain rfl:=aj k2;exact k3,s3⟩
       obtain ⟨⟨mb,P⟩,H3⟩:=SL.CW H2;obtain ⟨⟨hv,hk,⟨y,hi⟩,hvn⟩,H4⟩:=SL.pure H3;subst hv hvn;have H6:SL W g w (uQ t' e (key,pb,x)::mapA P kt mb (sY M)::(dM (M.map (uQ t' e)) i++R)):=H4.cJ λh0 ⟨k1,k2,ap,q9,s1,s2⟩=>by
        obtain ⟨k3,k4,ap2,e2,⟨b9,us,g1,g2,g3⟩,s4⟩:=bh.po s2;refine bh.swap ⟨k1,k2,ap,q9,s1,k3,k4,ap2,e2,?_,s4⟩;rw [hEq] at g1;have hb9:b9=pb:=by
         have:=aj g1;simpa [ptr] using this.symm
        subst hb9;obtain ⟨u1,u2,e5,h5,h6⟩:=of_cells e hx g2;obtain rfl:u2= []:=h6;rw [bd] at e5;subst e5;exact ⟨us,h5,g3⟩
       have H7:=SL.amO (f:=uQ t' e) hi H6;have e5:sY (M.set i (key,pb,x))=sY M:=by
        unfold sY;rw [List.map_set];refine wB ?_;rw [dq,hi];rfl
       have HD:SL W g w (pmA kt t' e (M.set i (key,pb,x)) (ptr mb 0)::R):=SL.zV (mb,P) (SL.pw ⟨rfl,hk⟩ (by rw [e5];exact H7));exact HD.cJ λh0 ⟨h1,h2,ap,e,s1,s2⟩=>⟨h1,h2,ap,e,⟨_,hE,s1⟩,s2⟩
      .cases lB
     .cases lB
    .cases lB
   .exact S
 .exact S
theorem Wx (S:dm n W F b E g w s a) (l:Nat):∃ g',bt g g'/\dm n W F b E g' w (QL b s l) a:=by
 unfold QL;split
 .rename_i t e xs i off q eE;split
  .exact ⟨g,bt.refl g,S⟩
  .rename_i jb;have jb:q≠l:=λe=>by subst e;simp at jb
   split
   .rename_i t' e' ys Qj;split
    .rename_i x' hof;obtain ⟨u,hE⟩:=Jf S (l:=l) (by rw [eE];exact λe=>by cases e);obtain ⟨v,hEq,_⟩:=ac7 S hE eE;letI:=e'.rep;obtain ⟨g1,m1,H1,hi⟩:=SL.qE (α:=e'.den) (jN S hEq Qj);have S1:dm n W F b E g1 w (s.dU q (.held t' e' ys)) a:=S.back hEq _ m1 (H1.cJ λk s2=>⟨λ_=>none,k,λ_=>.inl rfl,rfl,(show (cM E q (.held t' e' ys)).sat g1 _ from ⟨v,hEq,hi⟩),s2⟩);have apU:b.obj (s.dU q (.held t' e' ys)) l= .pQ (.sf t e xs i off) q:=by rw [jq,if_neg jb];exact eE
     obtain ⟨v2,hE2,H2⟩:=ac7 S1 hE apU;rw [hEq] at hE2;obtain rfl:=aj hE2;refine ⟨g1,m1,S1.back hE _ (bt.refl g1) (H2.cJ λk ⟨k1,k2,ap,e1,⟨cs,s1,⟨q1,q2,q3,q4,q5⟩,_,s3⟩,s4⟩=>⟨k1,k2,ap,e1,⟨u,hE,cs,s3 g1 (bt.refl g1) E (.d e' ys) hi x' hof,?_⟩,s4⟩)⟩;rw [jd,Ty.gz e];exact s1
    .exact ⟨g,bt.refl g,S⟩
   .exact ⟨g,bt.refl g,S⟩
 .exact ⟨g,bt.refl g,S⟩
theorem DA:∀ (ls:List Nat) {s:Ov} {g:World},dm n W F b E g w s a->∃ g',bt g g'/\dm n W F b E g' w (JS b ls s) a
 | [],_,g,S=>⟨g,bt.refl g,S⟩
 | l::r,_,_,S=>by
  obtain ⟨g1,m1,S1⟩:=Wx S l;obtain ⟨g2,m2,S2⟩:=DA r S1;exact ⟨g2,m1.trans m2,S2⟩
theorem Hg (c:Bool) (S:dm n W F b E g w s a):∃ g',bt g g'/\dm n W F b E g' w (aaS c b s) a:=by
 cases c;exact ⟨g,bt.refl g,S⟩;exact DA _ S
theorem Hf:∀ (ls:List Nat) {s:Ov},dm n W F b E g w s a->dm n W F b E g w (QK b ls s) a
 | [],_,S=>S
 | l::r,_,S=>Hf r (Ww S l)
theorem He (c:Bool) (S:dm n W F b E g w s a):dm n W F b E g w (Dy c b s) a:=by
 cases c;exact S;exact Hf _ S
end
def js (W:cX) (P:Program) (L:List (Nat×Ct)):Prop:=∀ p∈L,∀ args H Q,p.2 args H Q->WpW W P p.1 args H Q
def gO (I:cX->Prop) (P:Program) (L:List (Nat×Ct)):Prop:=∀ p∈L,∀ args H Q,p.2 args H Q->Wp I P p.1 args H Q
theorem gO.nil (I:cX->Prop) (P:Program):gO I P []:=λ_ h=>by cases h
theorem gO.at {I:cX->Prop} {P:Program} {L:List (Nat×Ct)} (h:gO I P L) {W:cX} (hW:I W):js W P L:=λp hp args H Q hc=>h p hp args H Q hc W hW
theorem gO.cons {I:cX->Prop} {P:Program} {L:List (Nat×Ct)} {f:Nat} {c:Ct} (h:∀ args H Q,c args H Q->Wp I P f args H Q) (k:gO I P L):gO I P ((f,c)::L):=λp hp=>by
 rcases bz.1 hp with rfl| hp;exact h;exact k p hp
theorem js.look {W:cX} {P:Program}:∀ {L:List (Nat×Ct)},js W P L->∀ f args H Q,Af L f args H Q->WpW W P f args H Q
 | [],_,_,_,_,_,h=>h.elim
 | (k,c)::r,hL,f,args,H,Q,h=>by
  unfold Af at h;by_cases e:k=f
  .subst e;have hb:Nat.beq k k=true:=by simp
   rw [hb] at h;exact hL _ (aK ..) _ _ _ h
  .rw [jk e] at h;exact js.look (λp hp=>hL p (aF _ hp)) f args H Q h
section
variable {X:Vx} {n:Nat} {W:cX} {F:List Atom} {b:Bs} {E:Env} {g w:World} {s:Ov} {a:Act} {o:Oper} {K:SV->Ov->Prop}
theorem fF {x:Operand} {k:SV->Prop} (h:qA b s x k):∃ v,fm b s x=some v/\k v:=by
 grind [qA]
theorem dO {x:Operand} {k:Cl->Prop} (h:nJ b s x k):∃ c,fm b s x=some (.v (.c c))/\k c:=by
 grind [nJ]
theorem Out.here (S:dm n W F b E g w s a) {v:Value} {sv:SV} (r:df E g sv v) (h:K sv s):Out n W F b E g a K v w:=⟨E,g,s,sv,bu.refl E,bt.refl g,S,r,h⟩
theorem kO.val {v:Value} {w':World} {R:Value->World->Prop} {P:Program} (h:(execOp a.eval o).run P w= .ok (.value v) w') (k:R v w'):kO P o a w R:=.inl ⟨v,w',h,k⟩
theorem kO.er (S:dm n W F b E g w s a) (h:ER X.P o a w E g λr=>K r s):kO X.P o a w (Out n W F b E g a K):=by
 obtain ⟨v,sv,h1,h2,h3⟩:=h
 grind [kO.val, Out.here]
theorem kO.ex (h:∃ v w',(execOp a.eval o).run X.P w= .ok (.value v) w'/\Out n W F b E g a K v w'):kO X.P o a w (Out n W F b E g a K):=.inl h
theorem tA {q:Bool} {p r:Prop} (h:br q p r):(q=true/\p)\/(q=false/\r):=by
 cases q;exact .inr ⟨rfl,h⟩;exact .inl ⟨rfl,h⟩
theorem tU (S:dm n W F b E g w s a) {q:Option Operand} {k:Option SV->Prop} (h:wP b s q k):∃ l,k l/\∀ i,intOf l=some i->rE a q i:=by
 unfold wP at h;split at h;exact ⟨none,h,λi hi=>.inl ⟨rfl,(aj hi).symm⟩⟩
 .rename_i y;obtain ⟨v,hv,h⟩:=fF h;refine ⟨some v,h,λi hi=>?_⟩;unfold intOf at hi;split at hi
  .rename_i heq;cases heq
  .rename_i m heq;cases heq;exact .inr ⟨y,m,rfl,(aj hi).symm,(iv (S.fm hv)).1⟩
  .cases hi
theorem Hh:∀ {l:List SV} {cs:List Cl} {us:List Value},JU l=some cs->bm E g l us->bp E g cs us
 | [],cs,us,h,r=>by
  obtain rfl: []=cs:=aj h;exact r
 | v::r,cs,us,h,⟨u,q,e,h1,h2⟩=>by
  subst e;unfold JU at h;split at h
  .grind
  .rename_i c r' heq;cases heq;split at h
   .rename_i l hl;obtain rfl:c::l=cs:=aj h;exact bp.cons h1 (Hh hl h2)
   grind
  grind
theorem tS {c:SV} {us:List Value} (h:bm E g [c] us):∃ u,us= [u]/\df E g c u:=by
 obtain ⟨u,r,e,h1,h2⟩:=h;exact ⟨u,by rw [e,show r= [] from h2],h1⟩
theorem nR {c d:SV} {us:List Value} (h:bm E g [c,d] us):∃ u v,us= [u,v]/\df E g c u/\df E g d v:=by
 obtain ⟨u,r,e,h1,h2⟩:=h
 grind [tS]
theorem aod {α β:Type} {f:α->β} {l:Array α} {u:β} (h:l.toList.map f= [u]):∃ x,l= #[x]/\f x=u:=by
 obtain ⟨l⟩:=l;simp_all
theorem agd {α β:Type} {f:α->β} {l:Array α} {u v:β} (h:l.toList.map f= [u,v]):∃ x y,l= #[x,y]/\f x=u/\f y=v:=by
 obtain ⟨l⟩:=l
 match l,h with
 | [x,y],h=>
  grind
theorem W6 {α:Type} {l:Array α} {t:List α} (h:l.toList=t):l=t.toArray:=by
 grind
theorem LW (S:dm n W F b E g w s a) {c:Call} {bi:Builtin} {args:List SV} (ho:o.op= .call c) (hc:c.callee= .builtin bi) (ha:AF b s c.args.toList=some args) (h:pS X b s bi args c.argTypes.toList K):kO X.P o a w (Out n W F b E g a K):=by
 have hv:=tV S ha;obtain ⟨callee,cargs,ctys⟩:=c;subst hc;unfold pS at h;split at h
 .split at h
  .rename_i x t hts;obtain ⟨u,e,hu⟩:=tS hv;obtain ⟨ox,rfl,rfl⟩:=aod e;obtain rfl:=W6 hts;exact kO.er S (Mn S ho hu h)
  grind
 .split at h
  .rename_i x y t t2 hts;obtain ⟨u,v,e,hu,hv2⟩:=nR hv;obtain ⟨ox,oy,rfl,rfl,rfl⟩:=agd e;obtain rfl:=W6 hts;exact kO.ex (Mx S ho hu hv2 h)
  grind
 .split at h
  .rename_i x y t t2 hts;obtain ⟨u,v,e,hu,hv2⟩:=nR hv;obtain ⟨ox,oy,rfl,rfl,rfl⟩:=agd e;obtain rfl:=W6 hts;exact kO.ex (Vv S ho hu hv2 h)
  grind
 .split at h
  .rename_i x y t t2 hts;obtain ⟨u,v,e,hu,hv2⟩:=nR hv;obtain ⟨ox,oy,rfl,rfl,rfl⟩:=agd e;obtain rfl:=W6 hts
   grind [kO.er, SF]
  grind
 .split at h
  .rename_i x y t t2 hts;obtain ⟨u,v,e,hu,hv2⟩:=nR hv;obtain ⟨ox,oy,rfl,rfl,rfl⟩:=agd e;obtain rfl:=W6 hts
   grind [kO.er, SF]
  grind
 grind
theorem GU:∀ {args:List SV} {us:List Value} {s:Ov} {g:World} {k:List SV->Ov->Prop},dm n W F b E g w s a->bm E g args us->vN b args s k->∃ g' s' args',bt g g'/\dm n W F b E g' w s' a/\bm E g' args' us/\k args' s'
 | [],us,s,g,k,S,hv,h=>⟨g,s,[],bt.refl g,S,hv,h⟩
 | v::r,us,s,g,k,S,⟨u,q,e,h1,h2⟩,h=>by
  subst e;have more:∀ {v':SV} {g1:World} {s1:Ov},bt g g1->dm n W F b E g1 w s1 a->df E g1 v' u->(vN b r s1 λr' s'=>k (v'::r') s')->∃ g' s' args',bt g g'/\dm n W F b E g' w s' a/\bm E g' args' (u::q)/\k args' s':=λ{v' g1 s1} m1 S1 hu h=>by
   have h2':bm E g1 r q:=by
    have key:∀ {l:List SV} {us:List Value},bm E g l us->bm E g1 l us:=by
     intro l
     induction l with
     | nil=>intro us h;exact h
     | cons c l ih=>
      rintro us ⟨u,r,e,h1,h2⟩;exact ⟨u,r,e,h1.mono (bu.refl E) m1,ih h2⟩
    exact key h2
   obtain ⟨g2,s2,r',m2,S2,hr,hk⟩:=GU S1 h2' h;exact ⟨g2,s2,v'::r',m1.trans m2,S2,⟨u,q,rfl,hu.mono (bu.refl E) m2,hr⟩,hk⟩
  unfold vN at h;split at h
  .rename_i c;have hc:bp E g [c] [u]:=⟨u,[],rfl,h1,rfl⟩;obtain ⟨g1,s1,cs,m1,S1,zb,h⟩:=gN S hc h;split at h
   .rename_i c';obtain ⟨u',q',e',h3,h4⟩:=zb;obtain rfl:u=u':=(List.cons.inj e').1;exact more m1 S1 (v':=.v (.c c')) h3 h
   .cases h
  .obtain ⟨us,hu,rfl⟩:=h1;obtain ⟨g1,s1,cs,m1,S1,zb,h⟩:=gN S hu h;exact more m1 S1 (v':=.v (.agg cs)) ⟨us,zb,rfl⟩ h
  .exact more (bt.refl g) S h1 h
theorem YI (jV:js W X.P X.ct) (S:dm n W F b E g w s a) {c:Call} (ho:o.op= .call c) (h:BQ X b s c K):kO X.P o a w (Out n W F b E g a K):=by
 unfold BQ at h;split at h;cases h
 .rename_i args ha;split at h
  .rename_i fo hc;obtain ⟨q,hq,h⟩:=dO h;split at h
   .rename_i f caps;obtain ⟨hk,h⟩:=di h;obtain ⟨us,h1,h2⟩:=S.fm hq;refine .inr (.inr ⟨f,_,Y5 ho hc h2 hk,?_⟩);have hv:=bm.app (tV S ha) (Cn h1);have e:(c.args.map a.eval++us.toArray)=(List.map a.eval c.args.toList++us).toArray:=by simp
    rw [e];split at h
    .obtain ⟨g1,s1,args',m1,S1,hv1,h⟩:=GU S hv h;have:=tP (P:=X.P) jV.look S1 hv1 h;exact this.mono λv w' ⟨E',g',s',sv,q1,q2,q3⟩=>⟨E',g',s',sv,q1,m1.trans q2,q3⟩
    .split at h
     .exact Gi (P:=X.P) jV.look S hv h
     .exact tP (P:=X.P) jV.look S hv h
   .cases h
  .grind [LW]
  .rename_i ro name hc;obtain ⟨q,hq,h⟩:=dO h;split at h
   .rename_i t r;split at h
    .rename_i f hf;obtain ⟨hk,h⟩:=di h;obtain ⟨u,h1,h2⟩:=S.fm hq;refine .inr (.inr ⟨f,_,Ph ho hc h2 hf hk,?_⟩);have hv:bm E g (.v (.c r)::args) (u::List.map a.eval c.args.toList):=⟨u,_,rfl,h1,tV S ha⟩;have e:(#[u]++c.args.map a.eval)=(u::List.map a.eval c.args.toList).toArray:=by simp
     rw [e];split at h;exact Gi (P:=X.P) jV.look S hv h;exact tP (P:=X.P) jV.look S hv h
    .cases h
   .cases h
theorem VJ {g':World} {u:S1} {cs:List Cl} {v:Value} (r:gv E g u v) (h:bp E g' cs v.cells.toList):gv E g' (Zc u cs) v:=by
 cases u with
 | c x=>
  have hr:cq E g x v:=r;rw [nS hr.one] at h
  match cs,h with
  | [d],⟨u',q,e1,h1,h2⟩=>
   obtain ⟨rfl,_⟩:=List.cons.inj e1;exact h1
  | [],h=>trivial
  | _::_::_,⟨_,_,e1,_,_,_,e2,_⟩=>
   grind
 | agg l=>
  obtain ⟨us,h1,rfl⟩:=r;have hc:(Value.agg us.toArray).cells.toList=us:=by rfl
  have:Zc (.agg l) cs= .agg cs:=rfl;exact ⟨us,h,rfl⟩
theorem SY {c:Cl} {l:Nat} {kt tR:TypeId} {e:Ty} {M:List (Int×Nat×e.den)} (h:aeF b s c=some (l,⟨kt,tR,e,M⟩)):c= .m l/\b.obj s l= .ab (.pm kt tR e M):=by
 unfold aeF at h
 grind
theorem YG (jV:js W X.P X.ct) (S:dm n W F b E g w s a) (h:LV X b s o K):kO X.P o a w (Out n W F b E g a K):=by
 unfold LV at h;split at h
 .rename_i x ho;obtain ⟨v,hv,h⟩:=fF h;exact kO.val (by simp [execOp,ho]) (Out.here S (S.fm hv) h)
 .rename_i x ho;obtain ⟨v,hv,h⟩:=fF h;exact kO.val (by simp [execOp,ho]) (Out.here S (S.fm hv) h)
 .rename_i c x y ho;obtain ⟨q,hq,h⟩:=dO h;obtain ⟨v,hv,h⟩:=fF h;obtain ⟨u,hu,h⟩:=fF h;split at h
  .rename_i z;obtain ⟨hz,_⟩:=S.fm hq;rcases tA h with ⟨e,h⟩| ⟨e,h⟩<;>subst e
   .exact kO.val (v:=a.eval x) (by simp [execOp,ho,hz,asBool]) (Out.here S (S.fm hv) h)
   .exact kO.val (v:=a.eval y) (by simp [execOp,ho,hz,asBool]) (Out.here S (S.fm hu) h)
  .cases h
 .rename_i op t x y yt ho;obtain ⟨v,hv,h⟩:=fF h;obtain ⟨u,hu,h⟩:=fF h;exact kO.er S (ER.of (m:=(do eqGuard op t x y (a.eval x) (a.eval y);binOp op t (a.eval x) (a.eval y))) (by simp [execOp,ho]) (Mt S (S.fm hv) (S.fm hu) h))
 .rename_i op t x ho;obtain ⟨v,hv,h⟩:=fF h;exact kO.er S (ER.of (m:=Op.unary op (a.eval x)) (by simp [execOp,ho]) (SE (S.fm hv) h))
 .rename_i x i ho;obtain ⟨v,hv,h⟩:=fF h;split at h
  .split at h
   .rename_i l c hc;obtain ⟨us,h1,h2⟩:=S.fm hv;obtain ⟨u,h3,h4⟩:=h1.get hc;exact kO.val (v:=u) (by simp [execOp,ho,h2,Instr.extract,h3]) (Out.here S (sv:=.v c) h4 h)
   .cases h
  .cases h
 .rename_i t x j ho;obtain ⟨v,hv,h⟩:=fF h;split at h
  .split at h
   .rename_i f hf;split at h
    .rename_i r hr;exact kO.er S (Gg ho (S.fm hv) hf hr h)
    .cases h
   .cases h
  .cases h
 .rename_i t x ho;obtain ⟨c,hc,h⟩:=dO h;exact kO.er S (ER.of (m:=Instr.loadAt t (a.eval x)) (by simp [execOp,ho]) (yb S (S.fm hc) h))
 .rename_i t x y ho;obtain ⟨c,hc,h⟩:=dO h;obtain ⟨u,hu,h⟩:=fF h;split at h
  .rename_i uu;have xL:BW X.P b s t c uu (λs'=>K .tO s')->kO X.P o a w (Out n W F b E g a K):=λh=>by
    obtain ⟨w',s',h1,h2,h3⟩:=Cf S ho (S.fm hc) (S.fm hu) h;exact .inr (.inl ⟨w',h1,E,g,s',.tO,bu.refl E,bt.refl g,h2,jo,h3⟩)
   split at h
   .split at h
    .obtain ⟨w',s',h1,h2,h3⟩:=Ml S ho (S.fm hc) (S.fm hu) h;exact .inr (.inl ⟨w',h1,E,g,s',.tO,bu.refl E,bt.refl g,h2,jo,h3⟩)
    obtain ⟨g1,s1,cs,m1,S2,zb,h9⟩:=gN S (gv.cells (S.fm hu)) h;obtain ⟨w',s',h1,h2,h3⟩:=Cf S2 ho (cq.mono (bu.refl E) m1 (S.fm hc)) (VJ (S.fm hu) zb) h9;exact .inr (.inl ⟨w',h1,E,g1,s',.tO,bu.refl E,m1,h2,jo,h3⟩)
   .exact xL h
  .obtain ⟨w',s',h1,h2,h3⟩:=Ii S ho (S.fm hc) (S.fm hu) h;exact .inr (.inl ⟨w',h1,E,g,s',.tO,bu.refl E,bt.refl g,h2,jo,h3⟩)
  .cases h
 .rename_i t ho;split at h
  .rename_i z hz;split at h
   .rename_i ha;obtain ⟨hz2,h⟩:=di h;exact kO.ex (Mz S ho hz ha hz2 h)
   .exact kO.ex (VC S ho hz h)
  .cases h
 .rename_i t x ho;obtain ⟨v,hv,h⟩:=fF h;split at h
  .exact kO.ex (aew S ho (S.fm hv) h)
  .split at h
   .rename_i ha;have h9:=di h;clear h;obtain ⟨hk,hl,h⟩:=h9;have hk:=IntKind.eq_of_beq hk;subst hk;exact kO.ex (VB S ho (S.fm hv) ha hl h)
   .cases h
  .cases h
 .rename_i x ho;obtain ⟨c,hc,h⟩:=dO h;have r:=S.fm hc;have key:∀ q:Addr,a.eval x= .pointer (some q)->(execOp a.eval o).run X.P w= .ok (.value (a.eval x)) w:=λq hq=>by simp [execOp,ho,hq]
  split at h
  .obtain ⟨bb,h1,h2⟩:=r;exact kO.val (key _ h2) (Out.here S (S.fm hc) h)
  .obtain ⟨h0,v,h1,h2⟩:=r;obtain ⟨cs,h3,_⟩:=As h1 h0.1 h0.2.1;obtain ⟨q,hq,_⟩:=h3 g (bt.refl g);rw [hq] at h2;exact kO.val (key _ h2) (Out.here S (S.fm hc) h)
  .obtain ⟨v,h1,h2,q,hq⟩:=r;exact kO.val (key _ hq) (Out.here S (S.fm hc) h)
  exact kO.val (key _ r.2.1) (Out.here S (S.fm hc) h);cases h
 .rename_i t x j ho;obtain ⟨c,hc,h⟩:=dO h;split at h
  .rename_i f hf;split at h
   .rename_i ie mD;obtain ⟨hs,h⟩:=di h;split at h
    .rename_i c' NF;obtain ⟨v,h1,h2⟩:=Gj (w:=w) ho (S.fm hc) hf mD hs NF;exact kO.val h1 (Out.here S (sv:=.c c') h2 h)
    .cases h
   .cases h
  .cases h
 .rename_i t x i ho;obtain ⟨c,hc,h⟩:=dO h;obtain ⟨q,hq,h⟩:=dO h;split at h
  exact kO.er S (su S ho (S.fm hc) (iv (S.fm hq)).1 h);cases h
 .rename_i t x i ho;obtain ⟨c,hc,h⟩:=dO h;obtain ⟨q,hq,h⟩:=dO h;split at h
  .obtain ⟨h0,h1,h⟩:=h;exact kO.er S (Gf ho (by assumption) (S.fm hc).1 (S.fm hq).1 h0 h1 h)
  .cases h
 .rename_i t x lo hi ho;obtain ⟨c,hc,h⟩:=dO h;obtain ⟨l,h,hl⟩:=tU S h;obtain ⟨m,h,hm⟩:=tU S h;split at h
  .rename_i i j r9 Ey;exact kO.er S (Cg S ho (S.fm hc) (hl _ r9) (hm _ Ey) h)
  .cases h
 .rename_i t x lo hi y ho;obtain ⟨c,hc,h⟩:=dO h;obtain ⟨l,h,hl⟩:=tU S h;obtain ⟨m,h,hm⟩:=tU S h;obtain ⟨q,hq,h⟩:=dO h;split at h
  .rename_i i j m r9 Ey;exact kO.er S (Mk ho (S.fm hc) (hl _ r9) (hm _ Ey) (iv (S.fm hq)).1 S.m h)
  .cases h
 .rename_i t x ho;obtain ⟨c,hc,h⟩:=dO h;exact kO.er S (Mw ho (S.fm hc) h)
 .rename_i t ps ho;split at h
  .rename_i l hl;exact kO.er S (Ck ho (tT S hl) h)
  .cases h
 .rename_i t m ps ho;split at h
  .rename_i l hl;exact kO.ex (AD S ho (tT S hl) h)
  .cases h
 .rename_i src dst x ho;obtain ⟨v,hv,h⟩:=fF h;exact kO.ex (Vw S ho (S.fm hv) h)
 .rename_i f first captured ho
  obtain ⟨hf,h⟩:=di h;split at h
  .rename_i l hl;split at h
   .rename_i cs zb;have r:=Hh zb (tV S hl);have hf':first= #[]:=Array.isEmpty_iff.1 hf
    refine kO.val (v:=.func (.func f) #[] (captured.toList.map a.eval).toArray) ?_ (Out.here S (sv:=.c (.fn f cs)) ⟨_,r,rfl⟩ h);subst hf';have e:captured.map a.eval=(captured.toList.map a.eval).toArray:=by
     apply Array.ext';simp
    simp [execOp,ho,Instr.makeFunc,e]
   .cases h
  .cases h
 .rename_i t x ho;obtain ⟨c,hc,h⟩:=dO h;exact kO.er S (Pj ho (S.fm hc) h)
 .rename_i x t0 t ho;obtain ⟨c,hc,h⟩:=dO h;exact kO.er S (Mu ho (S.fm hc) h)
 .rename_i x t0 t ho;obtain ⟨c,hc,h⟩:=dO h;exact kO.er S (Mv ho (S.fm hc) h)
 .rename_i t ho;exact kO.ex (Ic S ho h)
 .rename_i t x y c ho;have h':=dO h;clear h;obtain ⟨mx,hx,h'⟩:=h';have h:=fF h';clear h';obtain ⟨ky,hy,h⟩:=h;split at h
  .split at h
   .rename_i l kt tR e M hpm;obtain ⟨rfl,eE⟩:=SY hpm;split at h
    .rename_i hc;subst hc;exact kO.ex (Pf S ho (S.fm hx) (S.fm hy) eE h)
    .cases h
   .exact kO.er S (Mm S ho (S.fm hx) (S.fm hy) h)
  .split at h
   .cases h
   .rename_i hc;have hc:c=false:=by simpa using hc
    subst hc;exact kO.ex (Pm S ho (S.fm hx) (S.fm hy) h)
  .cases h
 .rename_i t x y z ho;have h':=dO h;clear h;obtain ⟨mx,hx,h'⟩:=h';have h:=dO h';clear h';obtain ⟨ky,hy,h⟩:=h;have h':=fF h;clear h;obtain ⟨u,hu,h⟩:=h';split at h
  .split at h
   .rename_i l kt tR e M hpm;obtain ⟨rfl,eE⟩:=SY hpm;obtain ⟨w',h1,g',s',h2,h3,h4⟩:=Vs (o:=o) S (λmv kv vv w' e1 e2 e3 hr=>by simp [execOp,ho,e1,e2,e3,hr]) (S.fm hx) (S.fm hy) (S.fm hu) eE h;exact .inr (.inl ⟨w',h1,E,g',s',.tO,bu.refl E,h2,h3,jo,h4⟩)
   .obtain ⟨w',h1,g',s',h2,h3,h4⟩:=zW S ho (S.fm hx) (S.fm hy) (S.fm hu) h;exact .inr (.inl ⟨w',h1,E,g',s',.tO,bu.refl E,h2,h3,jo,h4⟩)
  .cases h
 .rename_i t x ho;obtain ⟨c,hc,h⟩:=dO h;exact kO.ex (Pe S ho (S.fm hc) h)
 .rename_i x ho;obtain ⟨c,hc,h⟩:=dO h;exact kO.ex (Vt S ho (S.fm hc) h)
 .rename_i x ho;obtain ⟨c,hc,h⟩:=dO h;exact kO.ex (Vu S ho (S.fm hc) h)
 .rename_i x ho;obtain ⟨c,hc,h⟩:=dO h;exact kO.er S (Pk S ho (S.fm hc) h)
 .rename_i t x y ho;obtain ⟨c,hc,h⟩:=dO h;obtain ⟨d,hd,h⟩:=dO h;exact kO.ex (Ch S ho (S.fm hc) (S.fm hd) h)
 .rename_i t x y ho;obtain ⟨c,hc,h⟩:=dO h;obtain ⟨d,hd,h⟩:=fF h;split at h
  exact kO.ex (VA S ho (S.fm hc) (S.fm hd) h);cases h
 .rename_i t x y z ho;obtain ⟨mx,hx,h⟩:=dO h;obtain ⟨ky,hy,h⟩:=dO h;obtain ⟨u,hu,h⟩:=fF h;split at h
  .split at h
   .obtain ⟨w',h1,g',s',h2,h3,h4⟩:=Vz S ho (S.fm hx) (S.fm hy) (S.fm hu) h;exact .inr (.inl ⟨w',h1,E,g',s',.tO,bu.refl E,h2,h3,jo,h4⟩)
   .cases h
  .cases h
 .rename_i t x y z ho;obtain ⟨mx,hx,h⟩:=dO h;obtain ⟨ky,hy,h⟩:=dO h;obtain ⟨u,hu,h⟩:=fF h;split at h
  .obtain ⟨w',h1,g',s',h2,h3,h4⟩:=Mq S ho (S.fm hx) (S.fm hy) (S.fm hu) h;exact .inr (.inl ⟨w',h1,E,g',s',.tO,bu.refl E,h2,h3,jo,h4⟩)
  .cases h
 .rename_i c ho;exact YI jV S ho h
 .cases h
end
abbrev Ei (ro:Option Nat):Fence:= {fn:=λ_=>True,depth:=none,alive:=false,round:=ro}
theorem QO {ro:Option Nat} {m:Nat} {P:Program} {f:FuncId} {args:Array Value} {w:World} {R:Ending->World->Prop} (h:Calls P f args w R):CallsIn (Ei ro) m P f args w R:=(callsIn_wide (n:=m)).2 h
theorem wT {ρ:Operand->Value} {o:Oper} {P:Program} {w w':World} {nx:Next} (h:(execOp ρ o).run P w= .ok nx w') (hn:∀ d,nx≠ .defer d):∀ c,o.op≠ .defer c:=λc hc=>by
 unfold execOp at h;rw [hc] at h;simp only [Sem.run_bind] at h;cases hr:(resolve ρ c o.type).run P w with
 | ok d w1=>
  rw [hr] at h;have h:Result.ok (Next.defer d) w1= .ok nx w':=h
  grind
 | halt=>simp_all
theorem Xx {F:Fence} {m:Nat} {P:Program} {ops:Array Oper} {Q:Exit->Act->World->Prop} {o:Oper} {rest:List Oper} {a:Act} {w:World} (hw:Region.wanted o (yielded ops a.tmps)=true) (h:∀ K:Act->World->Prop,(∀ a w,wpListIn F m P ops Q rest a w->K a w)->o.wpIn F m P a w K Q):wpListIn F m P ops Q (o::rest) a w:=by
 grind [wpListIn]
theorem Xw {ro:Option Nat} {m:Nat} {P:Program} {ops:Array Oper} {Q:Exit->Act->World->Prop} {o:Oper} {rest:List Oper} {a:Act} {w:World} (hw:Region.wanted o (yielded ops a.tmps)=false) (h:wpListIn (Ei ro) m P ops Q rest (a.put o.dst undef) w):wpListIn (Ei ro) m P ops Q (o::rest) a w:=by
 grind [wpListIn]
section
variable {X:Vx} {n:Nat} {W:cX} {F:List Atom} {b:Bs} {E:Env} {g w:World} {s:Ov} {a:Act} {o:Oper}
theorem mr {t d:Nat} {v:SV}:b.slot (s.put (some d) v) t=if d=t then some v else b.slot s t:=by
 unfold Bs.slot Ov.put;simp only [gh];by_cases e:d=t
 .simp_all
 grind [jk]
theorem dm.told (S:dm n W F b E g w s a) {d:Nat} {v:SV} (h:df E g v (a.tmps.getD d undef)):dm n W F b E g w (s.put (some d) v) a:=by
 refine ⟨S.size,S.defers,λt u hu=>?_,S.sat,S.top⟩;rw [mr] at hu;by_cases e:d=t
 .grind
 .rw [if_neg e] at hu;exact S.fr t u hu
theorem dm.put (S:dm n W F b E g w s a) {d:Option Nat} {v:SV} {u:Value} (hd:(match d with| some d=>gP d n| none=>true)=true) (h:df E g v u):dm n W F b E g w (s.put d v) (a.put d u):=by
 cases d with
 | none=>exact S
 | some d=>
  have hd':d< n:=by simp_all
  refine ⟨by simp [Act.put,S.size],S.defers,λt x hx=>?_,S.sat,S.top⟩;rw [mr] at hx;by_cases e:d=t
  .subst e;rw [if_pos rfl] at hx;obtain rfl:=aj hx;simpa [Act.put,S.size,hd'] using h
  .rw [if_neg e] at hx;have:=S.fr t x hx;simp_all [Act.put]
theorem Xy {ops:Array Oper} {K:Bool->Ov->Prop} (S:dm n W F b E g w s a) (h:EN ops b s o K):∃ q s',Region.wanted o (yielded ops a.tmps)=q/\dm n W F b E g w s' a/\K q s':=by
 unfold EN at h;split at h
 .grind [Region.wanted]
 .rename_i j wt hg;split at h
  .grind
  .rename_i d hd;split at h
   .rename_i v hv;obtain ⟨hx,_⟩:=S.fr d _ hv;have hw:Region.wanted o (yielded ops a.tmps)=(v==wt):=by
     unfold Region.wanted;rw [hg];simp only;unfold yielded;have:(a.tmps[d]?).getD undef= .bool v:=by simp_all
     grind [undef]
    rcases tA h with ⟨e,h⟩| ⟨e,h⟩<;>subst e;exact ⟨_,_,hw,S.told (by trivial),h⟩;exact ⟨_,_,hw,S.told (by trivial),h⟩
   .rename_i l hv;obtain ⟨us,_,hx⟩:=S.fr d _ hv;have hw:Region.wanted o (yielded ops a.tmps)=false:=by
     unfold Region.wanted;rw [hg];simp only;unfold yielded;have:(a.tmps[d]?).getD undef= .tuple us.toArray:=by simp_all
     grind
    grind
   grind
def Step (n:Nat) (W:cX) (F:List Atom) (b:Bs) (E:Env) (g:World) (K:Ov->Prop) (a':Act) (w':World):Prop:=∃ E' g' s',bu E E'/\bt g g'/\dm n W F b E' g' w' s' a'/\K s'
theorem kO.wpIn {P:Program} {R:Value->World->Prop} {K:Act->World->Prop} {Q:Exit->Act->World->Prop} (h:kO P o a w R) (k:∀ v w',R v w'->K (a.put o.dst v) w') {ro:Option Nat} {m:Nat}:o.wpIn (Ei ro) m P a w K Q:=by
 refine ⟨by grind,?_⟩;rcases h with ⟨v,w',hr,h⟩| ⟨w',hr,h⟩| ⟨f,args,hr,h⟩;rw [Oper.semAt_eq _ _ _ (wT hr λd e=>by cases e),hr];exact k v w' h;rw [Oper.semAt_eq _ _ _ (wT hr λd e=>by cases e),hr];exact k undef w' h
 .rw [Oper.semAt_eq _ _ _ (wT hr λd e=>by cases e),hr];refine ⟨by grind,QO (Calls.mono h ?_)⟩
  grind
theorem aee (jV:js W X.P X.ct) {ops:Array Oper} {K:Ov->Prop} (S:dm n W F b E g w s a) (h:Vb X n ops b s o K):
  (Region.wanted o (yielded ops a.tmps)=true/\kO X.P o a w λv w'=>Step n W F b E g K (a.put o.dst v) w')\/(Region.wanted o (yielded ops a.tmps)=false/\Step n W F b E g K (a.put o.dst undef) w):=by
 obtain ⟨hd,h⟩:=di h;obtain ⟨q,s',hq,S',h⟩:=Xy S h;cases q with
 | true=>
  refine .inl ⟨hq,?_⟩;have hr:=YG jV S' h;have key:∀ v w',Out n W F b E g a (λv s'=>K (s'.put o.dst v)) v w'->Step n W F b E g K (a.put o.dst v) w':=λv w' ⟨E',g',s2,sv,he,hm,S2,r,hk⟩=>⟨E',g',_,he,hm,S2.put hd r,hk⟩;rcases hr with ⟨v,w',hr,h⟩| ⟨w',hr,h⟩| ⟨f,args,hr,h⟩;exact .inl ⟨v,w',hr,key v w' h⟩;exact .inr (.inl ⟨w',hr,key undef w' h⟩);exact .inr (.inr ⟨f,args,hr,h.mono key⟩)
 | false=>exact .inr ⟨hq,E,g,_,bu.refl E,bt.refl g,S'.put hd jo,h⟩
theorem HV (jV:js W X.P X.ct) {ro:Option Nat} {m:Nat} {ops:Array Oper} {Q:Exit->Act->World->Prop}:∀ {rest:List Oper} {s:Ov} {E:Env} {g w:World} {a:Act} {K:Ov->Prop},dm n W F b E g w s a->aiW X n ops b rest s K->
  (∀ a' w',Step n W F b E g K a' w'->Q .normal a' w')->wpListIn (Ei ro) m X.P ops Q rest a w
 | [],s,E,g,w,a,K,S,h,k=>wpListIn_nil (k a w ⟨E,g,s,bu.refl E,bt.refl g,S,h⟩)
 | o::rest,s,E,g,w,a,K,S,h,k=>by
  rcases aee jV S h with ⟨hq,hr⟩| ⟨hq,hr⟩;refine Xx hq λK' hK=>hr.wpIn λv w' ⟨E',g',s',he,hm,S',h'⟩=>hK _ _ (HV jV S' h' λa2 w2 ⟨E2,g2,s2,he2,hm2,S2,h2⟩=>k _ _ ⟨E2,g2,s2,he.trans he2,hm.trans hm2,S2,h2⟩)
  .obtain ⟨E',g',s',he,hm,S',h'⟩:=hr;exact Xw hq (HV jV S' h' λa2 w2 ⟨E2,g2,s2,he2,hm2,S2,h2⟩=>k _ _ ⟨E2,g2,s2,he.trans he2,hm.trans hm2,S2,h2⟩)
end
def tD (ops:Array Oper) (i j:Nat):Prop:=∃ f,reach ops f i j=true
def aov (ops:Array Oper) (dn:List Nat) (listed:Array Bool) (a c:Act):Prop:=∀ t,(∀ (i:Nat) (o:Oper),i∈dn->ops[i]?=some o->o.dst=some t->listed.getD i false=true)->a.tmps.getD t undef=c.tmps.getD t undef
structure D6 (D:List Deferred) (ops:Array Oper) (n:Nat) (Ord:List Nat->Prop) (pu:Nat->Bool) (T:List Nat->List Nat->Act->World->Prop) (listed:Array Bool) (a:Act) (w:World) (dn rest:List Nat) (c:Act):Prop where
 eq:Ord (dn++rest)
 Nd:listed.size=ops.size
 closed:∀ (j:Nat) (o:Oper),ops[j]?=some o->listed.getD j false=true->∀ e∈o.after,Region.binds .any e=true->listed.getD e.on false=true
 size:a.tmps.size=n
 defers:a.defers=D
 t:T dn rest c w
 agree:aov ops dn listed a c
 kept:∀ i∈dn,pu i=false->listed.getD i false=true
 xL:∀ i,listed.getD i false=true->i∈dn
section
variable {P:Program} {ops:Array Oper} {n:Nat} {Q:Exit->Act->World->Prop}
theorem tC {a:Act} {d:Option Nat} {v:Value} {t:Nat} (h:d≠some t):(a.put d v).tmps.getD t undef=a.tmps.getD t undef:=by
 cases d with
 | none=>rfl
 | some d=>
  simp_all [Act.put]
theorem DZ {a:Act} {d:Nat} {v:Value} (h:d< a.tmps.size):(a.put (some d) v).tmps.getD d undef=v:=by simp [Act.put,h]
theorem EB {listed:Array Bool} {i:Nat} (h:i< listed.size):(listed.setIfInBounds i true).getD i false=true:=by simp_all
theorem OD {o:Oper} {a c:Act} (hs:Tc o=true) (h:∀ t∈slotsOf ops o,a.tmps.getD t undef=c.tmps.getD t undef) (ha:a.tmps.size=n) (hc:c.tmps.size=n):
  execOp a.eval o=execOp c.eval o/\Region.wanted o (yielded ops a.tmps)=Region.wanted o (yielded ops c.tmps):=by
 refine ⟨execOp_congr o (by grind [Tc]) λx hx=>?_,?_⟩
 .cases x with
  | tmp t=>exact h t (cj _ (List.mem_filterMap.2 ⟨.tmp t,by grind,rfl⟩))
  | const _=>rfl
  | global _=>rfl
  | func _=>rfl
 .unfold Region.wanted;cases hg:o.guard with
  | none=>rfl
  | some gq=>
   obtain ⟨gi,want⟩:=gq;have:yielded ops a.tmps gi=yielded ops c.tmps gi:=by
    unfold yielded;cases hgo:(ops[gi]?).bind (·.dst) with
    | none=>rfl
    | some d=>
     have hm:d∈slotsOf ops o:=by
      grind [slotsOf]
     have:=h d hm;by_cases hd:d< n
     .simp_all
     grind
   grind
set_option maxHeartbeats 1000000 in
theorem ahm {ro:Option Nat} {m:Nat} {D:List Deferred} {Ord:List Nat->Prop} {pu:Nat->Bool} {T:List Nat->List Nat->Act->World->Prop} (hE:JM ops=true) (hD:QC ops n=true) (hnd:∀ ord,Ord ord->ord.Nodup) (Ew:∀ ord,Ord ord->∀ i,i∈ord↔i< ops.size)
  (h5:∀ dn rest c w i,T dn rest c w->Ord (dn++rest)->i∈rest->(∀ j,tD ops i j->pu j=false->j∈dn)->∃ r1 r2,Ord (dn++(r1++i::r2))/\T dn (r1++i::r2) c w/\∀ j∈r1,pu j=true)
  (hB:∀ (i k:Nat) (oi ok:Oper) (d:Nat),ops[i]?=some oi->ops[k]?=some ok->ok.dst=some d->d∈slotsOf ops oi->tD ops i k\/pu k=false)
  (mC:∀ dn rest c w,T dn rest c w->c.tmps.size=n/\c.defers=D)
  (h1:∀ dn rest c w i o,T dn rest c w->i∈dn->pu i=true->ops[i]?=some o->(∀ j∈dn,pu j=false->¬tD ops j i)->∃ v,(Region.wanted o (yielded ops c.tmps)=true->(execOp c.eval o).run P w= .ok (.value v) w)/\(Region.wanted o (yielded ops c.tmps)=false->v=undef)/\T dn rest (c.put o.dst v) w)
  (h2:∀ dn i rest c w o,T dn (i::rest) c w->pu i=true->ops[i]?=some o->∃ v,T (dn++ [i]) rest (c.put o.dst v) w)
  (h3:∀ dn i rest c w o,T dn (i::rest) c w->pu i=false->ops[i]?=some o->(Region.wanted o (yielded ops c.tmps)=true/\kO P o c w λv w'=>T (dn++ [i]) rest (c.put o.dst v) w')\/(Region.wanted o (yielded ops c.tmps)=false/\T (dn++ [i]) rest (c.put o.dst undef) w))
  (h4:∀ dn c w,T dn [] c w->Q .normal c w):
  ∀ (fuel:Nat) (listed:Array Bool) (a:Act) (w:World) (dn rest:List Nat) (c:Act),D6 D ops n Ord pu T listed a w dn rest c->((bL ops.size).filter λi=> !listed.getD i true).length<=fuel->wpAnyIn (Ei ro) m P .any ops Q fuel listed a w:=by
 have edges:∀ (i:Nat) (o:Oper),ops[i]?=some o->∀ e∈o.after,Region.binds .any e=true->e.on< i:=λi o ho e he hb=>by
  have hi:i< ops.size:=(aN.1 ho).1;have h1:=bn.1 hE i (dJ.2 hi);simp only [ho,ak] at h1;have h2:=(Array.all_eq_true_iff_forall_mem.1 h1.1) e he;simpa [hb] using h2
 have sel:∀ (i:Nat) (o:Oper),ops[i]?=some o->Tc o=true:=λi o ho=>by
  have hi:i< ops.size:=(aN.1 ho).1;have h1:=bn.1 hE i (dJ.2 hi);simp only [ho,ak] at h1;exact h1.2
 have dlt:∀ (i:Nat) (o:Oper) (d:Tmp),ops[i]?=some o->o.dst=some d->d< n:=λi o d ho hd=>by
  have hi:i< ops.size:=(aN.1 ho).1;have h1:=bn.1 hD i (dJ.2 hi);simp only [ho,Option.bind_some,hd,ak] at h1;simpa using h1.1
 have Wo:∀ (i j:Nat) (oi oj:Oper) (d:Tmp),j< i->ops[i]?=some oi->ops[j]?=some oj->oi.dst=some d->oj.dst=some d->False:=λi j oi oj d Km hi hj Qo Wi=>by
  have r9:i< ops.size:=(aN.1 hi).1;have h1:=bn.1 hD i (dJ.2 r9);simp only [hi,Option.bind_some,Qo,ak] at h1;have h2:=bn.1 h1.2 j (dJ.2 Km);simp [hj,Wi] at h2
 have unl:∀ (listed:Array Bool) i,i< listed.size->(listed.getD i true=false↔listed.getD i false=false):=λlisted i hi=>by
  simp [j6,hi]
 have done:∀ {listed:Array Bool} {a:Act} {w:World} {dn rest:List Nat} {c:Act},D6 D ops n Ord pu T listed a w dn rest c->Region.ready .any ops listed= []->∀ i,i< ops.size->listed.getD i false=true:=by
  intro listed a w dn rest c inv hr i
  induction i using Nat.strongRecOn with
  | _ i ih=>
   intro hi;cases hl:listed.getD i false with
   | true=>rfl
   | false=>
    exfalso
    have hu:listed.getD i true=false:=(unl listed i (by rw [inv.Nd];exact hi)).2 hl;have r7:i∈Region.ready .any ops listed:=mem_ready.2 ⟨hu,ops[i],by simp [hi],λe he hb=>by
     have fD:=edges i ops[i] (by simp [hi]) e he hb;exact ih e.on fD (by omega)⟩
    rw [hr] at r7;cases r7
 have fin:∀ {listed:Array Bool} {a:Act} {w:World} {dn rest:List Nat} {c:Act},D6 D ops n Ord pu T listed a w dn rest c->Region.ready .any ops listed= []->Q .normal a w:=λ{listed a w dn rest c} inv hr=>by
  have jC:=done inv hr;have anb:rest= []:=by
   cases rest with
   | nil=>rfl
   | cons i r=>
    exfalso
    have hi:i∈dn++i::r:=by simp
    have h5:=inv.xL i (jC i ((Ew _ inv.eq i).1 hi));have:=hnd _ inv.eq;rw [gx] at this;exact this.2.2 i h5 i (by simp) rfl
  have ht:=inv.t;rw [anb] at ht;have hs:=mC _ _ _ _ ht;have e:a=c:=Act.ext' (λt=>by
   have:=inv.agree t λi o _ ho _=>jC i (aN.1 ho).1;by_cases hd:t< n
   .have h1:t< a.tmps.size:=by rw [inv.size];exact hd
    have h2:t< c.tmps.size:=by rw [hs.1];exact hd
    simp only [j6,eF h1,eF h2,Option.getD_some] at this;rw [eF h1,eF h2,this]
   .rw [Array.getElem?_eq_none (by rw [inv.size];omega),Array.getElem?_eq_none (by rw [hs.1];omega)]) (by rw [inv.defers,hs.2])
  rw [e];exact h4 _ _ _ ht
 -- the frame that is told runs ahead
 have adv:∀ {listed:Array Bool} {a:Act} {w:World} (r1:List Nat) {dn r2:List Nat} {c:Act},D6 D ops n Ord pu T listed a w dn (r1++r2) c->(∀ j∈r1,pu j=true/\listed.getD j false=false)->∃ c',D6 D ops n Ord pu T listed a w (dn++r1) r2 c':=by
  intro listed a w r1
  induction r1 with
  | nil=>intro dn r2 c inv _;exact ⟨c,by rw [bd];exact inv⟩
  | cons i r1 ih=>
   intro dn r2 c inv hp;obtain ⟨uf,hli⟩:=hp i (by simp);have hi:i< ops.size:=(Ew _ inv.eq i).1 (by simp);obtain ⟨v,hv⟩:=h2 dn i (r1++r2) c w ops[i] inv.t uf (by simp [hi]);have lJ:D6 D ops n Ord pu T listed a w (dn++ [i]) (r1++r2) (c.put ops[i].dst v):=by
    refine ⟨by have:=inv.eq;simpa using this,inv.Nd,inv.closed,inv.size,inv.defers,hv,λt ht=>?_,λj hj JC=>?_,λj hj=>cj _ (inv.xL j hj)⟩
    .have jb:ops[i].dst≠some t:=λe=>by
      have:=ht i ops[i] (by simp) (by simp [hi]) e;rw [hli] at this;cases this
     rw [tC jb];exact inv.agree t λk o hk=>ht k o (cj _ hk)
    .rcases aX.1 hj with hj| hj
     .exact inv.kept j hj JC
     .have:j=i:=by simpa using hj
      subst this;rw [uf] at JC;cases JC
   obtain ⟨c',NF⟩:=ih lJ λj hj=>hp j (aF _ hj);refine ⟨c',?_⟩;rw [aL] at NF;exact NF
 intro fuel
 induction fuel with
 | zero=>
  intro listed a w dn rest c inv hc;have hr:Region.ready .any ops listed= []:=by
   cases hr:Region.ready .any ops listed with
   | nil=>rfl
   | cons i r=>
    exfalso
    have r7:i∈Region.ready .any ops listed:=by rw [hr];simp
    obtain ⟨hu,o,ho,_⟩:=mem_ready.1 r7;have:i∈(bL ops.size).filter λi=> !listed.getD i true:=gk.2 ⟨dJ.2 (aN.1 ho).1,by simp [hu]⟩;have:=List.length_pos_of_mem this;omega
  exact ⟨hr,fin inv hr⟩
 | succ fuel ih=>
  intro listed a w dn rest c inv hc;refine ⟨fin inv,λi hi=>?_⟩;obtain ⟨hu,o,ho,ag1⟩:=mem_ready.1 hi;have fD:i< ops.size:=(aN.1 ho).1;have Di:i< listed.size:=by rw [inv.Nd];exact fD
  have hul:listed.getD i false=false:=(unl listed i Di).1 hu;have aat:((bL ops.size).filter λk=> !(listed.setIfInBounds i true).getD k true).length<=fuel:=by
   have:=filter_lt (p:=λk=> !listed.getD k true) (q:=λk=> !(listed.setIfInBounds i true).getD k true) (bL ops.size) (λx _ hx=>by
     by_cases hxi:i=x;subst hxi;simpa using hu
     .simpa [getD_set_ne true hxi] using hx) i (dJ.2 fD) (by simp [hu]) (by simp [j6,Di])
   omega
  have set_get:∀ k,(listed.setIfInBounds i true).getD k false=true->k≠i->listed.getD k false=true:=λk hk jb=>by
   rwa [getD_set_ne false (Ne.symm jb)] at hk
  have afz:∀ (j:Nat) (oj:Oper),ops[j]?=some oj->(listed.setIfInBounds i true).getD j false=true->∀ e∈oj.after,Region.binds .any e=true->(listed.setIfInBounds i true).getD e.on false=true:=λj oj hj hlj e he hb=>by
   by_cases Km:j=i
   .subst Km;rw [ho] at hj;obtain rfl:=aj hj;exact getD_set_true (ag1 e he hb)
   .exact getD_set_true (inv.closed j oj hj (set_get j hlj Km) e he hb)
  have waited:∀ k,tD ops i k->listed.getD k false=true:=λk ⟨f,hr⟩=>by
   cases f with
   | zero=>simp [reach] at hr
   | succ f=>
    unfold reach at hr;simp only [ho] at hr;obtain ⟨q,hq,hb⟩:=Array.any_eq_true.1 hr;simp only [ak,lR] at hb;have hl:=ag1 _ (Array.getElem_mem hq) hb.1;rcases hb.2 with he| he;rw [<-ai he];exact hl;exact qG inv.closed f _ _ he hl
  -- what it reads stands in both frames
  have same:∀ {TN sy:List Nat} {c':Act},D6 D ops n Ord pu T listed a w TN sy c'->execOp a.eval o=execOp c'.eval o/\Region.wanted o (yielded ops a.tmps)=Region.wanted o (yielded ops c'.tmps):=λ{TN sy c'} lJ=>
   OD (n:=n) (sel i o ho) (λt ht=>lJ.agree t λk ok Dk hk hdk=>(hB i k o ok t ho hk hdk ht).elim (waited k) (lJ.kept k Dk)) lJ.size (mC _ _ _ _ lJ.t).1
  have next:∀ {TN sy:List Nat} {c':Act} {v:Value} {w':World},D6 D ops n Ord pu T listed a w TN sy c'->∀ (dn'' rest'':List Nat),Ord (dn''++rest'')->i∈dn''->(∀ j,j∈dn''->j∈TN\/j=i)->(∀ j∈TN,j∈dn'')->T dn'' rest'' (c'.put o.dst v) w'->D6 D ops n Ord pu T (listed.setIfInBounds i true) (a.put o.dst v) w' dn'' rest'' (c'.put o.dst v):=λ{TN sy c' v w'} lJ dn'' rest'' he za apC am4 ht=>by
   have zb:=(mC _ _ _ _ lJ.t).1;refine ⟨he,by simp [lJ.Nd],afz,?_,?_,ht,λt aj2=>?_,λj hj JC=>?_,λj hj=>?_⟩;cases hod:o.dst<;>simp [Act.put,lJ.size];cases hod:o.dst<;>simp [Act.put,lJ.defers]
   .by_cases hod:o.dst=some t
    .have hdn:=dlt i o t ho hod;rw [hod,DZ (by rw [lJ.size];exact hdn),DZ (by rw [zb];exact hdn)]
    .rw [tC hod,tC hod];refine lJ.agree t λk ok hk rT hdk=>?_;have hki:k≠i:=λe=>by subst e;rw [ho] at rT;obtain rfl:=aj rT;exact hod hdk
     exact set_get k (aj2 k ok (am4 k hk) rT hdk) hki
   .by_cases Km:j=i
    .subst Km;exact EB Di
    .rcases apC j hj with h| h
     .exact getD_set_true (lJ.kept j h JC)
     .exact absurd h Km
   .by_cases Km:j=i
    .rw [Km];exact za
    .exact am4 j (lJ.xL j (set_get j hj Km))
  have again:pu i=true->∀ {TN sy:List Nat} {c':Act},D6 D ops n Ord pu T listed a w TN sy c'->i∈TN->wpOpIn (Ei ro) m P ops Q i (wpAnyIn (Ei ro) m P .any ops Q fuel (listed.setIfInBounds i true)) a w:=λuf {TN sy c'} lJ za=>by
   obtain ⟨v,hv1,hv2,hv3⟩:=h1 TN sy c' w i o lJ.t za uf ho λj hj JC hw=>by
    have hlj:=lJ.kept j hj JC;obtain ⟨f,hf⟩:=hw;have:=qG lJ.closed f _ _ hf hlj;rw [hul] at this;cases this
   obtain ⟨e1,e2⟩:=same lJ;have go:wpAnyIn (Ei ro) m P .any ops Q fuel (listed.setIfInBounds i true) (a.put o.dst v) w:=
    ih _ _ _ TN sy _ (next lJ TN sy lJ.eq za (λj hj=>.inl hj) (λj hj=>hj) hv3) aat
   unfold wpOpIn;simp only [ho];split
   .rename_i hw;refine ⟨λ_ _=>trivial,?_⟩;have hr:=hv1 (by rw [<-e2];exact hw);rw [<-e1] at hr;rw [Oper.semAt_eq _ _ _ (wT hr λd e=>by cases e),hr];exact go
   .rename_i hw;have:=hv2 (by rw [<-e2];simpa using hw);rw [<-this];exact ⟨λ_ _=>trivial,go⟩
  by_cases za:i∈dn
  .have uf:pu i=true:=by
    cases hp:pu i with
    | true=>rfl
    | false=>
     have:=inv.kept i za hp;rw [hul] at this;cases this
   exact again uf inv za
  .have hir:i∈rest:=by
    have:i∈dn++rest:=(Ew _ inv.eq i).2 fD;rcases aX.1 this with h| h;exact absurd h za;exact h
   obtain ⟨r1,r2,he,hT,Ny⟩:=h5 dn rest c w i inv.t inv.eq hir λj hw _=>inv.xL j (waited j hw);have inv:D6 D ops n Ord pu T listed a w dn (r1++i::r2) c:=⟨he,inv.Nd,inv.closed,inv.size,inv.defers,hT,inv.agree,inv.kept,inv.xL⟩;have anl:=hnd _ inv.eq;rw [gx] at anl;have v7:∀ j∈r1,pu j=true/\listed.getD j false=false:=λj hj=>by
    have hjd:j ∉ dn:=λh=>anl.2.2 j h j (by simp [hj]) rfl;have hlj:listed.getD j false=false:=by
     cases hl:listed.getD j false with
     | false=>rfl
     | true=>exact absurd (inv.xL j hl) hjd
    exact ⟨Ny j hj,hlj⟩
   cases uf:pu i with
   | true=>
    obtain ⟨c',lJ⟩:=adv (r1++ [i]) (dn:=dn) (r2:=r2) (c:=c) (by simpa using inv) λj hj=>by
     rcases aX.1 hj with h| h;exact v7 j h
     .have:j=i:=by simpa using h
      subst this;exact ⟨uf,hul⟩
    exact again uf lJ (by simp)
   | false=>
    obtain ⟨c',lJ⟩:=adv r1 (dn:=dn) (r2:=i::r2) (c:=c) inv v7;obtain ⟨e1,e2⟩:=same lJ;have go:∀ v w',T (dn++r1++ [i]) r2 (c'.put o.dst v) w'->wpAnyIn (Ei ro) m P .any ops Q fuel (listed.setIfInBounds i true) (a.put o.dst v) w':=λv w' ht=>
     ih _ _ _ (dn++r1++ [i]) r2 _ (next lJ (dn++r1++ [i]) r2 (by have:=inv.eq;simpa using this) (by simp) (λj hj=>by simpa [or_assoc] using hj) (λj hj=>cj _ hj) ht) aat
    unfold wpOpIn;simp only [ho];rcases h3 (dn++r1) i r2 c' w o lJ.t uf ho with ⟨hw,hr⟩| ⟨hw,ht⟩
    .rw [if_pos (by rw [e2];exact hw)];have hr':kO P o a w λv w'=>T (dn++r1++ [i]) r2 (c'.put o.dst v) w':=by
      unfold kO at hr ⊢;rw [e1];exact hr
     exact hr'.wpIn go
    .rw [if_neg (by rw [e2,hw];simp)];exact ⟨λ_ _=>trivial,go undef w ht⟩
end
structure DT (f:(SV->Prop)->Prop):Prop where
 mono:∀ {K K':SV->Prop},(∀ v,K v->K' v)->f K->f K'
 det:∀ {K:SV->Prop},f K->f λv=>K v/\f λv'=>v'=v
namespace DT
variable {f g:(SV->Prop)->Prop}
theorem leaf (v:SV):DT λK=>K v:=⟨by grind,by grind⟩
theorem no:DT λ_=>False:=⟨λ_ h=>h,λh=>h.elim⟩
theorem imp {p:Prop} (h:DT f):DT λK=>p->f K:=⟨λm k hp=>h.mono m (k hp),λk hp=>h.mono (by grind) (h.det (k hp))⟩
theorem and {p:Prop} (h:DT f):DT λK=>p/\f K:=⟨λm k=>⟨k.1,h.mono m k.2⟩,λk=>⟨k.1,h.mono (by grind) (h.det k.2)⟩⟩
theorem ex {α:Type} {f:α->(SV->Prop)->Prop} (h:∀ x,DT (f x)):DT λK=>∃ x,f x K:=⟨λm ⟨x,k⟩=>⟨x,(h x).mono m k⟩,λ⟨x,k⟩=>⟨x,(h x).mono (by grind) ((h x).det k)⟩⟩
theorem ik {c:Bool} (h:DT f) (h':DT g):DT λK=>br c (f K) (g K):=by cases c<;>assumption
theorem ite {p:Prop} [Decidable p] (h:DT f) (h':DT g):DT λK=>if p then f K else g K:=by
 by_cases hp:p
 .simp_all
 simp_all
end DT
section
variable {X:Vx} {P:Program} {b:Bs} {s:Ov}
theorem DT.arith (k:IntKind) (z:Int):DT (arith k z):=by unfold Lm.arith;repeat' (first| exact DT.leaf _| exact DT.no| refine DT.and ?_| refine DT.imp ?_| refine DT.ite ?_ ?_| refine DT.ik ?_ ?_| split)
theorem DT.Qd (op:BinOp) (k:IntKind) (x y:Int):DT (Qd op k x y):=by
 unfold Lm.Qd
 repeat' (first| exact DT.arith _ _| exact DT.leaf _| exact DT.no| refine DT.and ?_| refine DT.imp ?_| refine DT.ite ?_ ?_| refine DT.ik ?_ ?_| split)
theorem DT.Vi (op:BinOp) (x y:ByteArray):DT (Vi op x y):=by unfold Lm.Vi;repeat' (first| exact DT.leaf _| exact DT.no| refine DT.and ?_| refine DT.imp ?_| refine DT.ite ?_ ?_| refine DT.ik ?_ ?_| split)
theorem Ae {t:TypeId} {y:Cl} (h:CT P t=true):GD (P.underlying t) y=false:=by
 grind [CT, GD]
theorem DT.Jx (wr:Bool) (op:BinOp) (k:IntKind) (x y:Int):DT (Jx wr op k x y):=by
 unfold Lm.Jx
 repeat' (first| exact DT.Qd _ _ _ _| exact DT.leaf _| exact DT.no| refine DT.and ?_| refine DT.imp ?_| refine DT.ite ?_ ?_| refine DT.ik ?_ ?_| split)
theorem DT.EE {wr:Bool} {Dv:Bool} {op:BinOp} {t:TypeId} {x y:SV} (h:CT P t=true):DT (EE wr P b s Dv op t x y):=by
 unfold Lm.EE;split
 .split
  .simp [DT.leaf, DT.and, DT.imp]
  .simp [DT.leaf, DT.and, DT.imp]
  .refine DT.ite (DT.Jx _ _ _ _ _) DT.no
 .grind [DT.Vi]
 .repeat' (first| exact DT.leaf _| exact DT.no| refine DT.and ?_| refine DT.imp ?_| refine DT.ite ?_ ?_| refine DT.ik ?_ ?_| split)
 .repeat' (first| exact DT.leaf _| exact DT.no| refine DT.and ?_| refine DT.imp ?_| refine DT.ite ?_ ?_| refine DT.ik ?_ ?_| split)
 .simp only [Ae h,fg,dS,if_false]
  repeat' (first| exact DT.leaf _| exact DT.no| refine DT.and ?_| refine DT.imp ?_| refine DT.ite ?_ ?_| refine DT.ik ?_ ?_| split)
 .exact DT.no
theorem DT.unV {wr:Bool} {op:UnOp} {x:SV}:DT (unV wr op x):=by
 unfold Lm.unV
 repeat' (first| exact DT.Jx _ _ _ _ _| exact DT.arith _ _| exact DT.leaf _| exact DT.no| refine DT.and ?_| refine DT.imp ?_| refine DT.ite ?_ ?_| refine DT.ik ?_ ?_| split)
theorem DT.tf {t:TypeId} {x:Cl}:DT (tf P b s t x):=by
 unfold Lm.tf
 repeat' (first| exact DT.leaf _| (refine DT.ex λ_=>?_)| exact DT.no| refine DT.and ?_| refine DT.imp ?_| refine DT.ite ?_ ?_| refine DT.ik ?_ ?_| split)
theorem DT.Es {t:TypeId} {x:Cl}:DT (Es P b s t x):=by
 unfold Lm.Es
 repeat' (first| exact DT.leaf _| (refine DT.ex λ_=>?_)| exact DT.no| refine DT.and ?_| refine DT.imp ?_| refine DT.ite ?_ ?_| refine DT.ik ?_ ?_| split)
theorem DT.iF {t:TypeId} {x:Cl} {i:Int}:DT (iF P b s t x i):=by
 unfold Lm.iF
 repeat' (first| exact DT.leaf _| exact DT.no| refine DT.and ?_| refine DT.imp ?_| refine DT.ite ?_ ?_| refine DT.ik ?_ ?_| split)
theorem DT.pE {t:TypeId} {x:Cl} {l h:Option Int}:DT (pE P b s t x l h):=by
 unfold Lm.pE SZ Zs
 repeat' (first| exact DT.leaf _| exact DT.no| refine DT.and ?_| refine DT.imp ?_| refine DT.ite ?_ ?_| refine DT.ik ?_ ?_| split)
theorem DT.vW {t:TypeId} {ps:List (Nat×S1)}:DT (vW P t ps):=by
 unfold Lm.vW
 repeat' (first| exact DT.leaf _| exact DT.no| refine DT.and ?_| refine DT.imp ?_| refine DT.ite ?_ ?_| refine DT.ik ?_ ?_| split)
theorem DT.qA {x:Operand} {f:SV->(SV->Prop)->Prop} (h:∀ v,DT (f v)):DT λK=>qA b s x λv=>f v K:=by
 unfold Lm.qA;cases Lm.fm b s x with
 | none=>exact DT.no
 | some v=>grind
theorem DT.nJ {x:Operand} {f:Cl->(SV->Prop)->Prop} (h:∀ v,DT (f v)):DT λK=>nJ b s x λv=>f v K:=by
 unfold Lm.nJ;split
 .grind
 .exact DT.no
theorem DT.wP {x:Option Operand} {f:Option SV->(SV->Prop)->Prop} (h:∀ v,DT (f v)):DT λK=>wP b s x λv=>f v K:=by
 unfold Lm.wP;cases x with
 | none=>grind
 | some x=>simp_all [DT.qA]
end
section
variable {X:Vx} {P:Program} {n:Nat} {W:cX} {F:List Atom} {b:Bs} {E:Env} {g w:World} {s s':Ov} {a:Act} {o:Oper}
structure OM (b:Bs) (s s':Ov) (o:Oper):Prop where
 fm:∀ x∈o.op.operands.toList,fm b s x=fm b s' x
 obj:∀ x∈o.op.operands.toList,∀ v,Lm.fm b s x=some v->∀ l∈v.labels,b.obj s l=b.obj s' l
theorem jH {x:Operand} {k k':SV->Prop} (N:OM b s s' o) (hx:x∈o.op.operands.toList) (hk:∀ v,(∀ l∈v.labels,b.obj s l=b.obj s' l)->k v->k' v) (h:qA b s x k):qA b s' x k':=by
 unfold qA at h ⊢;rw [<-N.fm x hx];cases hv:Lm.fm b s x with
 | none=>grind
 | some v=>rw [hv] at h;exact hk v (N.obj x hx v hv) h
theorem lD {x:Operand} {k k':Cl->Prop} (N:OM b s s' o) (hx:x∈o.op.operands.toList) (hk:∀ v,(∀ l∈v.labels,b.obj s l=b.obj s' l)->k v->k' v) (h:nJ b s x k):nJ b s' x k':=by
 unfold nJ at h ⊢;rw [<-N.fm x hx];cases hv:Lm.fm b s x with
 | none=>grind
 | some v=>
  rw [hv] at h
  match v,hv,h with
  | .v (.c c),hv,h=>exact hk c (λl hl=>N.obj x hx _ hv l hl) h
  | .v (.agg _),_,h=>exact h
  | .cH _,_,h=>exact h
  | .any,_,h=>exact h
  | .arr _ _,_,h=>exact h
theorem GB {x:Option Operand} {k k':Option SV->Prop} (N:OM b s s' o) (hx:∀ y,x=some y->y∈o.op.operands.toList) (hk:∀ v,k v->k' v) (h:wP b s x k):wP b s' x k':=by
 unfold wP at h ⊢;cases x with
 | none=>grind
 | some y=>exact jH N (hx y rfl) (by grind) h
theorem P6 {t:TypeId} {c:Cl} {K:SV->Prop} (N:∀ l∈c.labels,b.obj s l=b.obj s' l):tf P b s t c K=tf P b s' t c K:=by
 unfold tf
 grind [Cl.labels]
theorem V1 {t:TypeId} {c:Cl} {K:SV->Prop} (N:∀ l∈c.labels,b.obj s l=b.obj s' l):Es P b s t c K=Es P b s' t c K:=by
 unfold Es
 grind [Cl.labels]
theorem AI {t:TypeId} {c:Cl} {i:Int} {K:SV->Prop} (N:∀ l∈c.labels,b.obj s l=b.obj s' l):iF P b s t c i K=iF P b s' t c i K:=by
 unfold iF
 repeat' (first| rfl| (rw [N _ (by simp [Cl.labels])])| split)
theorem Me {t:TypeId} {c:Cl} {i j:Option Int} {K:SV->Prop} (N:∀ l∈c.labels,b.obj s l=b.obj s' l):pE P b s t c i j K=pE P b s' t c i j K:=by
 unfold pE
 repeat' (first| rfl| (rw [N _ (by simp [Cl.labels])];done)| split)
theorem Ni {e:Ty} {c:Cl} (N:∀ l∈c.labels,b.obj s l=b.obj s' l):th b s e c=th b s' e c:=by
 unfold th
 repeat' (first| rfl| (rw [N _ (by simp [Cl.labels])];done)| split)
theorem WY {wr:Bool} {Dv:Bool} {op:BinOp} {t:TypeId} {x y:SV} {K:SV->Prop} (h:CT P t=true):EE wr P b s Dv op t x y K=EE wr P b s' Dv op t x y K:=by
 unfold EE;split;rfl;rfl;rfl;rfl;simp only [Ae h,fg,dS,if_false];rfl
theorem Ac:∀ {l:List (Nat×Operand)},(∀ x∈l.map (·.2),Lm.fm b s x=Lm.fm b s' x)->td b s l=td b s' l
 | [],_=>rfl
 | (i,x)::r,h=>by
  unfold td;rw [h x (by simp),Ac (l:=r) λy hy=>h y (by simpa using .inr (by simpa using hy))]
theorem QI {src dst:TypeId} {c:SV} {K:SV->Prop} (hd:(match X.P.underlying dst with| some .string| some (.int _)=>true| _=>false)=true) (N:∀ l∈c.labels,b.obj s l=b.obj s' l):oX X b s src dst c (λv _=>K v)=oX X b s' src dst c λv _=>K v:=by
 unfold oX;split;rfl;rfl;rfl
 .rename_i h1 h2;simp [h2] at hd
 .split
  .rw [Ni N]
  .rfl
 .rename_i h1 h2;simp [h2] at hd
 .rfl
theorem DT.oX {src dst:TypeId} {c:SV}:DT λK=>oX X b s src dst c λv _=>K v:=by
 unfold Lm.oX ajC
 repeat' (first| exact DT.leaf _| exact DT.no| refine DT.and ?_| refine DT.imp ?_| refine DT.ite ?_ ?_| refine DT.ik ?_ ?_| split)
theorem aaP {src dst:TypeId} {c:SV} {K:SV->Ov->Prop} (hd:(match X.P.underlying dst with| some .string| some (.int _)=>true| _=>false)=true):oX X b s src dst c K=oX X b s src dst c λv _=>K v s:=by
 unfold oX;split<;>try rfl
 rename_i h1 h2;simp [h2] at hd
theorem aiX {K:SV->Ov->Prop} (hp:ln X.P o=true):LV X b s o K=LV X b s o λv _=>K v s:=by
 unfold ln at hp;simp only [ak] at hp;obtain ⟨_,hp⟩:=hp;unfold LV;split at hp<;>first| (cases hp;done)| skip
 all_goals rename_i heq
 all_goals simp only [heq]
 all_goals first| rfl| skip
 .unfold qA;split
  .exact aaP hp
  .rfl
 .split at hp
  .rename_i hc;unfold BQ;simp only [hc];rfl
  .cases hp
theorem aed (hp:ln X.P o=true):DT λK=>LV X b s o λv _=>K v:=by
 unfold ln at hp;simp only [ak] at hp;obtain ⟨_,hp⟩:=hp;unfold LV;split at hp<;>first| (cases hp;done)| skip
 all_goals rename_i heq
 all_goals simp only [heq]
 .exact DT.qA λv=>DT.leaf v
 .exact DT.qA λv=>DT.leaf v
 .exact DT.nJ λv=>DT.qA λu=>DT.qA λu'=>by repeat' (first| exact DT.leaf _| exact DT.no| refine DT.and ?_| refine DT.imp ?_| refine DT.ite ?_ ?_| refine DT.ik ?_ ?_| split)
 .exact DT.qA λv=>DT.unV
 .exact DT.qA λv=>by repeat' (first| exact DT.leaf _| exact DT.no| refine DT.and ?_| refine DT.imp ?_| refine DT.ite ?_ ?_| refine DT.ik ?_ ?_| split)
 .exact DT.qA λv=>by repeat' (first| exact DT.leaf _| exact DT.no| refine DT.and ?_| refine DT.imp ?_| refine DT.ite ?_ ?_| refine DT.ik ?_ ?_| split)
 .exact DT.nJ λv=>DT.tf
 .exact DT.nJ λv=>by repeat' (first| exact DT.leaf _| exact DT.no| refine DT.and ?_| refine DT.imp ?_| refine DT.ite ?_ ?_| refine DT.ik ?_ ?_| split)
 .exact DT.nJ λv=>by repeat' (first| exact DT.leaf _| exact DT.no| refine DT.and ?_| refine DT.imp ?_| refine DT.ite ?_ ?_| refine DT.ik ?_ ?_| split)
 .exact DT.nJ λv=>DT.nJ λq=>by
   repeat' (first| exact DT.iF| exact DT.leaf _| exact DT.no| refine DT.and ?_| refine DT.imp ?_| refine DT.ite ?_ ?_| refine DT.ik ?_ ?_| split)
 .exact DT.nJ λv=>DT.nJ λq=>by repeat' (first| exact DT.leaf _| exact DT.no| refine DT.and ?_| refine DT.imp ?_| refine DT.ite ?_ ?_| refine DT.ik ?_ ?_| split)
 .split
  .exact DT.vW
  .exact DT.no
 .exact DT.nJ λv=>DT.wP λl=>DT.wP λh=>by
   repeat' (first| exact DT.pE| exact DT.leaf _| exact DT.no| refine DT.and ?_| refine DT.imp ?_| refine DT.ite ?_ ?_| refine DT.ik ?_ ?_| split)
 .exact DT.qA λv=>DT.qA λu=>DT.EE hp
 .exact DT.qA λv=>DT.oX
 .split at hp
  .rename_i hc;unfold BQ;simp only [hc];split
   .exact DT.no
   .unfold pS;simp only;split
    .exact DT.Es
    .exact DT.no
  .cases hp
end
end Go.Lm

namespace Go.Lm
open Go Go.RowKit
section
variable {X:Vx} {n:Nat} {W:cX} {F:List Atom} {b:Bs} {E:Env} {g w:World} {s s':Ov} {a:Act} {o:Oper}
theorem LU {K:SV->Prop} (hp:ln X.P o=true) (N:OM b s s' o) (h:LV X b s o λv _=>K v):LV X b s' o λv _=>K v:=by
 have Wb:=hp;unfold ln at hp;simp only [ak] at hp;obtain ⟨_,hp⟩:=hp;unfold LV at h ⊢;split at hp<;>first| (cases hp;done)| skip
 all_goals rename_i heq
 all_goals simp only [heq] at h ⊢
 .exact jH N (by simp [heq,Op.operands]) (λv _ h=>h) h
 .exact jH N (by simp [heq,Op.operands]) (λv _ h=>h) h
 .exact lD N (by simp [heq,Op.operands]) (λv _ h=>jH N (by simp [heq,Op.operands]) (λv _ h=>jH N (by simp [heq,Op.operands]) (λv _ h=>h) h) h) h
 .exact jH N (by simp [heq,Op.operands]) (λv _ h=>h) h
 .exact jH N (by simp [heq,Op.operands]) (λv _ h=>h) h
 .exact jH N (by simp [heq,Op.operands]) (λv _ h=>h) h
 .exact lD N (by simp [heq,Op.operands]) (λv hl h=>by rw [<-P6 hl];exact h) h
 .exact lD N (by simp [heq,Op.operands]) (λv _ h=>h) h
 .exact lD N (by simp [heq,Op.operands]) (λv _ h=>h) h
 .refine lD N (by simp [heq,Op.operands]) (λv hl h=>lD N (by simp [heq,Op.operands]) (λq _ h=>?_) h) h;split at h
  rw [<-AI hl];exact h;cases h
 .exact lD N (by simp [heq,Op.operands]) (λv _ h=>lD N (by simp [heq,Op.operands]) (λq _ h=>h) h) h
 .rename_i t ps;rw [<-Ac λx hx=>N.fm x (by simpa [heq,Op.operands] using hx)];exact h
 .refine lD N (by simp [heq,Op.operands]) (λv hl h=>GB N (λy hy=>by simp [heq,Op.operands,hy]) (λl h=>GB N (λy hy=>by simp [heq,Op.operands,hy]) (λm h=>?_) h) h) h;split at h
  rw [<-Me hl];exact h;cases h
 .exact jH N (by simp [heq,Op.operands]) (λv _ h=>jH N (by simp [heq,Op.operands]) (λu _ h=>by rw [<-WY hp];exact h) h) h
 .exact jH N (by simp [heq,Op.operands]) (λv hl h=>by rw [<-QI hp hl];exact h) h
 .rename_i c;split at hp
  .rename_i hc;have ani:∀ x∈c.args.toList,x∈o.op.operands.toList:=λx hx=>by
    rw [heq];have OT:x∈c.args:=by simpa using hx
    simp [Op.operands,Call.operands,OT]
   unfold BQ at h ⊢;simp only [hc] at h ⊢;have anj:∀ (l:List Operand),(∀ x∈l,x∈o.op.operands.toList)->AF b s l=AF b s' l:=by
    intro l
    induction l with
    | nil=>intro _;rfl
    | cons x r ih=>
     intro hl;unfold AF;rw [N.fm x (hl x (by simp)),ih λy hy=>hl y (aF _ hy)]
   have aqb:∀ (l:List Operand) (vs:List SV),(∀ x∈l,x∈o.op.operands.toList)->AF b s l=some vs->∀ v∈vs,∀ k∈v.labels,b.obj s k=b.obj s' k:=by
    intro l
    induction l with
    | nil=>intro vs _ hv v hm;obtain rfl: []=vs:=aj hv;cases hm
    | cons x r ih=>
     intro vs hl hv v hm;unfold AF at hv;split at hv
     .rename_i u hu;split at hv
      .rename_i q hq;obtain rfl:u::q=vs:=aj hv;rcases bz.1 hm with rfl| hm
       .exact N.obj x (hl x (by simp)) v hu
       .exact ih q (λy hy=>hl y (aF _ hy)) hq v hm
      .cases hv
     .cases hv
   rw [<-anj c.args.toList ani];cases hv:AF b s c.args.toList with
   | none=>rw [hv] at h;exact h
   | some vs=>
    rw [hv] at h;simp only at h ⊢;unfold pS at h ⊢;simp only at h ⊢;split at h
    .rename_i x t _;rw [<-V1 λk hk=>aqb c.args.toList _ ani hv (.v (.c x)) (by simp) k hk];exact h
    .exact h
  .cases hp
theorem Vy (S:dm n W F b E g w s a) {src dst:TypeId} {x:Operand} {c:SV} {K:SV->Prop} (ho:o.op= .convert src dst x) (r:df E g c (a.eval x)) (hd:(match X.P.underlying dst with| some .string| some (.int _)=>true| _=>false)=true) (h:oX X b s src dst c λv _=>K v):ER X.P o a w E g K:=by
 have same:∀ {v:Value} {sv:SV},(convert src dst (a.eval x)).run X.P w= .ok v w->df E g sv v->K sv->ER X.P o a w E g K:=λ{v sv} h1 h2 h3=>
  ⟨v,sv,by simp [execOp,ho,h1],h2,h3⟩
 unfold oX at h;split at h
 .rename_i k1 k k' m hs hd;obtain ⟨hx,hm⟩:=iv r;have hr:(convert src dst (a.eval x)).run X.P w= .ok (.int k (k.wrap m)) w:=by
   simp [convert,hx,run_underlying hs,run_underlying hd,Conv.intToInt]
  split at h
  .rename_i hk;obtain rfl:=IntKind.eq_of_beq hk;rw [pR hm] at hr;exact same hr (dL hm) h
  .split at h
   .rename_i hw;have hn:=EM hw hm;rw [pR hn] at hr;exact same hr (dL hn) h
   .exact same hr (dL (eA _ _)) (h (eA _ _))
 .rename_i z hs hd;obtain ⟨hx,hz⟩:=r;refine same (v:=.string z) (sv:=.str z) (by simp [convert,hx,run_underlying hs,run_underlying hd]) ⟨rfl,hz⟩ h
 .rename_i k k1 m hs hd;obtain ⟨hx,_⟩:=iv r;obtain ⟨hl,h⟩:=h;refine same (v:=.string (Utf8.encode m)) (sv:=.str (Utf8.encode m)) ?_ ⟨rfl,hl⟩ h;simp [convert,hx,run_underlying hs,run_underlying hd,Conv.intToString]
 .rename_i h2;simp [h2] at hd
 .rename_i e y hs hd;split at h
  .rename_i he;split at h
   .rename_i l hl;obtain ⟨_,hi⟩:=tZ S r hl;have hr:=Ce (l:=l) hi hs he hd;refine same hr (sv:=.str (gu l)) ⟨rfl,?_⟩ h;have:=lA hi;show (gu l).size<=maxLen;have e2:(gu l).size=l.length:=by simp [gu,ByteArray.size]
    rw [e2];exact this
   .cases h
  .cases h
 .rename_i h1 h2;simp [h2] at hd
 .cases h
theorem Ss {K:SV->Prop} (hp:ln X.P o=true) (S:dm n W F b E g w s a) (h:LV X b s o λv _=>K v):ER X.P o a w E g K:=by
 unfold ln at hp;simp only [ak] at hp;obtain ⟨_,hp⟩:=hp;unfold LV at h;split at hp<;>first| (cases hp;done)| skip
 all_goals rename_i ho
 all_goals simp only [ho] at h
 .obtain ⟨v,hv,h⟩:=fF h;exact ⟨_,_,by simp [execOp,ho],S.fm hv,h⟩
 .obtain ⟨v,hv,h⟩:=fF h;exact ⟨_,_,by simp [execOp,ho],S.fm hv,h⟩
 .rename_i c x y;obtain ⟨q,hq,h⟩:=dO h;obtain ⟨v,hv,h⟩:=fF h;obtain ⟨u,hu,h⟩:=fF h;split at h
  .rename_i z;obtain ⟨hz,_⟩:=S.fm hq;rcases tA h with ⟨e,h⟩| ⟨e,h⟩<;>subst e
   .exact ⟨a.eval x,_,by simp [execOp,ho,hz,asBool],S.fm hv,h⟩
   .exact ⟨a.eval y,_,by simp [execOp,ho,hz,asBool],S.fm hu,h⟩
  .cases h
 .rename_i op t x;obtain ⟨v,hv,h⟩:=fF h;exact ER.of (m:=Op.unary op (a.eval x)) (by simp [execOp,ho]) (SE (S.fm hv) h)
 .obtain ⟨v,hv,h⟩:=fF h;split at h
  .split at h
   .rename_i l _ c hc;obtain ⟨us,h1,h2⟩:=S.fm hv;obtain ⟨u,h3,h4⟩:=h1.get hc;exact ⟨u,.v c,by simp [execOp,ho,h2,Instr.extract,h3],h4,h⟩
   .cases h
  .cases h
 .obtain ⟨v,hv,h⟩:=fF h;split at h
  .split at h
   .rename_i f hf;split at h
    .rename_i r hr;exact Gg ho (S.fm hv) hf hr h
    .cases h
   .cases h
  .cases h
 .rename_i t x;obtain ⟨c,hc,h⟩:=dO h;exact ER.of (m:=Instr.loadAt t (a.eval x)) (by simp [execOp,ho]) (yb S (S.fm hc) h)
 .rename_i x;obtain ⟨c,hc,h⟩:=dO h;have r:=S.fm hc;have key:∀ q:Addr,a.eval x= .pointer (some q)->(execOp a.eval o).run X.P w= .ok (.value (a.eval x)) w:=λq hq=>by simp [execOp,ho,hq]
  split at h
  .obtain ⟨bb,h1,h2⟩:=r;exact ⟨_,_,key _ h2,S.fm hc,h⟩
  .obtain ⟨h0,v,h1,h2⟩:=r;obtain ⟨cs,h3,_⟩:=As h1 h0.1 h0.2.1;obtain ⟨q,hq,_⟩:=h3 g (bt.refl g);rw [hq] at h2;exact ⟨_,_,key _ h2,S.fm hc,h⟩
  .obtain ⟨v,h1,h2,q,hq⟩:=r;exact ⟨_,_,key _ hq,S.fm hc,h⟩
  exact ⟨_,_,key _ r.2.1,S.fm hc,h⟩;cases h
 .obtain ⟨c,hc,h⟩:=dO h;split at h
  .rename_i f hf;split at h
   .rename_i ie mD;obtain ⟨hs,h⟩:=di h;split at h
    .rename_i c' NF;obtain ⟨v,h1,h2⟩:=Gj (w:=w) ho (S.fm hc) hf mD hs NF;exact ⟨v,.c c',h1,h2,h⟩
    .cases h
   .cases h
  .cases h
 .obtain ⟨c,hc,h⟩:=dO h;obtain ⟨q,hq,h⟩:=dO h;split at h
  exact su S ho (S.fm hc) (iv (S.fm hq)).1 h;cases h
 .obtain ⟨c,hc,h⟩:=dO h;obtain ⟨q,hq,h⟩:=dO h;split at h
  .obtain ⟨h0,h1,h⟩:=h;exact Gf ho (by assumption) (S.fm hc).1 (S.fm hq).1 h0 h1 h
  .cases h
 .split at h
  .rename_i l hl;exact Ck ho (tT S hl) h
  .cases h
 .obtain ⟨c,hc,h⟩:=dO h;obtain ⟨l,h,hl⟩:=tU S h;obtain ⟨m,h,hm⟩:=tU S h;split at h
  .rename_i i j r9 Ey;exact Cg S ho (S.fm hc) (hl _ r9) (hm _ Ey) h
  .cases h
 .rename_i op t x y yt;obtain ⟨v,hv,h⟩:=fF h;obtain ⟨u,hu,h⟩:=fF h;exact ER.of (m:=(do eqGuard op t x y (a.eval x) (a.eval y);binOp op t (a.eval x) (a.eval y))) (by simp [execOp,ho]) (Mt S (S.fm hv) (S.fm hu) h)
 .obtain ⟨v,hv,h⟩:=fF h;exact Vy S ho (S.fm hv) hp h
 .rename_i c;split at hp
  .rename_i hc;unfold BQ at h;split at h
   .cases h
   .rename_i args ha;simp only [hc] at h;have hv:=tV S ha;obtain ⟨callee,cargs,ctys⟩:=c;simp only at hc ha hv h;subst hc;unfold pS at h;simp only at h;split at h
    .rename_i x t hts;obtain ⟨u,e,hu⟩:=tS hv;obtain ⟨ox,rfl,rfl⟩:=aod e;obtain rfl:=W6 hts;exact Mn S ho hu h
    .cases h
  .cases hp
end
theorem fA {α:Type}:∀ (l:List α) {k:List α->Prop},jh l k->k l
 | [],_,h=>h
 | _::l,_,h=>fA l h
theorem uh:∀ (l:List Bool) {k:List Bool->Prop},JH l k->k l
 | [],_,h=>h
 | true::l,_,h=>uh l h
 | false::l,_,h=>uh l h
section
variable {ops:Array Oper}
theorem H8:∀ {k:Nat} {l:List Bool} {j:Nat},dZ (Vo k l) j=true->j=k\/dZ l j=true
 | 0,[],0,_=>.inl rfl
 | 0,[],j+1,h=>by simp [Vo,dZ] at h
 | 0,_::r,0,_=>.inl rfl
 | 0,_::r,j+1,h=>.inr h
 | k+1,[],0,h=>by simp [Vo,dZ] at h
 | k+1,[],j+1,h=>by
  rcases H8 (k:=k) (l:=[]) h with e| e;exact .inl (by rw [e]);simp [dZ] at e
 | k+1,a::r,0,h=>.inr h
 | k+1,a::r,j+1,h=>by
  rcases H8 (k:=k) (l:=r) h with e| e;exact .inl (by rw [e]);exact .inr e
theorem Zx:∀ {a b:List Bool} {j:Nat},dZ (orB a b) j=true->dZ a j=true\/dZ b j=true
 | [],_,_,h=>.inr h
 | _::_,[],_,h=>.inl h
 | a::r,b::q,0,h=>by simpa [orB,dZ] using h
 | a::r,b::q,j+1,h=>Zx (a:=r) (b:=q) h
theorem Ij {acc:List (List Bool)} {i:Nat}:∀ {l:List Edge},dZ (VE acc l) i=true->∃ e∈l,Region.binds .any e=true/\(e.on=i\/dZ (kY acc e.on) i=true)
 | [],h=>by simp [VE,dZ] at h
 | e::r,h=>by
  unfold VE at h;split at h
  .rename_i hb;rcases Zx h with h| h
   .rcases H8 h with h| h
    .exact ⟨e,aK ..,hb,.inl h.symm⟩
    .exact ⟨e,aK ..,hb,.inr h⟩
   .obtain ⟨e',h1,h2⟩:=Ij h;exact ⟨e',aF _ h1,h2⟩
  .obtain ⟨e',h1,h2⟩:=Ij h;exact ⟨e',aF _ h1,h2⟩
theorem Jk:∀ {l:List (List Bool)} {i:Nat},kY l i=(l[i]?).getD []
 | [],_=>by simp [kY]
 | _::_,0=>rfl
 | _::r,i+1=>by simp [kY,Jk (l:=r)]
theorem Jl:∀ {l:List Bool} {i:Nat},dZ l i=(l[i]?).getD false
 | [],_=>by simp [dZ]
 | _::_,0=>rfl
 | _::r,i+1=>by simp [dZ,Jl (l:=r)]
theorem MA:∀ {r:List Oper} {acc:List (List Bool)} {k:List (List Bool)->Prop},Y7 r acc k->(∀ j,r[j]?=ops[acc.length+j]?)->(∀ j i,dZ (kY acc j) i=true->tD ops j i)->∃ ms,k ms/\∀ j i,dZ (kY ms j) i=true->tD ops j i
 | [],acc,k,h,_,hw=>⟨acc,h,hw⟩
 | o::r,acc,k,h,hr,hw=>by
  have h1:=fA _ (uh _ h);refine MA h1 (λj=>?_) λj i hj=>?_
  .have:=hr (j+1);simp only [List.getElem?_cons_succ] at this;rw [this,af,ay];congr 1;omega
  .rw [Jk] at hj;by_cases fD:j< acc.length
   .rw [bN fD,<-Jk] at hj;exact hw j i hj
   .by_cases he:j=acc.length
    .subst he;rw [bD (aG _)] at hj;simp only [Nat.sub_self,List.getElem?_cons_zero,Option.getD_some] at hj;obtain ⟨e,h2,h3,h4⟩:=Ij hj;have ho:ops[acc.length]?=some o:=by have:=hr 0;simpa using this.symm
     have key:∀ f,(e.on=i\/reach ops f e.on i=true)->reach ops (f+1) acc.length i=true:=λf hf=>by
      unfold reach;rw [ho];simp only [Array.any_eq_true'];refine ⟨e,by simpa using h2,?_⟩;simp only [ak,lR];exact ⟨h3,hf.imp (λh=>by simpa using h) id⟩
     rcases h4 with h4| h4;exact ⟨1,key 0 (.inl h4)⟩
     .obtain ⟨f,hf⟩:=hw _ _ h4;exact ⟨f+1,key f (.inr hf)⟩
    .rw [hZ (by simp;omega)] at hj;simp [dZ] at hj
theorem DY {pu:List Bool} {ms:List (List Bool)}:∀ {l dn:List Nat},Be pu ms dn l=true->∀ (d:List Nat) (i:Nat) (r:List Nat),d++i::r=l->∀ j,j∈dn\/j∈d->dZ pu j=false->dZ (kY ms i) j=true
 | [],dn,_,d,i,r,he,_,_,_=>by simp at he
 | x::l,dn,h,d,i,r,he,j,hj,hp=>by
  unfold Be at h;simp only [ak] at h;cases d with
  | nil=>
   simp only [hU,List.cons.injEq] at he;obtain ⟨rfl,rfl⟩:=he;rcases hj with hj| hj
   .have:=bn.1 h.1 j hj;rw [hp] at this;simpa using this
   .cases hj
  | cons y d=>
   simp only [dV,List.cons.injEq] at he;obtain ⟨rfl,he⟩:=he;refine DY h.2 d i r he j ?_ hp;rcases hj with hj| hj;exact .inl (aF _ hj)
   .rcases bz.1 hj with rfl| hj
    .exact .inl (aK ..)
    .exact .inr hj
theorem De {k t:Nat} {o:Oper} (ho:ops[k]?=some o):isDst ops k t=true↔o.dst=some t:=by
 unfold isDst aaK;rw [ho];simp only [Option.bind_some];cases hd:o.dst with
 | none=>simp
 | some d=>simp
theorem zT {pu:List Bool} {ms:List (List Bool)} (h:B0 ops pu ms=true) {i k:Nat} {oi ok:Oper} {d:Nat} (hi:ops[i]?=some oi) (hk:ops[k]?=some ok) (hd:ok.dst=some d) (hm:d∈slotsOf ops oi):dZ (kY ms i) k=true\/dZ pu k=false:=by
 have h1:=bn.1 h i (dJ.2 (aN.1 hi).1);simp only [hi] at h1;have h2:=bn.1 (bn.1 h1 d hm) k (dJ.2 (aN.1 hk).1);rw [(De hk).2 hd] at h2;simpa using h2
theorem oN {pu:List Bool} {ms:List (List Bool)}:∀ {l:List Nat},uc ops pu ms l=true->∀ (d:List Nat) (i:Nat) (r:List Nat),d++i::r=l->dZ pu i=true->∀ (o:Oper),ops[i]?=some o->∀ t∈slotsOf ops o,o.dst≠some t/\∀ k∈r,∀ ok,ops[k]?=some ok->(dZ pu k=true\/dZ (kY ms k) i=false)->ok.dst≠some t
 | [],_,d,i,r,he,_,_,_,_,_=>by simp at he
 | x::l,h,d,i,r,he,hp,o,ho,t,ht=>by
  unfold uc at h;simp only [ak] at h;cases d with
  | nil=>
   simp only [hU,List.cons.injEq] at he;obtain ⟨rfl,rfl⟩:=he;have h1:=h.1;rw [hp,ho] at h1;simp only [Bool.not_true,eZ] at h1;have h2:=bn.1 h1 t ht;simp only [ak,dr] at h2;refine ⟨λe=>?_,λk hk ok rT hor e=>?_⟩;rw [(De ho).2 e] at h2;cases h2.1
   .have h3:=bn.1 h2.2 k hk;rw [(De rT).2 e] at h3;rcases hor with hor| hor<;>rw [hor] at h3<;>simp at h3
  | cons y d=>
   simp only [dV,List.cons.injEq] at he;obtain ⟨rfl,he⟩:=he;exact oN h.2 d i r he hp o ho t ht
end
section
variable {X:Vx} {n:Nat} {W:cX} {F:List Atom} {b:Bs} {E:Env} {g w:World} {s s':Ov} {a:Act} {o:Oper} {ops:Array Oper}
structure Eqv (b:Bs) (s s':Ov):Prop where
 slot:∀ t,b.slot s' t=b.slot s t
 h:s'.h=s.h
 n:s'.n=s.n
theorem Eqv.refl:Eqv b s s:=⟨λ_=>rfl,rfl,rfl⟩
theorem Eqv.obj (e:Eqv b s s') (l:Nat):b.obj s' l=b.obj s l:=by unfold Bs.obj;rw [e.h]
theorem dm.eqv (S:dm n W F b E g w s a) (e:Eqv b s s'):dm n W F b E g w s' a:=by
 refine ⟨S.size,S.defers,λt v hv=>S.fr t v (by rw [<-e.slot];exact hv),?_,λl hl=>by rw [e.obj];exact S.top l (by rw [<-e.n];exact hl)⟩;have:b.heap s'=b.heap s:=by
  unfold Bs.heap;rw [e.n];exact jv λl _=>e.obj l
 rw [this];exact S.sat
theorem TH {d:Nat} {v:SV} (h:b.slot s d=some v):Eqv b s (s.put (some d) v):=by
 refine ⟨λt=>?_,rfl,rfl⟩;rw [mr];split
 .rename_i e;subst e;exact h.symm
 .rfl
def oZ (ops:Array Oper) (b:Bs) (s:Ov) (o:Oper) (q:Bool):Prop:=match o.guard with
 | none=>q=true
 | some (j,wt)=>∃ d,(ops[j]?).bind (·.dst)=some d/\((∃ v,b.slot s d=some (.v (.c (.k (.bool v))))/\q=(v==wt))\/((∃ l,b.slot s d=some (.cH l))/\q=false))
theorem Kq {K:Bool->Ov->Prop} (h:EN ops b s o K):∃ q s',oZ ops b s o q/\Eqv b s s'/\K q s':=by
 unfold EN at h;unfold oZ;split at h
 .rename_i hg;exact ⟨true,s,by rw [hg],Eqv.refl,h⟩
 .rename_i j wt hg;split at h
  .cases h
  .rename_i d hd;split at h
   .rename_i v hv;rcases tA h with ⟨e,h⟩| ⟨e,h⟩<;>subst e
    .exact ⟨_,_,by rw [hg];exact ⟨d,hd,.inl ⟨_,hv,rfl⟩⟩,TH hv,h⟩
    .exact ⟨_,_,by rw [hg];exact ⟨d,hd,.inl ⟨_,hv,rfl⟩⟩,TH hv,h⟩
   .rename_i l hv;exact ⟨_,_,by rw [hg];exact ⟨d,hd,.inr ⟨⟨l,hv⟩,rfl⟩⟩,Eqv.refl,h⟩
   .cases h
theorem oZ.sem {q:Bool} (S:dm n W F b E g w s a) (h:oZ ops b s o q):Region.wanted o (yielded ops a.tmps)=q:=by
 unfold oZ at h;split at h
 .rename_i hg;unfold Region.wanted;rw [hg,h]
 .rename_i j wt hg;obtain ⟨d,hd,h⟩:=h;unfold Region.wanted;rw [hg];simp only;unfold yielded;rw [hd];rcases h with ⟨v,hv,e⟩| ⟨⟨l,hv⟩,e⟩
  .obtain ⟨hx,_⟩:=S.fr d _ hv;subst e;have:(a.tmps[d]?).getD undef= .bool v:=by rw [<-j6];exact hx
   cases hq:a.tmps[d]? with
   | none=>rw [hq] at this;simp [undef] at this
   | some y=>rw [hq] at this;simp at this;subst this;cases v<;>cases wt<;>simp [hq]
  .obtain ⟨us,_,hx⟩:=S.fr d _ hv;subst e;have:(a.tmps[d]?).getD undef= .tuple us.toArray:=by rw [<-j6];exact hx
   cases hq:a.tmps[d]? with
   | none=>simp [hq]
   | some y=>rw [hq] at this;simp at this;subst this;simp [hq]
theorem oZ.congr {q:Bool} (hs:∀ t∈slotsOf ops o,b.slot s t=b.slot s' t) (h:oZ ops b s o q):oZ ops b s' o q:=by
 unfold oZ at h ⊢;split at h;exact h
 .rename_i j wt hg;obtain ⟨d,hd,h⟩:=h;have:=hs d (List.mem_append_right _ (by rw [hg];simp [hd]));rw [this] at h;exact ⟨d,hd,h⟩
theorem yS (hs:∀ t∈slotsOf ops o,b.slot s t=b.slot s' t) {x:Operand} (hx:x∈o.op.operands.toList):fm b s x=fm b s' x:=by
 cases x with
 | tmp t=>exact hs t (cj _ (List.mem_filterMap.2 ⟨.tmp t,hx,rfl⟩))
 | const _=>rfl
 | func _=>rfl
 | global _=>rfl
theorem OM.of (hs:∀ t∈slotsOf ops o,b.slot s t=b.slot s' t) (hr:∀ l∈MK b s o,b.obj s l=b.obj s' l):OM b s s' o:=
 ⟨λx hx=>yS hs hx,λx hx v hv l hl=>hr l (List.mem_flatMap.2 ⟨x,hx,by rw [hv];exact hl⟩)⟩
theorem MJ (hs:∀ t∈slotsOf ops o,b.slot s t=b.slot s' t):MK b s o=MK b s' o:=by
 unfold MK;have:∀ l:List Operand,(∀ x∈l,x∈o.op.operands.toList)->l.flatMap (λx=>match fm b s x with
   | some v=>v.labels
   | none=>[])=l.flatMap (λx=>match fm b s' x with
   | some v=>v.labels
   | none=>[]):=by
  intro l
  induction l with
  | nil=>intro _;rfl
  | cons x r ih=>
   intro h;rw [jA,jA,ih λy hy=>h y (aF _ hy),yS hs (h x (by simp))]
 exact this _ λx hx=>hx
theorem qH (hs:∀ t∈slotsOf ops o,b.slot s t=b.slot s' t):ve b s o=ve b s' o:=by
 unfold ve;split;rfl;rfl;exact MJ hs
structure AP (X:Vx) (n:Nat) (ops:Array Oper) (b:Bs) (s:Ov) (o:Oper) (d:Nat) (sv:SV):Prop where
 dst:o.dst=some d
 lt:d< n
 slot:b.slot s d=some sv
 pure:ln X.P o=true
 run:(oZ ops b s o true/\LV X b s o λv _=>v=sv)\/(oZ ops b s o false/\sv= .tO)
theorem AP.jB {d:Nat} {sv:SV} (h:AP X n ops b s o d sv) (hs:∀ t∈slotsOf ops o,b.slot s t=b.slot s' t) (hd:b.slot s' d=b.slot s d) (hr:∀ l∈ve b s o,b.obj s l=b.obj s' l):AP X n ops b s' o d sv:=by
 refine ⟨h.dst,h.lt,by rw [hd];exact h.slot,h.pure,?_⟩;rcases h.run with ⟨h1,h2⟩| ⟨h1,h2⟩
 .refine .inl ⟨h1.congr hs,?_⟩;have mv:∀ {x:Operand},x∈o.op.operands.toList->qA b s x (λv=>v=sv)->qA b s' x (λv=>v=sv):=λ{x} hx q=>by
   unfold qA at q ⊢;rw [<-yS hs hx];exact q
  unfold ve at hr;split at hr
  .rename_i x e;unfold LV at h2 ⊢;rw [e] at h2 ⊢;exact mv (by rw [e];simp [Op.operands]) h2
  .rename_i x e;unfold LV at h2 ⊢;rw [e] at h2 ⊢;exact mv (by rw [e];simp [Op.operands]) h2
  .exact LU h.pure (OM.of hs hr) h2
 .exact .inr ⟨h1.congr hs,h2⟩
theorem AP.again {d:Nat} {sv:SV} (h:AP X n ops b s o d sv) (S:dm n W F b E g w s a):
  ∃ v,(Region.wanted o (yielded ops a.tmps)=true->(execOp a.eval o).run X.P w= .ok (.value v) w)/\(Region.wanted o (yielded ops a.tmps)=false->v=undef)/\dm n W F b E g w s (a.put o.dst v):=by
 have back:∀ {v:Value},df E g sv v->dm n W F b E g w s (a.put o.dst v):=λ{v} r=>by
  have:=S.put (d:=some d) (by simpa using h.lt) r;rw [h.dst];refine this.eqv ⟨λt=>?_,rfl,rfl⟩;rw [mr];split
  .rename_i e;subst e;exact h.slot
  .rfl
 rcases h.run with ⟨h1,h2⟩| ⟨h1,h2⟩
 .obtain ⟨v,OP,r1,r2,rfl⟩:=Ss h.pure S h2;exact ⟨v,λ_=>r1,λq=>absurd q (by rw [h1.sem S];simp),back r2⟩
 .subst h2;exact ⟨undef,λq=>absurd q (by rw [h1.sem S];simp),λ_=>rfl,back jo⟩
theorem GA {K:Ov->Prop} (S:dm n W F b E g w s a) (hp:ln X.P o=true) (am7:∀ t∈slotsOf ops o,o.dst≠some t) (h:Vb X n ops b s o K):
  ∃ d v sv s',dm n W F b E g w s' (a.put o.dst v)/\K s'/\AP X n ops b s' o d sv/\ve b s' o=ve b s o/\(∀ t,o.dst≠some t->b.slot s' t=b.slot s t)/\∀ l,b.obj s' l=b.obj s l:=by
 unfold Vb at h;obtain ⟨hd0,h⟩:=di h;obtain ⟨d,hd⟩:∃ d,o.dst=some d:=by
  unfold ln at hp;simp only [ak] at hp;exact gV.1 hp.1
 have hdn:d< n:=by rw [hd] at hd0;simpa using hd0
 obtain ⟨q,s1,hq,he,h⟩:=Kq h;have S1:=S.eqv he;have jb:∀ t∈slotsOf ops o,d≠t:=λt ht e=>am7 t ht (by rw [hd,e]);have jE:∀ (sv:SV),∀ t,d≠t->b.slot (s1.put (some d) sv) t=b.slot s t:=λsv t ht=>by rw [mr,if_neg ht,he.slot]
 have hs1:∀ (sv:SV),∀ t∈slotsOf ops o,b.slot s1 t=b.slot (s1.put (some d) sv) t:=λsv t ht=>by rw [jE sv t (jb t ht),he.slot]
 have hs0:∀ (sv:SV),∀ t∈slotsOf ops o,b.slot s t=b.slot (s1.put (some d) sv) t:=λsv t ht=>by rw [jE sv t (jb t ht)]
 cases q with
 | true=>
  simp only at h;rw [aiX hp] at h;obtain ⟨v,sv,r1,r2,k,h2⟩:=Ss hp S1 ((aed hp).det h);rw [hd] at k ⊢;refine ⟨d,v,sv,_,S1.put (by simpa using hdn) r2,k,⟨hd,hdn,by rw [mr,if_pos rfl],hp,.inl ⟨hq.congr (hs0 sv),LU hp (OM.of (hs1 sv) λl _=>rfl) h2⟩⟩,(qH (hs0 sv)).symm,λt ht=>jE sv t λe=>ht (by rw [e]),λl=>he.obj l⟩
 | false=>
  simp only at h;rw [hd] at h ⊢;refine ⟨d,undef,.tO,_,S1.put (by simpa using hdn) jo,h,⟨hd,hdn,by rw [mr,if_pos rfl],hp,.inr ⟨hq.congr (hs0 _),rfl⟩⟩,(qH (hs0 _)).symm,λt ht=>jE _ t λe=>ht (by rw [e]),λl=>he.obj l⟩
end
section
variable {X:Vx} {n:Nat} {W:cX} {F:List Atom} {b:Bs} {E:Env} {g w:World} {s s':Ov} {a:Act} {o:Oper} {ops:Array Oper}
theorem ma:∀ {l m:Ay} {t:Nat},gh (l++m) t=match gh l t with
  | some v=>some v
  | none=>gh m t
 | [],_,_=>rfl
 | (k,v)::r,m,t=>by
  simp only [dV,gh];cases Nat.beq k t with
  | true=>rfl
  | false=>exact ma (l:=r)
theorem nU:∀ {l m:List (Nat×HO)} {t:Nat},gK (l++m) t=match gK l t with
  | some v=>some v
  | none=>gK m t
 | [],_,_=>rfl
 | (k,v)::r,m,t=>by
  simp only [dV,gK];cases Nat.beq k t with
  | true=>rfl
  | false=>exact nU (l:=r)
theorem vI:∀ {l:List (Nat×HO)} {t:Nat},t ∉ l.map (·.1)->gK l t=none
 | [],_,_=>rfl
 | (k,v)::r,t,h=>by
  simp only [gK];have h1:¬k=t:=λe=>h (by simp [e]);rw [jk h1];exact vI λq=>h (by simpa using .inr (by simpa using q))
theorem mu:∀ {l:List HO} {k:Nat} {o:HO},l[k]?=some o->lr l k=o
 | [],_,_,h=>by simp at h
 | x::r,0,o,h=>by simpa [lr] using h
 | x::r,k+1,o,h=>mu (l:=r) (by simpa using h)
theorem nT:∀ {l:List HO} {k:Nat},l.length<=k->lr l k= .gone
 | [],_,_=>rfl
 | x::r,0,h=>by simp at h
 | x::r,k+1,h=>nT (l:=r) (by simpa using h)
def Bs.Ka (b:Bs) (s:Ov):Bs:= {f:=s.f++b.f,h:=b.heap s}
theorem HE {s2:Ov} (h:s2.f= []) (t:Nat):(b.Ka s).slot s2 t=b.slot s t:=by
 unfold Bs.slot Bs.Ka;rw [h];exact ma
theorem yU (h:∀ l,s.n<=l->b.obj s l= .gone) (l:Nat):lr (b.heap s) l=b.obj s l:=by
 by_cases hl:l< s.n;exact mu (eN hl);rw [nT (by rw [ef];omega),h l (by omega)]
theorem DV {s2 s3:Ov} (h:∀ l,s.n<=l->b.obj s l= .gone) (h3:s3.h=s2.h++s.h) (l:Nat):(b.Ka s).obj s2 l=b.obj s3 l:=by
 unfold Bs.obj;rw [h3,nU];show (match gK s2.h l with| some o=>o| none=>lr (b.heap s) l)=_
 cases gK s2.h l with
 | some o=>rfl
 | none=>exact yU h l
theorem HF {s2 s3:Ov} (h:∀ l,s.n<=l->b.obj s l= .gone) (h3:s3.h=s2.h++s.h) (hn:s3.n=s2.n):(b.Ka s).heap s2=b.heap s3:=by
 unfold Bs.heap;rw [hn];exact jv λl _=>DV h h3 l
theorem dm.Ka (S:dm n W F b E g w s a):dm n W F (b.Ka s) E g w {f:=[],h:=[],n:=s.n} a:=by
 refine ⟨S.size,S.defers,λt v hv=>S.fr t v (by rw [<-HE (s2:= {f:=[],h:=[],n:=s.n}) rfl];exact hv),?_,λl hl=>?_⟩;rw [HF (s2:= {f:=[],h:=[],n:=s.n}) (s3:=s) S.top rfl rfl];exact S.sat
 .rw [DV (s2:= {f:=[],h:=[],n:=s.n}) (s3:=s) S.top rfl];exact S.top l hl
theorem dm.merged {E':Env} {g' w':World} {s2:Ov} (top:∀ l,s.n<=l->b.obj s l= .gone) (hf:s2.f= []) (S:dm n W F (b.Ka s) E' g' w' s2 a):dm n W F b E' g' w' {f:=s.f,h:=s2.h++s.h,n:=s2.n} a:=by
 refine ⟨S.size,S.defers,λt v hv=>S.fr t v (by rw [HE hf];exact hv),?_,λl hl=>?_⟩;rw [<-HF (s2:=s2) (s3:= {f:=s.f,h:=s2.h++s.h,n:=s2.n}) top rfl rfl];exact S.sat
 .rw [<-DV (s2:=s2) (s3:= {f:=s.f,h:=s2.h++s.h,n:=s2.n}) top rfl];exact S.top l hl
structure aou (b:Bs) (s s':Ov) (d:Option Nat) (ks:List Nat):Prop where
 slot:∀ t,d≠some t->b.slot s' t=b.slot s t
 obj:∀ l,l ∉ ks->b.obj s' l=b.obj s l
theorem F9 {d:Option Nat} {v:SV} {t:Nat} (h:d≠some t):b.slot (s.put d v) t=b.slot s t:=by
 cases d with
 | none=>rfl
 | some d=>rw [mr,if_neg λe=>h (by rw [e])]
theorem S8 {d:Option Nat} {v:SV} {l:Nat}:b.obj (s.put d v) l=b.obj s l:=by cases d<;>rfl
def adb (n:Nat) (W:cX) (F:List Atom) (b:Bs) (E:Env) (g:World) (s:Ov) (d:Option Nat) (K:Ov->List Nat->Prop) (a':Act) (w':World):Prop:=∃ E' g' s' ks,bu E E'/\bt g g'/\dm n W F b E' g' w' s' a'/\K s' ks/\aou b s s' d ks
theorem M8 (jV:js W X.P X.ct) {K:Ov->List Nat->Prop} (S:dm n W F b E g w s a) (h:aef X n ops b s o K):
  (Region.wanted o (yielded ops a.tmps)=true/\kO X.P o a w λv w'=>adb n W F b E g s o.dst K (a.put o.dst v) w')\/(Region.wanted o (yielded ops a.tmps)=false/\adb n W F b E g s o.dst K (a.put o.dst undef) w):=by
 unfold aef at h;obtain ⟨hd,h⟩:=di h;obtain ⟨q,s1,hq,he,h⟩:=Kq h;have S1:=S.eqv he;cases q with
 | true=>
  refine .inl ⟨hq.sem S,?_⟩;have hr:=YG jV S1.Ka h;have key:∀ v w',Out n W F (b.Ka s1) E g a (λv s'=>match s'.f with
    | []=>K (({f:=s1.f,h:=s'.h++s1.h,n:=s'.n}:Ov).put o.dst v) (s'.h.map (·.1))
    | _=>False) v w'->adb n W F b E g s o.dst K (a.put o.dst v) w':=by
   rintro v w' ⟨E',g',s2,sv,h1,h2,S2,r,k⟩;split at k
   .rename_i hf;refine ⟨E',g',_,_,h1,h2,(S2.merged S1.top hf).put hd r,k,λt ht=>?_,λl hl=>?_⟩
    .rw [F9 ht];exact he.slot t
    .rw [S8,<-he.obj];unfold Bs.obj;rw [nU,vI hl]
   .exact k.elim
  rcases hr with ⟨v,w',hr,h⟩| ⟨w',hr,h⟩| ⟨f,args,hr,h⟩;exact .inl ⟨v,w',hr,key v w' h⟩;exact .inr (.inl ⟨w',hr,key undef w' h⟩);exact .inr (.inr ⟨f,args,hr,h.mono key⟩)
 | false=>exact .inr ⟨hq.sem S,E,g,_,_,bu.refl E,bt.refl g,S1.put hd jo,h,λt ht=>by rw [F9 ht,he.slot],λl _=>by rw [S8,he.obj]⟩
def UK (X:Vx) (n:Nat) (W:cX) (F:List Atom) (b:Bs) (E:Env) (g:World) (ops:Array Oper) (ms:List (List Bool)) (pu:List Bool) (ord:List Nat) (K:Ov->Prop) (dn rest:List Nat) (c:Act) (w':World):Prop:=
 dn++rest=ord/\∃ E' g' s lv,bu E E'/\bt g g'/\dm n W F b E' g' w' s c/\BO X n ops b ms pu rest lv s K/\
  (∀ p∈lv,p.1∈dn/\dZ pu p.1=true/\∃ o d sv,ops[p.1]?=some o/\AP X n ops b s o d sv/\ve b s o=p.2)/\
  ∀ i∈dn,dZ pu i=true->(∀ j∈dn,dZ pu j=false->¬tD ops j i)->∃ p∈lv,p.1=i
theorem rm:∀ (l:List (List Nat)) {k:List (List Nat)->Prop},rn l k->k l
 | [],_,h=>h
 | _::l,_,h=>rm l (fA _ h)
theorem rh:∀ {os:List (List Nat)} {i:Nat} {r:List Nat},i::r∈os->i∈vO os
 | [],_,_,h=>by cases h
 | []::os,i,r,h=>by
  rcases bz.1 h with h| h;cases h;exact rh (os:=os) h
 | (x::q)::os,i,r,h=>by
  unfold vO;rcases bz.1 h with h| h
  .injection h with h1 h2;subst h1;split
   .rename_i hm;exact gB.1 hm
   .exact aK ..
  .have:=rh (os:=os) h;split
   .exact this
   .exact aF _ this
theorem qD:∀ {os:List (List Nat)} {i:Nat} {r:List Nat},i::r∈os->r∈sm i os
 | [],_,_,h=>by cases h
 | []::os,i,r,h=>by
  rcases bz.1 h with h| h;cases h;exact qD (os:=os) h
 | (x::q)::os,i,r,h=>by
  unfold sm;rcases bz.1 h with h| h
  .injection h with h1 h2;subst h1 h2;rw [Nat.beq_refl];exact aK ..
  .have:=qD (os:=os) h;split
   .exact aF _ this
   .exact this
theorem DX {p:Nat->Prop}:∀ {l:List Nat} {i:Nat},ak5 l p->i∈l->p i
 | [],_,_,h=>by cases h
 | [x],i,h,hi=>by
  obtain rfl:i=x:=by simpa using hi
  exact h
 | x::y::r,i,⟨h1,h2⟩,hi=>by
  rcases bz.1 hi with rfl| hi;exact h1;exact DX (l:=y::r) h2 hi
theorem aeP {ms:List (List Bool)} {np dn:List Nat} {i:Nat} (h:∀ j∈np,dZ (kY ms i) j=true->j∈dn):VS ms np dn i=true:=bn.2 λj hj=>by
 cases hb:dZ (kY ms i) j with
 | false=>rfl
 | true=>rw [gB.2 (h j hj hb)];rfl
theorem vR {pu:List Bool}:∀ {l:List Nat} {i:Nat},rp pu l i=true->∃ r1 r2,l=r1++i::r2/\∀ j∈r1,dZ pu j=true
 | [],_,h=>by cases h
 | x::r,i,h=>by
  unfold rp at h;rcases Bool.or_eq_true_iff.1 h with h| h;exact ⟨[],r,by rw [ai h];rfl,λ_ hj=>by cases hj⟩
  .obtain ⟨h1,h2⟩:=Bool.and_eq_true_iff.1 h;obtain ⟨r1,r2,e,hp⟩:=vR h2;refine ⟨x::r1,r2,by rw [e];rfl,λj hj=>?_⟩;rcases bz.1 hj with rfl| hj
   .exact h1
   .exact hp j hj
theorem F7:∀ {l r q:List Nat},BV l r=some q->l++q=r
 | [],r,q,h=>(aj h).symm
 | _::_,[],_,h=>by cases h
 | a::l,b::r,q,h=>by
  unfold BV at h;cases hb:Nat.beq a b with
  | false=>rw [hb] at h;cases h
  | true=>
   rw [hb] at h;have h:BV l r=some q:=h;rw [<-F7 h,ai hb];rfl
theorem Dz {pu:List Bool} {ms:List (List Bool)} {np:List Nat} {os:List (List Nat)}:∀ {l d0:List Nat},xr pu ms np os d0 l=true->∀ (d:List Nat) (rest:List Nat),d++rest=l->∀ i∈rest,VS ms np (d0++d) i=true->rp pu rest i=true\/∃ q,(d0++d)++q∈os/\rp pu q i=true
 | [],d0,_,d,rest,e,i,hi,_=>by
  have:=(List.append_eq_nil_iff.1 e).2;rw [this] at hi;cases hi
 | x::l,d0,h,d,rest,e,i,hi,hn=>by
  unfold xr at h;obtain ⟨h1,h2⟩:=Bool.and_eq_true_iff.1 h;cases d with
  | nil=>
   have e:rest=x::l:=e;subst e;rw [bd] at hn ⊢;have h3:=bn.1 h1 i hi;rw [hn] at h3;rcases Bool.or_eq_true_iff.1 h3 with h3| h3;exact .inl h3
   .rw [Bool.not_true,eZ] at h3;obtain ⟨o,ho,h4⟩:=List.any_eq_true.1 h3;split at h4
    .rename_i q hq;exact .inr ⟨q,by rw [F7 hq];exact ho,h4⟩
    .cases h4
  | cons y d=>
   injection e with e1 e2;subst e1;have:=Dz (l:=l) (d0:=d0++ [y]) h2 d rest e2 i hi (by simpa using hn);simpa using this
def UC (X:Vx) (n:Nat) (W:cX) (F:List Atom) (b:Bs) (E:Env) (g:World) (ops:Array Oper) (ms:List (List Bool)) (pu:List Bool) (ords:List (List Nat)) (K:Ov->Prop) (dn rest:List Nat) (c:Act) (w':World):Prop:=
 dn++rest∈ords/\∃ E' g' s lv os,bu E E'/\bt g g'/\dm n W F b E' g' w' s c/\FZ X n ops b ms pu rest.length os lv s K/\(∀ r,dn++r∈ords->r∈os)/\
  (∀ p∈lv,p.1∈dn/\dZ pu p.1=true/\∃ o d sv,ops[p.1]?=some o/\AP X n ops b s o d sv/\ve b s o=p.2)/\
  ∀ i∈dn,dZ pu i=true->(∀ j∈dn,dZ pu j=false->¬tD ops j i)->∃ p∈lv,p.1=i
theorem aej {ro:Option Nat} {m:Nat} (jV:js W X.P X.ct) {K:Ov->Prop} {Q:Exit->Act->World->Prop} {id:Nat} {ms:List (List Bool)} {pu:List Bool} (S:dm n W F b E g w s a) (hm:X.P.follows .mixedOrders=true) (hE:JM ops=true) (hD:QC ops n=true) (hpu:(bL ops.size).map (vD X.P ops)=pu) (hms:∀ j i,dZ (kY ms j) i=true->tD ops j i)
  (h:jh ((bL ops.size).filter λi=> !dZ pu i) λnp=>rn (Kb pu ms np ops.size ops.size []) λos=>if Q2 ops pu ms np os then FZ X n ops b ms pu ops.size os [] s K else False) (k:∀ a' w',Step n W F b E g K a' w'->Q .normal a' w'):(Code.region id ops true).wpIn (Ei ro) m X.P Q a w:=by
 have h:=fA _ h;generalize hnp:(bL ops.size).filter (λi=> !dZ pu i)=np at h;have h:=rm _ h;generalize Kb pu ms np ops.size ops.size []=ords at h;obtain ⟨ho,h⟩:=di h;unfold Q2 at ho;simp only [ak] at ho;obtain ⟨h5,jb,jC⟩:=ho;have jC:=λord hm=>bn.1 jC ord hm;simp only [ak] at jC;have hnd:∀ ord,ord∈ords->ord.Nodup:=λord hm=>jJ.1 (jC ord hm).1;have Ew:∀ ord,ord∈ords->∀ i,i∈ord↔i< ops.size:=λord hm i=>⟨λhi=>by simpa using bn.1 (jC ord hm).2.1 i hi,λhi=>gB.1 (bn.1 (jC ord hm).2.2.1 i (dJ.2 hi))⟩;have h6:∀ ord,ord∈ords->uc ops pu ms ord=true:=λord hm=>(jC ord hm).2.2.2.1;have Qp:∀ ord,ord∈ords->xr pu ms np ords [] ord=true:=λord hm=>(jC ord hm).2.2.2.2;have Ny:∀ (i:Nat) (o:Oper),ops[i]?=some o->dZ pu i=true->ln X.P o=true:=λi o hi hp=>by
  rw [<-hpu,Jl,dq,List.getElem?_range (aN.1 hi).1] at hp;have hp:vD X.P ops i=true:=hp;unfold vD at hp;rw [hi] at hp;simp only [ak] at hp;exact hp.1
 have dne:∀ (i j:Nat) (oi oj:Oper) (d:Nat),ops[i]?=some oi->ops[j]?=some oj->oi.dst=some d->oj.dst=some d->i=j:=by
  have Wo:∀ (i j:Nat) (oi oj:Oper) (d:Nat),j< i->ops[i]?=some oi->ops[j]?=some oj->oi.dst=some d->oj.dst=some d->False:=λi j oi oj d Km hi hj Qo Wi=>by
   have r9:i< ops.size:=(aN.1 hi).1;have h1:=bn.1 hD i (dJ.2 r9);simp only [hi,Option.bind_some,Qo,ak] at h1;have h2:=bn.1 h1.2 j (dJ.2 Km);simp [hj,Wi] at h2
  intro i j oi oj d hi hj Qo Wi;rcases Nat.lt_trichotomy i j with h| h| h;exact (Wo j i oj oi d h hj hi Wi Qo).elim;exact h;exact (Wo i j oi oj d h hi hj Qo Wi).elim
 have stands:∀ {dn rest:List Nat} {i:Nat} {o:Oper} {s1 s2:Ov},dn++i::rest∈ords->ops[i]?=some o->(∀ t,o.dst≠some t->b.slot s2 t=b.slot s1 t)->∀ (p:Nat×List Nat),p.1∈dn->dZ pu p.1=true->(∀ l∈p.2,b.obj s2 l=b.obj s1 l)->(dZ pu i=true\/dZ (kY ms i) p.1=false)->
   (∃ o d sv,ops[p.1]?=some o/\AP X n ops b s1 o d sv/\ve b s1 o=p.2)->∃ o d sv,ops[p.1]?=some o/\AP X n ops b s2 o d sv/\ve b s2 o=p.2:=by
  rintro dn rest i o s1 s2 he hi Eg p hpd hpp eE hor ⟨op,d,sv,q1,q2,q3⟩;obtain ⟨d1,d2,hdd⟩:=List.append_of_mem hpd;have hl:=oN (h6 _ he) d1 p.1 (d2++i::rest) (by rw [hdd];simp) hpp op q1;have hs:∀ t∈slotsOf ops op,b.slot s1 t=b.slot s2 t:=λt ht=>(Eg t ((hl t ht).2 i (by simp) o hi hor)).symm;have jb:p.1≠i:=λe=>by
   have:=hnd _ he;rw [gx] at this;exact this.2.2 p.1 hpd i (by simp) e
  have hdd:b.slot s2 d=b.slot s1 d:=Eg d λe=>jb (dne p.1 i op o d q1 hi q2.dst e);exact ⟨op,d,sv,q1,q2.jB hs hdd (λl hl=>(eE l (by rw [<-q3];exact hl)).symm),by rw [<-qH hs];exact q3⟩
 have h5o:∀ dn rest c w' i,UC X n W F b E g ops ms pu ords K dn rest c w'->dn++rest∈ords->i∈rest->(∀ j,tD ops i j->dZ pu j=false->j∈dn)->∃ r1 r2,dn++(r1++i::r2)∈ords/\UC X n W F b E g ops ms pu ords K dn (r1++i::r2) c w'/\∀ j∈r1,dZ pu j=true:=λdn rest c w' i hT he hir hw=>by
  have apX:VS ms np dn i=true:=aeP λj hj hb=>hw j (hms i j hb) (by
   rw [<-hnp] at hj;simpa using (gk.1 hj).2)
  have len:∀ q,dn++q∈ords->q.length=rest.length:=λq hq=>by
   have p1:=(List.perm_ext_iff_of_nodup (hnd _ he) (hnd _ hq)).2 λx=>(Ew _ he x).trans (Ew _ hq x).symm;have:=p1.length_eq;simp only [af] at this;omega
  rcases Dz (Qp _ he) dn rest rfl i hir (by simpa using apX) with h1| ⟨q,hq,h1⟩
  .obtain ⟨r1,r2,e,hp⟩:=vR h1;subst e;exact ⟨r1,r2,he,hT,hp⟩
  .obtain ⟨r1,r2,e,hp⟩:=vR h1;subst e;have hq:dn++(r1++i::r2)∈ords:=by simpa using hq
   obtain ⟨_,E',g',s1,lv,os,l1,l2,S1,hv,hos,Ql,jC⟩:=hT;rw [<-len _ hq] at hv;exact ⟨r1,r2,hq,⟨hq,E',g',s1,lv,os,l1,l2,S1,hv,hos,Ql,jC⟩,hp⟩
 obtain ⟨ord0,TA⟩:∃ o,o∈ords:=by
  cases ords with
  | nil=>simp at jb
  | cons o _=>exact ⟨o,aK ..⟩
 have hl0:ord0.length=ops.size:=by
  have p1:=(List.perm_ext_iff_of_nodup (hnd _ TA) List.nodup_range).2 λx=>(Ew _ TA x).trans List.mem_range.symm;have:=p1.length_eq
  rwa [List.length_range] at this
 refine wpIn_region_any hm ?_;refine ahm (Ord:=λl=>l∈ords) (pu:=dZ pu) (T:=UC X n W F b E g ops ms pu ords K) hE hD hnd Ew h5o
  (λi k oi ok d hi hk hd hm=>(zT h5 hi hk hd hm).imp (hms i k) λq=>q)
  (λdn rest c w' ⟨_,E',g',s1,lv,_,_,_,S1,_⟩=>⟨S1.size,S1.defers⟩) ?_ ?_ ?_ ?_ ops.size _ a _ [] ord0 a ⟨by simpa using TA,by simp,?_,S.size,S.defers,?_,λt _=>rfl,λi hi=>(by cases hi),?_⟩ ?_
 .rintro dn rest c w' i o ⟨he,E',g',s1,lv,os,l1,l2,S1,hv,hos,Ql,jC⟩ za uf hi Wd;obtain ⟨p,hp,rfl⟩:=jC i za uf Wd;obtain ⟨_,_,op,d,sv,q1,q2,q3⟩:=Ql p hp;rw [hi] at q1;obtain rfl:=aj q1;obtain ⟨v,v1,v2,v3⟩:=q2.again S1;exact ⟨v,v1,v2,he,E',g',s1,lv,os,l1,l2,v3,hv,hos,Ql,jC⟩
 .rintro dn i rest c w' o ⟨he,E',g',s1,lv,os,l1,l2,S1,hv,hos,Ql,jC⟩ uf hi;have hv:=DX (fA _ hv) (rh (hos _ he));simp only [hi,uf] at hv;obtain ⟨d,v,sv,s2,S2,hk,hid,Wa,Eg,eE⟩:=GA S1 (Ny i o hi uf) (λt ht=>(oN (h6 _ he) dn i rest rfl uf o hi t ht).1) hv;have hk:=rm _ hk;refine ⟨v,by simpa using he,E',g',s2,_,_,l1,l2,S2,hk,λr hr=>qD (hos _ (by simpa using hr)),λp hp=>?_,λj hj JC Wd=>?_⟩
  .rcases bz.1 hp with rfl| hp
   .exact ⟨by simp,uf,o,d,sv,hi,hid,Wa⟩
   .obtain ⟨p1,p2,p3⟩:=Ql p hp;exact ⟨cj _ p1,p2,stands he hi Eg p p1 p2 (λl _=>eE l) (.inl uf) p3⟩
  .rcases aX.1 hj with hj| hj
   .obtain ⟨p,hp,e⟩:=jC j hj JC λq hq hpq=>Wd q (cj _ hq) hpq;exact ⟨p,aF _ hp,e⟩
   .have Km:j=i:=by simpa using hj
    exact ⟨_,aK ..,Km.symm⟩
 .rintro dn i rest c w' o ⟨he,E',g',s1,lv,os,l1,l2,S1,hv,hos,Ql,jC⟩ uf hi;have hv:=DX (fA _ hv) (rh (hos _ he));simp only [hi,uf] at hv;have key:∀ a' w'',adb n W F b E' g' s1 o.dst (λs' ks=>jh (lv.filter λp=> !dZ (kY ms i) p.1) λlv=>if lv.all (λp=>p.2.all λl=> !iD l ks) then rn (sm i os) (λos=>FZ X n ops b ms pu rest.length os lv s' K) else False) a' w''->UC X n W F b E g ops ms pu ords K (dn++ [i]) rest a' w'':=by
   rintro a' w'' ⟨E2,g2,s2,ks,m1,m2,S2,hk,hal⟩;have hk:=fA _ hk;obtain ⟨hc,hk⟩:=di hk;have hk:=rm _ hk;refine ⟨by simpa using he,E2,g2,s2,_,_,l1.trans m1,l2.trans m2,S2,hk,λr hr=>qD (hos _ (by simpa using hr)),λp hp=>?_,λj hj JC Wd=>?_⟩
   .have hp':=(gk.1 hp).1;obtain ⟨p1,p2,p3⟩:=Ql p hp';have hw:dZ (kY ms i) p.1=false:=by simpa using (gk.1 hp).2
    refine ⟨cj _ p1,p2,stands he hi hal.slot p p1 p2 (λl hl=>hal.obj l λhlk=>?_) (.inr hw) p3⟩;have:=bn.1 (bn.1 hc p hp) l hl;rw [gB.2 hlk] at this;cases this
   .have Ey:j∈dn:=by
     rcases aX.1 hj with h| h;exact h
     .have:j=i:=by simpa using h
      subst this;rw [uf] at JC;cases JC
    obtain ⟨p,hp,e⟩:=jC j Ey JC λq hq hpq=>Wd q (cj _ hq) hpq;refine ⟨p,gk.2 ⟨hp,?_⟩,e⟩;cases hb:dZ (kY ms i) p.1 with
    | false=>rfl
    | true=>
     exfalso
     rw [e] at hb;exact Wd i (by simp) uf (hms i j hb)
  rcases M8 jV S1 hv with ⟨hw,hr⟩| ⟨hw,hr⟩
  .refine .inl ⟨hw,?_⟩;rcases hr with ⟨v,w2,hr,h⟩| ⟨w2,hr,h⟩| ⟨f,args,hr,h⟩
   .exact .inl ⟨v,w2,hr,key _ w2 h⟩
   .exact .inr (.inl ⟨w2,hr,key _ w2 h⟩)
   .exact .inr (.inr ⟨f,args,hr,h.mono λv w2 h=>key _ w2 h⟩)
  .exact .inr ⟨hw,key _ _ hr⟩
 .rintro dn c w' ⟨he,E',g',s1,lv,os,l1,l2,S1,hv,_⟩;exact k c w' ⟨E',g',s1,l1,l2,S1,hv⟩
 .intro j o hj hl;rw [tQ] at hl;cases hl
 .exact ⟨by simpa using TA,E,g,s,[],ords,bu.refl E,bt.refl g,S.le (Le.drew w),by rw [hl0];exact h,λr hr=>by simpa using hr,λp hp=>(by cases hp),λi hi=>(by cases hi)⟩
 .intro i hl;rw [tQ] at hl;cases hl
 .simp;exact Nat.le_trans (List.length_filter_le _ _) (by simp)
theorem afs {ro:Option Nat} {m:Nat} (jV:js W X.P X.ct) {K:Ov->Prop} {Q:Exit->Act->World->Prop} {id:Nat} (S:dm n W F b E g w s a) (h:wq X n ops true b s K) (k:∀ a' w',Step n W F b E g K a' w'->Q .normal a' w'):(Code.region id ops true).wpIn (Ei ro) m X.P Q a w:=by
 unfold wq at h;rw [if_pos rfl] at h;obtain ⟨h0,h⟩:=di h;simp only [ak] at h0;obtain ⟨⟨hm,hE⟩,hD⟩:=h0;have h:=uh _ h;obtain ⟨ms,h,hms⟩:=MA (ops:=ops) h (λj=>by simp) (λj i h=>by simp [kY,dZ] at h);have h:=fA _ h;generalize hpu:(bL ops.size).map (vD X.P ops)=pu at h;generalize hod:agE pu ms ops.size=ord at h;by_cases ho:Zv ops pu ms ord=true
 case neg=>
  rw [if_neg ho] at h;exact aej jV S hm hE hD hpu hms h k
 rw [if_pos ho] at h;unfold Zv at ho;simp only [ak] at ho;obtain ⟨⟨⟨⟨⟨h1,h2⟩,h3⟩,h4⟩,h5⟩,h6⟩:=ho;have hnd:ord.Nodup:=jJ.1 h1;have Ew:∀ i,i∈ord↔i< ops.size:=λi=>⟨λhi=>by simpa using bn.1 h2 i hi,λhi=>gB.1 (bn.1 h3 i (dJ.2 hi))⟩;have Ny:∀ (i:Nat) (o:Oper),ops[i]?=some o->dZ pu i=true->ln X.P o=true:=λi o hi hp=>by
  rw [<-hpu,Jl,dq,List.getElem?_range (aN.1 hi).1] at hp;have hp:vD X.P ops i=true:=hp;unfold vD at hp;rw [hi] at hp;simp only [ak] at hp;exact hp.1
 have dne:∀ (i j:Nat) (oi oj:Oper) (d:Nat),ops[i]?=some oi->ops[j]?=some oj->oi.dst=some d->oj.dst=some d->i=j:=by
  have Wo:∀ (i j:Nat) (oi oj:Oper) (d:Nat),j< i->ops[i]?=some oi->ops[j]?=some oj->oi.dst=some d->oj.dst=some d->False:=λi j oi oj d Km hi hj Qo Wi=>by
   have r9:i< ops.size:=(aN.1 hi).1;have h1:=bn.1 hD i (dJ.2 r9);simp only [hi,Option.bind_some,Qo,ak] at h1;have h2:=bn.1 h1.2 j (dJ.2 Km);simp [hj,Wi] at h2
  intro i j oi oj d hi hj Qo Wi;rcases Nat.lt_trichotomy i j with h| h| h;exact (Wo j i oj oi d h hj hi Wi Qo).elim;exact h;exact (Wo i j oi oj d h hi hj Qo Wi).elim
 -- what has come early stands while others are done
 have stands:∀ {dn rest:List Nat} {i:Nat} {o:Oper} {s1 s2:Ov},dn++i::rest=ord->ops[i]?=some o->(∀ t,o.dst≠some t->b.slot s2 t=b.slot s1 t)->∀ (p:Nat×List Nat),p.1∈dn->dZ pu p.1=true->(∀ l∈p.2,b.obj s2 l=b.obj s1 l)->(dZ pu i=true\/dZ (kY ms i) p.1=false)->
   (∃ o d sv,ops[p.1]?=some o/\AP X n ops b s1 o d sv/\ve b s1 o=p.2)->∃ o d sv,ops[p.1]?=some o/\AP X n ops b s2 o d sv/\ve b s2 o=p.2:=by
  rintro dn rest i o s1 s2 he hi Eg p hpd hpp eE hor ⟨op,d,sv,q1,q2,q3⟩;obtain ⟨d1,d2,hdd⟩:=List.append_of_mem hpd;have hl:=oN h6 d1 p.1 (d2++i::rest) (by rw [<-he,hdd];simp) hpp op q1;have hs:∀ t∈slotsOf ops op,b.slot s1 t=b.slot s2 t:=λt ht=>(Eg t ((hl t ht).2 i (by simp) o hi hor)).symm;have jb:p.1≠i:=λe=>by
   have:=hnd;rw [<-he,gx] at this;exact this.2.2 p.1 hpd i (by simp) e
  have hdd:b.slot s2 d=b.slot s1 d:=Eg d λe=>jb (dne p.1 i op o d q1 hi q2.dst e);exact ⟨op,d,sv,q1,q2.jB hs hdd (λl hl=>(eE l (by rw [<-q3];exact hl)).symm),by rw [<-qH hs];exact q3⟩
 refine wpIn_region_any hm ?_;have h5o:∀ dn rest c w' i,UK X n W F b E g ops ms pu ord K dn rest c w'->dn++rest=ord->i∈rest->(∀ j,tD ops i j->dZ pu j=false->j∈dn)->∃ r1 r2,dn++(r1++i::r2)=ord/\UK X n W F b E g ops ms pu ord K dn (r1++i::r2) c w'/\∀ j∈r1,dZ pu j=true:=λdn rest c w' i hT he hir hw=>by
  obtain ⟨r1,r2,hr⟩:=List.append_of_mem hir;subst hr;refine ⟨r1,r2,he,hT,λj hj=>?_⟩;cases hp:dZ pu j with
  | true=>rfl
  | false=>
   have h1:=hw j (hms i j (DY h4 (dn++r1) i r2 (by rw [<-he];simp) j (.inr (by simp [hj])) hp)) hp;have:=hnd;rw [<-he,gx] at this;exact (this.2.2 j h1 j (by simp [hj]) rfl).elim
 refine ahm (Ord:=λl=>l=ord) (pu:=dZ pu) (T:=UK X n W F b E g ops ms pu ord K) hE hD (λl e=>by rw [e];exact hnd) (λl e i=>by rw [e];exact Ew i) h5o
  (λi k oi ok d hi hk hd hm=>(zT h5 hi hk hd hm).imp (hms i k) λq=>q)
  (λdn rest c w' ⟨_,E',g',s1,lv,_,_,S1,_⟩=>⟨S1.size,S1.defers⟩) ?_ ?_ ?_ ?_ ops.size _ a _ [] ord a ⟨rfl,by simp,?_,S.size,S.defers,?_,λt _=>rfl,λi hi=>(by cases hi),?_⟩ ?_
 .rintro dn rest c w' i o ⟨he,E',g',s1,lv,l1,l2,S1,hv,Ql,jC⟩ za uf hi Wd;obtain ⟨p,hp,rfl⟩:=jC i za uf Wd;obtain ⟨_,_,op,d,sv,q1,q2,q3⟩:=Ql p hp;rw [hi] at q1;obtain rfl:=aj q1;obtain ⟨v,v1,v2,v3⟩:=q2.again S1;exact ⟨v,v1,v2,he,E',g',s1,lv,l1,l2,v3,hv,Ql,jC⟩
 .rintro dn i rest c w' o ⟨he,E',g',s1,lv,l1,l2,S1,hv,Ql,jC⟩ uf hi;unfold BO at hv;simp only [hi,uf] at hv;obtain ⟨d,v,sv,s2,S2,hk,hid,Wa,Eg,eE⟩:=GA S1 (Ny i o hi uf) (λt ht=>(oN h6 dn i rest he uf o hi t ht).1) hv;refine ⟨v,by rw [<-he];simp,E',g',s2,_,l1,l2,S2,hk,λp hp=>?_,λj hj JC Wd=>?_⟩
  .rcases bz.1 hp with rfl| hp
   .exact ⟨by simp,uf,o,d,sv,hi,hid,Wa⟩
   .obtain ⟨p1,p2,p3⟩:=Ql p hp;exact ⟨cj _ p1,p2,stands he hi Eg p p1 p2 (λl _=>eE l) (.inl uf) p3⟩
  .rcases aX.1 hj with hj| hj
   .obtain ⟨p,hp,e⟩:=jC j hj JC λq hq hpq=>Wd q (cj _ hq) hpq;exact ⟨p,aF _ hp,e⟩
   .have Km:j=i:=by simpa using hj
    exact ⟨_,aK ..,Km.symm⟩
 .rintro dn i rest c w' o ⟨he,E',g',s1,lv,l1,l2,S1,hv,Ql,jC⟩ uf hi;unfold BO at hv;simp only [hi,uf] at hv;have key:∀ a' w'',adb n W F b E' g' s1 o.dst (λs' ks=>jh (lv.filter λp=> !dZ (kY ms i) p.1) λlv=>if lv.all (λp=>p.2.all λl=> !iD l ks) then BO X n ops b ms pu rest lv s' K else False) a' w''->UK X n W F b E g ops ms pu ord K (dn++ [i]) rest a' w'':=by
   rintro a' w'' ⟨E2,g2,s2,ks,m1,m2,S2,hk,hal⟩;have hk:=fA _ hk;obtain ⟨hc,hk⟩:=di hk;refine ⟨by rw [<-he];simp,E2,g2,s2,_,l1.trans m1,l2.trans m2,S2,hk,λp hp=>?_,λj hj JC Wd=>?_⟩
   .have hp':=(gk.1 hp).1;obtain ⟨p1,p2,p3⟩:=Ql p hp';have hw:dZ (kY ms i) p.1=false:=by simpa using (gk.1 hp).2
    refine ⟨cj _ p1,p2,stands he hi hal.slot p p1 p2 (λl hl=>hal.obj l λhlk=>?_) (.inr hw) p3⟩;have:=bn.1 (bn.1 hc p hp) l hl;rw [gB.2 hlk] at this;cases this
   .have Ey:j∈dn:=by
     rcases aX.1 hj with h| h;exact h
     .have:j=i:=by simpa using h
      subst this;rw [uf] at JC;cases JC
    obtain ⟨p,hp,e⟩:=jC j Ey JC λq hq hpq=>Wd q (cj _ hq) hpq;refine ⟨p,gk.2 ⟨hp,?_⟩,e⟩;cases hb:dZ (kY ms i) p.1 with
    | false=>rfl
    | true=>
     exfalso
     rw [e] at hb;exact Wd i (by simp) uf (hms i j hb)
  rcases M8 jV S1 hv with ⟨hw,hr⟩| ⟨hw,hr⟩
  .refine .inl ⟨hw,?_⟩;rcases hr with ⟨v,w2,hr,h⟩| ⟨w2,hr,h⟩| ⟨f,args,hr,h⟩
   .exact .inl ⟨v,w2,hr,key _ w2 h⟩
   .exact .inr (.inl ⟨w2,hr,key _ w2 h⟩)
   .exact .inr (.inr ⟨f,args,hr,h.mono λv w2 h=>key _ w2 h⟩)
  .exact .inr ⟨hw,key _ _ hr⟩
 .rintro dn c w' ⟨he,E',g',s1,lv,l1,l2,S1,hv,_⟩;exact k c w' ⟨E',g',s1,l1,l2,S1,hv⟩
 .intro j o hj hl;rw [tQ] at hl;cases hl
 .exact ⟨rfl,E,g,s,[],bu.refl E,bt.refl g,S.le (Le.drew w),h,λp hp=>(by cases hp),λi hi=>(by cases hi)⟩
 .intro i hl;rw [tQ] at hl;cases hl
 .simp;exact Nat.le_trans (List.length_filter_le _ _) (by simp)
theorem O4 {ro:Option Nat} {m:Nat} (jV:js W X.P X.ct) {K:Ov->Prop} {Q:Exit->Act->World->Prop} {id:Nat} {draw:Bool} (S:dm n W F b E g w s a) (h:wq X n ops draw b s K) (k:∀ a' w',Step n W F b E g K a' w'->Q .normal a' w'):(Code.region id ops draw).wpIn (Ei ro) m X.P Q a w:=by
 cases draw with
 | true=>exact afs jV S h k
 | false=>
  unfold wq at h;exact wpIn_region_lit (HV jV S h k)
end
section
variable {W:cX} {F:List Atom} {E E':Env} {g w:World}
theorem tv {l:Nat} {v:Value} (h:E[l]?=some v):l< E.length:=(aw.1 h).1
mutual
theorem cq.Kl:∀ {c:Cl} {u:Value},cq E g c u->∀ l∈c.labels,l< E.length
 | .k _,_,_,_,h=>by cases h
 | .d _ _,_,_,_,h=>by cases h
 | .de _ _ _ _,_,_,_,h=>by cases h
 | .Ki,_,_,_,h=>by cases h
 | .p _ _,_,⟨_,h1,_⟩,_,h=>by rw [aW.1 h];exact tv h1
 | .o _,_,⟨h1,_⟩,_,h=>by rw [aW.1 h];exact tv h1
 | .os _ _ _ _,_,⟨_,h1,_⟩,_,h=>by rw [aW.1 h];exact tv h1
 | .oe _ _ _ _,_,⟨_,h1,_⟩,_,h=>by rw [aW.1 h];exact tv h1
 | .m _,_,⟨_,h1,_⟩,_,h=>by rw [aW.1 h];exact tv h1
 | .sc _ _ _,_,⟨_,_,h1,_⟩,_,h=>by rw [aW.1 h];exact tv h1
 | .kl _ _,_,⟨⟨_,h1⟩,_⟩,_,h=>by rw [aW.1 h];exact tv h1
 | .fn _ _,_,⟨_,h1,_⟩,l,h=>bp.Kl h1 l h
 | .ue _ _,_,⟨_,h1,_⟩,l,h=>cq.Kl h1 l h
theorem bp.Kl:∀ {cs:List Cl} {us:List Value},bp E g cs us->∀ l∈Cl.nH cs,l< E.length
 | [],_,_,_,h=>by cases h
 | _::_,_,⟨_,_,_,h1,h2⟩,l,h=>by
  rcases aX.1 h with h| h;exact cq.Kl h1 l h;exact bp.Kl h2 l h
end
mutual
theorem cq.jB:∀ {c:Cl} {u:Value},(∀ l∈c.labels,E'[l]?=E[l]?)->cq E g c u->cq E' g c u
 | .k _,_,_,h=>h
 | .d _ _,_,_,h=>h
 | .de _ _ _ _,_,_,h=>h
 | .Ki,_,_,h=>h
 | .p l _,_,k,⟨b,h1,h2⟩=>⟨b,by rw [k l (aW.2 rfl)];exact h1,h2⟩
 | .o l,_,k,⟨h1,h2⟩=>⟨by rw [k l (aW.2 rfl)];exact h1,h2⟩
 | .os l _ _ _,_,k,⟨v,h1,h2⟩=>⟨v,by rw [k l (aW.2 rfl)];exact h1,h2⟩
 | .oe l _ _ _,_,k,⟨v,h1,h2⟩=>⟨v,by rw [k l (aW.2 rfl)];exact h1,h2⟩
 | .m l,_,k,⟨b,h1,h2⟩=>⟨b,by rw [k l (aW.2 rfl)];exact h1,h2⟩
 | .sc l _ _,_,k,⟨b,c,h1,h2⟩=>⟨b,c,by rw [k l (aW.2 rfl)];exact h1,h2⟩
 | .kl l _,_,k,⟨⟨x,h1⟩,h2⟩=>⟨⟨x,by rw [k l (aW.2 rfl)];exact h1⟩,h2⟩
 | .fn _ _,_,k,⟨us,h1,h2⟩=>⟨us,bp.jB k h1,h2⟩
 | .ue _ _,_,k,⟨v,h1,h2⟩=>⟨v,cq.jB k h1,h2⟩
theorem bp.jB:∀ {cs:List Cl} {us:List Value},(∀ l∈Cl.nH cs,E'[l]?=E[l]?)->bp E g cs us->bp E' g cs us
 | [],_,_,h=>h
 | _::_,_,k,⟨u,r,e,h1,h2⟩=>⟨u,r,e,cq.jB (λl hl=>k l (cj _ hl)) h1,bp.jB (λl hl=>k l (List.mem_append_right _ hl)) h2⟩
end
theorem gv.Kl:∀ {x:S1} {u:Value},gv E g x u->∀ l∈x.labels,l< E.length
 | .c _,_,h,l,hl=>cq.Kl h l hl
 | .agg _,_,⟨_,h,_⟩,l,hl=>bp.Kl h l hl
theorem gv.jB:∀ {x:S1} {u:Value},(∀ l∈x.labels,E'[l]?=E[l]?)->gv E g x u->gv E' g x u
 | .c _,_,k,h=>cq.jB k h
 | .agg _,_,k,⟨us,h,e⟩=>⟨us,bp.jB k h,e⟩
theorem iy.Kl:∀ {x:List S1} {us:List Value},iy E g x us->∀ l∈x.flatMap S1.labels,l< E.length
 | [],_,_,_,h=>by cases h
 | _::_,_,⟨_,_,_,h1,h2⟩,l,h=>by
  rw [jA] at h;rcases aX.1 h with h| h;exact h1.Kl l h;exact h2.Kl l h
theorem iy.jB:∀ {x:List S1} {us:List Value},(∀ l∈x.flatMap S1.labels,E'[l]?=E[l]?)->iy E g x us->iy E' g x us
 | [],_,_,h=>h
 | _::_,_,k,⟨u,r,e,h1,h2⟩=>⟨u,r,e,h1.jB λl hl=>k l (by rw [jA];exact cj _ hl),h2.jB λl hl=>k l (by rw [jA];exact List.mem_append_right _ hl)⟩
theorem df.Kl:∀ {x:SV} {u:Value},df E g x u->∀ l∈x.labels,l< E.length
 | .v _,_,h,l,hl=>gv.Kl h l hl
 | .cH _,_,⟨_,h,_⟩,l,hl=>iy.Kl h l hl
 | .any,_,_,_,hl=>by cases hl
 | .arr _ _,_,_,_,hl=>by cases hl
theorem df.jB:∀ {x:SV} {u:Value},(∀ l∈x.labels,E'[l]?=E[l]?)->df E g x u->df E' g x u
 | .v _,_,k,h=>gv.jB k h
 | .cH _,_,k,⟨us,h,e⟩=>⟨us,iy.jB k h,e⟩
 | .any,_,_,_=>trivial
 | .arr _ _,_,_,h=>h
theorem cM.Kl {l:Nat}:∀ {o:HO} {h:Hp},(cM E l o).sat g h->∀ k∈o.labels,k< E.length
 | .cells _ _,_,⟨_,_,_,h2,_⟩,k,hk=>bp.Kl h2 k hk
 | .sl _ _ _,_,_,_,hk=>by cases hk
 | .held _ _ _,_,_,_,hk=>by cases hk
 | .map ..,_,_,_,hk=>by cases hk
 | .abs _,_,_,_,hk=>by cases hk
 | .ab _,_,_,_,hk=>by cases hk
 | .gone,_,_,_,hk=>by cases hk
 | .pQ _ n,_,⟨_,_,_,h2,_⟩,k,hk=>by
  rw [aW.1 hk];exact (aw.1 h2).1
theorem cM.jB {l l':Nat}:∀ {o:HO} {h:Hp},(∀ k∈o.labels,E'[k]?=E[k]?)->E'[l']?=E[l]?->(cM E l o).sat g h->(cM E' l' o).sat g h
 | .cells _ _,_,k,kl,⟨b,us,h1,h2,h3⟩=>⟨b,us,by rw [kl];exact h1,bp.jB k h2,h3⟩
 | .sl _ _ _,_,_,kl,⟨v,h1,h2⟩=>⟨v,by rw [kl];exact h1,h2⟩
 | .held _ _ _,_,_,kl,⟨v,h1,h2⟩=>⟨v,by rw [kl];exact h1,h2⟩
 | .map ..,_,_,kl,⟨b,m,h1,h2⟩=>⟨b,m,by rw [kl];exact h1,h2⟩
 | .abs _,_,_,kl,⟨v,h1,h2⟩=>⟨v,by rw [kl];exact h1,h2⟩
 | .ab _,_,_,kl,⟨v,h1,h2⟩=>⟨v,by rw [kl];exact h1,h2⟩
 | .gone,_,_,_,h=>h
 | .pQ _ n,_,k,kl,⟨v,vn,h1,h2,h3⟩=>⟨v,vn,by rw [kl];exact h1,by rw [k n (aW.2 rfl)];exact h2,h3⟩
end
section
variable {n:Nat} {W:cX} {F:List Atom} {b:Bs} {E E':Env} {g g' w w':World} {s s':Ov} {a a':Act}
theorem jg {p:Nat->Bool}:∀ {l:Ay} {t:Nat},gh (l.filter λq=>p q.1) t=bif p t then gh l t else none
 | [],t=>by cases p t<;>rfl
 | (k,v)::r,t=>by
  rw [List.filter_cons];by_cases e:k=t
  .subst e;cases hp:p k with
   | true=>simp [gh]
   | false=>
    have:=jg (p:=p) (l:=r) (t:=k);rw [hp] at this;simpa using this
  .have ih:=jg (p:=p) (l:=r) (t:=t);split
   .simp only [gh,jk e,cond_false];exact ih
   .simp only [gh,jk e,cond_false];exact ih
theorem Vp {ks:List Nat} (t:Nat):(pU ks b s).slot (uH ks b s) t=b.slot s t:=by
 unfold Bs.slot pU uH;simp only;rw [jg (p:=λk=>iD k ks),jg (p:=λk=> !iD k ks),ma];cases iD t ks with
 | true=>simp only [cond_true,Bool.not_true,cond_false];split<;>rename_i h<;>first| exact h.symm| (rw [h])
 | false=>simp only [cond_false,Bool.not_false,cond_true];rfl
theorem B9 {ks:List Nat} (h:∀ l,s.n<=l->b.obj s l= .gone) {s2 s3:Ov} (h3:s3.h=s2.h++s.h) (l:Nat):(pU ks b s).obj s2 l=b.obj s3 l:=by
 unfold Bs.obj;rw [h3,nU];show (match gK s2.h l with| some o=>o| none=>lr (b.heap s) l)=_
 cases gK s2.h l with
 | some o=>rfl
 | none=>exact yU h l
theorem Gc {ks:List Nat} (h:∀ l,s.n<=l->b.obj s l= .gone) {s2 s3:Ov} (h3:s3.h=s2.h++s.h) (hn:s3.n=s2.n):(pU ks b s).heap s2=b.heap s3:=by
 unfold Bs.heap;rw [hn];exact jv λl _=>B9 h h3 l
theorem dm.aji (S:dm n W F b E g w s a) (ks:List Nat):dm n W F (pU ks b s) E g w (uH ks b s) a:=by
 refine ⟨S.size,S.defers,λt v hv=>S.fr t v (by rw [<-Vp (ks:=ks)];exact hv),?_,λl hl=>?_⟩;rw [Gc (s2:=uH ks b s) (s3:=s) S.top rfl rfl];exact S.sat
 .rw [B9 (s2:=uH ks b s) (s3:=s) S.top rfl];exact S.top l hl
theorem V0 {ks:List Nat} {t:Nat}:gh (ks.map λk=>(k,SV.any)) t=bif iD t ks then some .any else none:=by
 induction ks with
 | nil=>rfl
 | cons k r ih=>
  simp only [cE,gh,iD];by_cases e:k=t;subst e;simp
  .have e':¬t=k:=λq=>e q.symm;rw [jk e,jk e',ih];rfl
theorem dm.out {ks:List Nat} (top:∀ l,s.n<=l->b.obj s l= .gone) (S:dm n W F (pU ks b s) E' g' w' s' a'):dm n W F b E' g' w' (ph ks s s') a':=by
 refine ⟨S.size,S.defers,λt v hv=>?_,?_,λl hl=>?_⟩
 .have hv:(match gh (s'.f++(ks.map (λk=>(k,SV.any))++s.f)) t with
   | some v=>some v
   | none=>gh b.f t)=some v:=hv
  rw [ma,ma,V0] at hv;cases h1:gh s'.f t with
  | some u=>
   rw [h1] at hv;refine S.fr t v ?_;unfold Bs.slot;rw [h1];exact hv
  | none=>
   rw [h1] at hv;cases hm:iD t ks with
   | true=>
    rw [hm] at hv;obtain rfl:SV.any=v:=aj hv;trivial
   | false=>
    rw [hm] at hv;refine S.fr t v ?_;unfold Bs.slot;rw [h1];show gh ((s.f++b.f).filter λp=> !iD p.1 ks) t=some v;rw [jg (p:=λk=> !iD k ks),hm,ma];exact hv
 .rw [<-Gc (s2:=s') (s3:=ph ks s s') top rfl rfl];exact S.sat
 .rw [<-B9 (s2:=s') (s3:=ph ks s s') top rfl];exact S.top l hl
structure Old (n0:Nat) (b1:Bs):Prop where
 slot:∀ t v,gh b1.f t=some v->∀ l∈v.labels,l< n0
 obj:∀ k,∀ l∈(lr b1.h k).labels,l< n0
 len:b1.h.length=n0
theorem dm.xL (S:dm n W F b E g w s a) (ks:List Nat):Old s.n (pU ks b s):=by
 refine ⟨λt v hv l hl=>?_,λk l hl=>?_,ef⟩
 .rw [<-S.len];have hv:gh ((s.f++b.f).filter λp=> !iD p.1 ks) t=some v:=hv;rw [jg (p:=λk=> !iD k ks)] at hv;cases hm:iD t ks with
  | true=>rw [hm] at hv;cases hv
  | false=>
   rw [hm,Bool.not_false,cond_true,ma] at hv;exact (S.fr t v hv).Kl l hl
 .have hl:l∈(lr (b.heap s) k).labels:=hl;rw [yU S.top] at hl;rw [<-S.len];by_cases hk:k< s.n
  .have AK:k< E.length:=by rw [S.len];exact hk
   obtain ⟨h,_,_,_,h1,_,_,_,s1,_⟩:=S.pick (ao AK);exact cM.Kl s1 l hl
  .rw [S.top k (by omega)] at hl;cases hl
theorem uF {F:Fence} {n:Nat} {P:Program} {Q:Exit->Act->World->Prop} {c:Code} {ι:Type} (I:ι->Act->World->Prop) (μ:ι->Nat) (i₀:ι) (h₀:I i₀ a w)
  (round:∀ i a w,I i a w->c.wpIn F n P (Exit.then (λa' w'=>∃ i',I i' a' w'/\μ i'< μ i) Q) a w):(Code.loop c).wpIn F n P Q a w:=by
 intro b kk cs hro hb hr;have key:∀ k i a w,μ i=k->I i a w->
   ∃ e a' w',Q e a' w'/\ArrivesIn (Machine.fenced P F) P (lone (b.atR a (.code c:: .inLoop c::kk)) cs w) b kk cs e a' w':=by
  intro k
  induction k using Nat.strongRecOn with
  | _ k ih=>
   intro i a w hk hi;obtain ⟨e,a₁,w₁,hq,NG⟩:=round i a w hi b (.inLoop c::kk) cs hro hb hr;cases e with
   | normal=>
    obtain ⟨i',hI,fD⟩:=hq;obtain ⟨e₂,a₂,w₂,hq₂,afi⟩:=ih (μ i') (by omega) i' a₁ w₁ rfl hI;exact ⟨e₂,a₂,w₂,hq₂,.of_steps (StepsIn.trans NG (.one (fenced_calm hb hr rfl) stepR_inLoop)) afi⟩
   | exit id=>exact ⟨_,a₁,w₁,hq,.pass (x:=.inLoop c) rfl (λ_ _=>.inl (by simp)) NG⟩
   | goto l=>exact ⟨_,a₁,w₁,hq,.pass (x:=.inLoop c) rfl (λ_ _=>.inl (by simp)) NG⟩
   | ret=>exact ⟨_,a₁,w₁,hq,.pass (x:=.inLoop c) rfl (λ_ _=>.inl (by simp)) NG⟩
   | panic ch=>exact ⟨_,a₁,w₁,hq,.pass (x:=.inLoop c) rfl (λ_ _=>.inl (by simp)) NG⟩
   | outgrown=>exact ⟨_,a₁,w₁,hq,.pass (x:=.inLoop c) rfl (λ_ _=>.inl (by simp)) NG⟩
 obtain ⟨e,a',w',hq,NG⟩:=key _ i₀ a w rfl h₀;exact ⟨e,a',w',hq,.of_steps (.one (fenced_calm hb hr rfl) stepR_loop) NG⟩
end
section
variable {n n0:Nat} {W:cX} {F:List Atom} {b:Bs} {E E2 E3:Env} {g w:World} {s s':Ov} {a:Act}
def Mov:HO->Prop
 | .sl .. | .ab _=>True
 | _=>False
theorem Mov.sat {E2 E3:Env} {g:World} {l i:Nat} {v:Value} {hh:Hp}:∀ {o:HO},Mov o->E2[l]?=some v->E3[i]?=some v->(cM E2 l o).sat g hh->(cM E3 i o).sat g hh
 | .sl ..,_,h1,h2,⟨z,z1,z2⟩=>by
  rw [h1] at z1;obtain rfl:=aj z1;exact ⟨_,h2,z2⟩
 | .ab _,_,h1,h2,⟨z,z1,z2⟩=>by
  rw [h1] at z1;obtain rfl:=aj z1;exact ⟨_,h2,z2⟩
 | .cells ..,h,_,_,_| .held ..,h,_,_,_| .map ..,h,_,_,_| .abs _,h,_,_,_| .gone,h,_,_,_| .pQ ..,h,_,_,_=>h.elim
def aie (E2:Env) (b:Bs) (s':Ov) (q:Option Nat×Value) (o:HO):Prop:=
 (∃ l o',q.1=some l/\E2[l]?=some q.2/\b.obj s' l=o'/\o=o'/\Mov o')\/(q.1=none/\q.2= .slice none 0 0/\∃ t e,o= .sl t e [])
def kQ (E2:Env) (b:Bs) (s':Ov):List (Option Nat×Value)->List HO->Prop
 | [],os=>os= []
 | q::qs,os=>∃ o r,os=o::r/\aie E2 b s' q o/\kQ E2 b s' qs r
theorem kQ.app:∀ {q1 q2:List (Option Nat×Value)} {o1 o2:List HO},kQ E2 b s' q1 o1->kQ E2 b s' q2 o2->kQ E2 b s' (q1++q2) (o1++o2)
 | [],_,_,_,h,k=>by rw [show _= [] from h];exact k
 | _::_,_,_,_,⟨o,r,e,h1,h2⟩,k=>by rw [e];exact ⟨o,_,rfl,h1,h2.app k⟩
theorem kQ.len:∀ {q:List (Option Nat×Value)} {o:List HO},kQ E2 b s' q o->q.length=o.length
 | [],_,h=>by rw [show _= [] from h];rfl
 | _::_,_,⟨o,r,e,_,h⟩=>by rw [e,av,av,h.len]
theorem kQ.get:∀ {q:List (Option Nat×Value)} {o:List HO} {i:Nat} {x:Option Nat×Value} {y:HO},kQ E2 b s' q o->q[i]?=some x->o[i]?=some y->aie E2 b s' x y
 | [],_,_,_,_,_,h,_=>by simp at h
 | _::_,_,0,x,y,⟨o,r,e,h1,_⟩,h,k=>by
  subst e;obtain rfl:_=x:=by simpa using h
  obtain rfl:o=y:=by simpa using k
  exact h1
 | _::_,_,i+1,x,y,⟨o,r,e,_,h2⟩,h,k=>by
  subst e;exact h2.get (i:=i) (by simpa using h) (by simpa using k)
def Kept (n0:Nat) (E2 E3:Env):Prop:=∀ l,l< n0->E3[l]?=E2[l]?
def At (E3:Env) (m:Nat) (qs:List (Option Nat×Value)):Prop:=∀ j q,qs[j]?=some q->E3[m+j]?=some q.2
theorem At.left {m:Nat} {p q:List (Option Nat×Value)} (h:At E3 m (p++q)):At E3 m p:=λj x hx=>h j x (by rw [bN (aw.1 hx).1];exact hx)
theorem At.right {m:Nat} {p q:List (Option Nat×Value)} (h:At E3 m (p++q)):At E3 (m+p.length) q:=λj x hx=>by
 have:=h (p.length+j) x (by rw [bD (by omega)];simpa using hx);rw [show m+p.length+j=m+(p.length+j) by omega];exact this
abbrev Az (qs:List (Option Nat×Value)):List Nat:=qs.filterMap (·.1)
theorem agv (S:dm n W F b E2 g w s' a) (hb:b.h.length=n0):∀ {h:Sh} {c:Cl} {x:h.den} {u:List Nat} {v0:Value},h.rd b s' c=some (x,u)->cq E2 g c v0->
  ∃ qs,Az qs=u/\(∀ m,kQ E2 b s' qs (h.mk x m).2)/\∀ m E3,Kept n0 E2 E3->At E3 m qs->∀ v,cq E2 g c v->cq E3 g (h.mk x m).1 v:=by
 intro h c x u v0 hr r0;cases h with
 | int k=>
  dsimp only [Sh.rd] at hr;split at hr
  .split at hr
   .rename_i hk;obtain rfl:=IntKind.eq_of_beq hk;cases hr;exact ⟨[],rfl,λm=>rfl,λm E3 _ _ v h=>h⟩
   .cases hr
  .cases hr
 | bool=>
  dsimp only [Sh.rd] at hr;split at hr
  .cases hr;exact ⟨[],rfl,λm=>rfl,λm E3 _ _ v h=>h⟩
  .cases hr
 | str=>
  dsimp only [Sh.rd] at hr;split at hr
  .cases hr;exact ⟨[],rfl,λm=>rfl,λm E3 _ _ v h=>h⟩
  .cases hr
 | d e=>
  dsimp only [Sh.rd] at hr;split at hr
  .split at hr
   .rename_i y hy;obtain ⟨q,e1⟩:=eB hy;subst q;cases hr;subst e1;exact ⟨[],rfl,λm=>rfl,λm E3 _ _ v h=>h⟩
   .cases hr
  .cases hr;exact ⟨[],rfl,λm=>rfl,λm E3 _ _ v h=>by
    obtain ⟨rfl,_⟩:=h;exact (@dI e.den e.rep g _ _).2 (.inl ⟨rfl,rfl⟩)⟩
  .split at hr
   .rename_i eE;split at hr
    .rename_i y hy;obtain ⟨q,e1⟩:=eB hy;subst q;cases hr;subst e1;exact ⟨[],rfl,λm=>rfl,λm E3 _ _ v h=>lE S h.1 eE⟩
    .cases hr
   .cases hr
  .cases hr
 | own t e=>
  dsimp only [Sh.rd] at hr;split at hr
  .cases hr;refine ⟨[(none,.slice none 0 0)],rfl,λm=>⟨_,[],rfl,.inr ⟨rfl,rfl,t,e,rfl⟩,rfl⟩,λm E3 _ uN v h=>?_⟩;obtain ⟨rfl,_⟩:=h;exact ⟨by have:=uN 0 _ rfl;simpa using this,none,0,0,rfl⟩
  .rename_i l;split at hr
   .rename_i t' e' xs eE;split at hr
    .rename_i ht;obtain rfl:=ai ht;split at hr
     .rename_i y hy;obtain ⟨q,e1⟩:=eB hy;subst q;cases hr;subst e1;refine ⟨[(some l,v0)],rfl,λm=>⟨_,[],rfl,.inl ⟨l,_,rfl,r0.1,eE,rfl,trivial⟩,rfl⟩,λm E3 _ uN v h=>?_⟩;have:v=v0:=by
       have h1:=h.1;rw [r0.1] at h1;exact (aj h1).symm
      subst this;exact ⟨by have:=uN 0 _ rfl;simpa using this,h.2⟩
     .cases hr
    .cases hr
   .cases hr
  .cases hr
 | p l off=>
  dsimp only [Sh.rd] at hr;split at hr
  .split at hr
   .rename_i hq;simp only [ak] at hq;obtain ⟨⟨h1,h2⟩,h3⟩:=hq;obtain rfl:=ai h1;obtain rfl:=ai h2;cases hr;refine ⟨[],rfl,λm=>rfl,λm E3 hk _ v h=>h.jB λl hl=>?_⟩;rw [aW.1 hl];exact hk _ (by rw [<-hb];simpa using h3)
   .cases hr
  .cases hr
 | m l=>
  dsimp only [Sh.rd] at hr;split at hr
  .split at hr
   .rename_i hq;simp only [ak] at hq;obtain ⟨h1,h3⟩:=hq;obtain rfl:=ai h1;cases hr;refine ⟨[],rfl,λm=>rfl,λm E3 hk _ v h=>h.jB λl hl=>?_⟩;rw [aW.1 hl];exact hk _ (by rw [<-hb];simpa using h3)
   .cases hr
  .cases hr
 | pa t=>
  dsimp only [Sh.rd] at hr;split at hr
  .rename_i l;split at hr
   .rename_i k eE;split at hr
    .rename_i y hy;cases hr;have hk:=Xv.agy hy;obtain ⟨bb,hE,hv⟩:=r0;have Tx:v0=ptr bb 0:=hv;subst Tx;refine ⟨[(some l,ptr bb 0)],rfl,λm=>⟨_,[],rfl,.inl ⟨l,_,rfl,hE,eE,by rw [hk],trivial⟩,rfl⟩,λm E3 _ uN v h=>?_⟩;obtain ⟨b2,h1,h2⟩:=h;rw [hE] at h1;have e:ptr bb 0=ptr b2 0:=aj h1;refine ⟨b2,?_,h2⟩;have:=uN 0 _ rfl;rw [<-e];simpa using this
    .cases hr
   .cases hr
  .cases hr
 | Dv c0=>
  dsimp only [Sh.rd] at hr;split at hr
  .rename_i hq;simp only [ak] at hq;obtain rfl:=Cl.Ia hq.1;cases hr;refine ⟨[],rfl,λm=>rfl,λm E3 hk _ v h=>h.jB λl hl=>?_⟩;have:=bn.1 hq.2 l hl;exact hk _ (by rw [<-hb];simpa using this)
  .cases hr
 | dp e=>
  dsimp only [Sh.rd] at hr;split at hr
  .split at hr
   .rename_i hq;simp only [ak,decide_eq_true_eq] at hq;obtain ⟨rfl,h2⟩:=hq;obtain rfl:=ai h2;split at hr
    .rename_i y hy;obtain ⟨q,e1⟩:=eB hy;subst q;cases hr;subst e1;exact ⟨[],rfl,λm=>rfl,λm E3 _ _ v h=>h⟩
    .cases hr
   .cases hr
  .cases hr
theorem wA {p q:List (Option Nat×Value)}:Az (p++q)=Az p++Az q:=by simp [Az]
theorem YS (S:dm n W F b E2 g w s' a) (hb:b.h.length=n0):∀ {l:List Sh} {cs:List Cl} {x:OI.den l} {u:List Nat} {us0:List Value},OI.rd b s' l cs=some (x,u)->bp E2 g cs us0->
  ∃ qs,Az qs=u/\(∀ m,kQ E2 b s' qs (OI.mk l x m).2)/\∀ m E3,Kept n0 E2 E3->At E3 m qs->∀ us,bp E2 g cs us->bp E3 g (OI.mk l x m).1 us
 | [],[],x,u,us0,hr,r=>by
  cases hr;exact ⟨[],rfl,λm=>rfl,λm E3 _ _ us h=>h⟩
 | h::l,c::cs,x,u,us0,hr,⟨v0,r0,e0,h1,h2⟩=>by
  unfold OI.rd at hr;split at hr
  .rename_i x1 u1 hx;split at hr
   .rename_i y u2 hy;cases hr;obtain ⟨q1,e1,n1,k1⟩:=agv S hb hx h1;obtain ⟨q2,e2,n2,k2⟩:=YS S hb hy h2;refine ⟨q1++q2,by rw [wA,e1,e2],λm=>(n1 m).app (n2 _),λm E3 hk uN us Xn=>?_⟩;obtain ⟨v,r,rfl,g1,g2⟩:=Xn;refine ⟨v,r,rfl,k1 m E3 hk uN.left v g1,k2 _ E3 hk ?_ r g2⟩;rw [<-(n1 m).len];exact uN.right
   .cases hr
  .cases hr
 | [],_::_,_,_,_,hr,_=>by cases hr
 | _::_,[],_,_,_,hr,_=>by cases hr
theorem ajr (S:dm n W F b E2 g w s' a) (hb:b.h.length=n0) {h:OL} {x:h.den} {u:List Nat} {l:Nat} (hl:l< n0) (hs:n0<=s'.n) (hr:h.rd b s' (b.obj s' l)=some (x,u)):
  ∃ qs,Az qs=u/\(∀ m,kQ E2 b s' qs (h.mk x m).2)/\∀ m E3,Kept n0 E2 E3->At E3 m qs->∀ hh,(cM E2 l (b.obj s' l)).sat g hh->(cM E3 l (h.mk x m).1).sat g hh:=by
 have Al:l< E2.length:=by rw [S.len];omega
 obtain ⟨_,_,_,_,hh0,_,_,_,sat0,_⟩:=S.pick (ao Al);cases h with
 | cells t cs=>
  dsimp only [OL.rd] at hr;split at hr
  .rename_i t' c eE;rw [eE] at sat0 ⊢;split at hr
   .rename_i ht;obtain rfl:=ai ht;obtain ⟨b0,us0,_,r0,_⟩:=sat0;obtain ⟨qs,e1,n1,k1⟩:=YS S hb hr r0;exact ⟨qs,e1,n1,λm E3 hk uN hh ⟨b1,us,h1,h2,h3⟩=>⟨b1,us,by rw [hk l hl];exact h1,k1 m E3 hk uN us h2,h3⟩⟩
   .cases hr
  .cases hr
 | sl t e=>
  dsimp only [OL.rd] at hr;split at hr
  .rename_i t' e' xs eE;split at hr
   .rename_i ht;obtain rfl:=ai ht;split at hr
    .rename_i y hy;obtain ⟨q,e1⟩:=eB hy;subst q;cases hr;subst e1;rw [eE];exact ⟨[],rfl,λm=>rfl,λm E3 hk _ hh ⟨v,h1,h2⟩=>⟨v,by rw [hk l hl];exact h1,h2⟩⟩
    .cases hr
   .cases hr
  .cases hr
 | map t k e=>
  dsimp only [OL.rd] at hr;split at hr
  .rename_i t' k' e' xs eE;split at hr
   .rename_i ht;obtain rfl:=ai ht;split at hr
    .rename_i y hy;obtain ⟨p,q,e1⟩:=abP hy;subst p;subst q;cases hr;subst e1;rw [eE];exact ⟨[],rfl,λm=>rfl,λm E3 hk _ hh ⟨bb,mm,h1,h2⟩=>⟨bb,mm,by rw [hk l hl];exact h1,h2⟩⟩
    .cases hr
   .cases hr
  .cases hr
 | ab t=>
  dsimp only [OL.rd] at hr;split at hr
  .rename_i k eE;split at hr
   .rename_i y hy;cases hr;rw [eE,Xv.agy hy];exact ⟨[],rfl,λm=>rfl,λm E3 hk _ hh ⟨v,h1,h2⟩=>⟨v,by rw [hk l hl];exact h1,h2⟩⟩
   .cases hr
  .cases hr
 | abs=>
  dsimp only [OL.rd] at hr;split at hr
  .rename_i a0 eE;cases hr;rw [eE];exact ⟨[],rfl,λm=>rfl,λm E3 hk _ hh ⟨v,h1,h2⟩=>⟨v,by rw [hk l hl];exact h1,h2⟩⟩
  .cases hr
theorem Md (S:dm n W F b E2 g w s' a) (hb:b.h.length=n0):∀ {l:List (Nat×Sh)} {x:sq l} {u:List Nat},AU b s' l=some (x,u)->
  ∃ qs,Az qs=u/\(∀ m,kQ E2 b s' qs (jz l x m).2)/\∀ m E3,Kept n0 E2 E3->At E3 m qs->∀ t v,gh (jz l x m).1 t=some v->df E3 g v (a.tmps.getD t undef)
 | [],x,u,hr=>by
  cases hr;exact ⟨[],rfl,λm=>rfl,λm E3 _ _ t v h=>by cases h⟩
 | p::l,x,u,hr=>by
  unfold AU at hr;split at hr
  .rename_i c hc;split at hr
   .rename_i x1 u1 hx;split at hr
    .rename_i y u2 hy;cases hr;obtain ⟨q1,e1,n1,k1⟩:=agv S hb hx (S.fr _ _ hc);obtain ⟨q2,e2,n2,k2⟩:=Md S hb hy;refine ⟨q1++q2,by rw [wA,e1,e2],λm=>(n1 m).app (n2 _),λm E3 hk uN t v hv=>?_⟩;have hv:(bif Nat.beq p.1 t then some (SV.c (p.2.mk x1 m).1) else gh (jz l y (m+(p.2.mk x1 m).2.length)).1 t)=some v:=hv;by_cases e:p.1=t
     .subst e;have hbq:Nat.beq p.1 p.1=true:=by simp
      rw [hbq] at hv;obtain rfl:=aj hv;exact k1 m E3 hk uN.left _ (S.fr _ _ hc)
     .rw [jk e] at hv;refine k2 _ E3 hk ?_ t v hv;rw [<-(n1 m).len];exact uN.right
    .cases hr
   .cases hr
  .cases hr
theorem S7 (S:dm n W F b E2 g w s' a) (hb:b.h.length=n0) (hs:n0<=s'.n):∀ {l:List (Nat×OL)} {x:wQ l} {u:List Nat},(∀ p∈l,p.1< n0)->Je b s' l=some (x,u)->
  ∃ qs,Az qs=u/\(∀ m,kQ E2 b s' qs (l9 l x m).2)/\(∀ m E3,Kept n0 E2 E3->At E3 m qs->∀ k o,gK (l9 l x m).1 k=some o->∀ hh,(cM E2 k (b.obj s' k)).sat g hh->(cM E3 k o).sat g hh)/\∀ m k,gK (l9 l x m).1 k=none↔k ∉ l.map (·.1)
 | [],x,u,_,hr=>by
  cases hr;exact ⟨[],rfl,λm=>rfl,(λm E3 _ _ t v h=>by cases h),λm k=>by simp [l9,gK]⟩
 | p::l,x,u,hl,hr=>by
  unfold Je at hr;split at hr
  .rename_i x1 u1 hx;split at hr
   .rename_i y u2 hy;cases hr;obtain ⟨q1,e1,n1,k1⟩:=ajr S hb (hl p (by simp)) hs hx;obtain ⟨q2,e2,n2,k2,k3⟩:=S7 S hb hs (λq hq=>hl q (aF _ hq)) hy;have look:∀ m k,gK (l9 (p::l) (x1,y) m).1 k=(bif Nat.beq p.1 k then some (p.2.mk x1 m).1 else gK (l9 l y (m+(p.2.mk x1 m).2.length)).1 k):=λm k=>rfl;refine ⟨q1++q2,by rw [wA,e1,e2],λm=>(n1 m).app (n2 _),λm E3 hk uN k o ho hh sat=>?_,λm k=>?_⟩
    .rw [look] at ho;by_cases e:p.1=k
     .subst e;have hbq:Nat.beq p.1 p.1=true:=by simp
      rw [hbq] at ho;obtain rfl:=aj ho;exact k1 m E3 hk uN.left hh sat
     .rw [jk e] at ho;refine k2 _ E3 hk ?_ k o ho hh sat
      rw [<-(n1 m).len];exact uN.right
    .rw [look];by_cases e:p.1=k
     .subst e;simp
     .have e':¬k=p.1:=λq=>e q.symm;rw [jk e,cond_false,k3];simp [e']
   .cases hr
  .cases hr
theorem bh.ajh {ob:Nat->HO} {X:List Atom} {sel:List (Option Nat)}:∀ {H3:List HO} {k:Nat} {h:Hp},sel.length=H3.length->
  (∀ i l o,sel[i]?=some (some l)->H3[i]?=some o->∀ h,(cM E2 l (ob l)).sat g h->(cM E3 (k+i) o).sat g h)->(∀ i o,sel[i]?=some none->H3[i]?=some o->(cM E3 (k+i) o).sat g λ_=>none)->
  bh g (YW E2 ob (sel.filterMap id)++X) h->bh g (ba E3 k H3++X) h:=by
 induction sel with
 | nil=>
  intro H3 k h hl _ _ s;obtain rfl:=bA hl.symm;exact s
 | cons q sel ih=>
  intro H3 k h hl h1 h2 s;obtain ⟨o,H4,rfl⟩:∃ o H4,H3=o::H4:=by
   cases H3 with
   | nil=>cases hl
   | cons o H4=>exact ⟨o,H4,rfl⟩
  have h1':∀ i l o,sel[i]?=some (some l)->H4[i]?=some o->∀ h,(cM E2 l (ob l)).sat g h->(cM E3 (k+1+i) o).sat g h:=λi l o' a1 a2 hh sat=>by
   have:=h1 (i+1) l o' (by simpa using a1) (by simpa using a2) hh sat
   rw [show k+1+i=k+(i+1) by omega];exact this
  have h2':∀ i o,sel[i]?=some none->H4[i]?=some o->(cM E3 (k+1+i) o).sat g λ_=>none:=λi o' a1 a2=>by
   have:=h2 (i+1) o' (by simpa using a1) (by simpa using a2);rw [show k+1+i=k+(i+1) by omega];exact this
  cases q with
  | none=>exact ⟨λ_=>none,h,λ_=>.inl rfl,by funext b;rfl,h2 0 o rfl rfl,ih (by simpa using hl) h1' h2' s⟩
  | some l=>
   have s:bh g (cM E2 l (ob l)::(YW E2 ob (sel.filterMap id)++X)) h:=s;obtain ⟨p1,p2,ap,e,s1,s2⟩:=s;exact ⟨p1,p2,ap,e,h1 0 l o rfl rfl p1 s1,ih (by simpa using hl) h1' h2' s2⟩
end
section
variable {n n0:Nat} {W:cX} {F:List Atom} {b:Bs} {E E2:Env} {g w:World} {s':Ov} {a:Act}
theorem HM:∀ {l:List HO} {k i:Nat} {o:HO},l[i]?=some o->gK (HN k l) (k+i)=some o
 | [],_,_,_,h=>by simp at h
 | x::r,k,0,o,h=>by
  obtain rfl:x=o:=by simpa using h
  simp [HN,gK]
 | x::r,k,i+1,o,h=>by
  have:=HM (l:=r) (k:=k+1) (i:=i) (by simpa using h);rw [show k+(i+1)=k+1+i by omega];simp only [HN,gK];rw [jk (show ¬k=k+1+i by omega)];exact this
theorem wb:∀ {l:List HO} {k j:Nat},j< k\/k+l.length<=j->gK (HN k l) j=none
 | [],_,_,_=>rfl
 | x::r,k,j,h=>by
  simp only [HN,gK];rw [jk (show ¬k=j by simp at h;omega)];exact wb (by simp at h;omega)
theorem C7:∀ {us:List Nat} {j:Nat},gK (us.map λl=>(l,HO.gone)) j=if j∈us then some .gone else none
 | [],_=>by simp [gK]
 | u::r,j=>by
  simp only [cE,gK];by_cases e:u=j;subst e;simp
  .have e':¬j=u:=λq=>e q.symm;rw [jk e,cond_false,C7];simp [e']
theorem CZ {an:xH} {ks us0:List Nat} {k:an.den->Prop} (S:dm n W F b E2 g w s' a) (he:bu E E2) (hl:E.length=n0) (xL:Old n0 b) (hb:∀ t∈ks,gh b.f t=none) (hv:PZ an ks n0 us0 b s' k):
  ∃ i,k i/\∃ E3,bu E E3/\dm n W F b E3 g w (lO an us0 n0 i) a:=by
 unfold PZ at hv;split at hv
 .rename_i x u y v hx hy;obtain ⟨hm,hv⟩:=di hv;unfold agH at hm;simp only [ak] at hm;obtain ⟨⟨⟨⟨m1,m2⟩,m3⟩,m4⟩,m5⟩:=hm;have hEl:E.length<=E2.length:=by
   rcases eW E2.length E.length with h| h
   .have:=he _ _ (ao h);rw [hZ (aG _)] at this;cases this
   .exact h
  have hs:n0<=s'.n:=by rw [<-S.len,<-hl];exact hEl
  have Am:∀ j∈an.yT.map (·.1),j< n0/\j ∉ us0:=λj hj=>by
   have:=bn.1 m3 j hj;simp only [ak,dr] at this;refine ⟨by simpa using this.1,λh=>?_⟩;rw [gB.2 h] at this;cases this.2
  obtain ⟨q1,e1,n1,k1⟩:=Md S xL.len hx;obtain ⟨q2,e2,n2,k2,k3⟩:=S7 S xL.len hs (λp hp=>(Am p.1 (List.mem_map_of_mem hp)).1) hy;refine ⟨(x,y),hv,?_⟩;generalize hqs:q1++q2=qs;let E3:Env:=E++qs.map (·.2);have kept:Kept n0 E2 E3:=λl h=>by
   have h1:l< E.length:=by omega
   show (E++qs.map (·.2))[l]?=_;rw [bN h1,ao h1];exact (he _ _ (ao h1)).symm
  have uN:At E3 n0 qs:=λj q hq=>by
   show (E++qs.map (·.2))[n0+j]?=_;rw [bD (by omega),dq,show n0+j - E.length=j by omega,hq];rfl
  have uB:kQ E2 b s' qs (oI an n0 (x,y)):=by
   rw [<-hqs];exact (n1 n0).app (n2 _)
  have aqE:At E3 n0 q1:=by rw [<-hqs] at uN;exact uN.left
  have aqD:At E3 (n0+(jz an.jE x n0).2.length) q2:=by
   rw [<-hqs] at uN
   rw [<-(n1 n0).len];exact uN.right
  have eE:∀ j,b.obj (lO an us0 n0 (x,y)) j=match gK (HN n0 (oI an n0 (x,y))) j with
    | some o=>o
    | none=>match gK (l9 an.yT y (n0+(jz an.jE x n0).2.length)).1 j with
     | some o=>o
     | none=>if j∈us0 then .gone else lr b.h j:=λj=>by
   unfold Bs.obj lO;simp only;rw [nU,nU,C7];cases gK (HN n0 (oI an n0 (x,y))) j with
   | some o=>rfl
   | none=>
    cases gK (l9 an.yT y (n0+(jz an.jE x n0).2.length)).1 j with
    | some o=>rfl
    | none=>by_cases h:j∈us0<;>simp [h]
  have hold:∀ j,j< n0->j ∉ us0->j ∉ an.yT.map (·.1)->b.obj s' j=lr b.h j:=λj h1 h2 h3=>by
   unfold Bs.obj;rw [vI];intro hj;obtain ⟨p,hp,e⟩:=bq.1 hj;have:=bn.1 m5 p hp;simp only [lR] at this;rw [e] at this;rcases this with (h| h)| h
   .have:n0<=j:=by simpa using h
    omega
   .exact h3 (gB.1 h)
   .exact h2 (gB.1 h)
  refine ⟨E3,bu.app E _,S.size,S.defers,λt sv ht=>?_,⟨?_,?_⟩,λl Al=>?_⟩
  .-- the frame
   unfold Bs.slot lO at ht;simp only at ht;cases h1:gh (jz an.jE x n0).1 t with
   | some u'=>
    rw [h1] at ht;obtain rfl:=aj ht;exact k1 n0 E3 kept aqE t _ h1
   | none=>
    rw [h1] at ht;have ht:gh b.f t=some sv:=ht;have htk:t ∉ ks:=λh=>by rw [hb t h] at ht;cases ht
    have Eg:b.slot s' t=some sv:=by
     unfold Bs.slot;have:gh s'.f t=none:=by
      cases h2:gh s'.f t with
      | none=>rfl
      | some z=>
       exfalso
       have key:∀ {L:Ay},gh L t=some z->∃ p∈L,p.1=t:=by
        intro L
        induction L with
        | nil=>intro h;cases h
        | cons q L ih=>
         intro h;by_cases e:q.1=t;exact ⟨q,by simp,e⟩
         .obtain ⟨q0,q3⟩:=q;simp only [gh] at h;rw [jk e] at h;obtain ⟨p,hp,e⟩:=ih h;exact ⟨p,aF _ hp,e⟩
       obtain ⟨p,hp,e⟩:=key h2;have:=bn.1 m4 p hp;rw [e] at this;exact htk (gB.1 this)
     rw [this];exact ht
    exact (S.fr t sv Eg).jB λl hlm=>kept l (xL.slot t sv ht l hlm)
  .-- what is owned
   refine S.sat.sl.cJ λh sat=>?_;let sel:List (Option Nat):=(bL n0).map (λl=>if l∈us0 then none else some l)++qs.map (·.1)
   have am8:sel.filterMap id=((bL n0).filter λl=>decide (l ∉ us0))++Az qs:=by
    show List.filterMap id (_++_)=_;rw [List.filterMap_append,List.filterMap_map,List.filterMap_map];congr 1;have key:∀ L:List Nat,L.filterMap (id ∘ λl=>if l∈us0 then none else some l)=L.filter λl=>decide (l ∉ us0):=by
     intro L
     induction L with
     | nil=>rfl
     | cons l L ih=>
      rw [List.filterMap_cons,List.filter_cons,ih];by_cases hm:l∈us0<;>simp [hm]
    exact key _
   have am5:Az qs=u++v:=by rw [<-hqs,wA,e1,e2]
   have hnd:=jJ.1 m1;rw [gx] at hnd;have za:∀ l∈Az qs,l< s'.n:=λl hl=>by
    obtain ⟨q,hq,e⟩:=List.mem_filterMap.1 hl;obtain ⟨j,hj⟩:=List.getElem?_of_mem hq;have hlen:=uB.len;have Ey:j< (oI an n0 (x,y)).length:=by rw [<-hlen];exact (aw.1 hj).1
    rcases uB.get hj (ao Ey) with ⟨l',o',p1,p2,_⟩| ⟨p1,_⟩
    .rw [e] at p1;obtain rfl:=aj p1;exact S.lt p2
    .rw [e] at p1;cases p1
   have hls:(sel.filterMap id).Nodup:=by
    rw [am8,gx];refine ⟨List.nodup_range.filter _,by rw [am5];exact hnd.1,λp hp q hq e=>?_⟩;subst e;obtain ⟨hp1,hp2⟩:=gk.1 hp;rw [am5] at hq;have:=bn.1 m2 p hq;simp only [lR] at this;rcases this with h| h
    .have h1:n0<=p:=by simpa using h
     have h2:=dJ.1 hp1;omega
    .have h1:=gB.1 h;simp [h1] at hp2
   have s1:=bh.qC (ob:=b.obj s') hls (λl hlm=>by
    rw [am8] at hlm;rcases aX.1 hlm with h| h
    .have:=dJ.1 (gk.1 h).1;exact eN (by omega)
    .exact eN (za l h)) sat
   have s2:=bh.YV s1;refine bh.ajh (E2:=E2) (E3:=E3) (sel:=sel) (ob:=b.obj s') (k:=0) ?_ (λi l o hi ho hh xd=>?_) (λi o hi ho=>?_) s2
   .show ((bL n0).map _++qs.map λq:Option Nat×Value=>q.1).length=_;rw [ef];show _=n0+(oI an n0 (x,y)).length;rw [af,bR,bR,List.length_range,uB.len]
   .rw [gC];have aj4:i< (lO an us0 n0 (x,y)).n:=by
     have:=(aw.1 ho).1;rw [ef] at this;exact this
    rw [eN aj4] at ho;obtain rfl:=aj ho;by_cases Ez:i< n0
    .have hi2:((bL n0).map (λl=>if l∈us0 then none else some l))[i]?=some (some l):=by
      rw [bN (by simpa using Ez)] at hi;exact hi
     rw [dq,List.getElem?_range Ez] at hi2;by_cases hu:i∈us0;simp [hu] at hi2
     .simp [hu] at hi2;subst hi2;rw [eE,wb (.inl Ez)];simp only;cases ho2:gK (l9 an.yT y (n0+(jz an.jE x n0).2.length)).1 i with
      | some o=>exact k2 _ E3 kept aqD i o ho2 hh xd
      | none=>
       have hnk:=(k3 _ i).1 ho2;simp only [hu,if_false];rw [hold i Ez hu hnk] at xd
       exact cM.jB (λj hj=>kept j (xL.obj i j hj)) (kept i Ez) xd
    .have Wg:(qs.map λq:Option Nat×Value=>q.1)[i - n0]?=some (some l):=by
      rw [bD (by simp;omega)] at hi;simpa using hi
     rw [dq] at Wg;cases hq:qs[i - n0]? with
     | none=>rw [hq] at Wg;cases Wg
     | some q=>
      rw [hq] at Wg;have hq1:q.1=some l:=by simpa using Wg
      have Ey:i - n0< (oI an n0 (x,y)).length:=by rw [<-uB.len];exact (aw.1 hq).1
      have kZ:=uB.get hq (ao Ey);rw [eE];have hz:=HM (k:=n0) (ao Ey);rw [show n0+(i - n0)=i by omega] at hz;rw [hz];simp only;rcases kZ with ⟨l',o',p1,p2,p3,p4,pm⟩| ⟨p1,_⟩
      .rw [hq1] at p1;obtain rfl:=aj p1;rw [p3] at xd
       rw [p4];have:=uN _ q hq;rw [show n0+(i - n0)=i by omega] at this;exact pm.sat p2 this xd
      .rw [hq1] at p1;cases p1
   .rw [gC];have aj4:i< (lO an us0 n0 (x,y)).n:=by
     have:=(aw.1 ho).1;rw [ef] at this;exact this
    rw [eN aj4] at ho;obtain rfl:=aj ho;by_cases Ez:i< n0
    .have hi2:((bL n0).map (λl=>if l∈us0 then none else some l))[i]?=some none:=by
      rw [bN (by simpa using Ez)] at hi;exact hi
     rw [dq,List.getElem?_range Ez] at hi2;by_cases hu:i∈us0
     .rw [eE,wb (.inl Ez)];simp only;rw [(k3 _ i).2 λh=>(Am i h).2 hu];simp only [hu,if_true];trivial
     .simp [hu] at hi2
    .have Wg:(qs.map λq:Option Nat×Value=>q.1)[i - n0]?=some none:=by
      rw [bD (by simp;omega)] at hi;simpa using hi
     rw [dq] at Wg;cases hq:qs[i - n0]? with
     | none=>rw [hq] at Wg;cases Wg
     | some q=>
      rw [hq] at Wg;have hq1:q.1=none:=by simpa using Wg
      have Ey:i - n0< (oI an n0 (x,y)).length:=by rw [<-uB.len];exact (aw.1 hq).1
      have kZ:=uB.get hq (ao Ey);rw [eE];have hz:=HM (k:=n0) (ao Ey);rw [show n0+(i - n0)=i by omega] at hz;rw [hz];simp only;rcases kZ with ⟨l',o',p1,_⟩| ⟨_,p2,t,e',p4⟩;rw [hq1] at p1;cases p1
      .rw [p4];have:=uN _ q hq;rw [show n0+(i - n0)=i by omega,p2] at this;exact ⟨_,this,[],trivial,by simp,.inl ⟨rfl,rfl⟩⟩
  .rw [ef];show (E++qs.map (·.2)).length=n0+(oI an n0 (x,y)).length;rw [af,bR,hl,uB.len]
  .rw [eE];have Al:n0+(oI an n0 (x,y)).length<=l:=Al;rw [wb (.inr Al)];simp only;rw [(k3 _ l).2 λh=>by have:=(Am l h).1;omega];simp only;split
   .rfl
   .exact nT (by rw [xL.len];omega)
 .exact hv.elim
end
end Go.Lm

